-- Functions of the program and of the document as plain Lean, each with the proof that the code comes to it. Written by a program of this session (wip/tools/myprint.py, pack.py) over the kit's printer; Lean checks it.
import Derived.Test.YtkaoiblgfpphoaaZGainShortPrt0
import Derived.Test.YtkaoiblgfpphoaaZGainShortM1
import Derived.Test.YtkaoiblgfpphoaaZGainShortSh
namespace Go.Proofs.Ytkaoiblgfpphoaa.Prt
open Go.RowKit Go.Proofs.YtkaoiblgfpphoaaW.PrintWords Go.Proofs.YtkaoiblgfpphoaaW.PrintLast Go.Proofs.YtkaoiblgfpphoaaW.PrintMore
attribute [local go_sem] max2_int min2_int max_two min_two max_three min_three max_four min_four   -- for this text's walks alone
set_option linter.unusedVariables false
set_option linter.unusedSimpArgs false


mutual
def gain_Take.j0 : Nat→List Int→Bool→Bool→Int→Int→List Int→Int→Option (Int × Int × List Int × Int × List Int × Int)
 | 0,_,_,_,_,_,_,_=>none
 | k+1,x1,x2,x20,x346000,x346001,x346002,x346003=>if x20=true then ((coder_Take.f k x346000 x346001 x346002 x346003 0 1 1).bind fun bt348=>(some (bt348.1,bt348.2.1,bt348.2.2.1,bt348.2.2.2.1,([] : List Int),1))) else (gain_Take.l0 k x1 x2 ([] : List Int) 0 x346000 x346001 x346002 x346003)
def gain_Take.l0 : Nat→List Int→Bool→List Int→Int→Int→Int→List Int→Int→Option (Int × Int × List Int × Int × List Int × Int)
 | 0,_,_,_,_,_,_,_,_=>none
 | k+1,x1,x2,x9,x27,x346000,x346001,x346002,x346003=>if x27 < 5 then (if x2=true then ((gain_take.f k x346000 x346001 x346002 x346003 0 x2).bind fun bt355=>(if x9.length < 17592186044416 then (gain_Take.l0 k x1 x2 (x9 ++ [bt355.2.2.2.2]) (wrap64 (x27+1)) bt355.1 bt355.2.1 bt355.2.2.1 bt355.2.2.2.1) else (none))) else (if 0≤x27 then (if x27 < (x1.length : Int) then ((gain_take.f k x346000 x346001 x346002 x346003 (rd x1 x27) x2).bind fun bt367=>(if x9.length < 17592186044416 then (gain_Take.l0 k x1 x2 (x9 ++ [bt367.2.2.2.2]) (wrap64 (x27+1)) bt367.1 bt367.2.1 bt367.2.2.1 bt367.2.2.2.1) else (none))) else (none)) else (none))) else (some (x346000,x346001,x346002,x346003,x9,0))
end
def gain_Take.f (k : Nat) (a0_0 : Int) (a0_1 : Int) (l0_2 : List Int) (a0_3 : Int) (l1 : List Int) (a2 : Bool) : Option (Int × Int × List Int × Int × List Int × Int):=if a2=true then (gain_Take.j0 k l1 a2 false a0_0 a0_1 l0_2 a0_3) else ((gain_Right.f k l1).bind fun t347=>(gain_Take.j0 k l1 a2 (!t347) a0_0 a0_1 l0_2 a0_3))
theorem gain_Take.mono_l : ∀ k,(∀ y0 y1 y2 y3 y4 y5 y6,LeO (gain_Take.j0 k y0 y1 y2 y3 y4 y5 y6) (gain_Take.j0 (k+1) y0 y1 y2 y3 y4 y5 y6))∧(∀ y0 y1 y2 y3 y4 y5 y6 y7,LeO (gain_Take.l0 k y0 y1 y2 y3 y4 y5 y6 y7) (gain_Take.l0 (k+1) y0 y1 y2 y3 y4 y5 y6 y7))
 | 0=>⟨fun _ _ _ _ _ _ _ r h=>by simp [gain_Take.j0] at h,fun _ _ _ _ _ _ _ _ r h=>by simp [gain_Take.l0] at h⟩
 | k+1=>by
  obtain ⟨ih0,ih1⟩:=gain_Take.mono_l k
  refine ⟨?_, ?_⟩
  ·
   intro y0 y1 y2 y3 y4 y5 y6
   unfold gain_Take.j0
   repeat' with_reducible first|apply ih0|apply ih1|apply coder_Take.mono|apply gain_Right.mono|apply gain_take.mono|apply yLr|apply yLn|apply yLi|apply yLb|intro _
  ·
   intro y0 y1 y2 y3 y4 y5 y6 y7
   unfold gain_Take.l0
   repeat' with_reducible first|apply ih0|apply ih1|apply coder_Take.mono|apply gain_Right.mono|apply gain_take.mono|apply yLr|apply yLn|apply yLi|apply yLb|intro _
theorem gain_Take.mono : ∀ a0 a1 a2 a3 a4 a5 k,LeO (gain_Take.f k a0 a1 a2 a3 a4 a5) (gain_Take.f (k+1) a0 a1 a2 a3 a4 a5):=by
 intro a0 a1 a2 a3 a4 a5 k
 obtain ⟨ih0,ih1⟩:=gain_Take.mono_l k
 unfold gain_Take.f
 repeat' with_reducible first|apply ih0|apply ih1|apply coder_Take.mono|apply gain_Right.mono|apply gain_take.mono|apply yLr|apply yLn|apply yLi|apply yLb|intro _
set_option maxHeartbeats 8000000 in
set_option maxRecDepth 100000 in
theorem gain_Take.calls (k : Nat) (a0_0 : Int) (a0_1 : Int) (P0_2_ : Nat→Prop) (A0_2 : Option Addr) (c0_2 : Nat) (l0_2 : List Int) (a0_3 : Int) (A1 : Option Addr) (c1 : Nat) (l1 : List Int) (a2 : Bool) (r1 : Int) (r2 : Int) (r3 : List Int) (r4 : Int) (r5 : List Int) (r6 : Int) (w : World) (hs0_2 : Kd.V (Kd.int .u8) 5 w w.heap.size (fun k_=>P0_2_ k_) (.slice A0_2 l0_2.length c0_2) l0_2) (hr1 : Kd.C (Kd.int .i64) w A1 l1.length l1) (hc1 : l1.length≤c1) (h : gain_Take.f k a0_0 a0_1 l0_2 a0_3 l1 a2=some (r1,r2,r3,r4,r5,r6)) :
  Calls Try.prog 47 #[.agg #[.int .u64 a0_0, .int .u32 a0_1, .slice A0_2 l0_2.length c0_2, .int .i64 a0_3], .slice A1 l1.length c1, .bool a2] w fun e w' => ∃ v2_ v4_ : Value,e=.returned (.tuple #[.agg #[.int .u64 r1, .int .u32 r2,v2_, .int .i64 r4],v4_, .int .i64 r6])∧Kd.V (Kd.int .u8) 5 w' w.heap.size (fun k_=>(P0_2_ k_∨w.heap.size≤k_)∧some k_≠(v4_ : Value).ownBlock) v2_ r3∧Kd.R (Kd.int .i64) 3 w' w.heap.size (fun k_=>(w.heap.size≤k_)) v4_ r5∧Below w.heap.size w w' := by
 have hu43:=Try.underlying43
 have HO0_2:=zm (show Kd.V (Kd.int .u8) 5 w w.heap.size (fun k_=>(P0_2_ k_∨w.heap.size≤k_)) (.slice A0_2 l0_2.length c0_2) l0_2 from zy hs0_2 (fun k_ hk => .inl hk))
 have HR1:=zm hr1;have HC1:=zm hc1;clear hr1 hc1;have HB:=zm (Below.refl w.heap.size w)
 have H : (if a2=true then (gain_Take.j0 k l1 a2 false a0_0 a0_1 l0_2 a0_3) else ((gain_Right.f k l1).bind fun t347=>(gain_Take.j0 k l1 a2 (!t347) a0_0 a0_1 l0_2 a0_3)))=some (r1,r2,r3,r4,r5,r6):=h
 clear h;have HC4:=zm H;clear H
 go_enter Try.func47,Try.ntmps47
 go_upto_region 1 with (first|((with_reducible refine gate_dst (N:=3) rfl ?_);refine ybx 3 #[.int .u64 a0_0, .int .u32 a0_1, .slice A0_2 l0_2.length c0_2, .int .i64 a0_3] 43 ?_;intro gb345 hg w5 hbox hb;replace HO0_2:=yVe HO0_2 hg hb;have BK345:=zm (hbox);have GW345:=ygw hg;have GE345:=ygw hg;replace HB:=ybs hb;clear hb hbox hg)|((with_reducible refine gate_dst (N:=6) rfl ?_);refine ybx 6 #[.int .u64 0, .int .u32 0, .slice none 0 0, .int .i64 0] 43 ?_;intro gb346 hg w6 hbox hb;replace HO0_2:=yVe HO0_2 hg hb;have BK346:=zm (hbox);have GW346:=ygw hg;have GE346:=ygw hg;replace HB:=ybs hb;have NB345_346:=ynl BK345 hg;have NB346_345:=yng BK345 hg;replace BK345:=ybb BK345 hb;clear hb hbox hg))
 (try simp only [Act.put,List.setIfInBounds_toArray,List.set_cons_zero,List.set_cons_succ])
 go_cut [20] (fun v20 wc => ∃ (kq : Nat) (x20_3 : Bool),v20=.bool x20_3∧Aside0 (gain_Take.j0 kq l1 a2 x20_3 a0_0 a0_1 l0_2 a0_3=some (r1,r2,r3,r4,r5,r6))∧Aside0 (kq≤k)∧Aside0 (Kd.V (Kd.int .u8) 5 wc w.heap.size (fun k_=>(P0_2_ k_∨w.heap.size≤k_)∧k_≠gb345∧k_≠gb346) (.slice A0_2 l0_2.length c0_2) l0_2)∧Aside0 (wc.heap[gb345]? = some (.cells #[.int .u64 a0_0, .int .u32 a0_1,(.slice A0_2 l0_2.length c0_2), .int .i64 a0_3] 43 (0,0)))∧Aside0 (wc.heap[gb346]? = some (.cells #[.int .u64 0, .int .u32 0,(.slice none 0 0), .int .i64 0] 43 (0,0)))∧Aside0 (Below w.heap.size w wc))
 case first =>
  have H:=HC4.out;clear HC4
  by_cases c7 : a2=true
  ·
   subst c7
   rw [if_pos rfl] at H
   have H' := zm H
   clear H
   go_wp2
   go_meet
   case rel=>exact ⟨_,(false),yq,H',⟨yo⟩,⟨yV0 HO0_2⟩,⟨yk BK345⟩,⟨yk BK346⟩,⟨yhb⟩⟩
  ·
   replace c7:=Bool.eq_false_iff.mpr c7
   subst c7
   rw [ynf] at H
   replace H:=ybi H;obtain ⟨t347,A8,H⟩:=H
   have H' := zm H
   clear H
   go_wp2_with (first|(go_at_call 45;(with_reducible refine (gain_Right.calls k _ _ l1 t347 _ ?side1 HC1.out A8.out).mono ?_);(case side1=>exact ycb HR1);rintro e w' ⟨rfl,⟨nd,rfl⟩⟩))
   go_meet
   case rel=>exact ⟨_,(!t347),yq,H',⟨yo⟩,⟨yV0 HO0_2⟩,⟨yk BK345⟩,⟨yk BK346⟩,⟨yhb⟩⟩
 case rest =>
  clear HC4
  try clear c1
  obtain ⟨kq,x20_3,rfl,HA,HJ3,HO_346002,BK345,BK346,HB⟩:=hcut
  obtain ⟨kj3,rfl⟩:=ysu kq (fun h=>by subst h;exact absurd HA.out (by simp [gain_Take.j0]))
  have H:=HA.out;clear HA
  simp only [gain_Take.j0] at H
  by_cases c9 : x20_3=true
  ·
   subst c9
   rw [if_pos rfl] at H
   replace H:=ybi H;obtain ⟨⟨t348,t349,t350,t353,t354⟩,A10,H⟩:=H
   try dsimp only at H
   simp only [Option.some.injEq,Prod.mk.injEq] at H
   obtain ⟨rfl,rfl,rfl,rfl,rfl,rfl⟩:=H
   have:=NB345_346.out
   have:=NB346_345.out
   obtain ⟨hcz12_0,hcz12_1,hcz12_2,hcz12_3,hfz12_0,hfz12_1,hfz12_2,hfz12_3⟩:=yc4 BK345
   go_wp2_with (first|((with_reducible refine gate_callee (f:=34) rfl ?_);refine ygl 23 Try.func34 #[.agg #[.int .u64 a0_0, .int .u32 a0_1, .slice A0_2 l0_2.length c0_2, .int .i64 a0_3], .int .i64 0, .int .i64 1, .int .i64 1] ?_;(with_reducible refine (coder_Take.calls kj3 a0_0 a0_1 (fun k_=>((P0_2_ k_∨w.heap.size≤k_)∧(k_≠gb345∧k_≠gb346))) _ _ l0_2 a0_3 0 1 1 t348 t349 t350 t353 t354 _ HO_346002.out A10.out).mono ?_);rintro e w13 ⟨v351,rfl,ho0,hb⟩;refine ⟨_,rfl, ?_⟩;replace HO_346002:=yVb HO_346002 hb;have HO352:=yho (fun k_=>(P0_2_ k_∨w.heap.size≤k_)∧k_≠gb345∧k_≠gb346) ho0 (fun k_ hk_=>⟨Or.elim hk_ (fun hs_=>hs_.1) (fun hn_=>(.inr (Nat.le_trans (zE yhb) hn_))),yoB BK345 hk_,yoB BK346 hk_⟩);replace BK345:=ybb BK345 hb;replace BK346:=ybb BK346 hb;replace HB:=ybs hb;(try clear hb);(try clear ho0);obtain ⟨hcz14_0,hcz14_1,hcz14_2,hcz14_3,hfz14_0,hfz14_1,hfz14_2,hfz14_3⟩:=yc4 BK345;obtain ⟨Ao15,co15,eo15⟩:=Kd.V_slice HO352.out;subst eo15;obtain ⟨hcz16_0,hcz16_1,hcz16_2,hcz16_3,hfz16_0,hfz16_1,hfz16_2,hfz16_3⟩:=yc4 BK346))
   refine bodyPost_ret (results_ctt rfl _ _ gb346 43 #[.int .u64 t348, .int .u32 t349, .slice Ao15 t350.length co15, .int .i64 t353] (0,0) _ rfl (ykp BK346) Try.underlying43 rfl (by kernel_rfl)) rfl ?_
   exact ⟨_,_,ye,yV0 HO352,yn,yhb⟩
  ·
   replace c9:=Bool.eq_false_iff.mpr c9
   subst c9
   rw [ynf] at H
   have H' := zm H
   clear H
   go_wp2
   go_loopg [9,27] kj3 (fun kq v9 v27 w' => ∃ (x9_2 : List Int) (x27_2 : Int) (x346000_2 : Int) (x346001_2 : Int) (x346002_2 : List Int) (x346003_2 : Int) (u346002 : Value),v27=.int .i64 x27_2∧Aside0 (gain_Take.l0 kq l1 a2 x9_2 x27_2 x346000_2 x346001_2 x346002_2 x346003_2=some (r1,r2,r3,r4,r5,r6))∧Aside0 (kq≤kj3)∧Aside0 (Kd.R (Kd.int .i64) 3 w' w.heap.size (fun k_=>(w.heap.size≤k_)) v9 x9_2)∧Aside0 (Kd.V (Kd.int .u8) 5 w' w.heap.size (fun k_=>(P0_2_ k_∨w.heap.size≤k_)∧some k_≠(v9 : Value).ownBlock∧k_≠gb345∧k_≠gb346) u346002 x346002_2)∧Aside0 (w'.heap[gb345]? = some (.cells #[.int .u64 x346000_2, .int .u32 x346001_2,u346002, .int .i64 x346003_2] 43 (0,0)))∧Aside0 (w'.heap[gb346]? = some (.cells #[.int .u64 0, .int .u32 0,(.slice none 0 0), .int .i64 0] 43 (0,0)))∧Aside0 (Below w.heap.size w w'))
   case atStart=>exact ⟨(([] : List Int)),(0),(a0_0),(a0_1),(l0_2),(a0_3),(.slice A0_2 l0_2.length c0_2),yq,H',⟨Nat.le_refl _⟩,⟨yn⟩,⟨yV0 HO_346002⟩,⟨yk BK345⟩,⟨yk BK346⟩,⟨yhb⟩⟩
   case round =>
    clear H'
    try clear hcz12_0
    try clear hcz12_1
    try clear hcz12_2
    try clear hcz12_3
    try clear hcz14_0
    try clear hcz14_1
    try clear hcz14_2
    try clear hcz14_3
    try clear hcz16_0
    try clear hcz16_1
    try clear hcz16_2
    try clear hcz16_3
    try clear hfz12_0
    try clear hfz12_1
    try clear hfz12_2
    try clear hfz12_3
    try clear hfz14_0
    try clear hfz14_1
    try clear hfz14_2
    try clear hfz14_3
    try clear hfz16_0
    try clear hfz16_1
    try clear hfz16_2
    try clear hfz16_3
    obtain ⟨x9_2,x27_2,x346000_2,x346001_2,x346002_2,x346003_2,u346002,rfl,HA,HK2,HO_9,HO_346002,BK345,BK346,HB⟩:=hrel
    obtain ⟨k2,rfl⟩:=ysu gk (fun h=>by subst h;exact absurd HA.out (by simp [gain_Take.l0]))
    have H:=HA.out;clear HA
    simp only [gain_Take.l0] at H
    by_cases c17 : x27_2 < 5
    ·
     rw [if_pos c17] at H
     have c17b0 : decide (x27_2 < 5)=true:=decide_eq_true c17
     clear c17
     by_cases c18 : a2=true
     ·
      subst c18
      rw [if_pos rfl] at H
      replace H:=ybi H;obtain ⟨⟨t355,t356,t357,t360,t361⟩,A19,H⟩:=H
      try dsimp only at H
      replace H:=yif H;obtain ⟨c20,H⟩:=H
      have LMc20:=zm c20;clear c20
      obtain ⟨y363,hy363⟩ : ∃ y_ : List Int,y_=(x9_2 ++ [t361]):=⟨_,rfl⟩
      replace H : (gain_Take.l0 k2 l1 true y363 (wrap64 (x27_2+1)) t355 t356 t357 t360)=some (r1,r2,r3,r4,r5,r6):=yrw hy363 H
      have Ny363:=zm hy363;clear hy363
      have H' := zm H
      clear H
      have:=NB345_346.out
      have:=NB346_345.out
      obtain ⟨_,_,_,_,_,_,_,_⟩:=yc4 BK345
      obtain ⟨Ao23,co23,eo23⟩:=Kd.V_slice HO_346002.out
      subst eo23
      try go_wp2_with (first|((with_reducible refine gate_callee (f:=65) rfl ?_);refine ygl 40 Try.func65 #[.agg #[.int .u64 x346000_2, .int .u32 x346001_2, .slice Ao23 x346002_2.length co23, .int .i64 x346003_2], .int .i64 0, .bool true] ?_;(with_reducible refine (gain_take.calls k2 x346000_2 x346001_2 (fun k_=>((P0_2_ k_∨w.heap.size≤k_)∧(some k_≠(u9 : Value).ownBlock∧(k_≠gb345∧k_≠gb346)))) _ _ x346002_2 x346003_2 0 true t355 t356 t357 t360 t361 _ HO_346002.out A19.out).mono ?_);rintro e w24 ⟨v358,rfl,ho0,hb⟩;refine ⟨_,rfl, ?_⟩;replace HO_346002:=yVb HO_346002 hb;have HO359:=yho (fun k_=>(P0_2_ k_∨w.heap.size≤k_)∧some k_≠(u9 : Value).ownBlock∧k_≠gb345∧k_≠gb346) ho0 (fun k_ hk_=>⟨Or.elim hk_ (fun hs_=>hs_.1) (fun hn_=>(.inr (Nat.le_trans (zE yhb) hn_))),yoR HO_9 hk_,yoB BK345 hk_,yoB BK346 hk_⟩);replace HO_9:=yRb HO_9 hb;replace BK345:=ybb BK345 hb;replace BK346:=ybb BK346 hb;replace HB:=ybs hb;(try clear hb);(try clear ho0))|((with_reducible refine gate_dst (N:=12) rfl ?_);refine ybx 12 #[.int .u64 0, .int .u32 0, .slice none 0 0, .int .i64 0] 43 ?_;intro gb362 hg w25 hbox hb;replace HO_9:=yRb HO_9 hb;replace HO_346002:=yVe HO_346002 hg hb;replace HO359:=yVe HO359 hg hb;have BK362:=zm (hbox);have GW362:=ygw hg;have GE362:=ygw hg;replace HB:=ybs hb;have NB345_362:=ynl BK345 hg;have NB362_345:=yng BK345 hg;replace BK345:=ybb BK345 hb;have NB346_362:=ynl BK346 hg;have NB362_346:=yng BK346 hg;replace BK346:=ybb BK346 hb;clear hb hbox hg;have:=NB362_345.out;have:=NB345_362.out;have:=NB362_346.out;have:=NB346_362.out;obtain ⟨_,_,_,_,_,_,_,_⟩:=yc4 BK362;obtain ⟨Ao29,co29,eo29⟩:=Kd.V_slice HO359.out;subst eo29))
      obtain ⟨w30,hw_⟩ : ∃ x,x=((((w25.setCell ⟨gb362,0,none⟩ (.int .u64 t355)).setCell ⟨gb362,1,none⟩ (.int .u32 t356)).setCell ⟨gb362,2,none⟩ (.slice Ao29 t357.length co29)).setCell ⟨gb362,3,none⟩ (.int .i64 t360)):=⟨_,rfl⟩
      rw [← hw_]
      replace HO_9 : Aside0 (Kd.R (Kd.int .i64) 3 w30 w.heap.size (fun k_=>(w.heap.size≤k_)) u9 x9_2):=⟨by rw [hw_];exact (yR1 HO_9 BK362)⟩
      replace HO_346002 : Aside0 (Kd.V (Kd.int .u8) 5 w30 w.heap.size (fun k_=>(P0_2_ k_∨w.heap.size≤k_)∧some k_≠(u9 : Value).ownBlock∧k_≠gb345∧k_≠gb346∧k_≠gb362) (.slice Ao23 x346002_2.length co23) x346002_2):=⟨by rw [hw_];exact (yV0 HO_346002)⟩
      replace HO359 : Aside0 (Kd.V (Kd.int .u8) 5 w30 w.heap.size (fun k_=>(P0_2_ k_∨w.heap.size≤k_)∧some k_≠(u9 : Value).ownBlock∧k_≠gb345∧k_≠gb346∧k_≠gb362) (.slice Ao29 t357.length co29) t357):=⟨by rw [hw_];exact (yV0 HO359)⟩
      replace BK345 : Aside0 (w30.heap[gb345]? = some (.cells #[.int .u64 x346000_2, .int .u32 x346001_2, .slice Ao23 x346002_2.length co23, .int .i64 x346003_2] 43 (0,0))):=⟨by rw [hw_];exact (yk BK345)⟩
      replace BK346 : Aside0 (w30.heap[gb346]? = some (.cells #[.int .u64 0, .int .u32 0, .slice none 0 0, .int .i64 0] 43 (0,0))):=⟨by rw [hw_];exact (yk BK346)⟩
      replace BK362 : Aside0 (w30.heap[gb362]? = some (.cells #[.int .u64 t355, .int .u32 t356, .slice Ao29 t357.length co29, .int .i64 t360] 43 (0,0))):=⟨by rw [hw_];exact (ykp BK362)⟩
      replace HB : Aside0 (Below w.heap.size w w30):=⟨by rw [hw_];exact (yhb)⟩
      clear hw_
      replace HO_9:=zm (zq HO_9.out)
      replace HO_346002:=zm (zC HO_346002.out)
      replace HO359:=zm (zC HO359.out)
      replace BK345:=zm (zj BK345.out)
      replace BK346:=zm (zj BK346.out)
      replace BK362:=zm (zj BK362.out)
      replace HB:=zm (zf HB.out)
      refine start_ (n:=7) (S:=fun w' => w'.cell? ⟨gb362,0,none⟩=some (.int .u64 t355)∧w'.cell? ⟨gb362,1,none⟩=some (.int .u32 t356)∧w'.cell? ⟨gb362,2,none⟩=some (.slice Ao29 t357.length co29)∧w'.cell? ⟨gb362,3,none⟩=some (.int .i64 t360)) (ds := []) #[false,false,false,false,false,false,false] (by kernel_rfl) rfl rfl ⟨(zs BK362.out 0).trans rfl,(zs BK362.out 1).trans rfl,(zs BK362.out 2).trans rfl,(zs BK362.out 3).trans rfl⟩ (fun hHeld => ?_)
      generalize w30.drew=w31 at HO_9 HO_346002 HO359 BK345 BK346 BK362 HB hHeld ⊢
      refine pure_ (i:=1) (N:=some 44) (v := ?_) (a' := ?_) #[false,true,false,false,false,false,false] rfl rfl (by kernel_rfl) (fun _ _ _ h=>h) (Or.inl ⟨by rfl, ?_⟩) ?_ ?_
      rotate_left
      ·
       intro w'
       go_simp
       with_reducible rfl
      rotate_left
      ·
       simp only [Act.put,List.setIfInBounds_toArray,List.set_cons_zero,List.set_cons_succ,i64_w,i32_w]
       rfl
      refine pure_ (i:=2) (N:=some 45) (v := ?_) (a' := ?_) #[false,true,true,false,false,false,false] rfl rfl (by kernel_rfl) (fun _ _ _ h=>h) (Or.inl ⟨by rfl, ?_⟩) ?_ ?_
      rotate_left
      ·
       intro w'
       go_simp
       with_reducible rfl
      rotate_left
      ·
       simp only [Act.put,List.setIfInBounds_toArray,List.set_cons_zero,List.set_cons_succ,i64_w,i32_w]
       rfl
      refine take_ (i:=0) (N:=some 43) (v := ?_) (a' := ?_) #[true,true,true,false,false,false,false] rfl rfl (by kernel_rfl) (fun _ _ _ h=>h) (Or.inl ⟨by rfl, ?_⟩) hHeld ?_ ?_
      rotate_left
      ·
       rintro w' ⟨s0,s1,s2,s3⟩
       go_simp
       with_reducible rfl
      rotate_left
      ·
       simp only [Act.put,List.setIfInBounds_toArray,List.set_cons_zero,List.set_cons_succ,i64_w,i32_w]
       rfl
      refine one_ (i:=3) (N:=some 46) #[true,true,true,true,false,false,false] rfl rfl (by kernel_rfl) (by decide) (fun K hK => ?_)
      refine value_ (w1 := ?_) (v := ?_) (by rfl) rfl ?_ ?_
      rotate_left 2
      ·
       go_simp
       constructor
       ·
        rfl
       ·
        rfl
      refine hK.out _ _ ⟨(zs (zi BK362.out _) 0).trans rfl,(zs (zi BK362.out _) 1).trans rfl,(zs (zi BK362.out _) 2).trans rfl,(zs (zi BK362.out _) 3).trans rfl⟩ (fun hHeld => ?_)
      clear hK K
      refine ym (some 46) ?_
      refine one_ (i:=4) (N:=some 47) #[true,true,true,true,true,false,false] rfl rfl (by kernel_rfl) (by decide) (fun K hK => ?_)
      refine Kd.R_append_step (Kd.int .i64) (w0:=w) w.heap.size (by rfl) (.tmp 44) (.tmp 46) 31 3 (.int .i64 0) 8 rfl Try.underlying31 info3 rfl (by decide) (by omega) u9 x9_2 t361 [.int .i64 t361] (fun k_=>(w.heap.size≤k_)) (fun _=>False) rfl rfl ?aP (fun _ hk=>hk.elim) ?aF ?aO ?aB ?aS ?aL ?_
      (case aP=>exact rfl)
      (case aB=>exact yhb)
      (case aF=>exact (fun k_ hk=>(Nat.le_trans (zE yhb) hk)))
      (case aO=>exact (yr HO_9))
      (case aS=>exact (zE yhb))
      (case aL=>have:=LMc20.out;omega)
      intro v364 w32 ho hb hg hat
      rw [← Ny363.out] at ho
      replace HO_346002:=zm (Kd.V_afterv (ok:=(fun k_=>(P0_2_ k_∨w.heap.size≤k_)∧k_≠gb345∧k_≠gb346∧k_≠gb362)) (yV0 HO_346002) hg hat)
      replace BK345:=zm (blk_grown (yk BK345) hg (zu HO_9.out BK345.out (by decide)))
      replace BK346:=zm (blk_grown (yk BK346) hg (zu HO_9.out BK346.out (by decide)))
      replace HO359:=zm (Kd.V_afterv (ok:=(fun k_=>(P0_2_ k_∨w.heap.size≤k_)∧k_≠gb345∧k_≠gb346∧k_≠gb362)) (yV0 HO359) hg hat)
      replace BK362:=zm (blk_grown (yk BK362) hg (zu HO_9.out BK362.out (by decide)))
      replace HB:=zm (hb)
      have HO365:=zm (ho);clear HO_9;clear ho hb hg hat
      refine hK.out _ _ yH (fun hHeld => ?_)
      clear hK K
      refine ym (some 47) ?_
      refine one_ (i:=5) (N:=none) #[true,true,true,true,true,true,false] rfl rfl (by kernel_rfl) (by decide) (fun K hK => ?_)
      have hs33 : w32.cell? ⟨gb345,0,none⟩=some (.int .u64 x346000_2):=(zs BK345.out 0).trans rfl
      have hfs33:=zx BK345.out 0
      have:=NB346_345.out
      have:=NB362_345.out
      have:=NB345_346.out
      have:=NB345_362.out
      have hs34 : w32.cell? ⟨gb345,1,none⟩=some (.int .u32 x346001_2):=(zs BK345.out 1).trans rfl
      have hfs34:=zx BK345.out 1
      have:=NB346_345.out
      have:=NB362_345.out
      have:=NB345_346.out
      have:=NB345_362.out
      have hs35 : w32.cell? ⟨gb345,2,none⟩=some (.slice Ao23 x346002_2.length co23):=(zs BK345.out 2).trans rfl
      have hfs35:=zx BK345.out 2
      have:=NB346_345.out
      have:=NB362_345.out
      have:=NB345_346.out
      have:=NB345_362.out
      have hs36 : w32.cell? ⟨gb345,3,none⟩=some (.int .i64 x346003_2):=(zs BK345.out 3).trans rfl
      have hfs36:=zx BK345.out 3
      have:=NB346_345.out
      have:=NB362_345.out
      have:=NB345_346.out
      have:=NB345_362.out
      refine skip_ (w1 := ?_) (by rfl) rfl ?_ ?_
      rotate_left
      ·
       go_simp
       rfl
      refine hK.out _ _ yH (fun hHeld => ?_)
      clear hK K
      refine pure_ (i:=6) (N:=some 9) (v := ?_) (a' := ?_) #[true,true,true,true,true,true,true] rfl rfl (by kernel_rfl) (fun _ _ _ h=>h) (Or.inl ⟨by rfl, ?_⟩) ?_ ?_
      rotate_left
      ·
       intro w'
       go_simp
       with_reducible rfl
      rotate_left
      ·
       simp only [Act.put,List.setIfInBounds_toArray,List.set_cons_zero,List.set_cons_succ,i64_w,i32_w]
       rfl
      refine done_ (by kernel_rfl) ?_
      try go_wp2
      go_roundg k2
      case measure=>exact yom2 HJ3 HK2
      case rel=>exact ⟨(y363),(wrap64 (x27_2+1)),(t355),(t356),(t357),(t360),(.slice Ao29 t357.length co29),yq,H',⟨yom2 HJ3 HK2⟩,⟨yR1 HO365 BK345⟩,⟨yV0 HO359⟩,⟨ykp BK345⟩,⟨yk BK346⟩,⟨yhb⟩⟩
     ·
      replace c18:=Bool.eq_false_iff.mpr c18
      subst c18
      rw [ynf] at H
      replace H:=yif H;obtain ⟨c37,H⟩:=H
      have c37b0 : decide (0≤x27_2)=true:=decide_eq_true c37
      clear c37
      replace H:=yif H;obtain ⟨c38,H⟩:=H
      have c38b0 : decide (x27_2 < (l1.length : Int))=true:=decide_eq_true c38
      clear c38
      replace H:=ybi H;obtain ⟨⟨t367,t368,t369,t372,t373⟩,A39,H⟩:=H
      try dsimp only at H
      replace H:=yif H;obtain ⟨c40,H⟩:=H
      have LMc40:=zm c40;clear c40
      obtain ⟨y375,hy375⟩ : ∃ y_ : List Int,y_=(x9_2 ++ [t373]):=⟨_,rfl⟩
      replace H : (gain_Take.l0 k2 l1 false y375 (wrap64 (x27_2+1)) t367 t368 t369 t372)=some (r1,r2,r3,r4,r5,r6):=yrw hy375 H
      have Ny375:=zm hy375;clear hy375
      have H' := zm H
      clear H
      have p366 : 0≤(x27_2 : Int):=yt
      have q366 : x27_2 < (l1.length : Int):=yt
      obtain ⟨ad366,e366,hx366_0⟩:=Kd.at_int HR1.out x27_2 p366 q366
      cases e366
      replace hx366_0:=yhx HB hx366_0
      replace p366:=eq_true p366
      replace q366:=eq_true q366
      have:=NB345_346.out
      have:=NB346_345.out
      obtain ⟨_,_,_,_,_,_,_,_⟩:=yc4 BK345
      obtain ⟨Ao43,co43,eo43⟩:=Kd.V_slice HO_346002.out
      subst eo43
      try go_wp2_with (first|((with_reducible refine gate_callee (f:=65) rfl ?_);refine ygl 40 Try.func65 #[.agg #[.int .u64 x346000_2, .int .u32 x346001_2, .slice Ao43 x346002_2.length co43, .int .i64 x346003_2], .int .i64 (rd l1 x27_2), .bool false] ?_;(with_reducible refine (gain_take.calls k2 x346000_2 x346001_2 (fun k_=>((P0_2_ k_∨w.heap.size≤k_)∧(some k_≠(u9 : Value).ownBlock∧(k_≠gb345∧k_≠gb346)))) _ _ x346002_2 x346003_2 (rd l1 x27_2) false t367 t368 t369 t372 t373 _ HO_346002.out A39.out).mono ?_);rintro e w44 ⟨v370,rfl,ho0,hb⟩;refine ⟨_,rfl, ?_⟩;replace HO_346002:=yVb HO_346002 hb;have HO371:=yho (fun k_=>(P0_2_ k_∨w.heap.size≤k_)∧some k_≠(u9 : Value).ownBlock∧k_≠gb345∧k_≠gb346) ho0 (fun k_ hk_=>⟨Or.elim hk_ (fun hs_=>hs_.1) (fun hn_=>(.inr (Nat.le_trans (zE yhb) hn_))),yoR HO_9 hk_,yoB BK345 hk_,yoB BK346 hk_⟩);replace HO_9:=yRb HO_9 hb;replace BK345:=ybb BK345 hb;replace BK346:=ybb BK346 hb;replace HB:=ybs hb;(try clear hb);(try clear ho0))|((with_reducible refine gate_dst (N:=12) rfl ?_);refine ybx 12 #[.int .u64 0, .int .u32 0, .slice none 0 0, .int .i64 0] 43 ?_;intro gb374 hg w45 hbox hb;replace HO_9:=yRb HO_9 hb;replace HO_346002:=yVe HO_346002 hg hb;replace HO371:=yVe HO371 hg hb;have BK374:=zm (hbox);have GW374:=ygw hg;have GE374:=ygw hg;replace HB:=ybs hb;have NB345_374:=ynl BK345 hg;have NB374_345:=yng BK345 hg;replace BK345:=ybb BK345 hb;have NB346_374:=ynl BK346 hg;have NB374_346:=yng BK346 hg;replace BK346:=ybb BK346 hb;clear hb hbox hg;have:=NB374_345.out;have:=NB345_374.out;have:=NB374_346.out;have:=NB346_374.out;obtain ⟨_,_,_,_,_,_,_,_⟩:=yc4 BK374;obtain ⟨Ao49,co49,eo49⟩:=Kd.V_slice HO371.out;subst eo49))
      obtain ⟨w50,hw_⟩ : ∃ x,x=((((w45.setCell ⟨gb374,0,none⟩ (.int .u64 t367)).setCell ⟨gb374,1,none⟩ (.int .u32 t368)).setCell ⟨gb374,2,none⟩ (.slice Ao49 t369.length co49)).setCell ⟨gb374,3,none⟩ (.int .i64 t372)):=⟨_,rfl⟩
      rw [← hw_]
      replace HO_9 : Aside0 (Kd.R (Kd.int .i64) 3 w50 w.heap.size (fun k_=>(w.heap.size≤k_)) u9 x9_2):=⟨by rw [hw_];exact (yR1 HO_9 BK374)⟩
      replace HO_346002 : Aside0 (Kd.V (Kd.int .u8) 5 w50 w.heap.size (fun k_=>(P0_2_ k_∨w.heap.size≤k_)∧some k_≠(u9 : Value).ownBlock∧k_≠gb345∧k_≠gb346∧k_≠gb374) (.slice Ao43 x346002_2.length co43) x346002_2):=⟨by rw [hw_];exact (yV0 HO_346002)⟩
      replace HO371 : Aside0 (Kd.V (Kd.int .u8) 5 w50 w.heap.size (fun k_=>(P0_2_ k_∨w.heap.size≤k_)∧some k_≠(u9 : Value).ownBlock∧k_≠gb345∧k_≠gb346∧k_≠gb374) (.slice Ao49 t369.length co49) t369):=⟨by rw [hw_];exact (yV0 HO371)⟩
      replace BK345 : Aside0 (w50.heap[gb345]? = some (.cells #[.int .u64 x346000_2, .int .u32 x346001_2, .slice Ao43 x346002_2.length co43, .int .i64 x346003_2] 43 (0,0))):=⟨by rw [hw_];exact (yk BK345)⟩
      replace BK346 : Aside0 (w50.heap[gb346]? = some (.cells #[.int .u64 0, .int .u32 0, .slice none 0 0, .int .i64 0] 43 (0,0))):=⟨by rw [hw_];exact (yk BK346)⟩
      replace BK374 : Aside0 (w50.heap[gb374]? = some (.cells #[.int .u64 t367, .int .u32 t368, .slice Ao49 t369.length co49, .int .i64 t372] 43 (0,0))):=⟨by rw [hw_];exact (ykp BK374)⟩
      replace HB : Aside0 (Below w.heap.size w w50):=⟨by rw [hw_];exact (yhb)⟩
      clear hw_
      replace HO_9:=zm (zq HO_9.out)
      replace HO_346002:=zm (zC HO_346002.out)
      replace HO371:=zm (zC HO371.out)
      replace BK345:=zm (zj BK345.out)
      replace BK346:=zm (zj BK346.out)
      replace BK374:=zm (zj BK374.out)
      replace HB:=zm (zf HB.out)
      refine start_ (n:=7) (S:=fun w' => w'.cell? ⟨gb374,0,none⟩=some (.int .u64 t367)∧w'.cell? ⟨gb374,1,none⟩=some (.int .u32 t368)∧w'.cell? ⟨gb374,2,none⟩=some (.slice Ao49 t369.length co49)∧w'.cell? ⟨gb374,3,none⟩=some (.int .i64 t372)) (ds := []) #[false,false,false,false,false,false,false] (by kernel_rfl) rfl rfl ⟨(zs BK374.out 0).trans rfl,(zs BK374.out 1).trans rfl,(zs BK374.out 2).trans rfl,(zs BK374.out 3).trans rfl⟩ (fun hHeld => ?_)
      generalize w50.drew=w51 at HO_9 HO_346002 HO371 BK345 BK346 BK374 HB hHeld ⊢
      refine pure_ (i:=1) (N:=some 44) (v := ?_) (a' := ?_) #[false,true,false,false,false,false,false] rfl rfl (by kernel_rfl) (fun _ _ _ h=>h) (Or.inl ⟨by rfl, ?_⟩) ?_ ?_
      rotate_left
      ·
       intro w'
       go_simp
       with_reducible rfl
      rotate_left
      ·
       simp only [Act.put,List.setIfInBounds_toArray,List.set_cons_zero,List.set_cons_succ,i64_w,i32_w]
       rfl
      refine pure_ (i:=2) (N:=some 45) (v := ?_) (a' := ?_) #[false,true,true,false,false,false,false] rfl rfl (by kernel_rfl) (fun _ _ _ h=>h) (Or.inl ⟨by rfl, ?_⟩) ?_ ?_
      rotate_left
      ·
       intro w'
       go_simp
       with_reducible rfl
      rotate_left
      ·
       simp only [Act.put,List.setIfInBounds_toArray,List.set_cons_zero,List.set_cons_succ,i64_w,i32_w]
       rfl
      refine take_ (i:=0) (N:=some 43) (v := ?_) (a' := ?_) #[true,true,true,false,false,false,false] rfl rfl (by kernel_rfl) (fun _ _ _ h=>h) (Or.inl ⟨by rfl, ?_⟩) hHeld ?_ ?_
      rotate_left
      ·
       rintro w' ⟨s0,s1,s2,s3⟩
       go_simp
       with_reducible rfl
      rotate_left
      ·
       simp only [Act.put,List.setIfInBounds_toArray,List.set_cons_zero,List.set_cons_succ,i64_w,i32_w]
       rfl
      refine one_ (i:=3) (N:=some 46) #[true,true,true,true,false,false,false] rfl rfl (by kernel_rfl) (by decide) (fun K hK => ?_)
      refine value_ (w1 := ?_) (v := ?_) (by rfl) rfl ?_ ?_
      rotate_left 2
      ·
       go_simp
       constructor
       ·
        rfl
       ·
        rfl
      refine hK.out _ _ ⟨(zs (zi BK374.out _) 0).trans rfl,(zs (zi BK374.out _) 1).trans rfl,(zs (zi BK374.out _) 2).trans rfl,(zs (zi BK374.out _) 3).trans rfl⟩ (fun hHeld => ?_)
      clear hK K
      refine ym (some 46) ?_
      refine one_ (i:=4) (N:=some 47) #[true,true,true,true,true,false,false] rfl rfl (by kernel_rfl) (by decide) (fun K hK => ?_)
      refine Kd.R_append_step (Kd.int .i64) (w0:=w) w.heap.size (by rfl) (.tmp 44) (.tmp 46) 31 3 (.int .i64 0) 8 rfl Try.underlying31 info3 rfl (by decide) (by omega) u9 x9_2 t373 [.int .i64 t373] (fun k_=>(w.heap.size≤k_)) (fun _=>False) rfl rfl ?aP (fun _ hk=>hk.elim) ?aF ?aO ?aB ?aS ?aL ?_
      (case aP=>exact rfl)
      (case aB=>exact yhb)
      (case aF=>exact (fun k_ hk=>(Nat.le_trans (zE yhb) hk)))
      (case aO=>exact (yr HO_9))
      (case aS=>exact (zE yhb))
      (case aL=>have:=LMc40.out;omega)
      intro v376 w52 ho hb hg hat
      rw [← Ny375.out] at ho
      replace HO_346002:=zm (Kd.V_afterv (ok:=(fun k_=>(P0_2_ k_∨w.heap.size≤k_)∧k_≠gb345∧k_≠gb346∧k_≠gb374)) (yV0 HO_346002) hg hat)
      replace BK345:=zm (blk_grown (yk BK345) hg (zu HO_9.out BK345.out (by decide)))
      replace BK346:=zm (blk_grown (yk BK346) hg (zu HO_9.out BK346.out (by decide)))
      replace HO371:=zm (Kd.V_afterv (ok:=(fun k_=>(P0_2_ k_∨w.heap.size≤k_)∧k_≠gb345∧k_≠gb346∧k_≠gb374)) (yV0 HO371) hg hat)
      replace BK374:=zm (blk_grown (yk BK374) hg (zu HO_9.out BK374.out (by decide)))
      replace HB:=zm (hb)
      have HO377:=zm (ho);clear HO_9;clear ho hb hg hat
      refine hK.out _ _ yH (fun hHeld => ?_)
      clear hK K
      refine ym (some 47) ?_
      refine one_ (i:=5) (N:=none) #[true,true,true,true,true,true,false] rfl rfl (by kernel_rfl) (by decide) (fun K hK => ?_)
      have hs53 : w52.cell? ⟨gb345,0,none⟩=some (.int .u64 x346000_2):=(zs BK345.out 0).trans rfl
      have hfs53:=zx BK345.out 0
      have:=NB346_345.out
      have:=NB374_345.out
      have:=NB345_346.out
      have:=NB345_374.out
      have hs54 : w52.cell? ⟨gb345,1,none⟩=some (.int .u32 x346001_2):=(zs BK345.out 1).trans rfl
      have hfs54:=zx BK345.out 1
      have:=NB346_345.out
      have:=NB374_345.out
      have:=NB345_346.out
      have:=NB345_374.out
      have hs55 : w52.cell? ⟨gb345,2,none⟩=some (.slice Ao43 x346002_2.length co43):=(zs BK345.out 2).trans rfl
      have hfs55:=zx BK345.out 2
      have:=NB346_345.out
      have:=NB374_345.out
      have:=NB345_346.out
      have:=NB345_374.out
      have hs56 : w52.cell? ⟨gb345,3,none⟩=some (.int .i64 x346003_2):=(zs BK345.out 3).trans rfl
      have hfs56:=zx BK345.out 3
      have:=NB346_345.out
      have:=NB374_345.out
      have:=NB345_346.out
      have:=NB345_374.out
      refine skip_ (w1 := ?_) (by rfl) rfl ?_ ?_
      rotate_left
      ·
       go_simp
       rfl
      refine hK.out _ _ yH (fun hHeld => ?_)
      clear hK K
      refine pure_ (i:=6) (N:=some 9) (v := ?_) (a' := ?_) #[true,true,true,true,true,true,true] rfl rfl (by kernel_rfl) (fun _ _ _ h=>h) (Or.inl ⟨by rfl, ?_⟩) ?_ ?_
      rotate_left
      ·
       intro w'
       go_simp
       with_reducible rfl
      rotate_left
      ·
       simp only [Act.put,List.setIfInBounds_toArray,List.set_cons_zero,List.set_cons_succ,i64_w,i32_w]
       rfl
      refine done_ (by kernel_rfl) ?_
      try go_wp2
      go_roundg k2
      case measure=>exact yom2 HJ3 HK2
      case rel=>exact ⟨(y375),(wrap64 (x27_2+1)),(t367),(t368),(t369),(t372),(.slice Ao49 t369.length co49),yq,H',⟨yom2 HJ3 HK2⟩,⟨yR1 HO377 BK345⟩,⟨yV0 HO371⟩,⟨ykp BK345⟩,⟨yk BK346⟩,⟨yhb⟩⟩
    ·
     rw [if_neg c17] at H
     have c17b0 : decide (x27_2 < 5)=false:=decide_eq_false c17
     clear c17
     simp only [Option.some.injEq,Prod.mk.injEq] at H
     obtain ⟨rfl,rfl,rfl,rfl,rfl,rfl⟩:=H
     have:=NB345_346.out
     have:=NB346_345.out
     obtain ⟨_,_,_,_,_,_,_,_⟩:=yc4 BK345
     obtain ⟨_,_,_,_,_,_,_,_⟩:=yc4 BK346
     obtain ⟨Ao60,co60,eo60⟩:=Kd.V_slice HO_346002.out
     subst eo60
     go_wp2
     refine bodyPost_ret (results_ctt rfl _ _ gb346 43 #[.int .u64 x346000_2, .int .u32 x346001_2, .slice Ao60 x346002_2.length co60, .int .i64 x346003_2] (0,0) _ rfl (ykp BK346) Try.underlying43 rfl (by kernel_rfl)) rfl ?_
     exact ⟨_,_,ye,yV0 HO_346002,yR1 HO_9 BK346,yhb⟩
def psalteryref06_Same.l0 : Nat→List Int→List Int→Int→Option (Bool)
 | 0,_,_,_=>none
 | k+1,x0,x1,x5=>if x5 < (x0.length : Int) then (if 0≤x5 then (if x5 < (x1.length : Int) then (if (rd x0 x5)=(rd x1 x5) then (psalteryref06_Same.l0 k x0 x1 (wrap64 (x5+1))) else (some false)) else (none)) else (none)) else (some true)
def psalteryref06_Same.f (k : Nat) (l0 : List Int) (l1 : List Int) : Option (Bool):=if (l0.length : Int)=(l1.length : Int) then (psalteryref06_Same.l0 k l0 l1 0) else (some false)
theorem psalteryref06_Same.mono_l : ∀ k,(∀ y0 y1 y2,LeO (psalteryref06_Same.l0 k y0 y1 y2) (psalteryref06_Same.l0 (k+1) y0 y1 y2))
 | 0=>fun _ _ _ r h=>by simp [psalteryref06_Same.l0] at h
 | k+1=>by
  have ih0:=psalteryref06_Same.mono_l k
  ·
   intro y0 y1 y2
   unfold psalteryref06_Same.l0
   repeat' with_reducible first|apply ih0|apply yLr|apply yLn|apply yLi|apply yLb|intro _
theorem psalteryref06_Same.mono : ∀ a0 a1 k,LeO (psalteryref06_Same.f k a0 a1) (psalteryref06_Same.f (k+1) a0 a1):=by
 intro a0 a1 k
 have ih0:=psalteryref06_Same.mono_l k
 unfold psalteryref06_Same.f
 repeat' with_reducible first|apply ih0|apply yLr|apply yLn|apply yLi|apply yLb|intro _
set_option maxHeartbeats 8000000 in
set_option maxRecDepth 100000 in
theorem psalteryref06_Same.calls (k : Nat) (A0 : Option Addr) (c0 : Nat) (l0 : List Int) (A1 : Option Addr) (c1 : Nat) (l1 : List Int) (r : Bool) (w : World) (hr0 : Kd.C (Kd.int .i64) w A0 l0.length l0) (hc0 : l0.length≤c0) (hr1 : Kd.C (Kd.int .i64) w A1 l1.length l1) (hc1 : l1.length≤c1) (h : psalteryref06_Same.f k l0 l1=some r) :
  Calls Try.prog 49 #[.slice A0 l0.length c0, .slice A1 l1.length c1] w fun e w' => e=.returned (.bool r)∧Drawn0 w w' := by
 have HR0:=zm hr0;have HC0:=zm hc0;clear hr0 hc0;have HR1:=zm hr1;have HC1:=zm hc1;clear hr1 hc1
 have H : (if (l0.length : Int)=(l1.length : Int) then (psalteryref06_Same.l0 k l0 l1 0) else (some false))=some r:=h
 clear h
 by_cases c3 : (l0.length : Int)=(l1.length : Int)
 ·
  rw [if_pos c3] at H
  have c3b0 : ((l0.length : Int) == (l1.length : Int))=true:=beq_iff_eq.mpr c3
  have c3b1 : ((l0.length : Int) != (l1.length : Int))=false:=bne_eq_false_iff_eq.mpr c3
  have c3b2 : (l0.length == l1.length)=true:=by first|simpa using c3|(simp at c3 ⊢; omega)
  clear c3
  have H' := zm H
  clear H
  go_enter Try.func49,Try.ntmps49
  go_wp2
  repeat (go_quiet (fail);try go_wp2)
  go_loopg [5] k (fun kq v5 w' => ∃ (x5_1 : Int),v5=.int .i64 x5_1∧Aside0 (psalteryref06_Same.l0 kq l0 l1 x5_1=some r)∧Aside0 (kq≤k)∧Drawn0 w w')
  case atStart=>exact ⟨(0),yq,H',⟨Nat.le_refl _⟩,yd⟩
  case round =>
   clear H'
   try clear c1
   try clear c3b0
   try clear c3b1
   try clear c3b2
   obtain ⟨x5_1,rfl,HA,HK1,⟨m1,rfl⟩⟩:=hrel
   obtain ⟨k1,rfl⟩:=ysu gk (fun h=>by subst h;exact absurd HA.out (by simp [psalteryref06_Same.l0]))
   have H:=HA.out;clear HA
   simp only [psalteryref06_Same.l0] at H
   by_cases c4 : x5_1 < (l0.length : Int)
   ·
    rw [if_pos c4] at H
    have c4b0 : decide (x5_1 < (l0.length : Int))=true:=decide_eq_true c4
    clear c4
    replace H:=yif H;obtain ⟨c5,H⟩:=H
    have c5b0 : decide (0≤x5_1)=true:=decide_eq_true c5
    clear c5
    replace H:=yif H;obtain ⟨c6,H⟩:=H
    have c6b0 : decide (x5_1 < (l1.length : Int))=true:=decide_eq_true c6
    clear c6
    by_cases c7 : (rd l0 x5_1)=(rd l1 x5_1)
    ·
     rw [if_pos c7] at H
     have c7b0 : ((rd l0 x5_1) == (rd l1 x5_1))=true:=beq_iff_eq.mpr c7
     have c7b1 : ((rd l0 x5_1) != (rd l1 x5_1))=false:=bne_eq_false_iff_eq.mpr c7
     clear c7
     have H' := zm H
     clear H
     obtain ⟨ad378,e378,hx378_0,p378,q378⟩:=yai HR0 x5_1
     cases e378
     obtain ⟨ad379,e379,hx379_0,p379,q379⟩:=yai HR1 x5_1
     cases e379
     go_wp2
     repeat (go_quiet (fail);try go_wp2)
     go_roundg k1
     case measure=>exact yom1 HK1
     case rel=>exact ⟨(wrap64 (x5_1+1)),yq,H',⟨yom1 HK1⟩,yd⟩
    ·
     rw [if_neg c7] at H
     have c7b0 : ((rd l0 x5_1) == (rd l1 x5_1))=false:=beq_eq_false_iff_ne.mpr c7
     have c7b1 : ((rd l0 x5_1) != (rd l1 x5_1))=true:=bne_iff_ne.mpr c7
     obtain rfl:=Option.some.inj H
     obtain ⟨ad378,e378,hx378_0,p378,q378⟩:=yai HR0 x5_1
     cases e378
     obtain ⟨ad379,e379,hx379_0,p379,q379⟩:=yai HR1 x5_1
     cases e379
     go_wp2
     repeat (go_quiet (fail);try go_wp2)
     go_ret
     exact ⟨yq,yd⟩
   ·
    rw [if_neg c4] at H
    have c4b0 : decide (x5_1 < (l0.length : Int))=false:=decide_eq_false c4
    clear c4
    obtain rfl:=Option.some.inj H
    go_wp2
    repeat (go_quiet (fail);try go_wp2)
    go_ret
    exact ⟨yq,yd⟩
 ·
  rw [if_neg c3] at H
  have c3b0 : ((l0.length : Int) == (l1.length : Int))=false:=beq_eq_false_iff_ne.mpr c3
  have c3b1 : ((l0.length : Int) != (l1.length : Int))=true:=bne_iff_ne.mpr c3
  have c3b2 : (l0.length == l1.length)=false:=by first|simpa using c3|(simp at c3 ⊢; omega)
  obtain rfl:=Option.some.inj H
  go_enter Try.func49,Try.ntmps49
  go_wp2
  repeat (go_quiet (fail);try go_wp2)
  go_ret
  exact ⟨yq,yd⟩
def psalterylaw11_knows.f (k : Nat)  : Option (Bool):=(some (([5,5,5,5,5] : List Int) : List Int)).bind fun y380=>((some (([5,4,8,9,5] : List Int) : List Int)).bind fun y383=>((coder_New.f).bind fun bt386=>((gain_Put.f k bt386.1 bt386.2.1 bt386.2.2 y380 y383 false).bind fun bt391=>((coder_Finish.f bt391.1 bt391.2.1 bt391.2.2.1).bind fun t398=>((coder_Open.f t398).bind fun bt401=>((gain_Take.f k bt401.1 bt401.2.1 bt401.2.2.1 bt401.2.2.2 y383 false).bind fun bt407=>(if bt391.2.2.2=0 then ((psalteryref06_Same.f k bt407.2.2.2.2.1 y380).bind fun t418=>(if t418=true then (if bt407.2.2.2.2.2=0 then ((coder_RightDec.f bt407.1 bt407.2.1 bt407.2.2.1 bt407.2.2.2.1).bind fun t419=>(if t419=true then ((gain_Most.f true).bind fun t420=>(if t420=30 then ((gain_Most.f false).bind fun t421=>(if t421=45 then ((gain_Right.f k y380).bind fun t422=>(some t422)) else (none))) else (none))) else (none))) else (none)) else (none))) else (none))))))))
theorem psalterylaw11_knows.mono : ∀ k,LeO (psalterylaw11_knows.f k ) (psalterylaw11_knows.f (k+1) ):=by
 intro  k
 unfold psalterylaw11_knows.f
 repeat' with_reducible first|apply gain_Put.mono|apply gain_Right.mono|apply gain_Take.mono|apply psalteryref06_Same.mono|apply yLr|apply yLn|apply yLi|apply yLb|intro _
set_option maxHeartbeats 8000000 in
set_option maxRecDepth 100000 in
theorem psalterylaw11_knows.calls (k : Nat)  (r : Bool) (w : World) (h : psalterylaw11_knows.f k  = some r) :
  Calls Try.prog 42 #[] w fun e w' => e=.returned (.bool r)∧Below w.heap.size w w' := by
 have hu26:=Try.underlying26;have hu43:=Try.underlying43;have HB:=zm (Below.refl w.heap.size w)
 have H : ((some (([5,5,5,5,5] : List Int) : List Int)).bind fun y380=>((some (([5,4,8,9,5] : List Int) : List Int)).bind fun y383=>((coder_New.f).bind fun bt386=>((gain_Put.f k bt386.1 bt386.2.1 bt386.2.2 y380 y383 false).bind fun bt391=>((coder_Finish.f bt391.1 bt391.2.1 bt391.2.2.1).bind fun t398=>((coder_Open.f t398).bind fun bt401=>((gain_Take.f k bt401.1 bt401.2.1 bt401.2.2.1 bt401.2.2.2 y383 false).bind fun bt407=>(if bt391.2.2.2=0 then ((psalteryref06_Same.f k bt407.2.2.2.2.1 y380).bind fun t418=>(if t418=true then (if bt407.2.2.2.2.2=0 then ((coder_RightDec.f bt407.1 bt407.2.1 bt407.2.2.1 bt407.2.2.2.1).bind fun t419=>(if t419=true then ((gain_Most.f true).bind fun t420=>(if t420=30 then ((gain_Most.f false).bind fun t421=>(if t421=45 then ((gain_Right.f k y380).bind fun t422=>(some t422)) else (none))) else (none))) else (none))) else (none)) else (none))) else (none)))))))))=some r:=h
 clear h
 obtain ⟨y380,hy380⟩ : ∃ y_ : List Int,y_=(([5,5,5,5,5] : List Int)):=⟨_,rfl⟩
 replace H : ((some (([5,4,8,9,5] : List Int) : List Int)).bind fun y383=>((coder_New.f).bind fun bt386=>((gain_Put.f k bt386.1 bt386.2.1 bt386.2.2 y380 y383 false).bind fun bt391=>((coder_Finish.f bt391.1 bt391.2.1 bt391.2.2.1).bind fun t398=>((coder_Open.f t398).bind fun bt401=>((gain_Take.f k bt401.1 bt401.2.1 bt401.2.2.1 bt401.2.2.2 y383 false).bind fun bt407=>(if bt391.2.2.2=0 then ((psalteryref06_Same.f k bt407.2.2.2.2.1 y380).bind fun t418=>(if t418=true then (if bt407.2.2.2.2.2=0 then ((coder_RightDec.f bt407.1 bt407.2.1 bt407.2.2.1 bt407.2.2.2.1).bind fun t419=>(if t419=true then ((gain_Most.f true).bind fun t420=>(if t420=30 then ((gain_Most.f false).bind fun t421=>(if t421=45 then ((gain_Right.f k y380).bind fun t422=>(some t422)) else (none))) else (none))) else (none))) else (none)) else (none))) else (none))))))))=some r:=yrw hy380 H
 have Ny380:=zm hy380;clear hy380
 obtain ⟨y383,hy383⟩ : ∃ y_ : List Int,y_=(([5,4,8,9,5] : List Int)):=⟨_,rfl⟩
 replace H : ((coder_New.f).bind fun bt386=>((gain_Put.f k bt386.1 bt386.2.1 bt386.2.2 y380 y383 false).bind fun bt391=>((coder_Finish.f bt391.1 bt391.2.1 bt391.2.2.1).bind fun t398=>((coder_Open.f t398).bind fun bt401=>((gain_Take.f k bt401.1 bt401.2.1 bt401.2.2.1 bt401.2.2.2 y383 false).bind fun bt407=>(if bt391.2.2.2=0 then ((psalteryref06_Same.f k bt407.2.2.2.2.1 y380).bind fun t418=>(if t418=true then (if bt407.2.2.2.2.2=0 then ((coder_RightDec.f bt407.1 bt407.2.1 bt407.2.2.1 bt407.2.2.2.1).bind fun t419=>(if t419=true then ((gain_Most.f true).bind fun t420=>(if t420=30 then ((gain_Most.f false).bind fun t421=>(if t421=45 then ((gain_Right.f k y380).bind fun t422=>(some t422)) else (none))) else (none))) else (none))) else (none)) else (none))) else (none)))))))=some r:=yrw hy383 H
 have Ny383:=zm hy383;clear hy383
 replace H:=ybi H;obtain ⟨⟨t386,t387,t388⟩,A1,H⟩:=H
 try dsimp only at H
 replace H:=ybi H;obtain ⟨⟨t391,t392,t393,t396⟩,A2,H⟩:=H
 try dsimp only at H
 replace H:=ybi H;obtain ⟨t398,A3,H⟩:=H
 replace H:=ybi H;obtain ⟨⟨t401,t402,t403,t406⟩,A4,H⟩:=H
 try dsimp only at H
 replace H:=ybi H;obtain ⟨⟨t407,t408,t409,t412,t413,t416⟩,A5,H⟩:=H
 try dsimp only at H
 replace H:=yif H;obtain ⟨c6,H⟩:=H
 have c6b0 : (t396 == 0)=true:=beq_iff_eq.mpr c6
 have c6b1 : (t396 != 0)=false:=bne_eq_false_iff_eq.mpr c6
 clear c6
 replace H:=ybi H;obtain ⟨t418,A7,H⟩:=H
 replace H:=yif H;obtain ⟨c8,H⟩:=H
 subst c8
 replace H:=yif H;obtain ⟨c9,H⟩:=H
 have c9b0 : (t416 == 0)=true:=beq_iff_eq.mpr c9
 have c9b1 : (t416 != 0)=false:=bne_eq_false_iff_eq.mpr c9
 clear c9
 replace H:=ybi H;obtain ⟨t419,A10,H⟩:=H
 replace H:=yif H;obtain ⟨c11,H⟩:=H
 subst c11
 replace H:=ybi H;obtain ⟨t420,A12,H⟩:=H
 replace H:=yif H;obtain ⟨c13,H⟩:=H
 have c13b0 : (t420 == 30)=true:=beq_iff_eq.mpr c13
 have c13b1 : (t420 != 30)=false:=bne_eq_false_iff_eq.mpr c13
 clear c13
 replace H:=ybi H;obtain ⟨t421,A14,H⟩:=H
 replace H:=yif H;obtain ⟨c15,H⟩:=H
 have c15b0 : (t421 == 45)=true:=beq_iff_eq.mpr c15
 have c15b1 : (t421 != 45)=false:=bne_eq_false_iff_eq.mpr c15
 clear c15
 replace H:=ybi H;obtain ⟨t422,A16,H⟩:=H
 obtain rfl:=Option.some.inj H
 go_enter Try.func42,Try.ntmps42
 go_wp2_with (first|((with_reducible refine gate_dst (N:=8) rfl ?_);refine Kd.R_lit (Kd.int .i64) _ 3 ?hg (N:=8) ?hd (xs:=([5,5,5,5,5] : List Int)) (inner := [.int .i64 5, .int .i64 5, .int .i64 5, .int .i64 5, .int .i64 5]) (ok:=fun _=>True) (okp:=fun _=>True) ?hr ?hp (fun _ hk=>hk) trivial (Below.refl _ _) (Nat.le_refl _) (by simp) ?_;(case hd=>rfl);(case hg=>rfl);(case hr=>first|(go_simp;done)|(go_simp;rfl));(case hp=>exact (Reps.one (show Kd.M (Kd.int .i64) _ _ _ 5 [.int .i64 5] from rfl) (Reps.one (show Kd.M (Kd.int .i64) _ _ _ 5 [.int .i64 5] from rfl) (Reps.one (show Kd.M (Kd.int .i64) _ _ _ 5 [.int .i64 5] from rfl) (Reps.one (show Kd.M (Kd.int .i64) _ _ _ 5 [.int .i64 5] from rfl) (Reps.one (show Kd.M (Kd.int .i64) _ _ _ 5 [.int .i64 5] from rfl) (Reps.none _ _)))))));intro v381 w17 ho18 hb hg_ hnew_;clear hg_ hnew_;(first|rw [← Ny380.out] at ho18|(simp only [Int.reduceToNat] at ho18;rw [← Ny380.out] at ho18));have HO382:=zm (Kd.R_lower ho18 (zE yhb));replace HB:=ybs hb;clear hb ho18)|((with_reducible refine gate_dst (N:=9) rfl ?_);refine Kd.R_lit (Kd.int .i64) _ 3 ?hg (N:=9) ?hd (xs:=([5,4,8,9,5] : List Int)) (inner := [.int .i64 5, .int .i64 4, .int .i64 8, .int .i64 9, .int .i64 5]) (ok:=fun _=>True) (okp:=fun _=>True) ?hr ?hp (fun _ hk=>hk) trivial (Below.refl _ _) (Nat.le_refl _) (by simp) ?_;(case hd=>rfl);(case hg=>rfl);(case hr=>first|(go_simp;done)|(go_simp;rfl));(case hp=>exact (Reps.one (show Kd.M (Kd.int .i64) _ _ _ 5 [.int .i64 5] from rfl) (Reps.one (show Kd.M (Kd.int .i64) _ _ _ 4 [.int .i64 4] from rfl) (Reps.one (show Kd.M (Kd.int .i64) _ _ _ 8 [.int .i64 8] from rfl) (Reps.one (show Kd.M (Kd.int .i64) _ _ _ 9 [.int .i64 9] from rfl) (Reps.one (show Kd.M (Kd.int .i64) _ _ _ 5 [.int .i64 5] from rfl) (Reps.none _ _)))))));intro v384 w19 ho20 hb hg_ hnew_;clear hg_ hnew_;(first|rw [← Ny383.out] at ho20|(simp only [Int.reduceToNat] at ho20;rw [← Ny383.out] at ho20));have HO385:=zm (Kd.R_lower (Kd.R_new' ho20 (Kd.R_lt (yr HO382))) (zE yhb));replace HO382:=zm (Kd.R_elder' (yr HO382) (Kd.R_base ho20) hb);replace HB:=ybs hb;clear hb ho20)|((with_reducible refine gate_callee (f:=29) rfl ?_);refine ygl 11 Try.func29 #[] ?_;(with_reducible refine (coder_New.calls  t386 t387 t388 _ A1.out).mono ?_);rintro e w21 ⟨v389,rfl,ho0,hb⟩;refine ⟨_,rfl, ?_⟩;replace HO382:=yRb HO382 hb;replace HO385:=yRb HO385 hb;have HO390:=zm (Kd.R_lower ho0 (zE yhb));replace HB:=ybs hb;(try clear hb);(try clear ho0);obtain ⟨Ao22,co22,eo22⟩:=Kd.R_slice HO390.out;subst eo22;obtain ⟨Ao23,co23,eo23⟩:=Kd.R_slice HO382.out;subst eo23;obtain ⟨Ao24,co24,eo24⟩:=Kd.R_slice HO385.out;subst eo24)|((with_reducible refine gate_callee (f:=43) rfl ?_);refine ygl 14 Try.func43 #[.agg #[.int .u64 t386, .int .u32 t387, .slice Ao22 t388.length co22], .slice Ao23 y380.length co23, .slice Ao24 y383.length co24, .bool false] ?_;(with_reducible refine (gain_Put.calls k t386 t387 (fun k_=>some k_=(.slice Ao22 t388.length co22 : Value).ownBlock) _ _ t388 _ _ y380 _ _ y383 false t391 t392 t393 t396 _ ?side1 ?side2 ?side3 ?side4 ?side5 A2.out).mono ?_);(case side1=>exact Kd.R_V (Kd.R_tight rfl (Kd.R_apart' (Kd.R_apart' (HO390.out) (Kd.R_typed HO382.out) (by decide)) (Kd.R_typed HO385.out) (by decide))));(case side2=>exact yce (Kd.R_reads' HO382.out).2.2);(case side3=>exact (Kd.R_reads' HO382.out).2.1);(case side4=>exact yce (Kd.R_reads' HO385.out).2.2);(case side5=>exact (Kd.R_reads' HO385.out).2.1);rintro e w25 ⟨v394,rfl,ho0,hb⟩;refine ⟨_,rfl, ?_⟩;have HO395:=yho (fun k_=>some k_≠(.slice Ao23 y380.length co23 : Value).ownBlock∧some k_≠(.slice Ao24 y383.length co24 : Value).ownBlock) ho0 (fun k_ hk_=>⟨Or.elim hk_ (fun hs_=>((Kd.R_apart' (Kd.R_apart' (HO390.out) (Kd.R_typed HO382.out) (by decide)) (Kd.R_typed HO385.out) (by decide)).1 k_ hs_.symm).1.2) (fun hn_=>(Kd.fresh' (Kd.R_lt (yr HO382)) k_ hn_)),Or.elim hk_ (fun hs_=>((Kd.R_apart' (Kd.R_apart' (HO390.out) (Kd.R_typed HO382.out) (by decide)) (Kd.R_typed HO385.out) (by decide)).1 k_ hs_.symm).2) (fun hn_=>(Kd.fresh' (Kd.R_lt (yr HO385)) k_ hn_))⟩);replace HO382:=yRb HO382 hb;replace HO385:=yRb HO385 hb;replace HO390:=yRb HO390 hb;replace HB:=ybs hb;(try clear hb);(try clear ho0))|((with_reducible refine gate_dst (N:=3) rfl ?_);refine ybx 3 #[.int .u64 0, .int .u32 0, .slice none 0 0] 26 ?_;intro gb397 hg w26 hbox hb;replace HO382:=yRb HO382 hb;replace HO385:=yRb HO385 hb;replace HO390:=yRb HO390 hb;replace HO395:=yVe HO395 hg hb;have BK397:=zm (hbox);have GW397:=ygw hg;have GE397:=ygw hg;replace HB:=ybs hb;clear hb hbox hg;obtain ⟨_,_,_,_,_,_⟩:=yc3 BK397;obtain ⟨Ao28,co28,eo28⟩:=Kd.V_slice HO395.out;subst eo28)|((with_reducible refine gate_callee (f:=24) rfl ?_);refine ygl 19 Try.func24 #[.agg #[.int .u64 t391, .int .u32 t392, .slice Ao28 t393.length co28]] ?_;(with_reducible refine (coder_Finish.calls t391 t392 _ _ t393 t398 _ ?side1 ?side2 A3.out).mono ?_);(case side1=>refine (Kd.V_reads' (e:=5) (base:=w.heap.size) (ok:=fun k_=>((some k_≠(.slice Ao23 y380.length co23 : Value).ownBlock∧some k_≠(.slice Ao24 y383.length co24 : Value).ownBlock)∧k_≠gb397)) (n:=t393.length) (c:=co28) ?_).2.2;exact (yV0 HO395));(case side2=>exact (Kd.V_reads' HO395.out).2.1);rintro e w29 ⟨v399,rfl,ho0,hb⟩;refine ⟨_,rfl, ?_⟩;replace HO382:=zm (Kd.R_below (yR1 HO382 BK397) hb);replace HO385:=zm (Kd.R_below (yR1 HO385 BK397) hb);replace HO395:=zm (Kd.V_elder' (yV0 HO395) (Kd.R_base ho0) hb);have HO400:=zm (Kd.R_lower (Kd.R_new' ho0 (Kd.R_lt (yR1 HO390 BK397))) (zE yhb));replace HO390:=zm (Kd.R_elder' (yR1 HO390 BK397) (Kd.R_base ho0) hb);replace BK397:=zm (zF (g:=gb397) (o:=.cells #[.int .u64 t391, .int .u32 t392, .slice Ao28 t393.length co28] 26 (0,0)) (ykp BK397) hb);replace HB:=ybs hb;(try clear hb);(try clear ho0);obtain ⟨Ao30,co30,eo30⟩:=Kd.R_slice HO400.out;subst eo30)|((with_reducible refine gate_callee (f:=26) rfl ?_);refine ygl 20 Try.func26 #[.slice Ao30 t398.length co30] ?_;(with_reducible refine (coder_Open.calls (fun k_=>some k_=(.slice Ao30 t398.length co30 : Value).ownBlock) _ _ t398 t401 t402 t403 t406 _ ?side1 A4.out).mono ?_);(case side1=>exact Kd.R_V (Kd.R_tight rfl (Kd.R_types (Kd.R_apart' (Kd.R_apart' (HO400.out) (Kd.R_typed HO382.out) (by decide)) (Kd.R_typed HO385.out) (by decide)) BK397.out (by decide))));rintro e w31 ⟨v404,rfl,ho0,hb⟩;refine ⟨_,rfl, ?_⟩;replace HO395:=yVb HO395 hb;have HO405:=yho (fun k_=>some k_≠(.slice Ao23 y380.length co23 : Value).ownBlock∧some k_≠(.slice Ao24 y383.length co24 : Value).ownBlock∧some k_≠(.slice Ao22 t388.length co22 : Value).ownBlock∧k_≠gb397) ho0 (fun k_ hk_=>⟨Or.elim hk_ (fun hs_=>((Kd.R_types (Kd.R_apart' (Kd.R_apart' (HO400.out) (Kd.R_typed HO382.out) (by decide)) (Kd.R_typed HO385.out) (by decide)) BK397.out (by decide)).1 k_ hs_.symm).1.1.2) (fun hn_=>(Kd.fresh' (Kd.R_lt (yr HO382)) k_ hn_)),Or.elim hk_ (fun hs_=>((Kd.R_types (Kd.R_apart' (Kd.R_apart' (HO400.out) (Kd.R_typed HO382.out) (by decide)) (Kd.R_typed HO385.out) (by decide)) BK397.out (by decide)).1 k_ hs_.symm).1.2) (fun hn_=>(Kd.fresh' (Kd.R_lt (yr HO385)) k_ hn_)),Or.elim hk_ (fun hs_=>((Kd.R_types (Kd.R_apart' (Kd.R_apart' (HO400.out) (Kd.R_typed HO382.out) (by decide)) (Kd.R_typed HO385.out) (by decide)) BK397.out (by decide)).1 k_ hs_.symm).1.1.1.2) (fun hn_=>(Kd.fresh' (Kd.R_lt (yr HO390)) k_ hn_)),Or.elim hk_ (fun hs_=>((Kd.R_types (Kd.R_apart' (Kd.R_apart' (HO400.out) (Kd.R_typed HO382.out) (by decide)) (Kd.R_typed HO385.out) (by decide)) BK397.out (by decide)).1 k_ hs_.symm).2) (fun hn_=>(Kd.freshB (yk BK397) k_ hn_))⟩);replace HO382:=yRb HO382 hb;replace HO385:=yRb HO385 hb;replace HO390:=yRb HO390 hb;replace HO400:=yRb HO400 hb;replace BK397:=ybb BK397 hb;replace HB:=ybs hb;(try clear hb);(try clear ho0);obtain ⟨Ao32,co32,eo32⟩:=Kd.V_slice HO405.out;subst eo32)|((with_reducible refine gate_callee (f:=47) rfl ?_);refine ygl 22 Try.func47 #[.agg #[.int .u64 t401, .int .u32 t402, .slice Ao32 t403.length co32, .int .i64 t406], .slice Ao24 y383.length co24, .bool false] ?_;(with_reducible refine (gain_Take.calls k t401 t402 (fun k_=>(some k_≠(.slice Ao23 y380.length co23 : Value).ownBlock∧(some k_≠(.slice Ao24 y383.length co24 : Value).ownBlock∧(some k_≠(.slice Ao22 t388.length co22 : Value).ownBlock∧k_≠gb397)))) _ _ t403 t406 _ _ y383 false t407 t408 t409 t412 t413 t416 _ HO405.out ?side2 ?side3 A5.out).mono ?_);(case side2=>exact yce (Kd.R_reads' HO385.out).2.2);(case side3=>exact (Kd.R_reads' HO385.out).2.1);rintro e w33 ⟨v410,v414,rfl,ho0,ho1,hb⟩;refine ⟨_,rfl, ?_⟩;replace HO395:=zm (Kd.V_elder' (yr HO395) (Kd.R_base ho1) hb);replace HO400:=yRb HO400 hb;replace HO405:=zm (Kd.V_elder' (yr HO405) (Kd.R_base ho1) hb);have HO411:=yho (fun k_=>some k_≠(v414 : Value).ownBlock∧some k_≠(.slice Ao23 y380.length co23 : Value).ownBlock∧some k_≠(.slice Ao24 y383.length co24 : Value).ownBlock∧some k_≠(.slice Ao22 t388.length co22 : Value).ownBlock∧k_≠gb397) ho0 (fun k_ hk_=>⟨hk_.2,Or.elim hk_.1 (fun hs_=>hs_.1) (fun hn_=>(Kd.fresh' (Kd.R_lt (yr HO382)) k_ hn_)),Or.elim hk_.1 (fun hs_=>hs_.2.1) (fun hn_=>(Kd.fresh' (Kd.R_lt (yr HO385)) k_ hn_)),Or.elim hk_.1 (fun hs_=>hs_.2.2.1) (fun hn_=>(Kd.fresh' (Kd.R_lt (yr HO390)) k_ hn_)),Or.elim hk_.1 (fun hs_=>hs_.2.2.2) (fun hn_=>(Kd.freshB (yk BK397) k_ hn_))⟩);replace HO390:=yRb HO390 hb;have HO415:=zm (Kd.R_lower (Kd.R_new' (Kd.R_new' (zG (ok' := fun k_=>True) ho1 (fun _ hk_=>trivial)) (Kd.R_lt (yr HO382))) (Kd.R_lt (yr HO385))) (zE yhb));replace HO382:=zm (Kd.R_elder' (yr HO382) (Kd.R_base ho1) hb);replace HO385:=zm (Kd.R_elder' (yr HO385) (Kd.R_base ho1) hb);replace BK397:=ybb BK397 hb;replace HB:=ybs hb;(try clear hb);(try clear ho0);(try clear ho1))|((with_reducible refine gate_dst (N:=5) rfl ?_);refine ybx 5 #[.int .u64 0, .int .u32 0, .slice none 0 0, .int .i64 0] 43 ?_;intro gb417 hg w34 hbox hb;replace HO382:=yRb HO382 hb;replace HO385:=yRb HO385 hb;replace HO390:=yRb HO390 hb;replace HO395:=yVe HO395 hg hb;replace HO400:=yRb HO400 hb;replace HO405:=yVe HO405 hg hb;replace HO411:=yVe HO411 hg hb;replace HO415:=yRb HO415 hb;have BK417:=zm (hbox);have GW417:=ygw hg;have GE417:=ygw hg;replace HB:=ybs hb;have NB397_417:=ynl BK397 hg;have NB417_397:=yng BK397 hg;replace BK397:=ybb BK397 hb;clear hb hbox hg;have:=NB417_397.out;have:=NB397_417.out;obtain ⟨_,_,_,_,_,_,_,_⟩:=yc4 BK417;obtain ⟨Ao37,co37,eo37⟩:=Kd.V_slice HO411.out;subst eo37;obtain ⟨Ao38,co38,eo38⟩:=Kd.R_slice HO415.out;subst eo38)|(go_at_call 49;(with_reducible refine (psalteryref06_Same.calls k _ _ t413 _ _ y380 true _ ?side1 ?side2 ?side3 ?side4 A7.out).mono ?_);(case side1=>refine (Kd.R_reads' (e:=3) (base:=w.heap.size) (ok:=fun k_=>((True∧some k_≠(.slice Ao23 y380.length co23 : Value).ownBlock)∧some k_≠(.slice Ao24 y383.length co24 : Value).ownBlock)) (n:=t413.length) (c:=co38) ?_).2.2;exact (yR1 HO415 BK417));(case side2=>exact (Kd.R_reads' HO415.out).2.1);(case side3=>refine (Kd.R_reads' (e:=3) (base:=w.heap.size) (ok:=fun k_=>((True∧some k_≠(.slice Ao24 y383.length co24 : Value).ownBlock)∧some k_≠(.slice Ao38 t413.length co38 : Value).ownBlock)) (n:=y380.length) (c:=co23) ?_).2.2;exact (yR1 HO382 BK417));(case side4=>exact (Kd.R_reads' HO382.out).2.1);rintro e w' ⟨rfl,⟨nd,rfl⟩⟩)|(go_at_call 28;(with_reducible refine (coder_RightDec.calls t407 t408 _ _ t409 t412 true _ ?side1 ?side2 A10.out).mono ?_);(case side1=>refine (Kd.V_reads' (e:=5) (base:=w.heap.size) (ok:=fun k_=>((some k_≠(.slice Ao38 t413.length co38 : Value).ownBlock∧(some k_≠(.slice Ao23 y380.length co23 : Value).ownBlock∧(some k_≠(.slice Ao24 y383.length co24 : Value).ownBlock∧(some k_≠(.slice Ao22 t388.length co22 : Value).ownBlock∧k_≠gb397))))∧k_≠gb417)) (n:=t409.length) (c:=co37) ?_).2.2;exact (yV0 HO411));(case side2=>exact (Kd.V_reads' HO411.out).2.1);rintro e w39 ⟨rfl,hb⟩;replace HO382:=zm (Kd.R_below (yR1 HO382 BK417) hb);replace HO385:=zm (Kd.R_below (yR1 HO385 BK417) hb);replace HO390:=zm (Kd.R_below (yR1 HO390 BK417) hb);replace HO395:=zm (Kd.V_below (yV0 HO395) hb);replace HO400:=zm (Kd.R_below (yR1 HO400 BK417) hb);replace HO405:=zm (Kd.V_below (yV0 HO405) hb);replace HO411:=zm (Kd.V_below (yV0 HO411) hb);replace HO415:=zm (Kd.R_below (yR1 HO415 BK417) hb);replace BK397:=ybb BK397 hb;replace BK417:=zm (zF (g:=gb417) (o:=.cells #[.int .u64 t407, .int .u32 t408, .slice Ao37 t409.length co37, .int .i64 t412] 43 (0,0)) (ykp BK417) hb);replace HB:=ybs hb;(try clear hb))|(go_at_call 50;(with_reducible refine (gain_Most.calls true t420 _ A12.out).mono ?_);rintro e w' ⟨rfl,⟨nd,rfl⟩⟩)|(go_at_call 50;(with_reducible refine (gain_Most.calls false t421 _ A14.out).mono ?_);rintro e w' ⟨rfl,⟨nd,rfl⟩⟩)|(go_at_call 45;(with_reducible refine (gain_Right.calls k _ _ y380 t422 _ ?side1 ?side2 A16.out).mono ?_);(case side1=>exact yce (Kd.R_reads' HO382.out).2.2);(case side2=>exact (Kd.R_reads' HO382.out).2.1);rintro e w' ⟨rfl,⟨nd,rfl⟩⟩))
 go_ret
 exact ⟨ye,yhb⟩
mutual
def psalterylaw11_GainShort.l0 : Nat→List (S91)→List Int→Int→Int→Int→Int→List Int→Option (Bool)
 | 0,_,_,_,_,_,_,_=>none
 | k+1,x0,x4,x5,x6,x713000,x713001,x713002=>if x6 < (x0.length : Int) then (psalterylaw11_GainShort.j1 k x0 x4 x5 x6 (decide (x6 < 20)) x713000 x713001 x713002) else (psalterylaw11_GainShort.j1 k x0 x4 x5 x6 false x713000 x713001 x713002)
def psalterylaw11_GainShort.j1 : Nat→List (S91)→List Int→Int→Int→Bool→Int→Int→List Int→Option (Bool)
 | 0,_,_,_,_,_,_,_,_=>none
 | k+1,x0,x4,x5,x6,x18,x713000,x713001,x713002=>if x18=true then (if 0≤x6 then (if x6 < (x0.length : Int) then ((gain_Put.f k x713000 x713001 x713002 ((rd_T91 x0 x6).f0) x4 ((rd_T91 x0 x6).f1)).bind fun bt719=>(if bt719.2.2.2=0 then ((gain_Most.f ((rd_T91 x0 x6).f1)).bind fun t727=>(psalterylaw11_GainShort.l0 k x0 ((rd_T91 x0 x6).f0) (wrap64 (x5+t727)) (wrap64 (x6+1)) bt719.1 bt719.2.1 bt719.2.2.1)) else (psalterylaw11_GainShort.l0 k x0 x4 x5 (wrap64 (x6+1)) x713000 x713001 x713002))) else (none)) else (none)) else (if (wrap64 (8 * (x713002.length : Int)))≤(wrap64 (x5+3)) then ((psalterylaw11_knows.f k).bind fun t716=>(some t716)) else (none))
end
def psalterylaw11_GainShort.f (k : Nat) (l0 : List (S91)) : Option (Bool):=(coder_New.f).bind fun bt707=>(psalterylaw11_GainShort.l0 k l0 (([0,0,0,0,0] : List Int)) 0 0 bt707.1 bt707.2.1 bt707.2.2)
theorem psalterylaw11_GainShort.mono_l : ∀ k,(∀ y0 y1 y2 y3 y4 y5 y6,LeO (psalterylaw11_GainShort.l0 k y0 y1 y2 y3 y4 y5 y6) (psalterylaw11_GainShort.l0 (k+1) y0 y1 y2 y3 y4 y5 y6))∧(∀ y0 y1 y2 y3 y4 y5 y6 y7,LeO (psalterylaw11_GainShort.j1 k y0 y1 y2 y3 y4 y5 y6 y7) (psalterylaw11_GainShort.j1 (k+1) y0 y1 y2 y3 y4 y5 y6 y7))
 | 0=>⟨fun _ _ _ _ _ _ _ r h=>by simp [psalterylaw11_GainShort.l0] at h,fun _ _ _ _ _ _ _ _ r h=>by simp [psalterylaw11_GainShort.j1] at h⟩
 | k+1=>by
  obtain ⟨ih0,ih1⟩:=psalterylaw11_GainShort.mono_l k
  refine ⟨?_, ?_⟩
  ·
   intro y0 y1 y2 y3 y4 y5 y6
   unfold psalterylaw11_GainShort.l0
   repeat' with_reducible first|apply ih0|apply ih1|apply gain_Put.mono|apply psalterylaw11_knows.mono|apply yLr|apply yLn|apply yLi|apply yLb|intro _
  ·
   intro y0 y1 y2 y3 y4 y5 y6 y7
   unfold psalterylaw11_GainShort.j1
   repeat' with_reducible first|apply ih0|apply ih1|apply gain_Put.mono|apply psalterylaw11_knows.mono|apply yLr|apply yLn|apply yLi|apply yLb|intro _
theorem psalterylaw11_GainShort.mono : ∀ a0 k,LeO (psalterylaw11_GainShort.f k a0) (psalterylaw11_GainShort.f (k+1) a0):=by
 intro a0 k
 obtain ⟨ih0,ih1⟩:=psalterylaw11_GainShort.mono_l k
 unfold psalterylaw11_GainShort.f
 repeat' with_reducible first|apply ih0|apply ih1|apply gain_Put.mono|apply psalterylaw11_knows.mono|apply yLr|apply yLn|apply yLi|apply yLb|intro _
def psalterylaw11_GainShort.T7 : Bool × List (List Nat × List Nat):=(true, [([], []),([], []),([], []),([1,2], [1,2]),([3], [3]),([4], [4]),([], []),([], []),([], []),([7,8], [7,8]),([9], [9]),([10], [10]),([0,5,6,11], [0,5,6,11]),([12], [12]),([13], [13]),([13], [13]),([], []),([16,14,12,0,1,2,3,4,5,6,7,8,9,10,11,12,13,14,16], [14,16]),([15,17,0,1,2,3,4,5,6,7,8,9,10,11,12,13,14,15,16,17], [15])])
def psalterylaw11_GainShort.B7 : List Nat := [0,0,0,6,14,30,0,0,0,384,896,1920,4095,8191,16383,16383,0,98303,262143]
theorem psalterylaw11_GainShort.tab7 : rtab .any (opsOf Try.f16 7)=psalterylaw11_GainShort.T7:=by kernel_rfl
theorem psalterylaw11_GainShort.bits7 : waitsOk psalterylaw11_GainShort.T7.2 psalterylaw11_GainShort.B7=true:=by kernel_rfl
set_option maxHeartbeats 8000000 in
set_option maxRecDepth 100000 in
theorem psalterylaw11_GainShort.calls (k : Nat) (A0 : Option Addr) (c0 : Nat) (l0 : List (S91)) (r : Bool) (w : World) (hr0 : Kd.C k91 w A0 l0.length l0) (hc0 : l0.length≤c0) (h : psalterylaw11_GainShort.f k l0=some r) :
  Calls Try.prog 16 #[.slice A0 l0.length c0] w fun e w' => e=.returned (.bool r)∧Below w.heap.size w w' := by
 have hu26:=Try.underlying26;have HR0:=zm hr0;have HC0:=zm hc0;clear hr0 hc0;have HB:=zm (Below.refl w.heap.size w)
 have H : ((coder_New.f).bind fun bt707=>(psalterylaw11_GainShort.l0 k l0 (([0,0,0,0,0] : List Int)) 0 0 bt707.1 bt707.2.1 bt707.2.2))=some r:=h
 clear h
 replace H:=ybi H;obtain ⟨⟨t707,t708,t709⟩,A2,H⟩:=H
 try dsimp only at H
 obtain ⟨y713,hy713⟩ : ∃ y_ : List Int,y_=(([0,0,0,0,0] : List Int)):=⟨_,rfl⟩
 replace H : (psalterylaw11_GainShort.l0 k l0 y713 0 0 t707 t708 t709)=some r:=yrw hy713 H
 have Ny713:=zm hy713;clear hy713
 have H' := zm H
 clear H
 go_enter Try.func16,Try.ntmps16
 go_wp2_with (first|((with_reducible refine gate_callee (f:=29) rfl ?_);refine ygl 9 Try.func29 #[] ?_;(with_reducible refine (coder_New.calls  t707 t708 t709 _ A2.out).mono ?_);rintro e w3 ⟨v710,rfl,ho0,hb⟩;refine ⟨_,rfl, ?_⟩;have HO711:=zm (Kd.R_lower ho0 (zE yhb));replace HB:=ybs hb;(try clear hb);(try clear ho0))|((with_reducible refine gate_dst (N:=3) rfl ?_);refine ybx 3 #[.int .u64 0, .int .u32 0, .slice none 0 0] 26 ?_;intro gb712 hg w4 hbox hb;replace HO711:=yRb HO711 hb;have BK712:=zm (hbox);have GW712:=ygw hg;have GE712:=ygw hg;replace HB:=ybs hb;clear hb hbox hg;obtain ⟨hcz5_0,hcz5_1,hcz5_2,hfz5_0,hfz5_1,hfz5_2⟩:=yc3 BK712;obtain ⟨Ao6,co6,eo6⟩:=Kd.R_slice HO711.out;subst eo6)|((with_reducible refine gate_dst (N:=10) rfl ?_);refine Kd.R_lit (Kd.int .i64) _ 3 ?hg (N:=10) ?hd (xs:=([0,0,0,0,0] : List Int)) (inner := [.int .i64 0, .int .i64 0, .int .i64 0, .int .i64 0, .int .i64 0]) (ok:=fun _=>True) (okp:=fun _=>True) ?hr ?hp (fun _ hk=>hk) trivial (Below.refl _ _) (Nat.le_refl _) (by simp) ?_;(case hd=>rfl);(case hg=>rfl);(case hr=>first|(go_simp;done)|(go_simp;rfl));(case hp=>exact (Reps.one (show Kd.M (Kd.int .i64) _ _ _ 0 [.int .i64 0] from rfl) (Reps.one (show Kd.M (Kd.int .i64) _ _ _ 0 [.int .i64 0] from rfl) (Reps.one (show Kd.M (Kd.int .i64) _ _ _ 0 [.int .i64 0] from rfl) (Reps.one (show Kd.M (Kd.int .i64) _ _ _ 0 [.int .i64 0] from rfl) (Reps.one (show Kd.M (Kd.int .i64) _ _ _ 0 [.int .i64 0] from rfl) (Reps.none _ _)))))));intro v714 w7 ho8 hb hg_ hnew_;clear hg_ hnew_;(first|rw [← Ny713.out] at ho8|(simp only [Int.reduceToNat] at ho8;rw [← Ny713.out] at ho8));replace HO711:=zm (Kd.R_below (yR1 HO711 BK712) hb);have HO715:=zm (Kd.R_lower ho8 (zE yhb));replace BK712:=zm (zF (g:=gb712) (o:=.cells #[.int .u64 t707, .int .u32 t708, .slice Ao6 t709.length co6] 26 (0,0)) (ykp BK712) hb);replace HB:=ybs hb;clear hb ho8))
 go_loopg [4,5,6] k (fun kq v4 v5 v6 w' => ∃ (x4_1 : List Int) (u4 : Value) (x5_1 : Int) (x6_1 : Int) (x713000_1 : Int) (x713001_1 : Int) (x713002_1 : List Int) (u713002 : Value),v4=u4∧v5=.int .i64 x5_1∧v6=.int .i64 x6_1∧Aside0 (psalterylaw11_GainShort.l0 kq l0 x4_1 x5_1 x6_1 x713000_1 x713001_1 x713002_1=some r)∧Aside0 (kq≤k)∧Aside0 (Kd.V (Kd.int .i64) 3 w' w.heap.size (fun k_=>k_≠gb712) u4 x4_1)∧Aside0 (Kd.V (Kd.int .u8) 5 w' w.heap.size (fun k_=>k_≠gb712) u713002 x713002_1)∧Aside0 (w'.heap[gb712]? = some (.cells #[.int .u64 x713000_1, .int .u32 x713001_1,u713002] 26 (0,0)))∧Aside0 (Below w.heap.size w w'))
 case atStart=>exact ⟨(y713),(_),(0),(0),(t707),(t708),(t709),(.slice Ao6 t709.length co6),rfl,yq,yq,H',⟨Nat.le_refl _⟩,⟨Kd.R_V (by (with_reducible repeat (first|apply zo|apply zp|apply zq));exact zG (Kd.R_types HO715.out BK712.out (by decide)) (fun _ hk=>hk.2))⟩,⟨Kd.R_V (by (with_reducible repeat (first|apply zo|apply zp|apply zq));exact zG (Kd.R_types HO711.out BK712.out (by decide)) (fun _ hk=>hk.2))⟩,⟨yk BK712⟩,⟨yhb⟩⟩
 case round =>
  clear H'
  try clear hcz5_0
  try clear hcz5_1
  try clear hcz5_2
  try clear hfz5_0
  try clear hfz5_1
  try clear hfz5_2
  obtain ⟨x4_1,u4,x5_1,x6_1,x713000_1,x713001_1,x713002_1,u713002,rfl,rfl,rfl,HA,HK1,HO_4,HO_713002,BK712,HB⟩:=hrel
  obtain ⟨k1,rfl⟩:=ysu gk (fun h=>by subst h;exact absurd HA.out (by simp [psalterylaw11_GainShort.l0]))
  have H:=HA.out;clear HA
  simp only [psalterylaw11_GainShort.l0] at H
  have HC9:=zm H;clear H
  go_upto_region 5 with (fail)
  go_cut [18] (fun v18 wc => ∃ (kq : Nat) (x18_8 : Bool),v18=.bool x18_8∧Aside0 (psalterylaw11_GainShort.j1 kq l0 x4_1 x5_1 x6_1 x18_8 x713000_1 x713001_1 x713002_1=some r)∧Aside0 (kq≤k1)∧Aside0 (Kd.V (Kd.int .i64) 3 wc w.heap.size (fun k_=>k_≠gb712) u4 x4_1)∧Aside0 (Kd.V (Kd.int .u8) 5 wc w.heap.size (fun k_=>k_≠gb712) u713002 x713002_1)∧Aside0 (wc.heap[gb712]? = some (.cells #[.int .u64 x713000_1, .int .u32 x713001_1,u713002] 26 (0,0)))∧Aside0 (Below w.heap.size w wc))
  case first =>
   have H:=HC9.out;clear HC9
   by_cases c10 : x6_1 < (l0.length : Int)
   ·
    rw [if_pos c10] at H
    have c10b0 : decide (x6_1 < (l0.length : Int))=true:=decide_eq_true c10
    clear c10
    (first|rw [c10b0]|(simp only [i64_w,i32_w];rw [c10b0])|skip)
    have H' := zm H
    clear H
    go_wp2
    go_meet
    case rel=>exact ⟨_,(decide (x6_1 < 20)),yq,H',⟨yom1 HK1⟩,⟨yr HO_4⟩,⟨yr HO_713002⟩,⟨yk BK712⟩,⟨yhb⟩⟩
   ·
    rw [if_neg c10] at H
    have c10b0 : decide (x6_1 < (l0.length : Int))=false:=decide_eq_false c10
    clear c10
    (first|rw [c10b0]|(simp only [i64_w,i32_w];rw [c10b0])|skip)
    have H' := zm H
    clear H
    go_wp2
    go_meet
    case rel=>exact ⟨_,(false),yq,H',⟨yom1 HK1⟩,⟨yr HO_4⟩,⟨yr HO_713002⟩,⟨yk BK712⟩,⟨yhb⟩⟩
  case rest =>
   clear HC9
   obtain ⟨kq,x18_8,rfl,HA,HJ8,HO_4,HO_713002,BK712,HB⟩:=hcut
   obtain ⟨kj8,rfl⟩:=ysu kq (fun h=>by subst h;exact absurd HA.out (by simp [psalterylaw11_GainShort.j1]))
   have H:=HA.out;clear HA
   simp only [psalterylaw11_GainShort.j1] at H
   by_cases c11 : x18_8=true
   ·
    subst c11
    rw [if_pos rfl] at H
    replace H:=yif H;obtain ⟨c12,H⟩:=H
    have c12b0 : decide (0≤x6_1)=true:=decide_eq_true c12
    clear c12
    replace H:=yif H;obtain ⟨c13,H⟩:=H
    have c13b0 : decide (x6_1 < (l0.length : Int))=true:=decide_eq_true c13
    clear c13
    replace H:=ybi H;obtain ⟨⟨t719,t720,t721,t724⟩,A14,H⟩:=H
    try dsimp only at H
    by_cases c15 : t724=0
    ·
     rw [if_pos c15] at H
     have c15b0 : (t724 == 0)=true:=beq_iff_eq.mpr c15
     have c15b1 : (t724 != 0)=false:=bne_eq_false_iff_eq.mpr c15
     clear c15
     replace H:=ybi H;obtain ⟨t727,A16,H⟩:=H
     have H' := zm H
     clear H
     obtain ⟨Ao17,co17,eo17⟩:=Kd.V_slice HO_713002.out
     subst eo17
     obtain ⟨Ao18,co18,eo18⟩:=Kd.V_slice HO_4.out
     subst eo18
     try go_wp2
     replace HO_4:=zm (zC HO_4.out)
     replace HO_713002:=zm (zC HO_713002.out)
     replace BK712:=zm (zj BK712.out)
     replace HB:=zm (zf HB.out)
     have p717 : 0≤(x6_1 : Int):=yt
     have q717 : x6_1 < (l0.length : Int):=yt
     obtain ⟨ad717,A717_0,c717_0,e717,hx717_0,hx717_1,hl717_0,hi717_0⟩:=at_T91 HR0.out x6_1 p717 q717
     have hw717_1:=hx717_1;have hw717_0:=hx717_0
     cases e717
     replace hx717_0:=yhx HB hx717_0
     replace hx717_1:=yhx HB hx717_1
     have HR717_0:=zm hi717_0;have HC717_0:=zm hl717_0;clear hi717_0 hl717_0
     replace p717:=eq_true p717
     replace q717:=eq_true q717
     have p718 : 0≤(x6_1 : Int):=yt
     have q718 : x6_1 < (l0.length : Int):=yt
     obtain ⟨ad718,A718_0,c718_0,e718,hx718_0,hx718_1,hl718_0,hi718_0⟩:=at_T91 HR0.out x6_1 p718 q718
     have hw718_1:=hx718_1;have hw718_0:=hx718_0
     obtain rfl : ad717=ad718:=(by injection e718)
     replace hx718_0:=yhx HB hx718_0
     replace hx718_1:=yhx HB hx718_1
     have HR718_0:=zm hi718_0;have HC718_0:=zm hl718_0;clear hi718_0 hl718_0
     replace p718:=eq_true p718
     replace q718:=eq_true q718
     have ea_:=Option.some.inj (hx717_0.symm.trans hx718_0)
     injection ea_ with ea_ en_ ec_
     subst ea_;subst ec_;clear en_
     refine yst (fun w' => w'.cell? ⟨gb712,0,none⟩=some (.int .u64 x713000_1)∧w'.cell? ⟨gb712,1,none⟩=some (.int .u32 x713001_1)∧w'.cell? ⟨gb712,2,none⟩=some (.slice Ao17 x713002_1.length co17)∧w'.cell? (ad717.add ((x6_1).toNat * 2))=some (.slice A717_0 ((rd_T91 l0 x6_1).f0).length c717_0)∧w'.cell? ⟨(ad717.add ((x6_1).toNat * 2)).block,(ad717.add ((x6_1).toNat * 2)).off+1,none⟩=some (.bool ((rd_T91 l0 x6_1).f1))∧w'.cell? (ad717.add ((x6_1).toNat * 2))=some (.slice A717_0 ((rd_T91 l0 x6_1).f0).length c717_0)∧w'.cell? ⟨(ad717.add ((x6_1).toNat * 2)).block,(ad717.add ((x6_1).toNat * 2)).off+1,none⟩=some (.bool ((rd_T91 l0 x6_1).f1))) [] 19 psalterylaw11_GainShort.tab7 psalterylaw11_GainShort.bits7 (fun hHeld HT_ HW_ => ?_)
     generalize wc.drew=w19 at HO_4 HO_713002 BK712 HB HR717_0 HR718_0 hx717_0 hx717_1 hx718_0 hx718_1 hHeld ⊢
     refine yp 1 23 HT_ ?_
     refine yp 2 24 HT_ ?_
     refine yp 3 25 HT_ ?_
     refine yp 4 26 HT_ ?_
     refine yp 6 28 HT_ ?_
     refine yp 7 29 HT_ ?_
     refine yp 8 30 HT_ ?_
     refine yp 9 31 HT_ ?_
     refine yp 10 32 HT_ ?_
     refine yl 0 22 HT_ HW_ hHeld ?_
     refine yl 5 27 HT_ HW_ hHeld ?_
     refine yl 11 33 HT_ HW_ hHeld ?_
     refine join_ (σ:=Value × Nat) 2 #[true,true,true,true,true,true,true,true,true,true,true,true,true,true,true,true,true,false,false] (fun s_ => [(34, .tuple #[.agg #[.int .u64 t719, .int .u32 t720,s_.1], .int .i64 t724]),(7, .pointer (some ⟨s_.2,0,none⟩)),(21, .tuple #[.agg #[.int .u64 t719, .int .u32 t720,s_.1], .int .i64 t724]),(35, .agg #[.int .u64 t719, .int .u32 t720,s_.1]),(36, .int .i64 t724)]) (fun s_ w' => (w'.cell? ⟨gb712,0,none⟩=some (.int .u64 x713000_1)∧w'.cell? ⟨gb712,1,none⟩=some (.int .u32 x713001_1)∧w'.cell? ⟨gb712,2,none⟩=some (.slice Ao17 x713002_1.length co17)∧w'.cell? (ad717.add ((x6_1).toNat * 2))=some (.slice A717_0 ((rd_T91 l0 x6_1).f0).length c717_0)∧w'.cell? ⟨(ad717.add ((x6_1).toNat * 2)).block,(ad717.add ((x6_1).toNat * 2)).off+1,none⟩=some (.bool ((rd_T91 l0 x6_1).f1))∧w'.cell? (ad717.add ((x6_1).toNat * 2))=some (.slice A717_0 ((rd_T91 l0 x6_1).f0).length c717_0)∧w'.cell? ⟨(ad717.add ((x6_1).toNat * 2)).block,(ad717.add ((x6_1).toNat * 2)).off+1,none⟩=some (.bool ((rd_T91 l0 x6_1).f1)))∧(Kd.V (Kd.int .u8) 5 w' w.heap.size (fun k_=>k_≠gb712∧k_≠s_.2) s_.1 t721)∧(Kd.V (Kd.int .i64) 3 w' w.heap.size (fun k_=>k_≠gb712∧k_≠s_.2) (.slice Ao18 x4_1.length co18) x4_1)∧(Kd.V (Kd.int .u8) 5 w' w.heap.size (fun k_=>k_≠gb712∧k_≠s_.2) (.slice Ao17 x713002_1.length co17) x713002_1)∧(w'.heap[gb712]? = some (.cells #[.int .u64 x713000_1, .int .u32 x713001_1, .slice Ao17 x713002_1.length co17] 26 (0,0)))∧(w'.heap[s_.2]? = some (.cells #[.int .u64 0, .int .u32 0, .slice none 0 0] 26 (0,0)))∧(w.heap.size≤s_.2)∧(w.heap.size≤s_.2)∧(gb712≠s_.2)∧(s_.2≠gb712)∧(Below w.heap.size w w')) ?_ ?_
     rotate_left
     ·
      intro hCont
      refine two_ (i:=12) (j:=16) (Ni:=some 34) (Nj:=some 7) #[true,true,true,true,true,true,true,true,true,true,true,true,true,false,false,false,false,false,false] #[true,true,true,true,true,true,true,true,true,true,true,true,false,false,false,false,true,false,false] rfl rfl rfl rfl (two_of HT_.out (by kernel_rfl)) (by decide) (by decide) (fun K hK => ?_) (fun K hK => ?_)
      ·
       skip
       refine ygs Try.func43 #[.agg #[.int .u64 x713000_1, .int .u32 x713001_1, .slice Ao17 x713002_1.length co17], .slice A717_0 ((rd_T91 l0 x6_1).f0).length c717_0, .slice Ao18 x4_1.length co18, .bool ((rd_T91 l0 x6_1).f1)] ?_
       with_reducible refine (gain_Put.calls kj8 x713000_1 x713001_1 (fun k_=>(k_≠gb712)) _ _ x713002_1 _ _ ((rd_T91 l0 x6_1).f0) _ _ x4_1 ((rd_T91 l0 x6_1).f1) t719 t720 t721 t724 _ ?side1 ?side2 ?side3 ?side4 ?side5 A14.out).mono ?_
       (case side1=>exact HO_713002.out)
       (case side2=>exact ycb HR717_0)
       (case side3=>exact HC717_0.out)
       (case side4=>exact yce (Kd.V_reads' HO_4.out).2.2)
       (case side5=>exact (Kd.V_reads' HO_4.out).2.1)
       rintro e w20 ⟨v722,rfl,ho0,hb⟩
       refine ⟨_,rfl, ?_⟩
       replace HO_4:=yVb HO_4 hb
       replace HO_713002:=yVb HO_713002 hb
       have HO723:=yho (fun k_=>k_≠gb712) ho0 (fun k_ hk_=>yoB BK712 hk_)
       replace BK712:=ybb BK712 hb
       replace HB:=ybs hb
       (try clear hb)
       (try clear ho0)
       refine hK.out _ _ yH (fun hHeld => ?_)
       clear hK K
       refine ym (some 34) ?_
       refine yp 13 21 HT_ ?_
       refine yp 14 35 HT_ ?_
       refine yp 15 36 HT_ ?_
       refine yw 16 7 HT_ (fun K hK => ?_)
       refine box_step ?hg (N:=7) ?hd (cs := #[.int .u64 0, .int .u32 0, .slice none 0 0]) (t:=26) ?hr ?_;(case hd=>rfl);(case hg=>rfl);(case hr=>first|(go_simp;done)|(go_simp;rfl))
       intro gb725 hg w21 hbox hb
       replace HO_4:=yVe HO_4 hg hb
       replace HO_713002:=yVe HO_713002 hg hb
       replace HO723:=yVe HO723 hg hb
       have BK725:=zm (hbox)
       have GW725:=ygw hg
       have GE725:=ygw hg
       replace HB:=ybs hb
       have NB712_725:=ynl BK712 hg
       have NB725_712:=yng BK712 hg
       replace BK712:=ybb BK712 hb
       clear hb hbox hg
       refine hK.out _ _ yH (fun hHeld => ?_)
       clear hK K
       refine ym (some 7) ?_
       exact norm_ (by simp only [putAll,Act.put,List.setIfInBounds_toArray,List.set_cons_zero,List.set_cons_succ]) (hCont (v722,gb725) _ ⟨hHeld,(yV0 HO723),(yr HO_4),(yV0 HO_713002),(yk BK712),(yk BK725),GW725.out,GE725.out,NB712_725.out,NB725_712.out,yhb⟩)
      ·
       skip
       refine box_step ?hg (N:=7) ?hd (cs := #[.int .u64 0, .int .u32 0, .slice none 0 0]) (t:=26) ?hr ?_;(case hd=>rfl);(case hg=>rfl);(case hr=>first|(go_simp;done)|(go_simp;rfl))
       intro gb725 hg w20 hbox hb
       replace HO_4:=yVe HO_4 hg hb
       replace HO_713002:=yVe HO_713002 hg hb
       have BK725:=zm (hbox)
       have GW725:=ygw hg
       have GE725:=ygw hg
       replace HB:=ybs hb
       have NB712_725:=ynl BK712 hg
       have NB725_712:=yng BK712 hg
       replace BK712:=ybb BK712 hb
       clear hb hbox hg
       refine hK.out _ _ yH (fun hHeld => ?_)
       clear hK K
       refine ym (some 7) ?_
       refine yw 12 34 HT_ (fun K hK => ?_)
       refine ygs Try.func43 #[.agg #[.int .u64 x713000_1, .int .u32 x713001_1, .slice Ao17 x713002_1.length co17], .slice A717_0 ((rd_T91 l0 x6_1).f0).length c717_0, .slice Ao18 x4_1.length co18, .bool ((rd_T91 l0 x6_1).f1)] ?_
       with_reducible refine (gain_Put.calls kj8 x713000_1 x713001_1 (fun k_=>(k_≠gb712∧k_≠gb725)) _ _ x713002_1 _ _ ((rd_T91 l0 x6_1).f0) _ _ x4_1 ((rd_T91 l0 x6_1).f1) t719 t720 t721 t724 _ ?side1 ?side2 ?side3 ?side4 ?side5 A14.out).mono ?_
       (case side1=>exact HO_713002.out)
       (case side2=>exact ycb HR717_0)
       (case side3=>exact HC717_0.out)
       (case side4=>exact yce (Kd.V_reads' HO_4.out).2.2)
       (case side5=>exact (Kd.V_reads' HO_4.out).2.1)
       rintro e w21 ⟨v722,rfl,ho0,hb⟩
       refine ⟨_,rfl, ?_⟩
       replace HO_4:=yVb HO_4 hb
       replace HO_713002:=yVb HO_713002 hb
       have HO723:=yho (fun k_=>k_≠gb712∧k_≠gb725) ho0 (fun k_ hk_=>⟨yoB BK712 hk_,yoB BK725 hk_⟩)
       replace BK712:=ybb BK712 hb
       replace BK725:=ybb BK725 hb
       replace HB:=ybs hb
       (try clear hb)
       (try clear ho0)
       refine hK.out _ _ yH (fun hHeld => ?_)
       clear hK K
       refine ym (some 34) ?_
       refine yp 13 21 HT_ ?_
       refine yp 14 35 HT_ ?_
       refine yp 15 36 HT_ ?_
       exact norm_ (by simp only [putAll,Act.put,List.setIfInBounds_toArray,List.set_cons_zero,List.set_cons_succ]) (hCont (v722,gb725) _ ⟨hHeld,(yr HO723),(yr HO_4),(yV0 HO_713002),(yk BK712),(yk BK725),GW725.out,GE725.out,NB712_725.out,NB725_712.out,yhb⟩)
     rintro ⟨v722,gb725⟩ w22 ⟨hS_,h0_,h1_,h2_,h3_,h4_,h5_,h6_,h7_,h8_,h9_⟩
     have n0_ : Aside0 (Kd.V (Kd.int .u8) 5 w22 w.heap.size (fun k_=>k_≠gb712∧k_≠gb725) v722 t721):=⟨h0_⟩
     have n1_ : Aside0 (Kd.V (Kd.int .i64) 3 w22 w.heap.size (fun k_=>k_≠gb712∧k_≠gb725) (.slice Ao18 x4_1.length co18) x4_1):=⟨h1_⟩
     have n2_ : Aside0 (Kd.V (Kd.int .u8) 5 w22 w.heap.size (fun k_=>k_≠gb712∧k_≠gb725) (.slice Ao17 x713002_1.length co17) x713002_1):=⟨h2_⟩
     have n3_ : Aside0 (w22.heap[gb712]? = some (.cells #[.int .u64 x713000_1, .int .u32 x713001_1, .slice Ao17 x713002_1.length co17] 26 (0,0))):=⟨h3_⟩
     have n4_ : Aside0 (w22.heap[gb725]? = some (.cells #[.int .u64 0, .int .u32 0, .slice none 0 0] 26 (0,0))):=⟨h4_⟩
     have n5_ : Aside0 (w.heap.size≤gb725):=⟨h5_⟩
     have n6_ : Aside0 (w.heap.size≤gb725):=⟨h6_⟩
     have n7_ : Aside0 (gb712≠gb725):=⟨h7_⟩
     have n8_ : Aside0 (gb725≠gb712):=⟨h8_⟩
     have n9_ : Aside0 (Below w.heap.size w w22):=⟨h9_⟩
     clear HO_4;clear HO_713002;clear BK712;clear HB;clear h0_ h1_ h2_ h3_ h4_ h5_ h6_ h7_ h8_ h9_;have HO723:=n0_;have HO_4:=n1_;have HO_713002:=n2_;have BK712:=n3_;have BK725:=n4_;have GW725:=n5_;have GE725:=n6_;have NB712_725:=n7_;have NB725_712:=n8_;have HB:=n9_;clear n0_ n1_ n2_ n3_ n4_ n5_ n6_ n7_ n8_ n9_
     have hHeld : w22.cell? ⟨gb712,0,none⟩=some (.int .u64 x713000_1)∧w22.cell? ⟨gb712,1,none⟩=some (.int .u32 x713001_1)∧w22.cell? ⟨gb712,2,none⟩=some (.slice Ao17 x713002_1.length co17)∧w22.cell? (ad717.add ((x6_1).toNat * 2))=some (.slice A717_0 ((rd_T91 l0 x6_1).f0).length c717_0)∧w22.cell? ⟨(ad717.add ((x6_1).toNat * 2)).block,(ad717.add ((x6_1).toNat * 2)).off+1,none⟩=some (.bool ((rd_T91 l0 x6_1).f1))∧w22.cell? (ad717.add ((x6_1).toNat * 2))=some (.slice A717_0 ((rd_T91 l0 x6_1).f0).length c717_0)∧w22.cell? ⟨(ad717.add ((x6_1).toNat * 2)).block,(ad717.add ((x6_1).toNat * 2)).off+1,none⟩=some (.bool ((rd_T91 l0 x6_1).f1)):=hS_
     obtain ⟨Ao25,co25,eo25⟩:=Kd.V_slice HO723.out
     (first|subst eo25|(injection eo25 with f1_ f2_ f3_;have f4_:=f1_.symm;have f5_:=f3_.symm;clear f1_ f2_ f3_;subst f4_;subst f5_))
     refine norm_ (a' := ?_) ?_ ?_
     rotate_left
     ·
      simp only [putAll,Act.put,List.setIfInBounds_toArray,List.set_cons_zero,List.set_cons_succ]
      rfl
     refine yv 17 HT_ (fun K hK => ?_)
     have hs23 : w22.cell? ⟨gb725,0,none⟩=some (.int .u64 0):=(zs BK725.out 0).trans rfl
     have hfs23:=zx BK725.out 0
     have:=NB712_725.out
     have:=NB725_712.out
     have hs24 : w22.cell? ⟨gb725,1,none⟩=some (.int .u32 0):=(zs BK725.out 1).trans rfl
     have hfs24:=zx BK725.out 1
     have:=NB712_725.out
     have:=NB725_712.out
     have hs26 : w22.cell? ⟨gb725,2,none⟩=some (.slice none 0 0):=(zs BK725.out 2).trans rfl
     have hfs26:=zx BK725.out 2
     have:=NB712_725.out
     have:=NB725_712.out
     refine skip_ (w1 := ?_) (by rfl) rfl ?_ ?_
     rotate_left
     ·
      go_simp
      rfl
     refine hK.out _ _ ⟨((zr (p:=⟨gb725,_,none⟩) NB712_725.out _).trans (((zr (p:=⟨gb725,_,none⟩) NB712_725.out _).trans (((zr (p:=⟨gb725,_,none⟩) NB712_725.out _).trans (hHeld.1)))))),((zr (p:=⟨gb725,_,none⟩) NB712_725.out _).trans (((zr (p:=⟨gb725,_,none⟩) NB712_725.out _).trans (((zr (p:=⟨gb725,_,none⟩) NB712_725.out _).trans (hHeld.2.1)))))),((zr (p:=⟨gb725,_,none⟩) NB712_725.out _).trans (((zr (p:=⟨gb725,_,none⟩) NB712_725.out _).trans (((zr (p:=⟨gb725,_,none⟩) NB712_725.out _).trans (hHeld.2.2.1)))))),((zr (p:=⟨gb725,_,none⟩) (by first|exact zn (zl (by have:=zb _ _ hw717_0;first|rwa [za] at this|exact this) GW725.out)|(rw [za];exact zn (zl (by have:=zb _ _ hw717_0;first|rwa [za] at this|exact this) GW725.out))|(show (Addr.add _ _).block≠_;rw [za];exact zn (zl (by have:=zb _ _ hw717_0;first|rwa [za] at this|exact this) GW725.out))|(dsimp only;exact zn (zl (by have:=zb _ _ hw717_0;first|rwa [za] at this|exact this) GW725.out))) _).trans (((zr (p:=⟨gb725,_,none⟩) (by first|exact zn (zl (by have:=zb _ _ hw717_0;first|rwa [za] at this|exact this) GW725.out)|(rw [za];exact zn (zl (by have:=zb _ _ hw717_0;first|rwa [za] at this|exact this) GW725.out))|(show (Addr.add _ _).block≠_;rw [za];exact zn (zl (by have:=zb _ _ hw717_0;first|rwa [za] at this|exact this) GW725.out))|(dsimp only;exact zn (zl (by have:=zb _ _ hw717_0;first|rwa [za] at this|exact this) GW725.out))) _).trans (((zr (p:=⟨gb725,_,none⟩) (by first|exact zn (zl (by have:=zb _ _ hw717_0;first|rwa [za] at this|exact this) GW725.out)|(rw [za];exact zn (zl (by have:=zb _ _ hw717_0;first|rwa [za] at this|exact this) GW725.out))|(show (Addr.add _ _).block≠_;rw [za];exact zn (zl (by have:=zb _ _ hw717_0;first|rwa [za] at this|exact this) GW725.out))|(dsimp only;exact zn (zl (by have:=zb _ _ hw717_0;first|rwa [za] at this|exact this) GW725.out))) _).trans (hHeld.2.2.2.1)))))),((zr (p:=⟨gb725,_,none⟩) (by first|exact zn (zl (by have:=zb _ _ hw717_1;first|rwa [za] at this|exact this) GW725.out)|(rw [za];exact zn (zl (by have:=zb _ _ hw717_1;first|rwa [za] at this|exact this) GW725.out))|(show (Addr.add _ _).block≠_;rw [za];exact zn (zl (by have:=zb _ _ hw717_1;first|rwa [za] at this|exact this) GW725.out))|(dsimp only;exact zn (zl (by have:=zb _ _ hw717_1;first|rwa [za] at this|exact this) GW725.out))) _).trans (((zr (p:=⟨gb725,_,none⟩) (by first|exact zn (zl (by have:=zb _ _ hw717_1;first|rwa [za] at this|exact this) GW725.out)|(rw [za];exact zn (zl (by have:=zb _ _ hw717_1;first|rwa [za] at this|exact this) GW725.out))|(show (Addr.add _ _).block≠_;rw [za];exact zn (zl (by have:=zb _ _ hw717_1;first|rwa [za] at this|exact this) GW725.out))|(dsimp only;exact zn (zl (by have:=zb _ _ hw717_1;first|rwa [za] at this|exact this) GW725.out))) _).trans (((zr (p:=⟨gb725,_,none⟩) (by first|exact zn (zl (by have:=zb _ _ hw717_1;first|rwa [za] at this|exact this) GW725.out)|(rw [za];exact zn (zl (by have:=zb _ _ hw717_1;first|rwa [za] at this|exact this) GW725.out))|(show (Addr.add _ _).block≠_;rw [za];exact zn (zl (by have:=zb _ _ hw717_1;first|rwa [za] at this|exact this) GW725.out))|(dsimp only;exact zn (zl (by have:=zb _ _ hw717_1;first|rwa [za] at this|exact this) GW725.out))) _).trans (hHeld.2.2.2.2.1)))))),((zr (p:=⟨gb725,_,none⟩) (by first|exact zn (zl (by have:=zb _ _ hw718_0;first|rwa [za] at this|exact this) GW725.out)|(rw [za];exact zn (zl (by have:=zb _ _ hw718_0;first|rwa [za] at this|exact this) GW725.out))|(show (Addr.add _ _).block≠_;rw [za];exact zn (zl (by have:=zb _ _ hw718_0;first|rwa [za] at this|exact this) GW725.out))|(dsimp only;exact zn (zl (by have:=zb _ _ hw718_0;first|rwa [za] at this|exact this) GW725.out))) _).trans (((zr (p:=⟨gb725,_,none⟩) (by first|exact zn (zl (by have:=zb _ _ hw718_0;first|rwa [za] at this|exact this) GW725.out)|(rw [za];exact zn (zl (by have:=zb _ _ hw718_0;first|rwa [za] at this|exact this) GW725.out))|(show (Addr.add _ _).block≠_;rw [za];exact zn (zl (by have:=zb _ _ hw718_0;first|rwa [za] at this|exact this) GW725.out))|(dsimp only;exact zn (zl (by have:=zb _ _ hw718_0;first|rwa [za] at this|exact this) GW725.out))) _).trans (((zr (p:=⟨gb725,_,none⟩) (by first|exact zn (zl (by have:=zb _ _ hw718_0;first|rwa [za] at this|exact this) GW725.out)|(rw [za];exact zn (zl (by have:=zb _ _ hw718_0;first|rwa [za] at this|exact this) GW725.out))|(show (Addr.add _ _).block≠_;rw [za];exact zn (zl (by have:=zb _ _ hw718_0;first|rwa [za] at this|exact this) GW725.out))|(dsimp only;exact zn (zl (by have:=zb _ _ hw718_0;first|rwa [za] at this|exact this) GW725.out))) _).trans (hHeld.2.2.2.2.2.1)))))),((zr (p:=⟨gb725,_,none⟩) (by first|exact zn (zl (by have:=zb _ _ hw718_1;first|rwa [za] at this|exact this) GW725.out)|(rw [za];exact zn (zl (by have:=zb _ _ hw718_1;first|rwa [za] at this|exact this) GW725.out))|(show (Addr.add _ _).block≠_;rw [za];exact zn (zl (by have:=zb _ _ hw718_1;first|rwa [za] at this|exact this) GW725.out))|(dsimp only;exact zn (zl (by have:=zb _ _ hw718_1;first|rwa [za] at this|exact this) GW725.out))) _).trans (((zr (p:=⟨gb725,_,none⟩) (by first|exact zn (zl (by have:=zb _ _ hw718_1;first|rwa [za] at this|exact this) GW725.out)|(rw [za];exact zn (zl (by have:=zb _ _ hw718_1;first|rwa [za] at this|exact this) GW725.out))|(show (Addr.add _ _).block≠_;rw [za];exact zn (zl (by have:=zb _ _ hw718_1;first|rwa [za] at this|exact this) GW725.out))|(dsimp only;exact zn (zl (by have:=zb _ _ hw718_1;first|rwa [za] at this|exact this) GW725.out))) _).trans (((zr (p:=⟨gb725,_,none⟩) (by first|exact zn (zl (by have:=zb _ _ hw718_1;first|rwa [za] at this|exact this) GW725.out)|(rw [za];exact zn (zl (by have:=zb _ _ hw718_1;first|rwa [za] at this|exact this) GW725.out))|(show (Addr.add _ _).block≠_;rw [za];exact zn (zl (by have:=zb _ _ hw718_1;first|rwa [za] at this|exact this) GW725.out))|(dsimp only;exact zn (zl (by have:=zb _ _ hw718_1;first|rwa [za] at this|exact this) GW725.out))) _).trans (hHeld.2.2.2.2.2.2))))))⟩ (fun hHeld => ?_)
     clear hK K
     refine yp 18 8 HT_ ?_
     refine done_ (done_of HT_.out (by kernel_rfl)) ?_
     obtain ⟨w27,hw_⟩ : ∃ x,x=(((w22.setCell ⟨gb725,0,none⟩ (.int .u64 t719)).setCell ⟨gb725,1,none⟩ (.int .u32 t720)).setCell ⟨gb725,2,none⟩ (.slice Ao25 t721.length co25)):=⟨_,rfl⟩
     rw [← hw_]
     replace HO_4 : Aside0 (Kd.V (Kd.int .i64) 3 w27 w.heap.size (fun k_=>k_≠gb712∧k_≠gb725) (.slice Ao18 x4_1.length co18) x4_1):=⟨by rw [hw_];exact (yV0 HO_4)⟩
     replace HO_713002 : Aside0 (Kd.V (Kd.int .u8) 5 w27 w.heap.size (fun k_=>k_≠gb712∧k_≠gb725) (.slice Ao17 x713002_1.length co17) x713002_1):=⟨by rw [hw_];exact (yV0 HO_713002)⟩
     replace HO723 : Aside0 (Kd.V (Kd.int .u8) 5 w27 w.heap.size (fun k_=>k_≠gb712∧k_≠gb725) (.slice Ao25 t721.length co25) t721):=⟨by rw [hw_];exact (yV0 HO723)⟩
     replace BK712 : Aside0 (w27.heap[gb712]? = some (.cells #[.int .u64 x713000_1, .int .u32 x713001_1, .slice Ao17 x713002_1.length co17] 26 (0,0))):=⟨by rw [hw_];exact (yk BK712)⟩
     replace BK725 : Aside0 (w27.heap[gb725]? = some (.cells #[.int .u64 t719, .int .u32 t720, .slice Ao25 t721.length co25] 26 (0,0))):=⟨by rw [hw_];exact (ykp BK725)⟩
     replace HB : Aside0 (Below w.heap.size w w27):=⟨by rw [hw_];exact (yhb)⟩
     clear hw_
     have p726 : 0≤(x6_1 : Int):=yt
     have q726 : x6_1 < (l0.length : Int):=yt
     obtain ⟨ad726,A726_0,c726_0,e726,hx726_0,hx726_1,hl726_0,hi726_0⟩:=at_T91 HR0.out x6_1 p726 q726
     obtain rfl : ad717=ad726:=(by injection e726)
     replace hx726_0:=yhx HB hx726_0
     replace hx726_1:=yhx HB hx726_1
     have HR726_0:=zm hi726_0;have HC726_0:=zm hl726_0;clear hi726_0 hl726_0
     replace p726:=eq_true p726
     replace q726:=eq_true q726
     try go_wp2_with (first|((with_reducible refine gate_callee (f:=50) rfl ?_);refine ygl 45 Try.func50 #[.bool ((rd_T91 l0 x6_1).f1)] ?_;(with_reducible refine (gain_Most.calls ((rd_T91 l0 x6_1).f1) t727 _ A16.out).mono ?_);rintro e w' ⟨rfl,⟨nd,rfl⟩⟩;refine ⟨_,rfl, ?_⟩;(try (rw [drewN_self w27];generalize hq_ : World.drewN w27 _=w27;have n0_ : Aside0 (Kd.V (Kd.int .u8) 5 w27 w.heap.size (fun k_=>k_≠gb712∧k_≠gb725) (.slice Ao25 t721.length co25) t721):=⟨by rw [← hq_];exact (yr HO723)⟩;have n1_ : Aside0 (Kd.V (Kd.int .i64) 3 w27 w.heap.size (fun k_=>k_≠gb712∧k_≠gb725) (.slice Ao18 x4_1.length co18) x4_1):=⟨by rw [← hq_];exact (yr HO_4)⟩;have n2_ : Aside0 (Kd.V (Kd.int .u8) 5 w27 w.heap.size (fun k_=>k_≠gb712∧k_≠gb725) (.slice Ao17 x713002_1.length co17) x713002_1):=⟨by rw [← hq_];exact (yr HO_713002)⟩;have n3_ : Aside0 (w27.heap[gb712]? = some (.cells #[.int .u64 x713000_1, .int .u32 x713001_1, .slice Ao17 x713002_1.length co17] 26 (0,0))):=⟨by rw [← hq_];exact (yk BK712)⟩;have n4_ : Aside0 (w27.heap[gb725]? = some (.cells #[.int .u64 t719, .int .u32 t720, .slice Ao25 t721.length co25] 26 (0,0))):=⟨by rw [← hq_];exact (yk BK725)⟩;have n5_ : Aside0 (Below w.heap.size w w27):=⟨by rw [← hq_];exact yhb⟩;clear HO723 HO_4 HO_713002 BK712 BK725 HB hq_;have HO723:=n0_;have HO_4:=n1_;have HO_713002:=n2_;have BK712:=n3_;have BK725:=n4_;have HB:=n5_;clear n0_ n1_ n2_ n3_ n4_ n5_));have p728 : 0≤(x6_1 : Int):=yt;have q728 : x6_1 < (l0.length : Int):=yt;obtain ⟨ad728,A728_0,c728_0,e728,hx728_0,hx728_1,hl728_0,hi728_0⟩:=at_T91 HR0.out x6_1 p728 q728;obtain rfl : ad717=ad728:=(by injection e728);replace hx728_0:=yhx HB hx728_0;replace hx728_1:=yhx HB hx728_1;have HR728_0:=zm hi728_0;have HC728_0:=zm hl728_0;clear hi728_0 hl728_0;replace p728:=eq_true p728;replace q728:=eq_true q728;have:=NB725_712.out;have:=NB712_725.out;obtain ⟨_,_,_,_,_,_⟩:=yc3 BK725;obtain ⟨_,_,_,_,_,_⟩:=yc3 BK712))
     go_roundg kj8
     case measure=>exact yom2 HK1 HJ8
     case rel=>exact ⟨(_),(_),(wrap64 (x5_1+t727)),(wrap64 (x6_1+1)),(t719),(t720),(t721),(.slice Ao25 t721.length co25),rfl,yq,yq,H',⟨yom2 HK1 HJ8⟩,⟨by first|exact zy (Kd.V_mk HC728_0.out (Kd.F_below (Kd.C_F (Kd.heap_int .i64) HR728_0.out) yhb)) (fun k_ hk e_=>Nat.not_le.2 hk (by rw [e_];exact GW712.out))|exact zy (Kd.V_mk HC726_0.out (Kd.F_below (Kd.C_F (Kd.heap_int .i64) HR726_0.out) yhb)) (fun k_ hk e_=>Nat.not_le.2 hk (by rw [e_];exact GW712.out))|exact zy (Kd.V_mk HC718_0.out (Kd.F_below (Kd.C_F (Kd.heap_int .i64) HR718_0.out) yhb)) (fun k_ hk e_=>Nat.not_le.2 hk (by rw [e_];exact GW712.out))|exact zy (Kd.V_mk HC717_0.out (Kd.F_below (Kd.C_F (Kd.heap_int .i64) HR717_0.out) yhb)) (fun k_ hk e_=>Nat.not_le.2 hk (by rw [e_];exact GW712.out))⟩,⟨yV0 HO723⟩,⟨ykp BK712⟩,⟨yhb⟩⟩
    ·
     rw [if_neg c15] at H
     have c15b0 : (t724 == 0)=false:=beq_eq_false_iff_ne.mpr c15
     have c15b1 : (t724 != 0)=true:=bne_iff_ne.mpr c15
     have H' := zm H
     clear H
     obtain ⟨Ao31,co31,eo31⟩:=Kd.V_slice HO_713002.out
     subst eo31
     obtain ⟨Ao32,co32,eo32⟩:=Kd.V_slice HO_4.out
     subst eo32
     try go_wp2
     replace HO_4:=zm (zC HO_4.out)
     replace HO_713002:=zm (zC HO_713002.out)
     replace BK712:=zm (zj BK712.out)
     replace HB:=zm (zf HB.out)
     have p717 : 0≤(x6_1 : Int):=yt
     have q717 : x6_1 < (l0.length : Int):=yt
     obtain ⟨ad717,A717_0,c717_0,e717,hx717_0,hx717_1,hl717_0,hi717_0⟩:=at_T91 HR0.out x6_1 p717 q717
     have hw717_1:=hx717_1;have hw717_0:=hx717_0
     cases e717
     replace hx717_0:=yhx HB hx717_0
     replace hx717_1:=yhx HB hx717_1
     have HR717_0:=zm hi717_0;have HC717_0:=zm hl717_0;clear hi717_0 hl717_0
     replace p717:=eq_true p717
     replace q717:=eq_true q717
     have p718 : 0≤(x6_1 : Int):=yt
     have q718 : x6_1 < (l0.length : Int):=yt
     obtain ⟨ad718,A718_0,c718_0,e718,hx718_0,hx718_1,hl718_0,hi718_0⟩:=at_T91 HR0.out x6_1 p718 q718
     have hw718_1:=hx718_1;have hw718_0:=hx718_0
     obtain rfl : ad717=ad718:=(by injection e718)
     replace hx718_0:=yhx HB hx718_0
     replace hx718_1:=yhx HB hx718_1
     have HR718_0:=zm hi718_0;have HC718_0:=zm hl718_0;clear hi718_0 hl718_0
     replace p718:=eq_true p718
     replace q718:=eq_true q718
     have ea_:=Option.some.inj (hx717_0.symm.trans hx718_0)
     injection ea_ with ea_ en_ ec_
     subst ea_;subst ec_;clear en_
     refine yst (fun w' => w'.cell? ⟨gb712,0,none⟩=some (.int .u64 x713000_1)∧w'.cell? ⟨gb712,1,none⟩=some (.int .u32 x713001_1)∧w'.cell? ⟨gb712,2,none⟩=some (.slice Ao31 x713002_1.length co31)∧w'.cell? (ad717.add ((x6_1).toNat * 2))=some (.slice A717_0 ((rd_T91 l0 x6_1).f0).length c717_0)∧w'.cell? ⟨(ad717.add ((x6_1).toNat * 2)).block,(ad717.add ((x6_1).toNat * 2)).off+1,none⟩=some (.bool ((rd_T91 l0 x6_1).f1))∧w'.cell? (ad717.add ((x6_1).toNat * 2))=some (.slice A717_0 ((rd_T91 l0 x6_1).f0).length c717_0)∧w'.cell? ⟨(ad717.add ((x6_1).toNat * 2)).block,(ad717.add ((x6_1).toNat * 2)).off+1,none⟩=some (.bool ((rd_T91 l0 x6_1).f1))) [] 19 psalterylaw11_GainShort.tab7 psalterylaw11_GainShort.bits7 (fun hHeld HT_ HW_ => ?_)
     generalize wc.drew=w33 at HO_4 HO_713002 BK712 HB HR717_0 HR718_0 hx717_0 hx717_1 hx718_0 hx718_1 hHeld ⊢
     refine yp 1 23 HT_ ?_
     refine yp 2 24 HT_ ?_
     refine yp 3 25 HT_ ?_
     refine yp 4 26 HT_ ?_
     refine yp 6 28 HT_ ?_
     refine yp 7 29 HT_ ?_
     refine yp 8 30 HT_ ?_
     refine yp 9 31 HT_ ?_
     refine yp 10 32 HT_ ?_
     refine yl 0 22 HT_ HW_ hHeld ?_
     refine yl 5 27 HT_ HW_ hHeld ?_
     refine yl 11 33 HT_ HW_ hHeld ?_
     refine join_ (σ:=Value × Nat) 2 #[true,true,true,true,true,true,true,true,true,true,true,true,true,true,true,true,true,false,false] (fun s_ => [(34, .tuple #[.agg #[.int .u64 t719, .int .u32 t720,s_.1], .int .i64 t724]),(7, .pointer (some ⟨s_.2,0,none⟩)),(21, .tuple #[.agg #[.int .u64 t719, .int .u32 t720,s_.1], .int .i64 t724]),(35, .agg #[.int .u64 t719, .int .u32 t720,s_.1]),(36, .int .i64 t724)]) (fun s_ w' => (w'.cell? ⟨gb712,0,none⟩=some (.int .u64 x713000_1)∧w'.cell? ⟨gb712,1,none⟩=some (.int .u32 x713001_1)∧w'.cell? ⟨gb712,2,none⟩=some (.slice Ao31 x713002_1.length co31)∧w'.cell? (ad717.add ((x6_1).toNat * 2))=some (.slice A717_0 ((rd_T91 l0 x6_1).f0).length c717_0)∧w'.cell? ⟨(ad717.add ((x6_1).toNat * 2)).block,(ad717.add ((x6_1).toNat * 2)).off+1,none⟩=some (.bool ((rd_T91 l0 x6_1).f1))∧w'.cell? (ad717.add ((x6_1).toNat * 2))=some (.slice A717_0 ((rd_T91 l0 x6_1).f0).length c717_0)∧w'.cell? ⟨(ad717.add ((x6_1).toNat * 2)).block,(ad717.add ((x6_1).toNat * 2)).off+1,none⟩=some (.bool ((rd_T91 l0 x6_1).f1)))∧(Kd.V (Kd.int .u8) 5 w' w.heap.size (fun k_=>k_≠gb712∧k_≠s_.2) s_.1 t721)∧(Kd.V (Kd.int .i64) 3 w' w.heap.size (fun k_=>k_≠gb712∧k_≠s_.2) (.slice Ao32 x4_1.length co32) x4_1)∧(Kd.V (Kd.int .u8) 5 w' w.heap.size (fun k_=>k_≠gb712∧k_≠s_.2) (.slice Ao31 x713002_1.length co31) x713002_1)∧(w'.heap[gb712]? = some (.cells #[.int .u64 x713000_1, .int .u32 x713001_1, .slice Ao31 x713002_1.length co31] 26 (0,0)))∧(w'.heap[s_.2]? = some (.cells #[.int .u64 0, .int .u32 0, .slice none 0 0] 26 (0,0)))∧(w.heap.size≤s_.2)∧(w.heap.size≤s_.2)∧(gb712≠s_.2)∧(s_.2≠gb712)∧(Below w.heap.size w w')) ?_ ?_
     rotate_left
     ·
      intro hCont
      refine two_ (i:=12) (j:=16) (Ni:=some 34) (Nj:=some 7) #[true,true,true,true,true,true,true,true,true,true,true,true,true,false,false,false,false,false,false] #[true,true,true,true,true,true,true,true,true,true,true,true,false,false,false,false,true,false,false] rfl rfl rfl rfl (two_of HT_.out (by kernel_rfl)) (by decide) (by decide) (fun K hK => ?_) (fun K hK => ?_)
      ·
       skip
       refine ygs Try.func43 #[.agg #[.int .u64 x713000_1, .int .u32 x713001_1, .slice Ao31 x713002_1.length co31], .slice A717_0 ((rd_T91 l0 x6_1).f0).length c717_0, .slice Ao32 x4_1.length co32, .bool ((rd_T91 l0 x6_1).f1)] ?_
       with_reducible refine (gain_Put.calls kj8 x713000_1 x713001_1 (fun k_=>(k_≠gb712)) _ _ x713002_1 _ _ ((rd_T91 l0 x6_1).f0) _ _ x4_1 ((rd_T91 l0 x6_1).f1) t719 t720 t721 t724 _ ?side1 ?side2 ?side3 ?side4 ?side5 A14.out).mono ?_
       (case side1=>exact HO_713002.out)
       (case side2=>exact ycb HR717_0)
       (case side3=>exact HC717_0.out)
       (case side4=>exact yce (Kd.V_reads' HO_4.out).2.2)
       (case side5=>exact (Kd.V_reads' HO_4.out).2.1)
       rintro e w34 ⟨v722,rfl,ho0,hb⟩
       refine ⟨_,rfl, ?_⟩
       replace HO_4:=yVb HO_4 hb
       replace HO_713002:=yVb HO_713002 hb
       have HO723:=yho (fun k_=>k_≠gb712) ho0 (fun k_ hk_=>yoB BK712 hk_)
       replace BK712:=ybb BK712 hb
       replace HB:=ybs hb
       (try clear hb)
       (try clear ho0)
       refine hK.out _ _ yH (fun hHeld => ?_)
       clear hK K
       refine ym (some 34) ?_
       refine yp 13 21 HT_ ?_
       refine yp 14 35 HT_ ?_
       refine yp 15 36 HT_ ?_
       refine yw 16 7 HT_ (fun K hK => ?_)
       refine box_step ?hg (N:=7) ?hd (cs := #[.int .u64 0, .int .u32 0, .slice none 0 0]) (t:=26) ?hr ?_;(case hd=>rfl);(case hg=>rfl);(case hr=>first|(go_simp;done)|(go_simp;rfl))
       intro gb725 hg w35 hbox hb
       replace HO_4:=yVe HO_4 hg hb
       replace HO_713002:=yVe HO_713002 hg hb
       replace HO723:=yVe HO723 hg hb
       have BK725:=zm (hbox)
       have GW725:=ygw hg
       have GE725:=ygw hg
       replace HB:=ybs hb
       have NB712_725:=ynl BK712 hg
       have NB725_712:=yng BK712 hg
       replace BK712:=ybb BK712 hb
       clear hb hbox hg
       refine hK.out _ _ yH (fun hHeld => ?_)
       clear hK K
       refine ym (some 7) ?_
       exact norm_ (by simp only [putAll,Act.put,List.setIfInBounds_toArray,List.set_cons_zero,List.set_cons_succ]) (hCont (v722,gb725) _ ⟨hHeld,(yV0 HO723),(yr HO_4),(yV0 HO_713002),(yk BK712),(yk BK725),GW725.out,GE725.out,NB712_725.out,NB725_712.out,yhb⟩)
      ·
       skip
       refine box_step ?hg (N:=7) ?hd (cs := #[.int .u64 0, .int .u32 0, .slice none 0 0]) (t:=26) ?hr ?_;(case hd=>rfl);(case hg=>rfl);(case hr=>first|(go_simp;done)|(go_simp;rfl))
       intro gb725 hg w34 hbox hb
       replace HO_4:=yVe HO_4 hg hb
       replace HO_713002:=yVe HO_713002 hg hb
       have BK725:=zm (hbox)
       have GW725:=ygw hg
       have GE725:=ygw hg
       replace HB:=ybs hb
       have NB712_725:=ynl BK712 hg
       have NB725_712:=yng BK712 hg
       replace BK712:=ybb BK712 hb
       clear hb hbox hg
       refine hK.out _ _ yH (fun hHeld => ?_)
       clear hK K
       refine ym (some 7) ?_
       refine yw 12 34 HT_ (fun K hK => ?_)
       refine ygs Try.func43 #[.agg #[.int .u64 x713000_1, .int .u32 x713001_1, .slice Ao31 x713002_1.length co31], .slice A717_0 ((rd_T91 l0 x6_1).f0).length c717_0, .slice Ao32 x4_1.length co32, .bool ((rd_T91 l0 x6_1).f1)] ?_
       with_reducible refine (gain_Put.calls kj8 x713000_1 x713001_1 (fun k_=>(k_≠gb712∧k_≠gb725)) _ _ x713002_1 _ _ ((rd_T91 l0 x6_1).f0) _ _ x4_1 ((rd_T91 l0 x6_1).f1) t719 t720 t721 t724 _ ?side1 ?side2 ?side3 ?side4 ?side5 A14.out).mono ?_
       (case side1=>exact HO_713002.out)
       (case side2=>exact ycb HR717_0)
       (case side3=>exact HC717_0.out)
       (case side4=>exact yce (Kd.V_reads' HO_4.out).2.2)
       (case side5=>exact (Kd.V_reads' HO_4.out).2.1)
       rintro e w35 ⟨v722,rfl,ho0,hb⟩
       refine ⟨_,rfl, ?_⟩
       replace HO_4:=yVb HO_4 hb
       replace HO_713002:=yVb HO_713002 hb
       have HO723:=yho (fun k_=>k_≠gb712∧k_≠gb725) ho0 (fun k_ hk_=>⟨yoB BK712 hk_,yoB BK725 hk_⟩)
       replace BK712:=ybb BK712 hb
       replace BK725:=ybb BK725 hb
       replace HB:=ybs hb
       (try clear hb)
       (try clear ho0)
       refine hK.out _ _ yH (fun hHeld => ?_)
       clear hK K
       refine ym (some 34) ?_
       refine yp 13 21 HT_ ?_
       refine yp 14 35 HT_ ?_
       refine yp 15 36 HT_ ?_
       exact norm_ (by simp only [putAll,Act.put,List.setIfInBounds_toArray,List.set_cons_zero,List.set_cons_succ]) (hCont (v722,gb725) _ ⟨hHeld,(yr HO723),(yr HO_4),(yV0 HO_713002),(yk BK712),(yk BK725),GW725.out,GE725.out,NB712_725.out,NB725_712.out,yhb⟩)
     rintro ⟨v722,gb725⟩ w36 ⟨hS_,h0_,h1_,h2_,h3_,h4_,h5_,h6_,h7_,h8_,h9_⟩
     have n0_ : Aside0 (Kd.V (Kd.int .u8) 5 w36 w.heap.size (fun k_=>k_≠gb712∧k_≠gb725) v722 t721):=⟨h0_⟩
     have n1_ : Aside0 (Kd.V (Kd.int .i64) 3 w36 w.heap.size (fun k_=>k_≠gb712∧k_≠gb725) (.slice Ao32 x4_1.length co32) x4_1):=⟨h1_⟩
     have n2_ : Aside0 (Kd.V (Kd.int .u8) 5 w36 w.heap.size (fun k_=>k_≠gb712∧k_≠gb725) (.slice Ao31 x713002_1.length co31) x713002_1):=⟨h2_⟩
     have n3_ : Aside0 (w36.heap[gb712]? = some (.cells #[.int .u64 x713000_1, .int .u32 x713001_1, .slice Ao31 x713002_1.length co31] 26 (0,0))):=⟨h3_⟩
     have n4_ : Aside0 (w36.heap[gb725]? = some (.cells #[.int .u64 0, .int .u32 0, .slice none 0 0] 26 (0,0))):=⟨h4_⟩
     have n5_ : Aside0 (w.heap.size≤gb725):=⟨h5_⟩
     have n6_ : Aside0 (w.heap.size≤gb725):=⟨h6_⟩
     have n7_ : Aside0 (gb712≠gb725):=⟨h7_⟩
     have n8_ : Aside0 (gb725≠gb712):=⟨h8_⟩
     have n9_ : Aside0 (Below w.heap.size w w36):=⟨h9_⟩
     clear HO_4;clear HO_713002;clear BK712;clear HB;clear h0_ h1_ h2_ h3_ h4_ h5_ h6_ h7_ h8_ h9_;have HO723:=n0_;have HO_4:=n1_;have HO_713002:=n2_;have BK712:=n3_;have BK725:=n4_;have GW725:=n5_;have GE725:=n6_;have NB712_725:=n7_;have NB725_712:=n8_;have HB:=n9_;clear n0_ n1_ n2_ n3_ n4_ n5_ n6_ n7_ n8_ n9_
     have hHeld : w36.cell? ⟨gb712,0,none⟩=some (.int .u64 x713000_1)∧w36.cell? ⟨gb712,1,none⟩=some (.int .u32 x713001_1)∧w36.cell? ⟨gb712,2,none⟩=some (.slice Ao31 x713002_1.length co31)∧w36.cell? (ad717.add ((x6_1).toNat * 2))=some (.slice A717_0 ((rd_T91 l0 x6_1).f0).length c717_0)∧w36.cell? ⟨(ad717.add ((x6_1).toNat * 2)).block,(ad717.add ((x6_1).toNat * 2)).off+1,none⟩=some (.bool ((rd_T91 l0 x6_1).f1))∧w36.cell? (ad717.add ((x6_1).toNat * 2))=some (.slice A717_0 ((rd_T91 l0 x6_1).f0).length c717_0)∧w36.cell? ⟨(ad717.add ((x6_1).toNat * 2)).block,(ad717.add ((x6_1).toNat * 2)).off+1,none⟩=some (.bool ((rd_T91 l0 x6_1).f1)):=hS_
     obtain ⟨Ao39,co39,eo39⟩:=Kd.V_slice HO723.out
     (first|subst eo39|(injection eo39 with f1_ f2_ f3_;have f4_:=f1_.symm;have f5_:=f3_.symm;clear f1_ f2_ f3_;subst f4_;subst f5_))
     refine norm_ (a' := ?_) ?_ ?_
     rotate_left
     ·
      simp only [putAll,Act.put,List.setIfInBounds_toArray,List.set_cons_zero,List.set_cons_succ]
      rfl
     refine yv 17 HT_ (fun K hK => ?_)
     have hs37 : w36.cell? ⟨gb725,0,none⟩=some (.int .u64 0):=(zs BK725.out 0).trans rfl
     have hfs37:=zx BK725.out 0
     have:=NB712_725.out
     have:=NB725_712.out
     have hs38 : w36.cell? ⟨gb725,1,none⟩=some (.int .u32 0):=(zs BK725.out 1).trans rfl
     have hfs38:=zx BK725.out 1
     have:=NB712_725.out
     have:=NB725_712.out
     have hs40 : w36.cell? ⟨gb725,2,none⟩=some (.slice none 0 0):=(zs BK725.out 2).trans rfl
     have hfs40:=zx BK725.out 2
     have:=NB712_725.out
     have:=NB725_712.out
     refine skip_ (w1 := ?_) (by rfl) rfl ?_ ?_
     rotate_left
     ·
      go_simp
      rfl
     refine hK.out _ _ ⟨((zr (p:=⟨gb725,_,none⟩) NB712_725.out _).trans (((zr (p:=⟨gb725,_,none⟩) NB712_725.out _).trans (((zr (p:=⟨gb725,_,none⟩) NB712_725.out _).trans (hHeld.1)))))),((zr (p:=⟨gb725,_,none⟩) NB712_725.out _).trans (((zr (p:=⟨gb725,_,none⟩) NB712_725.out _).trans (((zr (p:=⟨gb725,_,none⟩) NB712_725.out _).trans (hHeld.2.1)))))),((zr (p:=⟨gb725,_,none⟩) NB712_725.out _).trans (((zr (p:=⟨gb725,_,none⟩) NB712_725.out _).trans (((zr (p:=⟨gb725,_,none⟩) NB712_725.out _).trans (hHeld.2.2.1)))))),((zr (p:=⟨gb725,_,none⟩) (by first|exact zn (zl (by have:=zb _ _ hw717_0;first|rwa [za] at this|exact this) GW725.out)|(rw [za];exact zn (zl (by have:=zb _ _ hw717_0;first|rwa [za] at this|exact this) GW725.out))|(show (Addr.add _ _).block≠_;rw [za];exact zn (zl (by have:=zb _ _ hw717_0;first|rwa [za] at this|exact this) GW725.out))|(dsimp only;exact zn (zl (by have:=zb _ _ hw717_0;first|rwa [za] at this|exact this) GW725.out))) _).trans (((zr (p:=⟨gb725,_,none⟩) (by first|exact zn (zl (by have:=zb _ _ hw717_0;first|rwa [za] at this|exact this) GW725.out)|(rw [za];exact zn (zl (by have:=zb _ _ hw717_0;first|rwa [za] at this|exact this) GW725.out))|(show (Addr.add _ _).block≠_;rw [za];exact zn (zl (by have:=zb _ _ hw717_0;first|rwa [za] at this|exact this) GW725.out))|(dsimp only;exact zn (zl (by have:=zb _ _ hw717_0;first|rwa [za] at this|exact this) GW725.out))) _).trans (((zr (p:=⟨gb725,_,none⟩) (by first|exact zn (zl (by have:=zb _ _ hw717_0;first|rwa [za] at this|exact this) GW725.out)|(rw [za];exact zn (zl (by have:=zb _ _ hw717_0;first|rwa [za] at this|exact this) GW725.out))|(show (Addr.add _ _).block≠_;rw [za];exact zn (zl (by have:=zb _ _ hw717_0;first|rwa [za] at this|exact this) GW725.out))|(dsimp only;exact zn (zl (by have:=zb _ _ hw717_0;first|rwa [za] at this|exact this) GW725.out))) _).trans (hHeld.2.2.2.1)))))),((zr (p:=⟨gb725,_,none⟩) (by first|exact zn (zl (by have:=zb _ _ hw717_1;first|rwa [za] at this|exact this) GW725.out)|(rw [za];exact zn (zl (by have:=zb _ _ hw717_1;first|rwa [za] at this|exact this) GW725.out))|(show (Addr.add _ _).block≠_;rw [za];exact zn (zl (by have:=zb _ _ hw717_1;first|rwa [za] at this|exact this) GW725.out))|(dsimp only;exact zn (zl (by have:=zb _ _ hw717_1;first|rwa [za] at this|exact this) GW725.out))) _).trans (((zr (p:=⟨gb725,_,none⟩) (by first|exact zn (zl (by have:=zb _ _ hw717_1;first|rwa [za] at this|exact this) GW725.out)|(rw [za];exact zn (zl (by have:=zb _ _ hw717_1;first|rwa [za] at this|exact this) GW725.out))|(show (Addr.add _ _).block≠_;rw [za];exact zn (zl (by have:=zb _ _ hw717_1;first|rwa [za] at this|exact this) GW725.out))|(dsimp only;exact zn (zl (by have:=zb _ _ hw717_1;first|rwa [za] at this|exact this) GW725.out))) _).trans (((zr (p:=⟨gb725,_,none⟩) (by first|exact zn (zl (by have:=zb _ _ hw717_1;first|rwa [za] at this|exact this) GW725.out)|(rw [za];exact zn (zl (by have:=zb _ _ hw717_1;first|rwa [za] at this|exact this) GW725.out))|(show (Addr.add _ _).block≠_;rw [za];exact zn (zl (by have:=zb _ _ hw717_1;first|rwa [za] at this|exact this) GW725.out))|(dsimp only;exact zn (zl (by have:=zb _ _ hw717_1;first|rwa [za] at this|exact this) GW725.out))) _).trans (hHeld.2.2.2.2.1)))))),((zr (p:=⟨gb725,_,none⟩) (by first|exact zn (zl (by have:=zb _ _ hw718_0;first|rwa [za] at this|exact this) GW725.out)|(rw [za];exact zn (zl (by have:=zb _ _ hw718_0;first|rwa [za] at this|exact this) GW725.out))|(show (Addr.add _ _).block≠_;rw [za];exact zn (zl (by have:=zb _ _ hw718_0;first|rwa [za] at this|exact this) GW725.out))|(dsimp only;exact zn (zl (by have:=zb _ _ hw718_0;first|rwa [za] at this|exact this) GW725.out))) _).trans (((zr (p:=⟨gb725,_,none⟩) (by first|exact zn (zl (by have:=zb _ _ hw718_0;first|rwa [za] at this|exact this) GW725.out)|(rw [za];exact zn (zl (by have:=zb _ _ hw718_0;first|rwa [za] at this|exact this) GW725.out))|(show (Addr.add _ _).block≠_;rw [za];exact zn (zl (by have:=zb _ _ hw718_0;first|rwa [za] at this|exact this) GW725.out))|(dsimp only;exact zn (zl (by have:=zb _ _ hw718_0;first|rwa [za] at this|exact this) GW725.out))) _).trans (((zr (p:=⟨gb725,_,none⟩) (by first|exact zn (zl (by have:=zb _ _ hw718_0;first|rwa [za] at this|exact this) GW725.out)|(rw [za];exact zn (zl (by have:=zb _ _ hw718_0;first|rwa [za] at this|exact this) GW725.out))|(show (Addr.add _ _).block≠_;rw [za];exact zn (zl (by have:=zb _ _ hw718_0;first|rwa [za] at this|exact this) GW725.out))|(dsimp only;exact zn (zl (by have:=zb _ _ hw718_0;first|rwa [za] at this|exact this) GW725.out))) _).trans (hHeld.2.2.2.2.2.1)))))),((zr (p:=⟨gb725,_,none⟩) (by first|exact zn (zl (by have:=zb _ _ hw718_1;first|rwa [za] at this|exact this) GW725.out)|(rw [za];exact zn (zl (by have:=zb _ _ hw718_1;first|rwa [za] at this|exact this) GW725.out))|(show (Addr.add _ _).block≠_;rw [za];exact zn (zl (by have:=zb _ _ hw718_1;first|rwa [za] at this|exact this) GW725.out))|(dsimp only;exact zn (zl (by have:=zb _ _ hw718_1;first|rwa [za] at this|exact this) GW725.out))) _).trans (((zr (p:=⟨gb725,_,none⟩) (by first|exact zn (zl (by have:=zb _ _ hw718_1;first|rwa [za] at this|exact this) GW725.out)|(rw [za];exact zn (zl (by have:=zb _ _ hw718_1;first|rwa [za] at this|exact this) GW725.out))|(show (Addr.add _ _).block≠_;rw [za];exact zn (zl (by have:=zb _ _ hw718_1;first|rwa [za] at this|exact this) GW725.out))|(dsimp only;exact zn (zl (by have:=zb _ _ hw718_1;first|rwa [za] at this|exact this) GW725.out))) _).trans (((zr (p:=⟨gb725,_,none⟩) (by first|exact zn (zl (by have:=zb _ _ hw718_1;first|rwa [za] at this|exact this) GW725.out)|(rw [za];exact zn (zl (by have:=zb _ _ hw718_1;first|rwa [za] at this|exact this) GW725.out))|(show (Addr.add _ _).block≠_;rw [za];exact zn (zl (by have:=zb _ _ hw718_1;first|rwa [za] at this|exact this) GW725.out))|(dsimp only;exact zn (zl (by have:=zb _ _ hw718_1;first|rwa [za] at this|exact this) GW725.out))) _).trans (hHeld.2.2.2.2.2.2))))))⟩ (fun hHeld => ?_)
     clear hK K
     refine yp 18 8 HT_ ?_
     refine done_ (done_of HT_.out (by kernel_rfl)) ?_
     try go_wp2
     go_roundg kj8
     case measure=>exact yom2 HK1 HJ8
     case rel=>exact ⟨(_),(_),(x5_1),(wrap64 (x6_1+1)),(x713000_1),(x713001_1),(x713002_1),(.slice Ao31 x713002_1.length co31),rfl,yq,yq,H',⟨yom2 HK1 HJ8⟩,⟨yV0 HO_4⟩,⟨yV0 HO_713002⟩,⟨yk BK712⟩,⟨yhb⟩⟩
   ·
    replace c11:=Bool.eq_false_iff.mpr c11
    subst c11
    rw [ynf] at H
    replace H:=yif H;obtain ⟨c41,H⟩:=H
    have c41b0 : decide ((wrap64 (8 * (x713002_1.length : Int)))≤(wrap64 (x5_1+3)))=true:=decide_eq_true c41
    clear c41
    replace H:=ybi H;obtain ⟨t716,A42,H⟩:=H
    obtain rfl:=Option.some.inj H
    obtain ⟨_,_,_,_,_,_⟩:=yc3 BK712
    obtain ⟨Ao44,co44,eo44⟩:=Kd.V_slice HO_713002.out
    subst eo44
    go_wp2_with (first|(go_at_call 42;(with_reducible refine (psalterylaw11_knows.calls kj8  t716 _ A42.out).mono ?_);rintro e w45 ⟨rfl,hb⟩;replace HO_4:=yVb HO_4 hb;replace HO_713002:=yVb HO_713002 hb;replace BK712:=ybb BK712 hb;replace HB:=ybs hb;(try clear hb)))
    go_ret
    exact ⟨ye,yhb⟩
def psalteryref05_Fair.f (a0 : Int) (a1 : Int) (a2 : Int) : Option (Bool):=if a0 ≥ 0 then (if a1 > a0 then (if a2 ≥ a1 then (some (decide (a2≤65536))) else (some false)) else (some false)) else (some false)
set_option maxHeartbeats 8000000 in
set_option maxRecDepth 100000 in
theorem psalteryref05_Fair.calls (a0 : Int) (a1 : Int) (a2 : Int) (r : Bool) (w : World) (h : psalteryref05_Fair.f a0 a1 a2=some r) :
  Calls Try.prog 35 #[.int .i64 a0, .int .i64 a1, .int .i64 a2] w fun e w' => e=.returned (.bool r)∧Drawn0 w w' := by
 have H : (if a0 ≥ 0 then (if a1 > a0 then (if a2 ≥ a1 then (some (decide (a2≤65536))) else (some false)) else (some false)) else (some false))=some r:=h
 clear h
 by_cases c4 : a0 ≥ 0
 ·
  rw [if_pos c4] at H
  have c4b0 : decide (0≤a0)=true:=decide_eq_true c4
  clear c4
  by_cases c5 : a1 > a0
  ·
   rw [if_pos c5] at H
   have c5b0 : decide (a0 < a1)=true:=decide_eq_true c5
   clear c5
   by_cases c6 : a2 ≥ a1
   ·
    rw [if_pos c6] at H
    have c6b0 : decide (a1≤a2)=true:=decide_eq_true c6
    clear c6
    obtain rfl:=Option.some.inj H
    go_enter Try.func35,Try.ntmps35
    go_wp2
    go_ret
    exact ⟨yq,yd⟩
   ·
    rw [if_neg c6] at H
    have c6b0 : decide (a1≤a2)=false:=decide_eq_false c6
    clear c6
    obtain rfl:=Option.some.inj H
    go_enter Try.func35,Try.ntmps35
    go_wp2
    go_ret
    exact ⟨yq,yd⟩
  ·
   rw [if_neg c5] at H
   have c5b0 : decide (a0 < a1)=false:=decide_eq_false c5
   clear c5
   obtain rfl:=Option.some.inj H
   go_enter Try.func35,Try.ntmps35
   go_wp2
   go_ret
   exact ⟨yq,yd⟩
 ·
  rw [if_neg c4] at H
  have c4b0 : decide (0≤a0)=false:=decide_eq_false c4
  clear c4
  obtain rfl:=Option.some.inj H
  go_enter Try.func35,Try.ntmps35
  go_wp2
  go_ret
  exact ⟨yq,yd⟩
def psalteryref05_add.l0 : Nat→Int→List Int→Int→Option (List Int)
 | 0,_,_,_=>none
 | k+1,x1,x5,x6=>if x6 ≥ 0 then (if 0≤x6 then (if x6 < (x5.length : Int) then (psalteryref05_add.l0 k (IntKind.u64.wrap (Int.tdiv (IntKind.u64.wrap (x1+(IntKind.u64.wrap (rd x5 x6)))) 256)) (x5.set (x6 : Int).toNat (wrap64 (Int.tmod (IntKind.u64.wrap (x1+(IntKind.u64.wrap (rd x5 x6)))) 256))) (wrap64 (x6 - 1))) else (none)) else (none)) else (some x5)
def psalteryref05_add.f (k : Nat) (l0 : List Int) (a1 : Int) : Option (List Int):=(some (([] : List Int) : List Int)).bind fun y423=>(if y423.length+l0.length < 17592186044416 then ((some (y423 ++ l0 : List Int)).bind fun y426=>(psalteryref05_add.l0 k a1 y426 (wrap64 ((y426.length : Int) - 1)))) else (none))
theorem psalteryref05_add.mono_l : ∀ k,(∀ y0 y1 y2,LeO (psalteryref05_add.l0 k y0 y1 y2) (psalteryref05_add.l0 (k+1) y0 y1 y2))
 | 0=>fun _ _ _ r h=>by simp [psalteryref05_add.l0] at h
 | k+1=>by
  have ih0:=psalteryref05_add.mono_l k
  ·
   intro y0 y1 y2
   unfold psalteryref05_add.l0
   repeat' with_reducible first|apply ih0|apply yLr|apply yLn|apply yLi|apply yLb|intro _
theorem psalteryref05_add.mono : ∀ a0 a1 k,LeO (psalteryref05_add.f k a0 a1) (psalteryref05_add.f (k+1) a0 a1):=by
 intro a0 a1 k
 have ih0:=psalteryref05_add.mono_l k
 unfold psalteryref05_add.f
 repeat' with_reducible first|apply ih0|apply yLr|apply yLn|apply yLi|apply yLb|intro _
set_option maxHeartbeats 8000000 in
set_option maxRecDepth 100000 in
theorem psalteryref05_add.calls (k : Nat) (A0 : Option Addr) (c0 : Nat) (l0 : List Int) (a1 : Int) (r : List Int) (w : World) (hr0 : Kd.C (Kd.int .i64) w A0 l0.length l0) (hc0 : l0.length≤c0) (h : psalteryref05_add.f k l0 a1=some r) :
  Calls Try.prog 56 #[.slice A0 l0.length c0, .int .u64 a1] w fun e w' => ∃ v0_ : Value,e=.returned (v0_)∧Kd.R (Kd.int .i64) 3 w' w.heap.size (fun _=>True) v0_ r∧Below w.heap.size w w' := by
 have HR0:=zm hr0;have HC0:=zm hc0;clear hr0 hc0;have HB:=zm (Below.refl w.heap.size w)
 have H : ((some (([] : List Int) : List Int)).bind fun y423=>(if y423.length+l0.length < 17592186044416 then ((some (y423 ++ l0 : List Int)).bind fun y426=>(psalteryref05_add.l0 k a1 y426 (wrap64 ((y426.length : Int) - 1)))) else (none)))=some r:=h
 clear h
 obtain ⟨y423,hy423⟩ : ∃ y_ : List Int,y_=(([] : List Int)):=⟨_,rfl⟩
 replace H : (if y423.length+l0.length < 17592186044416 then ((some (y423 ++ l0 : List Int)).bind fun y426=>(psalteryref05_add.l0 k a1 y426 (wrap64 ((y426.length : Int) - 1)))) else (none))=some r:=yrw hy423 H
 have Ny423:=zm hy423;clear hy423
 replace H:=yif H;obtain ⟨c3,H⟩:=H
 have LMc3:=zm c3;clear c3
 obtain ⟨y426,hy426⟩ : ∃ y_ : List Int,y_=(y423 ++ l0):=⟨_,rfl⟩
 replace H : (psalteryref05_add.l0 k a1 y426 (wrap64 ((y426.length : Int) - 1)))=some r:=yrw hy426 H
 have Ny426:=zm hy426;clear hy426
 have H' := zm H
 clear H
 go_enter Try.func56,Try.ntmps56
 go_wp2_with (first|((with_reducible refine gate_dst (N:=7) rfl ?_);refine Kd.R_lit (Kd.int .i64) _ 3 ?hg (N:=7) ?hd (xs:=([] : List Int)) (inner := []) (ok:=fun _=>True) (okp:=fun _=>True) ?hr ?hp (fun _ hk=>hk) trivial (Below.refl _ _) (Nat.le_refl _) (by simp) ?_;(case hd=>rfl);(case hg=>rfl);(case hr=>first|(go_simp;done)|(go_simp;rfl));(case hp=>exact (Reps.none _ _));intro v424 w4 ho5 hb hg_ hnew_;clear hg_ hnew_;(first|rw [← Ny423.out] at ho5|(simp only [Int.reduceToNat] at ho5;rw [← Ny423.out] at ho5));have HO425:=zm (Kd.R_lower ho5 (zE yhb));replace HB:=ybs hb;clear hb ho5)|((with_reducible refine gate_builtin (b:=.append) (xs := #[.tmp 7, .tmp 8]) rfl ?_);at_builtin;refine Kd.R_append_rows (Kd.int .i64) (w0:=w) w.heap.size rfl (.tmp 7) (.tmp 8) 31 3 (.int .i64 0) 8 rfl Try.underlying31 info3 rfl (by decide) (by omega) v424 y423 l0 _ _ _ (fun _=>True) (fun _=>False) rfl rfl ?aO ?aR (fun _ _ h=>h) (fun _ h=>h.elim) ?aF ?aB ?aS ?aL ?_;(case aR=>exact ycb HR0);(case aB=>exact yhb);(case aF=>exact (fun _ _=>trivial));(case aO=>exact (yr HO425));(case aS=>exact (zE yhb));(case aL=>have:=LMc3.out;omega);intro v427 w6 ho hb hg hat;rw [← Ny426.out] at ho;replace HB:=zm (hb);have HO428:=zm (ho);clear HO425;clear ho hb hg hat;obtain ⟨Ao7,co7,eo7⟩:=Kd.R_slice HO428.out;subst eo7))
 go_loopg [1,6] k (fun kq v1 v6 w' => ∃ (x1_1 : Int) (x5_1 : List Int) (x6_1 : Int),v1=.int .u64 x1_1∧v6=.int .i64 x6_1∧Aside0 (psalteryref05_add.l0 kq x1_1 x5_1 x6_1=some r)∧Aside0 (kq≤k)∧Aside0 (Kd.R (Kd.int .i64) 3 w' w.heap.size (fun _=>True) (.slice Ao7 y426.length co7) x5_1)∧Aside0 (Below w.heap.size w w'))
 case atStart=>exact ⟨(a1),(y426),(wrap64 ((y426.length : Int) - 1)),yq,yq,H',⟨Nat.le_refl _⟩,⟨yr HO428⟩,⟨yhb⟩⟩
 case round =>
  clear H'
  obtain ⟨x1_1,x5_1,x6_1,rfl,rfl,HA,HK1,HO_5,HB⟩:=hrel
  have hl5_1:=(Kd.R_reads' HO_5.out).1
  rw [hl5_1] at HO_5
  (try simp only [hl5_1])
  obtain ⟨k1,rfl⟩:=ysu gk (fun h=>by subst h;exact absurd HA.out (by simp [psalteryref05_add.l0]))
  have H:=HA.out;clear HA
  simp only [psalteryref05_add.l0] at H
  by_cases c8 : x6_1 ≥ 0
  ·
   rw [if_pos c8] at H
   have c8b0 : decide (0≤x6_1)=true:=decide_eq_true c8
   clear c8
   replace H:=yif H;obtain ⟨c9,H⟩:=H
   have c9b0 : decide (0≤x6_1)=true:=decide_eq_true c9
   clear c9
   replace H:=yif H;obtain ⟨c10,H⟩:=H
   have c10b0 : decide (x6_1 < (x5_1.length : Int))=true:=decide_eq_true c10
   clear c10
   obtain ⟨y430,hy430⟩ : ∃ y_ : List Int,y_=(x5_1.set (x6_1 : Int).toNat (wrap64 (Int.tmod (IntKind.u64.wrap (x1_1+(IntKind.u64.wrap (rd x5_1 x6_1)))) 256))):=⟨_,rfl⟩
   replace H : (psalteryref05_add.l0 k1 (IntKind.u64.wrap (Int.tdiv (IntKind.u64.wrap (x1_1+(IntKind.u64.wrap (rd x5_1 x6_1)))) 256)) y430 (wrap64 (x6_1 - 1)))=some r:=yrw hy430 H
   have Ny430:=zm hy430;clear hy430
   have H' := zm H
   clear H
   have p429 : 0≤(x6_1 : Int):=yt
   have q429 : x6_1 < (x5_1.length : Int):=yt
   obtain ⟨ad429,e429,hx429_0⟩:=Kd.at_int (Kd.R_reads' HO_5.out).2.2 x6_1 p429 q429
   cases e429
   replace p429:=eq_true p429
   replace q429:=eq_true q429
   have p11 : 0≤(x6_1 : Int):=yt
   have q11 : (x6_1 : Int) < ((x5_1.length : Int) : Int):=yt
   obtain ⟨go11,co11,eo11,gb11,gl11,cl11,HG11⟩:=Kd.R_form HO_5.out (by omega)
   (first|cases eo11|(injection eo11 with ea_ en_ ec_;(first|subst ea_|(injection ea_ with ea_;subst ea_));subst ec_;clear en_))
   have GB11:=zm gb11;have GG11:=zm HG11;clear gb11 gl11 HG11
   (first|simp only [add_plain] at hx429_0|skip)
   obtain ⟨hx11_0,hf11_0⟩:=Kd.R_celln 0 HO_5.out (x6_1 : Int) p11 q11
   replace p11:=eq_true p11
   replace q11:=eq_true q11
   have HP12:=Kd.R_putg HO_5.out (x6_1 : Int) (wrap64 (Int.tmod (IntKind.u64.wrap (x1_1+(IntKind.u64.wrap (rd x5_1 x6_1)))) 256))
   go_wp2_with (first|((with_reducible refine gate_store (t:=3) (p:=29) rfl ?_);refine store_event (t:=3) (p:=29) (v := ?vo_w13) (w1:=(wr.setCell ⟨go11,(x6_1 : Int).toNat,none⟩ (.int .i64 (wrap64 (Int.tmod (IntKind.u64.wrap (x1_1+(IntKind.u64.wrap (rd x5_1 x6_1)))) 256))))) ?hg ?ho ?hn ?hr ?_;(case ho=>rfl);(case hg=>rfl);(case hn=>rfl);(case hr=>first|(go_simp;done)|(go_simp;rfl));intro w13 hw;have hg : wr.grownBy w13 (some go11):=(by rw [hw];exact HP12.2);have hp_ : Kd.R (Kd.int .i64) 3 w13 w.heap.size (fun _=>True) (.slice (some ⟨go11,0,none⟩) x5_1.length co7) y430:=(by rw [hw,Ny430.out];exact HP12.1);clear HP12;replace HO_5:=zm (hp_);replace HB:=zm ((by rw [hw];exact zk (HB.out) GB11.out : Below w.heap.size w w13));clear hg hw hp_))
   (try simp only [← hl5_1])
   go_roundg k1
   case measure=>exact yom1 HK1
   case rel=>exact ⟨(IntKind.u64.wrap (Int.tdiv (IntKind.u64.wrap (x1_1+(IntKind.u64.wrap (rd x5_1 x6_1)))) 256)),(y430),(wrap64 (x6_1 - 1)),yq,yq,H',⟨yom1 HK1⟩,⟨by (try simp only [hl5_1]);(with_reducible repeat (first|apply zo|apply zp|apply zq));exact HO_5.out⟩,⟨yhb⟩⟩
  ·
   rw [if_neg c8] at H
   have c8b0 : decide (0≤x6_1)=false:=decide_eq_false c8
   clear c8
   obtain rfl:=Option.some.inj H
   go_wp2
   go_ret
   exact ⟨_,ye,yr HO_5,yhb⟩
def psalteryref05_part.f (a0 : Int) (a1 : Int) (a2 : Int) (a3 : Int) : Option (Int × Int):=if (IntKind.u64.wrap (a3))=0 then (none) else (if a2=a3 then (some (IntKind.u64.wrap (a0 - (IntKind.u64.wrap ((IntKind.u64.wrap (Int.tdiv a0 (IntKind.u64.wrap (a3)))) * (IntKind.u64.wrap (a1))))),IntKind.u64.wrap ((IntKind.u64.wrap (Int.tdiv a0 (IntKind.u64.wrap (a3)))) * (IntKind.u64.wrap (a1))))) else (some (IntKind.u64.wrap ((IntKind.u64.wrap (Int.tdiv a0 (IntKind.u64.wrap (a3)))) * (IntKind.u64.wrap (wrap64 (a2 - a1)))),IntKind.u64.wrap ((IntKind.u64.wrap (Int.tdiv a0 (IntKind.u64.wrap (a3)))) * (IntKind.u64.wrap (a1))))))
set_option maxHeartbeats 8000000 in
set_option maxRecDepth 100000 in
theorem psalteryref05_part.calls (a0 : Int) (a1 : Int) (a2 : Int) (a3 : Int) (r1 : Int) (r2 : Int) (w : World) (h : psalteryref05_part.f a0 a1 a2 a3=some (r1,r2)) :
  Calls Try.prog 55 #[.int .u64 a0, .int .i64 a1, .int .i64 a2, .int .i64 a3] w fun e w' => e=.returned (.tuple #[.int .u64 r1, .int .u64 r2])∧Drawn0 w w' := by
 have H : (if (IntKind.u64.wrap (a3))=0 then (none) else (if a2=a3 then (some (IntKind.u64.wrap (a0 - (IntKind.u64.wrap ((IntKind.u64.wrap (Int.tdiv a0 (IntKind.u64.wrap (a3)))) * (IntKind.u64.wrap (a1))))),IntKind.u64.wrap ((IntKind.u64.wrap (Int.tdiv a0 (IntKind.u64.wrap (a3)))) * (IntKind.u64.wrap (a1))))) else (some (IntKind.u64.wrap ((IntKind.u64.wrap (Int.tdiv a0 (IntKind.u64.wrap (a3)))) * (IntKind.u64.wrap (wrap64 (a2 - a1)))),IntKind.u64.wrap ((IntKind.u64.wrap (Int.tdiv a0 (IntKind.u64.wrap (a3)))) * (IntKind.u64.wrap (a1)))))))=some (r1,r2):=h
 clear h
 replace H:=yie H;obtain ⟨c5,H⟩:=H
 have c5b0 : ((IntKind.u64.wrap (a3)) == 0)=false:=beq_eq_false_iff_ne.mpr c5
 have c5b1 : ((IntKind.u64.wrap (a3)) != 0)=true:=bne_iff_ne.mpr c5
 by_cases c6 : a2=a3
 ·
  rw [if_pos c6] at H
  have c6b0 : (a2 == a3)=true:=beq_iff_eq.mpr c6
  have c6b1 : (a2 != a3)=false:=bne_eq_false_iff_eq.mpr c6
  clear c6
  simp only [Option.some.injEq,Prod.mk.injEq] at H
  obtain ⟨rfl,rfl⟩:=H
  go_enter Try.func55,Try.ntmps55
  go_wp2
  go_ret2
  exact ⟨yq,yd⟩
 ·
  rw [if_neg c6] at H
  have c6b0 : (a2 == a3)=false:=beq_eq_false_iff_ne.mpr c6
  have c6b1 : (a2 != a3)=true:=bne_iff_ne.mpr c6
  simp only [Option.some.injEq,Prod.mk.injEq] at H
  obtain ⟨rfl,rfl⟩:=H
  go_enter Try.func55,Try.ntmps55
  go_wp2
  go_ret2
  exact ⟨yq,yd⟩
def psalteryref05_Put.l0 : Nat→Int→List Int→Option (Int × List Int × Int)
 | 0,_,_=>none
 | k+1,x440000,x440001=>if x440000 < 16777216 then (if x440001.length < 17592186044416 then (psalteryref05_Put.l0 k (IntKind.u64.wrap (x440000 * 256)) (x440001 ++ [0])) else (none)) else (some (x440000,x440001,0))
def psalteryref05_Put.f (k : Nat) (a0_0 : Int) (l0_1 : List Int) (a1 : Int) (a2 : Int) (a3 : Int) : Option (Int × List Int × Int):=(psalteryref05_Fair.f a1 a2 a3).bind fun t433=>(if t433=true then (if (l0_1.length : Int) ≥ 4000 then (some (a0_0,l0_1,3)) else ((psalteryref05_part.f a0_0 a1 a2 a3).bind fun bt434=>((psalteryref05_add.f k l0_1 bt434.2).bind fun t436=>(psalteryref05_Put.l0 k bt434.1 t436)))) else (some (a0_0,l0_1,1)))
theorem psalteryref05_Put.mono_l : ∀ k,(∀ y0 y1,LeO (psalteryref05_Put.l0 k y0 y1) (psalteryref05_Put.l0 (k+1) y0 y1))
 | 0=>fun _ _ r h=>by simp [psalteryref05_Put.l0] at h
 | k+1=>by
  have ih0:=psalteryref05_Put.mono_l k
  ·
   intro y0 y1
   unfold psalteryref05_Put.l0
   repeat' with_reducible first|apply ih0|apply psalteryref05_add.mono|apply yLr|apply yLn|apply yLi|apply yLb|intro _
theorem psalteryref05_Put.mono : ∀ a0 a1 a2 a3 a4 k,LeO (psalteryref05_Put.f k a0 a1 a2 a3 a4) (psalteryref05_Put.f (k+1) a0 a1 a2 a3 a4):=by
 intro a0 a1 a2 a3 a4 k
 have ih0:=psalteryref05_Put.mono_l k
 unfold psalteryref05_Put.f
 repeat' with_reducible first|apply ih0|apply psalteryref05_add.mono|apply yLr|apply yLn|apply yLi|apply yLb|intro _
set_option maxHeartbeats 8000000 in
set_option maxRecDepth 100000 in
theorem psalteryref05_Put.calls (k : Nat) (a0_0 : Int) (P0_1_ : Nat→Prop) (A0_1 : Option Addr) (c0_1 : Nat) (l0_1 : List Int) (a1 : Int) (a2 : Int) (a3 : Int) (r1 : Int) (r2 : List Int) (r3 : Int) (w : World) (hs0_1 : Kd.V (Kd.int .i64) 3 w w.heap.size (fun k_=>P0_1_ k_) (.slice A0_1 l0_1.length c0_1) l0_1) (h : psalteryref05_Put.f k a0_0 l0_1 a1 a2 a3=some (r1,r2,r3)) :
  Calls Try.prog 19 #[.agg #[.int .u64 a0_0, .slice A0_1 l0_1.length c0_1], .int .i64 a1, .int .i64 a2, .int .i64 a3] w fun e w' => ∃ v1_ : Value,e=.returned (.tuple #[.agg #[.int .u64 r1,v1_], .int .i64 r3])∧Kd.V (Kd.int .i64) 3 w' w.heap.size (fun k_=>(P0_1_ k_∨w.heap.size≤k_)) v1_ r2∧Below w.heap.size w w' := by
 have hu33:=Try.underlying33
 have HO0_1:=zm (show Kd.V (Kd.int .i64) 3 w w.heap.size (fun k_=>(P0_1_ k_∨w.heap.size≤k_)) (.slice A0_1 l0_1.length c0_1) l0_1 from zy hs0_1 (fun k_ hk => .inl hk))
 have HB:=zm (Below.refl w.heap.size w)
 have H : ((psalteryref05_Fair.f a1 a2 a3).bind fun t433=>(if t433=true then (if (l0_1.length : Int) ≥ 4000 then (some (a0_0,l0_1,3)) else ((psalteryref05_part.f a0_0 a1 a2 a3).bind fun bt434=>((psalteryref05_add.f k l0_1 bt434.2).bind fun t436=>(psalteryref05_Put.l0 k bt434.1 t436)))) else (some (a0_0,l0_1,1))))=some (r1,r2,r3):=h
 clear h
 replace H:=ybi H;obtain ⟨t433,A5,H⟩:=H
 by_cases c6 : t433=true
 ·
  subst c6
  rw [if_pos rfl] at H
  by_cases c7 : (l0_1.length : Int) ≥ 4000
  ·
   rw [if_pos c7] at H
   have c7b0 : decide (4000≤(l0_1.length : Int))=true:=decide_eq_true c7
   have c7b1 : decide (4000≤l0_1.length)=true:=decide_eq_true (by omega)
   clear c7
   simp only [Option.some.injEq,Prod.mk.injEq] at H
   obtain ⟨rfl,rfl,rfl⟩:=H
   go_enter Try.func19,Try.ntmps19
   go_wp2_with (first|((with_reducible refine gate_dst (N:=4) rfl ?_);refine ybx 4 #[.int .u64 a0_0, .slice A0_1 l0_1.length c0_1] 33 ?_;intro gb431 hg w8 hbox hb;replace HO0_1:=yVe HO0_1 hg hb;have BK431:=zm (hbox);have GW431:=ygw hg;have GE431:=ygw hg;replace HB:=ybs hb;clear hb hbox hg)|((with_reducible refine gate_dst (N:=8) rfl ?_);refine ybx 8 #[.int .u64 0, .slice none 0 0] 33 ?_;intro gb432 hg w9 hbox hb;replace HO0_1:=yVe HO0_1 hg hb;have BK432:=zm (hbox);have GW432:=ygw hg;have GE432:=ygw hg;replace HB:=ybs hb;have NB431_432:=ynl BK431 hg;have NB432_431:=yng BK431 hg;replace BK431:=ybb BK431 hb;clear hb hbox hg)|((with_reducible refine gate_callee (f:=35) rfl ?_);refine ygl 16 Try.func35 #[.int .i64 a1, .int .i64 a2, .int .i64 a3] ?_;(with_reducible refine (psalteryref05_Fair.calls a1 a2 a3 true _ A5.out).mono ?_);rintro e w' ⟨rfl,⟨nd,rfl⟩⟩;refine ⟨_,rfl, ?_⟩;(try (rw [drewN_self w9];generalize hq_ : World.drewN w9 _=w9;have n0_ : Aside0 (Kd.V (Kd.int .i64) 3 w9 w.heap.size (fun k_=>(P0_1_ k_∨w.heap.size≤k_)∧k_≠gb431∧k_≠gb432) (.slice A0_1 l0_1.length c0_1) l0_1):=⟨by rw [← hq_];exact (yV0 HO0_1)⟩;have n1_ : Aside0 (w9.heap[gb431]? = some (.cells #[.int .u64 a0_0, .slice A0_1 l0_1.length c0_1] 33 (0,0))):=⟨by rw [← hq_];exact (yk BK431)⟩;have n2_ : Aside0 (w9.heap[gb432]? = some (.cells #[.int .u64 0, .slice none 0 0] 33 (0,0))):=⟨by rw [← hq_];exact (yk BK432)⟩;have n3_ : Aside0 (Below w.heap.size w w9):=⟨by rw [← hq_];exact yhb⟩;clear HO0_1 BK431 BK432 HB hq_;have HO0_1:=n0_;have BK431:=n1_;have BK432:=n2_;have HB:=n3_;clear n0_ n1_ n2_ n3_));have:=NB431_432.out;have:=NB432_431.out;obtain ⟨hcz11_0,hcz11_1,hfz11_0,hfz11_1⟩:=yc2 BK431;obtain ⟨hcz12_0,hcz12_1,hfz12_0,hfz12_1⟩:=yc2 BK432))
   refine bodyPost_ret (results_ct rfl _ _ gb432 33 #[.int .u64 a0_0, .slice A0_1 l0_1.length c0_1] (0,0) _ rfl (ykp BK432) Try.underlying33 rfl (by kernel_rfl)) rfl ?_
   exact ⟨_,ye,yV0 HO0_1,yhb⟩
  ·
   rw [if_neg c7] at H
   have c7b0 : decide (4000≤(l0_1.length : Int))=false:=decide_eq_false c7
   have c7b1 : decide (4000≤l0_1.length)=false:=decide_eq_false (by omega)
   clear c7
   replace H:=ybi H;obtain ⟨⟨t434,t435⟩,A13,H⟩:=H
   try dsimp only at H
   replace H:=ybi H;obtain ⟨t436,A14,H⟩:=H
   have H' := zm H
   clear H
   go_enter Try.func19,Try.ntmps19
   go_wp2_with (first|((with_reducible refine gate_dst (N:=4) rfl ?_);refine ybx 4 #[.int .u64 a0_0, .slice A0_1 l0_1.length c0_1] 33 ?_;intro gb431 hg w15 hbox hb;replace HO0_1:=yVe HO0_1 hg hb;have BK431:=zm (hbox);have GW431:=ygw hg;have GE431:=ygw hg;replace HB:=ybs hb;clear hb hbox hg)|((with_reducible refine gate_dst (N:=8) rfl ?_);refine ybx 8 #[.int .u64 0, .slice none 0 0] 33 ?_;intro gb432 hg w16 hbox hb;replace HO0_1:=yVe HO0_1 hg hb;have BK432:=zm (hbox);have GW432:=ygw hg;have GE432:=ygw hg;replace HB:=ybs hb;have NB431_432:=ynl BK431 hg;have NB432_431:=yng BK431 hg;replace BK431:=ybb BK431 hb;clear hb hbox hg)|((with_reducible refine gate_callee (f:=35) rfl ?_);refine ygl 16 Try.func35 #[.int .i64 a1, .int .i64 a2, .int .i64 a3] ?_;(with_reducible refine (psalteryref05_Fair.calls a1 a2 a3 true _ A5.out).mono ?_);rintro e w' ⟨rfl,⟨nd,rfl⟩⟩;refine ⟨_,rfl, ?_⟩;(try (rw [drewN_self w16];generalize hq_ : World.drewN w16 _=w16;have n0_ : Aside0 (Kd.V (Kd.int .i64) 3 w16 w.heap.size (fun k_=>(P0_1_ k_∨w.heap.size≤k_)∧k_≠gb431∧k_≠gb432) (.slice A0_1 l0_1.length c0_1) l0_1):=⟨by rw [← hq_];exact (yV0 HO0_1)⟩;have n1_ : Aside0 (w16.heap[gb431]? = some (.cells #[.int .u64 a0_0, .slice A0_1 l0_1.length c0_1] 33 (0,0))):=⟨by rw [← hq_];exact (yk BK431)⟩;have n2_ : Aside0 (w16.heap[gb432]? = some (.cells #[.int .u64 0, .slice none 0 0] 33 (0,0))):=⟨by rw [← hq_];exact (yk BK432)⟩;have n3_ : Aside0 (Below w.heap.size w w16):=⟨by rw [← hq_];exact yhb⟩;clear HO0_1 BK431 BK432 HB hq_;have HO0_1:=n0_;have BK431:=n1_;have BK432:=n2_;have HB:=n3_;clear n0_ n1_ n2_ n3_));have:=NB431_432.out;have:=NB432_431.out;obtain ⟨hcz18_0,hcz18_1,hfz18_0,hfz18_1⟩:=yc2 BK431)|((with_reducible refine gate_callee (f:=55) rfl ?_);refine ygl 30 Try.func55 #[.int .u64 a0_0, .int .i64 a1, .int .i64 a2, .int .i64 a3] ?_;(with_reducible refine (psalteryref05_part.calls a0_0 a1 a2 a3 t434 t435 _ A13.out).mono ?_);rintro e w' ⟨rfl,⟨nd,rfl⟩⟩;refine ⟨_,rfl, ?_⟩;(try (rw [drewN_self w16];generalize hq_ : World.drewN w16 _=w16;have n0_ : Aside0 (Kd.V (Kd.int .i64) 3 w16 w.heap.size (fun k_=>(P0_1_ k_∨w.heap.size≤k_)∧k_≠gb431∧k_≠gb432) (.slice A0_1 l0_1.length c0_1) l0_1):=⟨by rw [← hq_];exact (yV0 HO0_1)⟩;have n1_ : Aside0 (w16.heap[gb431]? = some (.cells #[.int .u64 a0_0, .slice A0_1 l0_1.length c0_1] 33 (0,0))):=⟨by rw [← hq_];exact (yk BK431)⟩;have n2_ : Aside0 (w16.heap[gb432]? = some (.cells #[.int .u64 0, .slice none 0 0] 33 (0,0))):=⟨by rw [← hq_];exact (yk BK432)⟩;have n3_ : Aside0 (Below w.heap.size w w16):=⟨by rw [← hq_];exact yhb⟩;clear HO0_1 BK431 BK432 HB hq_;have HO0_1:=n0_;have BK431:=n1_;have BK432:=n2_;have HB:=n3_;clear n0_ n1_ n2_ n3_));obtain ⟨hcz19_0,hcz19_1,hfz19_0,hfz19_1⟩:=yc2 BK431)|((with_reducible refine gate_callee (f:=56) rfl ?_);refine ygl 37 Try.func56 #[.slice A0_1 l0_1.length c0_1, .int .u64 t435] ?_;(with_reducible refine (psalteryref05_add.calls k _ _ l0_1 t435 t436 _ ?side1 ?side2 A14.out).mono ?_);(case side1=>exact yce (Kd.V_reads' HO0_1.out).2.2);(case side2=>exact (Kd.V_reads' HO0_1.out).2.1);rintro e w20 ⟨v437,rfl,ho0,hb⟩;refine ⟨_,rfl, ?_⟩;replace HO0_1:=zm (Kd.V_elder' (yr HO0_1) (Kd.R_base ho0) hb);have HO438:=zm (Kd.R_lower (Kd.R_newM (M:=fun k_=>(w.heap.size≤k_)) ho0 (zE yhb) (fun k_ h_=>h_)) (zE yhb));replace BK431:=ybb BK431 hb;replace BK432:=ybb BK432 hb;replace HB:=ybs hb;(try clear hb);(try clear ho0);obtain ⟨Ao21,co21,eo21⟩:=Kd.R_slice HO438.out;subst eo21)|((with_reducible refine gate_dst (N:=12) rfl ?_);refine ybx 12 #[.int .u64 0, .slice none 0 0] 33 ?_;intro gb439 hg w22 hbox hb;replace HO0_1:=yVe HO0_1 hg hb;replace HO438:=yRb HO438 hb;have BK439:=zm (hbox);have GW439:=ygw hg;have GE439:=ygw hg;replace HB:=ybs hb;have NB431_439:=ynl BK431 hg;have NB439_431:=yng BK431 hg;replace BK431:=ybb BK431 hb;have NB432_439:=ynl BK432 hg;have NB439_432:=yng BK432 hg;replace BK432:=ybb BK432 hb;clear hb hbox hg;have:=NB439_431.out;have:=NB431_439.out;have:=NB439_432.out;have:=NB432_439.out;obtain ⟨hcz25_0,hcz25_1,hfz25_0,hfz25_1⟩:=yc2 BK439))
   go_loopg [] k (fun kq w' => ∃ (x440000_1 : Int) (x440001_1 : List Int) (u440001 : Value),Aside0 (psalteryref05_Put.l0 kq x440000_1 x440001_1=some (r1,r2,r3))∧Aside0 (kq≤k)∧Aside0 (Kd.V (Kd.int .i64) 3 w' w.heap.size (fun k_=>(P0_1_ k_∨w.heap.size≤k_)∧some k_≠(u440001 : Value).ownBlock∧k_≠gb431∧k_≠gb432∧k_≠gb439) (.slice A0_1 l0_1.length c0_1) l0_1)∧Aside0 (Kd.R (Kd.int .i64) 3 w' w.heap.size (fun k_=>(w.heap.size≤k_)) u440001 x440001_1)∧Aside0 (w'.heap[gb431]? = some (.cells #[.int .u64 a0_0,(.slice A0_1 l0_1.length c0_1)] 33 (0,0)))∧Aside0 (w'.heap[gb432]? = some (.cells #[.int .u64 0,(.slice none 0 0)] 33 (0,0)))∧Aside0 (w'.heap[gb439]? = some (.cells #[.int .u64 x440000_1,u440001] 33 (0,0)))∧Aside0 (Below w.heap.size w w'))
   case atStart=>exact ⟨(t434),(t436),(.slice Ao21 t436.length co21),H',⟨Nat.le_refl _⟩,⟨yV0 HO0_1⟩,⟨yR1 HO438 BK439⟩,⟨yk BK431⟩,⟨yk BK432⟩,⟨ykp BK439⟩,⟨yhb⟩⟩
   case round =>
    clear H'
    try clear c7b0
    try clear c7b1
    try clear hcz11_0
    try clear hcz11_1
    try clear hcz12_0
    try clear hcz12_1
    try clear hcz18_0
    try clear hcz18_1
    try clear hcz19_0
    try clear hcz19_1
    try clear hcz25_0
    try clear hcz25_1
    try clear hfz11_0
    try clear hfz11_1
    try clear hfz12_0
    try clear hfz12_1
    try clear hfz18_0
    try clear hfz18_1
    try clear hfz19_0
    try clear hfz19_1
    try clear hfz25_0
    try clear hfz25_1
    obtain ⟨x440000_1,x440001_1,u440001,HA,HK1,HO_432001,HO_440001,BK431,BK432,BK439,HB⟩:=hrel
    obtain ⟨k1,rfl⟩:=ysu gk (fun h=>by subst h;exact absurd HA.out (by simp [psalteryref05_Put.l0]))
    have H:=HA.out;clear HA
    simp only [psalteryref05_Put.l0] at H
    by_cases c26 : x440000_1 < 16777216
    ·
     rw [if_pos c26] at H
     have c26b0 : decide (x440000_1 < 16777216)=true:=decide_eq_true c26
     clear c26
     replace H:=yif H;obtain ⟨c27,H⟩:=H
     have LMc27:=zm c27;clear c27
     obtain ⟨y440,hy440⟩ : ∃ y_ : List Int,y_=(x440001_1 ++ [0]):=⟨_,rfl⟩
     replace H : (psalteryref05_Put.l0 k1 (IntKind.u64.wrap (x440000_1 * 256)) y440)=some (r1,r2,r3):=yrw hy440 H
     have Ny440:=zm hy440;clear hy440
     have H' := zm H
     clear H
     have:=NB439_431.out
     have:=NB431_439.out
     have:=NB439_432.out
     have:=NB432_439.out
     obtain ⟨_,_,_,_⟩:=yc2 BK439
     go_wp2_with (first|((with_reducible refine gate_builtin (b:=.append) (xs := #[.tmp 47, .tmp 48]) rfl ?_);at_builtin;refine Kd.R_append (Kd.int .i64) (w0:=w) w.heap.size rfl (.tmp 47) (.tmp 48) 31 3 (.int .i64 0) 8 rfl Try.underlying31 info3 rfl (by decide) (by omega) u440001 x440001_1 0 [.int .i64 0] (fun k_=>(w.heap.size≤k_)) (fun _=>False) rfl (by first|(go_simp;done)|(go_simp;rfl)) ?aP (fun _ hk=>hk.elim) ?aF ?aO ?aB ?aS ?aL ?_;(case aP=>exact rfl);(case aB=>exact yhb);(case aF=>exact (fun k_ hk=>(Nat.le_trans (zE yhb) hk)));(case aO=>exact (yR1 HO_440001 BK439));(case aS=>exact (zE yhb));(case aL=>have:=LMc27.out;omega);intro v441 w31 ho hb hg hat;rw [← Ny440.out] at ho;replace HO_432001:=zm (Kd.V_afterv (ok:=(fun k_=>(P0_1_ k_∨w.heap.size≤k_)∧k_≠gb431∧k_≠gb432∧k_≠gb439)) (yV0 HO_432001) hg hat);replace BK431:=zm (blk_grown (yk BK431) hg (zu HO_440001.out BK431.out (by decide)));replace BK432:=zm (blk_grown (yk BK432) hg (zu HO_440001.out BK432.out (by decide)));replace BK439:=zm (blk_grown (g:=gb439) (o:=.cells #[.int .u64 (IntKind.u64.wrap (x440000_1 * 256)),u440001] 33 (0,0)) (ykp BK439) hg (zu HO_440001.out BK439.out (by decide)));replace HB:=zm (hb);have HO442:=zm (ho);clear HO_440001;clear ho hb hg hat;obtain ⟨Ao32,co32,eo32⟩:=Kd.R_slice HO442.out;subst eo32;obtain ⟨_,_,_,_⟩:=yc2 BK439))
     go_roundg k1
     case measure=>exact yom1 HK1
     case rel=>exact ⟨(IntKind.u64.wrap (x440000_1 * 256)),(y440),(.slice Ao32 y440.length co32),H',⟨yom1 HK1⟩,⟨yV0 HO_432001⟩,⟨yR1 HO442 BK439⟩,⟨yk BK431⟩,⟨yk BK432⟩,⟨ykp BK439⟩,⟨yhb⟩⟩
    ·
     rw [if_neg c26] at H
     have c26b0 : decide (x440000_1 < 16777216)=false:=decide_eq_false c26
     clear c26
     simp only [Option.some.injEq,Prod.mk.injEq] at H
     obtain ⟨rfl,rfl,rfl⟩:=H
     have:=NB439_431.out
     have:=NB431_439.out
     have:=NB439_432.out
     have:=NB432_439.out
     obtain ⟨_,_,_,_⟩:=yc2 BK439
     have:=NB432_431.out
     have:=NB431_432.out
     obtain ⟨_,_,_,_⟩:=yc2 BK432
     obtain ⟨Ao39,co39,eo39⟩:=Kd.R_slice HO_440001.out
     subst eo39
     go_wp2
     refine bodyPost_ret (results_ct rfl _ _ gb432 33 #[.int .u64 x440000_1, .slice Ao39 x440001_1.length co39] (0,0) _ rfl (ykp BK432) Try.underlying33 rfl (by kernel_rfl)) rfl ?_
     exact ⟨_,ye,zy (Kd.R_V (by (with_reducible repeat (first|apply zo|apply zp|apply zq));exact zG (zH (p:=⟨gb432,1,none⟩) (zH (p:=⟨gb432,0,none⟩) (Kd.R_types HO_440001.out BK432.out (by decide)) (fun _ hk=>hk.2) (.int .u64 x440000_1)) (fun _ hk=>hk.2) (.slice Ao39 x440001_1.length co39)) (fun _ hk=>(by first|exact hk.1|(have h_:=hk;(try simp only [and_assoc] at h_);first|exact h_.1|exact h_.2|exact h_.2.1|exact h_.2.2|exact h_.2.2.1|exact h_.2.2.2|exact h_.2.2.2.1|exact h_.2.2.2.2))))) (fun k_ hk=>by first|exact ⟨(.inr (hk.1)),hk.2⟩|exact (.inr (hk))),yhb⟩
 ·
  replace c6:=Bool.eq_false_iff.mpr c6
  subst c6
  rw [ynf] at H
  simp only [Option.some.injEq,Prod.mk.injEq] at H
  obtain ⟨rfl,rfl,rfl⟩:=H
  go_enter Try.func19,Try.ntmps19
  go_wp2_with (first|((with_reducible refine gate_dst (N:=4) rfl ?_);refine ybx 4 #[.int .u64 a0_0, .slice A0_1 l0_1.length c0_1] 33 ?_;intro gb431 hg w40 hbox hb;replace HO0_1:=yVe HO0_1 hg hb;have BK431:=zm (hbox);have GW431:=ygw hg;have GE431:=ygw hg;replace HB:=ybs hb;clear hb hbox hg)|((with_reducible refine gate_dst (N:=8) rfl ?_);refine ybx 8 #[.int .u64 0, .slice none 0 0] 33 ?_;intro gb432 hg w41 hbox hb;replace HO0_1:=yVe HO0_1 hg hb;have BK432:=zm (hbox);have GW432:=ygw hg;have GE432:=ygw hg;replace HB:=ybs hb;have NB431_432:=ynl BK431 hg;have NB432_431:=yng BK431 hg;replace BK431:=ybb BK431 hb;clear hb hbox hg)|((with_reducible refine gate_callee (f:=35) rfl ?_);refine ygl 16 Try.func35 #[.int .i64 a1, .int .i64 a2, .int .i64 a3] ?_;(with_reducible refine (psalteryref05_Fair.calls a1 a2 a3 false _ A5.out).mono ?_);rintro e w' ⟨rfl,⟨nd,rfl⟩⟩;refine ⟨_,rfl, ?_⟩;(try (rw [drewN_self w41];generalize hq_ : World.drewN w41 _=w41;have n0_ : Aside0 (Kd.V (Kd.int .i64) 3 w41 w.heap.size (fun k_=>(P0_1_ k_∨w.heap.size≤k_)∧k_≠gb431∧k_≠gb432) (.slice A0_1 l0_1.length c0_1) l0_1):=⟨by rw [← hq_];exact (yV0 HO0_1)⟩;have n1_ : Aside0 (w41.heap[gb431]? = some (.cells #[.int .u64 a0_0, .slice A0_1 l0_1.length c0_1] 33 (0,0))):=⟨by rw [← hq_];exact (yk BK431)⟩;have n2_ : Aside0 (w41.heap[gb432]? = some (.cells #[.int .u64 0, .slice none 0 0] 33 (0,0))):=⟨by rw [← hq_];exact (yk BK432)⟩;have n3_ : Aside0 (Below w.heap.size w w41):=⟨by rw [← hq_];exact yhb⟩;clear HO0_1 BK431 BK432 HB hq_;have HO0_1:=n0_;have BK431:=n1_;have BK432:=n2_;have HB:=n3_;clear n0_ n1_ n2_ n3_));have:=NB431_432.out;have:=NB432_431.out;obtain ⟨_,_,_,_⟩:=yc2 BK431;obtain ⟨_,_,_,_⟩:=yc2 BK432))
  refine bodyPost_ret (results_ct rfl _ _ gb432 33 #[.int .u64 a0_0, .slice A0_1 l0_1.length c0_1] (0,0) _ rfl (ykp BK432) Try.underlying33 rfl (by kernel_rfl)) rfl ?_
  exact ⟨_,ye,yV0 HO0_1,yhb⟩
def psalteryref05_PutNum.j0 : Nat→Int→Int→Bool→Int→List Int→Option (Int × List Int × Int)
 | 0,_,_,_,_,_=>none
 | k+1,x1,x2,x22,x444000,x444001=>if x22=true then (some (x444000,x444001,1)) else (if x2≤65536 then ((psalteryref05_Put.f k x444000 x444001 (wrap64 (x1)) (wrap64 ((wrap64 (x1))+1)) (wrap64 (x2))).bind fun bt445=>(some (bt445.1,bt445.2.1,bt445.2.2))) else ((psalteryref05_Put.f k x444000 x444001 (wrap64 (IntKind.u64.wrap (Int.tdiv x1 65536))) (wrap64 ((wrap64 (IntKind.u64.wrap (Int.tdiv x1 65536)))+1)) (wrap64 ((wrap64 (IntKind.u64.wrap (Int.tdiv (IntKind.u64.wrap (x2 - 1)) 65536)))+1))).bind fun bt450=>(if bt450.2.2=0 then ((psalteryref05_Put.f k bt450.1 bt450.2.1 (wrap64 (Int.tmod x1 65536)) (wrap64 ((wrap64 (Int.tmod x1 65536))+1)) 65536).bind fun bt456=>(if bt456.2.2=0 then (some (bt456.1,bt456.2.1,0)) else (some (x444000,x444001,bt456.2.2)))) else (some (x444000,x444001,bt450.2.2)))))
def psalteryref05_PutNum.f (k : Nat) (a0_0 : Int) (l0_1 : List Int) (a1 : Int) (a2 : Int) : Option (Int × List Int × Int):=if a2=0 then (psalteryref05_PutNum.j0 k a1 a2 true a0_0 l0_1) else (if a2 > 4294967296 then (psalteryref05_PutNum.j0 k a1 a2 true a0_0 l0_1) else (psalteryref05_PutNum.j0 k a1 a2 (decide (a1 ≥ a2)) a0_0 l0_1))
theorem psalteryref05_PutNum.mono_l : ∀ k,(∀ y0 y1 y2 y3 y4,LeO (psalteryref05_PutNum.j0 k y0 y1 y2 y3 y4) (psalteryref05_PutNum.j0 (k+1) y0 y1 y2 y3 y4))
 | 0=>fun _ _ _ _ _ r h=>by simp [psalteryref05_PutNum.j0] at h
 | k+1=>by
  have ih0:=psalteryref05_PutNum.mono_l k
  ·
   intro y0 y1 y2 y3 y4
   unfold psalteryref05_PutNum.j0
   repeat' with_reducible first|apply ih0|apply psalteryref05_Put.mono|apply yLr|apply yLn|apply yLi|apply yLb|intro _
theorem psalteryref05_PutNum.mono : ∀ a0 a1 a2 a3 k,LeO (psalteryref05_PutNum.f k a0 a1 a2 a3) (psalteryref05_PutNum.f (k+1) a0 a1 a2 a3):=by
 intro a0 a1 a2 a3 k
 have ih0:=psalteryref05_PutNum.mono_l k
 unfold psalteryref05_PutNum.f
 repeat' with_reducible first|apply ih0|apply psalteryref05_Put.mono|apply yLr|apply yLn|apply yLi|apply yLb|intro _
set_option maxHeartbeats 8000000 in
set_option maxRecDepth 100000 in
theorem psalteryref05_PutNum.calls (k : Nat) (a0_0 : Int) (P0_1_ : Nat→Prop) (A0_1 : Option Addr) (c0_1 : Nat) (l0_1 : List Int) (a1 : Int) (a2 : Int) (r1 : Int) (r2 : List Int) (r3 : Int) (w : World) (hs0_1 : Kd.V (Kd.int .i64) 3 w w.heap.size (fun k_=>P0_1_ k_) (.slice A0_1 l0_1.length c0_1) l0_1) (h : psalteryref05_PutNum.f k a0_0 l0_1 a1 a2=some (r1,r2,r3)) :
  Calls Try.prog 38 #[.agg #[.int .u64 a0_0, .slice A0_1 l0_1.length c0_1], .int .u64 a1, .int .u64 a2] w fun e w' => ∃ v1_ : Value,e=.returned (.tuple #[.agg #[.int .u64 r1,v1_], .int .i64 r3])∧Kd.V (Kd.int .i64) 3 w' w.heap.size (fun k_=>(P0_1_ k_∨w.heap.size≤k_)) v1_ r2∧Below w.heap.size w w' := by
 have hu33:=Try.underlying33
 have HO0_1:=zm (show Kd.V (Kd.int .i64) 3 w w.heap.size (fun k_=>(P0_1_ k_∨w.heap.size≤k_)) (.slice A0_1 l0_1.length c0_1) l0_1 from zy hs0_1 (fun k_ hk => .inl hk))
 have HB:=zm (Below.refl w.heap.size w)
 have H : (if a2=0 then (psalteryref05_PutNum.j0 k a1 a2 true a0_0 l0_1) else (if a2 > 4294967296 then (psalteryref05_PutNum.j0 k a1 a2 true a0_0 l0_1) else (psalteryref05_PutNum.j0 k a1 a2 (decide (a1 ≥ a2)) a0_0 l0_1)))=some (r1,r2,r3):=h
 clear h;have HC4:=zm H;clear H
 go_enter Try.func38,Try.ntmps38
 go_upto_region 1 with (first|((with_reducible refine gate_dst (N:=3) rfl ?_);refine ybx 3 #[.int .u64 a0_0, .slice A0_1 l0_1.length c0_1] 33 ?_;intro gb443 hg w5 hbox hb;replace HO0_1:=yVe HO0_1 hg hb;have BK443:=zm (hbox);have GW443:=ygw hg;have GE443:=ygw hg;replace HB:=ybs hb;clear hb hbox hg)|((with_reducible refine gate_dst (N:=6) rfl ?_);refine ybx 6 #[.int .u64 0, .slice none 0 0] 33 ?_;intro gb444 hg w6 hbox hb;replace HO0_1:=yVe HO0_1 hg hb;have BK444:=zm (hbox);have GW444:=ygw hg;have GE444:=ygw hg;replace HB:=ybs hb;have NB443_444:=ynl BK443 hg;have NB444_443:=yng BK443 hg;replace BK443:=ybb BK443 hb;clear hb hbox hg))
 (try simp only [Act.put,List.setIfInBounds_toArray,List.set_cons_zero,List.set_cons_succ])
 go_cut [22] (fun v22 wc => ∃ (kq : Nat) (x22_3 : Bool),v22=.bool x22_3∧Aside0 (psalteryref05_PutNum.j0 kq a1 a2 x22_3 a0_0 l0_1=some (r1,r2,r3))∧Aside0 (kq≤k)∧Aside0 (Kd.V (Kd.int .i64) 3 wc w.heap.size (fun k_=>(P0_1_ k_∨w.heap.size≤k_)∧k_≠gb443∧k_≠gb444) (.slice A0_1 l0_1.length c0_1) l0_1)∧Aside0 (wc.heap[gb443]? = some (.cells #[.int .u64 a0_0,(.slice A0_1 l0_1.length c0_1)] 33 (0,0)))∧Aside0 (wc.heap[gb444]? = some (.cells #[.int .u64 0,(.slice none 0 0)] 33 (0,0)))∧Aside0 (Below w.heap.size w wc))
 case first =>
  have H:=HC4.out;clear HC4
  by_cases c7 : a2=0
  ·
   rw [if_pos c7] at H
   have c7b0 : (a2 == 0)=true:=beq_iff_eq.mpr c7
   have c7b1 : (a2 != 0)=false:=bne_eq_false_iff_eq.mpr c7
   clear c7
   (first|rw [c7b0]|(simp only [i64_w,i32_w];rw [c7b0])|skip)
   have H' := zm H
   clear H
   go_wp2
   go_meet
   case rel=>exact ⟨_,(true),yq,H',⟨yo⟩,⟨yV0 HO0_1⟩,⟨yk BK443⟩,⟨yk BK444⟩,⟨yhb⟩⟩
  ·
   rw [if_neg c7] at H
   have c7b0 : (a2 == 0)=false:=beq_eq_false_iff_ne.mpr c7
   have c7b1 : (a2 != 0)=true:=bne_iff_ne.mpr c7
   (first|rw [c7b0]|(simp only [i64_w,i32_w];rw [c7b0])|skip)
   by_cases c8 : a2 > 4294967296
   ·
    rw [if_pos c8] at H
    have c8b0 : decide (4294967296 < a2)=true:=decide_eq_true c8
    clear c8
    have H' := zm H
    clear H
    go_wp2
    go_meet
    case rel=>exact ⟨_,(true),yq,H',⟨yo⟩,⟨yV0 HO0_1⟩,⟨yk BK443⟩,⟨yk BK444⟩,⟨yhb⟩⟩
   ·
    rw [if_neg c8] at H
    have c8b0 : decide (4294967296 < a2)=false:=decide_eq_false c8
    clear c8
    have H' := zm H
    clear H
    go_wp2
    go_meet
    case rel=>exact ⟨_,(decide (a1 ≥ a2)),yq,H',⟨yo⟩,⟨yV0 HO0_1⟩,⟨yk BK443⟩,⟨yk BK444⟩,⟨yhb⟩⟩
 case rest =>
  clear HC4
  obtain ⟨kq,x22_3,rfl,HA,HJ3,HO_444001,BK443,BK444,HB⟩:=hcut
  obtain ⟨kj3,rfl⟩:=ysu kq (fun h=>by subst h;exact absurd HA.out (by simp [psalteryref05_PutNum.j0]))
  have H:=HA.out;clear HA
  simp only [psalteryref05_PutNum.j0] at H
  by_cases c9 : x22_3=true
  ·
   subst c9
   rw [if_pos rfl] at H
   simp only [Option.some.injEq,Prod.mk.injEq] at H
   obtain ⟨rfl,rfl,rfl⟩:=H
   have:=NB443_444.out
   have:=NB444_443.out
   obtain ⟨_,_,_,_⟩:=yc2 BK443
   obtain ⟨_,_,_,_⟩:=yc2 BK444
   go_wp2
   refine bodyPost_ret (results_ct rfl _ _ gb444 33 #[.int .u64 a0_0, .slice A0_1 l0_1.length c0_1] (0,0) _ rfl (ykp BK444) Try.underlying33 rfl (by kernel_rfl)) rfl ?_
   exact ⟨_,ye,yV0 HO_444001,yhb⟩
  ·
   replace c9:=Bool.eq_false_iff.mpr c9
   subst c9
   rw [ynf] at H
   by_cases c13 : a2≤65536
   ·
    rw [if_pos c13] at H
    have c13b0 : decide (a2≤65536)=true:=decide_eq_true c13
    clear c13
    replace H:=ybi H;obtain ⟨⟨t445,t446,t449⟩,A14,H⟩:=H
    try dsimp only at H
    simp only [Option.some.injEq,Prod.mk.injEq] at H
    obtain ⟨rfl,rfl,rfl⟩:=H
    have:=NB443_444.out
    have:=NB444_443.out
    obtain ⟨_,_,_,_⟩:=yc2 BK443
    go_wp2_with (first|((with_reducible refine gate_callee (f:=19) rfl ?_);refine ygl 34 Try.func19 #[.agg #[.int .u64 a0_0, .slice A0_1 l0_1.length c0_1], .int .i64 (wrap64 (a1)), .int .i64 (wrap64 ((wrap64 (a1))+1)), .int .i64 (wrap64 (a2))] ?_;(with_reducible refine (psalteryref05_Put.calls kj3 a0_0 (fun k_=>((P0_1_ k_∨w.heap.size≤k_)∧(k_≠gb443∧k_≠gb444))) _ _ l0_1 (wrap64 (a1)) (wrap64 ((wrap64 (a1))+1)) (wrap64 (a2)) t445 t446 t449 _ HO_444001.out A14.out).mono ?_);rintro e w17 ⟨v447,rfl,ho0,hb⟩;refine ⟨_,rfl, ?_⟩;replace HO_444001:=yVb HO_444001 hb;have HO448:=yho (fun k_=>(P0_1_ k_∨w.heap.size≤k_)∧k_≠gb443∧k_≠gb444) ho0 (fun k_ hk_=>⟨Or.elim hk_ (fun hs_=>hs_.1) (fun hn_=>(.inr (Nat.le_trans (zE yhb) hn_))),yoB BK443 hk_,yoB BK444 hk_⟩);replace BK443:=ybb BK443 hb;replace BK444:=ybb BK444 hb;replace HB:=ybs hb;(try clear hb);(try clear ho0);obtain ⟨_,_,_,_⟩:=yc2 BK444;obtain ⟨Ao19,co19,eo19⟩:=Kd.V_slice HO448.out;subst eo19))
    refine bodyPost_ret (results_ct rfl _ _ gb444 33 #[.int .u64 t445, .slice Ao19 t446.length co19] (0,0) _ rfl (ykp BK444) Try.underlying33 rfl (by kernel_rfl)) rfl ?_
    exact ⟨_,ye,yV0 HO448,yhb⟩
   ·
    rw [if_neg c13] at H
    have c13b0 : decide (a2≤65536)=false:=decide_eq_false c13
    clear c13
    replace H:=ybi H;obtain ⟨⟨t450,t451,t454⟩,A20,H⟩:=H
    try dsimp only at H
    by_cases c21 : t454=0
    ·
     rw [if_pos c21] at H
     have c21b0 : (t454 == 0)=true:=beq_iff_eq.mpr c21
     have c21b1 : (t454 != 0)=false:=bne_eq_false_iff_eq.mpr c21
     clear c21
     replace H:=ybi H;obtain ⟨⟨t456,t457,t460⟩,A22,H⟩:=H
     try dsimp only at H
     by_cases c23 : t460=0
     ·
      rw [if_pos c23] at H
      have c23b0 : (t460 == 0)=true:=beq_iff_eq.mpr c23
      have c23b1 : (t460 != 0)=false:=bne_eq_false_iff_eq.mpr c23
      clear c23
      simp only [Option.some.injEq,Prod.mk.injEq] at H
      obtain ⟨rfl,rfl,rfl⟩:=H
      have:=NB443_444.out
      have:=NB444_443.out
      obtain ⟨_,_,_,_⟩:=yc2 BK443
      go_wp2_with (first|((with_reducible refine gate_callee (f:=19) rfl ?_);refine ygl 51 Try.func19 #[.agg #[.int .u64 a0_0, .slice A0_1 l0_1.length c0_1], .int .i64 (wrap64 (IntKind.u64.wrap (Int.tdiv a1 65536))), .int .i64 (wrap64 ((wrap64 (IntKind.u64.wrap (Int.tdiv a1 65536)))+1)), .int .i64 (wrap64 ((wrap64 (IntKind.u64.wrap (Int.tdiv (IntKind.u64.wrap (a2 - 1)) 65536)))+1))] ?_;(with_reducible refine (psalteryref05_Put.calls kj3 a0_0 (fun k_=>((P0_1_ k_∨w.heap.size≤k_)∧(k_≠gb443∧k_≠gb444))) _ _ l0_1 (wrap64 (IntKind.u64.wrap (Int.tdiv a1 65536))) (wrap64 ((wrap64 (IntKind.u64.wrap (Int.tdiv a1 65536)))+1)) (wrap64 ((wrap64 (IntKind.u64.wrap (Int.tdiv (IntKind.u64.wrap (a2 - 1)) 65536)))+1)) t450 t451 t454 _ HO_444001.out A20.out).mono ?_);rintro e w26 ⟨v452,rfl,ho0,hb⟩;refine ⟨_,rfl, ?_⟩;replace HO_444001:=yVb HO_444001 hb;have HO453:=yho (fun k_=>(P0_1_ k_∨w.heap.size≤k_)∧k_≠gb443∧k_≠gb444) ho0 (fun k_ hk_=>⟨Or.elim hk_ (fun hs_=>hs_.1) (fun hn_=>(.inr (Nat.le_trans (zE yhb) hn_))),yoB BK443 hk_,yoB BK444 hk_⟩);replace BK443:=ybb BK443 hb;replace BK444:=ybb BK444 hb;replace HB:=ybs hb;(try clear hb);(try clear ho0))|((with_reducible refine gate_dst (N:=8) rfl ?_);refine ybx 8 #[.int .u64 0, .slice none 0 0] 33 ?_;intro gb455 hg w27 hbox hb;replace HO_444001:=yVe HO_444001 hg hb;replace HO453:=yVe HO453 hg hb;have BK455:=zm (hbox);have GW455:=ygw hg;have GE455:=ygw hg;replace HB:=ybs hb;have NB443_455:=ynl BK443 hg;have NB455_443:=yng BK443 hg;replace BK443:=ybb BK443 hb;have NB444_455:=ynl BK444 hg;have NB455_444:=yng BK444 hg;replace BK444:=ybb BK444 hb;clear hb hbox hg;have:=NB455_443.out;have:=NB443_455.out;have:=NB455_444.out;have:=NB444_455.out;obtain ⟨_,_,_,_⟩:=yc2 BK455;obtain ⟨Ao31,co31,eo31⟩:=Kd.V_slice HO453.out;subst eo31)|((with_reducible refine gate_store (t:=33) (p:=8) rfl ?_);refine store_event (t:=33) (p:=8) (v := ?vo_w32) (w1:=((w27.setCell ⟨gb455,0,none⟩ (.int .u64 t450)).setCell ⟨gb455,1,none⟩ (.slice Ao31 t451.length co31))) ?hg ?ho ?hn ?hr ?_;(case ho=>rfl);(case hg=>rfl);(case hn=>rfl);(case hr=>first|(go_simp;done)|(go_simp;rfl));intro w32 hw;replace HO_444001 : Aside0 (Kd.V (Kd.int .i64) 3 w32 w.heap.size (fun k_=>(P0_1_ k_∨w.heap.size≤k_)∧k_≠gb443∧k_≠gb444∧k_≠gb455) (.slice A0_1 l0_1.length c0_1) l0_1):=⟨(by rw [hw];exact (yV0 HO_444001))⟩;replace HO453 : Aside0 (Kd.V (Kd.int .i64) 3 w32 w.heap.size (fun k_=>(P0_1_ k_∨w.heap.size≤k_)∧k_≠gb443∧k_≠gb444∧k_≠gb455) (.slice Ao31 t451.length co31) t451):=⟨(by rw [hw];exact (yV0 HO453))⟩;replace BK443 : Aside0 (w32.heap[gb443]? = some (.cells #[.int .u64 a0_0, .slice A0_1 l0_1.length c0_1] 33 (0,0))):=⟨(by rw [hw];exact (yk BK443))⟩;replace BK444 : Aside0 (w32.heap[gb444]? = some (.cells #[.int .u64 0, .slice none 0 0] 33 (0,0))):=⟨(by rw [hw];exact (yk BK444))⟩;replace BK455 : Aside0 (w32.heap[gb455]? = some (.cells #[.int .u64 t450, .slice Ao31 t451.length co31] 33 (0,0))):=⟨(by rw [hw];exact (ykp BK455))⟩;replace HB : Aside0 (Below w.heap.size w w32):=⟨(by rw [hw];exact yhb)⟩;clear hw;obtain ⟨_,_,_,_⟩:=yc2 BK455)|((with_reducible refine gate_callee (f:=19) rfl ?_);refine ygl 67 Try.func19 #[.agg #[.int .u64 t450, .slice Ao31 t451.length co31], .int .i64 (wrap64 (Int.tmod a1 65536)), .int .i64 (wrap64 ((wrap64 (Int.tmod a1 65536))+1)), .int .i64 65536] ?_;(with_reducible refine (psalteryref05_Put.calls kj3 t450 (fun k_=>((P0_1_ k_∨w.heap.size≤k_)∧(k_≠gb443∧(k_≠gb444∧k_≠gb455)))) _ _ t451 (wrap64 (Int.tmod a1 65536)) (wrap64 ((wrap64 (Int.tmod a1 65536))+1)) 65536 t456 t457 t460 _ HO453.out A22.out).mono ?_);rintro e w34 ⟨v458,rfl,ho0,hb⟩;refine ⟨_,rfl, ?_⟩;replace HO_444001:=yVb HO_444001 hb;replace HO453:=yVb HO453 hb;have HO459:=yho (fun k_=>(P0_1_ k_∨w.heap.size≤k_)∧k_≠gb443∧k_≠gb444∧k_≠gb455) ho0 (fun k_ hk_=>⟨Or.elim hk_ (fun hs_=>hs_.1) (fun hn_=>(.inr (Nat.le_trans (zE yhb) hn_))),yoB BK443 hk_,yoB BK444 hk_,yoB BK455 hk_⟩);replace BK443:=ybb BK443 hb;replace BK444:=ybb BK444 hb;replace BK455:=ybb BK455 hb;replace HB:=ybs hb;(try clear hb);(try clear ho0))|((with_reducible refine gate_dst (N:=10) rfl ?_);refine ybx 10 #[.int .u64 0, .slice none 0 0] 33 ?_;intro gb461 hg w35 hbox hb;replace HO_444001:=yVe HO_444001 hg hb;replace HO453:=yVe HO453 hg hb;replace HO459:=yVe HO459 hg hb;have BK461:=zm (hbox);have GW461:=ygw hg;have GE461:=ygw hg;replace HB:=ybs hb;have NB443_461:=ynl BK443 hg;have NB461_443:=yng BK443 hg;replace BK443:=ybb BK443 hb;have NB444_461:=ynl BK444 hg;have NB461_444:=yng BK444 hg;replace BK444:=ybb BK444 hb;have NB455_461:=ynl BK455 hg;have NB461_455:=yng BK455 hg;replace BK455:=ybb BK455 hb;clear hb hbox hg;have:=NB461_443.out;have:=NB443_461.out;have:=NB461_444.out;have:=NB444_461.out;have:=NB461_455.out;have:=NB455_461.out;obtain ⟨_,_,_,_⟩:=yc2 BK461;obtain ⟨Ao40,co40,eo40⟩:=Kd.V_slice HO459.out;subst eo40;obtain ⟨_,_,_,_⟩:=yc2 BK444))
      refine bodyPost_ret (results_ct rfl _ _ gb444 33 #[.int .u64 t456, .slice Ao40 t457.length co40] (0,0) _ rfl (ykp BK444) Try.underlying33 rfl (by kernel_rfl)) rfl ?_
      exact ⟨_,ye,yV0 HO459,yhb⟩
     ·
      rw [if_neg c23] at H
      have c23b0 : (t460 == 0)=false:=beq_eq_false_iff_ne.mpr c23
      have c23b1 : (t460 != 0)=true:=bne_iff_ne.mpr c23
      simp only [Option.some.injEq,Prod.mk.injEq] at H
      obtain ⟨rfl,rfl,rfl⟩:=H
      have:=NB443_444.out
      have:=NB444_443.out
      obtain ⟨_,_,_,_⟩:=yc2 BK443
      go_wp2_with (first|((with_reducible refine gate_callee (f:=19) rfl ?_);refine ygl 51 Try.func19 #[.agg #[.int .u64 a0_0, .slice A0_1 l0_1.length c0_1], .int .i64 (wrap64 (IntKind.u64.wrap (Int.tdiv a1 65536))), .int .i64 (wrap64 ((wrap64 (IntKind.u64.wrap (Int.tdiv a1 65536)))+1)), .int .i64 (wrap64 ((wrap64 (IntKind.u64.wrap (Int.tdiv (IntKind.u64.wrap (a2 - 1)) 65536)))+1))] ?_;(with_reducible refine (psalteryref05_Put.calls kj3 a0_0 (fun k_=>((P0_1_ k_∨w.heap.size≤k_)∧(k_≠gb443∧k_≠gb444))) _ _ l0_1 (wrap64 (IntKind.u64.wrap (Int.tdiv a1 65536))) (wrap64 ((wrap64 (IntKind.u64.wrap (Int.tdiv a1 65536)))+1)) (wrap64 ((wrap64 (IntKind.u64.wrap (Int.tdiv (IntKind.u64.wrap (a2 - 1)) 65536)))+1)) t450 t451 t454 _ HO_444001.out A20.out).mono ?_);rintro e w44 ⟨v452,rfl,ho0,hb⟩;refine ⟨_,rfl, ?_⟩;replace HO_444001:=yVb HO_444001 hb;have HO453:=yho (fun k_=>(P0_1_ k_∨w.heap.size≤k_)∧k_≠gb443∧k_≠gb444) ho0 (fun k_ hk_=>⟨Or.elim hk_ (fun hs_=>hs_.1) (fun hn_=>(.inr (Nat.le_trans (zE yhb) hn_))),yoB BK443 hk_,yoB BK444 hk_⟩);replace BK443:=ybb BK443 hb;replace BK444:=ybb BK444 hb;replace HB:=ybs hb;(try clear hb);(try clear ho0))|((with_reducible refine gate_dst (N:=8) rfl ?_);refine ybx 8 #[.int .u64 0, .slice none 0 0] 33 ?_;intro gb455 hg w45 hbox hb;replace HO_444001:=yVe HO_444001 hg hb;replace HO453:=yVe HO453 hg hb;have BK455:=zm (hbox);have GW455:=ygw hg;have GE455:=ygw hg;replace HB:=ybs hb;have NB443_455:=ynl BK443 hg;have NB455_443:=yng BK443 hg;replace BK443:=ybb BK443 hb;have NB444_455:=ynl BK444 hg;have NB455_444:=yng BK444 hg;replace BK444:=ybb BK444 hb;clear hb hbox hg;have:=NB455_443.out;have:=NB443_455.out;have:=NB455_444.out;have:=NB444_455.out;obtain ⟨_,_,_,_⟩:=yc2 BK455;obtain ⟨Ao49,co49,eo49⟩:=Kd.V_slice HO453.out;subst eo49)|((with_reducible refine gate_store (t:=33) (p:=8) rfl ?_);refine store_event (t:=33) (p:=8) (v := ?vo_w50) (w1:=((w45.setCell ⟨gb455,0,none⟩ (.int .u64 t450)).setCell ⟨gb455,1,none⟩ (.slice Ao49 t451.length co49))) ?hg ?ho ?hn ?hr ?_;(case ho=>rfl);(case hg=>rfl);(case hn=>rfl);(case hr=>first|(go_simp;done)|(go_simp;rfl));intro w50 hw;replace HO_444001 : Aside0 (Kd.V (Kd.int .i64) 3 w50 w.heap.size (fun k_=>(P0_1_ k_∨w.heap.size≤k_)∧k_≠gb443∧k_≠gb444∧k_≠gb455) (.slice A0_1 l0_1.length c0_1) l0_1):=⟨(by rw [hw];exact (yV0 HO_444001))⟩;replace HO453 : Aside0 (Kd.V (Kd.int .i64) 3 w50 w.heap.size (fun k_=>(P0_1_ k_∨w.heap.size≤k_)∧k_≠gb443∧k_≠gb444∧k_≠gb455) (.slice Ao49 t451.length co49) t451):=⟨(by rw [hw];exact (yV0 HO453))⟩;replace BK443 : Aside0 (w50.heap[gb443]? = some (.cells #[.int .u64 a0_0, .slice A0_1 l0_1.length c0_1] 33 (0,0))):=⟨(by rw [hw];exact (yk BK443))⟩;replace BK444 : Aside0 (w50.heap[gb444]? = some (.cells #[.int .u64 0, .slice none 0 0] 33 (0,0))):=⟨(by rw [hw];exact (yk BK444))⟩;replace BK455 : Aside0 (w50.heap[gb455]? = some (.cells #[.int .u64 t450, .slice Ao49 t451.length co49] 33 (0,0))):=⟨(by rw [hw];exact (ykp BK455))⟩;replace HB : Aside0 (Below w.heap.size w w50):=⟨(by rw [hw];exact yhb)⟩;clear hw;obtain ⟨_,_,_,_⟩:=yc2 BK455)|((with_reducible refine gate_callee (f:=19) rfl ?_);refine ygl 67 Try.func19 #[.agg #[.int .u64 t450, .slice Ao49 t451.length co49], .int .i64 (wrap64 (Int.tmod a1 65536)), .int .i64 (wrap64 ((wrap64 (Int.tmod a1 65536))+1)), .int .i64 65536] ?_;(with_reducible refine (psalteryref05_Put.calls kj3 t450 (fun k_=>((P0_1_ k_∨w.heap.size≤k_)∧(k_≠gb443∧(k_≠gb444∧k_≠gb455)))) _ _ t451 (wrap64 (Int.tmod a1 65536)) (wrap64 ((wrap64 (Int.tmod a1 65536))+1)) 65536 t456 t457 t460 _ HO453.out A22.out).mono ?_);rintro e w52 ⟨v458,rfl,ho0,hb⟩;refine ⟨_,rfl, ?_⟩;replace HO_444001:=yVb HO_444001 hb;replace HO453:=yVb HO453 hb;have HO459:=yho (fun k_=>(P0_1_ k_∨w.heap.size≤k_)∧k_≠gb443∧k_≠gb444∧k_≠gb455) ho0 (fun k_ hk_=>⟨Or.elim hk_ (fun hs_=>hs_.1) (fun hn_=>(.inr (Nat.le_trans (zE yhb) hn_))),yoB BK443 hk_,yoB BK444 hk_,yoB BK455 hk_⟩);replace BK443:=ybb BK443 hb;replace BK444:=ybb BK444 hb;replace BK455:=ybb BK455 hb;replace HB:=ybs hb;(try clear hb);(try clear ho0))|((with_reducible refine gate_dst (N:=10) rfl ?_);refine ybx 10 #[.int .u64 0, .slice none 0 0] 33 ?_;intro gb461 hg w53 hbox hb;replace HO_444001:=yVe HO_444001 hg hb;replace HO453:=yVe HO453 hg hb;replace HO459:=yVe HO459 hg hb;have BK461:=zm (hbox);have GW461:=ygw hg;have GE461:=ygw hg;replace HB:=ybs hb;have NB443_461:=ynl BK443 hg;have NB461_443:=yng BK443 hg;replace BK443:=ybb BK443 hb;have NB444_461:=ynl BK444 hg;have NB461_444:=yng BK444 hg;replace BK444:=ybb BK444 hb;have NB455_461:=ynl BK455 hg;have NB461_455:=yng BK455 hg;replace BK455:=ybb BK455 hb;clear hb hbox hg;have:=NB461_443.out;have:=NB443_461.out;have:=NB461_444.out;have:=NB444_461.out;have:=NB461_455.out;have:=NB455_461.out;obtain ⟨_,_,_,_⟩:=yc2 BK461;obtain ⟨Ao58,co58,eo58⟩:=Kd.V_slice HO459.out;subst eo58;obtain ⟨_,_,_,_⟩:=yc2 BK443;obtain ⟨_,_,_,_⟩:=yc2 BK444))
      refine bodyPost_ret (results_ct rfl _ _ gb444 33 #[.int .u64 a0_0, .slice A0_1 l0_1.length c0_1] (0,0) _ rfl (ykp BK444) Try.underlying33 rfl (by kernel_rfl)) rfl ?_
      exact ⟨_,ye,yV0 HO_444001,yhb⟩
    ·
     rw [if_neg c21] at H
     have c21b0 : (t454 == 0)=false:=beq_eq_false_iff_ne.mpr c21
     have c21b1 : (t454 != 0)=true:=bne_iff_ne.mpr c21
     simp only [Option.some.injEq,Prod.mk.injEq] at H
     obtain ⟨rfl,rfl,rfl⟩:=H
     have:=NB443_444.out
     have:=NB444_443.out
     obtain ⟨_,_,_,_⟩:=yc2 BK443
     go_wp2_with (first|((with_reducible refine gate_callee (f:=19) rfl ?_);refine ygl 51 Try.func19 #[.agg #[.int .u64 a0_0, .slice A0_1 l0_1.length c0_1], .int .i64 (wrap64 (IntKind.u64.wrap (Int.tdiv a1 65536))), .int .i64 (wrap64 ((wrap64 (IntKind.u64.wrap (Int.tdiv a1 65536)))+1)), .int .i64 (wrap64 ((wrap64 (IntKind.u64.wrap (Int.tdiv (IntKind.u64.wrap (a2 - 1)) 65536)))+1))] ?_;(with_reducible refine (psalteryref05_Put.calls kj3 a0_0 (fun k_=>((P0_1_ k_∨w.heap.size≤k_)∧(k_≠gb443∧k_≠gb444))) _ _ l0_1 (wrap64 (IntKind.u64.wrap (Int.tdiv a1 65536))) (wrap64 ((wrap64 (IntKind.u64.wrap (Int.tdiv a1 65536)))+1)) (wrap64 ((wrap64 (IntKind.u64.wrap (Int.tdiv (IntKind.u64.wrap (a2 - 1)) 65536)))+1)) t450 t451 t454 _ HO_444001.out A20.out).mono ?_);rintro e w63 ⟨v452,rfl,ho0,hb⟩;refine ⟨_,rfl, ?_⟩;replace HO_444001:=yVb HO_444001 hb;have HO453:=yho (fun k_=>(P0_1_ k_∨w.heap.size≤k_)∧k_≠gb443∧k_≠gb444) ho0 (fun k_ hk_=>⟨Or.elim hk_ (fun hs_=>hs_.1) (fun hn_=>(.inr (Nat.le_trans (zE yhb) hn_))),yoB BK443 hk_,yoB BK444 hk_⟩);replace BK443:=ybb BK443 hb;replace BK444:=ybb BK444 hb;replace HB:=ybs hb;(try clear hb);(try clear ho0))|((with_reducible refine gate_dst (N:=8) rfl ?_);refine ybx 8 #[.int .u64 0, .slice none 0 0] 33 ?_;intro gb455 hg w64 hbox hb;replace HO_444001:=yVe HO_444001 hg hb;replace HO453:=yVe HO453 hg hb;have BK455:=zm (hbox);have GW455:=ygw hg;have GE455:=ygw hg;replace HB:=ybs hb;have NB443_455:=ynl BK443 hg;have NB455_443:=yng BK443 hg;replace BK443:=ybb BK443 hb;have NB444_455:=ynl BK444 hg;have NB455_444:=yng BK444 hg;replace BK444:=ybb BK444 hb;clear hb hbox hg;have:=NB455_443.out;have:=NB443_455.out;have:=NB455_444.out;have:=NB444_455.out;obtain ⟨_,_,_,_⟩:=yc2 BK455;obtain ⟨Ao68,co68,eo68⟩:=Kd.V_slice HO453.out;subst eo68;obtain ⟨_,_,_,_⟩:=yc2 BK443;obtain ⟨_,_,_,_⟩:=yc2 BK444))
     refine bodyPost_ret (results_ct rfl _ _ gb444 33 #[.int .u64 a0_0, .slice A0_1 l0_1.length c0_1] (0,0) _ rfl (ykp BK444) Try.underlying33 rfl (by kernel_rfl)) rfl ?_
     exact ⟨_,ye,yV0 HO_444001,yhb⟩
def psalteryref11_Right.l0 : Nat→List Int→Bool→Int→Option (Bool)
 | 0,_,_,_=>none
 | k+1,x0,x3,x4=>if x4 < (x0.length : Int) then (if x3=true then (if 0≤x4 then (if (rd x0 x4) ≥ 0 then (psalteryref11_Right.l0 k x0 (decide ((rd x0 x4)≤44)) (wrap64 (x4+1))) else (psalteryref11_Right.l0 k x0 false (wrap64 (x4+1)))) else (none)) else (psalteryref11_Right.l0 k x0 false (wrap64 (x4+1)))) else (some x3)
def psalteryref11_Right.f (k : Nat) (l0 : List Int) : Option (Bool):=psalteryref11_Right.l0 k l0 ((l0.length : Int) == 5) 0
theorem psalteryref11_Right.mono_l : ∀ k,(∀ y0 y1 y2,LeO (psalteryref11_Right.l0 k y0 y1 y2) (psalteryref11_Right.l0 (k+1) y0 y1 y2))
 | 0=>fun _ _ _ r h=>by simp [psalteryref11_Right.l0] at h
 | k+1=>by
  have ih0:=psalteryref11_Right.mono_l k
  ·
   intro y0 y1 y2
   unfold psalteryref11_Right.l0
   repeat' with_reducible first|apply ih0|apply yLr|apply yLn|apply yLi|apply yLb|intro _
theorem psalteryref11_Right.mono : ∀ a0 k,LeO (psalteryref11_Right.f k a0) (psalteryref11_Right.f (k+1) a0):=by
 intro a0 k
 have ih0:=psalteryref11_Right.mono_l k
 unfold psalteryref11_Right.f
 repeat' with_reducible first|apply ih0|apply yLr|apply yLn|apply yLi|apply yLb|intro _
set_option maxHeartbeats 8000000 in
set_option maxRecDepth 100000 in
theorem psalteryref11_Right.calls (k : Nat) (A0 : Option Addr) (c0 : Nat) (l0 : List Int) (r : Bool) (w : World) (hr0 : Kd.C (Kd.int .i64) w A0 l0.length l0) (hc0 : l0.length≤c0) (h : psalteryref11_Right.f k l0=some r) :
  Calls Try.prog 46 #[.slice A0 l0.length c0] w fun e w' => e=.returned (.bool r)∧Drawn0 w w' := by
 have HR0:=zm hr0;have HC0:=zm hc0;clear hr0 hc0
 have H : (psalteryref11_Right.l0 k l0 ((l0.length : Int) == 5) 0)=some r:=h
 clear h
 have H' := zm H
 clear H
 go_enter Try.func46,Try.ntmps46
 go_wp2
 go_loopg [3,4] k (fun kq v3 v4 w' => ∃ (x3_1 : Bool) (x4_1 : Int),v3=.bool x3_1∧v4=.int .i64 x4_1∧Aside0 (psalteryref11_Right.l0 kq l0 x3_1 x4_1=some r)∧Aside0 (kq≤k)∧Drawn0 w w')
 case atStart=>exact ⟨(((l0.length : Int) == 5)),(0),yq,yq,H',⟨Nat.le_refl _⟩,yd⟩
 case round =>
  clear H'
  obtain ⟨x3_1,x4_1,rfl,rfl,HA,HK1,⟨m1,rfl⟩⟩:=hrel
  obtain ⟨k1,rfl⟩:=ysu gk (fun h=>by subst h;exact absurd HA.out (by simp [psalteryref11_Right.l0]))
  have H:=HA.out;clear HA
  simp only [psalteryref11_Right.l0] at H
  by_cases c2 : x4_1 < (l0.length : Int)
  ·
   rw [if_pos c2] at H
   have c2b0 : decide (x4_1 < (l0.length : Int))=true:=decide_eq_true c2
   clear c2
   by_cases c3 : x3_1=true
   ·
    subst c3
    rw [if_pos rfl] at H
    replace H:=yif H;obtain ⟨c4,H⟩:=H
    have c4b0 : decide (0≤x4_1)=true:=decide_eq_true c4
    clear c4
    by_cases c5 : (rd l0 x4_1) ≥ 0
    ·
     rw [if_pos c5] at H
     have c5b0 : decide (0≤(rd l0 x4_1))=true:=decide_eq_true c5
     clear c5
     have H' := zm H
     clear H
     obtain ⟨ad462,e462,hx462_0,p462,q462⟩:=yai HR0 x4_1
     cases e462
     have p463 : 0≤(x4_1 : Int):=yt
     have q463 : x4_1 < (l0.length : Int):=yt
     obtain ⟨ad463,e463,hx463_0⟩:=Kd.at_int HR0.out x4_1 p463 q463
     obtain rfl : ad462=ad463:=(by injection e463)
     replace p463:=eq_true p463
     replace q463:=eq_true q463
     go_wp2
     go_roundg k1
     case measure=>exact yom1 HK1
     case rel=>exact ⟨(decide ((rd l0 x4_1)≤44)),(wrap64 (x4_1+1)),yq,yq,H',⟨yom1 HK1⟩,yd⟩
    ·
     rw [if_neg c5] at H
     have c5b0 : decide (0≤(rd l0 x4_1))=false:=decide_eq_false c5
     clear c5
     have H' := zm H
     clear H
     obtain ⟨ad462,e462,hx462_0,p462,q462⟩:=yai HR0 x4_1
     cases e462
     go_wp2
     go_roundg k1
     case measure=>exact yom1 HK1
     case rel=>exact ⟨(false),(wrap64 (x4_1+1)),yq,yq,H',⟨yom1 HK1⟩,yd⟩
   ·
    replace c3:=Bool.eq_false_iff.mpr c3
    subst c3
    rw [ynf] at H
    have H' := zm H
    clear H
    go_wp2
    go_roundg k1
    case measure=>exact yom1 HK1
    case rel=>exact ⟨(false),(wrap64 (x4_1+1)),yq,yq,H',⟨yom1 HK1⟩,yd⟩
  ·
   rw [if_neg c2] at H
   have c2b0 : decide (x4_1 < (l0.length : Int))=false:=decide_eq_false c2
   clear c2
   obtain rfl:=Option.some.inj H
   go_wp2
   go_ret
   exact ⟨yq,yd⟩
mutual
def psalteryref11_Put.j0 : Nat→List Int→List Int→Bool→Bool→Int→List Int→Option (Int × List Int × Int)
 | 0,_,_,_,_,_,_=>none
 | k+1,x1,x2,x3,x26,x465000,x465001=>if x26=true then (some (x465000,x465001,1)) else (psalteryref11_Put.l0 k x1 x2 x3 0 x465000 x465001 x465000 x465001)
def psalteryref11_Put.l0 : Nat→List Int→List Int→Bool→Int→Int→List Int→Int→List Int→Option (Int × List Int × Int)
 | 0,_,_,_,_,_,_,_,_=>none
 | k+1,x1,x2,x3,x11,x465000,x465001,x469000,x469001=>if x11 < 5 then (if x3=true then (psalteryref11_Put.j3 k x1 x2 x3 x11 x3 x465000 x465001 x469000 x469001) else (if 0≤x11 then (if x11 < (x1.length : Int) then (if x11 < (x2.length : Int) then (if (wrap64 ((wrap64 ((rd x1 x11) - (rd x2 x11)))+3)) < 0 then (psalteryref11_Put.j2 k x1 x2 x3 x11 x3 (wrap64 ((wrap64 ((rd x1 x11) - (rd x2 x11)))+3)) true x465000 x465001 x469000 x469001) else (psalteryref11_Put.j2 k x1 x2 x3 x11 x3 (wrap64 ((wrap64 ((rd x1 x11) - (rd x2 x11)))+3)) (decide ((wrap64 ((wrap64 ((rd x1 x11) - (rd x2 x11)))+3)) > 6)) x465000 x465001 x469000 x469001)) else (none)) else (none)) else (none))) else (some (x469000,x469001,0))
def psalteryref11_Put.j3 : Nat→List Int→List Int→Bool→Int→Bool→Int→List Int→Int→List Int→Option (Int × List Int × Int)
 | 0,_,_,_,_,_,_,_,_,_=>none
 | k+1,x1,x2,x3,x11,x13,x465000,x465001,x469000,x469001=>if x13=true then (if 0≤x11 then (if x11 < (x1.length : Int) then ((psalteryref05_PutNum.f k x469000 x469001 (IntKind.u64.wrap (rd x1 x11)) 45).bind fun bt482=>(if bt482.2.2=0 then (psalteryref11_Put.l0 k x1 x2 x3 (wrap64 (x11+1)) x465000 x465001 bt482.1 bt482.2.1) else (some (x465000,x465001,bt482.2.2)))) else (none)) else (none)) else (psalteryref11_Put.l0 k x1 x2 x3 (wrap64 (x11+1)) x465000 x465001 x469000 x469001)
def psalteryref11_Put.j2 : Nat→List Int→List Int→Bool→Int→Bool→Int→Bool→Int→List Int→Int→List Int→Option (Int × List Int × Int)
 | 0,_,_,_,_,_,_,_,_,_,_,_=>none
 | k+1,x1,x2,x3,x11,x13,x14,x51,x465000,x465001,x469000,x469001=>if x51=true then ((psalteryref05_Put.f k x469000 x469001 7 (7+1) 8).bind fun bt471=>(if bt471.2.2=0 then (psalteryref11_Put.j3 k x1 x2 x3 x11 true x465000 x465001 bt471.1 bt471.2.1) else (some (x465000,x465001,bt471.2.2)))) else ((psalteryref05_Put.f k x469000 x469001 x14 (wrap64 (x14+1)) 8).bind fun bt476=>(if bt476.2.2=0 then (psalteryref11_Put.j3 k x1 x2 x3 x11 x13 x465000 x465001 bt476.1 bt476.2.1) else (some (x465000,x465001,bt476.2.2))))
end
def psalteryref11_Put.f (k : Nat) (a0_0 : Int) (l0_1 : List Int) (l1 : List Int) (l2 : List Int) (a3 : Bool) : Option (Int × List Int × Int):=(psalteryref11_Right.f k l1).bind fun t466=>(if t466=true then (if a3=true then (psalteryref11_Put.j0 k l1 l2 a3 false a0_0 l0_1) else ((psalteryref11_Right.f k l2).bind fun t467=>(psalteryref11_Put.j0 k l1 l2 a3 (!t467) a0_0 l0_1))) else (psalteryref11_Put.j0 k l1 l2 a3 true a0_0 l0_1))
theorem psalteryref11_Put.mono_l : ∀ k,(∀ y0 y1 y2 y3 y4 y5,LeO (psalteryref11_Put.j0 k y0 y1 y2 y3 y4 y5) (psalteryref11_Put.j0 (k+1) y0 y1 y2 y3 y4 y5))∧(∀ y0 y1 y2 y3 y4 y5 y6 y7,LeO (psalteryref11_Put.l0 k y0 y1 y2 y3 y4 y5 y6 y7) (psalteryref11_Put.l0 (k+1) y0 y1 y2 y3 y4 y5 y6 y7))∧(∀ y0 y1 y2 y3 y4 y5 y6 y7 y8,LeO (psalteryref11_Put.j3 k y0 y1 y2 y3 y4 y5 y6 y7 y8) (psalteryref11_Put.j3 (k+1) y0 y1 y2 y3 y4 y5 y6 y7 y8))∧(∀ y0 y1 y2 y3 y4 y5 y6 y7 y8 y9 y10,LeO (psalteryref11_Put.j2 k y0 y1 y2 y3 y4 y5 y6 y7 y8 y9 y10) (psalteryref11_Put.j2 (k+1) y0 y1 y2 y3 y4 y5 y6 y7 y8 y9 y10))
 | 0=>⟨fun _ _ _ _ _ _ r h=>by simp [psalteryref11_Put.j0] at h,fun _ _ _ _ _ _ _ _ r h=>by simp [psalteryref11_Put.l0] at h,fun _ _ _ _ _ _ _ _ _ r h=>by simp [psalteryref11_Put.j3] at h,fun _ _ _ _ _ _ _ _ _ _ _ r h=>by simp [psalteryref11_Put.j2] at h⟩
 | k+1=>by
  obtain ⟨ih0,ih1,ih2,ih3⟩:=psalteryref11_Put.mono_l k
  refine ⟨?_, ?_, ?_, ?_⟩
  ·
   intro y0 y1 y2 y3 y4 y5
   unfold psalteryref11_Put.j0
   repeat' with_reducible first|apply ih0|apply ih1|apply ih2|apply ih3|apply psalteryref05_Put.mono|apply psalteryref05_PutNum.mono|apply psalteryref11_Right.mono|apply yLr|apply yLn|apply yLi|apply yLb|intro _
  ·
   intro y0 y1 y2 y3 y4 y5 y6 y7
   unfold psalteryref11_Put.l0
   repeat' with_reducible first|apply ih0|apply ih1|apply ih2|apply ih3|apply psalteryref05_Put.mono|apply psalteryref05_PutNum.mono|apply psalteryref11_Right.mono|apply yLr|apply yLn|apply yLi|apply yLb|intro _
  ·
   intro y0 y1 y2 y3 y4 y5 y6 y7 y8
   unfold psalteryref11_Put.j3
   repeat' with_reducible first|apply ih0|apply ih1|apply ih2|apply ih3|apply psalteryref05_Put.mono|apply psalteryref05_PutNum.mono|apply psalteryref11_Right.mono|apply yLr|apply yLn|apply yLi|apply yLb|intro _
  ·
   intro y0 y1 y2 y3 y4 y5 y6 y7 y8 y9 y10
   unfold psalteryref11_Put.j2
   repeat' with_reducible first|apply ih0|apply ih1|apply ih2|apply ih3|apply psalteryref05_Put.mono|apply psalteryref05_PutNum.mono|apply psalteryref11_Right.mono|apply yLr|apply yLn|apply yLi|apply yLb|intro _
theorem psalteryref11_Put.mono : ∀ a0 a1 a2 a3 a4 k,LeO (psalteryref11_Put.f k a0 a1 a2 a3 a4) (psalteryref11_Put.f (k+1) a0 a1 a2 a3 a4):=by
 intro a0 a1 a2 a3 a4 k
 obtain ⟨ih0,ih1,ih2,ih3⟩:=psalteryref11_Put.mono_l k
 unfold psalteryref11_Put.f
 repeat' with_reducible first|apply ih0|apply ih1|apply ih2|apply ih3|apply psalteryref05_Put.mono|apply psalteryref05_PutNum.mono|apply psalteryref11_Right.mono|apply yLr|apply yLn|apply yLi|apply yLb|intro _
def psalteryref11_Put.T10 : Bool × List (List Nat × List Nat):=(true, [([], []),([], []),([0,1], [0,1]),([2], [2]),([], []),([], []),([4,5], [4,5]),([6], [6]),([3,7], [3,7]),([8], [8]),([9,0,1,2,3,4,5,6,7,8,9], [9])])
def psalteryref11_Put.B10 : List Nat := [0,0,3,7,0,0,48,112,255,511,1023]
theorem psalteryref11_Put.tab10 : rtab .any (opsOf Try.f44 10)=psalteryref11_Put.T10:=by kernel_rfl
theorem psalteryref11_Put.bits10 : waitsOk psalteryref11_Put.T10.2 psalteryref11_Put.B10=true:=by kernel_rfl
def psalteryref11_Put.T18 : Bool × List (List Nat × List Nat):=(true, [([], []),([], []),([], []),([1,2], [1,2]),([3], [3]),([4], [4]),([0,5], [0,5]),([6], [6]),([7], [7]),([7], [7]),([8,6,0,1,2,3,4,5,6,7,8], [8]),([9,10,0,1,2,3,4,5,6,7,8,9,10], [9])])
def psalteryref11_Put.B18 : List Nat := [0,0,0,6,14,30,63,127,255,255,511,2047]
theorem psalteryref11_Put.tab18 : rtab .any (opsOf Try.f44 18)=psalteryref11_Put.T18:=by kernel_rfl
theorem psalteryref11_Put.bits18 : waitsOk psalteryref11_Put.T18.2 psalteryref11_Put.B18=true:=by kernel_rfl
set_option maxHeartbeats 8000000 in
set_option maxRecDepth 100000 in
theorem psalteryref11_Put.calls (k : Nat) (a0_0 : Int) (P0_1_ : Nat→Prop) (A0_1 : Option Addr) (c0_1 : Nat) (l0_1 : List Int) (A1 : Option Addr) (c1 : Nat) (l1 : List Int) (A2 : Option Addr) (c2 : Nat) (l2 : List Int) (a3 : Bool) (r1 : Int) (r2 : List Int) (r3 : Int) (w : World) (hs0_1 : Kd.V (Kd.int .i64) 3 w w.heap.size (fun k_=>P0_1_ k_) (.slice A0_1 l0_1.length c0_1) l0_1) (hr1 : Kd.C (Kd.int .i64) w A1 l1.length l1) (hc1 : l1.length≤c1) (hr2 : Kd.C (Kd.int .i64) w A2 l2.length l2) (hc2 : l2.length≤c2) (h : psalteryref11_Put.f k a0_0 l0_1 l1 l2 a3=some (r1,r2,r3)) :
  Calls Try.prog 44 #[.agg #[.int .u64 a0_0, .slice A0_1 l0_1.length c0_1], .slice A1 l1.length c1, .slice A2 l2.length c2, .bool a3] w fun e w' => ∃ v1_ : Value,e=.returned (.tuple #[.agg #[.int .u64 r1,v1_], .int .i64 r3])∧Kd.V (Kd.int .i64) 3 w' w.heap.size (fun k_=>(P0_1_ k_∨w.heap.size≤k_)) v1_ r2∧Below w.heap.size w w' := by
 have hu33:=Try.underlying33
 have HO0_1:=zm (show Kd.V (Kd.int .i64) 3 w w.heap.size (fun k_=>(P0_1_ k_∨w.heap.size≤k_)) (.slice A0_1 l0_1.length c0_1) l0_1 from zy hs0_1 (fun k_ hk => .inl hk))
 have HR1:=zm hr1;have HC1:=zm hc1;clear hr1 hc1;have HR2:=zm hr2;have HC2:=zm hc2;clear hr2 hc2;have HB:=zm (Below.refl w.heap.size w)
 have H : ((psalteryref11_Right.f k l1).bind fun t466=>(if t466=true then (if a3=true then (psalteryref11_Put.j0 k l1 l2 a3 false a0_0 l0_1) else ((psalteryref11_Right.f k l2).bind fun t467=>(psalteryref11_Put.j0 k l1 l2 a3 (!t467) a0_0 l0_1))) else (psalteryref11_Put.j0 k l1 l2 a3 true a0_0 l0_1)))=some (r1,r2,r3):=h
 clear h;have HC5:=zm H;clear H
 go_enter Try.func44,Try.ntmps44
 go_upto_region 1 with (first|((with_reducible refine gate_dst (N:=4) rfl ?_);refine ybx 4 #[.int .u64 a0_0, .slice A0_1 l0_1.length c0_1] 33 ?_;intro gb464 hg w6 hbox hb;replace HO0_1:=yVe HO0_1 hg hb;have BK464:=zm (hbox);have GW464:=ygw hg;have GE464:=ygw hg;replace HB:=ybs hb;clear hb hbox hg)|((with_reducible refine gate_dst (N:=8) rfl ?_);refine ybx 8 #[.int .u64 0, .slice none 0 0] 33 ?_;intro gb465 hg w7 hbox hb;replace HO0_1:=yVe HO0_1 hg hb;have BK465:=zm (hbox);have GW465:=ygw hg;have GE465:=ygw hg;replace HB:=ybs hb;have NB464_465:=ynl BK464 hg;have NB465_464:=yng BK464 hg;replace BK464:=ybb BK464 hb;clear hb hbox hg))
 (try simp only [Act.put,List.setIfInBounds_toArray,List.set_cons_zero,List.set_cons_succ])
 go_cut [26] (fun v26 wc => ∃ (kq : Nat) (x26_4 : Bool),v26=.bool x26_4∧Aside0 (psalteryref11_Put.j0 kq l1 l2 a3 x26_4 a0_0 l0_1=some (r1,r2,r3))∧Aside0 (kq≤k)∧Aside0 (Kd.V (Kd.int .i64) 3 wc w.heap.size (fun k_=>(P0_1_ k_∨w.heap.size≤k_)∧k_≠gb464∧k_≠gb465) (.slice A0_1 l0_1.length c0_1) l0_1)∧Aside0 (wc.heap[gb464]? = some (.cells #[.int .u64 a0_0,(.slice A0_1 l0_1.length c0_1)] 33 (0,0)))∧Aside0 (wc.heap[gb465]? = some (.cells #[.int .u64 0,(.slice none 0 0)] 33 (0,0)))∧Aside0 (Below w.heap.size w wc))
 case first =>
  have H:=HC5.out;clear HC5
  replace H:=ybi H;obtain ⟨t466,A8,H⟩:=H
  by_cases c9 : t466=true
  ·
   subst c9
   rw [if_pos rfl] at H
   by_cases c10 : a3=true
   ·
    subst c10
    rw [if_pos rfl] at H
    have H' := zm H
    clear H
    go_wp2_with (first|((with_reducible refine gate_callee (f:=46) rfl ?_);refine ygl 16 Try.func46 #[.slice A1 l1.length c1] ?_;(with_reducible refine (psalteryref11_Right.calls k _ _ l1 true _ ?side1 HC1.out A8.out).mono ?_);(case side1=>exact ycb HR1);rintro e w' ⟨rfl,⟨nd,rfl⟩⟩;refine ⟨_,rfl, ?_⟩))
    go_meet
    case rel=>exact ⟨_,(false),yq,H',⟨yo⟩,⟨yV0 HO0_1⟩,⟨yk BK464⟩,⟨yk BK465⟩,⟨yhb⟩⟩
   ·
    replace c10:=Bool.eq_false_iff.mpr c10
    subst c10
    rw [ynf] at H
    replace H:=ybi H;obtain ⟨t467,A11,H⟩:=H
    have H' := zm H
    clear H
    go_wp2_with (first|((with_reducible refine gate_callee (f:=46) rfl ?_);refine ygl 16 Try.func46 #[.slice A1 l1.length c1] ?_;(with_reducible refine (psalteryref11_Right.calls k _ _ l1 true _ ?side1 HC1.out A8.out).mono ?_);(case side1=>exact ycb HR1);rintro e w' ⟨rfl,⟨nd,rfl⟩⟩;refine ⟨_,rfl, ?_⟩)|(go_at_call 46;(with_reducible refine (psalteryref11_Right.calls k _ _ l2 t467 _ ?side1 HC2.out A11.out).mono ?_);(case side1=>exact ycb HR2);rintro e w' ⟨rfl,⟨nd,rfl⟩⟩))
    go_meet
    case rel=>exact ⟨_,(!t467),yq,H',⟨yo⟩,⟨yV0 HO0_1⟩,⟨yk BK464⟩,⟨yk BK465⟩,⟨yhb⟩⟩
  ·
   replace c9:=Bool.eq_false_iff.mpr c9
   subst c9
   rw [ynf] at H
   have H' := zm H
   clear H
   go_wp2_with (first|((with_reducible refine gate_callee (f:=46) rfl ?_);refine ygl 16 Try.func46 #[.slice A1 l1.length c1] ?_;(with_reducible refine (psalteryref11_Right.calls k _ _ l1 false _ ?side1 HC1.out A8.out).mono ?_);(case side1=>exact ycb HR1);rintro e w' ⟨rfl,⟨nd,rfl⟩⟩;refine ⟨_,rfl, ?_⟩))
   go_meet
   case rel=>exact ⟨_,(true),yq,H',⟨yo⟩,⟨yV0 HO0_1⟩,⟨yk BK464⟩,⟨yk BK465⟩,⟨yhb⟩⟩
 case rest =>
  clear HC5
  try clear c1
  try clear c2
  obtain ⟨kq,x26_4,rfl,HA,HJ4,HO_465001,BK464,BK465,HB⟩:=hcut
  obtain ⟨kj4,rfl⟩:=ysu kq (fun h=>by subst h;exact absurd HA.out (by simp [psalteryref11_Put.j0]))
  have H:=HA.out;clear HA
  simp only [psalteryref11_Put.j0] at H
  by_cases c12 : x26_4=true
  ·
   subst c12
   rw [if_pos rfl] at H
   simp only [Option.some.injEq,Prod.mk.injEq] at H
   obtain ⟨rfl,rfl,rfl⟩:=H
   have:=NB464_465.out
   have:=NB465_464.out
   obtain ⟨hcz14_0,hcz14_1,hfz14_0,hfz14_1⟩:=yc2 BK464
   obtain ⟨hcz15_0,hcz15_1,hfz15_0,hfz15_1⟩:=yc2 BK465
   go_wp2
   refine bodyPost_ret (results_ct rfl _ _ gb465 33 #[.int .u64 a0_0, .slice A0_1 l0_1.length c0_1] (0,0) _ rfl (ykp BK465) Try.underlying33 rfl (by kernel_rfl)) rfl ?_
   exact ⟨_,ye,yV0 HO_465001,yhb⟩
  ·
   replace c12:=Bool.eq_false_iff.mpr c12
   subst c12
   rw [ynf] at H
   have H' := zm H
   clear H
   have:=NB464_465.out
   have:=NB465_464.out
   obtain ⟨hcz17_0,hcz17_1,hfz17_0,hfz17_1⟩:=yc2 BK464
   go_wp2_with (first|((with_reducible refine gate_dst (N:=10) rfl ?_);refine ybx 10 #[.int .u64 0, .slice none 0 0] 33 ?_;intro gb468 hg w18 hbox hb;replace HO_465001:=yVe HO_465001 hg hb;have BK468:=zm (hbox);have GW468:=ygw hg;have GE468:=ygw hg;replace HB:=ybs hb;have NB464_468:=ynl BK464 hg;have NB468_464:=yng BK464 hg;replace BK464:=ybb BK464 hb;have NB465_468:=ynl BK465 hg;have NB468_465:=yng BK465 hg;replace BK465:=ybb BK465 hb;clear hb hbox hg;have:=NB468_464.out;have:=NB464_468.out;have:=NB468_465.out;have:=NB465_468.out;obtain ⟨hcz21_0,hcz21_1,hfz21_0,hfz21_1⟩:=yc2 BK468))
   go_loopg [11] kj4 (fun kq v11 w' => ∃ (x11_2 : Int) (x466000_2 : Int) (x469000_2 : Int) (x469001_2 : List Int) (u469001 : Value),v11=.int .i64 x11_2∧Aside0 (psalteryref11_Put.l0 kq l1 l2 a3 x11_2 a0_0 l0_1 x469000_2 x469001_2=some (r1,r2,r3))∧Aside0 (kq≤kj4)∧Aside0 (Kd.V (Kd.int .i64) 3 w' w.heap.size (fun k_=>(P0_1_ k_∨w.heap.size≤k_)∧k_≠gb464∧k_≠gb465∧k_≠gb468) (.slice A0_1 l0_1.length c0_1) l0_1)∧Aside0 (Kd.V (Kd.int .i64) 3 w' w.heap.size (fun k_=>(P0_1_ k_∨w.heap.size≤k_)∧k_≠gb464∧k_≠gb465∧k_≠gb468) u469001 x469001_2)∧Aside0 (w'.heap[gb464]? = some (.cells #[.int .u64 a0_0,(.slice A0_1 l0_1.length c0_1)] 33 (0,0)))∧Aside0 (w'.heap[gb465]? = some (.cells #[.int .u64 x466000_2,(.slice none 0 0)] 33 (0,0)))∧Aside0 (w'.heap[gb468]? = some (.cells #[.int .u64 x469000_2,u469001] 33 (0,0)))∧Aside0 (Below w.heap.size w w'))
   case atStart=>exact ⟨(0),(0),(a0_0),(l0_1),(.slice A0_1 l0_1.length c0_1),yq,H',⟨Nat.le_refl _⟩,⟨yV0 HO_465001⟩,⟨yV0 HO_465001⟩,⟨yk BK464⟩,⟨yk BK465⟩,⟨ykp BK468⟩,⟨yhb⟩⟩
   case round =>
    clear H'
    try clear hcz14_0
    try clear hcz14_1
    try clear hcz15_0
    try clear hcz15_1
    try clear hcz17_0
    try clear hcz17_1
    try clear hcz21_0
    try clear hcz21_1
    try clear hfz14_0
    try clear hfz14_1
    try clear hfz15_0
    try clear hfz15_1
    try clear hfz17_0
    try clear hfz17_1
    try clear hfz21_0
    try clear hfz21_1
    obtain ⟨x11_2,x466000_2,x469000_2,x469001_2,u469001,rfl,HA,HK2,HO_465001,HO_469001,BK464,BK465,BK468,HB⟩:=hrel
    obtain ⟨k2,rfl⟩:=ysu gk (fun h=>by subst h;exact absurd HA.out (by simp [psalteryref11_Put.l0]))
    have H:=HA.out;clear HA
    simp only [psalteryref11_Put.l0] at H
    by_cases c22 : x11_2 < 5
    ·
     rw [if_pos c22] at H
     have c22b0 : decide (x11_2 < 5)=true:=decide_eq_true c22
     clear c22;have HC23:=zm H;clear H
     go_upto_if 35 with (fail)
     go_cut [13] (fun v13 wc => ∃ (kq : Nat) (x13_22 : Bool) (x466000_22 : Int) (x469000_22 : Int) (x469001_22 : List Int) (u469001 : Value),v13=.bool x13_22∧Aside0 (psalteryref11_Put.j3 kq l1 l2 a3 x11_2 x13_22 a0_0 l0_1 x469000_22 x469001_22=some (r1,r2,r3))∧Aside0 (kq≤k2)∧Aside0 (Kd.V (Kd.int .i64) 3 wc w.heap.size (fun k_=>(P0_1_ k_∨w.heap.size≤k_)∧k_≠gb464∧k_≠gb465∧k_≠gb468) (.slice A0_1 l0_1.length c0_1) l0_1)∧Aside0 (Kd.V (Kd.int .i64) 3 wc w.heap.size (fun k_=>(P0_1_ k_∨w.heap.size≤k_)∧k_≠gb464∧k_≠gb465∧k_≠gb468) u469001 x469001_22)∧Aside0 (wc.heap[gb464]? = some (.cells #[.int .u64 a0_0,(.slice A0_1 l0_1.length c0_1)] 33 (0,0)))∧Aside0 (wc.heap[gb465]? = some (.cells #[.int .u64 x466000_22,(.slice none 0 0)] 33 (0,0)))∧Aside0 (wc.heap[gb468]? = some (.cells #[.int .u64 x469000_22,u469001] 33 (0,0)))∧Aside0 (Below w.heap.size w wc))
     case first =>
      have H:=HC23.out;clear HC23
      by_cases c24 : a3=true
      ·
       subst c24
       rw [if_pos rfl] at H
       have H' := zm H
       clear H
       go_wp2
       go_meet
       case rel=>exact ⟨_,(true),(x466000_2),(x469000_2),(x469001_2),(u469001),yq,H',⟨yom2 HJ4 HK2⟩,⟨yr HO_465001⟩,⟨yr HO_469001⟩,⟨yk BK464⟩,⟨yk BK465⟩,⟨yk BK468⟩,⟨yhb⟩⟩
      ·
       replace c24:=Bool.eq_false_iff.mpr c24
       subst c24
       rw [ynf] at H
       replace H:=yif H;obtain ⟨c25,H⟩:=H
       have c25b0 : decide (0≤x11_2)=true:=decide_eq_true c25
       clear c25
       (first|rw [c25b0]|(simp only [i64_w,i32_w];rw [c25b0])|skip)
       replace H:=yif H;obtain ⟨c26,H⟩:=H
       have c26b0 : decide (x11_2 < (l1.length : Int))=true:=decide_eq_true c26
       clear c26
       replace H:=yif H;obtain ⟨c27,H⟩:=H
       have c27b0 : decide (x11_2 < (l2.length : Int))=true:=decide_eq_true c27
       clear c27;have HC28:=zm H;clear H
       try go_wp2
       replace HO_465001:=zm (zC HO_465001.out)
       replace HO_469001:=zm (zC HO_469001.out)
       replace BK464:=zm (zj BK464.out)
       replace BK465:=zm (zj BK465.out)
       replace BK468:=zm (zj BK468.out)
       replace HB:=zm (zf HB.out)
       have p469 : 0≤(x11_2 : Int):=yt
       have q469 : x11_2 < (l1.length : Int):=yt
       obtain ⟨ad469,e469,hx469_0⟩:=Kd.at_int HR1.out x11_2 p469 q469
       have hw469_0:=hx469_0
       cases e469
       replace hx469_0:=yhx HB hx469_0
       replace p469:=eq_true p469
       replace q469:=eq_true q469
       have p470 : 0≤(x11_2 : Int):=yt
       have q470 : x11_2 < (l2.length : Int):=yt
       obtain ⟨ad470,e470,hx470_0⟩:=Kd.at_int HR2.out x11_2 p470 q470
       have hw470_0:=hx470_0
       cases e470
       replace hx470_0:=yhx HB hx470_0
       replace p470:=eq_true p470
       replace q470:=eq_true q470
       refine yst (fun w' => w'.cell? (ad469.add (x11_2).toNat)=some (.int .i64 (rd l1 x11_2))∧w'.cell? (ad470.add (x11_2).toNat)=some (.int .i64 (rd l2 x11_2))) [] 11 psalteryref11_Put.tab10 psalteryref11_Put.bits10 (fun hHeld HT_ HW_ => ?_)
       generalize wr.drew=w29 at HO_465001 HO_469001 BK464 BK465 BK468 HB hx469_0 hx470_0 hHeld ⊢
       refine yp 0 36 HT_ ?_
       refine yp 1 37 HT_ ?_
       refine yp 2 38 HT_ ?_
       refine yp 4 40 HT_ ?_
       refine yp 5 41 HT_ ?_
       refine yp 6 42 HT_ ?_
       refine yl 3 39 HT_ HW_ hHeld ?_
       refine yl 7 43 HT_ HW_ hHeld ?_
       refine yp 8 44 HT_ ?_
       refine yp 9 45 HT_ ?_
       refine yp 10 14 HT_ ?_
       refine done_ (done_of HT_.out (by kernel_rfl)) ?_
       go_upto_region 11 with (fail)
       go_cut [51] (fun v51 wc => ∃ (kq : Nat) (x51_27 : Bool),v51=.bool x51_27∧Aside0 (psalteryref11_Put.j2 kq l1 l2 false x11_2 false (wrap64 ((wrap64 ((rd l1 x11_2) - (rd l2 x11_2)))+3)) x51_27 a0_0 l0_1 x469000_2 x469001_2=some (r1,r2,r3))∧Aside0 (kq≤k2)∧Aside0 (Kd.V (Kd.int .i64) 3 wc w.heap.size (fun k_=>(P0_1_ k_∨w.heap.size≤k_)∧k_≠gb464∧k_≠gb465∧k_≠gb468) (.slice A0_1 l0_1.length c0_1) l0_1)∧Aside0 (Kd.V (Kd.int .i64) 3 wc w.heap.size (fun k_=>(P0_1_ k_∨w.heap.size≤k_)∧k_≠gb464∧k_≠gb465∧k_≠gb468) u469001 x469001_2)∧Aside0 (wc.heap[gb464]? = some (.cells #[.int .u64 a0_0,(.slice A0_1 l0_1.length c0_1)] 33 (0,0)))∧Aside0 (wc.heap[gb465]? = some (.cells #[.int .u64 x466000_2,(.slice none 0 0)] 33 (0,0)))∧Aside0 (wc.heap[gb468]? = some (.cells #[.int .u64 x469000_2,u469001] 33 (0,0)))∧Aside0 (Below w.heap.size w wc))
       case first =>
        have H:=HC28.out;clear HC28
        by_cases c30 : (wrap64 ((wrap64 ((rd l1 x11_2) - (rd l2 x11_2)))+3)) < 0
        ·
         rw [if_pos c30] at H
         have c30b0 : decide ((wrap64 ((wrap64 ((rd l1 x11_2) - (rd l2 x11_2)))+3)) < 0)=true:=decide_eq_true c30
         clear c30
         (first|rw [c30b0]|(simp only [i64_w,i32_w];rw [c30b0])|skip)
         have H' := zm H
         clear H
         go_wp2
         go_meet
         case rel=>exact ⟨_,(true),yq,H',⟨yom2 HJ4 HK2⟩,⟨yr HO_465001⟩,⟨yr HO_469001⟩,⟨yk BK464⟩,⟨yk BK465⟩,⟨yk BK468⟩,⟨yhb⟩⟩
        ·
         rw [if_neg c30] at H
         have c30b0 : decide ((wrap64 ((wrap64 ((rd l1 x11_2) - (rd l2 x11_2)))+3)) < 0)=false:=decide_eq_false c30
         clear c30
         (first|rw [c30b0]|(simp only [i64_w,i32_w];rw [c30b0])|skip)
         have H' := zm H
         clear H
         go_wp2
         go_meet
         case rel=>exact ⟨_,(decide ((wrap64 ((wrap64 ((rd l1 x11_2) - (rd l2 x11_2)))+3)) > 6)),yq,H',⟨yom2 HJ4 HK2⟩,⟨yr HO_465001⟩,⟨yr HO_469001⟩,⟨yk BK464⟩,⟨yk BK465⟩,⟨yk BK468⟩,⟨yhb⟩⟩
       case rest =>
        clear HC28
        try clear c22b0
        try clear c25b0
        try clear c26b0
        try clear c27b0
        try clear hx469_0
        try clear hx470_0
        try clear p469
        try clear p470
        try clear q469
        try clear q470
        obtain ⟨kq,x51_27,rfl,HA,HJ27,HO_465001,HO_469001,BK464,BK465,BK468,HB⟩:=hcut
        obtain ⟨kj27,rfl⟩:=ysu kq (fun h=>by subst h;exact absurd HA.out (by simp [psalteryref11_Put.j2]))
        have H:=HA.out;clear HA
        simp only [psalteryref11_Put.j2] at H
        by_cases c31 : x51_27=true
        ·
         subst c31
         rw [if_pos rfl] at H
         replace H:=ybi H;obtain ⟨⟨t471,t472,t475⟩,A32,H⟩:=H
         try dsimp only at H
         by_cases c33 : t475=0
         ·
          rw [if_pos c33] at H
          have c33b0 : (t475 == 0)=true:=beq_iff_eq.mpr c33
          have c33b1 : (t475 != 0)=false:=bne_eq_false_iff_eq.mpr c33
          clear c33
          have H' := zm H
          clear H
          have:=NB468_464.out
          have:=NB464_468.out
          have:=NB468_465.out
          have:=NB465_468.out
          obtain ⟨_,_,_,_⟩:=yc2 BK468
          obtain ⟨Ao37,co37,eo37⟩:=Kd.V_slice HO_469001.out
          subst eo37
          go_wp2_with (first|((with_reducible refine gate_callee (f:=19) rfl ?_);refine ygl 57 Try.func19 #[.agg #[.int .u64 x469000_2, .slice Ao37 x469001_2.length co37], .int .i64 7, .int .i64 (7+1), .int .i64 8] ?_;(with_reducible refine (psalteryref05_Put.calls kj27 x469000_2 (fun k_=>((P0_1_ k_∨w.heap.size≤k_)∧(k_≠gb464∧(k_≠gb465∧k_≠gb468)))) _ _ x469001_2 7 (7+1) 8 t471 t472 t475 _ HO_469001.out A32.out).mono ?_);rintro e w38 ⟨v473,rfl,ho0,hb⟩;refine ⟨_,rfl, ?_⟩;replace HO_465001:=yVb HO_465001 hb;replace HO_469001:=yVb HO_469001 hb;have HO474:=yho (fun k_=>(P0_1_ k_∨w.heap.size≤k_)∧k_≠gb464∧k_≠gb465∧k_≠gb468) ho0 (fun k_ hk_=>⟨Or.elim hk_ (fun hs_=>hs_.1) (fun hn_=>(.inr (Nat.le_trans (zE yhb) hn_))),yoB BK464 hk_,yoB BK465 hk_,yoB BK468 hk_⟩);replace BK464:=ybb BK464 hb;replace BK465:=ybb BK465 hb;replace BK468:=ybb BK468 hb;replace HB:=ybs hb;(try clear hb);(try clear ho0);obtain ⟨_,_,_,_⟩:=yc2 BK468;obtain ⟨Ao40,co40,eo40⟩:=Kd.V_slice HO474.out;subst eo40))
          go_meet
          case rel=>exact ⟨_,(true),(x466000_2),(t471),(t472),(.slice Ao40 t472.length co40),yq,H',⟨yom3 HJ4 HK2 HJ27⟩,⟨yV0 HO_465001⟩,⟨yV0 HO474⟩,⟨yk BK464⟩,⟨yk BK465⟩,⟨ykp BK468⟩,⟨yhb⟩⟩
         ·
          rw [if_neg c33] at H
          have c33b0 : (t475 == 0)=false:=beq_eq_false_iff_ne.mpr c33
          have c33b1 : (t475 != 0)=true:=bne_iff_ne.mpr c33
          simp only [Option.some.injEq,Prod.mk.injEq] at H
          obtain ⟨rfl,rfl,rfl⟩:=H
          have:=NB468_464.out
          have:=NB464_468.out
          have:=NB468_465.out
          have:=NB465_468.out
          obtain ⟨_,_,_,_⟩:=yc2 BK468
          obtain ⟨Ao44,co44,eo44⟩:=Kd.V_slice HO_469001.out
          subst eo44
          go_wp2_with (first|((with_reducible refine gate_callee (f:=19) rfl ?_);refine ygl 57 Try.func19 #[.agg #[.int .u64 x469000_2, .slice Ao44 x469001_2.length co44], .int .i64 7, .int .i64 (7+1), .int .i64 8] ?_;(with_reducible refine (psalteryref05_Put.calls kj27 x469000_2 (fun k_=>((P0_1_ k_∨w.heap.size≤k_)∧(k_≠gb464∧(k_≠gb465∧k_≠gb468)))) _ _ x469001_2 7 (7+1) 8 t471 t472 t475 _ HO_469001.out A32.out).mono ?_);rintro e w45 ⟨v473,rfl,ho0,hb⟩;refine ⟨_,rfl, ?_⟩;replace HO_465001:=yVb HO_465001 hb;replace HO_469001:=yVb HO_469001 hb;have HO474:=yho (fun k_=>(P0_1_ k_∨w.heap.size≤k_)∧k_≠gb464∧k_≠gb465∧k_≠gb468) ho0 (fun k_ hk_=>⟨Or.elim hk_ (fun hs_=>hs_.1) (fun hn_=>(.inr (Nat.le_trans (zE yhb) hn_))),yoB BK464 hk_,yoB BK465 hk_,yoB BK468 hk_⟩);replace BK464:=ybb BK464 hb;replace BK465:=ybb BK465 hb;replace BK468:=ybb BK468 hb;replace HB:=ybs hb;(try clear hb);(try clear ho0);obtain ⟨_,_,_,_⟩:=yc2 BK468;obtain ⟨Ao47,co47,eo47⟩:=Kd.V_slice HO474.out;subst eo47;have:=NB464_465.out;have:=NB465_464.out;obtain ⟨_,_,_,_⟩:=yc2 BK464;obtain ⟨_,_,_,_⟩:=yc2 BK465))
          refine bodyPost_ret (results_ct rfl _ _ gb465 33 #[.int .u64 a0_0, .slice A0_1 l0_1.length c0_1] (0,0) _ rfl (ykp BK465) Try.underlying33 rfl (by kernel_rfl)) rfl ?_
          exact ⟨_,ye,yV0 HO_465001,yhb⟩
        ·
         replace c31:=Bool.eq_false_iff.mpr c31
         subst c31
         rw [ynf] at H
         replace H:=ybi H;obtain ⟨⟨t476,t477,t480⟩,A51,H⟩:=H
         try dsimp only at H
         by_cases c52 : t480=0
         ·
          rw [if_pos c52] at H
          have c52b0 : (t480 == 0)=true:=beq_iff_eq.mpr c52
          have c52b1 : (t480 != 0)=false:=bne_eq_false_iff_eq.mpr c52
          clear c52
          have H' := zm H
          clear H
          have:=NB468_464.out
          have:=NB464_468.out
          have:=NB468_465.out
          have:=NB465_468.out
          obtain ⟨_,_,_,_⟩:=yc2 BK468
          obtain ⟨Ao56,co56,eo56⟩:=Kd.V_slice HO_469001.out
          subst eo56
          go_wp2_with (first|((with_reducible refine gate_callee (f:=19) rfl ?_);refine ygl 57 Try.func19 #[.agg #[.int .u64 x469000_2, .slice Ao56 x469001_2.length co56], .int .i64 (wrap64 ((wrap64 ((rd l1 x11_2) - (rd l2 x11_2)))+3)), .int .i64 (wrap64 ((wrap64 ((wrap64 ((rd l1 x11_2) - (rd l2 x11_2)))+3))+1)), .int .i64 8] ?_;(with_reducible refine (psalteryref05_Put.calls kj27 x469000_2 (fun k_=>((P0_1_ k_∨w.heap.size≤k_)∧(k_≠gb464∧(k_≠gb465∧k_≠gb468)))) _ _ x469001_2 (wrap64 ((wrap64 ((rd l1 x11_2) - (rd l2 x11_2)))+3)) (wrap64 ((wrap64 ((wrap64 ((rd l1 x11_2) - (rd l2 x11_2)))+3))+1)) 8 t476 t477 t480 _ HO_469001.out A51.out).mono ?_);rintro e w57 ⟨v478,rfl,ho0,hb⟩;refine ⟨_,rfl, ?_⟩;replace HO_465001:=yVb HO_465001 hb;replace HO_469001:=yVb HO_469001 hb;have HO479:=yho (fun k_=>(P0_1_ k_∨w.heap.size≤k_)∧k_≠gb464∧k_≠gb465∧k_≠gb468) ho0 (fun k_ hk_=>⟨Or.elim hk_ (fun hs_=>hs_.1) (fun hn_=>(.inr (Nat.le_trans (zE yhb) hn_))),yoB BK464 hk_,yoB BK465 hk_,yoB BK468 hk_⟩);replace BK464:=ybb BK464 hb;replace BK465:=ybb BK465 hb;replace BK468:=ybb BK468 hb;replace HB:=ybs hb;(try clear hb);(try clear ho0);obtain ⟨_,_,_,_⟩:=yc2 BK468;obtain ⟨Ao59,co59,eo59⟩:=Kd.V_slice HO479.out;subst eo59))
          go_meet
          case rel=>exact ⟨_,(false),(x466000_2),(t476),(t477),(.slice Ao59 t477.length co59),yq,H',⟨yom3 HJ4 HK2 HJ27⟩,⟨yV0 HO_465001⟩,⟨yV0 HO479⟩,⟨yk BK464⟩,⟨yk BK465⟩,⟨ykp BK468⟩,⟨yhb⟩⟩
         ·
          rw [if_neg c52] at H
          have c52b0 : (t480 == 0)=false:=beq_eq_false_iff_ne.mpr c52
          have c52b1 : (t480 != 0)=true:=bne_iff_ne.mpr c52
          simp only [Option.some.injEq,Prod.mk.injEq] at H
          obtain ⟨rfl,rfl,rfl⟩:=H
          have:=NB468_464.out
          have:=NB464_468.out
          have:=NB468_465.out
          have:=NB465_468.out
          obtain ⟨_,_,_,_⟩:=yc2 BK468
          obtain ⟨Ao63,co63,eo63⟩:=Kd.V_slice HO_469001.out
          subst eo63
          go_wp2_with (first|((with_reducible refine gate_callee (f:=19) rfl ?_);refine ygl 57 Try.func19 #[.agg #[.int .u64 x469000_2, .slice Ao63 x469001_2.length co63], .int .i64 (wrap64 ((wrap64 ((rd l1 x11_2) - (rd l2 x11_2)))+3)), .int .i64 (wrap64 ((wrap64 ((wrap64 ((rd l1 x11_2) - (rd l2 x11_2)))+3))+1)), .int .i64 8] ?_;(with_reducible refine (psalteryref05_Put.calls kj27 x469000_2 (fun k_=>((P0_1_ k_∨w.heap.size≤k_)∧(k_≠gb464∧(k_≠gb465∧k_≠gb468)))) _ _ x469001_2 (wrap64 ((wrap64 ((rd l1 x11_2) - (rd l2 x11_2)))+3)) (wrap64 ((wrap64 ((wrap64 ((rd l1 x11_2) - (rd l2 x11_2)))+3))+1)) 8 t476 t477 t480 _ HO_469001.out A51.out).mono ?_);rintro e w64 ⟨v478,rfl,ho0,hb⟩;refine ⟨_,rfl, ?_⟩;replace HO_465001:=yVb HO_465001 hb;replace HO_469001:=yVb HO_469001 hb;have HO479:=yho (fun k_=>(P0_1_ k_∨w.heap.size≤k_)∧k_≠gb464∧k_≠gb465∧k_≠gb468) ho0 (fun k_ hk_=>⟨Or.elim hk_ (fun hs_=>hs_.1) (fun hn_=>(.inr (Nat.le_trans (zE yhb) hn_))),yoB BK464 hk_,yoB BK465 hk_,yoB BK468 hk_⟩);replace BK464:=ybb BK464 hb;replace BK465:=ybb BK465 hb;replace BK468:=ybb BK468 hb;replace HB:=ybs hb;(try clear hb);(try clear ho0);obtain ⟨_,_,_,_⟩:=yc2 BK468;obtain ⟨Ao66,co66,eo66⟩:=Kd.V_slice HO479.out;subst eo66;have:=NB464_465.out;have:=NB465_464.out;obtain ⟨_,_,_,_⟩:=yc2 BK464;obtain ⟨_,_,_,_⟩:=yc2 BK465))
          refine bodyPost_ret (results_ct rfl _ _ gb465 33 #[.int .u64 a0_0, .slice A0_1 l0_1.length c0_1] (0,0) _ rfl (ykp BK465) Try.underlying33 rfl (by kernel_rfl)) rfl ?_
          exact ⟨_,ye,yV0 HO_465001,yhb⟩
     case rest =>
      clear HC23
      try clear c22b0
      obtain ⟨kq,x13_22,x466000_22,x469000_22,x469001_22,u469001,rfl,HA,HJ22,HO_465001,HO_469001,BK464,BK465,BK468,HB⟩:=hcut
      obtain ⟨kj22,rfl⟩:=ysu kq (fun h=>by subst h;exact absurd HA.out (by simp [psalteryref11_Put.j3]))
      have H:=HA.out;clear HA
      simp only [psalteryref11_Put.j3] at H
      by_cases c70 : x13_22=true
      ·
       subst c70
       rw [if_pos rfl] at H
       replace H:=yif H;obtain ⟨c71,H⟩:=H
       have c71b0 : decide (0≤x11_2)=true:=decide_eq_true c71
       clear c71
       replace H:=yif H;obtain ⟨c72,H⟩:=H
       have c72b0 : decide (x11_2 < (l1.length : Int))=true:=decide_eq_true c72
       clear c72
       replace H:=ybi H;obtain ⟨⟨t482,t483,t486⟩,A73,H⟩:=H
       try dsimp only at H
       by_cases c74 : t486=0
       ·
        rw [if_pos c74] at H
        have c74b0 : (t486 == 0)=true:=beq_iff_eq.mpr c74
        have c74b1 : (t486 != 0)=false:=bne_eq_false_iff_eq.mpr c74
        clear c74
        have H' := zm H
        clear H
        try go_wp2
        replace HO_465001:=zm (zC HO_465001.out)
        replace HO_469001:=zm (zC HO_469001.out)
        replace BK464:=zm (zj BK464.out)
        replace BK465:=zm (zj BK465.out)
        replace BK468:=zm (zj BK468.out)
        replace HB:=zm (zf HB.out)
        have p481 : 0≤(x11_2 : Int):=yt
        have q481 : x11_2 < (l1.length : Int):=yt
        obtain ⟨ad481,e481,hx481_0⟩:=Kd.at_int HR1.out x11_2 p481 q481
        have hw481_0:=hx481_0
        cases e481
        replace hx481_0:=yhx HB hx481_0
        replace p481:=eq_true p481
        replace q481:=eq_true q481
        obtain ⟨Ao76,co76,eo76⟩:=Kd.V_slice HO_469001.out
        (first|subst eo76|(injection eo76 with f1_ f2_ f3_;have f4_:=f1_.symm;have f5_:=f3_.symm;clear f1_ f2_ f3_;subst f4_;subst f5_))
        refine yst (fun w' => w'.cell? ⟨gb468,0,none⟩=some (.int .u64 x469000_22)∧w'.cell? ⟨gb468,1,none⟩=some (.slice Ao76 x469001_22.length co76)∧w'.cell? (ad481.add (x11_2).toNat)=some (.int .i64 (rd l1 x11_2))) [10] 12 psalteryref11_Put.tab18 psalteryref11_Put.bits18 (fun hHeld HT_ HW_ => ?_)
        generalize wc.drew=w75 at HO_465001 HO_469001 BK464 BK465 BK468 HB hx481_0 hHeld ⊢
        refine yp 1 67 HT_ ?_
        refine yp 2 68 HT_ ?_
        refine yp 3 69 HT_ ?_
        refine yl 0 66 HT_ HW_ hHeld ?_
        refine yl 4 70 HT_ HW_ hHeld ?_
        refine yp 5 71 HT_ ?_
        refine yw 6 72 HT_ (fun K hK => ?_)
        refine ygs Try.func38 #[.agg #[.int .u64 x469000_22, .slice Ao76 x469001_22.length co76], .int .u64 (IntKind.u64.wrap (rd l1 x11_2)), .int .u64 45] ?_
        with_reducible refine (psalteryref05_PutNum.calls kj22 x469000_22 (fun k_=>((P0_1_ k_∨w.heap.size≤k_)∧(k_≠gb464∧(k_≠gb465∧k_≠gb468)))) _ _ x469001_22 (IntKind.u64.wrap (rd l1 x11_2)) 45 t482 t483 t486 _ ?side1 A73.out).mono ?_
        (case side1=>exact HO_469001.out)
        rintro e w77 ⟨v484,rfl,ho0,hb⟩
        refine ⟨_,rfl, ?_⟩
        replace HO_465001:=yVb HO_465001 hb
        replace HO_469001:=yVb HO_469001 hb
        have HO485:=yho (fun k_=>(P0_1_ k_∨w.heap.size≤k_)∧k_≠gb464∧k_≠gb465∧k_≠gb468) ho0 (fun k_ hk_=>⟨Or.elim hk_ (fun hs_=>hs_.1) (fun hn_=>(.inr (Nat.le_trans (zE yhb) hn_))),yoB BK464 hk_,yoB BK465 hk_,yoB BK468 hk_⟩)
        replace BK464:=ybb BK464 hb
        replace BK465:=ybb BK465 hb
        replace BK468:=ybb BK468 hb
        replace HB:=ybs hb
        (try clear hb)
        (try clear ho0)
        obtain ⟨Ao79,co79,eo79⟩:=Kd.V_slice HO485.out
        (first|subst eo79|(injection eo79 with f1_ f2_ f3_;have f4_:=f1_.symm;have f5_:=f3_.symm;clear f1_ f2_ f3_;subst f4_;subst f5_))
        refine hK.out _ _ yH (fun hHeld => ?_)
        clear hK K
        refine ym (some 72) ?_
        refine yp 7 65 HT_ ?_
        refine yp 8 73 HT_ ?_
        refine yp 9 74 HT_ ?_
        refine last_ (i:=10) (N:=none) #[true,true,true,true,true,true,true,true,true,true,true,false] rfl rfl (one_of HT_.out (by kernel_rfl)) (by decide) (fun K hK => ?_)
        have hs78 : w77.cell? ⟨gb468,0,none⟩=some (.int .u64 x469000_22):=(zs BK468.out 0).trans rfl
        have hfs78:=zx BK468.out 0
        have:=NB464_468.out
        have:=NB465_468.out
        have:=NB468_464.out
        have:=NB468_465.out
        have hs80 : w77.cell? ⟨gb468,1,none⟩=some (.slice Ao76 x469001_22.length co76):=(zs BK468.out 1).trans rfl
        have hfs80:=zx BK468.out 1
        have:=NB464_468.out
        have:=NB465_468.out
        have:=NB468_464.out
        have:=NB468_465.out
        refine skip_ (w1 := ?_) (by rfl) rfl ?_ ?_
        rotate_left
        ·
         go_simp
         rfl
        refine hK.out _ _ ?_
        clear hK K
        refine yp 11 12 HT_ ?_
        refine done_ (done_of HT_.out (by kernel_rfl)) ?_
        try go_wp2
        go_roundg kj22
        case measure=>exact yom3 HJ4 HK2 HJ22
        case rel=>exact ⟨(wrap64 (x11_2+1)),(x466000_22),(t482),(t483),(.slice Ao79 t483.length co79),yq,H',⟨yom3 HJ4 HK2 HJ22⟩,⟨yV0 HO_465001⟩,⟨yV0 HO485⟩,⟨yk BK464⟩,⟨yk BK465⟩,⟨ykp BK468⟩,⟨yhb⟩⟩
       ·
        rw [if_neg c74] at H
        have c74b0 : (t486 == 0)=false:=beq_eq_false_iff_ne.mpr c74
        have c74b1 : (t486 != 0)=true:=bne_iff_ne.mpr c74
        simp only [Option.some.injEq,Prod.mk.injEq] at H
        obtain ⟨rfl,rfl,rfl⟩:=H
        try go_wp2
        replace HO_465001:=zm (zC HO_465001.out)
        replace HO_469001:=zm (zC HO_469001.out)
        replace BK464:=zm (zj BK464.out)
        replace BK465:=zm (zj BK465.out)
        replace BK468:=zm (zj BK468.out)
        replace HB:=zm (zf HB.out)
        have p481 : 0≤(x11_2 : Int):=yt
        have q481 : x11_2 < (l1.length : Int):=yt
        obtain ⟨ad481,e481,hx481_0⟩:=Kd.at_int HR1.out x11_2 p481 q481
        have hw481_0:=hx481_0
        cases e481
        replace hx481_0:=yhx HB hx481_0
        replace p481:=eq_true p481
        replace q481:=eq_true q481
        obtain ⟨Ao82,co82,eo82⟩:=Kd.V_slice HO_469001.out
        (first|subst eo82|(injection eo82 with f1_ f2_ f3_;have f4_:=f1_.symm;have f5_:=f3_.symm;clear f1_ f2_ f3_;subst f4_;subst f5_))
        refine yst (fun w' => w'.cell? ⟨gb468,0,none⟩=some (.int .u64 x469000_22)∧w'.cell? ⟨gb468,1,none⟩=some (.slice Ao82 x469001_22.length co82)∧w'.cell? (ad481.add (x11_2).toNat)=some (.int .i64 (rd l1 x11_2))) [10] 12 psalteryref11_Put.tab18 psalteryref11_Put.bits18 (fun hHeld HT_ HW_ => ?_)
        generalize wc.drew=w81 at HO_465001 HO_469001 BK464 BK465 BK468 HB hx481_0 hHeld ⊢
        refine yp 1 67 HT_ ?_
        refine yp 2 68 HT_ ?_
        refine yp 3 69 HT_ ?_
        refine yl 0 66 HT_ HW_ hHeld ?_
        refine yl 4 70 HT_ HW_ hHeld ?_
        refine yp 5 71 HT_ ?_
        refine yw 6 72 HT_ (fun K hK => ?_)
        refine ygs Try.func38 #[.agg #[.int .u64 x469000_22, .slice Ao82 x469001_22.length co82], .int .u64 (IntKind.u64.wrap (rd l1 x11_2)), .int .u64 45] ?_
        with_reducible refine (psalteryref05_PutNum.calls kj22 x469000_22 (fun k_=>((P0_1_ k_∨w.heap.size≤k_)∧(k_≠gb464∧(k_≠gb465∧k_≠gb468)))) _ _ x469001_22 (IntKind.u64.wrap (rd l1 x11_2)) 45 t482 t483 t486 _ ?side1 A73.out).mono ?_
        (case side1=>exact HO_469001.out)
        rintro e w83 ⟨v484,rfl,ho0,hb⟩
        refine ⟨_,rfl, ?_⟩
        replace HO_465001:=yVb HO_465001 hb
        replace HO_469001:=yVb HO_469001 hb
        have HO485:=yho (fun k_=>(P0_1_ k_∨w.heap.size≤k_)∧k_≠gb464∧k_≠gb465∧k_≠gb468) ho0 (fun k_ hk_=>⟨Or.elim hk_ (fun hs_=>hs_.1) (fun hn_=>(.inr (Nat.le_trans (zE yhb) hn_))),yoB BK464 hk_,yoB BK465 hk_,yoB BK468 hk_⟩)
        replace BK464:=ybb BK464 hb
        replace BK465:=ybb BK465 hb
        replace BK468:=ybb BK468 hb
        replace HB:=ybs hb
        (try clear hb)
        (try clear ho0)
        obtain ⟨Ao85,co85,eo85⟩:=Kd.V_slice HO485.out
        (first|subst eo85|(injection eo85 with f1_ f2_ f3_;have f4_:=f1_.symm;have f5_:=f3_.symm;clear f1_ f2_ f3_;subst f4_;subst f5_))
        refine hK.out _ _ yH (fun hHeld => ?_)
        clear hK K
        refine ym (some 72) ?_
        refine yp 7 65 HT_ ?_
        refine yp 8 73 HT_ ?_
        refine yp 9 74 HT_ ?_
        refine last_ (i:=10) (N:=none) #[true,true,true,true,true,true,true,true,true,true,true,false] rfl rfl (one_of HT_.out (by kernel_rfl)) (by decide) (fun K hK => ?_)
        have hs84 : w83.cell? ⟨gb468,0,none⟩=some (.int .u64 x469000_22):=(zs BK468.out 0).trans rfl
        have hfs84:=zx BK468.out 0
        have:=NB464_468.out
        have:=NB465_468.out
        have:=NB468_464.out
        have:=NB468_465.out
        have hs86 : w83.cell? ⟨gb468,1,none⟩=some (.slice Ao82 x469001_22.length co82):=(zs BK468.out 1).trans rfl
        have hfs86:=zx BK468.out 1
        have:=NB464_468.out
        have:=NB465_468.out
        have:=NB468_464.out
        have:=NB468_465.out
        refine skip_ (w1 := ?_) (by rfl) rfl ?_ ?_
        rotate_left
        ·
         go_simp
         rfl
        refine hK.out _ _ ?_
        clear hK K
        refine yp 11 12 HT_ ?_
        refine done_ (done_of HT_.out (by kernel_rfl)) ?_
        have:=NB464_465.out
        have:=NB465_464.out
        have:=NB464_468.out
        have:=NB468_464.out
        obtain ⟨_,_,_,_⟩:=yc2 BK464
        have:=NB465_468.out
        have:=NB468_465.out
        obtain ⟨_,_,_,_⟩:=yc2 BK465
        try go_wp2
        refine bodyPost_ret (results_ct rfl _ _ gb465 33 #[.int .u64 a0_0, .slice A0_1 l0_1.length c0_1] (0,0) _ rfl (ykp BK465) Try.underlying33 rfl (by kernel_rfl)) rfl ?_
        exact ⟨_,ye,yV0 HO_465001,yhb⟩
      ·
       replace c70:=Bool.eq_false_iff.mpr c70
       subst c70
       rw [ynf] at H
       have H' := zm H
       clear H
       go_wp2
       go_roundg kj22
       case measure=>exact yom3 HJ4 HK2 HJ22
       case rel=>exact ⟨(wrap64 (x11_2+1)),(x466000_22),(x469000_22),(x469001_22),(u469001),yq,H',⟨yom3 HJ4 HK2 HJ22⟩,⟨yr HO_465001⟩,⟨yr HO_469001⟩,⟨yk BK464⟩,⟨yk BK465⟩,⟨yk BK468⟩,⟨yhb⟩⟩
    ·
     rw [if_neg c22] at H
     have c22b0 : decide (x11_2 < 5)=false:=decide_eq_false c22
     clear c22
     simp only [Option.some.injEq,Prod.mk.injEq] at H
     obtain ⟨rfl,rfl,rfl⟩:=H
     have:=NB468_464.out
     have:=NB464_468.out
     have:=NB468_465.out
     have:=NB465_468.out
     obtain ⟨_,_,_,_⟩:=yc2 BK468
     have:=NB465_464.out
     have:=NB464_465.out
     obtain ⟨_,_,_,_⟩:=yc2 BK465
     obtain ⟨Ao97,co97,eo97⟩:=Kd.V_slice HO_469001.out
     subst eo97
     go_wp2
     refine bodyPost_ret (results_ct rfl _ _ gb465 33 #[.int .u64 x469000_2, .slice Ao97 x469001_2.length co97] (0,0) _ rfl (ykp BK465) Try.underlying33 rfl (by kernel_rfl)) rfl ?_
     exact ⟨_,ye,yV0 HO_469001,yhb⟩
end Go.Proofs.Ytkaoiblgfpphoaa.Prt
