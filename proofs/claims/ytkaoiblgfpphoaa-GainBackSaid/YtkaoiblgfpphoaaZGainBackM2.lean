-- Functions of the program and of the document as plain Lean, each with the proof that the code comes to it. Written by a program of this session (wip/tools/myprint.py, pack.py) over the kit's printer; Lean checks it.
import Derived.Test.YtkaoiblgfpphoaaZGainBackPrt0
import Derived.Test.YtkaoiblgfpphoaaZGainBackM1
import Derived.Test.YtkaoiblgfpphoaaZGainBackSh
namespace Go.Proofs.Ytkaoiblgfpphoaa.Prt
open Go.RowKit Go.Proofs.YtkaoiblgfpphoaaW.PrintWords Go.Proofs.YtkaoiblgfpphoaaW.PrintLast Go.Proofs.YtkaoiblgfpphoaaW.PrintMore
attribute [local go_sem] max2_int min2_int max_two min_two max_three min_three max_four min_four   -- for this text's walks alone
set_option linter.unusedVariables false
set_option linter.unusedSimpArgs false


mutual
def gain_Take.j0 : Nat→List Int→Bool→Bool→Int→Int→List Int→Int→Option (Int × Int × List Int × Int × List Int × Int)
 | 0,_,_,_,_,_,_,_=>none
 | k+1,x1,x2,x20,x740000,x740001,x740002,x740003=>if x20=true then ((coder_Take.f k x740000 x740001 x740002 x740003 0 1 1).bind fun bt742=>(some (bt742.1,bt742.2.1,bt742.2.2.1,bt742.2.2.2.1,([] : List Int),1))) else (gain_Take.l0 k x1 x2 ([] : List Int) 0 x740000 x740001 x740002 x740003)
def gain_Take.l0 : Nat→List Int→Bool→List Int→Int→Int→Int→List Int→Int→Option (Int × Int × List Int × Int × List Int × Int)
 | 0,_,_,_,_,_,_,_,_=>none
 | k+1,x1,x2,x9,x27,x740000,x740001,x740002,x740003=>if x27 < 5 then (if x2=true then ((gain_take.f k x740000 x740001 x740002 x740003 0 x2).bind fun bt749=>(if x9.length < 17592186044416 then (gain_Take.l0 k x1 x2 (x9 ++ [bt749.2.2.2.2]) (wrap64 (x27+1)) bt749.1 bt749.2.1 bt749.2.2.1 bt749.2.2.2.1) else (none))) else (if 0≤x27 then (if x27 < (x1.length : Int) then ((gain_take.f k x740000 x740001 x740002 x740003 (rd x1 x27) x2).bind fun bt761=>(if x9.length < 17592186044416 then (gain_Take.l0 k x1 x2 (x9 ++ [bt761.2.2.2.2]) (wrap64 (x27+1)) bt761.1 bt761.2.1 bt761.2.2.1 bt761.2.2.2.1) else (none))) else (none)) else (none))) else (some (x740000,x740001,x740002,x740003,x9,0))
end
def gain_Take.f (k : Nat) (a0_0 : Int) (a0_1 : Int) (l0_2 : List Int) (a0_3 : Int) (l1 : List Int) (a2 : Bool) : Option (Int × Int × List Int × Int × List Int × Int):=if a2=true then (gain_Take.j0 k l1 a2 false a0_0 a0_1 l0_2 a0_3) else ((gain_Right.f k l1).bind fun t741=>(gain_Take.j0 k l1 a2 (!t741) a0_0 a0_1 l0_2 a0_3))
theorem gain_Take.mono_l : ∀ k,(∀ y0 y1 y2 y3 y4 y5 y6,LeO (gain_Take.j0 k y0 y1 y2 y3 y4 y5 y6) (gain_Take.j0 (k+1) y0 y1 y2 y3 y4 y5 y6))∧(∀ y0 y1 y2 y3 y4 y5 y6 y7,LeO (gain_Take.l0 k y0 y1 y2 y3 y4 y5 y6 y7) (gain_Take.l0 (k+1) y0 y1 y2 y3 y4 y5 y6 y7))
 | 0=>⟨fun _ _ _ _ _ _ _ r h=>by simp [gain_Take.j0] at h,fun _ _ _ _ _ _ _ _ r h=>by simp [gain_Take.l0] at h⟩
 | k+1=>by
  obtain ⟨ih0,ih1⟩:=gain_Take.mono_l k
  refine ⟨?_, ?_⟩
  ·
   intro y0 y1 y2 y3 y4 y5 y6
   unfold gain_Take.j0
   repeat' with_reducible first|apply ih0|apply ih1|apply coder_Take.mono|apply gain_Right.mono|apply gain_take.mono|apply yLr|apply yLn|apply yLi|apply yLb|intro _
  ·
   intro y0 y1 y2 y3 y4 y5 y6 y7
   unfold gain_Take.l0
   repeat' with_reducible first|apply ih0|apply ih1|apply coder_Take.mono|apply gain_Right.mono|apply gain_take.mono|apply yLr|apply yLn|apply yLi|apply yLb|intro _
theorem gain_Take.mono : ∀ a0 a1 a2 a3 a4 a5 k,LeO (gain_Take.f k a0 a1 a2 a3 a4 a5) (gain_Take.f (k+1) a0 a1 a2 a3 a4 a5):=by
 intro a0 a1 a2 a3 a4 a5 k
 obtain ⟨ih0,ih1⟩:=gain_Take.mono_l k
 unfold gain_Take.f
 repeat' with_reducible first|apply ih0|apply ih1|apply coder_Take.mono|apply gain_Right.mono|apply gain_take.mono|apply yLr|apply yLn|apply yLi|apply yLb|intro _
set_option maxHeartbeats 8000000 in
set_option maxRecDepth 100000 in
theorem gain_Take.calls (k : Nat) (a0_0 : Int) (a0_1 : Int) (P0_2_ : Nat→Prop) (A0_2 : Option Addr) (c0_2 : Nat) (l0_2 : List Int) (a0_3 : Int) (A1 : Option Addr) (c1 : Nat) (l1 : List Int) (a2 : Bool) (r1 : Int) (r2 : Int) (r3 : List Int) (r4 : Int) (r5 : List Int) (r6 : Int) (w : World) (hs0_2 : Kd.V (Kd.int .u8) 5 w w.heap.size (fun k_=>P0_2_ k_) (.slice A0_2 l0_2.length c0_2) l0_2) (hr1 : Kd.C (Kd.int .i64) w A1 l1.length l1) (hc1 : l1.length≤c1) (h : gain_Take.f k a0_0 a0_1 l0_2 a0_3 l1 a2=some (r1,r2,r3,r4,r5,r6)) :
  Calls Try.prog 47 #[.agg #[.int .u64 a0_0, .int .u32 a0_1, .slice A0_2 l0_2.length c0_2, .int .i64 a0_3], .slice A1 l1.length c1, .bool a2] w fun e w' => ∃ v2_ v4_ : Value,e=.returned (.tuple #[.agg #[.int .u64 r1, .int .u32 r2,v2_, .int .i64 r4],v4_, .int .i64 r6])∧Kd.V (Kd.int .u8) 5 w' w.heap.size (fun k_=>(P0_2_ k_∨w.heap.size≤k_)∧some k_≠(v4_ : Value).ownBlock) v2_ r3∧Kd.R (Kd.int .i64) 3 w' w.heap.size (fun k_=>(w.heap.size≤k_)) v4_ r5∧Below w.heap.size w w' := by
 have hu43:=Try.underlying43
 have HO0_2:=zm (show Kd.V (Kd.int .u8) 5 w w.heap.size (fun k_=>(P0_2_ k_∨w.heap.size≤k_)) (.slice A0_2 l0_2.length c0_2) l0_2 from zy hs0_2 (fun k_ hk => .inl hk))
 have HR1:=zm hr1;have HC1:=zm hc1;clear hr1 hc1;have HB:=zm (Below.refl w.heap.size w)
 have H : (if a2=true then (gain_Take.j0 k l1 a2 false a0_0 a0_1 l0_2 a0_3) else ((gain_Right.f k l1).bind fun t741=>(gain_Take.j0 k l1 a2 (!t741) a0_0 a0_1 l0_2 a0_3)))=some (r1,r2,r3,r4,r5,r6):=h
 clear h;have HC4:=zm H;clear H
 go_enter Try.func47,Try.ntmps47
 go_upto_region 1 with (first|((with_reducible refine gate_dst (N:=3) rfl ?_);refine ybx 3 #[.int .u64 a0_0, .int .u32 a0_1, .slice A0_2 l0_2.length c0_2, .int .i64 a0_3] 43 ?_;intro gb739 hg w5 hbox hb;replace HO0_2:=yVe HO0_2 hg hb;have BK739:=zm (hbox);have GW739:=ygw hg;have GE739:=ygw hg;replace HB:=ybs hb;clear hb hbox hg)|((with_reducible refine gate_dst (N:=6) rfl ?_);refine ybx 6 #[.int .u64 0, .int .u32 0, .slice none 0 0, .int .i64 0] 43 ?_;intro gb740 hg w6 hbox hb;replace HO0_2:=yVe HO0_2 hg hb;have BK740:=zm (hbox);have GW740:=ygw hg;have GE740:=ygw hg;replace HB:=ybs hb;have NB739_740:=ynl BK739 hg;have NB740_739:=yng BK739 hg;replace BK739:=ybb BK739 hb;clear hb hbox hg))
 (try simp only [Act.put,List.setIfInBounds_toArray,List.set_cons_zero,List.set_cons_succ])
 go_cut [20] (fun v20 wc => ∃ (kq : Nat) (x20_3 : Bool),v20=.bool x20_3∧Aside0 (gain_Take.j0 kq l1 a2 x20_3 a0_0 a0_1 l0_2 a0_3=some (r1,r2,r3,r4,r5,r6))∧Aside0 (kq≤k)∧Aside0 (Kd.V (Kd.int .u8) 5 wc w.heap.size (fun k_=>(P0_2_ k_∨w.heap.size≤k_)∧k_≠gb739∧k_≠gb740) (.slice A0_2 l0_2.length c0_2) l0_2)∧Aside0 (wc.heap[gb739]? = some (.cells #[.int .u64 a0_0, .int .u32 a0_1,(.slice A0_2 l0_2.length c0_2), .int .i64 a0_3] 43 (0,0)))∧Aside0 (wc.heap[gb740]? = some (.cells #[.int .u64 0, .int .u32 0,(.slice none 0 0), .int .i64 0] 43 (0,0)))∧Aside0 (Below w.heap.size w wc))
 case first =>
  have H:=HC4.out;clear HC4
  by_cases c7 : a2=true
  ·
   subst c7
   rw [if_pos rfl] at H
   have H' := zm H
   clear H
   go_wp2
   go_meet
   case rel=>exact ⟨_,(false),yq,H',⟨yo⟩,⟨yV0 HO0_2⟩,⟨yk BK739⟩,⟨yk BK740⟩,⟨yhb⟩⟩
  ·
   replace c7:=Bool.eq_false_iff.mpr c7
   subst c7
   rw [ynf] at H
   replace H:=ybi H;obtain ⟨t741,A8,H⟩:=H
   have H' := zm H
   clear H
   go_wp2_with (first|(go_at_call 45;(with_reducible refine (gain_Right.calls k _ _ l1 t741 _ ?side1 HC1.out A8.out).mono ?_);(case side1=>exact ycb HR1);rintro e w' ⟨rfl,⟨nd,rfl⟩⟩))
   go_meet
   case rel=>exact ⟨_,(!t741),yq,H',⟨yo⟩,⟨yV0 HO0_2⟩,⟨yk BK739⟩,⟨yk BK740⟩,⟨yhb⟩⟩
 case rest =>
  clear HC4
  try clear c1
  obtain ⟨kq,x20_3,rfl,HA,HJ3,HO_740002,BK739,BK740,HB⟩:=hcut
  obtain ⟨kj3,rfl⟩:=ysu kq (fun h=>by subst h;exact absurd HA.out (by simp [gain_Take.j0]))
  have H:=HA.out;clear HA
  simp only [gain_Take.j0] at H
  by_cases c9 : x20_3=true
  ·
   subst c9
   rw [if_pos rfl] at H
   replace H:=ybi H;obtain ⟨⟨t742,t743,t744,t747,t748⟩,A10,H⟩:=H
   try dsimp only at H
   simp only [Option.some.injEq,Prod.mk.injEq] at H
   obtain ⟨rfl,rfl,rfl,rfl,rfl,rfl⟩:=H
   have:=NB739_740.out
   have:=NB740_739.out
   obtain ⟨hcz12_0,hcz12_1,hcz12_2,hcz12_3,hfz12_0,hfz12_1,hfz12_2,hfz12_3⟩:=yc4 BK739
   go_wp2_with (first|((with_reducible refine gate_callee (f:=34) rfl ?_);refine ygl 23 Try.func34 #[.agg #[.int .u64 a0_0, .int .u32 a0_1, .slice A0_2 l0_2.length c0_2, .int .i64 a0_3], .int .i64 0, .int .i64 1, .int .i64 1] ?_;(with_reducible refine (coder_Take.calls kj3 a0_0 a0_1 (fun k_=>((P0_2_ k_∨w.heap.size≤k_)∧(k_≠gb739∧k_≠gb740))) _ _ l0_2 a0_3 0 1 1 t742 t743 t744 t747 t748 _ HO_740002.out A10.out).mono ?_);rintro e w13 ⟨v745,rfl,ho0,hb⟩;refine ⟨_,rfl, ?_⟩;replace HO_740002:=yVb HO_740002 hb;have HO746:=yho (fun k_=>(P0_2_ k_∨w.heap.size≤k_)∧k_≠gb739∧k_≠gb740) ho0 (fun k_ hk_=>⟨Or.elim hk_ (fun hs_=>hs_.1) (fun hn_=>(.inr (Nat.le_trans (zE yhb) hn_))),yoB BK739 hk_,yoB BK740 hk_⟩);replace BK739:=ybb BK739 hb;replace BK740:=ybb BK740 hb;replace HB:=ybs hb;(try clear hb);(try clear ho0);obtain ⟨hcz14_0,hcz14_1,hcz14_2,hcz14_3,hfz14_0,hfz14_1,hfz14_2,hfz14_3⟩:=yc4 BK739;obtain ⟨Ao15,co15,eo15⟩:=Kd.V_slice HO746.out;subst eo15;obtain ⟨hcz16_0,hcz16_1,hcz16_2,hcz16_3,hfz16_0,hfz16_1,hfz16_2,hfz16_3⟩:=yc4 BK740))
   refine bodyPost_ret (results_ctt rfl _ _ gb740 43 #[.int .u64 t742, .int .u32 t743, .slice Ao15 t744.length co15, .int .i64 t747] (0,0) _ rfl (ykp BK740) Try.underlying43 rfl (by kernel_rfl)) rfl ?_
   exact ⟨_,_,ye,yV0 HO746,yn,yhb⟩
  ·
   replace c9:=Bool.eq_false_iff.mpr c9
   subst c9
   rw [ynf] at H
   have H' := zm H
   clear H
   go_wp2
   go_loopg [9,27] kj3 (fun kq v9 v27 w' => ∃ (x9_2 : List Int) (x27_2 : Int) (x740000_2 : Int) (x740001_2 : Int) (x740002_2 : List Int) (x740003_2 : Int) (u740002 : Value),v27=.int .i64 x27_2∧Aside0 (gain_Take.l0 kq l1 a2 x9_2 x27_2 x740000_2 x740001_2 x740002_2 x740003_2=some (r1,r2,r3,r4,r5,r6))∧Aside0 (kq≤kj3)∧Aside0 (Kd.R (Kd.int .i64) 3 w' w.heap.size (fun k_=>(w.heap.size≤k_)) v9 x9_2)∧Aside0 (Kd.V (Kd.int .u8) 5 w' w.heap.size (fun k_=>(P0_2_ k_∨w.heap.size≤k_)∧some k_≠(v9 : Value).ownBlock∧k_≠gb739∧k_≠gb740) u740002 x740002_2)∧Aside0 (w'.heap[gb739]? = some (.cells #[.int .u64 x740000_2, .int .u32 x740001_2,u740002, .int .i64 x740003_2] 43 (0,0)))∧Aside0 (w'.heap[gb740]? = some (.cells #[.int .u64 0, .int .u32 0,(.slice none 0 0), .int .i64 0] 43 (0,0)))∧Aside0 (Below w.heap.size w w'))
   case atStart=>exact ⟨(([] : List Int)),(0),(a0_0),(a0_1),(l0_2),(a0_3),(.slice A0_2 l0_2.length c0_2),yq,H',⟨Nat.le_refl _⟩,⟨yn⟩,⟨yV0 HO_740002⟩,⟨yk BK739⟩,⟨yk BK740⟩,⟨yhb⟩⟩
   case round =>
    clear H'
    try clear hcz12_0
    try clear hcz12_1
    try clear hcz12_2
    try clear hcz12_3
    try clear hcz14_0
    try clear hcz14_1
    try clear hcz14_2
    try clear hcz14_3
    try clear hcz16_0
    try clear hcz16_1
    try clear hcz16_2
    try clear hcz16_3
    try clear hfz12_0
    try clear hfz12_1
    try clear hfz12_2
    try clear hfz12_3
    try clear hfz14_0
    try clear hfz14_1
    try clear hfz14_2
    try clear hfz14_3
    try clear hfz16_0
    try clear hfz16_1
    try clear hfz16_2
    try clear hfz16_3
    obtain ⟨x9_2,x27_2,x740000_2,x740001_2,x740002_2,x740003_2,u740002,rfl,HA,HK2,HO_9,HO_740002,BK739,BK740,HB⟩:=hrel
    obtain ⟨k2,rfl⟩:=ysu gk (fun h=>by subst h;exact absurd HA.out (by simp [gain_Take.l0]))
    have H:=HA.out;clear HA
    simp only [gain_Take.l0] at H
    by_cases c17 : x27_2 < 5
    ·
     rw [if_pos c17] at H
     have c17b0 : decide (x27_2 < 5)=true:=decide_eq_true c17
     clear c17
     by_cases c18 : a2=true
     ·
      subst c18
      rw [if_pos rfl] at H
      replace H:=ybi H;obtain ⟨⟨t749,t750,t751,t754,t755⟩,A19,H⟩:=H
      try dsimp only at H
      replace H:=yif H;obtain ⟨c20,H⟩:=H
      have LMc20:=zm c20;clear c20
      obtain ⟨y757,hy757⟩ : ∃ y_ : List Int,y_=(x9_2 ++ [t755]):=⟨_,rfl⟩
      replace H : (gain_Take.l0 k2 l1 true y757 (wrap64 (x27_2+1)) t749 t750 t751 t754)=some (r1,r2,r3,r4,r5,r6):=yrw hy757 H
      have Ny757:=zm hy757;clear hy757
      have H' := zm H
      clear H
      have:=NB739_740.out
      have:=NB740_739.out
      obtain ⟨_,_,_,_,_,_,_,_⟩:=yc4 BK739
      obtain ⟨Ao23,co23,eo23⟩:=Kd.V_slice HO_740002.out
      subst eo23
      try go_wp2_with (first|((with_reducible refine gate_callee (f:=65) rfl ?_);refine ygl 40 Try.func65 #[.agg #[.int .u64 x740000_2, .int .u32 x740001_2, .slice Ao23 x740002_2.length co23, .int .i64 x740003_2], .int .i64 0, .bool true] ?_;(with_reducible refine (gain_take.calls k2 x740000_2 x740001_2 (fun k_=>((P0_2_ k_∨w.heap.size≤k_)∧(some k_≠(u9 : Value).ownBlock∧(k_≠gb739∧k_≠gb740)))) _ _ x740002_2 x740003_2 0 true t749 t750 t751 t754 t755 _ HO_740002.out A19.out).mono ?_);rintro e w24 ⟨v752,rfl,ho0,hb⟩;refine ⟨_,rfl, ?_⟩;replace HO_740002:=yVb HO_740002 hb;have HO753:=yho (fun k_=>(P0_2_ k_∨w.heap.size≤k_)∧some k_≠(u9 : Value).ownBlock∧k_≠gb739∧k_≠gb740) ho0 (fun k_ hk_=>⟨Or.elim hk_ (fun hs_=>hs_.1) (fun hn_=>(.inr (Nat.le_trans (zE yhb) hn_))),yoR HO_9 hk_,yoB BK739 hk_,yoB BK740 hk_⟩);replace HO_9:=yRb HO_9 hb;replace BK739:=ybb BK739 hb;replace BK740:=ybb BK740 hb;replace HB:=ybs hb;(try clear hb);(try clear ho0))|((with_reducible refine gate_dst (N:=12) rfl ?_);refine ybx 12 #[.int .u64 0, .int .u32 0, .slice none 0 0, .int .i64 0] 43 ?_;intro gb756 hg w25 hbox hb;replace HO_9:=yRb HO_9 hb;replace HO_740002:=yVe HO_740002 hg hb;replace HO753:=yVe HO753 hg hb;have BK756:=zm (hbox);have GW756:=ygw hg;have GE756:=ygw hg;replace HB:=ybs hb;have NB739_756:=ynl BK739 hg;have NB756_739:=yng BK739 hg;replace BK739:=ybb BK739 hb;have NB740_756:=ynl BK740 hg;have NB756_740:=yng BK740 hg;replace BK740:=ybb BK740 hb;clear hb hbox hg;have:=NB756_739.out;have:=NB739_756.out;have:=NB756_740.out;have:=NB740_756.out;obtain ⟨_,_,_,_,_,_,_,_⟩:=yc4 BK756;obtain ⟨Ao29,co29,eo29⟩:=Kd.V_slice HO753.out;subst eo29))
      obtain ⟨w30,hw_⟩ : ∃ x,x=((((w25.setCell ⟨gb756,0,none⟩ (.int .u64 t749)).setCell ⟨gb756,1,none⟩ (.int .u32 t750)).setCell ⟨gb756,2,none⟩ (.slice Ao29 t751.length co29)).setCell ⟨gb756,3,none⟩ (.int .i64 t754)):=⟨_,rfl⟩
      rw [← hw_]
      replace HO_9 : Aside0 (Kd.R (Kd.int .i64) 3 w30 w.heap.size (fun k_=>(w.heap.size≤k_)) u9 x9_2):=⟨by rw [hw_];exact (yR1 HO_9 BK756)⟩
      replace HO_740002 : Aside0 (Kd.V (Kd.int .u8) 5 w30 w.heap.size (fun k_=>(P0_2_ k_∨w.heap.size≤k_)∧some k_≠(u9 : Value).ownBlock∧k_≠gb739∧k_≠gb740∧k_≠gb756) (.slice Ao23 x740002_2.length co23) x740002_2):=⟨by rw [hw_];exact (yV0 HO_740002)⟩
      replace HO753 : Aside0 (Kd.V (Kd.int .u8) 5 w30 w.heap.size (fun k_=>(P0_2_ k_∨w.heap.size≤k_)∧some k_≠(u9 : Value).ownBlock∧k_≠gb739∧k_≠gb740∧k_≠gb756) (.slice Ao29 t751.length co29) t751):=⟨by rw [hw_];exact (yV0 HO753)⟩
      replace BK739 : Aside0 (w30.heap[gb739]? = some (.cells #[.int .u64 x740000_2, .int .u32 x740001_2, .slice Ao23 x740002_2.length co23, .int .i64 x740003_2] 43 (0,0))):=⟨by rw [hw_];exact (yk BK739)⟩
      replace BK740 : Aside0 (w30.heap[gb740]? = some (.cells #[.int .u64 0, .int .u32 0, .slice none 0 0, .int .i64 0] 43 (0,0))):=⟨by rw [hw_];exact (yk BK740)⟩
      replace BK756 : Aside0 (w30.heap[gb756]? = some (.cells #[.int .u64 t749, .int .u32 t750, .slice Ao29 t751.length co29, .int .i64 t754] 43 (0,0))):=⟨by rw [hw_];exact (ykp BK756)⟩
      replace HB : Aside0 (Below w.heap.size w w30):=⟨by rw [hw_];exact (yhb)⟩
      clear hw_
      replace HO_9:=zm (zq HO_9.out)
      replace HO_740002:=zm (zC HO_740002.out)
      replace HO753:=zm (zC HO753.out)
      replace BK739:=zm (zj BK739.out)
      replace BK740:=zm (zj BK740.out)
      replace BK756:=zm (zj BK756.out)
      replace HB:=zm (zf HB.out)
      refine start_ (n:=7) (S:=fun w' => w'.cell? ⟨gb756,0,none⟩=some (.int .u64 t749)∧w'.cell? ⟨gb756,1,none⟩=some (.int .u32 t750)∧w'.cell? ⟨gb756,2,none⟩=some (.slice Ao29 t751.length co29)∧w'.cell? ⟨gb756,3,none⟩=some (.int .i64 t754)) (ds := []) #[false,false,false,false,false,false,false] (by kernel_rfl) rfl rfl ⟨(zs BK756.out 0).trans rfl,(zs BK756.out 1).trans rfl,(zs BK756.out 2).trans rfl,(zs BK756.out 3).trans rfl⟩ (fun hHeld => ?_)
      generalize w30.drew=w31 at HO_9 HO_740002 HO753 BK739 BK740 BK756 HB hHeld ⊢
      refine pure_ (i:=1) (N:=some 44) (v := ?_) (a' := ?_) #[false,true,false,false,false,false,false] rfl rfl (by kernel_rfl) (fun _ _ _ h=>h) (Or.inl ⟨by rfl, ?_⟩) ?_ ?_
      rotate_left
      ·
       intro w'
       go_simp
       with_reducible rfl
      rotate_left
      ·
       simp only [Act.put,List.setIfInBounds_toArray,List.set_cons_zero,List.set_cons_succ,i64_w,i32_w]
       rfl
      refine pure_ (i:=2) (N:=some 45) (v := ?_) (a' := ?_) #[false,true,true,false,false,false,false] rfl rfl (by kernel_rfl) (fun _ _ _ h=>h) (Or.inl ⟨by rfl, ?_⟩) ?_ ?_
      rotate_left
      ·
       intro w'
       go_simp
       with_reducible rfl
      rotate_left
      ·
       simp only [Act.put,List.setIfInBounds_toArray,List.set_cons_zero,List.set_cons_succ,i64_w,i32_w]
       rfl
      refine take_ (i:=0) (N:=some 43) (v := ?_) (a' := ?_) #[true,true,true,false,false,false,false] rfl rfl (by kernel_rfl) (fun _ _ _ h=>h) (Or.inl ⟨by rfl, ?_⟩) hHeld ?_ ?_
      rotate_left
      ·
       rintro w' ⟨s0,s1,s2,s3⟩
       go_simp
       with_reducible rfl
      rotate_left
      ·
       simp only [Act.put,List.setIfInBounds_toArray,List.set_cons_zero,List.set_cons_succ,i64_w,i32_w]
       rfl
      refine one_ (i:=3) (N:=some 46) #[true,true,true,true,false,false,false] rfl rfl (by kernel_rfl) (by decide) (fun K hK => ?_)
      refine value_ (w1 := ?_) (v := ?_) (by rfl) rfl ?_ ?_
      rotate_left 2
      ·
       go_simp
       constructor
       ·
        rfl
       ·
        rfl
      refine hK.out _ _ ⟨(zs (zi BK756.out _) 0).trans rfl,(zs (zi BK756.out _) 1).trans rfl,(zs (zi BK756.out _) 2).trans rfl,(zs (zi BK756.out _) 3).trans rfl⟩ (fun hHeld => ?_)
      clear hK K
      refine ym (some 46) ?_
      refine one_ (i:=4) (N:=some 47) #[true,true,true,true,true,false,false] rfl rfl (by kernel_rfl) (by decide) (fun K hK => ?_)
      refine Kd.R_append_step (Kd.int .i64) (w0:=w) w.heap.size (by rfl) (.tmp 44) (.tmp 46) 31 3 (.int .i64 0) 8 rfl Try.underlying31 info3 rfl (by decide) (by omega) u9 x9_2 t755 [.int .i64 t755] (fun k_=>(w.heap.size≤k_)) (fun _=>False) rfl rfl ?aP (fun _ hk=>hk.elim) ?aF ?aO ?aB ?aS ?aL ?_
      (case aP=>exact rfl)
      (case aB=>exact yhb)
      (case aF=>exact (fun k_ hk=>(Nat.le_trans (zE yhb) hk)))
      (case aO=>exact (yr HO_9))
      (case aS=>exact (zE yhb))
      (case aL=>have:=LMc20.out;omega)
      intro v758 w32 ho hb hg hat
      rw [← Ny757.out] at ho
      replace HO_740002:=zm (Kd.V_afterv (ok:=(fun k_=>(P0_2_ k_∨w.heap.size≤k_)∧k_≠gb739∧k_≠gb740∧k_≠gb756)) (yV0 HO_740002) hg hat)
      replace BK739:=zm (blk_grown (yk BK739) hg (zu HO_9.out BK739.out (by decide)))
      replace BK740:=zm (blk_grown (yk BK740) hg (zu HO_9.out BK740.out (by decide)))
      replace HO753:=zm (Kd.V_afterv (ok:=(fun k_=>(P0_2_ k_∨w.heap.size≤k_)∧k_≠gb739∧k_≠gb740∧k_≠gb756)) (yV0 HO753) hg hat)
      replace BK756:=zm (blk_grown (yk BK756) hg (zu HO_9.out BK756.out (by decide)))
      replace HB:=zm (hb)
      have HO759:=zm (ho);clear HO_9;clear ho hb hg hat
      refine hK.out _ _ yH (fun hHeld => ?_)
      clear hK K
      refine ym (some 47) ?_
      refine one_ (i:=5) (N:=none) #[true,true,true,true,true,true,false] rfl rfl (by kernel_rfl) (by decide) (fun K hK => ?_)
      have hs33 : w32.cell? ⟨gb739,0,none⟩=some (.int .u64 x740000_2):=(zs BK739.out 0).trans rfl
      have hfs33:=zx BK739.out 0
      have:=NB740_739.out
      have:=NB756_739.out
      have:=NB739_740.out
      have:=NB739_756.out
      have hs34 : w32.cell? ⟨gb739,1,none⟩=some (.int .u32 x740001_2):=(zs BK739.out 1).trans rfl
      have hfs34:=zx BK739.out 1
      have:=NB740_739.out
      have:=NB756_739.out
      have:=NB739_740.out
      have:=NB739_756.out
      have hs35 : w32.cell? ⟨gb739,2,none⟩=some (.slice Ao23 x740002_2.length co23):=(zs BK739.out 2).trans rfl
      have hfs35:=zx BK739.out 2
      have:=NB740_739.out
      have:=NB756_739.out
      have:=NB739_740.out
      have:=NB739_756.out
      have hs36 : w32.cell? ⟨gb739,3,none⟩=some (.int .i64 x740003_2):=(zs BK739.out 3).trans rfl
      have hfs36:=zx BK739.out 3
      have:=NB740_739.out
      have:=NB756_739.out
      have:=NB739_740.out
      have:=NB739_756.out
      refine skip_ (w1 := ?_) (by rfl) rfl ?_ ?_
      rotate_left
      ·
       go_simp
       rfl
      refine hK.out _ _ yH (fun hHeld => ?_)
      clear hK K
      refine pure_ (i:=6) (N:=some 9) (v := ?_) (a' := ?_) #[true,true,true,true,true,true,true] rfl rfl (by kernel_rfl) (fun _ _ _ h=>h) (Or.inl ⟨by rfl, ?_⟩) ?_ ?_
      rotate_left
      ·
       intro w'
       go_simp
       with_reducible rfl
      rotate_left
      ·
       simp only [Act.put,List.setIfInBounds_toArray,List.set_cons_zero,List.set_cons_succ,i64_w,i32_w]
       rfl
      refine done_ (by kernel_rfl) ?_
      try go_wp2
      go_roundg k2
      case measure=>exact yom2 HJ3 HK2
      case rel=>exact ⟨(y757),(wrap64 (x27_2+1)),(t749),(t750),(t751),(t754),(.slice Ao29 t751.length co29),yq,H',⟨yom2 HJ3 HK2⟩,⟨yR1 HO759 BK739⟩,⟨yV0 HO753⟩,⟨ykp BK739⟩,⟨yk BK740⟩,⟨yhb⟩⟩
     ·
      replace c18:=Bool.eq_false_iff.mpr c18
      subst c18
      rw [ynf] at H
      replace H:=yif H;obtain ⟨c37,H⟩:=H
      have c37b0 : decide (0≤x27_2)=true:=decide_eq_true c37
      clear c37
      replace H:=yif H;obtain ⟨c38,H⟩:=H
      have c38b0 : decide (x27_2 < (l1.length : Int))=true:=decide_eq_true c38
      clear c38
      replace H:=ybi H;obtain ⟨⟨t761,t762,t763,t766,t767⟩,A39,H⟩:=H
      try dsimp only at H
      replace H:=yif H;obtain ⟨c40,H⟩:=H
      have LMc40:=zm c40;clear c40
      obtain ⟨y769,hy769⟩ : ∃ y_ : List Int,y_=(x9_2 ++ [t767]):=⟨_,rfl⟩
      replace H : (gain_Take.l0 k2 l1 false y769 (wrap64 (x27_2+1)) t761 t762 t763 t766)=some (r1,r2,r3,r4,r5,r6):=yrw hy769 H
      have Ny769:=zm hy769;clear hy769
      have H' := zm H
      clear H
      have p760 : 0≤(x27_2 : Int):=yt
      have q760 : x27_2 < (l1.length : Int):=yt
      obtain ⟨ad760,e760,hx760_0⟩:=Kd.at_int HR1.out x27_2 p760 q760
      cases e760
      replace hx760_0:=yhx HB hx760_0
      replace p760:=eq_true p760
      replace q760:=eq_true q760
      have:=NB739_740.out
      have:=NB740_739.out
      obtain ⟨_,_,_,_,_,_,_,_⟩:=yc4 BK739
      obtain ⟨Ao43,co43,eo43⟩:=Kd.V_slice HO_740002.out
      subst eo43
      try go_wp2_with (first|((with_reducible refine gate_callee (f:=65) rfl ?_);refine ygl 40 Try.func65 #[.agg #[.int .u64 x740000_2, .int .u32 x740001_2, .slice Ao43 x740002_2.length co43, .int .i64 x740003_2], .int .i64 (rd l1 x27_2), .bool false] ?_;(with_reducible refine (gain_take.calls k2 x740000_2 x740001_2 (fun k_=>((P0_2_ k_∨w.heap.size≤k_)∧(some k_≠(u9 : Value).ownBlock∧(k_≠gb739∧k_≠gb740)))) _ _ x740002_2 x740003_2 (rd l1 x27_2) false t761 t762 t763 t766 t767 _ HO_740002.out A39.out).mono ?_);rintro e w44 ⟨v764,rfl,ho0,hb⟩;refine ⟨_,rfl, ?_⟩;replace HO_740002:=yVb HO_740002 hb;have HO765:=yho (fun k_=>(P0_2_ k_∨w.heap.size≤k_)∧some k_≠(u9 : Value).ownBlock∧k_≠gb739∧k_≠gb740) ho0 (fun k_ hk_=>⟨Or.elim hk_ (fun hs_=>hs_.1) (fun hn_=>(.inr (Nat.le_trans (zE yhb) hn_))),yoR HO_9 hk_,yoB BK739 hk_,yoB BK740 hk_⟩);replace HO_9:=yRb HO_9 hb;replace BK739:=ybb BK739 hb;replace BK740:=ybb BK740 hb;replace HB:=ybs hb;(try clear hb);(try clear ho0))|((with_reducible refine gate_dst (N:=12) rfl ?_);refine ybx 12 #[.int .u64 0, .int .u32 0, .slice none 0 0, .int .i64 0] 43 ?_;intro gb768 hg w45 hbox hb;replace HO_9:=yRb HO_9 hb;replace HO_740002:=yVe HO_740002 hg hb;replace HO765:=yVe HO765 hg hb;have BK768:=zm (hbox);have GW768:=ygw hg;have GE768:=ygw hg;replace HB:=ybs hb;have NB739_768:=ynl BK739 hg;have NB768_739:=yng BK739 hg;replace BK739:=ybb BK739 hb;have NB740_768:=ynl BK740 hg;have NB768_740:=yng BK740 hg;replace BK740:=ybb BK740 hb;clear hb hbox hg;have:=NB768_739.out;have:=NB739_768.out;have:=NB768_740.out;have:=NB740_768.out;obtain ⟨_,_,_,_,_,_,_,_⟩:=yc4 BK768;obtain ⟨Ao49,co49,eo49⟩:=Kd.V_slice HO765.out;subst eo49))
      obtain ⟨w50,hw_⟩ : ∃ x,x=((((w45.setCell ⟨gb768,0,none⟩ (.int .u64 t761)).setCell ⟨gb768,1,none⟩ (.int .u32 t762)).setCell ⟨gb768,2,none⟩ (.slice Ao49 t763.length co49)).setCell ⟨gb768,3,none⟩ (.int .i64 t766)):=⟨_,rfl⟩
      rw [← hw_]
      replace HO_9 : Aside0 (Kd.R (Kd.int .i64) 3 w50 w.heap.size (fun k_=>(w.heap.size≤k_)) u9 x9_2):=⟨by rw [hw_];exact (yR1 HO_9 BK768)⟩
      replace HO_740002 : Aside0 (Kd.V (Kd.int .u8) 5 w50 w.heap.size (fun k_=>(P0_2_ k_∨w.heap.size≤k_)∧some k_≠(u9 : Value).ownBlock∧k_≠gb739∧k_≠gb740∧k_≠gb768) (.slice Ao43 x740002_2.length co43) x740002_2):=⟨by rw [hw_];exact (yV0 HO_740002)⟩
      replace HO765 : Aside0 (Kd.V (Kd.int .u8) 5 w50 w.heap.size (fun k_=>(P0_2_ k_∨w.heap.size≤k_)∧some k_≠(u9 : Value).ownBlock∧k_≠gb739∧k_≠gb740∧k_≠gb768) (.slice Ao49 t763.length co49) t763):=⟨by rw [hw_];exact (yV0 HO765)⟩
      replace BK739 : Aside0 (w50.heap[gb739]? = some (.cells #[.int .u64 x740000_2, .int .u32 x740001_2, .slice Ao43 x740002_2.length co43, .int .i64 x740003_2] 43 (0,0))):=⟨by rw [hw_];exact (yk BK739)⟩
      replace BK740 : Aside0 (w50.heap[gb740]? = some (.cells #[.int .u64 0, .int .u32 0, .slice none 0 0, .int .i64 0] 43 (0,0))):=⟨by rw [hw_];exact (yk BK740)⟩
      replace BK768 : Aside0 (w50.heap[gb768]? = some (.cells #[.int .u64 t761, .int .u32 t762, .slice Ao49 t763.length co49, .int .i64 t766] 43 (0,0))):=⟨by rw [hw_];exact (ykp BK768)⟩
      replace HB : Aside0 (Below w.heap.size w w50):=⟨by rw [hw_];exact (yhb)⟩
      clear hw_
      replace HO_9:=zm (zq HO_9.out)
      replace HO_740002:=zm (zC HO_740002.out)
      replace HO765:=zm (zC HO765.out)
      replace BK739:=zm (zj BK739.out)
      replace BK740:=zm (zj BK740.out)
      replace BK768:=zm (zj BK768.out)
      replace HB:=zm (zf HB.out)
      refine start_ (n:=7) (S:=fun w' => w'.cell? ⟨gb768,0,none⟩=some (.int .u64 t761)∧w'.cell? ⟨gb768,1,none⟩=some (.int .u32 t762)∧w'.cell? ⟨gb768,2,none⟩=some (.slice Ao49 t763.length co49)∧w'.cell? ⟨gb768,3,none⟩=some (.int .i64 t766)) (ds := []) #[false,false,false,false,false,false,false] (by kernel_rfl) rfl rfl ⟨(zs BK768.out 0).trans rfl,(zs BK768.out 1).trans rfl,(zs BK768.out 2).trans rfl,(zs BK768.out 3).trans rfl⟩ (fun hHeld => ?_)
      generalize w50.drew=w51 at HO_9 HO_740002 HO765 BK739 BK740 BK768 HB hHeld ⊢
      refine pure_ (i:=1) (N:=some 44) (v := ?_) (a' := ?_) #[false,true,false,false,false,false,false] rfl rfl (by kernel_rfl) (fun _ _ _ h=>h) (Or.inl ⟨by rfl, ?_⟩) ?_ ?_
      rotate_left
      ·
       intro w'
       go_simp
       with_reducible rfl
      rotate_left
      ·
       simp only [Act.put,List.setIfInBounds_toArray,List.set_cons_zero,List.set_cons_succ,i64_w,i32_w]
       rfl
      refine pure_ (i:=2) (N:=some 45) (v := ?_) (a' := ?_) #[false,true,true,false,false,false,false] rfl rfl (by kernel_rfl) (fun _ _ _ h=>h) (Or.inl ⟨by rfl, ?_⟩) ?_ ?_
      rotate_left
      ·
       intro w'
       go_simp
       with_reducible rfl
      rotate_left
      ·
       simp only [Act.put,List.setIfInBounds_toArray,List.set_cons_zero,List.set_cons_succ,i64_w,i32_w]
       rfl
      refine take_ (i:=0) (N:=some 43) (v := ?_) (a' := ?_) #[true,true,true,false,false,false,false] rfl rfl (by kernel_rfl) (fun _ _ _ h=>h) (Or.inl ⟨by rfl, ?_⟩) hHeld ?_ ?_
      rotate_left
      ·
       rintro w' ⟨s0,s1,s2,s3⟩
       go_simp
       with_reducible rfl
      rotate_left
      ·
       simp only [Act.put,List.setIfInBounds_toArray,List.set_cons_zero,List.set_cons_succ,i64_w,i32_w]
       rfl
      refine one_ (i:=3) (N:=some 46) #[true,true,true,true,false,false,false] rfl rfl (by kernel_rfl) (by decide) (fun K hK => ?_)
      refine value_ (w1 := ?_) (v := ?_) (by rfl) rfl ?_ ?_
      rotate_left 2
      ·
       go_simp
       constructor
       ·
        rfl
       ·
        rfl
      refine hK.out _ _ ⟨(zs (zi BK768.out _) 0).trans rfl,(zs (zi BK768.out _) 1).trans rfl,(zs (zi BK768.out _) 2).trans rfl,(zs (zi BK768.out _) 3).trans rfl⟩ (fun hHeld => ?_)
      clear hK K
      refine ym (some 46) ?_
      refine one_ (i:=4) (N:=some 47) #[true,true,true,true,true,false,false] rfl rfl (by kernel_rfl) (by decide) (fun K hK => ?_)
      refine Kd.R_append_step (Kd.int .i64) (w0:=w) w.heap.size (by rfl) (.tmp 44) (.tmp 46) 31 3 (.int .i64 0) 8 rfl Try.underlying31 info3 rfl (by decide) (by omega) u9 x9_2 t767 [.int .i64 t767] (fun k_=>(w.heap.size≤k_)) (fun _=>False) rfl rfl ?aP (fun _ hk=>hk.elim) ?aF ?aO ?aB ?aS ?aL ?_
      (case aP=>exact rfl)
      (case aB=>exact yhb)
      (case aF=>exact (fun k_ hk=>(Nat.le_trans (zE yhb) hk)))
      (case aO=>exact (yr HO_9))
      (case aS=>exact (zE yhb))
      (case aL=>have:=LMc40.out;omega)
      intro v770 w52 ho hb hg hat
      rw [← Ny769.out] at ho
      replace HO_740002:=zm (Kd.V_afterv (ok:=(fun k_=>(P0_2_ k_∨w.heap.size≤k_)∧k_≠gb739∧k_≠gb740∧k_≠gb768)) (yV0 HO_740002) hg hat)
      replace BK739:=zm (blk_grown (yk BK739) hg (zu HO_9.out BK739.out (by decide)))
      replace BK740:=zm (blk_grown (yk BK740) hg (zu HO_9.out BK740.out (by decide)))
      replace HO765:=zm (Kd.V_afterv (ok:=(fun k_=>(P0_2_ k_∨w.heap.size≤k_)∧k_≠gb739∧k_≠gb740∧k_≠gb768)) (yV0 HO765) hg hat)
      replace BK768:=zm (blk_grown (yk BK768) hg (zu HO_9.out BK768.out (by decide)))
      replace HB:=zm (hb)
      have HO771:=zm (ho);clear HO_9;clear ho hb hg hat
      refine hK.out _ _ yH (fun hHeld => ?_)
      clear hK K
      refine ym (some 47) ?_
      refine one_ (i:=5) (N:=none) #[true,true,true,true,true,true,false] rfl rfl (by kernel_rfl) (by decide) (fun K hK => ?_)
      have hs53 : w52.cell? ⟨gb739,0,none⟩=some (.int .u64 x740000_2):=(zs BK739.out 0).trans rfl
      have hfs53:=zx BK739.out 0
      have:=NB740_739.out
      have:=NB768_739.out
      have:=NB739_740.out
      have:=NB739_768.out
      have hs54 : w52.cell? ⟨gb739,1,none⟩=some (.int .u32 x740001_2):=(zs BK739.out 1).trans rfl
      have hfs54:=zx BK739.out 1
      have:=NB740_739.out
      have:=NB768_739.out
      have:=NB739_740.out
      have:=NB739_768.out
      have hs55 : w52.cell? ⟨gb739,2,none⟩=some (.slice Ao43 x740002_2.length co43):=(zs BK739.out 2).trans rfl
      have hfs55:=zx BK739.out 2
      have:=NB740_739.out
      have:=NB768_739.out
      have:=NB739_740.out
      have:=NB739_768.out
      have hs56 : w52.cell? ⟨gb739,3,none⟩=some (.int .i64 x740003_2):=(zs BK739.out 3).trans rfl
      have hfs56:=zx BK739.out 3
      have:=NB740_739.out
      have:=NB768_739.out
      have:=NB739_740.out
      have:=NB739_768.out
      refine skip_ (w1 := ?_) (by rfl) rfl ?_ ?_
      rotate_left
      ·
       go_simp
       rfl
      refine hK.out _ _ yH (fun hHeld => ?_)
      clear hK K
      refine pure_ (i:=6) (N:=some 9) (v := ?_) (a' := ?_) #[true,true,true,true,true,true,true] rfl rfl (by kernel_rfl) (fun _ _ _ h=>h) (Or.inl ⟨by rfl, ?_⟩) ?_ ?_
      rotate_left
      ·
       intro w'
       go_simp
       with_reducible rfl
      rotate_left
      ·
       simp only [Act.put,List.setIfInBounds_toArray,List.set_cons_zero,List.set_cons_succ,i64_w,i32_w]
       rfl
      refine done_ (by kernel_rfl) ?_
      try go_wp2
      go_roundg k2
      case measure=>exact yom2 HJ3 HK2
      case rel=>exact ⟨(y769),(wrap64 (x27_2+1)),(t761),(t762),(t763),(t766),(.slice Ao49 t763.length co49),yq,H',⟨yom2 HJ3 HK2⟩,⟨yR1 HO771 BK739⟩,⟨yV0 HO765⟩,⟨ykp BK739⟩,⟨yk BK740⟩,⟨yhb⟩⟩
    ·
     rw [if_neg c17] at H
     have c17b0 : decide (x27_2 < 5)=false:=decide_eq_false c17
     clear c17
     simp only [Option.some.injEq,Prod.mk.injEq] at H
     obtain ⟨rfl,rfl,rfl,rfl,rfl,rfl⟩:=H
     have:=NB739_740.out
     have:=NB740_739.out
     obtain ⟨_,_,_,_,_,_,_,_⟩:=yc4 BK739
     obtain ⟨_,_,_,_,_,_,_,_⟩:=yc4 BK740
     obtain ⟨Ao60,co60,eo60⟩:=Kd.V_slice HO_740002.out
     subst eo60
     go_wp2
     refine bodyPost_ret (results_ctt rfl _ _ gb740 43 #[.int .u64 x740000_2, .int .u32 x740001_2, .slice Ao60 x740002_2.length co60, .int .i64 x740003_2] (0,0) _ rfl (ykp BK740) Try.underlying43 rfl (by kernel_rfl)) rfl ?_
     exact ⟨_,_,ye,yV0 HO_740002,yR1 HO_9 BK740,yhb⟩
def gain_Most.f (a0 : Bool) : Option (Int):=if a0=true then (some 30) else (some 45)
set_option maxHeartbeats 8000000 in
set_option maxRecDepth 100000 in
theorem gain_Most.calls (a0 : Bool) (r : Int) (w : World) (h : gain_Most.f a0=some r) :
  Calls Try.prog 50 #[.bool a0] w fun e w' => e=.returned (.int .i64 r)∧Drawn0 w w' := by
 have H : (if a0=true then (some 30) else (some 45))=some r:=h
 clear h
 by_cases c2 : a0=true
 ·
  subst c2
  rw [if_pos rfl] at H
  obtain rfl:=Option.some.inj H
  go_enter Try.func50,Try.ntmps50
  go_wp2
  go_ret
  exact ⟨yq,yd⟩
 ·
  replace c2:=Bool.eq_false_iff.mpr c2
  subst c2
  rw [ynf] at H
  obtain rfl:=Option.some.inj H
  go_enter Try.func50,Try.ntmps50
  go_wp2
  go_ret
  exact ⟨yq,yd⟩
def psalteryref06_Same.l0 : Nat→List Int→List Int→Int→Option (Bool)
 | 0,_,_,_=>none
 | k+1,x0,x1,x5=>if x5 < (x0.length : Int) then (if 0≤x5 then (if x5 < (x1.length : Int) then (if (rd x0 x5)=(rd x1 x5) then (psalteryref06_Same.l0 k x0 x1 (wrap64 (x5+1))) else (some false)) else (none)) else (none)) else (some true)
def psalteryref06_Same.f (k : Nat) (l0 : List Int) (l1 : List Int) : Option (Bool):=if (l0.length : Int)=(l1.length : Int) then (psalteryref06_Same.l0 k l0 l1 0) else (some false)
theorem psalteryref06_Same.mono_l : ∀ k,(∀ y0 y1 y2,LeO (psalteryref06_Same.l0 k y0 y1 y2) (psalteryref06_Same.l0 (k+1) y0 y1 y2))
 | 0=>fun _ _ _ r h=>by simp [psalteryref06_Same.l0] at h
 | k+1=>by
  have ih0:=psalteryref06_Same.mono_l k
  ·
   intro y0 y1 y2
   unfold psalteryref06_Same.l0
   repeat' with_reducible first|apply ih0|apply yLr|apply yLn|apply yLi|apply yLb|intro _
theorem psalteryref06_Same.mono : ∀ a0 a1 k,LeO (psalteryref06_Same.f k a0 a1) (psalteryref06_Same.f (k+1) a0 a1):=by
 intro a0 a1 k
 have ih0:=psalteryref06_Same.mono_l k
 unfold psalteryref06_Same.f
 repeat' with_reducible first|apply ih0|apply yLr|apply yLn|apply yLi|apply yLb|intro _
set_option maxHeartbeats 8000000 in
set_option maxRecDepth 100000 in
theorem psalteryref06_Same.calls (k : Nat) (A0 : Option Addr) (c0 : Nat) (l0 : List Int) (A1 : Option Addr) (c1 : Nat) (l1 : List Int) (r : Bool) (w : World) (hr0 : Kd.C (Kd.int .i64) w A0 l0.length l0) (hc0 : l0.length≤c0) (hr1 : Kd.C (Kd.int .i64) w A1 l1.length l1) (hc1 : l1.length≤c1) (h : psalteryref06_Same.f k l0 l1=some r) :
  Calls Try.prog 49 #[.slice A0 l0.length c0, .slice A1 l1.length c1] w fun e w' => e=.returned (.bool r)∧Drawn0 w w' := by
 have HR0:=zm hr0;have HC0:=zm hc0;clear hr0 hc0;have HR1:=zm hr1;have HC1:=zm hc1;clear hr1 hc1
 have H : (if (l0.length : Int)=(l1.length : Int) then (psalteryref06_Same.l0 k l0 l1 0) else (some false))=some r:=h
 clear h
 by_cases c3 : (l0.length : Int)=(l1.length : Int)
 ·
  rw [if_pos c3] at H
  have c3b0 : ((l0.length : Int) == (l1.length : Int))=true:=beq_iff_eq.mpr c3
  have c3b1 : ((l0.length : Int) != (l1.length : Int))=false:=bne_eq_false_iff_eq.mpr c3
  have c3b2 : (l0.length == l1.length)=true:=by first|simpa using c3|(simp at c3 ⊢; omega)
  clear c3
  have H' := zm H
  clear H
  go_enter Try.func49,Try.ntmps49
  go_wp2
  repeat (go_quiet (fail);try go_wp2)
  go_loopg [5] k (fun kq v5 w' => ∃ (x5_1 : Int),v5=.int .i64 x5_1∧Aside0 (psalteryref06_Same.l0 kq l0 l1 x5_1=some r)∧Aside0 (kq≤k)∧Drawn0 w w')
  case atStart=>exact ⟨(0),yq,H',⟨Nat.le_refl _⟩,yd⟩
  case round =>
   clear H'
   try clear c1
   try clear c3b0
   try clear c3b1
   try clear c3b2
   obtain ⟨x5_1,rfl,HA,HK1,⟨m1,rfl⟩⟩:=hrel
   obtain ⟨k1,rfl⟩:=ysu gk (fun h=>by subst h;exact absurd HA.out (by simp [psalteryref06_Same.l0]))
   have H:=HA.out;clear HA
   simp only [psalteryref06_Same.l0] at H
   by_cases c4 : x5_1 < (l0.length : Int)
   ·
    rw [if_pos c4] at H
    have c4b0 : decide (x5_1 < (l0.length : Int))=true:=decide_eq_true c4
    clear c4
    replace H:=yif H;obtain ⟨c5,H⟩:=H
    have c5b0 : decide (0≤x5_1)=true:=decide_eq_true c5
    clear c5
    replace H:=yif H;obtain ⟨c6,H⟩:=H
    have c6b0 : decide (x5_1 < (l1.length : Int))=true:=decide_eq_true c6
    clear c6
    by_cases c7 : (rd l0 x5_1)=(rd l1 x5_1)
    ·
     rw [if_pos c7] at H
     have c7b0 : ((rd l0 x5_1) == (rd l1 x5_1))=true:=beq_iff_eq.mpr c7
     have c7b1 : ((rd l0 x5_1) != (rd l1 x5_1))=false:=bne_eq_false_iff_eq.mpr c7
     clear c7
     have H' := zm H
     clear H
     obtain ⟨ad772,e772,hx772_0,p772,q772⟩:=yai HR0 x5_1
     cases e772
     obtain ⟨ad773,e773,hx773_0,p773,q773⟩:=yai HR1 x5_1
     cases e773
     go_wp2
     repeat (go_quiet (fail);try go_wp2)
     go_roundg k1
     case measure=>exact yom1 HK1
     case rel=>exact ⟨(wrap64 (x5_1+1)),yq,H',⟨yom1 HK1⟩,yd⟩
    ·
     rw [if_neg c7] at H
     have c7b0 : ((rd l0 x5_1) == (rd l1 x5_1))=false:=beq_eq_false_iff_ne.mpr c7
     have c7b1 : ((rd l0 x5_1) != (rd l1 x5_1))=true:=bne_iff_ne.mpr c7
     obtain rfl:=Option.some.inj H
     obtain ⟨ad772,e772,hx772_0,p772,q772⟩:=yai HR0 x5_1
     cases e772
     obtain ⟨ad773,e773,hx773_0,p773,q773⟩:=yai HR1 x5_1
     cases e773
     go_wp2
     repeat (go_quiet (fail);try go_wp2)
     go_ret
     exact ⟨yq,yd⟩
   ·
    rw [if_neg c4] at H
    have c4b0 : decide (x5_1 < (l0.length : Int))=false:=decide_eq_false c4
    clear c4
    obtain rfl:=Option.some.inj H
    go_wp2
    repeat (go_quiet (fail);try go_wp2)
    go_ret
    exact ⟨yq,yd⟩
 ·
  rw [if_neg c3] at H
  have c3b0 : ((l0.length : Int) == (l1.length : Int))=false:=beq_eq_false_iff_ne.mpr c3
  have c3b1 : ((l0.length : Int) != (l1.length : Int))=true:=bne_iff_ne.mpr c3
  have c3b2 : (l0.length == l1.length)=false:=by first|simpa using c3|(simp at c3 ⊢; omega)
  obtain rfl:=Option.some.inj H
  go_enter Try.func49,Try.ntmps49
  go_wp2
  repeat (go_quiet (fail);try go_wp2)
  go_ret
  exact ⟨yq,yd⟩
def psalterylaw11_knows.f (k : Nat)  : Option (Bool):=(some (([5,5,5,5,5] : List Int) : List Int)).bind fun y774=>((some (([5,4,8,9,5] : List Int) : List Int)).bind fun y777=>((coder_New.f).bind fun bt780=>((gain_Put.f k bt780.1 bt780.2.1 bt780.2.2 y774 y777 false).bind fun bt785=>((coder_Finish.f bt785.1 bt785.2.1 bt785.2.2.1).bind fun t792=>((coder_Open.f t792).bind fun bt795=>((gain_Take.f k bt795.1 bt795.2.1 bt795.2.2.1 bt795.2.2.2 y777 false).bind fun bt801=>(if bt785.2.2.2=0 then ((psalteryref06_Same.f k bt801.2.2.2.2.1 y774).bind fun t812=>(if t812=true then (if bt801.2.2.2.2.2=0 then ((coder_RightDec.f bt801.1 bt801.2.1 bt801.2.2.1 bt801.2.2.2.1).bind fun t813=>(if t813=true then ((gain_Most.f true).bind fun t814=>(if t814=30 then ((gain_Most.f false).bind fun t815=>(if t815=45 then ((gain_Right.f k y774).bind fun t816=>(some t816)) else (none))) else (none))) else (none))) else (none)) else (none))) else (none))))))))
theorem psalterylaw11_knows.mono : ∀ k,LeO (psalterylaw11_knows.f k ) (psalterylaw11_knows.f (k+1) ):=by
 intro  k
 unfold psalterylaw11_knows.f
 repeat' with_reducible first|apply gain_Put.mono|apply gain_Right.mono|apply gain_Take.mono|apply psalteryref06_Same.mono|apply yLr|apply yLn|apply yLi|apply yLb|intro _
set_option maxHeartbeats 8000000 in
set_option maxRecDepth 100000 in
theorem psalterylaw11_knows.calls (k : Nat)  (r : Bool) (w : World) (h : psalterylaw11_knows.f k  = some r) :
  Calls Try.prog 42 #[] w fun e w' => e=.returned (.bool r)∧Below w.heap.size w w' := by
 have hu26:=Try.underlying26;have hu43:=Try.underlying43;have HB:=zm (Below.refl w.heap.size w)
 have H : ((some (([5,5,5,5,5] : List Int) : List Int)).bind fun y774=>((some (([5,4,8,9,5] : List Int) : List Int)).bind fun y777=>((coder_New.f).bind fun bt780=>((gain_Put.f k bt780.1 bt780.2.1 bt780.2.2 y774 y777 false).bind fun bt785=>((coder_Finish.f bt785.1 bt785.2.1 bt785.2.2.1).bind fun t792=>((coder_Open.f t792).bind fun bt795=>((gain_Take.f k bt795.1 bt795.2.1 bt795.2.2.1 bt795.2.2.2 y777 false).bind fun bt801=>(if bt785.2.2.2=0 then ((psalteryref06_Same.f k bt801.2.2.2.2.1 y774).bind fun t812=>(if t812=true then (if bt801.2.2.2.2.2=0 then ((coder_RightDec.f bt801.1 bt801.2.1 bt801.2.2.1 bt801.2.2.2.1).bind fun t813=>(if t813=true then ((gain_Most.f true).bind fun t814=>(if t814=30 then ((gain_Most.f false).bind fun t815=>(if t815=45 then ((gain_Right.f k y774).bind fun t816=>(some t816)) else (none))) else (none))) else (none))) else (none)) else (none))) else (none)))))))))=some r:=h
 clear h
 obtain ⟨y774,hy774⟩ : ∃ y_ : List Int,y_=(([5,5,5,5,5] : List Int)):=⟨_,rfl⟩
 replace H : ((some (([5,4,8,9,5] : List Int) : List Int)).bind fun y777=>((coder_New.f).bind fun bt780=>((gain_Put.f k bt780.1 bt780.2.1 bt780.2.2 y774 y777 false).bind fun bt785=>((coder_Finish.f bt785.1 bt785.2.1 bt785.2.2.1).bind fun t792=>((coder_Open.f t792).bind fun bt795=>((gain_Take.f k bt795.1 bt795.2.1 bt795.2.2.1 bt795.2.2.2 y777 false).bind fun bt801=>(if bt785.2.2.2=0 then ((psalteryref06_Same.f k bt801.2.2.2.2.1 y774).bind fun t812=>(if t812=true then (if bt801.2.2.2.2.2=0 then ((coder_RightDec.f bt801.1 bt801.2.1 bt801.2.2.1 bt801.2.2.2.1).bind fun t813=>(if t813=true then ((gain_Most.f true).bind fun t814=>(if t814=30 then ((gain_Most.f false).bind fun t815=>(if t815=45 then ((gain_Right.f k y774).bind fun t816=>(some t816)) else (none))) else (none))) else (none))) else (none)) else (none))) else (none))))))))=some r:=yrw hy774 H
 have Ny774:=zm hy774;clear hy774
 obtain ⟨y777,hy777⟩ : ∃ y_ : List Int,y_=(([5,4,8,9,5] : List Int)):=⟨_,rfl⟩
 replace H : ((coder_New.f).bind fun bt780=>((gain_Put.f k bt780.1 bt780.2.1 bt780.2.2 y774 y777 false).bind fun bt785=>((coder_Finish.f bt785.1 bt785.2.1 bt785.2.2.1).bind fun t792=>((coder_Open.f t792).bind fun bt795=>((gain_Take.f k bt795.1 bt795.2.1 bt795.2.2.1 bt795.2.2.2 y777 false).bind fun bt801=>(if bt785.2.2.2=0 then ((psalteryref06_Same.f k bt801.2.2.2.2.1 y774).bind fun t812=>(if t812=true then (if bt801.2.2.2.2.2=0 then ((coder_RightDec.f bt801.1 bt801.2.1 bt801.2.2.1 bt801.2.2.2.1).bind fun t813=>(if t813=true then ((gain_Most.f true).bind fun t814=>(if t814=30 then ((gain_Most.f false).bind fun t815=>(if t815=45 then ((gain_Right.f k y774).bind fun t816=>(some t816)) else (none))) else (none))) else (none))) else (none)) else (none))) else (none)))))))=some r:=yrw hy777 H
 have Ny777:=zm hy777;clear hy777
 replace H:=ybi H;obtain ⟨⟨t780,t781,t782⟩,A1,H⟩:=H
 try dsimp only at H
 replace H:=ybi H;obtain ⟨⟨t785,t786,t787,t790⟩,A2,H⟩:=H
 try dsimp only at H
 replace H:=ybi H;obtain ⟨t792,A3,H⟩:=H
 replace H:=ybi H;obtain ⟨⟨t795,t796,t797,t800⟩,A4,H⟩:=H
 try dsimp only at H
 replace H:=ybi H;obtain ⟨⟨t801,t802,t803,t806,t807,t810⟩,A5,H⟩:=H
 try dsimp only at H
 replace H:=yif H;obtain ⟨c6,H⟩:=H
 have c6b0 : (t790 == 0)=true:=beq_iff_eq.mpr c6
 have c6b1 : (t790 != 0)=false:=bne_eq_false_iff_eq.mpr c6
 clear c6
 replace H:=ybi H;obtain ⟨t812,A7,H⟩:=H
 replace H:=yif H;obtain ⟨c8,H⟩:=H
 subst c8
 replace H:=yif H;obtain ⟨c9,H⟩:=H
 have c9b0 : (t810 == 0)=true:=beq_iff_eq.mpr c9
 have c9b1 : (t810 != 0)=false:=bne_eq_false_iff_eq.mpr c9
 clear c9
 replace H:=ybi H;obtain ⟨t813,A10,H⟩:=H
 replace H:=yif H;obtain ⟨c11,H⟩:=H
 subst c11
 replace H:=ybi H;obtain ⟨t814,A12,H⟩:=H
 replace H:=yif H;obtain ⟨c13,H⟩:=H
 have c13b0 : (t814 == 30)=true:=beq_iff_eq.mpr c13
 have c13b1 : (t814 != 30)=false:=bne_eq_false_iff_eq.mpr c13
 clear c13
 replace H:=ybi H;obtain ⟨t815,A14,H⟩:=H
 replace H:=yif H;obtain ⟨c15,H⟩:=H
 have c15b0 : (t815 == 45)=true:=beq_iff_eq.mpr c15
 have c15b1 : (t815 != 45)=false:=bne_eq_false_iff_eq.mpr c15
 clear c15
 replace H:=ybi H;obtain ⟨t816,A16,H⟩:=H
 obtain rfl:=Option.some.inj H
 go_enter Try.func42,Try.ntmps42
 go_wp2_with (first|((with_reducible refine gate_dst (N:=8) rfl ?_);refine Kd.R_lit (Kd.int .i64) _ 3 ?hg (N:=8) ?hd (xs:=([5,5,5,5,5] : List Int)) (inner := [.int .i64 5, .int .i64 5, .int .i64 5, .int .i64 5, .int .i64 5]) (ok:=fun _=>True) (okp:=fun _=>True) ?hr ?hp (fun _ hk=>hk) trivial (Below.refl _ _) (Nat.le_refl _) (by simp) ?_;(case hd=>rfl);(case hg=>rfl);(case hr=>first|(go_simp;done)|(go_simp;rfl));(case hp=>exact (Reps.one (show Kd.M (Kd.int .i64) _ _ _ 5 [.int .i64 5] from rfl) (Reps.one (show Kd.M (Kd.int .i64) _ _ _ 5 [.int .i64 5] from rfl) (Reps.one (show Kd.M (Kd.int .i64) _ _ _ 5 [.int .i64 5] from rfl) (Reps.one (show Kd.M (Kd.int .i64) _ _ _ 5 [.int .i64 5] from rfl) (Reps.one (show Kd.M (Kd.int .i64) _ _ _ 5 [.int .i64 5] from rfl) (Reps.none _ _)))))));intro v775 w17 ho18 hb hg_ hnew_;clear hg_ hnew_;(first|rw [← Ny774.out] at ho18|(simp only [Int.reduceToNat] at ho18;rw [← Ny774.out] at ho18));have HO776:=zm (Kd.R_lower ho18 (zE yhb));replace HB:=ybs hb;clear hb ho18)|((with_reducible refine gate_dst (N:=9) rfl ?_);refine Kd.R_lit (Kd.int .i64) _ 3 ?hg (N:=9) ?hd (xs:=([5,4,8,9,5] : List Int)) (inner := [.int .i64 5, .int .i64 4, .int .i64 8, .int .i64 9, .int .i64 5]) (ok:=fun _=>True) (okp:=fun _=>True) ?hr ?hp (fun _ hk=>hk) trivial (Below.refl _ _) (Nat.le_refl _) (by simp) ?_;(case hd=>rfl);(case hg=>rfl);(case hr=>first|(go_simp;done)|(go_simp;rfl));(case hp=>exact (Reps.one (show Kd.M (Kd.int .i64) _ _ _ 5 [.int .i64 5] from rfl) (Reps.one (show Kd.M (Kd.int .i64) _ _ _ 4 [.int .i64 4] from rfl) (Reps.one (show Kd.M (Kd.int .i64) _ _ _ 8 [.int .i64 8] from rfl) (Reps.one (show Kd.M (Kd.int .i64) _ _ _ 9 [.int .i64 9] from rfl) (Reps.one (show Kd.M (Kd.int .i64) _ _ _ 5 [.int .i64 5] from rfl) (Reps.none _ _)))))));intro v778 w19 ho20 hb hg_ hnew_;clear hg_ hnew_;(first|rw [← Ny777.out] at ho20|(simp only [Int.reduceToNat] at ho20;rw [← Ny777.out] at ho20));have HO779:=zm (Kd.R_lower (Kd.R_new' ho20 (Kd.R_lt (yr HO776))) (zE yhb));replace HO776:=zm (Kd.R_elder' (yr HO776) (Kd.R_base ho20) hb);replace HB:=ybs hb;clear hb ho20)|((with_reducible refine gate_callee (f:=29) rfl ?_);refine ygl 11 Try.func29 #[] ?_;(with_reducible refine (coder_New.calls  t780 t781 t782 _ A1.out).mono ?_);rintro e w21 ⟨v783,rfl,ho0,hb⟩;refine ⟨_,rfl, ?_⟩;replace HO776:=yRb HO776 hb;replace HO779:=yRb HO779 hb;have HO784:=zm (Kd.R_lower ho0 (zE yhb));replace HB:=ybs hb;(try clear hb);(try clear ho0);obtain ⟨Ao22,co22,eo22⟩:=Kd.R_slice HO784.out;subst eo22;obtain ⟨Ao23,co23,eo23⟩:=Kd.R_slice HO776.out;subst eo23;obtain ⟨Ao24,co24,eo24⟩:=Kd.R_slice HO779.out;subst eo24)|((with_reducible refine gate_callee (f:=43) rfl ?_);refine ygl 14 Try.func43 #[.agg #[.int .u64 t780, .int .u32 t781, .slice Ao22 t782.length co22], .slice Ao23 y774.length co23, .slice Ao24 y777.length co24, .bool false] ?_;(with_reducible refine (gain_Put.calls k t780 t781 (fun k_=>some k_=(.slice Ao22 t782.length co22 : Value).ownBlock) _ _ t782 _ _ y774 _ _ y777 false t785 t786 t787 t790 _ ?side1 ?side2 ?side3 ?side4 ?side5 A2.out).mono ?_);(case side1=>exact Kd.R_V (Kd.R_tight rfl (Kd.R_apart' (Kd.R_apart' (HO784.out) (Kd.R_typed HO776.out) (by decide)) (Kd.R_typed HO779.out) (by decide))));(case side2=>exact yce (Kd.R_reads' HO776.out).2.2);(case side3=>exact (Kd.R_reads' HO776.out).2.1);(case side4=>exact yce (Kd.R_reads' HO779.out).2.2);(case side5=>exact (Kd.R_reads' HO779.out).2.1);rintro e w25 ⟨v788,rfl,ho0,hb⟩;refine ⟨_,rfl, ?_⟩;have HO789:=yho (fun k_=>some k_≠(.slice Ao23 y774.length co23 : Value).ownBlock∧some k_≠(.slice Ao24 y777.length co24 : Value).ownBlock) ho0 (fun k_ hk_=>⟨Or.elim hk_ (fun hs_=>((Kd.R_apart' (Kd.R_apart' (HO784.out) (Kd.R_typed HO776.out) (by decide)) (Kd.R_typed HO779.out) (by decide)).1 k_ hs_.symm).1.2) (fun hn_=>(Kd.fresh' (Kd.R_lt (yr HO776)) k_ hn_)),Or.elim hk_ (fun hs_=>((Kd.R_apart' (Kd.R_apart' (HO784.out) (Kd.R_typed HO776.out) (by decide)) (Kd.R_typed HO779.out) (by decide)).1 k_ hs_.symm).2) (fun hn_=>(Kd.fresh' (Kd.R_lt (yr HO779)) k_ hn_))⟩);replace HO776:=yRb HO776 hb;replace HO779:=yRb HO779 hb;replace HO784:=yRb HO784 hb;replace HB:=ybs hb;(try clear hb);(try clear ho0))|((with_reducible refine gate_dst (N:=3) rfl ?_);refine ybx 3 #[.int .u64 0, .int .u32 0, .slice none 0 0] 26 ?_;intro gb791 hg w26 hbox hb;replace HO776:=yRb HO776 hb;replace HO779:=yRb HO779 hb;replace HO784:=yRb HO784 hb;replace HO789:=yVe HO789 hg hb;have BK791:=zm (hbox);have GW791:=ygw hg;have GE791:=ygw hg;replace HB:=ybs hb;clear hb hbox hg;obtain ⟨_,_,_,_,_,_⟩:=yc3 BK791;obtain ⟨Ao28,co28,eo28⟩:=Kd.V_slice HO789.out;subst eo28)|((with_reducible refine gate_callee (f:=24) rfl ?_);refine ygl 19 Try.func24 #[.agg #[.int .u64 t785, .int .u32 t786, .slice Ao28 t787.length co28]] ?_;(with_reducible refine (coder_Finish.calls t785 t786 _ _ t787 t792 _ ?side1 ?side2 A3.out).mono ?_);(case side1=>refine (Kd.V_reads' (e:=5) (base:=w.heap.size) (ok:=fun k_=>((some k_≠(.slice Ao23 y774.length co23 : Value).ownBlock∧some k_≠(.slice Ao24 y777.length co24 : Value).ownBlock)∧k_≠gb791)) (n:=t787.length) (c:=co28) ?_).2.2;exact (yV0 HO789));(case side2=>exact (Kd.V_reads' HO789.out).2.1);rintro e w29 ⟨v793,rfl,ho0,hb⟩;refine ⟨_,rfl, ?_⟩;replace HO776:=zm (Kd.R_below (yR1 HO776 BK791) hb);replace HO779:=zm (Kd.R_below (yR1 HO779 BK791) hb);replace HO789:=zm (Kd.V_elder' (yV0 HO789) (Kd.R_base ho0) hb);have HO794:=zm (Kd.R_lower (Kd.R_new' ho0 (Kd.R_lt (yR1 HO784 BK791))) (zE yhb));replace HO784:=zm (Kd.R_elder' (yR1 HO784 BK791) (Kd.R_base ho0) hb);replace BK791:=zm (zF (g:=gb791) (o:=.cells #[.int .u64 t785, .int .u32 t786, .slice Ao28 t787.length co28] 26 (0,0)) (ykp BK791) hb);replace HB:=ybs hb;(try clear hb);(try clear ho0);obtain ⟨Ao30,co30,eo30⟩:=Kd.R_slice HO794.out;subst eo30)|((with_reducible refine gate_callee (f:=26) rfl ?_);refine ygl 20 Try.func26 #[.slice Ao30 t792.length co30] ?_;(with_reducible refine (coder_Open.calls (fun k_=>some k_=(.slice Ao30 t792.length co30 : Value).ownBlock) _ _ t792 t795 t796 t797 t800 _ ?side1 A4.out).mono ?_);(case side1=>exact Kd.R_V (Kd.R_tight rfl (Kd.R_types (Kd.R_apart' (Kd.R_apart' (HO794.out) (Kd.R_typed HO776.out) (by decide)) (Kd.R_typed HO779.out) (by decide)) BK791.out (by decide))));rintro e w31 ⟨v798,rfl,ho0,hb⟩;refine ⟨_,rfl, ?_⟩;replace HO789:=yVb HO789 hb;have HO799:=yho (fun k_=>some k_≠(.slice Ao23 y774.length co23 : Value).ownBlock∧some k_≠(.slice Ao24 y777.length co24 : Value).ownBlock∧some k_≠(.slice Ao22 t782.length co22 : Value).ownBlock∧k_≠gb791) ho0 (fun k_ hk_=>⟨Or.elim hk_ (fun hs_=>((Kd.R_types (Kd.R_apart' (Kd.R_apart' (HO794.out) (Kd.R_typed HO776.out) (by decide)) (Kd.R_typed HO779.out) (by decide)) BK791.out (by decide)).1 k_ hs_.symm).1.1.2) (fun hn_=>(Kd.fresh' (Kd.R_lt (yr HO776)) k_ hn_)),Or.elim hk_ (fun hs_=>((Kd.R_types (Kd.R_apart' (Kd.R_apart' (HO794.out) (Kd.R_typed HO776.out) (by decide)) (Kd.R_typed HO779.out) (by decide)) BK791.out (by decide)).1 k_ hs_.symm).1.2) (fun hn_=>(Kd.fresh' (Kd.R_lt (yr HO779)) k_ hn_)),Or.elim hk_ (fun hs_=>((Kd.R_types (Kd.R_apart' (Kd.R_apart' (HO794.out) (Kd.R_typed HO776.out) (by decide)) (Kd.R_typed HO779.out) (by decide)) BK791.out (by decide)).1 k_ hs_.symm).1.1.1.2) (fun hn_=>(Kd.fresh' (Kd.R_lt (yr HO784)) k_ hn_)),Or.elim hk_ (fun hs_=>((Kd.R_types (Kd.R_apart' (Kd.R_apart' (HO794.out) (Kd.R_typed HO776.out) (by decide)) (Kd.R_typed HO779.out) (by decide)) BK791.out (by decide)).1 k_ hs_.symm).2) (fun hn_=>(Kd.freshB (yk BK791) k_ hn_))⟩);replace HO776:=yRb HO776 hb;replace HO779:=yRb HO779 hb;replace HO784:=yRb HO784 hb;replace HO794:=yRb HO794 hb;replace BK791:=ybb BK791 hb;replace HB:=ybs hb;(try clear hb);(try clear ho0);obtain ⟨Ao32,co32,eo32⟩:=Kd.V_slice HO799.out;subst eo32)|((with_reducible refine gate_callee (f:=47) rfl ?_);refine ygl 22 Try.func47 #[.agg #[.int .u64 t795, .int .u32 t796, .slice Ao32 t797.length co32, .int .i64 t800], .slice Ao24 y777.length co24, .bool false] ?_;(with_reducible refine (gain_Take.calls k t795 t796 (fun k_=>(some k_≠(.slice Ao23 y774.length co23 : Value).ownBlock∧(some k_≠(.slice Ao24 y777.length co24 : Value).ownBlock∧(some k_≠(.slice Ao22 t782.length co22 : Value).ownBlock∧k_≠gb791)))) _ _ t797 t800 _ _ y777 false t801 t802 t803 t806 t807 t810 _ HO799.out ?side2 ?side3 A5.out).mono ?_);(case side2=>exact yce (Kd.R_reads' HO779.out).2.2);(case side3=>exact (Kd.R_reads' HO779.out).2.1);rintro e w33 ⟨v804,v808,rfl,ho0,ho1,hb⟩;refine ⟨_,rfl, ?_⟩;replace HO789:=zm (Kd.V_elder' (yr HO789) (Kd.R_base ho1) hb);replace HO794:=yRb HO794 hb;replace HO799:=zm (Kd.V_elder' (yr HO799) (Kd.R_base ho1) hb);have HO805:=yho (fun k_=>some k_≠(v808 : Value).ownBlock∧some k_≠(.slice Ao23 y774.length co23 : Value).ownBlock∧some k_≠(.slice Ao24 y777.length co24 : Value).ownBlock∧some k_≠(.slice Ao22 t782.length co22 : Value).ownBlock∧k_≠gb791) ho0 (fun k_ hk_=>⟨hk_.2,Or.elim hk_.1 (fun hs_=>hs_.1) (fun hn_=>(Kd.fresh' (Kd.R_lt (yr HO776)) k_ hn_)),Or.elim hk_.1 (fun hs_=>hs_.2.1) (fun hn_=>(Kd.fresh' (Kd.R_lt (yr HO779)) k_ hn_)),Or.elim hk_.1 (fun hs_=>hs_.2.2.1) (fun hn_=>(Kd.fresh' (Kd.R_lt (yr HO784)) k_ hn_)),Or.elim hk_.1 (fun hs_=>hs_.2.2.2) (fun hn_=>(Kd.freshB (yk BK791) k_ hn_))⟩);replace HO784:=yRb HO784 hb;have HO809:=zm (Kd.R_lower (Kd.R_new' (Kd.R_new' (zG (ok' := fun k_=>True) ho1 (fun _ hk_=>trivial)) (Kd.R_lt (yr HO776))) (Kd.R_lt (yr HO779))) (zE yhb));replace HO776:=zm (Kd.R_elder' (yr HO776) (Kd.R_base ho1) hb);replace HO779:=zm (Kd.R_elder' (yr HO779) (Kd.R_base ho1) hb);replace BK791:=ybb BK791 hb;replace HB:=ybs hb;(try clear hb);(try clear ho0);(try clear ho1))|((with_reducible refine gate_dst (N:=5) rfl ?_);refine ybx 5 #[.int .u64 0, .int .u32 0, .slice none 0 0, .int .i64 0] 43 ?_;intro gb811 hg w34 hbox hb;replace HO776:=yRb HO776 hb;replace HO779:=yRb HO779 hb;replace HO784:=yRb HO784 hb;replace HO789:=yVe HO789 hg hb;replace HO794:=yRb HO794 hb;replace HO799:=yVe HO799 hg hb;replace HO805:=yVe HO805 hg hb;replace HO809:=yRb HO809 hb;have BK811:=zm (hbox);have GW811:=ygw hg;have GE811:=ygw hg;replace HB:=ybs hb;have NB791_811:=ynl BK791 hg;have NB811_791:=yng BK791 hg;replace BK791:=ybb BK791 hb;clear hb hbox hg;have:=NB811_791.out;have:=NB791_811.out;obtain ⟨_,_,_,_,_,_,_,_⟩:=yc4 BK811;obtain ⟨Ao37,co37,eo37⟩:=Kd.V_slice HO805.out;subst eo37;obtain ⟨Ao38,co38,eo38⟩:=Kd.R_slice HO809.out;subst eo38)|(go_at_call 49;(with_reducible refine (psalteryref06_Same.calls k _ _ t807 _ _ y774 true _ ?side1 ?side2 ?side3 ?side4 A7.out).mono ?_);(case side1=>refine (Kd.R_reads' (e:=3) (base:=w.heap.size) (ok:=fun k_=>((True∧some k_≠(.slice Ao23 y774.length co23 : Value).ownBlock)∧some k_≠(.slice Ao24 y777.length co24 : Value).ownBlock)) (n:=t807.length) (c:=co38) ?_).2.2;exact (yR1 HO809 BK811));(case side2=>exact (Kd.R_reads' HO809.out).2.1);(case side3=>refine (Kd.R_reads' (e:=3) (base:=w.heap.size) (ok:=fun k_=>((True∧some k_≠(.slice Ao24 y777.length co24 : Value).ownBlock)∧some k_≠(.slice Ao38 t807.length co38 : Value).ownBlock)) (n:=y774.length) (c:=co23) ?_).2.2;exact (yR1 HO776 BK811));(case side4=>exact (Kd.R_reads' HO776.out).2.1);rintro e w' ⟨rfl,⟨nd,rfl⟩⟩)|(go_at_call 28;(with_reducible refine (coder_RightDec.calls t801 t802 _ _ t803 t806 true _ ?side1 ?side2 A10.out).mono ?_);(case side1=>refine (Kd.V_reads' (e:=5) (base:=w.heap.size) (ok:=fun k_=>((some k_≠(.slice Ao38 t807.length co38 : Value).ownBlock∧(some k_≠(.slice Ao23 y774.length co23 : Value).ownBlock∧(some k_≠(.slice Ao24 y777.length co24 : Value).ownBlock∧(some k_≠(.slice Ao22 t782.length co22 : Value).ownBlock∧k_≠gb791))))∧k_≠gb811)) (n:=t803.length) (c:=co37) ?_).2.2;exact (yV0 HO805));(case side2=>exact (Kd.V_reads' HO805.out).2.1);rintro e w39 ⟨rfl,hb⟩;replace HO776:=zm (Kd.R_below (yR1 HO776 BK811) hb);replace HO779:=zm (Kd.R_below (yR1 HO779 BK811) hb);replace HO784:=zm (Kd.R_below (yR1 HO784 BK811) hb);replace HO789:=zm (Kd.V_below (yV0 HO789) hb);replace HO794:=zm (Kd.R_below (yR1 HO794 BK811) hb);replace HO799:=zm (Kd.V_below (yV0 HO799) hb);replace HO805:=zm (Kd.V_below (yV0 HO805) hb);replace HO809:=zm (Kd.R_below (yR1 HO809 BK811) hb);replace BK791:=ybb BK791 hb;replace BK811:=zm (zF (g:=gb811) (o:=.cells #[.int .u64 t801, .int .u32 t802, .slice Ao37 t803.length co37, .int .i64 t806] 43 (0,0)) (ykp BK811) hb);replace HB:=ybs hb;(try clear hb))|(go_at_call 50;(with_reducible refine (gain_Most.calls true t814 _ A12.out).mono ?_);rintro e w' ⟨rfl,⟨nd,rfl⟩⟩)|(go_at_call 50;(with_reducible refine (gain_Most.calls false t815 _ A14.out).mono ?_);rintro e w' ⟨rfl,⟨nd,rfl⟩⟩)|(go_at_call 45;(with_reducible refine (gain_Right.calls k _ _ y774 t816 _ ?side1 ?side2 A16.out).mono ?_);(case side1=>exact yce (Kd.R_reads' HO776.out).2.2);(case side2=>exact (Kd.R_reads' HO776.out).2.1);rintro e w' ⟨rfl,⟨nd,rfl⟩⟩))
 go_ret
 exact ⟨ye,yhb⟩
mutual
def psalterylaw11_GainBack.l0 : Nat→List (S91)→List Int→List Int→List (S91)→Int→Int→Int→List Int→Option (Bool)
 | 0,_,_,_,_,_,_,_,_=>none
 | k+1,x0,x4,x5,x6,x7,x1009000,x1009001,x1009002=>if x7 < (x0.length : Int) then (psalterylaw11_GainBack.j1 k x0 x4 x5 x6 x7 (decide (x7 < 20)) x1009000 x1009001 x1009002) else (psalterylaw11_GainBack.j1 k x0 x4 x5 x6 x7 false x1009000 x1009001 x1009002)
def psalterylaw11_GainBack.j1 : Nat→List (S91)→List Int→List Int→List (S91)→Int→Bool→Int→Int→List Int→Option (Bool)
 | 0,_,_,_,_,_,_,_,_,_=>none
 | k+1,x0,x4,x5,x6,x7,x25,x1009000,x1009001,x1009002=>if x25=true then (if 0≤x7 then (if x7 < (x0.length : Int) then ((gain_Put.f k x1009000 x1009001 x1009002 ((rd_T91 x0 x7).f0) x5 ((rd_T91 x0 x7).f1)).bind fun bt1019=>(if bt1019.2.2.2=0 then (if x6.length < 4398046511104 then (psalterylaw11_GainBack.l0 k x0 x4 ((rd_T91 x0 x7).f0) (x6 ++ [(⟨(rd_T91 x0 x7).f0,(rd_T91 x0 x7).f1⟩ : S91)]) (wrap64 (x7+1)) bt1019.1 bt1019.2.1 bt1019.2.2.1) else (none)) else (psalterylaw11_GainBack.l0 k x0 x4 x5 x6 (wrap64 (x7+1)) x1009000 x1009001 x1009002))) else (none)) else (none)) else ((coder_Finish.f x1009000 x1009001 x1009002).bind fun t1031=>((coder_Open.f t1031).bind fun bt1034=>(psalterylaw11_GainBack.l1 k x4 x6 0 bt1034.1 bt1034.2.1 bt1034.2.2.1 bt1034.2.2.2)))
def psalterylaw11_GainBack.l1 : Nat→List Int→List (S91)→Int→Int→Int→List Int→Int→Option (Bool)
 | 0,_,_,_,_,_,_,_=>none
 | k+1,x4,x6,x11,x1041000,x1041001,x1041002,x1041003=>if x11 < (x6.length : Int) then (if 0≤x11 then ((gain_Take.f k x1041000 x1041001 x1041002 x1041003 x4 ((rd_T91 x6 x11).f1)).bind fun bt1043=>(if bt1043.2.2.2.2.2=0 then ((psalteryref06_Same.f k bt1043.2.2.2.2.1 ((rd_T91 x6 x11).f0)).bind fun t1055=>(if t1055=true then (psalterylaw11_GainBack.l1 k bt1043.2.2.2.2.1 x6 (wrap64 (x11+1)) bt1043.1 bt1043.2.1 bt1043.2.2.1 bt1043.2.2.2.1) else (some false))) else (some false))) else (none)) else ((psalterylaw11_knows.f k).bind fun t1041=>(some t1041))
end
def psalterylaw11_GainBack.f (k : Nat) (l0 : List (S91)) : Option (Bool):=(coder_New.f).bind fun bt1003=>((some (([0,0,0,0,0] : List Int) : List Int)).bind fun y1009=>(if 5≤(y1009.length : Int) then (psalterylaw11_GainBack.l0 k l0 y1009 ((y1009.take 5).drop 0) ([] : List (S91)) 0 bt1003.1 bt1003.2.1 bt1003.2.2) else (none)))
theorem psalterylaw11_GainBack.mono_l : ∀ k,(∀ y0 y1 y2 y3 y4 y5 y6 y7,LeO (psalterylaw11_GainBack.l0 k y0 y1 y2 y3 y4 y5 y6 y7) (psalterylaw11_GainBack.l0 (k+1) y0 y1 y2 y3 y4 y5 y6 y7))∧(∀ y0 y1 y2 y3 y4 y5 y6 y7 y8,LeO (psalterylaw11_GainBack.j1 k y0 y1 y2 y3 y4 y5 y6 y7 y8) (psalterylaw11_GainBack.j1 (k+1) y0 y1 y2 y3 y4 y5 y6 y7 y8))∧(∀ y0 y1 y2 y3 y4 y5 y6,LeO (psalterylaw11_GainBack.l1 k y0 y1 y2 y3 y4 y5 y6) (psalterylaw11_GainBack.l1 (k+1) y0 y1 y2 y3 y4 y5 y6))
 | 0=>⟨fun _ _ _ _ _ _ _ _ r h=>by simp [psalterylaw11_GainBack.l0] at h,fun _ _ _ _ _ _ _ _ _ r h=>by simp [psalterylaw11_GainBack.j1] at h,fun _ _ _ _ _ _ _ r h=>by simp [psalterylaw11_GainBack.l1] at h⟩
 | k+1=>by
  obtain ⟨ih0,ih1,ih2⟩:=psalterylaw11_GainBack.mono_l k
  refine ⟨?_, ?_, ?_⟩
  ·
   intro y0 y1 y2 y3 y4 y5 y6 y7
   unfold psalterylaw11_GainBack.l0
   repeat' with_reducible first|apply ih0|apply ih1|apply ih2|apply gain_Put.mono|apply gain_Take.mono|apply psalterylaw11_knows.mono|apply psalteryref06_Same.mono|apply yLr|apply yLn|apply yLi|apply yLb|intro _
  ·
   intro y0 y1 y2 y3 y4 y5 y6 y7 y8
   unfold psalterylaw11_GainBack.j1
   repeat' with_reducible first|apply ih0|apply ih1|apply ih2|apply gain_Put.mono|apply gain_Take.mono|apply psalterylaw11_knows.mono|apply psalteryref06_Same.mono|apply yLr|apply yLn|apply yLi|apply yLb|intro _
  ·
   intro y0 y1 y2 y3 y4 y5 y6
   unfold psalterylaw11_GainBack.l1
   repeat' with_reducible first|apply ih0|apply ih1|apply ih2|apply gain_Put.mono|apply gain_Take.mono|apply psalterylaw11_knows.mono|apply psalteryref06_Same.mono|apply yLr|apply yLn|apply yLi|apply yLb|intro _
theorem psalterylaw11_GainBack.mono : ∀ a0 k,LeO (psalterylaw11_GainBack.f k a0) (psalterylaw11_GainBack.f (k+1) a0):=by
 intro a0 k
 obtain ⟨ih0,ih1,ih2⟩:=psalterylaw11_GainBack.mono_l k
 unfold psalterylaw11_GainBack.f
 repeat' with_reducible first|apply ih0|apply ih1|apply ih2|apply gain_Put.mono|apply gain_Take.mono|apply psalterylaw11_knows.mono|apply psalteryref06_Same.mono|apply yLr|apply yLn|apply yLi|apply yLb|intro _
def psalterylaw11_GainBack.T8 : Bool × List (List Nat × List Nat):=(true, [([], []),([], []),([], []),([1,2], [1,2]),([3], [3]),([4], [4]),([], []),([], []),([], []),([7,8], [7,8]),([9], [9]),([10], [10]),([0,5,6,11], [0,5,6,11]),([12], [12]),([13], [13]),([13], [13]),([], []),([16,14,12,0,1,2,3,4,5,6,7,8,9,10,11,12,13,14,16], [14,16]),([15,17,0,1,2,3,4,5,6,7,8,9,10,11,12,13,14,15,16,17], [15])])
def psalterylaw11_GainBack.B8 : List Nat := [0,0,0,6,14,30,0,0,0,384,896,1920,4095,8191,16383,16383,0,98303,262143]
theorem psalterylaw11_GainBack.tab8 : rtab .any (opsOf Try.f13 8)=psalterylaw11_GainBack.T8:=by kernel_rfl
theorem psalterylaw11_GainBack.bits8 : waitsOk psalterylaw11_GainBack.T8.2 psalterylaw11_GainBack.B8=true:=by kernel_rfl
def psalterylaw11_GainBack.T17 : Bool × List (List Nat × List Nat):=(true, [([], []),([], []),([], []),([], []),([2,3], [2,3]),([4], [4]),([5], [5]),([0,1,6], [0,1,6]),([7], [7]),([8], [8]),([8], [8]),([8], [8]),([], []),([12,9,7,0,1,2,3,4,5,6,7,8,9,12], [9,12]),([10,13,0,1,2,3,4,5,6,7,8,9,10,12,13], [10]),([11,14,0,1,2,3,4,5,6,7,8,9,10,11,12,13,14], [11])])
def psalterylaw11_GainBack.B17 : List Nat := [0,0,0,0,12,28,60,127,255,511,511,511,0,5119,14335,32767]
theorem psalterylaw11_GainBack.tab17 : rtab .any (opsOf Try.f13 17)=psalterylaw11_GainBack.T17:=by kernel_rfl
theorem psalterylaw11_GainBack.bits17 : waitsOk psalterylaw11_GainBack.T17.2 psalterylaw11_GainBack.B17=true:=by kernel_rfl
/-- A row that is only read, and has an element: its block is in what it may lead to. -/
theorem psalterylaw11_GainBack.away {α : Type} {d : Kd α} {e base n c g : Nat} {ok : Nat→Prop} {W : World} {ad : Addr} {xs : List α} (h : Kd.V d e W base ok (.slice (some ad) n c) xs) (z : α) (i : Int) (h0 : 0≤i) (h1 : i < n) (hs : 0 < d.sz) (hok : ∀ k,ok k→k≠g) : ad.block≠g:=by
 obtain ⟨ad',_,he,_,_,_,hin⟩:=Kd.F_get (Kd.V_F h) z i h0 h1
 injection he with he
 subst he
 exact hok _ (hin hs)
set_option maxHeartbeats 8000000 in
set_option maxRecDepth 100000 in
theorem psalterylaw11_GainBack.calls_in (k : Nat) (P0_ : Nat→Prop) (A0 : Option Addr) (c0 : Nat) (l0 : List (S91)) (r : Bool) (w : World) (hs0 : Kd.V k91 91 w w.heap.size (fun k_=>P0_ k_) (.slice A0 l0.length c0) l0) (h : psalterylaw11_GainBack.f k l0=some r) :
  Calls Try.prog 13 #[.slice A0 l0.length c0] w fun e w' => e=.returned (.bool r)∧Below w.heap.size w w' := by
 have hu26:=Try.underlying26;have hu91:=Try.underlying91;have hu43:=Try.underlying43
 have HO0:=zm (show Kd.V k91 91 w w.heap.size (fun k_=>(P0_ k_∨w.heap.size≤k_)) (.slice A0 l0.length c0) l0 from zy hs0 (fun k_ hk => .inl hk))
 have HB:=zm (Below.refl w.heap.size w)
 have H : ((coder_New.f).bind fun bt1003=>((some (([0,0,0,0,0] : List Int) : List Int)).bind fun y1009=>(if 5≤(y1009.length : Int) then (psalterylaw11_GainBack.l0 k l0 y1009 ((y1009.take 5).drop 0) ([] : List (S91)) 0 bt1003.1 bt1003.2.1 bt1003.2.2) else (none))))=some r:=h
 clear h
 replace H:=ybi H;obtain ⟨⟨t1003,t1004,t1005⟩,A2,H⟩:=H
 try dsimp only at H
 obtain ⟨y1009,hy1009⟩ : ∃ y_ : List Int,y_=(([0,0,0,0,0] : List Int)):=⟨_,rfl⟩
 replace H : (if 5≤(y1009.length : Int) then (psalterylaw11_GainBack.l0 k l0 y1009 ((y1009.take 5).drop 0) ([] : List (S91)) 0 t1003 t1004 t1005) else (none))=some r:=yrw hy1009 H
 have Ny1009:=zm hy1009;clear hy1009
 replace H:=yif H;obtain ⟨c3,H⟩:=H
 have c3b0:=eq_true c3
 have c3b1 : decide (5≤(y1009.length : Int))=true:=decide_eq_true c3
 clear c3
 obtain ⟨y1012,hy1012⟩ : ∃ y_ : List Int,y_=((y1009.take 5).drop 0):=⟨_,rfl⟩
 replace H : (psalterylaw11_GainBack.l0 k l0 y1009 y1012 ([] : List (S91)) 0 t1003 t1004 t1005)=some r:=yrw hy1012 H
 have Ny1012:=zm hy1012;clear hy1012
 have H' := zm H
 clear H
 go_enter Try.func13,Try.ntmps13
 go_wp2_with (first|((with_reducible refine gate_callee (f:=29) rfl ?_);refine ygl 15 Try.func29 #[] ?_;(with_reducible refine (coder_New.calls  t1003 t1004 t1005 _ A2.out).mono ?_);rintro e w4 ⟨v1006,rfl,ho0,hb⟩;refine ⟨_,rfl, ?_⟩;replace HO0:=zm (Kd.V_elder' (yr HO0) (Kd.R_base ho0) hb);have HO1007:=zm (Kd.R_lower (Kd.R_newM (M:=fun k_=>(w.heap.size≤k_)) ho0 (zE yhb) (fun k_ h_=>h_)) (zE yhb));replace HB:=ybs hb;(try clear hb);(try clear ho0))|((with_reducible refine gate_dst (N:=3) rfl ?_);refine ybx 3 #[.int .u64 0, .int .u32 0, .slice none 0 0] 26 ?_;intro gb1008 hg w5 hbox hb;replace HO0:=yVe HO0 hg hb;replace HO1007:=yRb HO1007 hb;have BK1008:=zm (hbox);have GW1008:=ygw hg;have GE1008:=ygw hg;replace HB:=ybs hb;clear hb hbox hg;obtain ⟨hcz6_0,hcz6_1,hcz6_2,hfz6_0,hfz6_1,hfz6_2⟩:=yc3 BK1008;obtain ⟨Ao7,co7,eo7⟩:=Kd.R_slice HO1007.out;subst eo7)|((with_reducible refine gate_dst (N:=16) rfl ?_);refine Kd.R_lit (Kd.int .i64) _ 3 ?hg (N:=16) ?hd (xs:=([0,0,0,0,0] : List Int)) (inner := [.int .i64 0, .int .i64 0, .int .i64 0, .int .i64 0, .int .i64 0]) (ok:=fun _=>True) (okp:=fun _=>True) ?hr ?hp (fun _ hk=>hk) trivial (Below.refl _ _) (Nat.le_refl _) (by simp) ?_;(case hd=>rfl);(case hg=>rfl);(case hr=>first|(go_simp;done)|(go_simp;rfl));(case hp=>exact (Reps.one (show Kd.M (Kd.int .i64) _ _ _ 0 [.int .i64 0] from rfl) (Reps.one (show Kd.M (Kd.int .i64) _ _ _ 0 [.int .i64 0] from rfl) (Reps.one (show Kd.M (Kd.int .i64) _ _ _ 0 [.int .i64 0] from rfl) (Reps.one (show Kd.M (Kd.int .i64) _ _ _ 0 [.int .i64 0] from rfl) (Reps.one (show Kd.M (Kd.int .i64) _ _ _ 0 [.int .i64 0] from rfl) (Reps.none _ _)))))));intro v1010 w8 ho9 hb hg_ hnew_;clear hg_ hnew_;(first|rw [← Ny1009.out] at ho9|(simp only [Int.reduceToNat] at ho9;rw [← Ny1009.out] at ho9));replace HO0:=zm (Kd.V_elder' (yV0 HO0) (Kd.R_base ho9) hb);replace HO1007:=zm (Kd.R_below (yR1 HO1007 BK1008) hb);have HO1011:=zm (Kd.R_lower (Kd.R_newM (M:=fun k_=>(w.heap.size≤k_)) ho9 (zE yhb) (fun k_ h_=>h_)) (zE yhb));replace BK1008:=zm (zF (g:=gb1008) (o:=.cells #[.int .u64 t1003, .int .u32 t1004, .slice Ao7 t1005.length co7] 26 (0,0)) (ykp BK1008) hb);replace HB:=ybs hb;clear hb ho9;obtain ⟨Ao11,co11,eo11⟩:=Kd.R_slice HO1011.out;subst eo11;have HO1016:=zm (show Kd.V (Kd.int .i64) 3 _ w.heap.size _ (.slice Ao11 y1009.length co11) y1012 from by rw [show y1012=y1009 from by rw [Ny1012.out,Ny1009.out];rfl];exact (zy (ok' := (fun k_=>((((P0_ k_∨w.heap.size≤k_)∧True)∧some k_≠(.slice Ao7 t1005.length co7 : Value).ownBlock)∧k_≠gb1008))) (Kd.R_V (Kd.R_types (Kd.R_apart' (HO1011.out) (Kd.R_typed HO1007.out) (by decide)) BK1008.out (by decide))) (fun k_ hk=>⟨⟨⟨(.inr (hk.1.1.1)),trivial⟩,hk.1.2⟩,hk.2⟩)))))
 go_loopg [5,6,7] k (fun kq v5 v6 v7 w' => ∃ (x5_1 : List Int) (x6_1 : List (S91)) (x7_1 : Int) (x1009000_1 : Int) (x1009001_1 : Int) (x1009002_1 : List Int) (u1009002 : Value),v7=.int .i64 x7_1∧Aside0 (psalterylaw11_GainBack.l0 kq l0 y1009 x5_1 x6_1 x7_1 x1009000_1 x1009001_1 x1009002_1=some r)∧Aside0 (kq≤k)∧Aside0 (Kd.V k91 91 w' w.heap.size (fun k_=>(P0_ k_∨w.heap.size≤k_)∧some k_≠((.slice Ao11 y1009.length co11) : Value).ownBlock∧some k_≠(v6 : Value).ownBlock∧k_≠gb1008) (.slice A0 l0.length c0) l0)∧Aside0 (Kd.R (Kd.int .i64) 3 w' w.heap.size (fun k_=>(w.heap.size≤k_)) (.slice Ao11 y1009.length co11) y1009)∧Aside0 (Kd.V (Kd.int .i64) 3 w' w.heap.size (fun k_=>(P0_ k_∨w.heap.size≤k_)∧some k_≠(v6 : Value).ownBlock∧k_≠gb1008) v5 x5_1)∧Aside0 (Kd.N k91 91 w' w.heap.size (fun k_=>(P0_ k_∨w.heap.size≤k_)∧some k_≠((.slice Ao11 y1009.length co11) : Value).ownBlock∧k_≠gb1008) v6 x6_1)∧Aside0 (Kd.V (Kd.int .u8) 5 w' w.heap.size (fun k_=>(P0_ k_∨w.heap.size≤k_)∧some k_≠((.slice Ao11 y1009.length co11) : Value).ownBlock∧some k_≠(v6 : Value).ownBlock∧k_≠gb1008) u1009002 x1009002_1)∧Aside0 (w'.heap[gb1008]? = some (.cells #[.int .u64 x1009000_1, .int .u32 x1009001_1,u1009002] 26 (0,0)))∧Aside0 (Below w.heap.size w w'))
 case atStart=>exact ⟨(y1012),(([] : List (S91))),(0),(t1003),(t1004),(t1005),(.slice Ao7 t1005.length co7),yq,H',⟨Nat.le_refl _⟩,⟨yV0 HO0⟩,⟨yR0 HO1011⟩,⟨yV0 HO1016⟩,⟨yn⟩,⟨zy (Kd.R_V (ok:=fun k_=>w.heap.size≤k_∧some k_≠((.slice Ao11 y1009.length co11) : Value).ownBlock∧some k_≠(Value.slice none 0 0).ownBlock∧k_≠gb1008) (by (with_reducible repeat (first|apply zo|apply zp|apply zq));exact zG (Kd.R_types (Kd.R_apart' HO1007.out (Kd.R_typed HO1011.out) (by decide)) BK1008.out (by decide)) (fun _ hk=>⟨hk.1.1.1,⟨hk.1.2,⟨(by simp [Value.ownBlock]),hk.2⟩⟩⟩))) (fun k_ hk=>by first|exact ⟨(.inr (hk.1)),hk.2⟩|exact (.inr (hk)))⟩,⟨yk BK1008⟩,⟨yhb⟩⟩
 case round =>
  clear H'
  try clear hcz6_0
  try clear hcz6_1
  try clear hcz6_2
  try clear hfz6_0
  try clear hfz6_1
  try clear hfz6_2
  obtain ⟨x5_1,x6_1,x7_1,x1009000_1,x1009001_1,x1009002_1,u1009002,rfl,HA,HK1,HO_0,HO_4,HO_5,HO_6,HO_1009002,BK1008,HB⟩:=hrel
  obtain ⟨k1,rfl⟩:=ysu gk (fun h=>by subst h;exact absurd HA.out (by simp [psalterylaw11_GainBack.l0]))
  have H:=HA.out;clear HA
  simp only [psalterylaw11_GainBack.l0] at H
  have HC12:=zm H;clear H
  go_upto_region 6 with (fail)
  go_cut [25] (fun v25 wc => ∃ (kq : Nat) (x25_11 : Bool),v25=.bool x25_11∧Aside0 (psalterylaw11_GainBack.j1 kq l0 y1009 x5_1 x6_1 x7_1 x25_11 x1009000_1 x1009001_1 x1009002_1=some r)∧Aside0 (kq≤k1)∧Aside0 (Kd.V k91 91 wc w.heap.size (fun k_=>(P0_ k_∨w.heap.size≤k_)∧some k_≠((.slice Ao11 y1009.length co11) : Value).ownBlock∧some k_≠(u6 : Value).ownBlock∧k_≠gb1008) (.slice A0 l0.length c0) l0)∧Aside0 (Kd.R (Kd.int .i64) 3 wc w.heap.size (fun k_=>(w.heap.size≤k_)) (.slice Ao11 y1009.length co11) y1009)∧Aside0 (Kd.V (Kd.int .i64) 3 wc w.heap.size (fun k_=>(P0_ k_∨w.heap.size≤k_)∧some k_≠(u6 : Value).ownBlock∧k_≠gb1008) u5 x5_1)∧Aside0 (Kd.N k91 91 wc w.heap.size (fun k_=>(P0_ k_∨w.heap.size≤k_)∧some k_≠((.slice Ao11 y1009.length co11) : Value).ownBlock∧k_≠gb1008) u6 x6_1)∧Aside0 (Kd.V (Kd.int .u8) 5 wc w.heap.size (fun k_=>(P0_ k_∨w.heap.size≤k_)∧some k_≠((.slice Ao11 y1009.length co11) : Value).ownBlock∧some k_≠(u6 : Value).ownBlock∧k_≠gb1008) u1009002 x1009002_1)∧Aside0 (wc.heap[gb1008]? = some (.cells #[.int .u64 x1009000_1, .int .u32 x1009001_1,u1009002] 26 (0,0)))∧Aside0 (Below w.heap.size w wc))
  case first =>
   have H:=HC12.out;clear HC12
   by_cases c13 : x7_1 < (l0.length : Int)
   ·
    rw [if_pos c13] at H
    have c13b0 : decide (x7_1 < (l0.length : Int))=true:=decide_eq_true c13
    clear c13
    (first|rw [c13b0]|(simp only [i64_w,i32_w];rw [c13b0])|skip)
    have H' := zm H
    clear H
    go_wp2
    go_meet
    case rel=>exact ⟨_,(decide (x7_1 < 20)),yq,H',⟨yom1 HK1⟩,⟨yr HO_0⟩,⟨yr HO_4⟩,⟨yr HO_5⟩,⟨yr HO_6⟩,⟨yr HO_1009002⟩,⟨yk BK1008⟩,⟨yhb⟩⟩
   ·
    rw [if_neg c13] at H
    have c13b0 : decide (x7_1 < (l0.length : Int))=false:=decide_eq_false c13
    clear c13
    (first|rw [c13b0]|(simp only [i64_w,i32_w];rw [c13b0])|skip)
    have H' := zm H
    clear H
    go_wp2
    go_meet
    case rel=>exact ⟨_,(false),yq,H',⟨yom1 HK1⟩,⟨yr HO_0⟩,⟨yr HO_4⟩,⟨yr HO_5⟩,⟨yr HO_6⟩,⟨yr HO_1009002⟩,⟨yk BK1008⟩,⟨yhb⟩⟩
  case rest =>
   clear HC12
   obtain ⟨kq,x25_11,rfl,HA,HJ11,HO_0,HO_4,HO_5,HO_6,HO_1009002,BK1008,HB⟩:=hcut
   obtain ⟨kj11,rfl⟩:=ysu kq (fun h=>by subst h;exact absurd HA.out (by simp [psalterylaw11_GainBack.j1]))
   have H:=HA.out;clear HA
   simp only [psalterylaw11_GainBack.j1] at H
   by_cases c14 : x25_11=true
   ·
    subst c14
    rw [if_pos rfl] at H
    replace H:=yif H;obtain ⟨c15,H⟩:=H
    have c15b0 : decide (0≤x7_1)=true:=decide_eq_true c15
    clear c15
    replace H:=yif H;obtain ⟨c16,H⟩:=H
    have c16b0 : decide (x7_1 < (l0.length : Int))=true:=decide_eq_true c16
    clear c16
    replace H:=ybi H;obtain ⟨⟨t1019,t1020,t1021,t1024⟩,A17,H⟩:=H
    try dsimp only at H
    by_cases c18 : t1024=0
    ·
     rw [if_pos c18] at H
     have c18b0 : (t1024 == 0)=true:=beq_iff_eq.mpr c18
     have c18b1 : (t1024 != 0)=false:=bne_eq_false_iff_eq.mpr c18
     clear c18
     replace H:=yif H;obtain ⟨c19,H⟩:=H
     have LMc19:=zm c19;clear c19
     obtain ⟨y1027,hy1027⟩ : ∃ y_ : List (S91),y_=(x6_1 ++ [(⟨(rd_T91 l0 x7_1).f0,(rd_T91 l0 x7_1).f1⟩ : S91)]):=⟨_,rfl⟩
     replace H : (psalterylaw11_GainBack.l0 kj11 l0 y1009 ((rd_T91 l0 x7_1).f0) y1027 (wrap64 (x7_1+1)) t1019 t1020 t1021)=some r:=yrw hy1027 H
     have Ny1027:=zm hy1027;clear hy1027
     have H' := zm H
     clear H
     obtain ⟨Ao20,co20,eo20⟩:=Kd.V_slice HO_1009002.out
     subst eo20
     obtain ⟨Ao21,co21,eo21⟩:=Kd.V_slice HO_5.out
     subst eo21
     try go_wp2
     replace HO_0:=zm (zC HO_0.out)
     replace HO_4:=zm (zq HO_4.out)
     replace HO_5:=zm (zC HO_5.out)
     replace HO_6:=zm (Kd.N_drew HO_6.out)
     replace HO_1009002:=zm (zC HO_1009002.out)
     replace BK1008:=zm (zj BK1008.out)
     replace HB:=zm (zf HB.out)
     have p1017 : 0≤(x7_1 : Int):=yt
     have q1017 : x7_1 < (l0.length : Int):=yt
     obtain ⟨ad1017,A1017_0,c1017_0,e1017,hx1017_0,hx1017_1,hl1017_0,hi1017_0⟩:=at_T91 (Kd.V_reads' HO_0.out).2.2 x7_1 p1017 q1017
     cases e1017
     obtain ⟨ce1017,hce1017,hMe1017,hcc1017⟩:=Kd.V_get HO_0.out z91 x7_1 p1017 (by first|exact q1017|exact yt|(have e_:=(Kd.V_reads' HO_0.out).1;omega))
     obtain ⟨ua1017_0,uc1017_0,rfl,ul1017_0,ge1017_0⟩:=k91_openF hMe1017
     have hv1017_0:=hcc1017 0 _ rfl
     rw [Nat.add_zero] at hv1017_0
     replace hv1017_0:=Option.some.inj (hv1017_0.symm.trans hx1017_0)
     injection hv1017_0 with hva_ hvn_ hvc_
     rw [hva_] at ge1017_0
     rw [hvc_] at ul1017_0
     have HL1017_0:=zm (show Kd.V (Kd.int .i64) 3 _ w.heap.size _ _ ((rd_T91 l0 x7_1).f0) from Kd.V_mk ul1017_0 ge1017_0)
     clear hva_ hvn_ hvc_ ge1017_0 ul1017_0;clear hcc1017 hce1017;have HR1017_0:=zm hi1017_0;have HC1017_0:=zm hl1017_0;clear hi1017_0 hl1017_0
     replace p1017:=eq_true p1017
     replace q1017:=eq_true q1017
     have p1018 : 0≤(x7_1 : Int):=yt
     have q1018 : x7_1 < (l0.length : Int):=yt
     obtain ⟨ad1018,A1018_0,c1018_0,e1018,hx1018_0,hx1018_1,hl1018_0,hi1018_0⟩:=at_T91 (Kd.V_reads' HO_0.out).2.2 x7_1 p1018 q1018
     obtain rfl : ad1017=ad1018:=(by injection e1018)
     obtain ⟨ce1018,hce1018,hMe1018,hcc1018⟩:=Kd.V_get HO_0.out z91 x7_1 p1018 (by first|exact q1018|exact yt|(have e_:=(Kd.V_reads' HO_0.out).1;omega))
     obtain ⟨ua1018_0,uc1018_0,rfl,ul1018_0,ge1018_0⟩:=k91_openF hMe1018
     have hv1018_0:=hcc1018 0 _ rfl
     rw [Nat.add_zero] at hv1018_0
     replace hv1018_0:=Option.some.inj (hv1018_0.symm.trans hx1018_0)
     injection hv1018_0 with hva_ hvn_ hvc_
     rw [hva_] at ge1018_0
     rw [hvc_] at ul1018_0
     have HL1018_0:=zm (show Kd.V (Kd.int .i64) 3 _ w.heap.size _ _ ((rd_T91 l0 x7_1).f0) from Kd.V_mk ul1018_0 ge1018_0)
     clear hva_ hvn_ hvc_ ge1018_0 ul1018_0;clear hcc1018 hce1018;have HR1018_0:=zm hi1018_0;have HC1018_0:=zm hl1018_0;clear hi1018_0 hl1018_0
     replace p1018:=eq_true p1018
     replace q1018:=eq_true q1018
     have ea_:=Option.some.inj (hx1017_0.symm.trans hx1018_0)
     injection ea_ with ea_ en_ ec_
     subst ea_;subst ec_;clear en_
     refine yst (fun w' => w'.cell? ⟨gb1008,0,none⟩=some (.int .u64 x1009000_1)∧w'.cell? ⟨gb1008,1,none⟩=some (.int .u32 x1009001_1)∧w'.cell? ⟨gb1008,2,none⟩=some (.slice Ao20 x1009002_1.length co20)∧w'.cell? (ad1017.add ((x7_1).toNat * 2))=some (.slice A1017_0 ((rd_T91 l0 x7_1).f0).length c1017_0)∧w'.cell? ⟨(ad1017.add ((x7_1).toNat * 2)).block,(ad1017.add ((x7_1).toNat * 2)).off+1,none⟩=some (.bool ((rd_T91 l0 x7_1).f1))∧w'.cell? (ad1017.add ((x7_1).toNat * 2))=some (.slice A1017_0 ((rd_T91 l0 x7_1).f0).length c1017_0)∧w'.cell? ⟨(ad1017.add ((x7_1).toNat * 2)).block,(ad1017.add ((x7_1).toNat * 2)).off+1,none⟩=some (.bool ((rd_T91 l0 x7_1).f1))) [] 19 psalterylaw11_GainBack.tab8 psalterylaw11_GainBack.bits8 (fun hHeld HT_ HW_ => ?_)
     generalize wc.drew=w22 at HO_0 HO_4 HO_5 HO_6 HO_1009002 BK1008 HB HL1017_0 HL1018_0 HR1017_0 HR1018_0 hx1017_0 hx1017_1 hx1018_0 hx1018_1 hHeld ⊢
     refine yp 1 30 HT_ ?_
     refine yp 2 31 HT_ ?_
     refine yp 3 32 HT_ ?_
     refine yp 4 33 HT_ ?_
     refine yp 6 35 HT_ ?_
     refine yp 7 36 HT_ ?_
     refine yp 8 37 HT_ ?_
     refine yp 9 38 HT_ ?_
     refine yp 10 39 HT_ ?_
     refine yl 0 29 HT_ HW_ hHeld ?_
     refine yl 5 34 HT_ HW_ hHeld ?_
     refine yl 11 40 HT_ HW_ hHeld ?_
     refine join_ (σ:=Value × Nat) 2 #[true,true,true,true,true,true,true,true,true,true,true,true,true,true,true,true,true,false,false] (fun s_ => [(41, .tuple #[.agg #[.int .u64 t1019, .int .u32 t1020,s_.1], .int .i64 t1024]),(8, .pointer (some ⟨s_.2,0,none⟩)),(28, .tuple #[.agg #[.int .u64 t1019, .int .u32 t1020,s_.1], .int .i64 t1024]),(42, .agg #[.int .u64 t1019, .int .u32 t1020,s_.1]),(43, .int .i64 t1024)]) (fun s_ w' => (w'.cell? ⟨gb1008,0,none⟩=some (.int .u64 x1009000_1)∧w'.cell? ⟨gb1008,1,none⟩=some (.int .u32 x1009001_1)∧w'.cell? ⟨gb1008,2,none⟩=some (.slice Ao20 x1009002_1.length co20)∧w'.cell? (ad1017.add ((x7_1).toNat * 2))=some (.slice A1017_0 ((rd_T91 l0 x7_1).f0).length c1017_0)∧w'.cell? ⟨(ad1017.add ((x7_1).toNat * 2)).block,(ad1017.add ((x7_1).toNat * 2)).off+1,none⟩=some (.bool ((rd_T91 l0 x7_1).f1))∧w'.cell? (ad1017.add ((x7_1).toNat * 2))=some (.slice A1017_0 ((rd_T91 l0 x7_1).f0).length c1017_0)∧w'.cell? ⟨(ad1017.add ((x7_1).toNat * 2)).block,(ad1017.add ((x7_1).toNat * 2)).off+1,none⟩=some (.bool ((rd_T91 l0 x7_1).f1)))∧(Kd.V (Kd.int .i64) 3 w' w.heap.size (fun k_=>(P0_ k_∨w.heap.size≤k_)∧some k_≠(.slice Ao11 y1009.length co11 : Value).ownBlock∧some k_≠(u6 : Value).ownBlock∧k_≠gb1008∧k_≠s_.2) (.slice A1017_0 ((rd_T91 l0 x7_1).f0).length c1017_0) ((rd_T91 l0 x7_1).f0))∧(Kd.V (Kd.int .i64) 3 w' w.heap.size (fun k_=>(P0_ k_∨w.heap.size≤k_)∧some k_≠(.slice Ao11 y1009.length co11 : Value).ownBlock∧some k_≠(u6 : Value).ownBlock∧k_≠gb1008∧k_≠s_.2) (.slice A1017_0 ((rd_T91 l0 x7_1).f0).length c1017_0) ((rd_T91 l0 x7_1).f0))∧(Kd.V (Kd.int .u8) 5 w' w.heap.size (fun k_=>(P0_ k_∨w.heap.size≤k_)∧some k_≠(.slice Ao11 y1009.length co11 : Value).ownBlock∧some k_≠(u6 : Value).ownBlock∧k_≠gb1008∧k_≠s_.2) s_.1 t1021)∧(Kd.V k91 91 w' w.heap.size (fun k_=>(P0_ k_∨w.heap.size≤k_)∧some k_≠(.slice Ao11 y1009.length co11 : Value).ownBlock∧some k_≠(u6 : Value).ownBlock∧k_≠gb1008∧k_≠s_.2) (.slice (some ad1017) l0.length c0) l0)∧(Kd.V (Kd.int .u8) 5 w' w.heap.size (fun k_=>(P0_ k_∨w.heap.size≤k_)∧some k_≠(.slice Ao11 y1009.length co11 : Value).ownBlock∧some k_≠(u6 : Value).ownBlock∧k_≠gb1008∧k_≠s_.2) (.slice Ao20 x1009002_1.length co20) x1009002_1)∧(Kd.R (Kd.int .i64) 3 w' w.heap.size (fun k_=>(w.heap.size≤k_)) (.slice Ao11 y1009.length co11) y1009)∧(Kd.V (Kd.int .i64) 3 w' w.heap.size (fun k_=>(P0_ k_∨w.heap.size≤k_)∧some k_≠(u6 : Value).ownBlock∧k_≠gb1008∧k_≠s_.2) (.slice Ao21 x5_1.length co21) x5_1)∧(Kd.N k91 91 w' w.heap.size (fun k_=>(P0_ k_∨w.heap.size≤k_)∧some k_≠(.slice Ao11 y1009.length co11 : Value).ownBlock∧k_≠gb1008∧k_≠s_.2) u6 x6_1)∧(w'.heap[gb1008]? = some (.cells #[.int .u64 x1009000_1, .int .u32 x1009001_1, .slice Ao20 x1009002_1.length co20] 26 (0,0)))∧(w'.heap[s_.2]? = some (.cells #[.int .u64 0, .int .u32 0, .slice none 0 0] 26 (0,0)))∧(w.heap.size≤s_.2)∧(w.heap.size≤s_.2)∧(gb1008≠s_.2)∧(s_.2≠gb1008)∧(Below w.heap.size w w')) ?_ ?_
     rotate_left
     ·
      intro hCont
      refine two_ (i:=12) (j:=16) (Ni:=some 41) (Nj:=some 8) #[true,true,true,true,true,true,true,true,true,true,true,true,true,false,false,false,false,false,false] #[true,true,true,true,true,true,true,true,true,true,true,true,false,false,false,false,true,false,false] rfl rfl rfl rfl (two_of HT_.out (by kernel_rfl)) (by decide) (by decide) (fun K hK => ?_) (fun K hK => ?_)
      ·
       skip
       refine ygs Try.func43 #[.agg #[.int .u64 x1009000_1, .int .u32 x1009001_1, .slice Ao20 x1009002_1.length co20], .slice A1017_0 ((rd_T91 l0 x7_1).f0).length c1017_0, .slice Ao21 x5_1.length co21, .bool ((rd_T91 l0 x7_1).f1)] ?_
       with_reducible refine (gain_Put.calls kj11 x1009000_1 x1009001_1 (fun k_=>((P0_ k_∨w.heap.size≤k_)∧(some k_≠(.slice Ao11 y1009.length co11 : Value).ownBlock∧(some k_≠(u6 : Value).ownBlock∧k_≠gb1008)))) _ _ x1009002_1 _ _ ((rd_T91 l0 x7_1).f0) _ _ x5_1 ((rd_T91 l0 x7_1).f1) t1019 t1020 t1021 t1024 _ ?side1 ?side2 ?side3 ?side4 ?side5 A17.out).mono ?_
       (case side1=>exact HO_1009002.out)
       (case side2=>exact yce (yrc HR1017_0))
       (case side3=>exact HC1017_0.out)
       (case side4=>exact yce (Kd.V_reads' HO_5.out).2.2)
       (case side5=>exact (Kd.V_reads' HO_5.out).2.1)
       rintro e w23 ⟨v1022,rfl,ho0,hb⟩
       have HS3_:=yhs hb hHeld.2.2.2.1
       have HS4_:=yhs hb hHeld.2.2.2.2.1
       have HS5_:=yhs hb hHeld.2.2.2.2.2.1
       have HS6_:=yhs hb hHeld.2.2.2.2.2.2
       refine ⟨_,rfl, ?_⟩
       replace HO_0:=yVb HO_0 hb
       replace HO_5:=yVb HO_5 hb
       replace HO_1009002:=yVb HO_1009002 hb
       replace HL1017_0:=yVb HL1017_0 hb
       replace HL1018_0:=yVb HL1018_0 hb
       have HO1023:=yho (fun k_=>(P0_ k_∨w.heap.size≤k_)∧some k_≠(.slice Ao11 y1009.length co11 : Value).ownBlock∧some k_≠(u6 : Value).ownBlock∧k_≠gb1008) ho0 (fun k_ hk_=>⟨Or.elim hk_ (fun hs_=>hs_.1) (fun hn_=>(.inr (Nat.le_trans (zE yhb) hn_))),yoR HO_4 hk_,yoN HO_6 hk_,yoB BK1008 hk_⟩)
       replace HO_4:=yRb HO_4 hb
       replace HO_6:=yNb HO_6 hb
       replace BK1008:=ybb BK1008 hb
       replace HR1017_0:=yCb HR1017_0 hb
       replace HR1018_0:=yCb HR1018_0 hb
       replace HB:=ybs hb
       (try clear hb)
       (try clear ho0)
       refine hK.out _ _ yH (fun hHeld => ?_)
       clear hK K
       refine ym (some 41) ?_
       refine yp 13 28 HT_ ?_
       refine yp 14 42 HT_ ?_
       refine yp 15 43 HT_ ?_
       refine yw 16 8 HT_ (fun K hK => ?_)
       refine box_step ?hg (N:=8) ?hd (cs := #[.int .u64 0, .int .u32 0, .slice none 0 0]) (t:=26) ?hr ?_;(case hd=>rfl);(case hg=>rfl);(case hr=>first|(go_simp;done)|(go_simp;rfl))
       intro gb1025 hg w24 hbox hb
       have HS3_:=yhs hb hHeld.2.2.2.1
       have HS4_:=yhs hb hHeld.2.2.2.2.1
       have HS5_:=yhs hb hHeld.2.2.2.2.2.1
       have HS6_:=yhs hb hHeld.2.2.2.2.2.2
       replace HO_0:=yVe HO_0 hg hb
       replace HO_4:=yRb HO_4 hb
       replace HO_5:=yVe HO_5 hg hb
       replace HO_6:=zm (Kd.N_below (Kd.N_elderB (yr HO_6) gb1025 (Nat.le_of_eq hg.symm)) hb)
       replace HO_1009002:=yVe HO_1009002 hg hb
       replace HL1017_0:=yVe HL1017_0 hg hb
       replace HL1018_0:=yVe HL1018_0 hg hb
       replace HO1023:=yVe HO1023 hg hb
       replace HR1017_0:=yCb HR1017_0 hb
       replace HR1018_0:=yCb HR1018_0 hb
       have BK1025:=zm (hbox)
       have GW1025:=ygw hg
       have GE1025:=ygw hg
       replace HB:=ybs hb
       have NB1008_1025:=ynl BK1008 hg
       have NB1025_1008:=yng BK1008 hg
       replace BK1008:=ybb BK1008 hb
       clear hb hbox hg
       refine hK.out _ _ yH (fun hHeld => ?_)
       clear hK K
       refine ym (some 8) ?_
       exact norm_ (by simp only [putAll,Act.put,List.setIfInBounds_toArray,List.set_cons_zero,List.set_cons_succ]) (hCont (v1022,gb1025) _ ⟨hHeld,(yV0 HL1017_0),(yV0 HL1018_0),(yV0 HO1023),(yV0 HO_0),(yV0 HO_1009002),(yr HO_4),(yV0 HO_5),(yN0 HO_6),(yk BK1008),(yk BK1025),GW1025.out,GE1025.out,NB1008_1025.out,NB1025_1008.out,yhb⟩)
      ·
       skip
       refine box_step ?hg (N:=8) ?hd (cs := #[.int .u64 0, .int .u32 0, .slice none 0 0]) (t:=26) ?hr ?_;(case hd=>rfl);(case hg=>rfl);(case hr=>first|(go_simp;done)|(go_simp;rfl))
       intro gb1025 hg w23 hbox hb
       have HS3_:=yhs hb hHeld.2.2.2.1
       have HS4_:=yhs hb hHeld.2.2.2.2.1
       have HS5_:=yhs hb hHeld.2.2.2.2.2.1
       have HS6_:=yhs hb hHeld.2.2.2.2.2.2
       replace HO_0:=yVe HO_0 hg hb
       replace HO_4:=yRb HO_4 hb
       replace HO_5:=yVe HO_5 hg hb
       replace HO_6:=zm (Kd.N_below (Kd.N_elderB (yr HO_6) gb1025 (Nat.le_of_eq hg.symm)) hb)
       replace HO_1009002:=yVe HO_1009002 hg hb
       replace HL1017_0:=yVe HL1017_0 hg hb
       replace HL1018_0:=yVe HL1018_0 hg hb
       replace HR1017_0:=yCb HR1017_0 hb
       replace HR1018_0:=yCb HR1018_0 hb
       have BK1025:=zm (hbox)
       have GW1025:=ygw hg
       have GE1025:=ygw hg
       replace HB:=ybs hb
       have NB1008_1025:=ynl BK1008 hg
       have NB1025_1008:=yng BK1008 hg
       replace BK1008:=ybb BK1008 hb
       clear hb hbox hg
       refine hK.out _ _ yH (fun hHeld => ?_)
       clear hK K
       refine ym (some 8) ?_
       refine yw 12 41 HT_ (fun K hK => ?_)
       refine ygs Try.func43 #[.agg #[.int .u64 x1009000_1, .int .u32 x1009001_1, .slice Ao20 x1009002_1.length co20], .slice A1017_0 ((rd_T91 l0 x7_1).f0).length c1017_0, .slice Ao21 x5_1.length co21, .bool ((rd_T91 l0 x7_1).f1)] ?_
       with_reducible refine (gain_Put.calls kj11 x1009000_1 x1009001_1 (fun k_=>(((P0_ k_∨w.heap.size≤k_)∧(some k_≠(.slice Ao11 y1009.length co11 : Value).ownBlock∧(some k_≠(u6 : Value).ownBlock∧k_≠gb1008)))∧k_≠gb1025)) _ _ x1009002_1 _ _ ((rd_T91 l0 x7_1).f0) _ _ x5_1 ((rd_T91 l0 x7_1).f1) t1019 t1020 t1021 t1024 _ ?side1 ?side2 ?side3 ?side4 ?side5 A17.out).mono ?_
       (case side1=>exact HO_1009002.out)
       (case side2=>exact yce (yrc HR1017_0))
       (case side3=>exact HC1017_0.out)
       (case side4=>exact yce (Kd.V_reads' HO_5.out).2.2)
       (case side5=>exact (Kd.V_reads' HO_5.out).2.1)
       rintro e w24 ⟨v1022,rfl,ho0,hb⟩
       have HS3_:=yhs hb hHeld.2.2.2.1
       have HS4_:=yhs hb hHeld.2.2.2.2.1
       have HS5_:=yhs hb hHeld.2.2.2.2.2.1
       have HS6_:=yhs hb hHeld.2.2.2.2.2.2
       refine ⟨_,rfl, ?_⟩
       replace HO_0:=yVb HO_0 hb
       replace HO_5:=yVb HO_5 hb
       replace HO_1009002:=yVb HO_1009002 hb
       replace HL1017_0:=yVb HL1017_0 hb
       replace HL1018_0:=yVb HL1018_0 hb
       have HO1023:=yho (fun k_=>(P0_ k_∨w.heap.size≤k_)∧some k_≠(.slice Ao11 y1009.length co11 : Value).ownBlock∧some k_≠(u6 : Value).ownBlock∧k_≠gb1008∧k_≠gb1025) ho0 (fun k_ hk_=>⟨Or.elim hk_ (fun hs_=>hs_.1.1) (fun hn_=>(.inr (Nat.le_trans (zE yhb) hn_))),yoR HO_4 hk_,yoN HO_6 hk_,yoB BK1008 hk_,yoB BK1025 hk_⟩)
       replace HO_4:=yRb HO_4 hb
       replace HO_6:=yNb HO_6 hb
       replace BK1008:=ybb BK1008 hb
       replace HR1017_0:=yCb HR1017_0 hb
       replace HR1018_0:=yCb HR1018_0 hb
       replace BK1025:=ybb BK1025 hb
       replace HB:=ybs hb
       (try clear hb)
       (try clear ho0)
       refine hK.out _ _ yH (fun hHeld => ?_)
       clear hK K
       refine ym (some 41) ?_
       refine yp 13 28 HT_ ?_
       refine yp 14 42 HT_ ?_
       refine yp 15 43 HT_ ?_
       exact norm_ (by simp only [putAll,Act.put,List.setIfInBounds_toArray,List.set_cons_zero,List.set_cons_succ]) (hCont (v1022,gb1025) _ ⟨hHeld,(yV0 HL1017_0),(yV0 HL1018_0),(yr HO1023),(yV0 HO_0),(yV0 HO_1009002),(yr HO_4),(yV0 HO_5),(yN0 HO_6),(yk BK1008),(yk BK1025),GW1025.out,GE1025.out,NB1008_1025.out,NB1025_1008.out,yhb⟩)
     rintro ⟨v1022,gb1025⟩ w25 ⟨hS_,h0_,h1_,h2_,h3_,h4_,h5_,h6_,h7_,h8_,h9_,h10_,h11_,h12_,h13_,h14_⟩
     have n0_ : Aside0 (Kd.V (Kd.int .i64) 3 w25 w.heap.size (fun k_=>(P0_ k_∨w.heap.size≤k_)∧some k_≠(.slice Ao11 y1009.length co11 : Value).ownBlock∧some k_≠(u6 : Value).ownBlock∧k_≠gb1008∧k_≠gb1025) (.slice A1017_0 ((rd_T91 l0 x7_1).f0).length c1017_0) ((rd_T91 l0 x7_1).f0)):=⟨h0_⟩
     have n1_ : Aside0 (Kd.V (Kd.int .i64) 3 w25 w.heap.size (fun k_=>(P0_ k_∨w.heap.size≤k_)∧some k_≠(.slice Ao11 y1009.length co11 : Value).ownBlock∧some k_≠(u6 : Value).ownBlock∧k_≠gb1008∧k_≠gb1025) (.slice A1017_0 ((rd_T91 l0 x7_1).f0).length c1017_0) ((rd_T91 l0 x7_1).f0)):=⟨h1_⟩
     have n2_ : Aside0 (Kd.V (Kd.int .u8) 5 w25 w.heap.size (fun k_=>(P0_ k_∨w.heap.size≤k_)∧some k_≠(.slice Ao11 y1009.length co11 : Value).ownBlock∧some k_≠(u6 : Value).ownBlock∧k_≠gb1008∧k_≠gb1025) v1022 t1021):=⟨h2_⟩
     have n3_ : Aside0 (Kd.V k91 91 w25 w.heap.size (fun k_=>(P0_ k_∨w.heap.size≤k_)∧some k_≠(.slice Ao11 y1009.length co11 : Value).ownBlock∧some k_≠(u6 : Value).ownBlock∧k_≠gb1008∧k_≠gb1025) (.slice (some ad1017) l0.length c0) l0):=⟨h3_⟩
     have n4_ : Aside0 (Kd.V (Kd.int .u8) 5 w25 w.heap.size (fun k_=>(P0_ k_∨w.heap.size≤k_)∧some k_≠(.slice Ao11 y1009.length co11 : Value).ownBlock∧some k_≠(u6 : Value).ownBlock∧k_≠gb1008∧k_≠gb1025) (.slice Ao20 x1009002_1.length co20) x1009002_1):=⟨h4_⟩
     have n5_ : Aside0 (Kd.R (Kd.int .i64) 3 w25 w.heap.size (fun k_=>(w.heap.size≤k_)) (.slice Ao11 y1009.length co11) y1009):=⟨h5_⟩
     have n6_ : Aside0 (Kd.V (Kd.int .i64) 3 w25 w.heap.size (fun k_=>(P0_ k_∨w.heap.size≤k_)∧some k_≠(u6 : Value).ownBlock∧k_≠gb1008∧k_≠gb1025) (.slice Ao21 x5_1.length co21) x5_1):=⟨h6_⟩
     have n7_ : Aside0 (Kd.N k91 91 w25 w.heap.size (fun k_=>(P0_ k_∨w.heap.size≤k_)∧some k_≠(.slice Ao11 y1009.length co11 : Value).ownBlock∧k_≠gb1008∧k_≠gb1025) u6 x6_1):=⟨h7_⟩
     have n8_ : Aside0 (w25.heap[gb1008]? = some (.cells #[.int .u64 x1009000_1, .int .u32 x1009001_1, .slice Ao20 x1009002_1.length co20] 26 (0,0))):=⟨h8_⟩
     have n9_ : Aside0 (w25.heap[gb1025]? = some (.cells #[.int .u64 0, .int .u32 0, .slice none 0 0] 26 (0,0))):=⟨h9_⟩
     have n10_ : Aside0 (w.heap.size≤gb1025):=⟨h10_⟩
     have n11_ : Aside0 (w.heap.size≤gb1025):=⟨h11_⟩
     have n12_ : Aside0 (gb1008≠gb1025):=⟨h12_⟩
     have n13_ : Aside0 (gb1025≠gb1008):=⟨h13_⟩
     have n14_ : Aside0 (Below w.heap.size w w25):=⟨h14_⟩
     clear HO_0;clear HO_4;clear HO_5;clear HO_6;clear HO_1009002;clear BK1008;clear HB;clear h0_ h1_ h2_ h3_ h4_ h5_ h6_ h7_ h8_ h9_ h10_ h11_ h12_ h13_ h14_;have HL1017_0:=n0_;have HL1018_0:=n1_;have HO1023:=n2_;have HO_0:=n3_;have HO_1009002:=n4_;have HO_4:=n5_;have HO_5:=n6_;have HO_6:=n7_;have BK1008:=n8_;have BK1025:=n9_;have GW1025:=n10_;have GE1025:=n11_;have NB1008_1025:=n12_;have NB1025_1008:=n13_;have HB:=n14_;clear n0_ n1_ n2_ n3_ n4_ n5_ n6_ n7_ n8_ n9_ n10_ n11_ n12_ n13_ n14_
     have hHeld : w25.cell? ⟨gb1008,0,none⟩=some (.int .u64 x1009000_1)∧w25.cell? ⟨gb1008,1,none⟩=some (.int .u32 x1009001_1)∧w25.cell? ⟨gb1008,2,none⟩=some (.slice Ao20 x1009002_1.length co20)∧w25.cell? (ad1017.add ((x7_1).toNat * 2))=some (.slice A1017_0 ((rd_T91 l0 x7_1).f0).length c1017_0)∧w25.cell? ⟨(ad1017.add ((x7_1).toNat * 2)).block,(ad1017.add ((x7_1).toNat * 2)).off+1,none⟩=some (.bool ((rd_T91 l0 x7_1).f1))∧w25.cell? (ad1017.add ((x7_1).toNat * 2))=some (.slice A1017_0 ((rd_T91 l0 x7_1).f0).length c1017_0)∧w25.cell? ⟨(ad1017.add ((x7_1).toNat * 2)).block,(ad1017.add ((x7_1).toNat * 2)).off+1,none⟩=some (.bool ((rd_T91 l0 x7_1).f1)):=hS_
     obtain ⟨Ao28,co28,eo28⟩:=Kd.V_slice HO1023.out
     (first|subst eo28|(injection eo28 with f1_ f2_ f3_;have f4_:=f1_.symm;have f5_:=f3_.symm;clear f1_ f2_ f3_;subst f4_;subst f5_))
     refine norm_ (a' := ?_) ?_ ?_
     rotate_left
     ·
      simp only [putAll,Act.put,List.setIfInBounds_toArray,List.set_cons_zero,List.set_cons_succ]
      rfl
     refine yv 17 HT_ (fun K hK => ?_)
     have hs26 : w25.cell? ⟨gb1025,0,none⟩=some (.int .u64 0):=(zs BK1025.out 0).trans rfl
     have hfs26:=zx BK1025.out 0
     have:=NB1008_1025.out
     have:=NB1025_1008.out
     have hs27 : w25.cell? ⟨gb1025,1,none⟩=some (.int .u32 0):=(zs BK1025.out 1).trans rfl
     have hfs27:=zx BK1025.out 1
     have:=NB1008_1025.out
     have:=NB1025_1008.out
     have hs29 : w25.cell? ⟨gb1025,2,none⟩=some (.slice none 0 0):=(zs BK1025.out 2).trans rfl
     have hfs29:=zx BK1025.out 2
     have:=NB1008_1025.out
     have:=NB1025_1008.out
     refine skip_ (w1 := ?_) (by rfl) rfl ?_ ?_
     rotate_left
     ·
      go_simp
      rfl
     have NEa_ : ∀ n_,(ad1017.add n_).block≠gb1025:=fun n_=>by rw [za];exact psalterylaw11_GainBack.away HO_0.out z91 x7_1 (of_eq_true p1018) (of_eq_true q1018) (by show 0 < 2;decide) (fun _ hk=>hk.2.2.2.2)
     refine hK.out _ _ ⟨((zr (p:=⟨gb1025,_,none⟩) NB1008_1025.out _).trans (((zr (p:=⟨gb1025,_,none⟩) NB1008_1025.out _).trans (((zr (p:=⟨gb1025,_,none⟩) NB1008_1025.out _).trans (hHeld.1)))))),((zr (p:=⟨gb1025,_,none⟩) NB1008_1025.out _).trans (((zr (p:=⟨gb1025,_,none⟩) NB1008_1025.out _).trans (((zr (p:=⟨gb1025,_,none⟩) NB1008_1025.out _).trans (hHeld.2.1)))))),((zr (p:=⟨gb1025,_,none⟩) NB1008_1025.out _).trans (((zr (p:=⟨gb1025,_,none⟩) NB1008_1025.out _).trans (((zr (p:=⟨gb1025,_,none⟩) NB1008_1025.out _).trans (hHeld.2.2.1)))))),((zr (p:=⟨gb1025,_,none⟩) (by exact NEa_ _) _).trans (((zr (p:=⟨gb1025,_,none⟩) (by exact NEa_ _) _).trans (((zr (p:=⟨gb1025,_,none⟩) (by exact NEa_ _) _).trans (hHeld.2.2.2.1)))))),((zr (p:=⟨gb1025,_,none⟩) (by exact NEa_ _) _).trans (((zr (p:=⟨gb1025,_,none⟩) (by exact NEa_ _) _).trans (((zr (p:=⟨gb1025,_,none⟩) (by exact NEa_ _) _).trans (hHeld.2.2.2.2.1)))))),((zr (p:=⟨gb1025,_,none⟩) (by exact NEa_ _) _).trans (((zr (p:=⟨gb1025,_,none⟩) (by exact NEa_ _) _).trans (((zr (p:=⟨gb1025,_,none⟩) (by exact NEa_ _) _).trans (hHeld.2.2.2.2.2.1)))))),((zr (p:=⟨gb1025,_,none⟩) (by exact NEa_ _) _).trans (((zr (p:=⟨gb1025,_,none⟩) (by exact NEa_ _) _).trans (((zr (p:=⟨gb1025,_,none⟩) (by exact NEa_ _) _).trans (hHeld.2.2.2.2.2.2))))))⟩ (fun hHeld => ?_)
     clear hK K
     refine yp 18 9 HT_ ?_
     refine done_ (done_of HT_.out (by kernel_rfl)) ?_
     obtain ⟨w30,hw_⟩ : ∃ x,x=(((w25.setCell ⟨gb1025,0,none⟩ (.int .u64 t1019)).setCell ⟨gb1025,1,none⟩ (.int .u32 t1020)).setCell ⟨gb1025,2,none⟩ (.slice Ao28 t1021.length co28)):=⟨_,rfl⟩
     rw [← hw_]
     replace HO_0 : Aside0 (Kd.V k91 91 w30 w.heap.size (fun k_=>(P0_ k_∨w.heap.size≤k_)∧some k_≠(.slice Ao11 y1009.length co11 : Value).ownBlock∧some k_≠(u6 : Value).ownBlock∧k_≠gb1008∧k_≠gb1025) (.slice (some ad1017) l0.length c0) l0):=⟨by rw [hw_];exact (yV0 HO_0)⟩
     replace HO_4 : Aside0 (Kd.R (Kd.int .i64) 3 w30 w.heap.size (fun k_=>(w.heap.size≤k_)) (.slice Ao11 y1009.length co11) y1009):=⟨by rw [hw_];exact (yR1 HO_4 BK1025)⟩
     replace HO_5 : Aside0 (Kd.V (Kd.int .i64) 3 w30 w.heap.size (fun k_=>(P0_ k_∨w.heap.size≤k_)∧some k_≠(u6 : Value).ownBlock∧k_≠gb1008∧k_≠gb1025) (.slice Ao21 x5_1.length co21) x5_1):=⟨by rw [hw_];exact (yV0 HO_5)⟩
     replace HO_6 : Aside0 (Kd.N k91 91 w30 w.heap.size (fun k_=>(P0_ k_∨w.heap.size≤k_)∧some k_≠(.slice Ao11 y1009.length co11 : Value).ownBlock∧k_≠gb1008∧k_≠gb1025) u6 x6_1):=⟨by rw [hw_];exact (yN0 HO_6)⟩
     replace HO_1009002 : Aside0 (Kd.V (Kd.int .u8) 5 w30 w.heap.size (fun k_=>(P0_ k_∨w.heap.size≤k_)∧some k_≠(.slice Ao11 y1009.length co11 : Value).ownBlock∧some k_≠(u6 : Value).ownBlock∧k_≠gb1008∧k_≠gb1025) (.slice Ao20 x1009002_1.length co20) x1009002_1):=⟨by rw [hw_];exact (yV0 HO_1009002)⟩
     replace HL1017_0 : Aside0 (Kd.V (Kd.int .i64) 3 w30 w.heap.size (fun k_=>(P0_ k_∨w.heap.size≤k_)∧some k_≠(.slice Ao11 y1009.length co11 : Value).ownBlock∧some k_≠(u6 : Value).ownBlock∧k_≠gb1008∧k_≠gb1025) (.slice A1017_0 ((rd_T91 l0 x7_1).f0).length c1017_0) ((rd_T91 l0 x7_1).f0)):=⟨by rw [hw_];exact (yV0 HL1017_0)⟩
     replace HL1018_0 : Aside0 (Kd.V (Kd.int .i64) 3 w30 w.heap.size (fun k_=>(P0_ k_∨w.heap.size≤k_)∧some k_≠(.slice Ao11 y1009.length co11 : Value).ownBlock∧some k_≠(u6 : Value).ownBlock∧k_≠gb1008∧k_≠gb1025) (.slice A1017_0 ((rd_T91 l0 x7_1).f0).length c1017_0) ((rd_T91 l0 x7_1).f0)):=⟨by rw [hw_];exact (yV0 HL1018_0)⟩
     replace HO1023 : Aside0 (Kd.V (Kd.int .u8) 5 w30 w.heap.size (fun k_=>(P0_ k_∨w.heap.size≤k_)∧some k_≠(.slice Ao11 y1009.length co11 : Value).ownBlock∧some k_≠(u6 : Value).ownBlock∧k_≠gb1008∧k_≠gb1025) (.slice Ao28 t1021.length co28) t1021):=⟨by rw [hw_];exact (yV0 HO1023)⟩
     replace BK1008 : Aside0 (w30.heap[gb1008]? = some (.cells #[.int .u64 x1009000_1, .int .u32 x1009001_1, .slice Ao20 x1009002_1.length co20] 26 (0,0))):=⟨by rw [hw_];exact (yk BK1008)⟩
     replace BK1025 : Aside0 (w30.heap[gb1025]? = some (.cells #[.int .u64 t1019, .int .u32 t1020, .slice Ao28 t1021.length co28] 26 (0,0))):=⟨by rw [hw_];exact (ykp BK1025)⟩
     replace HB : Aside0 (Below w.heap.size w w30):=⟨by rw [hw_];exact (yhb)⟩
     clear hw_
     have p1026 : 0≤(x7_1 : Int):=yt
     have q1026 : x7_1 < (l0.length : Int):=yt
     obtain ⟨ad1026,A1026_0,c1026_0,e1026,hx1026_0,hx1026_1,hl1026_0,hi1026_0⟩:=at_T91 (Kd.V_reads' HO_0.out).2.2 x7_1 p1026 q1026
     obtain rfl : ad1017=ad1026:=(by injection e1026)
     obtain ⟨ce1026,hce1026,hMe1026,hcc1026⟩:=Kd.V_get HO_0.out z91 x7_1 p1026 (by first|exact q1026|exact yt|(have e_:=(Kd.V_reads' HO_0.out).1;omega))
     obtain ⟨ua1026_0,uc1026_0,rfl,ul1026_0,ge1026_0⟩:=k91_openF hMe1026
     have hv1026_0:=hcc1026 0 _ rfl
     rw [Nat.add_zero] at hv1026_0
     replace hv1026_0:=Option.some.inj (hv1026_0.symm.trans hx1026_0)
     injection hv1026_0 with hva_ hvn_ hvc_
     rw [hva_] at ge1026_0
     rw [hvc_] at ul1026_0
     have HL1026_0:=zm (show Kd.V (Kd.int .i64) 3 _ w.heap.size _ _ ((rd_T91 l0 x7_1).f0) from Kd.V_mk ul1026_0 ge1026_0)
     clear hva_ hvn_ hvc_ ge1026_0 ul1026_0;clear hcc1026 hce1026;have HR1026_0:=zm hi1026_0;have HC1026_0:=zm hl1026_0;clear hi1026_0 hl1026_0
     replace p1026:=eq_true p1026
     replace q1026:=eq_true q1026
     try go_wp2_with (first|((with_reducible refine gate_builtin (b:=.append) (xs := #[.tmp 46, .tmp 51]) rfl ?_);at_builtin;refine Kd.N_append k91 (w0:=w) w.heap.size rfl (.tmp 46) (.tmp 51) 89 91 (.agg #[(.slice none 0 0),(.bool false)]) 32 rfl Try.underlying89 info91 rfl (by decide) (by omega) u6 x6_1 (⟨(rd_T91 l0 x7_1).f0,(rd_T91 l0 x7_1).f1⟩ : S91) [.slice A1026_0 ((rd_T91 l0 x7_1).f0).length c1026_0, .bool ((rd_T91 l0 x7_1).f1)] (fun k_=>(P0_ k_∨w.heap.size≤k_)∧some k_≠(.slice Ao11 y1009.length co11 : Value).ownBlock∧k_≠gb1008∧k_≠gb1025) (fun k_=>((fun k_=>(P0_ k_∨w.heap.size≤k_)∧some k_≠(.slice Ao11 y1009.length co11 : Value).ownBlock∧k_≠gb1008∧k_≠gb1025)) k_∧some k_≠(u6 : Value).ownBlock) rfl rfl ?aP (fun _ hk=>hk) ?aF ?aO ?aB ?aS ?aL ?_;(case aP=>exact (k91_mkF _ _ (⟨(rd_T91 l0 x7_1).f0,(rd_T91 l0 x7_1).f1⟩ : S91) (Kd.V_reads' (zy (ok' := (fun k_=>((fun k_=>(P0_ k_∨w.heap.size≤k_)∧some k_≠(.slice Ao11 y1009.length co11 : Value).ownBlock∧k_≠gb1008∧k_≠gb1025)) k_∧some k_≠(u6 : Value).ownBlock)) (HL1026_0.out) (fun k_ hk=>⟨⟨hk.1,⟨hk.2.1,⟨hk.2.2.2.1,hk.2.2.2.2⟩⟩⟩,hk.2.2.1⟩))).2.1 (Kd.V_F (zy (ok' := (fun k_=>((fun k_=>(P0_ k_∨w.heap.size≤k_)∧some k_≠(.slice Ao11 y1009.length co11 : Value).ownBlock∧k_≠gb1008∧k_≠gb1025)) k_∧some k_≠(u6 : Value).ownBlock)) (HL1026_0.out) (fun k_ hk=>⟨⟨hk.1,⟨hk.2.1,⟨hk.2.2.2.1,hk.2.2.2.2⟩⟩⟩,hk.2.2.1⟩)))));(case aB=>exact yhb);(case aF=>exact (fun k_ hk=>⟨(.inr (Nat.le_trans (zE yhb) hk)),Kd.fresh' (Kd.R_lt (yr HO_4)) k_ hk,Kd.freshB (yk BK1008) k_ hk,Kd.freshB (yk BK1025) k_ hk⟩));(case aO=>exact (yr HO_6));(case aS=>exact (zE yhb));(case aL=>have:=LMc19.out;omega);intro v1028 w31 ho hb hg hat;rw [← Ny1027.out] at ho;replace HO_0:=zm (Kd.V_afterv (ok:=(fun k_=>(P0_ k_∨w.heap.size≤k_)∧some k_≠(.slice Ao11 y1009.length co11 : Value).ownBlock∧k_≠gb1008∧k_≠gb1025)) (yV0 HO_0) hg hat);replace HO_4:=zm (Kd.R_over' (yr HO_4) (Kd.N_typed (yr HO_6)) (by decide) hg);replace HO_5:=zm (Kd.V_afterv (ok:=(fun k_=>(P0_ k_∨w.heap.size≤k_)∧k_≠gb1008∧k_≠gb1025)) (yV0 HO_5) hg hat);replace HO_1009002:=zm (Kd.V_afterv (ok:=(fun k_=>(P0_ k_∨w.heap.size≤k_)∧some k_≠(.slice Ao11 y1009.length co11 : Value).ownBlock∧k_≠gb1008∧k_≠gb1025)) (yV0 HO_1009002) hg hat);replace BK1008:=zm (blk_grown (yk BK1008) hg (Kd.N_ne HO_6.out BK1008.out (by decide)));replace HL1017_0:=zm (Kd.V_afterv (ok:=(fun k_=>(P0_ k_∨w.heap.size≤k_)∧some k_≠(.slice Ao11 y1009.length co11 : Value).ownBlock∧k_≠gb1008∧k_≠gb1025)) (yV0 HL1017_0) hg hat);replace HL1018_0:=zm (Kd.V_afterv (ok:=(fun k_=>(P0_ k_∨w.heap.size≤k_)∧some k_≠(.slice Ao11 y1009.length co11 : Value).ownBlock∧k_≠gb1008∧k_≠gb1025)) (yV0 HL1018_0) hg hat);replace HO1023:=zm (Kd.V_afterv (ok:=(fun k_=>(P0_ k_∨w.heap.size≤k_)∧some k_≠(.slice Ao11 y1009.length co11 : Value).ownBlock∧k_≠gb1008∧k_≠gb1025)) (yV0 HO1023) hg hat);replace BK1025:=zm (blk_grown (yk BK1025) hg (Kd.N_ne HO_6.out BK1025.out (by decide)));replace HL1026_0:=zm (Kd.V_afterv (ok:=(fun k_=>(P0_ k_∨w.heap.size≤k_)∧some k_≠(.slice Ao11 y1009.length co11 : Value).ownBlock∧k_≠gb1008∧k_≠gb1025)) (yV0 HL1026_0) hg hat);replace HB:=zm (hb);have HO1029:=zm (ho);clear HO_6;clear ho hb hg hat;have p1030 : 0≤(x7_1 : Int):=yt;have q1030 : x7_1 < (l0.length : Int):=yt;obtain ⟨ad1030,A1030_0,c1030_0,e1030,hx1030_0,hx1030_1,hl1030_0,hi1030_0⟩:=at_T91 (Kd.V_reads' HO_0.out).2.2 x7_1 p1030 q1030;obtain rfl : ad1017=ad1030:=(by injection e1030);obtain ⟨ce1030,hce1030,hMe1030,hcc1030⟩:=Kd.V_get HO_0.out z91 x7_1 p1030 (by first|exact q1030|exact yt|(have e_:=(Kd.V_reads' HO_0.out).1;omega));obtain ⟨ua1030_0,uc1030_0,rfl,ul1030_0,ge1030_0⟩:=k91_openF hMe1030;have hv1030_0:=hcc1030 0 _ rfl;rw [Nat.add_zero] at hv1030_0;replace hv1030_0:=Option.some.inj (hv1030_0.symm.trans hx1030_0);injection hv1030_0 with hva_ hvn_ hvc_;rw [hva_] at ge1030_0;rw [hvc_] at ul1030_0;have HL1030_0:=zm (show Kd.V (Kd.int .i64) 3 _ w.heap.size _ _ ((rd_T91 l0 x7_1).f0) from Kd.V_mk ul1030_0 ge1030_0);clear hva_ hvn_ hvc_ ge1030_0 ul1030_0;clear hcc1030 hce1030;have HR1030_0:=zm hi1030_0;have HC1030_0:=zm hl1030_0;clear hi1030_0 hl1030_0;replace p1030:=eq_true p1030;replace q1030:=eq_true q1030;have:=NB1025_1008.out;have:=NB1008_1025.out;obtain ⟨_,_,_,_,_,_⟩:=yc3 BK1025;obtain ⟨_,_,_,_,_,_⟩:=yc3 BK1008))
     go_roundg kj11
     case measure=>exact yom2 HK1 HJ11
     case rel=>exact ⟨((rd_T91 l0 x7_1).f0),(y1027),(wrap64 (x7_1+1)),(t1019),(t1020),(t1021),(.slice Ao28 t1021.length co28),yq,H',⟨yom2 HK1 HJ11⟩,⟨yV0 HO_0⟩,⟨yR1 HO_4 BK1008⟩,⟨yV0 HL1030_0⟩,⟨yN0 HO1029⟩,⟨yV0 HO1023⟩,⟨ykp BK1008⟩,⟨yhb⟩⟩
    ·
     rw [if_neg c18] at H
     have c18b0 : (t1024 == 0)=false:=beq_eq_false_iff_ne.mpr c18
     have c18b1 : (t1024 != 0)=true:=bne_iff_ne.mpr c18
     have H' := zm H
     clear H
     obtain ⟨Ao35,co35,eo35⟩:=Kd.V_slice HO_1009002.out
     subst eo35
     obtain ⟨Ao36,co36,eo36⟩:=Kd.V_slice HO_5.out
     subst eo36
     try go_wp2
     replace HO_0:=zm (zC HO_0.out)
     replace HO_4:=zm (zq HO_4.out)
     replace HO_5:=zm (zC HO_5.out)
     replace HO_6:=zm (Kd.N_drew HO_6.out)
     replace HO_1009002:=zm (zC HO_1009002.out)
     replace BK1008:=zm (zj BK1008.out)
     replace HB:=zm (zf HB.out)
     have p1017 : 0≤(x7_1 : Int):=yt
     have q1017 : x7_1 < (l0.length : Int):=yt
     obtain ⟨ad1017,A1017_0,c1017_0,e1017,hx1017_0,hx1017_1,hl1017_0,hi1017_0⟩:=at_T91 (Kd.V_reads' HO_0.out).2.2 x7_1 p1017 q1017
     cases e1017
     obtain ⟨ce1017,hce1017,hMe1017,hcc1017⟩:=Kd.V_get HO_0.out z91 x7_1 p1017 (by first|exact q1017|exact yt|(have e_:=(Kd.V_reads' HO_0.out).1;omega))
     obtain ⟨ua1017_0,uc1017_0,rfl,ul1017_0,ge1017_0⟩:=k91_openF hMe1017
     have hv1017_0:=hcc1017 0 _ rfl
     rw [Nat.add_zero] at hv1017_0
     replace hv1017_0:=Option.some.inj (hv1017_0.symm.trans hx1017_0)
     injection hv1017_0 with hva_ hvn_ hvc_
     rw [hva_] at ge1017_0
     rw [hvc_] at ul1017_0
     have HL1017_0:=zm (show Kd.V (Kd.int .i64) 3 _ w.heap.size _ _ ((rd_T91 l0 x7_1).f0) from Kd.V_mk ul1017_0 ge1017_0)
     clear hva_ hvn_ hvc_ ge1017_0 ul1017_0;clear hcc1017 hce1017;have HR1017_0:=zm hi1017_0;have HC1017_0:=zm hl1017_0;clear hi1017_0 hl1017_0
     replace p1017:=eq_true p1017
     replace q1017:=eq_true q1017
     have p1018 : 0≤(x7_1 : Int):=yt
     have q1018 : x7_1 < (l0.length : Int):=yt
     obtain ⟨ad1018,A1018_0,c1018_0,e1018,hx1018_0,hx1018_1,hl1018_0,hi1018_0⟩:=at_T91 (Kd.V_reads' HO_0.out).2.2 x7_1 p1018 q1018
     obtain rfl : ad1017=ad1018:=(by injection e1018)
     obtain ⟨ce1018,hce1018,hMe1018,hcc1018⟩:=Kd.V_get HO_0.out z91 x7_1 p1018 (by first|exact q1018|exact yt|(have e_:=(Kd.V_reads' HO_0.out).1;omega))
     obtain ⟨ua1018_0,uc1018_0,rfl,ul1018_0,ge1018_0⟩:=k91_openF hMe1018
     have hv1018_0:=hcc1018 0 _ rfl
     rw [Nat.add_zero] at hv1018_0
     replace hv1018_0:=Option.some.inj (hv1018_0.symm.trans hx1018_0)
     injection hv1018_0 with hva_ hvn_ hvc_
     rw [hva_] at ge1018_0
     rw [hvc_] at ul1018_0
     have HL1018_0:=zm (show Kd.V (Kd.int .i64) 3 _ w.heap.size _ _ ((rd_T91 l0 x7_1).f0) from Kd.V_mk ul1018_0 ge1018_0)
     clear hva_ hvn_ hvc_ ge1018_0 ul1018_0;clear hcc1018 hce1018;have HR1018_0:=zm hi1018_0;have HC1018_0:=zm hl1018_0;clear hi1018_0 hl1018_0
     replace p1018:=eq_true p1018
     replace q1018:=eq_true q1018
     have ea_:=Option.some.inj (hx1017_0.symm.trans hx1018_0)
     injection ea_ with ea_ en_ ec_
     subst ea_;subst ec_;clear en_
     refine yst (fun w' => w'.cell? ⟨gb1008,0,none⟩=some (.int .u64 x1009000_1)∧w'.cell? ⟨gb1008,1,none⟩=some (.int .u32 x1009001_1)∧w'.cell? ⟨gb1008,2,none⟩=some (.slice Ao35 x1009002_1.length co35)∧w'.cell? (ad1017.add ((x7_1).toNat * 2))=some (.slice A1017_0 ((rd_T91 l0 x7_1).f0).length c1017_0)∧w'.cell? ⟨(ad1017.add ((x7_1).toNat * 2)).block,(ad1017.add ((x7_1).toNat * 2)).off+1,none⟩=some (.bool ((rd_T91 l0 x7_1).f1))∧w'.cell? (ad1017.add ((x7_1).toNat * 2))=some (.slice A1017_0 ((rd_T91 l0 x7_1).f0).length c1017_0)∧w'.cell? ⟨(ad1017.add ((x7_1).toNat * 2)).block,(ad1017.add ((x7_1).toNat * 2)).off+1,none⟩=some (.bool ((rd_T91 l0 x7_1).f1))) [] 19 psalterylaw11_GainBack.tab8 psalterylaw11_GainBack.bits8 (fun hHeld HT_ HW_ => ?_)
     generalize wc.drew=w37 at HO_0 HO_4 HO_5 HO_6 HO_1009002 BK1008 HB HL1017_0 HL1018_0 HR1017_0 HR1018_0 hx1017_0 hx1017_1 hx1018_0 hx1018_1 hHeld ⊢
     refine yp 1 30 HT_ ?_
     refine yp 2 31 HT_ ?_
     refine yp 3 32 HT_ ?_
     refine yp 4 33 HT_ ?_
     refine yp 6 35 HT_ ?_
     refine yp 7 36 HT_ ?_
     refine yp 8 37 HT_ ?_
     refine yp 9 38 HT_ ?_
     refine yp 10 39 HT_ ?_
     refine yl 0 29 HT_ HW_ hHeld ?_
     refine yl 5 34 HT_ HW_ hHeld ?_
     refine yl 11 40 HT_ HW_ hHeld ?_
     refine join_ (σ:=Value × Nat) 2 #[true,true,true,true,true,true,true,true,true,true,true,true,true,true,true,true,true,false,false] (fun s_ => [(41, .tuple #[.agg #[.int .u64 t1019, .int .u32 t1020,s_.1], .int .i64 t1024]),(8, .pointer (some ⟨s_.2,0,none⟩)),(28, .tuple #[.agg #[.int .u64 t1019, .int .u32 t1020,s_.1], .int .i64 t1024]),(42, .agg #[.int .u64 t1019, .int .u32 t1020,s_.1]),(43, .int .i64 t1024)]) (fun s_ w' => (w'.cell? ⟨gb1008,0,none⟩=some (.int .u64 x1009000_1)∧w'.cell? ⟨gb1008,1,none⟩=some (.int .u32 x1009001_1)∧w'.cell? ⟨gb1008,2,none⟩=some (.slice Ao35 x1009002_1.length co35)∧w'.cell? (ad1017.add ((x7_1).toNat * 2))=some (.slice A1017_0 ((rd_T91 l0 x7_1).f0).length c1017_0)∧w'.cell? ⟨(ad1017.add ((x7_1).toNat * 2)).block,(ad1017.add ((x7_1).toNat * 2)).off+1,none⟩=some (.bool ((rd_T91 l0 x7_1).f1))∧w'.cell? (ad1017.add ((x7_1).toNat * 2))=some (.slice A1017_0 ((rd_T91 l0 x7_1).f0).length c1017_0)∧w'.cell? ⟨(ad1017.add ((x7_1).toNat * 2)).block,(ad1017.add ((x7_1).toNat * 2)).off+1,none⟩=some (.bool ((rd_T91 l0 x7_1).f1)))∧(Kd.V (Kd.int .i64) 3 w' w.heap.size (fun k_=>(P0_ k_∨w.heap.size≤k_)∧some k_≠(.slice Ao11 y1009.length co11 : Value).ownBlock∧some k_≠(u6 : Value).ownBlock∧k_≠gb1008∧k_≠s_.2) (.slice A1017_0 ((rd_T91 l0 x7_1).f0).length c1017_0) ((rd_T91 l0 x7_1).f0))∧(Kd.V (Kd.int .i64) 3 w' w.heap.size (fun k_=>(P0_ k_∨w.heap.size≤k_)∧some k_≠(.slice Ao11 y1009.length co11 : Value).ownBlock∧some k_≠(u6 : Value).ownBlock∧k_≠gb1008∧k_≠s_.2) (.slice A1017_0 ((rd_T91 l0 x7_1).f0).length c1017_0) ((rd_T91 l0 x7_1).f0))∧(Kd.V (Kd.int .u8) 5 w' w.heap.size (fun k_=>(P0_ k_∨w.heap.size≤k_)∧some k_≠(.slice Ao11 y1009.length co11 : Value).ownBlock∧some k_≠(u6 : Value).ownBlock∧k_≠gb1008∧k_≠s_.2) s_.1 t1021)∧(Kd.V k91 91 w' w.heap.size (fun k_=>(P0_ k_∨w.heap.size≤k_)∧some k_≠(.slice Ao11 y1009.length co11 : Value).ownBlock∧some k_≠(u6 : Value).ownBlock∧k_≠gb1008∧k_≠s_.2) (.slice (some ad1017) l0.length c0) l0)∧(Kd.V (Kd.int .u8) 5 w' w.heap.size (fun k_=>(P0_ k_∨w.heap.size≤k_)∧some k_≠(.slice Ao11 y1009.length co11 : Value).ownBlock∧some k_≠(u6 : Value).ownBlock∧k_≠gb1008∧k_≠s_.2) (.slice Ao35 x1009002_1.length co35) x1009002_1)∧(Kd.R (Kd.int .i64) 3 w' w.heap.size (fun k_=>(w.heap.size≤k_)) (.slice Ao11 y1009.length co11) y1009)∧(Kd.V (Kd.int .i64) 3 w' w.heap.size (fun k_=>(P0_ k_∨w.heap.size≤k_)∧some k_≠(u6 : Value).ownBlock∧k_≠gb1008∧k_≠s_.2) (.slice Ao36 x5_1.length co36) x5_1)∧(Kd.N k91 91 w' w.heap.size (fun k_=>(P0_ k_∨w.heap.size≤k_)∧some k_≠(.slice Ao11 y1009.length co11 : Value).ownBlock∧k_≠gb1008∧k_≠s_.2) u6 x6_1)∧(w'.heap[gb1008]? = some (.cells #[.int .u64 x1009000_1, .int .u32 x1009001_1, .slice Ao35 x1009002_1.length co35] 26 (0,0)))∧(w'.heap[s_.2]? = some (.cells #[.int .u64 0, .int .u32 0, .slice none 0 0] 26 (0,0)))∧(w.heap.size≤s_.2)∧(w.heap.size≤s_.2)∧(gb1008≠s_.2)∧(s_.2≠gb1008)∧(Below w.heap.size w w')) ?_ ?_
     rotate_left
     ·
      intro hCont
      refine two_ (i:=12) (j:=16) (Ni:=some 41) (Nj:=some 8) #[true,true,true,true,true,true,true,true,true,true,true,true,true,false,false,false,false,false,false] #[true,true,true,true,true,true,true,true,true,true,true,true,false,false,false,false,true,false,false] rfl rfl rfl rfl (two_of HT_.out (by kernel_rfl)) (by decide) (by decide) (fun K hK => ?_) (fun K hK => ?_)
      ·
       skip
       refine ygs Try.func43 #[.agg #[.int .u64 x1009000_1, .int .u32 x1009001_1, .slice Ao35 x1009002_1.length co35], .slice A1017_0 ((rd_T91 l0 x7_1).f0).length c1017_0, .slice Ao36 x5_1.length co36, .bool ((rd_T91 l0 x7_1).f1)] ?_
       with_reducible refine (gain_Put.calls kj11 x1009000_1 x1009001_1 (fun k_=>((P0_ k_∨w.heap.size≤k_)∧(some k_≠(.slice Ao11 y1009.length co11 : Value).ownBlock∧(some k_≠(u6 : Value).ownBlock∧k_≠gb1008)))) _ _ x1009002_1 _ _ ((rd_T91 l0 x7_1).f0) _ _ x5_1 ((rd_T91 l0 x7_1).f1) t1019 t1020 t1021 t1024 _ ?side1 ?side2 ?side3 ?side4 ?side5 A17.out).mono ?_
       (case side1=>exact HO_1009002.out)
       (case side2=>exact yce (yrc HR1017_0))
       (case side3=>exact HC1017_0.out)
       (case side4=>exact yce (Kd.V_reads' HO_5.out).2.2)
       (case side5=>exact (Kd.V_reads' HO_5.out).2.1)
       rintro e w38 ⟨v1022,rfl,ho0,hb⟩
       have HS3_:=yhs hb hHeld.2.2.2.1
       have HS4_:=yhs hb hHeld.2.2.2.2.1
       have HS5_:=yhs hb hHeld.2.2.2.2.2.1
       have HS6_:=yhs hb hHeld.2.2.2.2.2.2
       refine ⟨_,rfl, ?_⟩
       replace HO_0:=yVb HO_0 hb
       replace HO_5:=yVb HO_5 hb
       replace HO_1009002:=yVb HO_1009002 hb
       replace HL1017_0:=yVb HL1017_0 hb
       replace HL1018_0:=yVb HL1018_0 hb
       have HO1023:=yho (fun k_=>(P0_ k_∨w.heap.size≤k_)∧some k_≠(.slice Ao11 y1009.length co11 : Value).ownBlock∧some k_≠(u6 : Value).ownBlock∧k_≠gb1008) ho0 (fun k_ hk_=>⟨Or.elim hk_ (fun hs_=>hs_.1) (fun hn_=>(.inr (Nat.le_trans (zE yhb) hn_))),yoR HO_4 hk_,yoN HO_6 hk_,yoB BK1008 hk_⟩)
       replace HO_4:=yRb HO_4 hb
       replace HO_6:=yNb HO_6 hb
       replace BK1008:=ybb BK1008 hb
       replace HR1017_0:=yCb HR1017_0 hb
       replace HR1018_0:=yCb HR1018_0 hb
       replace HB:=ybs hb
       (try clear hb)
       (try clear ho0)
       refine hK.out _ _ yH (fun hHeld => ?_)
       clear hK K
       refine ym (some 41) ?_
       refine yp 13 28 HT_ ?_
       refine yp 14 42 HT_ ?_
       refine yp 15 43 HT_ ?_
       refine yw 16 8 HT_ (fun K hK => ?_)
       refine box_step ?hg (N:=8) ?hd (cs := #[.int .u64 0, .int .u32 0, .slice none 0 0]) (t:=26) ?hr ?_;(case hd=>rfl);(case hg=>rfl);(case hr=>first|(go_simp;done)|(go_simp;rfl))
       intro gb1025 hg w39 hbox hb
       have HS3_:=yhs hb hHeld.2.2.2.1
       have HS4_:=yhs hb hHeld.2.2.2.2.1
       have HS5_:=yhs hb hHeld.2.2.2.2.2.1
       have HS6_:=yhs hb hHeld.2.2.2.2.2.2
       replace HO_0:=yVe HO_0 hg hb
       replace HO_4:=yRb HO_4 hb
       replace HO_5:=yVe HO_5 hg hb
       replace HO_6:=zm (Kd.N_below (Kd.N_elderB (yr HO_6) gb1025 (Nat.le_of_eq hg.symm)) hb)
       replace HO_1009002:=yVe HO_1009002 hg hb
       replace HL1017_0:=yVe HL1017_0 hg hb
       replace HL1018_0:=yVe HL1018_0 hg hb
       replace HO1023:=yVe HO1023 hg hb
       replace HR1017_0:=yCb HR1017_0 hb
       replace HR1018_0:=yCb HR1018_0 hb
       have BK1025:=zm (hbox)
       have GW1025:=ygw hg
       have GE1025:=ygw hg
       replace HB:=ybs hb
       have NB1008_1025:=ynl BK1008 hg
       have NB1025_1008:=yng BK1008 hg
       replace BK1008:=ybb BK1008 hb
       clear hb hbox hg
       refine hK.out _ _ yH (fun hHeld => ?_)
       clear hK K
       refine ym (some 8) ?_
       exact norm_ (by simp only [putAll,Act.put,List.setIfInBounds_toArray,List.set_cons_zero,List.set_cons_succ]) (hCont (v1022,gb1025) _ ⟨hHeld,(yV0 HL1017_0),(yV0 HL1018_0),(yV0 HO1023),(yV0 HO_0),(yV0 HO_1009002),(yr HO_4),(yV0 HO_5),(yN0 HO_6),(yk BK1008),(yk BK1025),GW1025.out,GE1025.out,NB1008_1025.out,NB1025_1008.out,yhb⟩)
      ·
       skip
       refine box_step ?hg (N:=8) ?hd (cs := #[.int .u64 0, .int .u32 0, .slice none 0 0]) (t:=26) ?hr ?_;(case hd=>rfl);(case hg=>rfl);(case hr=>first|(go_simp;done)|(go_simp;rfl))
       intro gb1025 hg w38 hbox hb
       have HS3_:=yhs hb hHeld.2.2.2.1
       have HS4_:=yhs hb hHeld.2.2.2.2.1
       have HS5_:=yhs hb hHeld.2.2.2.2.2.1
       have HS6_:=yhs hb hHeld.2.2.2.2.2.2
       replace HO_0:=yVe HO_0 hg hb
       replace HO_4:=yRb HO_4 hb
       replace HO_5:=yVe HO_5 hg hb
       replace HO_6:=zm (Kd.N_below (Kd.N_elderB (yr HO_6) gb1025 (Nat.le_of_eq hg.symm)) hb)
       replace HO_1009002:=yVe HO_1009002 hg hb
       replace HL1017_0:=yVe HL1017_0 hg hb
       replace HL1018_0:=yVe HL1018_0 hg hb
       replace HR1017_0:=yCb HR1017_0 hb
       replace HR1018_0:=yCb HR1018_0 hb
       have BK1025:=zm (hbox)
       have GW1025:=ygw hg
       have GE1025:=ygw hg
       replace HB:=ybs hb
       have NB1008_1025:=ynl BK1008 hg
       have NB1025_1008:=yng BK1008 hg
       replace BK1008:=ybb BK1008 hb
       clear hb hbox hg
       refine hK.out _ _ yH (fun hHeld => ?_)
       clear hK K
       refine ym (some 8) ?_
       refine yw 12 41 HT_ (fun K hK => ?_)
       refine ygs Try.func43 #[.agg #[.int .u64 x1009000_1, .int .u32 x1009001_1, .slice Ao35 x1009002_1.length co35], .slice A1017_0 ((rd_T91 l0 x7_1).f0).length c1017_0, .slice Ao36 x5_1.length co36, .bool ((rd_T91 l0 x7_1).f1)] ?_
       with_reducible refine (gain_Put.calls kj11 x1009000_1 x1009001_1 (fun k_=>(((P0_ k_∨w.heap.size≤k_)∧(some k_≠(.slice Ao11 y1009.length co11 : Value).ownBlock∧(some k_≠(u6 : Value).ownBlock∧k_≠gb1008)))∧k_≠gb1025)) _ _ x1009002_1 _ _ ((rd_T91 l0 x7_1).f0) _ _ x5_1 ((rd_T91 l0 x7_1).f1) t1019 t1020 t1021 t1024 _ ?side1 ?side2 ?side3 ?side4 ?side5 A17.out).mono ?_
       (case side1=>exact HO_1009002.out)
       (case side2=>exact yce (yrc HR1017_0))
       (case side3=>exact HC1017_0.out)
       (case side4=>exact yce (Kd.V_reads' HO_5.out).2.2)
       (case side5=>exact (Kd.V_reads' HO_5.out).2.1)
       rintro e w39 ⟨v1022,rfl,ho0,hb⟩
       have HS3_:=yhs hb hHeld.2.2.2.1
       have HS4_:=yhs hb hHeld.2.2.2.2.1
       have HS5_:=yhs hb hHeld.2.2.2.2.2.1
       have HS6_:=yhs hb hHeld.2.2.2.2.2.2
       refine ⟨_,rfl, ?_⟩
       replace HO_0:=yVb HO_0 hb
       replace HO_5:=yVb HO_5 hb
       replace HO_1009002:=yVb HO_1009002 hb
       replace HL1017_0:=yVb HL1017_0 hb
       replace HL1018_0:=yVb HL1018_0 hb
       have HO1023:=yho (fun k_=>(P0_ k_∨w.heap.size≤k_)∧some k_≠(.slice Ao11 y1009.length co11 : Value).ownBlock∧some k_≠(u6 : Value).ownBlock∧k_≠gb1008∧k_≠gb1025) ho0 (fun k_ hk_=>⟨Or.elim hk_ (fun hs_=>hs_.1.1) (fun hn_=>(.inr (Nat.le_trans (zE yhb) hn_))),yoR HO_4 hk_,yoN HO_6 hk_,yoB BK1008 hk_,yoB BK1025 hk_⟩)
       replace HO_4:=yRb HO_4 hb
       replace HO_6:=yNb HO_6 hb
       replace BK1008:=ybb BK1008 hb
       replace HR1017_0:=yCb HR1017_0 hb
       replace HR1018_0:=yCb HR1018_0 hb
       replace BK1025:=ybb BK1025 hb
       replace HB:=ybs hb
       (try clear hb)
       (try clear ho0)
       refine hK.out _ _ yH (fun hHeld => ?_)
       clear hK K
       refine ym (some 41) ?_
       refine yp 13 28 HT_ ?_
       refine yp 14 42 HT_ ?_
       refine yp 15 43 HT_ ?_
       exact norm_ (by simp only [putAll,Act.put,List.setIfInBounds_toArray,List.set_cons_zero,List.set_cons_succ]) (hCont (v1022,gb1025) _ ⟨hHeld,(yV0 HL1017_0),(yV0 HL1018_0),(yr HO1023),(yV0 HO_0),(yV0 HO_1009002),(yr HO_4),(yV0 HO_5),(yN0 HO_6),(yk BK1008),(yk BK1025),GW1025.out,GE1025.out,NB1008_1025.out,NB1025_1008.out,yhb⟩)
     rintro ⟨v1022,gb1025⟩ w40 ⟨hS_,h0_,h1_,h2_,h3_,h4_,h5_,h6_,h7_,h8_,h9_,h10_,h11_,h12_,h13_,h14_⟩
     have n0_ : Aside0 (Kd.V (Kd.int .i64) 3 w40 w.heap.size (fun k_=>(P0_ k_∨w.heap.size≤k_)∧some k_≠(.slice Ao11 y1009.length co11 : Value).ownBlock∧some k_≠(u6 : Value).ownBlock∧k_≠gb1008∧k_≠gb1025) (.slice A1017_0 ((rd_T91 l0 x7_1).f0).length c1017_0) ((rd_T91 l0 x7_1).f0)):=⟨h0_⟩
     have n1_ : Aside0 (Kd.V (Kd.int .i64) 3 w40 w.heap.size (fun k_=>(P0_ k_∨w.heap.size≤k_)∧some k_≠(.slice Ao11 y1009.length co11 : Value).ownBlock∧some k_≠(u6 : Value).ownBlock∧k_≠gb1008∧k_≠gb1025) (.slice A1017_0 ((rd_T91 l0 x7_1).f0).length c1017_0) ((rd_T91 l0 x7_1).f0)):=⟨h1_⟩
     have n2_ : Aside0 (Kd.V (Kd.int .u8) 5 w40 w.heap.size (fun k_=>(P0_ k_∨w.heap.size≤k_)∧some k_≠(.slice Ao11 y1009.length co11 : Value).ownBlock∧some k_≠(u6 : Value).ownBlock∧k_≠gb1008∧k_≠gb1025) v1022 t1021):=⟨h2_⟩
     have n3_ : Aside0 (Kd.V k91 91 w40 w.heap.size (fun k_=>(P0_ k_∨w.heap.size≤k_)∧some k_≠(.slice Ao11 y1009.length co11 : Value).ownBlock∧some k_≠(u6 : Value).ownBlock∧k_≠gb1008∧k_≠gb1025) (.slice (some ad1017) l0.length c0) l0):=⟨h3_⟩
     have n4_ : Aside0 (Kd.V (Kd.int .u8) 5 w40 w.heap.size (fun k_=>(P0_ k_∨w.heap.size≤k_)∧some k_≠(.slice Ao11 y1009.length co11 : Value).ownBlock∧some k_≠(u6 : Value).ownBlock∧k_≠gb1008∧k_≠gb1025) (.slice Ao35 x1009002_1.length co35) x1009002_1):=⟨h4_⟩
     have n5_ : Aside0 (Kd.R (Kd.int .i64) 3 w40 w.heap.size (fun k_=>(w.heap.size≤k_)) (.slice Ao11 y1009.length co11) y1009):=⟨h5_⟩
     have n6_ : Aside0 (Kd.V (Kd.int .i64) 3 w40 w.heap.size (fun k_=>(P0_ k_∨w.heap.size≤k_)∧some k_≠(u6 : Value).ownBlock∧k_≠gb1008∧k_≠gb1025) (.slice Ao36 x5_1.length co36) x5_1):=⟨h6_⟩
     have n7_ : Aside0 (Kd.N k91 91 w40 w.heap.size (fun k_=>(P0_ k_∨w.heap.size≤k_)∧some k_≠(.slice Ao11 y1009.length co11 : Value).ownBlock∧k_≠gb1008∧k_≠gb1025) u6 x6_1):=⟨h7_⟩
     have n8_ : Aside0 (w40.heap[gb1008]? = some (.cells #[.int .u64 x1009000_1, .int .u32 x1009001_1, .slice Ao35 x1009002_1.length co35] 26 (0,0))):=⟨h8_⟩
     have n9_ : Aside0 (w40.heap[gb1025]? = some (.cells #[.int .u64 0, .int .u32 0, .slice none 0 0] 26 (0,0))):=⟨h9_⟩
     have n10_ : Aside0 (w.heap.size≤gb1025):=⟨h10_⟩
     have n11_ : Aside0 (w.heap.size≤gb1025):=⟨h11_⟩
     have n12_ : Aside0 (gb1008≠gb1025):=⟨h12_⟩
     have n13_ : Aside0 (gb1025≠gb1008):=⟨h13_⟩
     have n14_ : Aside0 (Below w.heap.size w w40):=⟨h14_⟩
     clear HO_0;clear HO_4;clear HO_5;clear HO_6;clear HO_1009002;clear BK1008;clear HB;clear h0_ h1_ h2_ h3_ h4_ h5_ h6_ h7_ h8_ h9_ h10_ h11_ h12_ h13_ h14_;have HL1017_0:=n0_;have HL1018_0:=n1_;have HO1023:=n2_;have HO_0:=n3_;have HO_1009002:=n4_;have HO_4:=n5_;have HO_5:=n6_;have HO_6:=n7_;have BK1008:=n8_;have BK1025:=n9_;have GW1025:=n10_;have GE1025:=n11_;have NB1008_1025:=n12_;have NB1025_1008:=n13_;have HB:=n14_;clear n0_ n1_ n2_ n3_ n4_ n5_ n6_ n7_ n8_ n9_ n10_ n11_ n12_ n13_ n14_
     have hHeld : w40.cell? ⟨gb1008,0,none⟩=some (.int .u64 x1009000_1)∧w40.cell? ⟨gb1008,1,none⟩=some (.int .u32 x1009001_1)∧w40.cell? ⟨gb1008,2,none⟩=some (.slice Ao35 x1009002_1.length co35)∧w40.cell? (ad1017.add ((x7_1).toNat * 2))=some (.slice A1017_0 ((rd_T91 l0 x7_1).f0).length c1017_0)∧w40.cell? ⟨(ad1017.add ((x7_1).toNat * 2)).block,(ad1017.add ((x7_1).toNat * 2)).off+1,none⟩=some (.bool ((rd_T91 l0 x7_1).f1))∧w40.cell? (ad1017.add ((x7_1).toNat * 2))=some (.slice A1017_0 ((rd_T91 l0 x7_1).f0).length c1017_0)∧w40.cell? ⟨(ad1017.add ((x7_1).toNat * 2)).block,(ad1017.add ((x7_1).toNat * 2)).off+1,none⟩=some (.bool ((rd_T91 l0 x7_1).f1)):=hS_
     obtain ⟨Ao43,co43,eo43⟩:=Kd.V_slice HO1023.out
     (first|subst eo43|(injection eo43 with f1_ f2_ f3_;have f4_:=f1_.symm;have f5_:=f3_.symm;clear f1_ f2_ f3_;subst f4_;subst f5_))
     refine norm_ (a' := ?_) ?_ ?_
     rotate_left
     ·
      simp only [putAll,Act.put,List.setIfInBounds_toArray,List.set_cons_zero,List.set_cons_succ]
      rfl
     refine yv 17 HT_ (fun K hK => ?_)
     have hs41 : w40.cell? ⟨gb1025,0,none⟩=some (.int .u64 0):=(zs BK1025.out 0).trans rfl
     have hfs41:=zx BK1025.out 0
     have:=NB1008_1025.out
     have:=NB1025_1008.out
     have hs42 : w40.cell? ⟨gb1025,1,none⟩=some (.int .u32 0):=(zs BK1025.out 1).trans rfl
     have hfs42:=zx BK1025.out 1
     have:=NB1008_1025.out
     have:=NB1025_1008.out
     have hs44 : w40.cell? ⟨gb1025,2,none⟩=some (.slice none 0 0):=(zs BK1025.out 2).trans rfl
     have hfs44:=zx BK1025.out 2
     have:=NB1008_1025.out
     have:=NB1025_1008.out
     refine skip_ (w1 := ?_) (by rfl) rfl ?_ ?_
     rotate_left
     ·
      go_simp
      rfl
     have NEa_ : ∀ n_,(ad1017.add n_).block≠gb1025:=fun n_=>by rw [za];exact psalterylaw11_GainBack.away HO_0.out z91 x7_1 (of_eq_true p1018) (of_eq_true q1018) (by show 0 < 2;decide) (fun _ hk=>hk.2.2.2.2)
     refine hK.out _ _ ⟨((zr (p:=⟨gb1025,_,none⟩) NB1008_1025.out _).trans (((zr (p:=⟨gb1025,_,none⟩) NB1008_1025.out _).trans (((zr (p:=⟨gb1025,_,none⟩) NB1008_1025.out _).trans (hHeld.1)))))),((zr (p:=⟨gb1025,_,none⟩) NB1008_1025.out _).trans (((zr (p:=⟨gb1025,_,none⟩) NB1008_1025.out _).trans (((zr (p:=⟨gb1025,_,none⟩) NB1008_1025.out _).trans (hHeld.2.1)))))),((zr (p:=⟨gb1025,_,none⟩) NB1008_1025.out _).trans (((zr (p:=⟨gb1025,_,none⟩) NB1008_1025.out _).trans (((zr (p:=⟨gb1025,_,none⟩) NB1008_1025.out _).trans (hHeld.2.2.1)))))),((zr (p:=⟨gb1025,_,none⟩) (by exact NEa_ _) _).trans (((zr (p:=⟨gb1025,_,none⟩) (by exact NEa_ _) _).trans (((zr (p:=⟨gb1025,_,none⟩) (by exact NEa_ _) _).trans (hHeld.2.2.2.1)))))),((zr (p:=⟨gb1025,_,none⟩) (by exact NEa_ _) _).trans (((zr (p:=⟨gb1025,_,none⟩) (by exact NEa_ _) _).trans (((zr (p:=⟨gb1025,_,none⟩) (by exact NEa_ _) _).trans (hHeld.2.2.2.2.1)))))),((zr (p:=⟨gb1025,_,none⟩) (by exact NEa_ _) _).trans (((zr (p:=⟨gb1025,_,none⟩) (by exact NEa_ _) _).trans (((zr (p:=⟨gb1025,_,none⟩) (by exact NEa_ _) _).trans (hHeld.2.2.2.2.2.1)))))),((zr (p:=⟨gb1025,_,none⟩) (by exact NEa_ _) _).trans (((zr (p:=⟨gb1025,_,none⟩) (by exact NEa_ _) _).trans (((zr (p:=⟨gb1025,_,none⟩) (by exact NEa_ _) _).trans (hHeld.2.2.2.2.2.2))))))⟩ (fun hHeld => ?_)
     clear hK K
     refine yp 18 9 HT_ ?_
     refine done_ (done_of HT_.out (by kernel_rfl)) ?_
     try go_wp2
     go_roundg kj11
     case measure=>exact yom2 HK1 HJ11
     case rel=>exact ⟨(x5_1),(x6_1),(wrap64 (x7_1+1)),(x1009000_1),(x1009001_1),(x1009002_1),(.slice Ao35 x1009002_1.length co35),yq,H',⟨yom2 HK1 HJ11⟩,⟨yV0 HO_0⟩,⟨yR1 HO_4 BK1025⟩,⟨yV0 HO_5⟩,⟨yN0 HO_6⟩,⟨yV0 HO_1009002⟩,⟨yk BK1008⟩,⟨yhb⟩⟩
   ·
    replace c14:=Bool.eq_false_iff.mpr c14
    subst c14
    rw [ynf] at H
    replace H:=ybi H;obtain ⟨t1031,A45,H⟩:=H
    replace H:=ybi H;obtain ⟨⟨t1034,t1035,t1036,t1039⟩,A46,H⟩:=H
    try dsimp only at H
    have H' := zm H
    clear H
    obtain ⟨hcz47_0,hcz47_1,hcz47_2,hfz47_0,hfz47_1,hfz47_2⟩:=yc3 BK1008
    obtain ⟨Ao48,co48,eo48⟩:=Kd.V_slice HO_1009002.out
    subst eo48
    go_wp2_with (first|((with_reducible refine gate_callee (f:=24) rfl ?_);refine ygl 60 Try.func24 #[.agg #[.int .u64 x1009000_1, .int .u32 x1009001_1, .slice Ao48 x1009002_1.length co48]] ?_;(with_reducible refine (coder_Finish.calls x1009000_1 x1009001_1 _ _ x1009002_1 t1031 _ ?side1 ?side2 A45.out).mono ?_);(case side1=>exact yce (Kd.V_reads' HO_1009002.out).2.2);(case side2=>exact (Kd.V_reads' HO_1009002.out).2.1);rintro e w49 ⟨v1032,rfl,ho0,hb⟩;refine ⟨_,rfl, ?_⟩;replace HO_0:=zm (Kd.V_elder' (yr HO_0) (Kd.R_base ho0) hb);replace HO_4:=yRb HO_4 hb;replace HO_5:=zm (Kd.V_elder' (yr HO_5) (Kd.R_base ho0) hb);replace HO_6:=zm (Kd.N_elder' (yr HO_6) (Kd.R_base ho0) hb);replace HO_1009002:=zm (Kd.V_elder' (yr HO_1009002) (Kd.R_base ho0) hb);have HO1033:=zm (Kd.R_lower (Kd.R_newM (M:=fun k_=>(w.heap.size≤k_)) ho0 (zE yhb) (fun k_ h_=>h_)) (zE yhb));replace BK1008:=ybb BK1008 hb;replace HB:=ybs hb;(try clear hb);(try clear ho0);obtain ⟨Ao50,co50,eo50⟩:=Kd.R_slice HO1033.out;subst eo50)|((with_reducible refine gate_callee (f:=26) rfl ?_);refine ygl 61 Try.func26 #[.slice Ao50 t1031.length co50] ?_;(with_reducible refine (coder_Open.calls (fun k_=>some k_=(.slice Ao50 t1031.length co50 : Value).ownBlock) _ _ t1031 t1034 t1035 t1036 t1039 _ ?side1 A46.out).mono ?_);(case side1=>exact Kd.R_V (Kd.R_tight rfl (Kd.R_types (Kd.R_apart' (Kd.R_apart' (HO1033.out) (Kd.R_typed HO_4.out) (by decide)) (Kd.N_typed HO_6.out) (by decide)) BK1008.out (by decide))));rintro e w51 ⟨v1037,rfl,ho0,hb⟩;refine ⟨_,rfl, ?_⟩;replace HO_0:=yVb HO_0 hb;replace HO_5:=yVb HO_5 hb;replace HO_1009002:=yVb HO_1009002 hb;have HO1038:=yho (fun k_=>(P0_ k_∨w.heap.size≤k_)∧some k_≠(.slice Ao11 y1009.length co11 : Value).ownBlock∧some k_≠(u6 : Value).ownBlock∧k_≠gb1008) ho0 (fun k_ hk_=>⟨Or.elim hk_ (fun hs_=>(.inr (((Kd.R_types (Kd.R_apart' (Kd.R_apart' (HO1033.out) (Kd.R_typed HO_4.out) (by decide)) (Kd.N_typed HO_6.out) (by decide)) BK1008.out (by decide)).1 k_ hs_.symm).1.1.1.1))) (fun hn_=>(.inr (Nat.le_trans (zE yhb) hn_))),Or.elim hk_ (fun hs_=>((Kd.R_types (Kd.R_apart' (Kd.R_apart' (HO1033.out) (Kd.R_typed HO_4.out) (by decide)) (Kd.N_typed HO_6.out) (by decide)) BK1008.out (by decide)).1 k_ hs_.symm).1.1.2) (fun hn_=>(Kd.fresh' (Kd.R_lt (yr HO_4)) k_ hn_)),Or.elim hk_ (fun hs_=>((Kd.R_types (Kd.R_apart' (Kd.R_apart' (HO1033.out) (Kd.R_typed HO_4.out) (by decide)) (Kd.N_typed HO_6.out) (by decide)) BK1008.out (by decide)).1 k_ hs_.symm).1.2) (fun hn_=>(Kd.fresh' (Kd.N_lt (yr HO_6)) k_ hn_)),Or.elim hk_ (fun hs_=>((Kd.R_types (Kd.R_apart' (Kd.R_apart' (HO1033.out) (Kd.R_typed HO_4.out) (by decide)) (Kd.N_typed HO_6.out) (by decide)) BK1008.out (by decide)).1 k_ hs_.symm).2) (fun hn_=>(Kd.freshB (yk BK1008) k_ hn_))⟩);replace HO_4:=yRb HO_4 hb;replace HO_6:=yNb HO_6 hb;replace HO1033:=yRb HO1033 hb;replace BK1008:=ybb BK1008 hb;replace HB:=ybs hb;(try clear hb);(try clear ho0))|((with_reducible refine gate_dst (N:=10) rfl ?_);refine ybx 10 #[.int .u64 0, .int .u32 0, .slice none 0 0, .int .i64 0] 43 ?_;intro gb1040 hg w52 hbox hb;replace HO_0:=yVe HO_0 hg hb;replace HO_4:=yRb HO_4 hb;replace HO_5:=yVe HO_5 hg hb;replace HO_6:=zm (Kd.N_below (Kd.N_elderB (yr HO_6) gb1040 (Nat.le_of_eq hg.symm)) hb);replace HO_1009002:=yVe HO_1009002 hg hb;replace HO1033:=yRb HO1033 hb;replace HO1038:=yVe HO1038 hg hb;have BK1040:=zm (hbox);have GW1040:=ygw hg;have GE1040:=ygw hg;replace HB:=ybs hb;have NB1008_1040:=ynl BK1008 hg;have NB1040_1008:=yng BK1008 hg;replace BK1008:=ybb BK1008 hb;clear hb hbox hg;have:=NB1040_1008.out;have:=NB1008_1040.out;obtain ⟨hcz54_0,hcz54_1,hcz54_2,hcz54_3,hfz54_0,hfz54_1,hfz54_2,hfz54_3⟩:=yc4 BK1040;obtain ⟨Ao55,co55,eo55⟩:=Kd.V_slice HO1038.out;subst eo55))
    go_loopg [4,11] kj11 (fun kq v4 v11 w' => ∃ (x4_3 : List Int) (x11_3 : Int) (x1041000_3 : Int) (x1041001_3 : Int) (x1041002_3 : List Int) (x1041003_3 : Int) (u1041002 : Value),v11=.int .i64 x11_3∧Aside0 (psalterylaw11_GainBack.l1 kq x4_3 x6_1 x11_3 x1041000_3 x1041001_3 x1041002_3 x1041003_3=some r)∧Aside0 (kq≤kj11)∧Aside0 (Kd.R (Kd.int .i64) 3 w' w.heap.size (fun k_=>(w.heap.size≤k_)) v4 x4_3)∧Aside0 (Kd.N k91 91 w' w.heap.size (fun k_=>(P0_ k_∨w.heap.size≤k_)∧some k_≠(v4 : Value).ownBlock∧k_≠gb1008∧k_≠gb1040) u6 x6_1)∧Aside0 (Kd.V (Kd.int .u8) 5 w' w.heap.size (fun k_=>(P0_ k_∨w.heap.size≤k_)∧some k_≠(v4 : Value).ownBlock∧some k_≠(u6 : Value).ownBlock∧k_≠gb1008∧k_≠gb1040) (.slice Ao48 x1009002_1.length co48) x1009002_1)∧Aside0 (Kd.V (Kd.int .u8) 5 w' w.heap.size (fun k_=>(P0_ k_∨w.heap.size≤k_)∧some k_≠(v4 : Value).ownBlock∧some k_≠(u6 : Value).ownBlock∧k_≠gb1008∧k_≠gb1040) u1041002 x1041002_3)∧Aside0 (w'.heap[gb1008]? = some (.cells #[.int .u64 x1009000_1, .int .u32 x1009001_1,(.slice Ao48 x1009002_1.length co48)] 26 (0,0)))∧Aside0 (w'.heap[gb1040]? = some (.cells #[.int .u64 x1041000_3, .int .u32 x1041001_3,u1041002, .int .i64 x1041003_3] 43 (0,0)))∧Aside0 (Below w.heap.size w w'))
    case atStart=>exact ⟨(y1009),(0),(t1034),(t1035),(t1036),(t1039),(.slice Ao55 t1036.length co55),yq,H',⟨Nat.le_refl _⟩,⟨yR1 HO_4 BK1040⟩,⟨yN0 HO_6⟩,⟨yV0 HO_1009002⟩,⟨yV0 HO1038⟩,⟨yk BK1008⟩,⟨ykp BK1040⟩,⟨yhb⟩⟩
    case round =>
     clear H'
     try clear c18
     try clear hcz47_0
     try clear hcz47_1
     try clear hcz47_2
     try clear hcz54_0
     try clear hcz54_1
     try clear hcz54_2
     try clear hcz54_3
     try clear hfz47_0
     try clear hfz47_1
     try clear hfz47_2
     try clear hfz54_0
     try clear hfz54_1
     try clear hfz54_2
     try clear hfz54_3
     obtain ⟨x4_3,x11_3,x1041000_3,x1041001_3,x1041002_3,x1041003_3,u1041002,rfl,HA,HK3,HO_4,HO_6,HO_1009002,HO_1041002,BK1008,BK1040,HB⟩:=hrel
     obtain ⟨k3,rfl⟩:=ysu gk (fun h=>by subst h;exact absurd HA.out (by simp [psalterylaw11_GainBack.l1]))
     have H:=HA.out;clear HA
     simp only [psalterylaw11_GainBack.l1] at H
     by_cases c56 : x11_3 < (x6_1.length : Int)
     ·
      rw [if_pos c56] at H
      have c56b0 : decide (x11_3 < (x6_1.length : Int))=true:=decide_eq_true c56
      clear c56
      replace H:=yif H;obtain ⟨c57,H⟩:=H
      have c57b0 : decide (0≤x11_3)=true:=decide_eq_true c57
      clear c57
      replace H:=ybi H;obtain ⟨⟨t1043,t1044,t1045,t1048,t1049,t1052⟩,A58,H⟩:=H
      try dsimp only at H
      by_cases c59 : t1052=0
      ·
       rw [if_pos c59] at H
       have c59b0 : (t1052 == 0)=true:=beq_iff_eq.mpr c59
       have c59b1 : (t1052 != 0)=false:=bne_eq_false_iff_eq.mpr c59
       clear c59
       replace H:=ybi H;obtain ⟨t1055,A60,H⟩:=H
       by_cases c61 : t1055=true
       ·
        subst c61
        rw [if_pos rfl] at H
        have H' := zm H
        clear H
        obtain ⟨Ao62,co62,eo62⟩:=Kd.N_slice HO_6.out
        subst eo62
        obtain ⟨Ao63,co63,eo63⟩:=Kd.V_slice HO_1041002.out
        subst eo63
        obtain ⟨Ao64,co64,eo64⟩:=Kd.R_slice HO_4.out
        subst eo64
        try go_wp2
        replace HO_4:=zm (zq HO_4.out)
        replace HO_6:=zm (Kd.N_drew HO_6.out)
        replace HO_1009002:=zm (zC HO_1009002.out)
        replace HO_1041002:=zm (zC HO_1041002.out)
        replace BK1008:=zm (zj BK1008.out)
        replace BK1040:=zm (zj BK1040.out)
        replace HB:=zm (zf HB.out)
        have p1042 : 0≤(x11_3 : Int):=yt
        have q1042 : x11_3 < (x6_1.length : Int):=yt
        obtain ⟨ad1042,A1042_0,c1042_0,e1042,hx1042_0,hx1042_1,hl1042_0,hi1042_0⟩:=at_T91 (Kd.N_reads' HO_6.out).2.2 x11_3 p1042 q1042
        cases e1042
        obtain ⟨ce1042,hce1042,hMe1042,hcc1042⟩:=Kd.N_get HO_6.out z91 x11_3 p1042 (by first|exact q1042|exact yt|(have e_:=(Kd.N_reads' HO_6.out).1;omega))
        obtain ⟨ua1042_0,uc1042_0,rfl,ul1042_0,ge1042_0⟩:=k91_openF hMe1042
        have hv1042_0:=hcc1042 0 _ rfl
        rw [Nat.add_zero] at hv1042_0
        replace hv1042_0:=Option.some.inj (hv1042_0.symm.trans hx1042_0)
        injection hv1042_0 with hva_ hvn_ hvc_
        rw [hva_] at ge1042_0
        rw [hvc_] at ul1042_0
        have HL1042_0:=zm (show Kd.V (Kd.int .i64) 3 _ w.heap.size _ _ ((rd_T91 x6_1 x11_3).f0) from Kd.V_mk ul1042_0 ge1042_0)
        clear hva_ hvn_ hvc_ ge1042_0 ul1042_0;clear hcc1042 hce1042;have HR1042_0:=zm hi1042_0;have HC1042_0:=zm hl1042_0;clear hi1042_0 hl1042_0
        replace p1042:=eq_true p1042
        replace q1042:=eq_true q1042
        refine yst (fun w' => w'.cell? ⟨gb1040,0,none⟩=some (.int .u64 x1041000_3)∧w'.cell? ⟨gb1040,1,none⟩=some (.int .u32 x1041001_3)∧w'.cell? ⟨gb1040,2,none⟩=some (.slice Ao63 x1041002_3.length co63)∧w'.cell? ⟨gb1040,3,none⟩=some (.int .i64 x1041003_3)∧w'.cell? (ad1042.add ((x11_3).toNat * 2))=some (.slice A1042_0 ((rd_T91 x6_1 x11_3).f0).length c1042_0)∧w'.cell? ⟨(ad1042.add ((x11_3).toNat * 2)).block,(ad1042.add ((x11_3).toNat * 2)).off+1,none⟩=some (.bool ((rd_T91 x6_1 x11_3).f1))) [] 16 psalterylaw11_GainBack.tab17 psalterylaw11_GainBack.bits17 (fun hHeld HT_ HW_ => ?_)
        generalize wr.drew=w65 at HO_4 HO_6 HO_1009002 HO_1041002 BK1008 BK1040 HB HL1042_0 HR1042_0 hx1042_0 hx1042_1 hHeld ⊢
        refine yp 1 70 HT_ ?_
        refine yp 2 71 HT_ ?_
        refine yp 3 72 HT_ ?_
        refine yp 4 73 HT_ ?_
        refine yp 5 74 HT_ ?_
        refine yl 0 69 HT_ HW_ hHeld ?_
        refine yl 6 75 HT_ HW_ hHeld ?_
        refine join_ (σ:=Value × Value × Nat) 3 #[true,true,true,true,true,true,true,true,true,true,true,true,true,false,false,false] (fun s_ => [(76, .tuple #[.agg #[.int .u64 t1043, .int .u32 t1044,s_.1, .int .i64 t1048],s_.2.1, .int .i64 t1052]),(12, .pointer (some ⟨s_.2.2,0,none⟩)),(68, .tuple #[.agg #[.int .u64 t1043, .int .u32 t1044,s_.1, .int .i64 t1048],s_.2.1, .int .i64 t1052]),(77, .agg #[.int .u64 t1043, .int .u32 t1044,s_.1, .int .i64 t1048]),(78,s_.2.1),(79, .int .i64 t1052)]) (fun s_ w' => (w'.cell? ⟨gb1040,0,none⟩=some (.int .u64 x1041000_3)∧w'.cell? ⟨gb1040,1,none⟩=some (.int .u32 x1041001_3)∧w'.cell? ⟨gb1040,2,none⟩=some (.slice Ao63 x1041002_3.length co63)∧w'.cell? ⟨gb1040,3,none⟩=some (.int .i64 x1041003_3)∧w'.cell? (ad1042.add ((x11_3).toNat * 2))=some (.slice A1042_0 ((rd_T91 x6_1 x11_3).f0).length c1042_0)∧w'.cell? ⟨(ad1042.add ((x11_3).toNat * 2)).block,(ad1042.add ((x11_3).toNat * 2)).off+1,none⟩=some (.bool ((rd_T91 x6_1 x11_3).f1)))∧(Kd.V (Kd.int .i64) 3 w' w.heap.size (fun k_=>(P0_ k_∨w.heap.size≤k_)∧some k_≠(s_.2.1 : Value).ownBlock∧some k_≠(.slice Ao64 x4_3.length co64 : Value).ownBlock∧some k_≠(.slice (some ad1042) x6_1.length co62 : Value).ownBlock∧k_≠gb1008∧k_≠gb1040∧k_≠s_.2.2) (.slice A1042_0 ((rd_T91 x6_1 x11_3).f0).length c1042_0) ((rd_T91 x6_1 x11_3).f0))∧(Kd.V (Kd.int .u8) 5 w' w.heap.size (fun k_=>(P0_ k_∨w.heap.size≤k_)∧some k_≠(s_.2.1 : Value).ownBlock∧some k_≠(.slice Ao64 x4_3.length co64 : Value).ownBlock∧some k_≠(.slice (some ad1042) x6_1.length co62 : Value).ownBlock∧k_≠gb1008∧k_≠gb1040∧k_≠s_.2.2) s_.1 t1045)∧(Kd.R (Kd.int .i64) 3 w' w.heap.size (fun k_=>(w.heap.size≤k_)∧some k_≠(.slice Ao64 x4_3.length co64 : Value).ownBlock) s_.2.1 t1049)∧(Kd.V (Kd.int .u8) 5 w' w.heap.size (fun k_=>(P0_ k_∨w.heap.size≤k_)∧some k_≠(s_.2.1 : Value).ownBlock∧some k_≠(.slice Ao64 x4_3.length co64 : Value).ownBlock∧some k_≠(.slice (some ad1042) x6_1.length co62 : Value).ownBlock∧k_≠gb1008∧k_≠gb1040∧k_≠s_.2.2) (.slice Ao48 x1009002_1.length co48) x1009002_1)∧(Kd.V (Kd.int .u8) 5 w' w.heap.size (fun k_=>(P0_ k_∨w.heap.size≤k_)∧some k_≠(s_.2.1 : Value).ownBlock∧some k_≠(.slice Ao64 x4_3.length co64 : Value).ownBlock∧some k_≠(.slice (some ad1042) x6_1.length co62 : Value).ownBlock∧k_≠gb1008∧k_≠gb1040∧k_≠s_.2.2) (.slice Ao63 x1041002_3.length co63) x1041002_3)∧(Kd.R (Kd.int .i64) 3 w' w.heap.size (fun k_=>(w.heap.size≤k_)∧some k_≠(s_.2.1 : Value).ownBlock) (.slice Ao64 x4_3.length co64) x4_3)∧(Kd.N k91 91 w' w.heap.size (fun k_=>(P0_ k_∨w.heap.size≤k_)∧some k_≠(s_.2.1 : Value).ownBlock∧some k_≠(.slice Ao64 x4_3.length co64 : Value).ownBlock∧k_≠gb1008∧k_≠gb1040∧k_≠s_.2.2) (.slice (some ad1042) x6_1.length co62) x6_1)∧(w'.heap[gb1008]? = some (.cells #[.int .u64 x1009000_1, .int .u32 x1009001_1, .slice Ao48 x1009002_1.length co48] 26 (0,0)))∧(w'.heap[gb1040]? = some (.cells #[.int .u64 x1041000_3, .int .u32 x1041001_3, .slice Ao63 x1041002_3.length co63, .int .i64 x1041003_3] 43 (0,0)))∧(w'.heap[s_.2.2]? = some (.cells #[.int .u64 0, .int .u32 0, .slice none 0 0, .int .i64 0] 43 (0,0)))∧(w.heap.size≤s_.2.2)∧(w.heap.size≤s_.2.2)∧(gb1008≠s_.2.2)∧(s_.2.2≠gb1008)∧(gb1040≠s_.2.2)∧(s_.2.2≠gb1040)∧(Below w.heap.size w w')) ?_ ?_
        rotate_left
        ·
         intro hCont
         refine two_ (i:=7) (j:=12) (Ni:=some 76) (Nj:=some 12) #[true,true,true,true,true,true,true,true,false,false,false,false,false,false,false,false] #[true,true,true,true,true,true,true,false,false,false,false,false,true,false,false,false] rfl rfl rfl rfl (two_of HT_.out (by kernel_rfl)) (by decide) (by decide) (fun K hK => ?_) (fun K hK => ?_)
         ·
          skip
          refine ygs Try.func47 #[.agg #[.int .u64 x1041000_3, .int .u32 x1041001_3, .slice Ao63 x1041002_3.length co63, .int .i64 x1041003_3], .slice Ao64 x4_3.length co64, .bool ((rd_T91 x6_1 x11_3).f1)] ?_
          with_reducible refine (gain_Take.calls k3 x1041000_3 x1041001_3 (fun k_=>((P0_ k_∨w.heap.size≤k_)∧(some k_≠(.slice Ao64 x4_3.length co64 : Value).ownBlock∧(some k_≠(.slice (some ad1042) x6_1.length co62 : Value).ownBlock∧(k_≠gb1008∧k_≠gb1040))))) _ _ x1041002_3 x1041003_3 _ _ x4_3 ((rd_T91 x6_1 x11_3).f1) t1043 t1044 t1045 t1048 t1049 t1052 _ ?side1 ?side2 ?side3 A58.out).mono ?_
          (case side1=>exact HO_1041002.out)
          (case side2=>exact yce (Kd.R_reads' HO_4.out).2.2)
          (case side3=>exact (Kd.R_reads' HO_4.out).2.1)
          rintro e w66 ⟨v1046,v1050,rfl,ho0,ho1,hb⟩
          have HS4_:=yhs hb hHeld.2.2.2.2.1
          have HS5_:=yhs hb hHeld.2.2.2.2.2
          refine ⟨_,rfl, ?_⟩
          replace HO_1009002:=zm (Kd.V_elder' (yr HO_1009002) (Kd.R_base ho1) hb)
          replace HO_1041002:=zm (Kd.V_elder' (yr HO_1041002) (Kd.R_base ho1) hb)
          replace HL1042_0:=zm (Kd.V_elder' (yr HL1042_0) (Kd.R_base ho1) hb)
          have HO1047:=yho (fun k_=>(P0_ k_∨w.heap.size≤k_)∧some k_≠(v1050 : Value).ownBlock∧some k_≠(.slice Ao64 x4_3.length co64 : Value).ownBlock∧some k_≠(.slice (some ad1042) x6_1.length co62 : Value).ownBlock∧k_≠gb1008∧k_≠gb1040) ho0 (fun k_ hk_=>⟨Or.elim hk_.1 (fun hs_=>hs_.1) (fun hn_=>(.inr (Nat.le_trans (zE yhb) hn_))),hk_.2,Or.elim hk_.1 (fun hs_=>hs_.2.1) (fun hn_=>(Kd.fresh' (Kd.R_lt (yr HO_4)) k_ hn_)),Or.elim hk_.1 (fun hs_=>hs_.2.2.1) (fun hn_=>(Kd.fresh' (Kd.N_lt (yr HO_6)) k_ hn_)),Or.elim hk_.1 (fun hs_=>hs_.2.2.2.1) (fun hn_=>(Kd.freshB (yk BK1008) k_ hn_)),Or.elim hk_.1 (fun hs_=>hs_.2.2.2.2) (fun hn_=>(Kd.freshB (yk BK1040) k_ hn_))⟩)
          replace HO_6:=zm (Kd.N_elder' (yr HO_6) (Kd.R_base ho1) hb)
          have HO1051:=zm (Kd.R_lower (Kd.R_new' (Kd.R_newM (M:=fun k_=>(w.heap.size≤k_)) (zG (ok' := fun k_=>True) ho1 (fun _ hk_=>trivial)) (zE yhb) (fun k_ h_=>h_)) (Kd.R_lt (yr HO_4))) (zE yhb))
          replace HO_4:=zm (Kd.R_elder' (yr HO_4) (Kd.R_base ho1) hb)
          replace BK1008:=ybb BK1008 hb
          replace BK1040:=ybb BK1040 hb
          replace HR1042_0:=yCb HR1042_0 hb
          replace HB:=ybs hb
          (try clear hb)
          (try clear ho0)
          (try clear ho1)
          refine hK.out _ _ yH (fun hHeld => ?_)
          clear hK K
          refine ym (some 76) ?_
          refine yp 8 68 HT_ ?_
          refine yp 9 77 HT_ ?_
          refine yp 10 78 HT_ ?_
          refine yp 11 79 HT_ ?_
          refine yw 12 12 HT_ (fun K hK => ?_)
          refine box_step ?hg (N:=12) ?hd (cs := #[.int .u64 0, .int .u32 0, .slice none 0 0, .int .i64 0]) (t:=43) ?hr ?_;(case hd=>rfl);(case hg=>rfl);(case hr=>first|(go_simp;done)|(go_simp;rfl))
          intro gb1053 hg w67 hbox hb
          have HS4_:=yhs hb hHeld.2.2.2.2.1
          have HS5_:=yhs hb hHeld.2.2.2.2.2
          replace HO_4:=yRb HO_4 hb
          replace HO_6:=zm (Kd.N_below (Kd.N_elderB (yr HO_6) gb1053 (Nat.le_of_eq hg.symm)) hb)
          replace HO_1009002:=yVe HO_1009002 hg hb
          replace HO_1041002:=yVe HO_1041002 hg hb
          replace HL1042_0:=yVe HL1042_0 hg hb
          replace HO1047:=yVe HO1047 hg hb
          replace HO1051:=yRb HO1051 hb
          replace HR1042_0:=yCb HR1042_0 hb
          have BK1053:=zm (hbox)
          have GW1053:=ygw hg
          have GE1053:=ygw hg
          replace HB:=ybs hb
          have NB1008_1053:=ynl BK1008 hg
          have NB1053_1008:=yng BK1008 hg
          replace BK1008:=ybb BK1008 hb
          have NB1040_1053:=ynl BK1040 hg
          have NB1053_1040:=yng BK1040 hg
          replace BK1040:=ybb BK1040 hb
          clear hb hbox hg
          refine hK.out _ _ yH (fun hHeld => ?_)
          clear hK K
          refine ym (some 12) ?_
          exact norm_ (by simp only [putAll,Act.put,List.setIfInBounds_toArray,List.set_cons_zero,List.set_cons_succ]) (hCont (v1046,v1050,gb1053) _ ⟨hHeld,(yV0 HL1042_0),(yV0 HO1047),(yR0 HO1051),(yV0 HO_1009002),(yV0 HO_1041002),(yr HO_4),(yN0 HO_6),(yk BK1008),(yk BK1040),(yk BK1053),GW1053.out,GE1053.out,NB1008_1053.out,NB1053_1008.out,NB1040_1053.out,NB1053_1040.out,yhb⟩)
         ·
          skip
          refine box_step ?hg (N:=12) ?hd (cs := #[.int .u64 0, .int .u32 0, .slice none 0 0, .int .i64 0]) (t:=43) ?hr ?_;(case hd=>rfl);(case hg=>rfl);(case hr=>first|(go_simp;done)|(go_simp;rfl))
          intro gb1053 hg w66 hbox hb
          have HS4_:=yhs hb hHeld.2.2.2.2.1
          have HS5_:=yhs hb hHeld.2.2.2.2.2
          replace HO_4:=yRb HO_4 hb
          replace HO_6:=zm (Kd.N_below (Kd.N_elderB (yr HO_6) gb1053 (Nat.le_of_eq hg.symm)) hb)
          replace HO_1009002:=yVe HO_1009002 hg hb
          replace HO_1041002:=yVe HO_1041002 hg hb
          replace HL1042_0:=yVe HL1042_0 hg hb
          replace HR1042_0:=yCb HR1042_0 hb
          have BK1053:=zm (hbox)
          have GW1053:=ygw hg
          have GE1053:=ygw hg
          replace HB:=ybs hb
          have NB1008_1053:=ynl BK1008 hg
          have NB1053_1008:=yng BK1008 hg
          replace BK1008:=ybb BK1008 hb
          have NB1040_1053:=ynl BK1040 hg
          have NB1053_1040:=yng BK1040 hg
          replace BK1040:=ybb BK1040 hb
          clear hb hbox hg
          refine hK.out _ _ yH (fun hHeld => ?_)
          clear hK K
          refine ym (some 12) ?_
          refine yw 7 76 HT_ (fun K hK => ?_)
          refine ygs Try.func47 #[.agg #[.int .u64 x1041000_3, .int .u32 x1041001_3, .slice Ao63 x1041002_3.length co63, .int .i64 x1041003_3], .slice Ao64 x4_3.length co64, .bool ((rd_T91 x6_1 x11_3).f1)] ?_
          with_reducible refine (gain_Take.calls k3 x1041000_3 x1041001_3 (fun k_=>(((P0_ k_∨w.heap.size≤k_)∧(some k_≠(.slice Ao64 x4_3.length co64 : Value).ownBlock∧(some k_≠(.slice (some ad1042) x6_1.length co62 : Value).ownBlock∧(k_≠gb1008∧k_≠gb1040))))∧k_≠gb1053)) _ _ x1041002_3 x1041003_3 _ _ x4_3 ((rd_T91 x6_1 x11_3).f1) t1043 t1044 t1045 t1048 t1049 t1052 _ ?side1 ?side2 ?side3 A58.out).mono ?_
          (case side1=>exact HO_1041002.out)
          (case side2=>exact yce (Kd.R_reads' HO_4.out).2.2)
          (case side3=>exact (Kd.R_reads' HO_4.out).2.1)
          rintro e w67 ⟨v1046,v1050,rfl,ho0,ho1,hb⟩
          have HS4_:=yhs hb hHeld.2.2.2.2.1
          have HS5_:=yhs hb hHeld.2.2.2.2.2
          refine ⟨_,rfl, ?_⟩
          replace HO_1009002:=zm (Kd.V_elder' (yr HO_1009002) (Kd.R_base ho1) hb)
          replace HO_1041002:=zm (Kd.V_elder' (yr HO_1041002) (Kd.R_base ho1) hb)
          replace HL1042_0:=zm (Kd.V_elder' (yr HL1042_0) (Kd.R_base ho1) hb)
          have HO1047:=yho (fun k_=>(P0_ k_∨w.heap.size≤k_)∧some k_≠(v1050 : Value).ownBlock∧some k_≠(.slice Ao64 x4_3.length co64 : Value).ownBlock∧some k_≠(.slice (some ad1042) x6_1.length co62 : Value).ownBlock∧k_≠gb1008∧k_≠gb1040∧k_≠gb1053) ho0 (fun k_ hk_=>⟨Or.elim hk_.1 (fun hs_=>hs_.1.1) (fun hn_=>(.inr (Nat.le_trans (zE yhb) hn_))),hk_.2,Or.elim hk_.1 (fun hs_=>hs_.1.2.1) (fun hn_=>(Kd.fresh' (Kd.R_lt (yr HO_4)) k_ hn_)),Or.elim hk_.1 (fun hs_=>hs_.1.2.2.1) (fun hn_=>(Kd.fresh' (Kd.N_lt (yr HO_6)) k_ hn_)),Or.elim hk_.1 (fun hs_=>hs_.1.2.2.2.1) (fun hn_=>(Kd.freshB (yk BK1008) k_ hn_)),Or.elim hk_.1 (fun hs_=>hs_.1.2.2.2.2) (fun hn_=>(Kd.freshB (yk BK1040) k_ hn_)),Or.elim hk_.1 (fun hs_=>hs_.2) (fun hn_=>(Kd.freshB (yk BK1053) k_ hn_))⟩)
          replace HO_6:=zm (Kd.N_elder' (yr HO_6) (Kd.R_base ho1) hb)
          have HO1051:=zm (Kd.R_lower (Kd.R_new' (Kd.R_newM (M:=fun k_=>(w.heap.size≤k_)) (zG (ok' := fun k_=>True) ho1 (fun _ hk_=>trivial)) (zE yhb) (fun k_ h_=>h_)) (Kd.R_lt (yr HO_4))) (zE yhb))
          replace HO_4:=zm (Kd.R_elder' (yr HO_4) (Kd.R_base ho1) hb)
          replace BK1008:=ybb BK1008 hb
          replace BK1040:=ybb BK1040 hb
          replace HR1042_0:=yCb HR1042_0 hb
          replace BK1053:=ybb BK1053 hb
          replace HB:=ybs hb
          (try clear hb)
          (try clear ho0)
          (try clear ho1)
          refine hK.out _ _ yH (fun hHeld => ?_)
          clear hK K
          refine ym (some 76) ?_
          refine yp 8 68 HT_ ?_
          refine yp 9 77 HT_ ?_
          refine yp 10 78 HT_ ?_
          refine yp 11 79 HT_ ?_
          exact norm_ (by simp only [putAll,Act.put,List.setIfInBounds_toArray,List.set_cons_zero,List.set_cons_succ]) (hCont (v1046,v1050,gb1053) _ ⟨hHeld,(yV0 HL1042_0),(yr HO1047),(yR0 HO1051),(yV0 HO_1009002),(yV0 HO_1041002),(yr HO_4),(yN0 HO_6),(yk BK1008),(yk BK1040),(yk BK1053),GW1053.out,GE1053.out,NB1008_1053.out,NB1053_1008.out,NB1040_1053.out,NB1053_1040.out,yhb⟩)
        rintro ⟨v1046,v1050,gb1053⟩ w68 ⟨hS_,h0_,h1_,h2_,h3_,h4_,h5_,h6_,h7_,h8_,h9_,h10_,h11_,h12_,h13_,h14_,h15_,h16_⟩
        have n0_ : Aside0 (Kd.V (Kd.int .i64) 3 w68 w.heap.size (fun k_=>(P0_ k_∨w.heap.size≤k_)∧some k_≠(v1050 : Value).ownBlock∧some k_≠(.slice Ao64 x4_3.length co64 : Value).ownBlock∧some k_≠(.slice (some ad1042) x6_1.length co62 : Value).ownBlock∧k_≠gb1008∧k_≠gb1040∧k_≠gb1053) (.slice A1042_0 ((rd_T91 x6_1 x11_3).f0).length c1042_0) ((rd_T91 x6_1 x11_3).f0)):=⟨h0_⟩
        have n1_ : Aside0 (Kd.V (Kd.int .u8) 5 w68 w.heap.size (fun k_=>(P0_ k_∨w.heap.size≤k_)∧some k_≠(v1050 : Value).ownBlock∧some k_≠(.slice Ao64 x4_3.length co64 : Value).ownBlock∧some k_≠(.slice (some ad1042) x6_1.length co62 : Value).ownBlock∧k_≠gb1008∧k_≠gb1040∧k_≠gb1053) v1046 t1045):=⟨h1_⟩
        have n2_ : Aside0 (Kd.R (Kd.int .i64) 3 w68 w.heap.size (fun k_=>(w.heap.size≤k_)∧some k_≠(.slice Ao64 x4_3.length co64 : Value).ownBlock) v1050 t1049):=⟨h2_⟩
        have n3_ : Aside0 (Kd.V (Kd.int .u8) 5 w68 w.heap.size (fun k_=>(P0_ k_∨w.heap.size≤k_)∧some k_≠(v1050 : Value).ownBlock∧some k_≠(.slice Ao64 x4_3.length co64 : Value).ownBlock∧some k_≠(.slice (some ad1042) x6_1.length co62 : Value).ownBlock∧k_≠gb1008∧k_≠gb1040∧k_≠gb1053) (.slice Ao48 x1009002_1.length co48) x1009002_1):=⟨h3_⟩
        have n4_ : Aside0 (Kd.V (Kd.int .u8) 5 w68 w.heap.size (fun k_=>(P0_ k_∨w.heap.size≤k_)∧some k_≠(v1050 : Value).ownBlock∧some k_≠(.slice Ao64 x4_3.length co64 : Value).ownBlock∧some k_≠(.slice (some ad1042) x6_1.length co62 : Value).ownBlock∧k_≠gb1008∧k_≠gb1040∧k_≠gb1053) (.slice Ao63 x1041002_3.length co63) x1041002_3):=⟨h4_⟩
        have n5_ : Aside0 (Kd.R (Kd.int .i64) 3 w68 w.heap.size (fun k_=>(w.heap.size≤k_)∧some k_≠(v1050 : Value).ownBlock) (.slice Ao64 x4_3.length co64) x4_3):=⟨h5_⟩
        have n6_ : Aside0 (Kd.N k91 91 w68 w.heap.size (fun k_=>(P0_ k_∨w.heap.size≤k_)∧some k_≠(v1050 : Value).ownBlock∧some k_≠(.slice Ao64 x4_3.length co64 : Value).ownBlock∧k_≠gb1008∧k_≠gb1040∧k_≠gb1053) (.slice (some ad1042) x6_1.length co62) x6_1):=⟨h6_⟩
        have n7_ : Aside0 (w68.heap[gb1008]? = some (.cells #[.int .u64 x1009000_1, .int .u32 x1009001_1, .slice Ao48 x1009002_1.length co48] 26 (0,0))):=⟨h7_⟩
        have n8_ : Aside0 (w68.heap[gb1040]? = some (.cells #[.int .u64 x1041000_3, .int .u32 x1041001_3, .slice Ao63 x1041002_3.length co63, .int .i64 x1041003_3] 43 (0,0))):=⟨h8_⟩
        have n9_ : Aside0 (w68.heap[gb1053]? = some (.cells #[.int .u64 0, .int .u32 0, .slice none 0 0, .int .i64 0] 43 (0,0))):=⟨h9_⟩
        have n10_ : Aside0 (w.heap.size≤gb1053):=⟨h10_⟩
        have n11_ : Aside0 (w.heap.size≤gb1053):=⟨h11_⟩
        have n12_ : Aside0 (gb1008≠gb1053):=⟨h12_⟩
        have n13_ : Aside0 (gb1053≠gb1008):=⟨h13_⟩
        have n14_ : Aside0 (gb1040≠gb1053):=⟨h14_⟩
        have n15_ : Aside0 (gb1053≠gb1040):=⟨h15_⟩
        have n16_ : Aside0 (Below w.heap.size w w68):=⟨h16_⟩
        clear HO_4;clear HO_6;clear HO_1009002;clear HO_1041002;clear BK1008;clear BK1040;clear HB;clear h0_ h1_ h2_ h3_ h4_ h5_ h6_ h7_ h8_ h9_ h10_ h11_ h12_ h13_ h14_ h15_ h16_;have HL1042_0:=n0_;have HO1047:=n1_;have HO1051:=n2_;have HO_1009002:=n3_;have HO_1041002:=n4_;have HO_4:=n5_;have HO_6:=n6_;have BK1008:=n7_;have BK1040:=n8_;have BK1053:=n9_;have GW1053:=n10_;have GE1053:=n11_;have NB1008_1053:=n12_;have NB1053_1008:=n13_;have NB1040_1053:=n14_;have NB1053_1040:=n15_;have HB:=n16_;clear n0_ n1_ n2_ n3_ n4_ n5_ n6_ n7_ n8_ n9_ n10_ n11_ n12_ n13_ n14_ n15_ n16_
        have hHeld : w68.cell? ⟨gb1040,0,none⟩=some (.int .u64 x1041000_3)∧w68.cell? ⟨gb1040,1,none⟩=some (.int .u32 x1041001_3)∧w68.cell? ⟨gb1040,2,none⟩=some (.slice Ao63 x1041002_3.length co63)∧w68.cell? ⟨gb1040,3,none⟩=some (.int .i64 x1041003_3)∧w68.cell? (ad1042.add ((x11_3).toNat * 2))=some (.slice A1042_0 ((rd_T91 x6_1 x11_3).f0).length c1042_0)∧w68.cell? ⟨(ad1042.add ((x11_3).toNat * 2)).block,(ad1042.add ((x11_3).toNat * 2)).off+1,none⟩=some (.bool ((rd_T91 x6_1 x11_3).f1)):=hS_
        obtain ⟨Ao71,co71,eo71⟩:=Kd.V_slice HO1047.out
        (first|subst eo71|(injection eo71 with f1_ f2_ f3_;have f4_:=f1_.symm;have f5_:=f3_.symm;clear f1_ f2_ f3_;subst f4_;subst f5_))
        refine norm_ (a' := ?_) ?_ ?_
        rotate_left
        ·
         simp only [putAll,Act.put,List.setIfInBounds_toArray,List.set_cons_zero,List.set_cons_succ]
         rfl
        refine yv 13 HT_ (fun K hK => ?_)
        have hs69 : w68.cell? ⟨gb1053,0,none⟩=some (.int .u64 0):=(zs BK1053.out 0).trans rfl
        have hfs69:=zx BK1053.out 0
        have:=NB1008_1053.out
        have:=NB1040_1053.out
        have:=NB1053_1008.out
        have:=NB1053_1040.out
        have hs70 : w68.cell? ⟨gb1053,1,none⟩=some (.int .u32 0):=(zs BK1053.out 1).trans rfl
        have hfs70:=zx BK1053.out 1
        have:=NB1008_1053.out
        have:=NB1040_1053.out
        have:=NB1053_1008.out
        have:=NB1053_1040.out
        have hs72 : w68.cell? ⟨gb1053,2,none⟩=some (.slice none 0 0):=(zs BK1053.out 2).trans rfl
        have hfs72:=zx BK1053.out 2
        have:=NB1008_1053.out
        have:=NB1040_1053.out
        have:=NB1053_1008.out
        have:=NB1053_1040.out
        have hs73 : w68.cell? ⟨gb1053,3,none⟩=some (.int .i64 0):=(zs BK1053.out 3).trans rfl
        have hfs73:=zx BK1053.out 3
        have:=NB1008_1053.out
        have:=NB1040_1053.out
        have:=NB1053_1008.out
        have:=NB1053_1040.out
        refine skip_ (w1 := ?_) (by rfl) rfl ?_ ?_
        rotate_left
        ·
         go_simp
         rfl
        refine hK.out _ _ ⟨((zr (p:=⟨gb1053,_,none⟩) NB1040_1053.out _).trans (((zr (p:=⟨gb1053,_,none⟩) NB1040_1053.out _).trans (((zr (p:=⟨gb1053,_,none⟩) NB1040_1053.out _).trans (((zr (p:=⟨gb1053,_,none⟩) NB1040_1053.out _).trans (hHeld.1)))))))),((zr (p:=⟨gb1053,_,none⟩) NB1040_1053.out _).trans (((zr (p:=⟨gb1053,_,none⟩) NB1040_1053.out _).trans (((zr (p:=⟨gb1053,_,none⟩) NB1040_1053.out _).trans (((zr (p:=⟨gb1053,_,none⟩) NB1040_1053.out _).trans (hHeld.2.1)))))))),((zr (p:=⟨gb1053,_,none⟩) NB1040_1053.out _).trans (((zr (p:=⟨gb1053,_,none⟩) NB1040_1053.out _).trans (((zr (p:=⟨gb1053,_,none⟩) NB1040_1053.out _).trans (((zr (p:=⟨gb1053,_,none⟩) NB1040_1053.out _).trans (hHeld.2.2.1)))))))),((zr (p:=⟨gb1053,_,none⟩) NB1040_1053.out _).trans (((zr (p:=⟨gb1053,_,none⟩) NB1040_1053.out _).trans (((zr (p:=⟨gb1053,_,none⟩) NB1040_1053.out _).trans (((zr (p:=⟨gb1053,_,none⟩) NB1040_1053.out _).trans (hHeld.2.2.2.1)))))))),((zr (p:=⟨gb1053,_,none⟩) (by first|exact zt (Kd.N_away HO_6.out (fun _ hk=>hk.2.2.2.2.2))|(rw [za];exact zt (Kd.N_away HO_6.out (fun _ hk=>hk.2.2.2.2.2)))|(show (Addr.add _ _).block≠_;rw [za];exact zt (Kd.N_away HO_6.out (fun _ hk=>hk.2.2.2.2.2)))|(dsimp only;exact zt (Kd.N_away HO_6.out (fun _ hk=>hk.2.2.2.2.2)))) _).trans (((zr (p:=⟨gb1053,_,none⟩) (by first|exact zt (Kd.N_away HO_6.out (fun _ hk=>hk.2.2.2.2.2))|(rw [za];exact zt (Kd.N_away HO_6.out (fun _ hk=>hk.2.2.2.2.2)))|(show (Addr.add _ _).block≠_;rw [za];exact zt (Kd.N_away HO_6.out (fun _ hk=>hk.2.2.2.2.2)))|(dsimp only;exact zt (Kd.N_away HO_6.out (fun _ hk=>hk.2.2.2.2.2)))) _).trans (((zr (p:=⟨gb1053,_,none⟩) (by first|exact zt (Kd.N_away HO_6.out (fun _ hk=>hk.2.2.2.2.2))|(rw [za];exact zt (Kd.N_away HO_6.out (fun _ hk=>hk.2.2.2.2.2)))|(show (Addr.add _ _).block≠_;rw [za];exact zt (Kd.N_away HO_6.out (fun _ hk=>hk.2.2.2.2.2)))|(dsimp only;exact zt (Kd.N_away HO_6.out (fun _ hk=>hk.2.2.2.2.2)))) _).trans (((zr (p:=⟨gb1053,_,none⟩) (by first|exact zt (Kd.N_away HO_6.out (fun _ hk=>hk.2.2.2.2.2))|(rw [za];exact zt (Kd.N_away HO_6.out (fun _ hk=>hk.2.2.2.2.2)))|(show (Addr.add _ _).block≠_;rw [za];exact zt (Kd.N_away HO_6.out (fun _ hk=>hk.2.2.2.2.2)))|(dsimp only;exact zt (Kd.N_away HO_6.out (fun _ hk=>hk.2.2.2.2.2)))) _).trans (hHeld.2.2.2.2.1)))))))),((zr (p:=⟨gb1053,_,none⟩) (by first|exact zt (Kd.N_away HO_6.out (fun _ hk=>hk.2.2.2.2.2))|(rw [za];exact zt (Kd.N_away HO_6.out (fun _ hk=>hk.2.2.2.2.2)))|(show (Addr.add _ _).block≠_;rw [za];exact zt (Kd.N_away HO_6.out (fun _ hk=>hk.2.2.2.2.2)))|(dsimp only;exact zt (Kd.N_away HO_6.out (fun _ hk=>hk.2.2.2.2.2)))) _).trans (((zr (p:=⟨gb1053,_,none⟩) (by first|exact zt (Kd.N_away HO_6.out (fun _ hk=>hk.2.2.2.2.2))|(rw [za];exact zt (Kd.N_away HO_6.out (fun _ hk=>hk.2.2.2.2.2)))|(show (Addr.add _ _).block≠_;rw [za];exact zt (Kd.N_away HO_6.out (fun _ hk=>hk.2.2.2.2.2)))|(dsimp only;exact zt (Kd.N_away HO_6.out (fun _ hk=>hk.2.2.2.2.2)))) _).trans (((zr (p:=⟨gb1053,_,none⟩) (by first|exact zt (Kd.N_away HO_6.out (fun _ hk=>hk.2.2.2.2.2))|(rw [za];exact zt (Kd.N_away HO_6.out (fun _ hk=>hk.2.2.2.2.2)))|(show (Addr.add _ _).block≠_;rw [za];exact zt (Kd.N_away HO_6.out (fun _ hk=>hk.2.2.2.2.2)))|(dsimp only;exact zt (Kd.N_away HO_6.out (fun _ hk=>hk.2.2.2.2.2)))) _).trans (((zr (p:=⟨gb1053,_,none⟩) (by first|exact zt (Kd.N_away HO_6.out (fun _ hk=>hk.2.2.2.2.2))|(rw [za];exact zt (Kd.N_away HO_6.out (fun _ hk=>hk.2.2.2.2.2)))|(show (Addr.add _ _).block≠_;rw [za];exact zt (Kd.N_away HO_6.out (fun _ hk=>hk.2.2.2.2.2)))|(dsimp only;exact zt (Kd.N_away HO_6.out (fun _ hk=>hk.2.2.2.2.2)))) _).trans (hHeld.2.2.2.2.2))))))))⟩ (fun hHeld => ?_)
        clear hK K
        refine yp 14 13 HT_ ?_
        refine yp 15 14 HT_ ?_
        refine done_ (done_of HT_.out (by kernel_rfl)) ?_
        obtain ⟨w74,hw_⟩ : ∃ x,x=((((w68.setCell ⟨gb1053,0,none⟩ (.int .u64 t1043)).setCell ⟨gb1053,1,none⟩ (.int .u32 t1044)).setCell ⟨gb1053,2,none⟩ (.slice Ao71 t1045.length co71)).setCell ⟨gb1053,3,none⟩ (.int .i64 t1048)):=⟨_,rfl⟩
        rw [← hw_]
        replace HO_4 : Aside0 (Kd.R (Kd.int .i64) 3 w74 w.heap.size (fun k_=>(w.heap.size≤k_)∧some k_≠(v1050 : Value).ownBlock) (.slice Ao64 x4_3.length co64) x4_3):=⟨by rw [hw_];exact (yR1 HO_4 BK1053)⟩
        replace HO_6 : Aside0 (Kd.N k91 91 w74 w.heap.size (fun k_=>(P0_ k_∨w.heap.size≤k_)∧some k_≠(.slice Ao64 x4_3.length co64 : Value).ownBlock∧some k_≠(v1050 : Value).ownBlock∧k_≠gb1008∧k_≠gb1040∧k_≠gb1053) (.slice (some ad1042) x6_1.length co62) x6_1):=⟨by rw [hw_];exact (yN0 HO_6)⟩
        replace HO_1009002 : Aside0 (Kd.V (Kd.int .u8) 5 w74 w.heap.size (fun k_=>(P0_ k_∨w.heap.size≤k_)∧some k_≠(.slice Ao64 x4_3.length co64 : Value).ownBlock∧some k_≠(.slice (some ad1042) x6_1.length co62 : Value).ownBlock∧some k_≠(v1050 : Value).ownBlock∧k_≠gb1008∧k_≠gb1040∧k_≠gb1053) (.slice Ao48 x1009002_1.length co48) x1009002_1):=⟨by rw [hw_];exact (yV0 HO_1009002)⟩
        replace HO_1041002 : Aside0 (Kd.V (Kd.int .u8) 5 w74 w.heap.size (fun k_=>(P0_ k_∨w.heap.size≤k_)∧some k_≠(.slice Ao64 x4_3.length co64 : Value).ownBlock∧some k_≠(.slice (some ad1042) x6_1.length co62 : Value).ownBlock∧some k_≠(v1050 : Value).ownBlock∧k_≠gb1008∧k_≠gb1040∧k_≠gb1053) (.slice Ao63 x1041002_3.length co63) x1041002_3):=⟨by rw [hw_];exact (yV0 HO_1041002)⟩
        replace HL1042_0 : Aside0 (Kd.V (Kd.int .i64) 3 w74 w.heap.size (fun k_=>(P0_ k_∨w.heap.size≤k_)∧some k_≠(.slice Ao64 x4_3.length co64 : Value).ownBlock∧some k_≠(.slice (some ad1042) x6_1.length co62 : Value).ownBlock∧some k_≠(v1050 : Value).ownBlock∧k_≠gb1008∧k_≠gb1040∧k_≠gb1053) (.slice A1042_0 ((rd_T91 x6_1 x11_3).f0).length c1042_0) ((rd_T91 x6_1 x11_3).f0)):=⟨by rw [hw_];exact (yV0 HL1042_0)⟩
        replace HO1047 : Aside0 (Kd.V (Kd.int .u8) 5 w74 w.heap.size (fun k_=>(P0_ k_∨w.heap.size≤k_)∧some k_≠(.slice Ao64 x4_3.length co64 : Value).ownBlock∧some k_≠(.slice (some ad1042) x6_1.length co62 : Value).ownBlock∧some k_≠(v1050 : Value).ownBlock∧k_≠gb1008∧k_≠gb1040∧k_≠gb1053) (.slice Ao71 t1045.length co71) t1045):=⟨by rw [hw_];exact (yV0 HO1047)⟩
        replace HO1051 : Aside0 (Kd.R (Kd.int .i64) 3 w74 w.heap.size (fun k_=>(w.heap.size≤k_)∧some k_≠(.slice Ao64 x4_3.length co64 : Value).ownBlock) v1050 t1049):=⟨by rw [hw_];exact (yR1 HO1051 BK1053)⟩
        replace BK1008 : Aside0 (w74.heap[gb1008]? = some (.cells #[.int .u64 x1009000_1, .int .u32 x1009001_1, .slice Ao48 x1009002_1.length co48] 26 (0,0))):=⟨by rw [hw_];exact (yk BK1008)⟩
        replace BK1040 : Aside0 (w74.heap[gb1040]? = some (.cells #[.int .u64 x1041000_3, .int .u32 x1041001_3, .slice Ao63 x1041002_3.length co63, .int .i64 x1041003_3] 43 (0,0))):=⟨by rw [hw_];exact (yk BK1040)⟩
        replace BK1053 : Aside0 (w74.heap[gb1053]? = some (.cells #[.int .u64 t1043, .int .u32 t1044, .slice Ao71 t1045.length co71, .int .i64 t1048] 43 (0,0))):=⟨by rw [hw_];exact (ykp BK1053)⟩
        replace HB : Aside0 (Below w.heap.size w w74):=⟨by rw [hw_];exact (yhb)⟩
        clear hw_
        have p1054 : 0≤(x11_3 : Int):=yt
        have q1054 : x11_3 < (x6_1.length : Int):=yt
        obtain ⟨ad1054,A1054_0,c1054_0,e1054,hx1054_0,hx1054_1,hl1054_0,hi1054_0⟩:=at_T91 (Kd.N_reads' HO_6.out).2.2 x11_3 p1054 q1054
        obtain rfl : ad1042=ad1054:=(by injection e1054)
        obtain ⟨ce1054,hce1054,hMe1054,hcc1054⟩:=Kd.N_get HO_6.out z91 x11_3 p1054 (by first|exact q1054|exact yt|(have e_:=(Kd.N_reads' HO_6.out).1;omega))
        obtain ⟨ua1054_0,uc1054_0,rfl,ul1054_0,ge1054_0⟩:=k91_openF hMe1054
        have hv1054_0:=hcc1054 0 _ rfl
        rw [Nat.add_zero] at hv1054_0
        replace hv1054_0:=Option.some.inj (hv1054_0.symm.trans hx1054_0)
        injection hv1054_0 with hva_ hvn_ hvc_
        rw [hva_] at ge1054_0
        rw [hvc_] at ul1054_0
        have HL1054_0:=zm (show Kd.V (Kd.int .i64) 3 _ w.heap.size _ _ ((rd_T91 x6_1 x11_3).f0) from Kd.V_mk ul1054_0 ge1054_0)
        clear hva_ hvn_ hvc_ ge1054_0 ul1054_0;clear hcc1054 hce1054;have HR1054_0:=zm hi1054_0;have HC1054_0:=zm hl1054_0;clear hi1054_0 hl1054_0
        replace p1054:=eq_true p1054
        replace q1054:=eq_true q1054
        obtain ⟨Ao75,co75,eo75⟩:=Kd.R_slice HO1051.out
        subst eo75
        try go_wp2_with (first|(go_at_call 49;(with_reducible refine (psalteryref06_Same.calls k3 _ _ t1049 _ _ ((rd_T91 x6_1 x11_3).f0) true _ ?side1 ?side2 ?side3 HC1054_0.out A60.out).mono ?_);(case side1=>exact yce (Kd.R_reads' HO1051.out).2.2);(case side2=>exact (Kd.R_reads' HO1051.out).2.1);(case side3=>exact yce (yrc HR1054_0));rintro e w' ⟨rfl,⟨nd,rfl⟩⟩;(try (rw [drewN_self w74];generalize hq_ : World.drewN w74 _=w74;have n0_ : Aside0 (Kd.V (Kd.int .i64) 3 w74 w.heap.size (fun k_=>(P0_ k_∨w.heap.size≤k_)∧some k_≠(.slice Ao75 t1049.length co75 : Value).ownBlock∧some k_≠(.slice Ao64 x4_3.length co64 : Value).ownBlock∧some k_≠(.slice (some ad1042) x6_1.length co62 : Value).ownBlock∧k_≠gb1008∧k_≠gb1040∧k_≠gb1053) (.slice A1042_0 ((rd_T91 x6_1 x11_3).f0).length c1042_0) ((rd_T91 x6_1 x11_3).f0)):=⟨by rw [← hq_];exact (yV0 HL1042_0)⟩;have n1_ : Aside0 (Kd.V (Kd.int .i64) 3 w74 w.heap.size (fun k_=>(P0_ k_∨w.heap.size≤k_)∧some k_≠(.slice Ao75 t1049.length co75 : Value).ownBlock∧some k_≠(.slice Ao64 x4_3.length co64 : Value).ownBlock∧some k_≠(.slice (some ad1042) x6_1.length co62 : Value).ownBlock∧k_≠gb1008∧k_≠gb1040∧k_≠gb1053) (.slice A1054_0 ((rd_T91 x6_1 x11_3).f0).length c1054_0) ((rd_T91 x6_1 x11_3).f0)):=⟨by rw [← hq_];exact (yV0 HL1054_0)⟩;have n2_ : Aside0 (Kd.V (Kd.int .u8) 5 w74 w.heap.size (fun k_=>(P0_ k_∨w.heap.size≤k_)∧some k_≠(.slice Ao75 t1049.length co75 : Value).ownBlock∧some k_≠(.slice Ao64 x4_3.length co64 : Value).ownBlock∧some k_≠(.slice (some ad1042) x6_1.length co62 : Value).ownBlock∧k_≠gb1008∧k_≠gb1040∧k_≠gb1053) (.slice Ao71 t1045.length co71) t1045):=⟨by rw [← hq_];exact (yV0 HO1047)⟩;have n3_ : Aside0 (Kd.R (Kd.int .i64) 3 w74 w.heap.size (fun k_=>(w.heap.size≤k_)∧some k_≠(.slice Ao64 x4_3.length co64 : Value).ownBlock) (.slice Ao75 t1049.length co75) t1049):=⟨by rw [← hq_];exact (yr HO1051)⟩;have n4_ : Aside0 (Kd.V (Kd.int .u8) 5 w74 w.heap.size (fun k_=>(P0_ k_∨w.heap.size≤k_)∧some k_≠(.slice Ao75 t1049.length co75 : Value).ownBlock∧some k_≠(.slice Ao64 x4_3.length co64 : Value).ownBlock∧some k_≠(.slice (some ad1042) x6_1.length co62 : Value).ownBlock∧k_≠gb1008∧k_≠gb1040∧k_≠gb1053) (.slice Ao48 x1009002_1.length co48) x1009002_1):=⟨by rw [← hq_];exact (yV0 HO_1009002)⟩;have n5_ : Aside0 (Kd.V (Kd.int .u8) 5 w74 w.heap.size (fun k_=>(P0_ k_∨w.heap.size≤k_)∧some k_≠(.slice Ao75 t1049.length co75 : Value).ownBlock∧some k_≠(.slice Ao64 x4_3.length co64 : Value).ownBlock∧some k_≠(.slice (some ad1042) x6_1.length co62 : Value).ownBlock∧k_≠gb1008∧k_≠gb1040∧k_≠gb1053) (.slice Ao63 x1041002_3.length co63) x1041002_3):=⟨by rw [← hq_];exact (yV0 HO_1041002)⟩;have n6_ : Aside0 (Kd.R (Kd.int .i64) 3 w74 w.heap.size (fun k_=>(w.heap.size≤k_)∧some k_≠(.slice Ao75 t1049.length co75 : Value).ownBlock) (.slice Ao64 x4_3.length co64) x4_3):=⟨by rw [← hq_];exact (yr HO_4)⟩;have n7_ : Aside0 (Kd.N k91 91 w74 w.heap.size (fun k_=>(P0_ k_∨w.heap.size≤k_)∧some k_≠(.slice Ao75 t1049.length co75 : Value).ownBlock∧some k_≠(.slice Ao64 x4_3.length co64 : Value).ownBlock∧k_≠gb1008∧k_≠gb1040∧k_≠gb1053) (.slice (some ad1042) x6_1.length co62) x6_1):=⟨by rw [← hq_];exact (yN0 HO_6)⟩;have n8_ : Aside0 (w74.heap[gb1008]? = some (.cells #[.int .u64 x1009000_1, .int .u32 x1009001_1, .slice Ao48 x1009002_1.length co48] 26 (0,0))):=⟨by rw [← hq_];exact (yk BK1008)⟩;have n9_ : Aside0 (w74.heap[gb1040]? = some (.cells #[.int .u64 x1041000_3, .int .u32 x1041001_3, .slice Ao63 x1041002_3.length co63, .int .i64 x1041003_3] 43 (0,0))):=⟨by rw [← hq_];exact (yk BK1040)⟩;have n10_ : Aside0 (w74.heap[gb1053]? = some (.cells #[.int .u64 t1043, .int .u32 t1044, .slice Ao71 t1045.length co71, .int .i64 t1048] 43 (0,0))):=⟨by rw [← hq_];exact (yk BK1053)⟩;have n11_ : Aside0 (Below w.heap.size w w74):=⟨by rw [← hq_];exact yhb⟩;have n12_ : Aside0 (Kd.C (Kd.int .i64) w74 A1054_0 ((rd_T91 x6_1 x11_3).f0).length ((rd_T91 x6_1 x11_3).f0)):=⟨by rw [← hq_];exact (yrc HR1054_0)⟩;clear HL1042_0 HL1054_0 HO1047 HO1051 HO_1009002 HO_1041002 HO_4 HO_6 BK1008 BK1040 BK1053 HB HR1054_0 hq_;have HL1042_0:=n0_;have HL1054_0:=n1_;have HO1047:=n2_;have HO1051:=n3_;have HO_1009002:=n4_;have HO_1041002:=n5_;have HO_4:=n6_;have HO_6:=n7_;have BK1008:=n8_;have BK1040:=n9_;have BK1053:=n10_;have HB:=n11_;have HR1054_0:=n12_;clear n0_ n1_ n2_ n3_ n4_ n5_ n6_ n7_ n8_ n9_ n10_ n11_ n12_));have:=NB1053_1008.out;have:=NB1008_1053.out;have:=NB1053_1040.out;have:=NB1040_1053.out;obtain ⟨_,_,_,_,_,_,_,_⟩:=yc4 BK1053;have:=NB1040_1008.out;have:=NB1008_1040.out;obtain ⟨_,_,_,_,_,_,_,_⟩:=yc4 BK1040))
        go_roundg k3
        case measure=>exact yom3 HK1 HJ11 HK3
        case rel=>exact ⟨(t1049),(wrap64 (x11_3+1)),(t1043),(t1044),(t1045),(t1048),(.slice Ao71 t1045.length co71),yq,H',⟨yom3 HK1 HJ11 HK3⟩,⟨yR1 HO1051 BK1040⟩,⟨yN0 HO_6⟩,⟨yV0 HO_1009002⟩,⟨yV0 HO1047⟩,⟨yk BK1008⟩,⟨ykp BK1040⟩,⟨yhb⟩⟩
       ·
        replace c61:=Bool.eq_false_iff.mpr c61
        subst c61
        rw [ynf] at H
        obtain rfl:=Option.some.inj H
        obtain ⟨Ao81,co81,eo81⟩:=Kd.N_slice HO_6.out
        subst eo81
        obtain ⟨Ao82,co82,eo82⟩:=Kd.V_slice HO_1041002.out
        subst eo82
        obtain ⟨Ao83,co83,eo83⟩:=Kd.R_slice HO_4.out
        subst eo83
        try go_wp2
        replace HO_4:=zm (zq HO_4.out)
        replace HO_6:=zm (Kd.N_drew HO_6.out)
        replace HO_1009002:=zm (zC HO_1009002.out)
        replace HO_1041002:=zm (zC HO_1041002.out)
        replace BK1008:=zm (zj BK1008.out)
        replace BK1040:=zm (zj BK1040.out)
        replace HB:=zm (zf HB.out)
        have p1042 : 0≤(x11_3 : Int):=yt
        have q1042 : x11_3 < (x6_1.length : Int):=yt
        obtain ⟨ad1042,A1042_0,c1042_0,e1042,hx1042_0,hx1042_1,hl1042_0,hi1042_0⟩:=at_T91 (Kd.N_reads' HO_6.out).2.2 x11_3 p1042 q1042
        cases e1042
        obtain ⟨ce1042,hce1042,hMe1042,hcc1042⟩:=Kd.N_get HO_6.out z91 x11_3 p1042 (by first|exact q1042|exact yt|(have e_:=(Kd.N_reads' HO_6.out).1;omega))
        obtain ⟨ua1042_0,uc1042_0,rfl,ul1042_0,ge1042_0⟩:=k91_openF hMe1042
        have hv1042_0:=hcc1042 0 _ rfl
        rw [Nat.add_zero] at hv1042_0
        replace hv1042_0:=Option.some.inj (hv1042_0.symm.trans hx1042_0)
        injection hv1042_0 with hva_ hvn_ hvc_
        rw [hva_] at ge1042_0
        rw [hvc_] at ul1042_0
        have HL1042_0:=zm (show Kd.V (Kd.int .i64) 3 _ w.heap.size _ _ ((rd_T91 x6_1 x11_3).f0) from Kd.V_mk ul1042_0 ge1042_0)
        clear hva_ hvn_ hvc_ ge1042_0 ul1042_0;clear hcc1042 hce1042;have HR1042_0:=zm hi1042_0;have HC1042_0:=zm hl1042_0;clear hi1042_0 hl1042_0
        replace p1042:=eq_true p1042
        replace q1042:=eq_true q1042
        refine yst (fun w' => w'.cell? ⟨gb1040,0,none⟩=some (.int .u64 x1041000_3)∧w'.cell? ⟨gb1040,1,none⟩=some (.int .u32 x1041001_3)∧w'.cell? ⟨gb1040,2,none⟩=some (.slice Ao82 x1041002_3.length co82)∧w'.cell? ⟨gb1040,3,none⟩=some (.int .i64 x1041003_3)∧w'.cell? (ad1042.add ((x11_3).toNat * 2))=some (.slice A1042_0 ((rd_T91 x6_1 x11_3).f0).length c1042_0)∧w'.cell? ⟨(ad1042.add ((x11_3).toNat * 2)).block,(ad1042.add ((x11_3).toNat * 2)).off+1,none⟩=some (.bool ((rd_T91 x6_1 x11_3).f1))) [] 16 psalterylaw11_GainBack.tab17 psalterylaw11_GainBack.bits17 (fun hHeld HT_ HW_ => ?_)
        generalize wr.drew=w84 at HO_4 HO_6 HO_1009002 HO_1041002 BK1008 BK1040 HB HL1042_0 HR1042_0 hx1042_0 hx1042_1 hHeld ⊢
        refine yp 1 70 HT_ ?_
        refine yp 2 71 HT_ ?_
        refine yp 3 72 HT_ ?_
        refine yp 4 73 HT_ ?_
        refine yp 5 74 HT_ ?_
        refine yl 0 69 HT_ HW_ hHeld ?_
        refine yl 6 75 HT_ HW_ hHeld ?_
        refine join_ (σ:=Value × Value × Nat) 3 #[true,true,true,true,true,true,true,true,true,true,true,true,true,false,false,false] (fun s_ => [(76, .tuple #[.agg #[.int .u64 t1043, .int .u32 t1044,s_.1, .int .i64 t1048],s_.2.1, .int .i64 t1052]),(12, .pointer (some ⟨s_.2.2,0,none⟩)),(68, .tuple #[.agg #[.int .u64 t1043, .int .u32 t1044,s_.1, .int .i64 t1048],s_.2.1, .int .i64 t1052]),(77, .agg #[.int .u64 t1043, .int .u32 t1044,s_.1, .int .i64 t1048]),(78,s_.2.1),(79, .int .i64 t1052)]) (fun s_ w' => (w'.cell? ⟨gb1040,0,none⟩=some (.int .u64 x1041000_3)∧w'.cell? ⟨gb1040,1,none⟩=some (.int .u32 x1041001_3)∧w'.cell? ⟨gb1040,2,none⟩=some (.slice Ao82 x1041002_3.length co82)∧w'.cell? ⟨gb1040,3,none⟩=some (.int .i64 x1041003_3)∧w'.cell? (ad1042.add ((x11_3).toNat * 2))=some (.slice A1042_0 ((rd_T91 x6_1 x11_3).f0).length c1042_0)∧w'.cell? ⟨(ad1042.add ((x11_3).toNat * 2)).block,(ad1042.add ((x11_3).toNat * 2)).off+1,none⟩=some (.bool ((rd_T91 x6_1 x11_3).f1)))∧(Kd.V (Kd.int .i64) 3 w' w.heap.size (fun k_=>(P0_ k_∨w.heap.size≤k_)∧some k_≠(s_.2.1 : Value).ownBlock∧some k_≠(.slice Ao83 x4_3.length co83 : Value).ownBlock∧some k_≠(.slice (some ad1042) x6_1.length co81 : Value).ownBlock∧k_≠gb1008∧k_≠gb1040∧k_≠s_.2.2) (.slice A1042_0 ((rd_T91 x6_1 x11_3).f0).length c1042_0) ((rd_T91 x6_1 x11_3).f0))∧(Kd.V (Kd.int .u8) 5 w' w.heap.size (fun k_=>(P0_ k_∨w.heap.size≤k_)∧some k_≠(s_.2.1 : Value).ownBlock∧some k_≠(.slice Ao83 x4_3.length co83 : Value).ownBlock∧some k_≠(.slice (some ad1042) x6_1.length co81 : Value).ownBlock∧k_≠gb1008∧k_≠gb1040∧k_≠s_.2.2) s_.1 t1045)∧(Kd.R (Kd.int .i64) 3 w' w.heap.size (fun k_=>(w.heap.size≤k_)∧some k_≠(.slice Ao83 x4_3.length co83 : Value).ownBlock) s_.2.1 t1049)∧(Kd.V (Kd.int .u8) 5 w' w.heap.size (fun k_=>(P0_ k_∨w.heap.size≤k_)∧some k_≠(s_.2.1 : Value).ownBlock∧some k_≠(.slice Ao83 x4_3.length co83 : Value).ownBlock∧some k_≠(.slice (some ad1042) x6_1.length co81 : Value).ownBlock∧k_≠gb1008∧k_≠gb1040∧k_≠s_.2.2) (.slice Ao48 x1009002_1.length co48) x1009002_1)∧(Kd.V (Kd.int .u8) 5 w' w.heap.size (fun k_=>(P0_ k_∨w.heap.size≤k_)∧some k_≠(s_.2.1 : Value).ownBlock∧some k_≠(.slice Ao83 x4_3.length co83 : Value).ownBlock∧some k_≠(.slice (some ad1042) x6_1.length co81 : Value).ownBlock∧k_≠gb1008∧k_≠gb1040∧k_≠s_.2.2) (.slice Ao82 x1041002_3.length co82) x1041002_3)∧(Kd.R (Kd.int .i64) 3 w' w.heap.size (fun k_=>(w.heap.size≤k_)∧some k_≠(s_.2.1 : Value).ownBlock) (.slice Ao83 x4_3.length co83) x4_3)∧(Kd.N k91 91 w' w.heap.size (fun k_=>(P0_ k_∨w.heap.size≤k_)∧some k_≠(s_.2.1 : Value).ownBlock∧some k_≠(.slice Ao83 x4_3.length co83 : Value).ownBlock∧k_≠gb1008∧k_≠gb1040∧k_≠s_.2.2) (.slice (some ad1042) x6_1.length co81) x6_1)∧(w'.heap[gb1008]? = some (.cells #[.int .u64 x1009000_1, .int .u32 x1009001_1, .slice Ao48 x1009002_1.length co48] 26 (0,0)))∧(w'.heap[gb1040]? = some (.cells #[.int .u64 x1041000_3, .int .u32 x1041001_3, .slice Ao82 x1041002_3.length co82, .int .i64 x1041003_3] 43 (0,0)))∧(w'.heap[s_.2.2]? = some (.cells #[.int .u64 0, .int .u32 0, .slice none 0 0, .int .i64 0] 43 (0,0)))∧(w.heap.size≤s_.2.2)∧(w.heap.size≤s_.2.2)∧(gb1008≠s_.2.2)∧(s_.2.2≠gb1008)∧(gb1040≠s_.2.2)∧(s_.2.2≠gb1040)∧(Below w.heap.size w w')) ?_ ?_
        rotate_left
        ·
         intro hCont
         refine two_ (i:=7) (j:=12) (Ni:=some 76) (Nj:=some 12) #[true,true,true,true,true,true,true,true,false,false,false,false,false,false,false,false] #[true,true,true,true,true,true,true,false,false,false,false,false,true,false,false,false] rfl rfl rfl rfl (two_of HT_.out (by kernel_rfl)) (by decide) (by decide) (fun K hK => ?_) (fun K hK => ?_)
         ·
          skip
          refine ygs Try.func47 #[.agg #[.int .u64 x1041000_3, .int .u32 x1041001_3, .slice Ao82 x1041002_3.length co82, .int .i64 x1041003_3], .slice Ao83 x4_3.length co83, .bool ((rd_T91 x6_1 x11_3).f1)] ?_
          with_reducible refine (gain_Take.calls k3 x1041000_3 x1041001_3 (fun k_=>((P0_ k_∨w.heap.size≤k_)∧(some k_≠(.slice Ao83 x4_3.length co83 : Value).ownBlock∧(some k_≠(.slice (some ad1042) x6_1.length co81 : Value).ownBlock∧(k_≠gb1008∧k_≠gb1040))))) _ _ x1041002_3 x1041003_3 _ _ x4_3 ((rd_T91 x6_1 x11_3).f1) t1043 t1044 t1045 t1048 t1049 t1052 _ ?side1 ?side2 ?side3 A58.out).mono ?_
          (case side1=>exact HO_1041002.out)
          (case side2=>exact yce (Kd.R_reads' HO_4.out).2.2)
          (case side3=>exact (Kd.R_reads' HO_4.out).2.1)
          rintro e w85 ⟨v1046,v1050,rfl,ho0,ho1,hb⟩
          have HS4_:=yhs hb hHeld.2.2.2.2.1
          have HS5_:=yhs hb hHeld.2.2.2.2.2
          refine ⟨_,rfl, ?_⟩
          replace HO_1009002:=zm (Kd.V_elder' (yr HO_1009002) (Kd.R_base ho1) hb)
          replace HO_1041002:=zm (Kd.V_elder' (yr HO_1041002) (Kd.R_base ho1) hb)
          replace HL1042_0:=zm (Kd.V_elder' (yr HL1042_0) (Kd.R_base ho1) hb)
          have HO1047:=yho (fun k_=>(P0_ k_∨w.heap.size≤k_)∧some k_≠(v1050 : Value).ownBlock∧some k_≠(.slice Ao83 x4_3.length co83 : Value).ownBlock∧some k_≠(.slice (some ad1042) x6_1.length co81 : Value).ownBlock∧k_≠gb1008∧k_≠gb1040) ho0 (fun k_ hk_=>⟨Or.elim hk_.1 (fun hs_=>hs_.1) (fun hn_=>(.inr (Nat.le_trans (zE yhb) hn_))),hk_.2,Or.elim hk_.1 (fun hs_=>hs_.2.1) (fun hn_=>(Kd.fresh' (Kd.R_lt (yr HO_4)) k_ hn_)),Or.elim hk_.1 (fun hs_=>hs_.2.2.1) (fun hn_=>(Kd.fresh' (Kd.N_lt (yr HO_6)) k_ hn_)),Or.elim hk_.1 (fun hs_=>hs_.2.2.2.1) (fun hn_=>(Kd.freshB (yk BK1008) k_ hn_)),Or.elim hk_.1 (fun hs_=>hs_.2.2.2.2) (fun hn_=>(Kd.freshB (yk BK1040) k_ hn_))⟩)
          replace HO_6:=zm (Kd.N_elder' (yr HO_6) (Kd.R_base ho1) hb)
          have HO1051:=zm (Kd.R_lower (Kd.R_new' (Kd.R_newM (M:=fun k_=>(w.heap.size≤k_)) (zG (ok' := fun k_=>True) ho1 (fun _ hk_=>trivial)) (zE yhb) (fun k_ h_=>h_)) (Kd.R_lt (yr HO_4))) (zE yhb))
          replace HO_4:=zm (Kd.R_elder' (yr HO_4) (Kd.R_base ho1) hb)
          replace BK1008:=ybb BK1008 hb
          replace BK1040:=ybb BK1040 hb
          replace HR1042_0:=yCb HR1042_0 hb
          replace HB:=ybs hb
          (try clear hb)
          (try clear ho0)
          (try clear ho1)
          refine hK.out _ _ yH (fun hHeld => ?_)
          clear hK K
          refine ym (some 76) ?_
          refine yp 8 68 HT_ ?_
          refine yp 9 77 HT_ ?_
          refine yp 10 78 HT_ ?_
          refine yp 11 79 HT_ ?_
          refine yw 12 12 HT_ (fun K hK => ?_)
          refine box_step ?hg (N:=12) ?hd (cs := #[.int .u64 0, .int .u32 0, .slice none 0 0, .int .i64 0]) (t:=43) ?hr ?_;(case hd=>rfl);(case hg=>rfl);(case hr=>first|(go_simp;done)|(go_simp;rfl))
          intro gb1053 hg w86 hbox hb
          have HS4_:=yhs hb hHeld.2.2.2.2.1
          have HS5_:=yhs hb hHeld.2.2.2.2.2
          replace HO_4:=yRb HO_4 hb
          replace HO_6:=zm (Kd.N_below (Kd.N_elderB (yr HO_6) gb1053 (Nat.le_of_eq hg.symm)) hb)
          replace HO_1009002:=yVe HO_1009002 hg hb
          replace HO_1041002:=yVe HO_1041002 hg hb
          replace HL1042_0:=yVe HL1042_0 hg hb
          replace HO1047:=yVe HO1047 hg hb
          replace HO1051:=yRb HO1051 hb
          replace HR1042_0:=yCb HR1042_0 hb
          have BK1053:=zm (hbox)
          have GW1053:=ygw hg
          have GE1053:=ygw hg
          replace HB:=ybs hb
          have NB1008_1053:=ynl BK1008 hg
          have NB1053_1008:=yng BK1008 hg
          replace BK1008:=ybb BK1008 hb
          have NB1040_1053:=ynl BK1040 hg
          have NB1053_1040:=yng BK1040 hg
          replace BK1040:=ybb BK1040 hb
          clear hb hbox hg
          refine hK.out _ _ yH (fun hHeld => ?_)
          clear hK K
          refine ym (some 12) ?_
          exact norm_ (by simp only [putAll,Act.put,List.setIfInBounds_toArray,List.set_cons_zero,List.set_cons_succ]) (hCont (v1046,v1050,gb1053) _ ⟨hHeld,(yV0 HL1042_0),(yV0 HO1047),(yR0 HO1051),(yV0 HO_1009002),(yV0 HO_1041002),(yr HO_4),(yN0 HO_6),(yk BK1008),(yk BK1040),(yk BK1053),GW1053.out,GE1053.out,NB1008_1053.out,NB1053_1008.out,NB1040_1053.out,NB1053_1040.out,yhb⟩)
         ·
          skip
          refine box_step ?hg (N:=12) ?hd (cs := #[.int .u64 0, .int .u32 0, .slice none 0 0, .int .i64 0]) (t:=43) ?hr ?_;(case hd=>rfl);(case hg=>rfl);(case hr=>first|(go_simp;done)|(go_simp;rfl))
          intro gb1053 hg w85 hbox hb
          have HS4_:=yhs hb hHeld.2.2.2.2.1
          have HS5_:=yhs hb hHeld.2.2.2.2.2
          replace HO_4:=yRb HO_4 hb
          replace HO_6:=zm (Kd.N_below (Kd.N_elderB (yr HO_6) gb1053 (Nat.le_of_eq hg.symm)) hb)
          replace HO_1009002:=yVe HO_1009002 hg hb
          replace HO_1041002:=yVe HO_1041002 hg hb
          replace HL1042_0:=yVe HL1042_0 hg hb
          replace HR1042_0:=yCb HR1042_0 hb
          have BK1053:=zm (hbox)
          have GW1053:=ygw hg
          have GE1053:=ygw hg
          replace HB:=ybs hb
          have NB1008_1053:=ynl BK1008 hg
          have NB1053_1008:=yng BK1008 hg
          replace BK1008:=ybb BK1008 hb
          have NB1040_1053:=ynl BK1040 hg
          have NB1053_1040:=yng BK1040 hg
          replace BK1040:=ybb BK1040 hb
          clear hb hbox hg
          refine hK.out _ _ yH (fun hHeld => ?_)
          clear hK K
          refine ym (some 12) ?_
          refine yw 7 76 HT_ (fun K hK => ?_)
          refine ygs Try.func47 #[.agg #[.int .u64 x1041000_3, .int .u32 x1041001_3, .slice Ao82 x1041002_3.length co82, .int .i64 x1041003_3], .slice Ao83 x4_3.length co83, .bool ((rd_T91 x6_1 x11_3).f1)] ?_
          with_reducible refine (gain_Take.calls k3 x1041000_3 x1041001_3 (fun k_=>(((P0_ k_∨w.heap.size≤k_)∧(some k_≠(.slice Ao83 x4_3.length co83 : Value).ownBlock∧(some k_≠(.slice (some ad1042) x6_1.length co81 : Value).ownBlock∧(k_≠gb1008∧k_≠gb1040))))∧k_≠gb1053)) _ _ x1041002_3 x1041003_3 _ _ x4_3 ((rd_T91 x6_1 x11_3).f1) t1043 t1044 t1045 t1048 t1049 t1052 _ ?side1 ?side2 ?side3 A58.out).mono ?_
          (case side1=>exact HO_1041002.out)
          (case side2=>exact yce (Kd.R_reads' HO_4.out).2.2)
          (case side3=>exact (Kd.R_reads' HO_4.out).2.1)
          rintro e w86 ⟨v1046,v1050,rfl,ho0,ho1,hb⟩
          have HS4_:=yhs hb hHeld.2.2.2.2.1
          have HS5_:=yhs hb hHeld.2.2.2.2.2
          refine ⟨_,rfl, ?_⟩
          replace HO_1009002:=zm (Kd.V_elder' (yr HO_1009002) (Kd.R_base ho1) hb)
          replace HO_1041002:=zm (Kd.V_elder' (yr HO_1041002) (Kd.R_base ho1) hb)
          replace HL1042_0:=zm (Kd.V_elder' (yr HL1042_0) (Kd.R_base ho1) hb)
          have HO1047:=yho (fun k_=>(P0_ k_∨w.heap.size≤k_)∧some k_≠(v1050 : Value).ownBlock∧some k_≠(.slice Ao83 x4_3.length co83 : Value).ownBlock∧some k_≠(.slice (some ad1042) x6_1.length co81 : Value).ownBlock∧k_≠gb1008∧k_≠gb1040∧k_≠gb1053) ho0 (fun k_ hk_=>⟨Or.elim hk_.1 (fun hs_=>hs_.1.1) (fun hn_=>(.inr (Nat.le_trans (zE yhb) hn_))),hk_.2,Or.elim hk_.1 (fun hs_=>hs_.1.2.1) (fun hn_=>(Kd.fresh' (Kd.R_lt (yr HO_4)) k_ hn_)),Or.elim hk_.1 (fun hs_=>hs_.1.2.2.1) (fun hn_=>(Kd.fresh' (Kd.N_lt (yr HO_6)) k_ hn_)),Or.elim hk_.1 (fun hs_=>hs_.1.2.2.2.1) (fun hn_=>(Kd.freshB (yk BK1008) k_ hn_)),Or.elim hk_.1 (fun hs_=>hs_.1.2.2.2.2) (fun hn_=>(Kd.freshB (yk BK1040) k_ hn_)),Or.elim hk_.1 (fun hs_=>hs_.2) (fun hn_=>(Kd.freshB (yk BK1053) k_ hn_))⟩)
          replace HO_6:=zm (Kd.N_elder' (yr HO_6) (Kd.R_base ho1) hb)
          have HO1051:=zm (Kd.R_lower (Kd.R_new' (Kd.R_newM (M:=fun k_=>(w.heap.size≤k_)) (zG (ok' := fun k_=>True) ho1 (fun _ hk_=>trivial)) (zE yhb) (fun k_ h_=>h_)) (Kd.R_lt (yr HO_4))) (zE yhb))
          replace HO_4:=zm (Kd.R_elder' (yr HO_4) (Kd.R_base ho1) hb)
          replace BK1008:=ybb BK1008 hb
          replace BK1040:=ybb BK1040 hb
          replace HR1042_0:=yCb HR1042_0 hb
          replace BK1053:=ybb BK1053 hb
          replace HB:=ybs hb
          (try clear hb)
          (try clear ho0)
          (try clear ho1)
          refine hK.out _ _ yH (fun hHeld => ?_)
          clear hK K
          refine ym (some 76) ?_
          refine yp 8 68 HT_ ?_
          refine yp 9 77 HT_ ?_
          refine yp 10 78 HT_ ?_
          refine yp 11 79 HT_ ?_
          exact norm_ (by simp only [putAll,Act.put,List.setIfInBounds_toArray,List.set_cons_zero,List.set_cons_succ]) (hCont (v1046,v1050,gb1053) _ ⟨hHeld,(yV0 HL1042_0),(yr HO1047),(yR0 HO1051),(yV0 HO_1009002),(yV0 HO_1041002),(yr HO_4),(yN0 HO_6),(yk BK1008),(yk BK1040),(yk BK1053),GW1053.out,GE1053.out,NB1008_1053.out,NB1053_1008.out,NB1040_1053.out,NB1053_1040.out,yhb⟩)
        rintro ⟨v1046,v1050,gb1053⟩ w87 ⟨hS_,h0_,h1_,h2_,h3_,h4_,h5_,h6_,h7_,h8_,h9_,h10_,h11_,h12_,h13_,h14_,h15_,h16_⟩
        have n0_ : Aside0 (Kd.V (Kd.int .i64) 3 w87 w.heap.size (fun k_=>(P0_ k_∨w.heap.size≤k_)∧some k_≠(v1050 : Value).ownBlock∧some k_≠(.slice Ao83 x4_3.length co83 : Value).ownBlock∧some k_≠(.slice (some ad1042) x6_1.length co81 : Value).ownBlock∧k_≠gb1008∧k_≠gb1040∧k_≠gb1053) (.slice A1042_0 ((rd_T91 x6_1 x11_3).f0).length c1042_0) ((rd_T91 x6_1 x11_3).f0)):=⟨h0_⟩
        have n1_ : Aside0 (Kd.V (Kd.int .u8) 5 w87 w.heap.size (fun k_=>(P0_ k_∨w.heap.size≤k_)∧some k_≠(v1050 : Value).ownBlock∧some k_≠(.slice Ao83 x4_3.length co83 : Value).ownBlock∧some k_≠(.slice (some ad1042) x6_1.length co81 : Value).ownBlock∧k_≠gb1008∧k_≠gb1040∧k_≠gb1053) v1046 t1045):=⟨h1_⟩
        have n2_ : Aside0 (Kd.R (Kd.int .i64) 3 w87 w.heap.size (fun k_=>(w.heap.size≤k_)∧some k_≠(.slice Ao83 x4_3.length co83 : Value).ownBlock) v1050 t1049):=⟨h2_⟩
        have n3_ : Aside0 (Kd.V (Kd.int .u8) 5 w87 w.heap.size (fun k_=>(P0_ k_∨w.heap.size≤k_)∧some k_≠(v1050 : Value).ownBlock∧some k_≠(.slice Ao83 x4_3.length co83 : Value).ownBlock∧some k_≠(.slice (some ad1042) x6_1.length co81 : Value).ownBlock∧k_≠gb1008∧k_≠gb1040∧k_≠gb1053) (.slice Ao48 x1009002_1.length co48) x1009002_1):=⟨h3_⟩
        have n4_ : Aside0 (Kd.V (Kd.int .u8) 5 w87 w.heap.size (fun k_=>(P0_ k_∨w.heap.size≤k_)∧some k_≠(v1050 : Value).ownBlock∧some k_≠(.slice Ao83 x4_3.length co83 : Value).ownBlock∧some k_≠(.slice (some ad1042) x6_1.length co81 : Value).ownBlock∧k_≠gb1008∧k_≠gb1040∧k_≠gb1053) (.slice Ao82 x1041002_3.length co82) x1041002_3):=⟨h4_⟩
        have n5_ : Aside0 (Kd.R (Kd.int .i64) 3 w87 w.heap.size (fun k_=>(w.heap.size≤k_)∧some k_≠(v1050 : Value).ownBlock) (.slice Ao83 x4_3.length co83) x4_3):=⟨h5_⟩
        have n6_ : Aside0 (Kd.N k91 91 w87 w.heap.size (fun k_=>(P0_ k_∨w.heap.size≤k_)∧some k_≠(v1050 : Value).ownBlock∧some k_≠(.slice Ao83 x4_3.length co83 : Value).ownBlock∧k_≠gb1008∧k_≠gb1040∧k_≠gb1053) (.slice (some ad1042) x6_1.length co81) x6_1):=⟨h6_⟩
        have n7_ : Aside0 (w87.heap[gb1008]? = some (.cells #[.int .u64 x1009000_1, .int .u32 x1009001_1, .slice Ao48 x1009002_1.length co48] 26 (0,0))):=⟨h7_⟩
        have n8_ : Aside0 (w87.heap[gb1040]? = some (.cells #[.int .u64 x1041000_3, .int .u32 x1041001_3, .slice Ao82 x1041002_3.length co82, .int .i64 x1041003_3] 43 (0,0))):=⟨h8_⟩
        have n9_ : Aside0 (w87.heap[gb1053]? = some (.cells #[.int .u64 0, .int .u32 0, .slice none 0 0, .int .i64 0] 43 (0,0))):=⟨h9_⟩
        have n10_ : Aside0 (w.heap.size≤gb1053):=⟨h10_⟩
        have n11_ : Aside0 (w.heap.size≤gb1053):=⟨h11_⟩
        have n12_ : Aside0 (gb1008≠gb1053):=⟨h12_⟩
        have n13_ : Aside0 (gb1053≠gb1008):=⟨h13_⟩
        have n14_ : Aside0 (gb1040≠gb1053):=⟨h14_⟩
        have n15_ : Aside0 (gb1053≠gb1040):=⟨h15_⟩
        have n16_ : Aside0 (Below w.heap.size w w87):=⟨h16_⟩
        clear HO_4;clear HO_6;clear HO_1009002;clear HO_1041002;clear BK1008;clear BK1040;clear HB;clear h0_ h1_ h2_ h3_ h4_ h5_ h6_ h7_ h8_ h9_ h10_ h11_ h12_ h13_ h14_ h15_ h16_;have HL1042_0:=n0_;have HO1047:=n1_;have HO1051:=n2_;have HO_1009002:=n3_;have HO_1041002:=n4_;have HO_4:=n5_;have HO_6:=n6_;have BK1008:=n7_;have BK1040:=n8_;have BK1053:=n9_;have GW1053:=n10_;have GE1053:=n11_;have NB1008_1053:=n12_;have NB1053_1008:=n13_;have NB1040_1053:=n14_;have NB1053_1040:=n15_;have HB:=n16_;clear n0_ n1_ n2_ n3_ n4_ n5_ n6_ n7_ n8_ n9_ n10_ n11_ n12_ n13_ n14_ n15_ n16_
        have hHeld : w87.cell? ⟨gb1040,0,none⟩=some (.int .u64 x1041000_3)∧w87.cell? ⟨gb1040,1,none⟩=some (.int .u32 x1041001_3)∧w87.cell? ⟨gb1040,2,none⟩=some (.slice Ao82 x1041002_3.length co82)∧w87.cell? ⟨gb1040,3,none⟩=some (.int .i64 x1041003_3)∧w87.cell? (ad1042.add ((x11_3).toNat * 2))=some (.slice A1042_0 ((rd_T91 x6_1 x11_3).f0).length c1042_0)∧w87.cell? ⟨(ad1042.add ((x11_3).toNat * 2)).block,(ad1042.add ((x11_3).toNat * 2)).off+1,none⟩=some (.bool ((rd_T91 x6_1 x11_3).f1)):=hS_
        obtain ⟨Ao90,co90,eo90⟩:=Kd.V_slice HO1047.out
        (first|subst eo90|(injection eo90 with f1_ f2_ f3_;have f4_:=f1_.symm;have f5_:=f3_.symm;clear f1_ f2_ f3_;subst f4_;subst f5_))
        refine norm_ (a' := ?_) ?_ ?_
        rotate_left
        ·
         simp only [putAll,Act.put,List.setIfInBounds_toArray,List.set_cons_zero,List.set_cons_succ]
         rfl
        refine yv 13 HT_ (fun K hK => ?_)
        have hs88 : w87.cell? ⟨gb1053,0,none⟩=some (.int .u64 0):=(zs BK1053.out 0).trans rfl
        have hfs88:=zx BK1053.out 0
        have:=NB1008_1053.out
        have:=NB1040_1053.out
        have:=NB1053_1008.out
        have:=NB1053_1040.out
        have hs89 : w87.cell? ⟨gb1053,1,none⟩=some (.int .u32 0):=(zs BK1053.out 1).trans rfl
        have hfs89:=zx BK1053.out 1
        have:=NB1008_1053.out
        have:=NB1040_1053.out
        have:=NB1053_1008.out
        have:=NB1053_1040.out
        have hs91 : w87.cell? ⟨gb1053,2,none⟩=some (.slice none 0 0):=(zs BK1053.out 2).trans rfl
        have hfs91:=zx BK1053.out 2
        have:=NB1008_1053.out
        have:=NB1040_1053.out
        have:=NB1053_1008.out
        have:=NB1053_1040.out
        have hs92 : w87.cell? ⟨gb1053,3,none⟩=some (.int .i64 0):=(zs BK1053.out 3).trans rfl
        have hfs92:=zx BK1053.out 3
        have:=NB1008_1053.out
        have:=NB1040_1053.out
        have:=NB1053_1008.out
        have:=NB1053_1040.out
        refine skip_ (w1 := ?_) (by rfl) rfl ?_ ?_
        rotate_left
        ·
         go_simp
         rfl
        refine hK.out _ _ ⟨((zr (p:=⟨gb1053,_,none⟩) NB1040_1053.out _).trans (((zr (p:=⟨gb1053,_,none⟩) NB1040_1053.out _).trans (((zr (p:=⟨gb1053,_,none⟩) NB1040_1053.out _).trans (((zr (p:=⟨gb1053,_,none⟩) NB1040_1053.out _).trans (hHeld.1)))))))),((zr (p:=⟨gb1053,_,none⟩) NB1040_1053.out _).trans (((zr (p:=⟨gb1053,_,none⟩) NB1040_1053.out _).trans (((zr (p:=⟨gb1053,_,none⟩) NB1040_1053.out _).trans (((zr (p:=⟨gb1053,_,none⟩) NB1040_1053.out _).trans (hHeld.2.1)))))))),((zr (p:=⟨gb1053,_,none⟩) NB1040_1053.out _).trans (((zr (p:=⟨gb1053,_,none⟩) NB1040_1053.out _).trans (((zr (p:=⟨gb1053,_,none⟩) NB1040_1053.out _).trans (((zr (p:=⟨gb1053,_,none⟩) NB1040_1053.out _).trans (hHeld.2.2.1)))))))),((zr (p:=⟨gb1053,_,none⟩) NB1040_1053.out _).trans (((zr (p:=⟨gb1053,_,none⟩) NB1040_1053.out _).trans (((zr (p:=⟨gb1053,_,none⟩) NB1040_1053.out _).trans (((zr (p:=⟨gb1053,_,none⟩) NB1040_1053.out _).trans (hHeld.2.2.2.1)))))))),((zr (p:=⟨gb1053,_,none⟩) (by first|exact zt (Kd.N_away HO_6.out (fun _ hk=>hk.2.2.2.2.2))|(rw [za];exact zt (Kd.N_away HO_6.out (fun _ hk=>hk.2.2.2.2.2)))|(show (Addr.add _ _).block≠_;rw [za];exact zt (Kd.N_away HO_6.out (fun _ hk=>hk.2.2.2.2.2)))|(dsimp only;exact zt (Kd.N_away HO_6.out (fun _ hk=>hk.2.2.2.2.2)))) _).trans (((zr (p:=⟨gb1053,_,none⟩) (by first|exact zt (Kd.N_away HO_6.out (fun _ hk=>hk.2.2.2.2.2))|(rw [za];exact zt (Kd.N_away HO_6.out (fun _ hk=>hk.2.2.2.2.2)))|(show (Addr.add _ _).block≠_;rw [za];exact zt (Kd.N_away HO_6.out (fun _ hk=>hk.2.2.2.2.2)))|(dsimp only;exact zt (Kd.N_away HO_6.out (fun _ hk=>hk.2.2.2.2.2)))) _).trans (((zr (p:=⟨gb1053,_,none⟩) (by first|exact zt (Kd.N_away HO_6.out (fun _ hk=>hk.2.2.2.2.2))|(rw [za];exact zt (Kd.N_away HO_6.out (fun _ hk=>hk.2.2.2.2.2)))|(show (Addr.add _ _).block≠_;rw [za];exact zt (Kd.N_away HO_6.out (fun _ hk=>hk.2.2.2.2.2)))|(dsimp only;exact zt (Kd.N_away HO_6.out (fun _ hk=>hk.2.2.2.2.2)))) _).trans (((zr (p:=⟨gb1053,_,none⟩) (by first|exact zt (Kd.N_away HO_6.out (fun _ hk=>hk.2.2.2.2.2))|(rw [za];exact zt (Kd.N_away HO_6.out (fun _ hk=>hk.2.2.2.2.2)))|(show (Addr.add _ _).block≠_;rw [za];exact zt (Kd.N_away HO_6.out (fun _ hk=>hk.2.2.2.2.2)))|(dsimp only;exact zt (Kd.N_away HO_6.out (fun _ hk=>hk.2.2.2.2.2)))) _).trans (hHeld.2.2.2.2.1)))))))),((zr (p:=⟨gb1053,_,none⟩) (by first|exact zt (Kd.N_away HO_6.out (fun _ hk=>hk.2.2.2.2.2))|(rw [za];exact zt (Kd.N_away HO_6.out (fun _ hk=>hk.2.2.2.2.2)))|(show (Addr.add _ _).block≠_;rw [za];exact zt (Kd.N_away HO_6.out (fun _ hk=>hk.2.2.2.2.2)))|(dsimp only;exact zt (Kd.N_away HO_6.out (fun _ hk=>hk.2.2.2.2.2)))) _).trans (((zr (p:=⟨gb1053,_,none⟩) (by first|exact zt (Kd.N_away HO_6.out (fun _ hk=>hk.2.2.2.2.2))|(rw [za];exact zt (Kd.N_away HO_6.out (fun _ hk=>hk.2.2.2.2.2)))|(show (Addr.add _ _).block≠_;rw [za];exact zt (Kd.N_away HO_6.out (fun _ hk=>hk.2.2.2.2.2)))|(dsimp only;exact zt (Kd.N_away HO_6.out (fun _ hk=>hk.2.2.2.2.2)))) _).trans (((zr (p:=⟨gb1053,_,none⟩) (by first|exact zt (Kd.N_away HO_6.out (fun _ hk=>hk.2.2.2.2.2))|(rw [za];exact zt (Kd.N_away HO_6.out (fun _ hk=>hk.2.2.2.2.2)))|(show (Addr.add _ _).block≠_;rw [za];exact zt (Kd.N_away HO_6.out (fun _ hk=>hk.2.2.2.2.2)))|(dsimp only;exact zt (Kd.N_away HO_6.out (fun _ hk=>hk.2.2.2.2.2)))) _).trans (((zr (p:=⟨gb1053,_,none⟩) (by first|exact zt (Kd.N_away HO_6.out (fun _ hk=>hk.2.2.2.2.2))|(rw [za];exact zt (Kd.N_away HO_6.out (fun _ hk=>hk.2.2.2.2.2)))|(show (Addr.add _ _).block≠_;rw [za];exact zt (Kd.N_away HO_6.out (fun _ hk=>hk.2.2.2.2.2)))|(dsimp only;exact zt (Kd.N_away HO_6.out (fun _ hk=>hk.2.2.2.2.2)))) _).trans (hHeld.2.2.2.2.2))))))))⟩ (fun hHeld => ?_)
        clear hK K
        refine yp 14 13 HT_ ?_
        refine yp 15 14 HT_ ?_
        refine done_ (done_of HT_.out (by kernel_rfl)) ?_
        obtain ⟨w93,hw_⟩ : ∃ x,x=((((w87.setCell ⟨gb1053,0,none⟩ (.int .u64 t1043)).setCell ⟨gb1053,1,none⟩ (.int .u32 t1044)).setCell ⟨gb1053,2,none⟩ (.slice Ao90 t1045.length co90)).setCell ⟨gb1053,3,none⟩ (.int .i64 t1048)):=⟨_,rfl⟩
        rw [← hw_]
        replace HO_4 : Aside0 (Kd.R (Kd.int .i64) 3 w93 w.heap.size (fun k_=>(w.heap.size≤k_)∧some k_≠(v1050 : Value).ownBlock) (.slice Ao83 x4_3.length co83) x4_3):=⟨by rw [hw_];exact (yR1 HO_4 BK1053)⟩
        replace HO_6 : Aside0 (Kd.N k91 91 w93 w.heap.size (fun k_=>(P0_ k_∨w.heap.size≤k_)∧some k_≠(.slice Ao83 x4_3.length co83 : Value).ownBlock∧some k_≠(v1050 : Value).ownBlock∧k_≠gb1008∧k_≠gb1040∧k_≠gb1053) (.slice (some ad1042) x6_1.length co81) x6_1):=⟨by rw [hw_];exact (yN0 HO_6)⟩
        replace HO_1009002 : Aside0 (Kd.V (Kd.int .u8) 5 w93 w.heap.size (fun k_=>(P0_ k_∨w.heap.size≤k_)∧some k_≠(.slice Ao83 x4_3.length co83 : Value).ownBlock∧some k_≠(.slice (some ad1042) x6_1.length co81 : Value).ownBlock∧some k_≠(v1050 : Value).ownBlock∧k_≠gb1008∧k_≠gb1040∧k_≠gb1053) (.slice Ao48 x1009002_1.length co48) x1009002_1):=⟨by rw [hw_];exact (yV0 HO_1009002)⟩
        replace HO_1041002 : Aside0 (Kd.V (Kd.int .u8) 5 w93 w.heap.size (fun k_=>(P0_ k_∨w.heap.size≤k_)∧some k_≠(.slice Ao83 x4_3.length co83 : Value).ownBlock∧some k_≠(.slice (some ad1042) x6_1.length co81 : Value).ownBlock∧some k_≠(v1050 : Value).ownBlock∧k_≠gb1008∧k_≠gb1040∧k_≠gb1053) (.slice Ao82 x1041002_3.length co82) x1041002_3):=⟨by rw [hw_];exact (yV0 HO_1041002)⟩
        replace HL1042_0 : Aside0 (Kd.V (Kd.int .i64) 3 w93 w.heap.size (fun k_=>(P0_ k_∨w.heap.size≤k_)∧some k_≠(.slice Ao83 x4_3.length co83 : Value).ownBlock∧some k_≠(.slice (some ad1042) x6_1.length co81 : Value).ownBlock∧some k_≠(v1050 : Value).ownBlock∧k_≠gb1008∧k_≠gb1040∧k_≠gb1053) (.slice A1042_0 ((rd_T91 x6_1 x11_3).f0).length c1042_0) ((rd_T91 x6_1 x11_3).f0)):=⟨by rw [hw_];exact (yV0 HL1042_0)⟩
        replace HO1047 : Aside0 (Kd.V (Kd.int .u8) 5 w93 w.heap.size (fun k_=>(P0_ k_∨w.heap.size≤k_)∧some k_≠(.slice Ao83 x4_3.length co83 : Value).ownBlock∧some k_≠(.slice (some ad1042) x6_1.length co81 : Value).ownBlock∧some k_≠(v1050 : Value).ownBlock∧k_≠gb1008∧k_≠gb1040∧k_≠gb1053) (.slice Ao90 t1045.length co90) t1045):=⟨by rw [hw_];exact (yV0 HO1047)⟩
        replace HO1051 : Aside0 (Kd.R (Kd.int .i64) 3 w93 w.heap.size (fun k_=>(w.heap.size≤k_)∧some k_≠(.slice Ao83 x4_3.length co83 : Value).ownBlock) v1050 t1049):=⟨by rw [hw_];exact (yR1 HO1051 BK1053)⟩
        replace BK1008 : Aside0 (w93.heap[gb1008]? = some (.cells #[.int .u64 x1009000_1, .int .u32 x1009001_1, .slice Ao48 x1009002_1.length co48] 26 (0,0))):=⟨by rw [hw_];exact (yk BK1008)⟩
        replace BK1040 : Aside0 (w93.heap[gb1040]? = some (.cells #[.int .u64 x1041000_3, .int .u32 x1041001_3, .slice Ao82 x1041002_3.length co82, .int .i64 x1041003_3] 43 (0,0))):=⟨by rw [hw_];exact (yk BK1040)⟩
        replace BK1053 : Aside0 (w93.heap[gb1053]? = some (.cells #[.int .u64 t1043, .int .u32 t1044, .slice Ao90 t1045.length co90, .int .i64 t1048] 43 (0,0))):=⟨by rw [hw_];exact (ykp BK1053)⟩
        replace HB : Aside0 (Below w.heap.size w w93):=⟨by rw [hw_];exact (yhb)⟩
        clear hw_
        have p1054 : 0≤(x11_3 : Int):=yt
        have q1054 : x11_3 < (x6_1.length : Int):=yt
        obtain ⟨ad1054,A1054_0,c1054_0,e1054,hx1054_0,hx1054_1,hl1054_0,hi1054_0⟩:=at_T91 (Kd.N_reads' HO_6.out).2.2 x11_3 p1054 q1054
        obtain rfl : ad1042=ad1054:=(by injection e1054)
        obtain ⟨ce1054,hce1054,hMe1054,hcc1054⟩:=Kd.N_get HO_6.out z91 x11_3 p1054 (by first|exact q1054|exact yt|(have e_:=(Kd.N_reads' HO_6.out).1;omega))
        obtain ⟨ua1054_0,uc1054_0,rfl,ul1054_0,ge1054_0⟩:=k91_openF hMe1054
        have hv1054_0:=hcc1054 0 _ rfl
        rw [Nat.add_zero] at hv1054_0
        replace hv1054_0:=Option.some.inj (hv1054_0.symm.trans hx1054_0)
        injection hv1054_0 with hva_ hvn_ hvc_
        rw [hva_] at ge1054_0
        rw [hvc_] at ul1054_0
        have HL1054_0:=zm (show Kd.V (Kd.int .i64) 3 _ w.heap.size _ _ ((rd_T91 x6_1 x11_3).f0) from Kd.V_mk ul1054_0 ge1054_0)
        clear hva_ hvn_ hvc_ ge1054_0 ul1054_0;clear hcc1054 hce1054;have HR1054_0:=zm hi1054_0;have HC1054_0:=zm hl1054_0;clear hi1054_0 hl1054_0
        replace p1054:=eq_true p1054
        replace q1054:=eq_true q1054
        obtain ⟨Ao94,co94,eo94⟩:=Kd.R_slice HO1051.out
        subst eo94
        try go_wp2_with (first|(go_at_call 49;(with_reducible refine (psalteryref06_Same.calls k3 _ _ t1049 _ _ ((rd_T91 x6_1 x11_3).f0) false _ ?side1 ?side2 ?side3 HC1054_0.out A60.out).mono ?_);(case side1=>exact yce (Kd.R_reads' HO1051.out).2.2);(case side2=>exact (Kd.R_reads' HO1051.out).2.1);(case side3=>exact yce (yrc HR1054_0));rintro e w' ⟨rfl,⟨nd,rfl⟩⟩))
        go_ret
        exact ⟨ye,yhb⟩
      ·
       rw [if_neg c59] at H
       have c59b0 : (t1052 == 0)=false:=beq_eq_false_iff_ne.mpr c59
       have c59b1 : (t1052 != 0)=true:=bne_iff_ne.mpr c59
       obtain rfl:=Option.some.inj H
       obtain ⟨Ao95,co95,eo95⟩:=Kd.N_slice HO_6.out
       subst eo95
       obtain ⟨Ao96,co96,eo96⟩:=Kd.V_slice HO_1041002.out
       subst eo96
       obtain ⟨Ao97,co97,eo97⟩:=Kd.R_slice HO_4.out
       subst eo97
       try go_wp2
       replace HO_4:=zm (zq HO_4.out)
       replace HO_6:=zm (Kd.N_drew HO_6.out)
       replace HO_1009002:=zm (zC HO_1009002.out)
       replace HO_1041002:=zm (zC HO_1041002.out)
       replace BK1008:=zm (zj BK1008.out)
       replace BK1040:=zm (zj BK1040.out)
       replace HB:=zm (zf HB.out)
       have p1042 : 0≤(x11_3 : Int):=yt
       have q1042 : x11_3 < (x6_1.length : Int):=yt
       obtain ⟨ad1042,A1042_0,c1042_0,e1042,hx1042_0,hx1042_1,hl1042_0,hi1042_0⟩:=at_T91 (Kd.N_reads' HO_6.out).2.2 x11_3 p1042 q1042
       cases e1042
       obtain ⟨ce1042,hce1042,hMe1042,hcc1042⟩:=Kd.N_get HO_6.out z91 x11_3 p1042 (by first|exact q1042|exact yt|(have e_:=(Kd.N_reads' HO_6.out).1;omega))
       obtain ⟨ua1042_0,uc1042_0,rfl,ul1042_0,ge1042_0⟩:=k91_openF hMe1042
       have hv1042_0:=hcc1042 0 _ rfl
       rw [Nat.add_zero] at hv1042_0
       replace hv1042_0:=Option.some.inj (hv1042_0.symm.trans hx1042_0)
       injection hv1042_0 with hva_ hvn_ hvc_
       rw [hva_] at ge1042_0
       rw [hvc_] at ul1042_0
       have HL1042_0:=zm (show Kd.V (Kd.int .i64) 3 _ w.heap.size _ _ ((rd_T91 x6_1 x11_3).f0) from Kd.V_mk ul1042_0 ge1042_0)
       clear hva_ hvn_ hvc_ ge1042_0 ul1042_0;clear hcc1042 hce1042;have HR1042_0:=zm hi1042_0;have HC1042_0:=zm hl1042_0;clear hi1042_0 hl1042_0
       replace p1042:=eq_true p1042
       replace q1042:=eq_true q1042
       refine yst (fun w' => w'.cell? ⟨gb1040,0,none⟩=some (.int .u64 x1041000_3)∧w'.cell? ⟨gb1040,1,none⟩=some (.int .u32 x1041001_3)∧w'.cell? ⟨gb1040,2,none⟩=some (.slice Ao96 x1041002_3.length co96)∧w'.cell? ⟨gb1040,3,none⟩=some (.int .i64 x1041003_3)∧w'.cell? (ad1042.add ((x11_3).toNat * 2))=some (.slice A1042_0 ((rd_T91 x6_1 x11_3).f0).length c1042_0)∧w'.cell? ⟨(ad1042.add ((x11_3).toNat * 2)).block,(ad1042.add ((x11_3).toNat * 2)).off+1,none⟩=some (.bool ((rd_T91 x6_1 x11_3).f1))) [] 16 psalterylaw11_GainBack.tab17 psalterylaw11_GainBack.bits17 (fun hHeld HT_ HW_ => ?_)
       generalize wr.drew=w98 at HO_4 HO_6 HO_1009002 HO_1041002 BK1008 BK1040 HB HL1042_0 HR1042_0 hx1042_0 hx1042_1 hHeld ⊢
       refine yp 1 70 HT_ ?_
       refine yp 2 71 HT_ ?_
       refine yp 3 72 HT_ ?_
       refine yp 4 73 HT_ ?_
       refine yp 5 74 HT_ ?_
       refine yl 0 69 HT_ HW_ hHeld ?_
       refine yl 6 75 HT_ HW_ hHeld ?_
       refine join_ (σ:=Value × Value × Nat) 3 #[true,true,true,true,true,true,true,true,true,true,true,true,true,false,false,false] (fun s_ => [(76, .tuple #[.agg #[.int .u64 t1043, .int .u32 t1044,s_.1, .int .i64 t1048],s_.2.1, .int .i64 t1052]),(12, .pointer (some ⟨s_.2.2,0,none⟩)),(68, .tuple #[.agg #[.int .u64 t1043, .int .u32 t1044,s_.1, .int .i64 t1048],s_.2.1, .int .i64 t1052]),(77, .agg #[.int .u64 t1043, .int .u32 t1044,s_.1, .int .i64 t1048]),(78,s_.2.1),(79, .int .i64 t1052)]) (fun s_ w' => (w'.cell? ⟨gb1040,0,none⟩=some (.int .u64 x1041000_3)∧w'.cell? ⟨gb1040,1,none⟩=some (.int .u32 x1041001_3)∧w'.cell? ⟨gb1040,2,none⟩=some (.slice Ao96 x1041002_3.length co96)∧w'.cell? ⟨gb1040,3,none⟩=some (.int .i64 x1041003_3)∧w'.cell? (ad1042.add ((x11_3).toNat * 2))=some (.slice A1042_0 ((rd_T91 x6_1 x11_3).f0).length c1042_0)∧w'.cell? ⟨(ad1042.add ((x11_3).toNat * 2)).block,(ad1042.add ((x11_3).toNat * 2)).off+1,none⟩=some (.bool ((rd_T91 x6_1 x11_3).f1)))∧(Kd.V (Kd.int .i64) 3 w' w.heap.size (fun k_=>(P0_ k_∨w.heap.size≤k_)∧some k_≠(s_.2.1 : Value).ownBlock∧some k_≠(.slice Ao97 x4_3.length co97 : Value).ownBlock∧some k_≠(.slice (some ad1042) x6_1.length co95 : Value).ownBlock∧k_≠gb1008∧k_≠gb1040∧k_≠s_.2.2) (.slice A1042_0 ((rd_T91 x6_1 x11_3).f0).length c1042_0) ((rd_T91 x6_1 x11_3).f0))∧(Kd.V (Kd.int .u8) 5 w' w.heap.size (fun k_=>(P0_ k_∨w.heap.size≤k_)∧some k_≠(s_.2.1 : Value).ownBlock∧some k_≠(.slice Ao97 x4_3.length co97 : Value).ownBlock∧some k_≠(.slice (some ad1042) x6_1.length co95 : Value).ownBlock∧k_≠gb1008∧k_≠gb1040∧k_≠s_.2.2) s_.1 t1045)∧(Kd.R (Kd.int .i64) 3 w' w.heap.size (fun k_=>(w.heap.size≤k_)∧some k_≠(.slice Ao97 x4_3.length co97 : Value).ownBlock) s_.2.1 t1049)∧(Kd.V (Kd.int .u8) 5 w' w.heap.size (fun k_=>(P0_ k_∨w.heap.size≤k_)∧some k_≠(s_.2.1 : Value).ownBlock∧some k_≠(.slice Ao97 x4_3.length co97 : Value).ownBlock∧some k_≠(.slice (some ad1042) x6_1.length co95 : Value).ownBlock∧k_≠gb1008∧k_≠gb1040∧k_≠s_.2.2) (.slice Ao48 x1009002_1.length co48) x1009002_1)∧(Kd.V (Kd.int .u8) 5 w' w.heap.size (fun k_=>(P0_ k_∨w.heap.size≤k_)∧some k_≠(s_.2.1 : Value).ownBlock∧some k_≠(.slice Ao97 x4_3.length co97 : Value).ownBlock∧some k_≠(.slice (some ad1042) x6_1.length co95 : Value).ownBlock∧k_≠gb1008∧k_≠gb1040∧k_≠s_.2.2) (.slice Ao96 x1041002_3.length co96) x1041002_3)∧(Kd.R (Kd.int .i64) 3 w' w.heap.size (fun k_=>(w.heap.size≤k_)∧some k_≠(s_.2.1 : Value).ownBlock) (.slice Ao97 x4_3.length co97) x4_3)∧(Kd.N k91 91 w' w.heap.size (fun k_=>(P0_ k_∨w.heap.size≤k_)∧some k_≠(s_.2.1 : Value).ownBlock∧some k_≠(.slice Ao97 x4_3.length co97 : Value).ownBlock∧k_≠gb1008∧k_≠gb1040∧k_≠s_.2.2) (.slice (some ad1042) x6_1.length co95) x6_1)∧(w'.heap[gb1008]? = some (.cells #[.int .u64 x1009000_1, .int .u32 x1009001_1, .slice Ao48 x1009002_1.length co48] 26 (0,0)))∧(w'.heap[gb1040]? = some (.cells #[.int .u64 x1041000_3, .int .u32 x1041001_3, .slice Ao96 x1041002_3.length co96, .int .i64 x1041003_3] 43 (0,0)))∧(w'.heap[s_.2.2]? = some (.cells #[.int .u64 0, .int .u32 0, .slice none 0 0, .int .i64 0] 43 (0,0)))∧(w.heap.size≤s_.2.2)∧(w.heap.size≤s_.2.2)∧(gb1008≠s_.2.2)∧(s_.2.2≠gb1008)∧(gb1040≠s_.2.2)∧(s_.2.2≠gb1040)∧(Below w.heap.size w w')) ?_ ?_
       rotate_left
       ·
        intro hCont
        refine two_ (i:=7) (j:=12) (Ni:=some 76) (Nj:=some 12) #[true,true,true,true,true,true,true,true,false,false,false,false,false,false,false,false] #[true,true,true,true,true,true,true,false,false,false,false,false,true,false,false,false] rfl rfl rfl rfl (two_of HT_.out (by kernel_rfl)) (by decide) (by decide) (fun K hK => ?_) (fun K hK => ?_)
        ·
         skip
         refine ygs Try.func47 #[.agg #[.int .u64 x1041000_3, .int .u32 x1041001_3, .slice Ao96 x1041002_3.length co96, .int .i64 x1041003_3], .slice Ao97 x4_3.length co97, .bool ((rd_T91 x6_1 x11_3).f1)] ?_
         with_reducible refine (gain_Take.calls k3 x1041000_3 x1041001_3 (fun k_=>((P0_ k_∨w.heap.size≤k_)∧(some k_≠(.slice Ao97 x4_3.length co97 : Value).ownBlock∧(some k_≠(.slice (some ad1042) x6_1.length co95 : Value).ownBlock∧(k_≠gb1008∧k_≠gb1040))))) _ _ x1041002_3 x1041003_3 _ _ x4_3 ((rd_T91 x6_1 x11_3).f1) t1043 t1044 t1045 t1048 t1049 t1052 _ ?side1 ?side2 ?side3 A58.out).mono ?_
         (case side1=>exact HO_1041002.out)
         (case side2=>exact yce (Kd.R_reads' HO_4.out).2.2)
         (case side3=>exact (Kd.R_reads' HO_4.out).2.1)
         rintro e w99 ⟨v1046,v1050,rfl,ho0,ho1,hb⟩
         have HS4_:=yhs hb hHeld.2.2.2.2.1
         have HS5_:=yhs hb hHeld.2.2.2.2.2
         refine ⟨_,rfl, ?_⟩
         replace HO_1009002:=zm (Kd.V_elder' (yr HO_1009002) (Kd.R_base ho1) hb)
         replace HO_1041002:=zm (Kd.V_elder' (yr HO_1041002) (Kd.R_base ho1) hb)
         replace HL1042_0:=zm (Kd.V_elder' (yr HL1042_0) (Kd.R_base ho1) hb)
         have HO1047:=yho (fun k_=>(P0_ k_∨w.heap.size≤k_)∧some k_≠(v1050 : Value).ownBlock∧some k_≠(.slice Ao97 x4_3.length co97 : Value).ownBlock∧some k_≠(.slice (some ad1042) x6_1.length co95 : Value).ownBlock∧k_≠gb1008∧k_≠gb1040) ho0 (fun k_ hk_=>⟨Or.elim hk_.1 (fun hs_=>hs_.1) (fun hn_=>(.inr (Nat.le_trans (zE yhb) hn_))),hk_.2,Or.elim hk_.1 (fun hs_=>hs_.2.1) (fun hn_=>(Kd.fresh' (Kd.R_lt (yr HO_4)) k_ hn_)),Or.elim hk_.1 (fun hs_=>hs_.2.2.1) (fun hn_=>(Kd.fresh' (Kd.N_lt (yr HO_6)) k_ hn_)),Or.elim hk_.1 (fun hs_=>hs_.2.2.2.1) (fun hn_=>(Kd.freshB (yk BK1008) k_ hn_)),Or.elim hk_.1 (fun hs_=>hs_.2.2.2.2) (fun hn_=>(Kd.freshB (yk BK1040) k_ hn_))⟩)
         replace HO_6:=zm (Kd.N_elder' (yr HO_6) (Kd.R_base ho1) hb)
         have HO1051:=zm (Kd.R_lower (Kd.R_new' (Kd.R_newM (M:=fun k_=>(w.heap.size≤k_)) (zG (ok' := fun k_=>True) ho1 (fun _ hk_=>trivial)) (zE yhb) (fun k_ h_=>h_)) (Kd.R_lt (yr HO_4))) (zE yhb))
         replace HO_4:=zm (Kd.R_elder' (yr HO_4) (Kd.R_base ho1) hb)
         replace BK1008:=ybb BK1008 hb
         replace BK1040:=ybb BK1040 hb
         replace HR1042_0:=yCb HR1042_0 hb
         replace HB:=ybs hb
         (try clear hb)
         (try clear ho0)
         (try clear ho1)
         refine hK.out _ _ yH (fun hHeld => ?_)
         clear hK K
         refine ym (some 76) ?_
         refine yp 8 68 HT_ ?_
         refine yp 9 77 HT_ ?_
         refine yp 10 78 HT_ ?_
         refine yp 11 79 HT_ ?_
         refine yw 12 12 HT_ (fun K hK => ?_)
         refine box_step ?hg (N:=12) ?hd (cs := #[.int .u64 0, .int .u32 0, .slice none 0 0, .int .i64 0]) (t:=43) ?hr ?_;(case hd=>rfl);(case hg=>rfl);(case hr=>first|(go_simp;done)|(go_simp;rfl))
         intro gb1053 hg w100 hbox hb
         have HS4_:=yhs hb hHeld.2.2.2.2.1
         have HS5_:=yhs hb hHeld.2.2.2.2.2
         replace HO_4:=yRb HO_4 hb
         replace HO_6:=zm (Kd.N_below (Kd.N_elderB (yr HO_6) gb1053 (Nat.le_of_eq hg.symm)) hb)
         replace HO_1009002:=yVe HO_1009002 hg hb
         replace HO_1041002:=yVe HO_1041002 hg hb
         replace HL1042_0:=yVe HL1042_0 hg hb
         replace HO1047:=yVe HO1047 hg hb
         replace HO1051:=yRb HO1051 hb
         replace HR1042_0:=yCb HR1042_0 hb
         have BK1053:=zm (hbox)
         have GW1053:=ygw hg
         have GE1053:=ygw hg
         replace HB:=ybs hb
         have NB1008_1053:=ynl BK1008 hg
         have NB1053_1008:=yng BK1008 hg
         replace BK1008:=ybb BK1008 hb
         have NB1040_1053:=ynl BK1040 hg
         have NB1053_1040:=yng BK1040 hg
         replace BK1040:=ybb BK1040 hb
         clear hb hbox hg
         refine hK.out _ _ yH (fun hHeld => ?_)
         clear hK K
         refine ym (some 12) ?_
         exact norm_ (by simp only [putAll,Act.put,List.setIfInBounds_toArray,List.set_cons_zero,List.set_cons_succ]) (hCont (v1046,v1050,gb1053) _ ⟨hHeld,(yV0 HL1042_0),(yV0 HO1047),(yR0 HO1051),(yV0 HO_1009002),(yV0 HO_1041002),(yr HO_4),(yN0 HO_6),(yk BK1008),(yk BK1040),(yk BK1053),GW1053.out,GE1053.out,NB1008_1053.out,NB1053_1008.out,NB1040_1053.out,NB1053_1040.out,yhb⟩)
        ·
         skip
         refine box_step ?hg (N:=12) ?hd (cs := #[.int .u64 0, .int .u32 0, .slice none 0 0, .int .i64 0]) (t:=43) ?hr ?_;(case hd=>rfl);(case hg=>rfl);(case hr=>first|(go_simp;done)|(go_simp;rfl))
         intro gb1053 hg w99 hbox hb
         have HS4_:=yhs hb hHeld.2.2.2.2.1
         have HS5_:=yhs hb hHeld.2.2.2.2.2
         replace HO_4:=yRb HO_4 hb
         replace HO_6:=zm (Kd.N_below (Kd.N_elderB (yr HO_6) gb1053 (Nat.le_of_eq hg.symm)) hb)
         replace HO_1009002:=yVe HO_1009002 hg hb
         replace HO_1041002:=yVe HO_1041002 hg hb
         replace HL1042_0:=yVe HL1042_0 hg hb
         replace HR1042_0:=yCb HR1042_0 hb
         have BK1053:=zm (hbox)
         have GW1053:=ygw hg
         have GE1053:=ygw hg
         replace HB:=ybs hb
         have NB1008_1053:=ynl BK1008 hg
         have NB1053_1008:=yng BK1008 hg
         replace BK1008:=ybb BK1008 hb
         have NB1040_1053:=ynl BK1040 hg
         have NB1053_1040:=yng BK1040 hg
         replace BK1040:=ybb BK1040 hb
         clear hb hbox hg
         refine hK.out _ _ yH (fun hHeld => ?_)
         clear hK K
         refine ym (some 12) ?_
         refine yw 7 76 HT_ (fun K hK => ?_)
         refine ygs Try.func47 #[.agg #[.int .u64 x1041000_3, .int .u32 x1041001_3, .slice Ao96 x1041002_3.length co96, .int .i64 x1041003_3], .slice Ao97 x4_3.length co97, .bool ((rd_T91 x6_1 x11_3).f1)] ?_
         with_reducible refine (gain_Take.calls k3 x1041000_3 x1041001_3 (fun k_=>(((P0_ k_∨w.heap.size≤k_)∧(some k_≠(.slice Ao97 x4_3.length co97 : Value).ownBlock∧(some k_≠(.slice (some ad1042) x6_1.length co95 : Value).ownBlock∧(k_≠gb1008∧k_≠gb1040))))∧k_≠gb1053)) _ _ x1041002_3 x1041003_3 _ _ x4_3 ((rd_T91 x6_1 x11_3).f1) t1043 t1044 t1045 t1048 t1049 t1052 _ ?side1 ?side2 ?side3 A58.out).mono ?_
         (case side1=>exact HO_1041002.out)
         (case side2=>exact yce (Kd.R_reads' HO_4.out).2.2)
         (case side3=>exact (Kd.R_reads' HO_4.out).2.1)
         rintro e w100 ⟨v1046,v1050,rfl,ho0,ho1,hb⟩
         have HS4_:=yhs hb hHeld.2.2.2.2.1
         have HS5_:=yhs hb hHeld.2.2.2.2.2
         refine ⟨_,rfl, ?_⟩
         replace HO_1009002:=zm (Kd.V_elder' (yr HO_1009002) (Kd.R_base ho1) hb)
         replace HO_1041002:=zm (Kd.V_elder' (yr HO_1041002) (Kd.R_base ho1) hb)
         replace HL1042_0:=zm (Kd.V_elder' (yr HL1042_0) (Kd.R_base ho1) hb)
         have HO1047:=yho (fun k_=>(P0_ k_∨w.heap.size≤k_)∧some k_≠(v1050 : Value).ownBlock∧some k_≠(.slice Ao97 x4_3.length co97 : Value).ownBlock∧some k_≠(.slice (some ad1042) x6_1.length co95 : Value).ownBlock∧k_≠gb1008∧k_≠gb1040∧k_≠gb1053) ho0 (fun k_ hk_=>⟨Or.elim hk_.1 (fun hs_=>hs_.1.1) (fun hn_=>(.inr (Nat.le_trans (zE yhb) hn_))),hk_.2,Or.elim hk_.1 (fun hs_=>hs_.1.2.1) (fun hn_=>(Kd.fresh' (Kd.R_lt (yr HO_4)) k_ hn_)),Or.elim hk_.1 (fun hs_=>hs_.1.2.2.1) (fun hn_=>(Kd.fresh' (Kd.N_lt (yr HO_6)) k_ hn_)),Or.elim hk_.1 (fun hs_=>hs_.1.2.2.2.1) (fun hn_=>(Kd.freshB (yk BK1008) k_ hn_)),Or.elim hk_.1 (fun hs_=>hs_.1.2.2.2.2) (fun hn_=>(Kd.freshB (yk BK1040) k_ hn_)),Or.elim hk_.1 (fun hs_=>hs_.2) (fun hn_=>(Kd.freshB (yk BK1053) k_ hn_))⟩)
         replace HO_6:=zm (Kd.N_elder' (yr HO_6) (Kd.R_base ho1) hb)
         have HO1051:=zm (Kd.R_lower (Kd.R_new' (Kd.R_newM (M:=fun k_=>(w.heap.size≤k_)) (zG (ok' := fun k_=>True) ho1 (fun _ hk_=>trivial)) (zE yhb) (fun k_ h_=>h_)) (Kd.R_lt (yr HO_4))) (zE yhb))
         replace HO_4:=zm (Kd.R_elder' (yr HO_4) (Kd.R_base ho1) hb)
         replace BK1008:=ybb BK1008 hb
         replace BK1040:=ybb BK1040 hb
         replace HR1042_0:=yCb HR1042_0 hb
         replace BK1053:=ybb BK1053 hb
         replace HB:=ybs hb
         (try clear hb)
         (try clear ho0)
         (try clear ho1)
         refine hK.out _ _ yH (fun hHeld => ?_)
         clear hK K
         refine ym (some 76) ?_
         refine yp 8 68 HT_ ?_
         refine yp 9 77 HT_ ?_
         refine yp 10 78 HT_ ?_
         refine yp 11 79 HT_ ?_
         exact norm_ (by simp only [putAll,Act.put,List.setIfInBounds_toArray,List.set_cons_zero,List.set_cons_succ]) (hCont (v1046,v1050,gb1053) _ ⟨hHeld,(yV0 HL1042_0),(yr HO1047),(yR0 HO1051),(yV0 HO_1009002),(yV0 HO_1041002),(yr HO_4),(yN0 HO_6),(yk BK1008),(yk BK1040),(yk BK1053),GW1053.out,GE1053.out,NB1008_1053.out,NB1053_1008.out,NB1040_1053.out,NB1053_1040.out,yhb⟩)
       rintro ⟨v1046,v1050,gb1053⟩ w101 ⟨hS_,h0_,h1_,h2_,h3_,h4_,h5_,h6_,h7_,h8_,h9_,h10_,h11_,h12_,h13_,h14_,h15_,h16_⟩
       have n0_ : Aside0 (Kd.V (Kd.int .i64) 3 w101 w.heap.size (fun k_=>(P0_ k_∨w.heap.size≤k_)∧some k_≠(v1050 : Value).ownBlock∧some k_≠(.slice Ao97 x4_3.length co97 : Value).ownBlock∧some k_≠(.slice (some ad1042) x6_1.length co95 : Value).ownBlock∧k_≠gb1008∧k_≠gb1040∧k_≠gb1053) (.slice A1042_0 ((rd_T91 x6_1 x11_3).f0).length c1042_0) ((rd_T91 x6_1 x11_3).f0)):=⟨h0_⟩
       have n1_ : Aside0 (Kd.V (Kd.int .u8) 5 w101 w.heap.size (fun k_=>(P0_ k_∨w.heap.size≤k_)∧some k_≠(v1050 : Value).ownBlock∧some k_≠(.slice Ao97 x4_3.length co97 : Value).ownBlock∧some k_≠(.slice (some ad1042) x6_1.length co95 : Value).ownBlock∧k_≠gb1008∧k_≠gb1040∧k_≠gb1053) v1046 t1045):=⟨h1_⟩
       have n2_ : Aside0 (Kd.R (Kd.int .i64) 3 w101 w.heap.size (fun k_=>(w.heap.size≤k_)∧some k_≠(.slice Ao97 x4_3.length co97 : Value).ownBlock) v1050 t1049):=⟨h2_⟩
       have n3_ : Aside0 (Kd.V (Kd.int .u8) 5 w101 w.heap.size (fun k_=>(P0_ k_∨w.heap.size≤k_)∧some k_≠(v1050 : Value).ownBlock∧some k_≠(.slice Ao97 x4_3.length co97 : Value).ownBlock∧some k_≠(.slice (some ad1042) x6_1.length co95 : Value).ownBlock∧k_≠gb1008∧k_≠gb1040∧k_≠gb1053) (.slice Ao48 x1009002_1.length co48) x1009002_1):=⟨h3_⟩
       have n4_ : Aside0 (Kd.V (Kd.int .u8) 5 w101 w.heap.size (fun k_=>(P0_ k_∨w.heap.size≤k_)∧some k_≠(v1050 : Value).ownBlock∧some k_≠(.slice Ao97 x4_3.length co97 : Value).ownBlock∧some k_≠(.slice (some ad1042) x6_1.length co95 : Value).ownBlock∧k_≠gb1008∧k_≠gb1040∧k_≠gb1053) (.slice Ao96 x1041002_3.length co96) x1041002_3):=⟨h4_⟩
       have n5_ : Aside0 (Kd.R (Kd.int .i64) 3 w101 w.heap.size (fun k_=>(w.heap.size≤k_)∧some k_≠(v1050 : Value).ownBlock) (.slice Ao97 x4_3.length co97) x4_3):=⟨h5_⟩
       have n6_ : Aside0 (Kd.N k91 91 w101 w.heap.size (fun k_=>(P0_ k_∨w.heap.size≤k_)∧some k_≠(v1050 : Value).ownBlock∧some k_≠(.slice Ao97 x4_3.length co97 : Value).ownBlock∧k_≠gb1008∧k_≠gb1040∧k_≠gb1053) (.slice (some ad1042) x6_1.length co95) x6_1):=⟨h6_⟩
       have n7_ : Aside0 (w101.heap[gb1008]? = some (.cells #[.int .u64 x1009000_1, .int .u32 x1009001_1, .slice Ao48 x1009002_1.length co48] 26 (0,0))):=⟨h7_⟩
       have n8_ : Aside0 (w101.heap[gb1040]? = some (.cells #[.int .u64 x1041000_3, .int .u32 x1041001_3, .slice Ao96 x1041002_3.length co96, .int .i64 x1041003_3] 43 (0,0))):=⟨h8_⟩
       have n9_ : Aside0 (w101.heap[gb1053]? = some (.cells #[.int .u64 0, .int .u32 0, .slice none 0 0, .int .i64 0] 43 (0,0))):=⟨h9_⟩
       have n10_ : Aside0 (w.heap.size≤gb1053):=⟨h10_⟩
       have n11_ : Aside0 (w.heap.size≤gb1053):=⟨h11_⟩
       have n12_ : Aside0 (gb1008≠gb1053):=⟨h12_⟩
       have n13_ : Aside0 (gb1053≠gb1008):=⟨h13_⟩
       have n14_ : Aside0 (gb1040≠gb1053):=⟨h14_⟩
       have n15_ : Aside0 (gb1053≠gb1040):=⟨h15_⟩
       have n16_ : Aside0 (Below w.heap.size w w101):=⟨h16_⟩
       clear HO_4;clear HO_6;clear HO_1009002;clear HO_1041002;clear BK1008;clear BK1040;clear HB;clear h0_ h1_ h2_ h3_ h4_ h5_ h6_ h7_ h8_ h9_ h10_ h11_ h12_ h13_ h14_ h15_ h16_;have HL1042_0:=n0_;have HO1047:=n1_;have HO1051:=n2_;have HO_1009002:=n3_;have HO_1041002:=n4_;have HO_4:=n5_;have HO_6:=n6_;have BK1008:=n7_;have BK1040:=n8_;have BK1053:=n9_;have GW1053:=n10_;have GE1053:=n11_;have NB1008_1053:=n12_;have NB1053_1008:=n13_;have NB1040_1053:=n14_;have NB1053_1040:=n15_;have HB:=n16_;clear n0_ n1_ n2_ n3_ n4_ n5_ n6_ n7_ n8_ n9_ n10_ n11_ n12_ n13_ n14_ n15_ n16_
       have hHeld : w101.cell? ⟨gb1040,0,none⟩=some (.int .u64 x1041000_3)∧w101.cell? ⟨gb1040,1,none⟩=some (.int .u32 x1041001_3)∧w101.cell? ⟨gb1040,2,none⟩=some (.slice Ao96 x1041002_3.length co96)∧w101.cell? ⟨gb1040,3,none⟩=some (.int .i64 x1041003_3)∧w101.cell? (ad1042.add ((x11_3).toNat * 2))=some (.slice A1042_0 ((rd_T91 x6_1 x11_3).f0).length c1042_0)∧w101.cell? ⟨(ad1042.add ((x11_3).toNat * 2)).block,(ad1042.add ((x11_3).toNat * 2)).off+1,none⟩=some (.bool ((rd_T91 x6_1 x11_3).f1)):=hS_
       obtain ⟨Ao104,co104,eo104⟩:=Kd.V_slice HO1047.out
       (first|subst eo104|(injection eo104 with f1_ f2_ f3_;have f4_:=f1_.symm;have f5_:=f3_.symm;clear f1_ f2_ f3_;subst f4_;subst f5_))
       refine norm_ (a' := ?_) ?_ ?_
       rotate_left
       ·
        simp only [putAll,Act.put,List.setIfInBounds_toArray,List.set_cons_zero,List.set_cons_succ]
        rfl
       refine yv 13 HT_ (fun K hK => ?_)
       have hs102 : w101.cell? ⟨gb1053,0,none⟩=some (.int .u64 0):=(zs BK1053.out 0).trans rfl
       have hfs102:=zx BK1053.out 0
       have:=NB1008_1053.out
       have:=NB1040_1053.out
       have:=NB1053_1008.out
       have:=NB1053_1040.out
       have hs103 : w101.cell? ⟨gb1053,1,none⟩=some (.int .u32 0):=(zs BK1053.out 1).trans rfl
       have hfs103:=zx BK1053.out 1
       have:=NB1008_1053.out
       have:=NB1040_1053.out
       have:=NB1053_1008.out
       have:=NB1053_1040.out
       have hs105 : w101.cell? ⟨gb1053,2,none⟩=some (.slice none 0 0):=(zs BK1053.out 2).trans rfl
       have hfs105:=zx BK1053.out 2
       have:=NB1008_1053.out
       have:=NB1040_1053.out
       have:=NB1053_1008.out
       have:=NB1053_1040.out
       have hs106 : w101.cell? ⟨gb1053,3,none⟩=some (.int .i64 0):=(zs BK1053.out 3).trans rfl
       have hfs106:=zx BK1053.out 3
       have:=NB1008_1053.out
       have:=NB1040_1053.out
       have:=NB1053_1008.out
       have:=NB1053_1040.out
       refine skip_ (w1 := ?_) (by rfl) rfl ?_ ?_
       rotate_left
       ·
        go_simp
        rfl
       refine hK.out _ _ ⟨((zr (p:=⟨gb1053,_,none⟩) NB1040_1053.out _).trans (((zr (p:=⟨gb1053,_,none⟩) NB1040_1053.out _).trans (((zr (p:=⟨gb1053,_,none⟩) NB1040_1053.out _).trans (((zr (p:=⟨gb1053,_,none⟩) NB1040_1053.out _).trans (hHeld.1)))))))),((zr (p:=⟨gb1053,_,none⟩) NB1040_1053.out _).trans (((zr (p:=⟨gb1053,_,none⟩) NB1040_1053.out _).trans (((zr (p:=⟨gb1053,_,none⟩) NB1040_1053.out _).trans (((zr (p:=⟨gb1053,_,none⟩) NB1040_1053.out _).trans (hHeld.2.1)))))))),((zr (p:=⟨gb1053,_,none⟩) NB1040_1053.out _).trans (((zr (p:=⟨gb1053,_,none⟩) NB1040_1053.out _).trans (((zr (p:=⟨gb1053,_,none⟩) NB1040_1053.out _).trans (((zr (p:=⟨gb1053,_,none⟩) NB1040_1053.out _).trans (hHeld.2.2.1)))))))),((zr (p:=⟨gb1053,_,none⟩) NB1040_1053.out _).trans (((zr (p:=⟨gb1053,_,none⟩) NB1040_1053.out _).trans (((zr (p:=⟨gb1053,_,none⟩) NB1040_1053.out _).trans (((zr (p:=⟨gb1053,_,none⟩) NB1040_1053.out _).trans (hHeld.2.2.2.1)))))))),((zr (p:=⟨gb1053,_,none⟩) (by first|exact zt (Kd.N_away HO_6.out (fun _ hk=>hk.2.2.2.2.2))|(rw [za];exact zt (Kd.N_away HO_6.out (fun _ hk=>hk.2.2.2.2.2)))|(show (Addr.add _ _).block≠_;rw [za];exact zt (Kd.N_away HO_6.out (fun _ hk=>hk.2.2.2.2.2)))|(dsimp only;exact zt (Kd.N_away HO_6.out (fun _ hk=>hk.2.2.2.2.2)))) _).trans (((zr (p:=⟨gb1053,_,none⟩) (by first|exact zt (Kd.N_away HO_6.out (fun _ hk=>hk.2.2.2.2.2))|(rw [za];exact zt (Kd.N_away HO_6.out (fun _ hk=>hk.2.2.2.2.2)))|(show (Addr.add _ _).block≠_;rw [za];exact zt (Kd.N_away HO_6.out (fun _ hk=>hk.2.2.2.2.2)))|(dsimp only;exact zt (Kd.N_away HO_6.out (fun _ hk=>hk.2.2.2.2.2)))) _).trans (((zr (p:=⟨gb1053,_,none⟩) (by first|exact zt (Kd.N_away HO_6.out (fun _ hk=>hk.2.2.2.2.2))|(rw [za];exact zt (Kd.N_away HO_6.out (fun _ hk=>hk.2.2.2.2.2)))|(show (Addr.add _ _).block≠_;rw [za];exact zt (Kd.N_away HO_6.out (fun _ hk=>hk.2.2.2.2.2)))|(dsimp only;exact zt (Kd.N_away HO_6.out (fun _ hk=>hk.2.2.2.2.2)))) _).trans (((zr (p:=⟨gb1053,_,none⟩) (by first|exact zt (Kd.N_away HO_6.out (fun _ hk=>hk.2.2.2.2.2))|(rw [za];exact zt (Kd.N_away HO_6.out (fun _ hk=>hk.2.2.2.2.2)))|(show (Addr.add _ _).block≠_;rw [za];exact zt (Kd.N_away HO_6.out (fun _ hk=>hk.2.2.2.2.2)))|(dsimp only;exact zt (Kd.N_away HO_6.out (fun _ hk=>hk.2.2.2.2.2)))) _).trans (hHeld.2.2.2.2.1)))))))),((zr (p:=⟨gb1053,_,none⟩) (by first|exact zt (Kd.N_away HO_6.out (fun _ hk=>hk.2.2.2.2.2))|(rw [za];exact zt (Kd.N_away HO_6.out (fun _ hk=>hk.2.2.2.2.2)))|(show (Addr.add _ _).block≠_;rw [za];exact zt (Kd.N_away HO_6.out (fun _ hk=>hk.2.2.2.2.2)))|(dsimp only;exact zt (Kd.N_away HO_6.out (fun _ hk=>hk.2.2.2.2.2)))) _).trans (((zr (p:=⟨gb1053,_,none⟩) (by first|exact zt (Kd.N_away HO_6.out (fun _ hk=>hk.2.2.2.2.2))|(rw [za];exact zt (Kd.N_away HO_6.out (fun _ hk=>hk.2.2.2.2.2)))|(show (Addr.add _ _).block≠_;rw [za];exact zt (Kd.N_away HO_6.out (fun _ hk=>hk.2.2.2.2.2)))|(dsimp only;exact zt (Kd.N_away HO_6.out (fun _ hk=>hk.2.2.2.2.2)))) _).trans (((zr (p:=⟨gb1053,_,none⟩) (by first|exact zt (Kd.N_away HO_6.out (fun _ hk=>hk.2.2.2.2.2))|(rw [za];exact zt (Kd.N_away HO_6.out (fun _ hk=>hk.2.2.2.2.2)))|(show (Addr.add _ _).block≠_;rw [za];exact zt (Kd.N_away HO_6.out (fun _ hk=>hk.2.2.2.2.2)))|(dsimp only;exact zt (Kd.N_away HO_6.out (fun _ hk=>hk.2.2.2.2.2)))) _).trans (((zr (p:=⟨gb1053,_,none⟩) (by first|exact zt (Kd.N_away HO_6.out (fun _ hk=>hk.2.2.2.2.2))|(rw [za];exact zt (Kd.N_away HO_6.out (fun _ hk=>hk.2.2.2.2.2)))|(show (Addr.add _ _).block≠_;rw [za];exact zt (Kd.N_away HO_6.out (fun _ hk=>hk.2.2.2.2.2)))|(dsimp only;exact zt (Kd.N_away HO_6.out (fun _ hk=>hk.2.2.2.2.2)))) _).trans (hHeld.2.2.2.2.2))))))))⟩ (fun hHeld => ?_)
       clear hK K
       refine yp 14 13 HT_ ?_
       refine yp 15 14 HT_ ?_
       refine done_ (done_of HT_.out (by kernel_rfl)) ?_
       try go_wp2
       go_ret
       exact ⟨ye,yhb⟩
     ·
      rw [if_neg c56] at H
      have c56b0 : decide (x11_3 < (x6_1.length : Int))=false:=decide_eq_false c56
      clear c56
      replace H:=ybi H;obtain ⟨t1041,A107,H⟩:=H
      obtain rfl:=Option.some.inj H
      obtain ⟨Ao108,co108,eo108⟩:=Kd.N_slice HO_6.out
      subst eo108
      go_wp2_with (first|((with_reducible refine gate_callee (f:=42) rfl ?_);refine ygl 94 Try.func42 #[] ?_;(with_reducible refine (psalterylaw11_knows.calls k3  t1041 _ A107.out).mono ?_);rintro e w109 ⟨rfl,hb⟩;refine ⟨_,rfl, ?_⟩;replace HO_4:=yRb HO_4 hb;replace HO_6:=yNb HO_6 hb;replace HO_1009002:=yVb HO_1009002 hb;replace HO_1041002:=yVb HO_1041002 hb;replace BK1008:=ybb BK1008 hb;replace BK1040:=ybb BK1040 hb;replace HB:=ybs hb;(try clear hb)))
      go_ret
      exact ⟨ye,yhb⟩
/-- .. of what came in. -/
theorem psalterylaw11_GainBack.calls (k : Nat) (A0 : Option Addr) (c0 : Nat) (l0 : List (S91)) (r : Bool) (w : World) (hr0 : Kd.C k91 w A0 l0.length l0) (hc0 : l0.length≤c0) (h : psalterylaw11_GainBack.f k l0=some r) :
  Calls Try.prog 13 #[.slice A0 l0.length c0] w fun e w' => e=.returned (.bool r)∧Below w.heap.size w w' :=
 psalterylaw11_GainBack.calls_in k (fun k_=>k_ < w.heap.size) A0 c0 l0 r w (Kd.V_mk hc0 (Kd.C_F k91_heap hr0)) h
def psalteryref05_Fair.f (a0 : Int) (a1 : Int) (a2 : Int) : Option (Bool):=if a0 ≥ 0 then (if a1 > a0 then (if a2 ≥ a1 then (some (decide (a2≤65536))) else (some false)) else (some false)) else (some false)
set_option maxHeartbeats 8000000 in
set_option maxRecDepth 100000 in
theorem psalteryref05_Fair.calls (a0 : Int) (a1 : Int) (a2 : Int) (r : Bool) (w : World) (h : psalteryref05_Fair.f a0 a1 a2=some r) :
  Calls Try.prog 35 #[.int .i64 a0, .int .i64 a1, .int .i64 a2] w fun e w' => e=.returned (.bool r)∧Drawn0 w w' := by
 have H : (if a0 ≥ 0 then (if a1 > a0 then (if a2 ≥ a1 then (some (decide (a2≤65536))) else (some false)) else (some false)) else (some false))=some r:=h
 clear h
 by_cases c4 : a0 ≥ 0
 ·
  rw [if_pos c4] at H
  have c4b0 : decide (0≤a0)=true:=decide_eq_true c4
  clear c4
  by_cases c5 : a1 > a0
  ·
   rw [if_pos c5] at H
   have c5b0 : decide (a0 < a1)=true:=decide_eq_true c5
   clear c5
   by_cases c6 : a2 ≥ a1
   ·
    rw [if_pos c6] at H
    have c6b0 : decide (a1≤a2)=true:=decide_eq_true c6
    clear c6
    obtain rfl:=Option.some.inj H
    go_enter Try.func35,Try.ntmps35
    go_wp2
    go_ret
    exact ⟨yq,yd⟩
   ·
    rw [if_neg c6] at H
    have c6b0 : decide (a1≤a2)=false:=decide_eq_false c6
    clear c6
    obtain rfl:=Option.some.inj H
    go_enter Try.func35,Try.ntmps35
    go_wp2
    go_ret
    exact ⟨yq,yd⟩
  ·
   rw [if_neg c5] at H
   have c5b0 : decide (a0 < a1)=false:=decide_eq_false c5
   clear c5
   obtain rfl:=Option.some.inj H
   go_enter Try.func35,Try.ntmps35
   go_wp2
   go_ret
   exact ⟨yq,yd⟩
 ·
  rw [if_neg c4] at H
  have c4b0 : decide (0≤a0)=false:=decide_eq_false c4
  clear c4
  obtain rfl:=Option.some.inj H
  go_enter Try.func35,Try.ntmps35
  go_wp2
  go_ret
  exact ⟨yq,yd⟩
def psalteryref05_add.l0 : Nat→Int→List Int→Int→Option (List Int)
 | 0,_,_,_=>none
 | k+1,x1,x5,x6=>if x6 ≥ 0 then (if 0≤x6 then (if x6 < (x5.length : Int) then (psalteryref05_add.l0 k (IntKind.u64.wrap (Int.tdiv (IntKind.u64.wrap (x1+(IntKind.u64.wrap (rd x5 x6)))) 256)) (x5.set (x6 : Int).toNat (wrap64 (Int.tmod (IntKind.u64.wrap (x1+(IntKind.u64.wrap (rd x5 x6)))) 256))) (wrap64 (x6 - 1))) else (none)) else (none)) else (some x5)
def psalteryref05_add.f (k : Nat) (l0 : List Int) (a1 : Int) : Option (List Int):=(some (([] : List Int) : List Int)).bind fun y201=>(if y201.length+l0.length < 17592186044416 then ((some (y201 ++ l0 : List Int)).bind fun y204=>(psalteryref05_add.l0 k a1 y204 (wrap64 ((y204.length : Int) - 1)))) else (none))
theorem psalteryref05_add.mono_l : ∀ k,(∀ y0 y1 y2,LeO (psalteryref05_add.l0 k y0 y1 y2) (psalteryref05_add.l0 (k+1) y0 y1 y2))
 | 0=>fun _ _ _ r h=>by simp [psalteryref05_add.l0] at h
 | k+1=>by
  have ih0:=psalteryref05_add.mono_l k
  ·
   intro y0 y1 y2
   unfold psalteryref05_add.l0
   repeat' with_reducible first|apply ih0|apply yLr|apply yLn|apply yLi|apply yLb|intro _
theorem psalteryref05_add.mono : ∀ a0 a1 k,LeO (psalteryref05_add.f k a0 a1) (psalteryref05_add.f (k+1) a0 a1):=by
 intro a0 a1 k
 have ih0:=psalteryref05_add.mono_l k
 unfold psalteryref05_add.f
 repeat' with_reducible first|apply ih0|apply yLr|apply yLn|apply yLi|apply yLb|intro _
set_option maxHeartbeats 8000000 in
set_option maxRecDepth 100000 in
theorem psalteryref05_add.calls (k : Nat) (A0 : Option Addr) (c0 : Nat) (l0 : List Int) (a1 : Int) (r : List Int) (w : World) (hr0 : Kd.C (Kd.int .i64) w A0 l0.length l0) (hc0 : l0.length≤c0) (h : psalteryref05_add.f k l0 a1=some r) :
  Calls Try.prog 56 #[.slice A0 l0.length c0, .int .u64 a1] w fun e w' => ∃ v0_ : Value,e=.returned (v0_)∧Kd.R (Kd.int .i64) 3 w' w.heap.size (fun _=>True) v0_ r∧Below w.heap.size w w' := by
 have HR0:=zm hr0;have HC0:=zm hc0;clear hr0 hc0;have HB:=zm (Below.refl w.heap.size w)
 have H : ((some (([] : List Int) : List Int)).bind fun y201=>(if y201.length+l0.length < 17592186044416 then ((some (y201 ++ l0 : List Int)).bind fun y204=>(psalteryref05_add.l0 k a1 y204 (wrap64 ((y204.length : Int) - 1)))) else (none)))=some r:=h
 clear h
 obtain ⟨y201,hy201⟩ : ∃ y_ : List Int,y_=(([] : List Int)):=⟨_,rfl⟩
 replace H : (if y201.length+l0.length < 17592186044416 then ((some (y201 ++ l0 : List Int)).bind fun y204=>(psalteryref05_add.l0 k a1 y204 (wrap64 ((y204.length : Int) - 1)))) else (none))=some r:=yrw hy201 H
 have Ny201:=zm hy201;clear hy201
 replace H:=yif H;obtain ⟨c3,H⟩:=H
 have LMc3:=zm c3;clear c3
 obtain ⟨y204,hy204⟩ : ∃ y_ : List Int,y_=(y201 ++ l0):=⟨_,rfl⟩
 replace H : (psalteryref05_add.l0 k a1 y204 (wrap64 ((y204.length : Int) - 1)))=some r:=yrw hy204 H
 have Ny204:=zm hy204;clear hy204
 have H' := zm H
 clear H
 go_enter Try.func56,Try.ntmps56
 go_wp2_with (first|((with_reducible refine gate_dst (N:=7) rfl ?_);refine Kd.R_lit (Kd.int .i64) _ 3 ?hg (N:=7) ?hd (xs:=([] : List Int)) (inner := []) (ok:=fun _=>True) (okp:=fun _=>True) ?hr ?hp (fun _ hk=>hk) trivial (Below.refl _ _) (Nat.le_refl _) (by simp) ?_;(case hd=>rfl);(case hg=>rfl);(case hr=>first|(go_simp;done)|(go_simp;rfl));(case hp=>exact (Reps.none _ _));intro v202 w4 ho5 hb hg_ hnew_;clear hg_ hnew_;(first|rw [← Ny201.out] at ho5|(simp only [Int.reduceToNat] at ho5;rw [← Ny201.out] at ho5));have HO203:=zm (Kd.R_lower ho5 (zE yhb));replace HB:=ybs hb;clear hb ho5)|((with_reducible refine gate_builtin (b:=.append) (xs := #[.tmp 7, .tmp 8]) rfl ?_);at_builtin;refine Kd.R_append_rows (Kd.int .i64) (w0:=w) w.heap.size rfl (.tmp 7) (.tmp 8) 31 3 (.int .i64 0) 8 rfl Try.underlying31 info3 rfl (by decide) (by omega) v202 y201 l0 _ _ _ (fun _=>True) (fun _=>False) rfl rfl ?aO ?aR (fun _ _ h=>h) (fun _ h=>h.elim) ?aF ?aB ?aS ?aL ?_;(case aR=>exact ycb HR0);(case aB=>exact yhb);(case aF=>exact (fun _ _=>trivial));(case aO=>exact (yr HO203));(case aS=>exact (zE yhb));(case aL=>have:=LMc3.out;omega);intro v205 w6 ho hb hg hat;rw [← Ny204.out] at ho;replace HB:=zm (hb);have HO206:=zm (ho);clear HO203;clear ho hb hg hat;obtain ⟨Ao7,co7,eo7⟩:=Kd.R_slice HO206.out;subst eo7))
 go_loopg [1,6] k (fun kq v1 v6 w' => ∃ (x1_1 : Int) (x5_1 : List Int) (x6_1 : Int),v1=.int .u64 x1_1∧v6=.int .i64 x6_1∧Aside0 (psalteryref05_add.l0 kq x1_1 x5_1 x6_1=some r)∧Aside0 (kq≤k)∧Aside0 (Kd.R (Kd.int .i64) 3 w' w.heap.size (fun _=>True) (.slice Ao7 y204.length co7) x5_1)∧Aside0 (Below w.heap.size w w'))
 case atStart=>exact ⟨(a1),(y204),(wrap64 ((y204.length : Int) - 1)),yq,yq,H',⟨Nat.le_refl _⟩,⟨yr HO206⟩,⟨yhb⟩⟩
 case round =>
  clear H'
  obtain ⟨x1_1,x5_1,x6_1,rfl,rfl,HA,HK1,HO_5,HB⟩:=hrel
  have hl5_1:=(Kd.R_reads' HO_5.out).1
  rw [hl5_1] at HO_5
  (try simp only [hl5_1])
  obtain ⟨k1,rfl⟩:=ysu gk (fun h=>by subst h;exact absurd HA.out (by simp [psalteryref05_add.l0]))
  have H:=HA.out;clear HA
  simp only [psalteryref05_add.l0] at H
  by_cases c8 : x6_1 ≥ 0
  ·
   rw [if_pos c8] at H
   have c8b0 : decide (0≤x6_1)=true:=decide_eq_true c8
   clear c8
   replace H:=yif H;obtain ⟨c9,H⟩:=H
   have c9b0 : decide (0≤x6_1)=true:=decide_eq_true c9
   clear c9
   replace H:=yif H;obtain ⟨c10,H⟩:=H
   have c10b0 : decide (x6_1 < (x5_1.length : Int))=true:=decide_eq_true c10
   clear c10
   obtain ⟨y208,hy208⟩ : ∃ y_ : List Int,y_=(x5_1.set (x6_1 : Int).toNat (wrap64 (Int.tmod (IntKind.u64.wrap (x1_1+(IntKind.u64.wrap (rd x5_1 x6_1)))) 256))):=⟨_,rfl⟩
   replace H : (psalteryref05_add.l0 k1 (IntKind.u64.wrap (Int.tdiv (IntKind.u64.wrap (x1_1+(IntKind.u64.wrap (rd x5_1 x6_1)))) 256)) y208 (wrap64 (x6_1 - 1)))=some r:=yrw hy208 H
   have Ny208:=zm hy208;clear hy208
   have H' := zm H
   clear H
   have p207 : 0≤(x6_1 : Int):=yt
   have q207 : x6_1 < (x5_1.length : Int):=yt
   obtain ⟨ad207,e207,hx207_0⟩:=Kd.at_int (Kd.R_reads' HO_5.out).2.2 x6_1 p207 q207
   cases e207
   replace p207:=eq_true p207
   replace q207:=eq_true q207
   have p11 : 0≤(x6_1 : Int):=yt
   have q11 : (x6_1 : Int) < ((x5_1.length : Int) : Int):=yt
   obtain ⟨go11,co11,eo11,gb11,gl11,cl11,HG11⟩:=Kd.R_form HO_5.out (by omega)
   (first|cases eo11|(injection eo11 with ea_ en_ ec_;(first|subst ea_|(injection ea_ with ea_;subst ea_));subst ec_;clear en_))
   have GB11:=zm gb11;have GG11:=zm HG11;clear gb11 gl11 HG11
   (first|simp only [add_plain] at hx207_0|skip)
   obtain ⟨hx11_0,hf11_0⟩:=Kd.R_celln 0 HO_5.out (x6_1 : Int) p11 q11
   replace p11:=eq_true p11
   replace q11:=eq_true q11
   have HP12:=Kd.R_putg HO_5.out (x6_1 : Int) (wrap64 (Int.tmod (IntKind.u64.wrap (x1_1+(IntKind.u64.wrap (rd x5_1 x6_1)))) 256))
   go_wp2_with (first|((with_reducible refine gate_store (t:=3) (p:=29) rfl ?_);refine store_event (t:=3) (p:=29) (v := ?vo_w13) (w1:=(wr.setCell ⟨go11,(x6_1 : Int).toNat,none⟩ (.int .i64 (wrap64 (Int.tmod (IntKind.u64.wrap (x1_1+(IntKind.u64.wrap (rd x5_1 x6_1)))) 256))))) ?hg ?ho ?hn ?hr ?_;(case ho=>rfl);(case hg=>rfl);(case hn=>rfl);(case hr=>first|(go_simp;done)|(go_simp;rfl));intro w13 hw;have hg : wr.grownBy w13 (some go11):=(by rw [hw];exact HP12.2);have hp_ : Kd.R (Kd.int .i64) 3 w13 w.heap.size (fun _=>True) (.slice (some ⟨go11,0,none⟩) x5_1.length co7) y208:=(by rw [hw,Ny208.out];exact HP12.1);clear HP12;replace HO_5:=zm (hp_);replace HB:=zm ((by rw [hw];exact zk (HB.out) GB11.out : Below w.heap.size w w13));clear hg hw hp_))
   (try simp only [← hl5_1])
   go_roundg k1
   case measure=>exact yom1 HK1
   case rel=>exact ⟨(IntKind.u64.wrap (Int.tdiv (IntKind.u64.wrap (x1_1+(IntKind.u64.wrap (rd x5_1 x6_1)))) 256)),(y208),(wrap64 (x6_1 - 1)),yq,yq,H',⟨yom1 HK1⟩,⟨by (try simp only [hl5_1]);(with_reducible repeat (first|apply zo|apply zp|apply zq));exact HO_5.out⟩,⟨yhb⟩⟩
  ·
   rw [if_neg c8] at H
   have c8b0 : decide (0≤x6_1)=false:=decide_eq_false c8
   clear c8
   obtain rfl:=Option.some.inj H
   go_wp2
   go_ret
   exact ⟨_,ye,yr HO_5,yhb⟩
def psalteryref05_part.f (a0 : Int) (a1 : Int) (a2 : Int) (a3 : Int) : Option (Int × Int):=if (IntKind.u64.wrap (a3))=0 then (none) else (if a2=a3 then (some (IntKind.u64.wrap (a0 - (IntKind.u64.wrap ((IntKind.u64.wrap (Int.tdiv a0 (IntKind.u64.wrap (a3)))) * (IntKind.u64.wrap (a1))))),IntKind.u64.wrap ((IntKind.u64.wrap (Int.tdiv a0 (IntKind.u64.wrap (a3)))) * (IntKind.u64.wrap (a1))))) else (some (IntKind.u64.wrap ((IntKind.u64.wrap (Int.tdiv a0 (IntKind.u64.wrap (a3)))) * (IntKind.u64.wrap (wrap64 (a2 - a1)))),IntKind.u64.wrap ((IntKind.u64.wrap (Int.tdiv a0 (IntKind.u64.wrap (a3)))) * (IntKind.u64.wrap (a1))))))
set_option maxHeartbeats 8000000 in
set_option maxRecDepth 100000 in
theorem psalteryref05_part.calls (a0 : Int) (a1 : Int) (a2 : Int) (a3 : Int) (r1 : Int) (r2 : Int) (w : World) (h : psalteryref05_part.f a0 a1 a2 a3=some (r1,r2)) :
  Calls Try.prog 55 #[.int .u64 a0, .int .i64 a1, .int .i64 a2, .int .i64 a3] w fun e w' => e=.returned (.tuple #[.int .u64 r1, .int .u64 r2])∧Drawn0 w w' := by
 have H : (if (IntKind.u64.wrap (a3))=0 then (none) else (if a2=a3 then (some (IntKind.u64.wrap (a0 - (IntKind.u64.wrap ((IntKind.u64.wrap (Int.tdiv a0 (IntKind.u64.wrap (a3)))) * (IntKind.u64.wrap (a1))))),IntKind.u64.wrap ((IntKind.u64.wrap (Int.tdiv a0 (IntKind.u64.wrap (a3)))) * (IntKind.u64.wrap (a1))))) else (some (IntKind.u64.wrap ((IntKind.u64.wrap (Int.tdiv a0 (IntKind.u64.wrap (a3)))) * (IntKind.u64.wrap (wrap64 (a2 - a1)))),IntKind.u64.wrap ((IntKind.u64.wrap (Int.tdiv a0 (IntKind.u64.wrap (a3)))) * (IntKind.u64.wrap (a1)))))))=some (r1,r2):=h
 clear h
 replace H:=yie H;obtain ⟨c5,H⟩:=H
 have c5b0 : ((IntKind.u64.wrap (a3)) == 0)=false:=beq_eq_false_iff_ne.mpr c5
 have c5b1 : ((IntKind.u64.wrap (a3)) != 0)=true:=bne_iff_ne.mpr c5
 by_cases c6 : a2=a3
 ·
  rw [if_pos c6] at H
  have c6b0 : (a2 == a3)=true:=beq_iff_eq.mpr c6
  have c6b1 : (a2 != a3)=false:=bne_eq_false_iff_eq.mpr c6
  clear c6
  simp only [Option.some.injEq,Prod.mk.injEq] at H
  obtain ⟨rfl,rfl⟩:=H
  go_enter Try.func55,Try.ntmps55
  go_wp2
  go_ret2
  exact ⟨yq,yd⟩
 ·
  rw [if_neg c6] at H
  have c6b0 : (a2 == a3)=false:=beq_eq_false_iff_ne.mpr c6
  have c6b1 : (a2 != a3)=true:=bne_iff_ne.mpr c6
  simp only [Option.some.injEq,Prod.mk.injEq] at H
  obtain ⟨rfl,rfl⟩:=H
  go_enter Try.func55,Try.ntmps55
  go_wp2
  go_ret2
  exact ⟨yq,yd⟩
def psalteryref05_Put.l0 : Nat→Int→List Int→Option (Int × List Int × Int)
 | 0,_,_=>none
 | k+1,x218000,x218001=>if x218000 < 16777216 then (if x218001.length < 17592186044416 then (psalteryref05_Put.l0 k (IntKind.u64.wrap (x218000 * 256)) (x218001 ++ [0])) else (none)) else (some (x218000,x218001,0))
def psalteryref05_Put.f (k : Nat) (a0_0 : Int) (l0_1 : List Int) (a1 : Int) (a2 : Int) (a3 : Int) : Option (Int × List Int × Int):=(psalteryref05_Fair.f a1 a2 a3).bind fun t211=>(if t211=true then (if (l0_1.length : Int) ≥ 4000 then (some (a0_0,l0_1,3)) else ((psalteryref05_part.f a0_0 a1 a2 a3).bind fun bt212=>((psalteryref05_add.f k l0_1 bt212.2).bind fun t214=>(psalteryref05_Put.l0 k bt212.1 t214)))) else (some (a0_0,l0_1,1)))
theorem psalteryref05_Put.mono_l : ∀ k,(∀ y0 y1,LeO (psalteryref05_Put.l0 k y0 y1) (psalteryref05_Put.l0 (k+1) y0 y1))
 | 0=>fun _ _ r h=>by simp [psalteryref05_Put.l0] at h
 | k+1=>by
  have ih0:=psalteryref05_Put.mono_l k
  ·
   intro y0 y1
   unfold psalteryref05_Put.l0
   repeat' with_reducible first|apply ih0|apply psalteryref05_add.mono|apply yLr|apply yLn|apply yLi|apply yLb|intro _
theorem psalteryref05_Put.mono : ∀ a0 a1 a2 a3 a4 k,LeO (psalteryref05_Put.f k a0 a1 a2 a3 a4) (psalteryref05_Put.f (k+1) a0 a1 a2 a3 a4):=by
 intro a0 a1 a2 a3 a4 k
 have ih0:=psalteryref05_Put.mono_l k
 unfold psalteryref05_Put.f
 repeat' with_reducible first|apply ih0|apply psalteryref05_add.mono|apply yLr|apply yLn|apply yLi|apply yLb|intro _
set_option maxHeartbeats 8000000 in
set_option maxRecDepth 100000 in
theorem psalteryref05_Put.calls (k : Nat) (a0_0 : Int) (P0_1_ : Nat→Prop) (A0_1 : Option Addr) (c0_1 : Nat) (l0_1 : List Int) (a1 : Int) (a2 : Int) (a3 : Int) (r1 : Int) (r2 : List Int) (r3 : Int) (w : World) (hs0_1 : Kd.V (Kd.int .i64) 3 w w.heap.size (fun k_=>P0_1_ k_) (.slice A0_1 l0_1.length c0_1) l0_1) (h : psalteryref05_Put.f k a0_0 l0_1 a1 a2 a3=some (r1,r2,r3)) :
  Calls Try.prog 19 #[.agg #[.int .u64 a0_0, .slice A0_1 l0_1.length c0_1], .int .i64 a1, .int .i64 a2, .int .i64 a3] w fun e w' => ∃ v1_ : Value,e=.returned (.tuple #[.agg #[.int .u64 r1,v1_], .int .i64 r3])∧Kd.V (Kd.int .i64) 3 w' w.heap.size (fun k_=>(P0_1_ k_∨w.heap.size≤k_)) v1_ r2∧Below w.heap.size w w' := by
 have hu33:=Try.underlying33
 have HO0_1:=zm (show Kd.V (Kd.int .i64) 3 w w.heap.size (fun k_=>(P0_1_ k_∨w.heap.size≤k_)) (.slice A0_1 l0_1.length c0_1) l0_1 from zy hs0_1 (fun k_ hk => .inl hk))
 have HB:=zm (Below.refl w.heap.size w)
 have H : ((psalteryref05_Fair.f a1 a2 a3).bind fun t211=>(if t211=true then (if (l0_1.length : Int) ≥ 4000 then (some (a0_0,l0_1,3)) else ((psalteryref05_part.f a0_0 a1 a2 a3).bind fun bt212=>((psalteryref05_add.f k l0_1 bt212.2).bind fun t214=>(psalteryref05_Put.l0 k bt212.1 t214)))) else (some (a0_0,l0_1,1))))=some (r1,r2,r3):=h
 clear h
 replace H:=ybi H;obtain ⟨t211,A5,H⟩:=H
 by_cases c6 : t211=true
 ·
  subst c6
  rw [if_pos rfl] at H
  by_cases c7 : (l0_1.length : Int) ≥ 4000
  ·
   rw [if_pos c7] at H
   have c7b0 : decide (4000≤(l0_1.length : Int))=true:=decide_eq_true c7
   have c7b1 : decide (4000≤l0_1.length)=true:=decide_eq_true (by omega)
   clear c7
   simp only [Option.some.injEq,Prod.mk.injEq] at H
   obtain ⟨rfl,rfl,rfl⟩:=H
   go_enter Try.func19,Try.ntmps19
   go_wp2_with (first|((with_reducible refine gate_dst (N:=4) rfl ?_);refine ybx 4 #[.int .u64 a0_0, .slice A0_1 l0_1.length c0_1] 33 ?_;intro gb209 hg w8 hbox hb;replace HO0_1:=yVe HO0_1 hg hb;have BK209:=zm (hbox);have GW209:=ygw hg;have GE209:=ygw hg;replace HB:=ybs hb;clear hb hbox hg)|((with_reducible refine gate_dst (N:=8) rfl ?_);refine ybx 8 #[.int .u64 0, .slice none 0 0] 33 ?_;intro gb210 hg w9 hbox hb;replace HO0_1:=yVe HO0_1 hg hb;have BK210:=zm (hbox);have GW210:=ygw hg;have GE210:=ygw hg;replace HB:=ybs hb;have NB209_210:=ynl BK209 hg;have NB210_209:=yng BK209 hg;replace BK209:=ybb BK209 hb;clear hb hbox hg)|((with_reducible refine gate_callee (f:=35) rfl ?_);refine ygl 16 Try.func35 #[.int .i64 a1, .int .i64 a2, .int .i64 a3] ?_;(with_reducible refine (psalteryref05_Fair.calls a1 a2 a3 true _ A5.out).mono ?_);rintro e w' ⟨rfl,⟨nd,rfl⟩⟩;refine ⟨_,rfl, ?_⟩;(try (rw [drewN_self w9];generalize hq_ : World.drewN w9 _=w9;have n0_ : Aside0 (Kd.V (Kd.int .i64) 3 w9 w.heap.size (fun k_=>(P0_1_ k_∨w.heap.size≤k_)∧k_≠gb209∧k_≠gb210) (.slice A0_1 l0_1.length c0_1) l0_1):=⟨by rw [← hq_];exact (yV0 HO0_1)⟩;have n1_ : Aside0 (w9.heap[gb209]? = some (.cells #[.int .u64 a0_0, .slice A0_1 l0_1.length c0_1] 33 (0,0))):=⟨by rw [← hq_];exact (yk BK209)⟩;have n2_ : Aside0 (w9.heap[gb210]? = some (.cells #[.int .u64 0, .slice none 0 0] 33 (0,0))):=⟨by rw [← hq_];exact (yk BK210)⟩;have n3_ : Aside0 (Below w.heap.size w w9):=⟨by rw [← hq_];exact yhb⟩;clear HO0_1 BK209 BK210 HB hq_;have HO0_1:=n0_;have BK209:=n1_;have BK210:=n2_;have HB:=n3_;clear n0_ n1_ n2_ n3_));have:=NB209_210.out;have:=NB210_209.out;obtain ⟨hcz11_0,hcz11_1,hfz11_0,hfz11_1⟩:=yc2 BK209;obtain ⟨hcz12_0,hcz12_1,hfz12_0,hfz12_1⟩:=yc2 BK210))
   refine bodyPost_ret (results_ct rfl _ _ gb210 33 #[.int .u64 a0_0, .slice A0_1 l0_1.length c0_1] (0,0) _ rfl (ykp BK210) Try.underlying33 rfl (by kernel_rfl)) rfl ?_
   exact ⟨_,ye,yV0 HO0_1,yhb⟩
  ·
   rw [if_neg c7] at H
   have c7b0 : decide (4000≤(l0_1.length : Int))=false:=decide_eq_false c7
   have c7b1 : decide (4000≤l0_1.length)=false:=decide_eq_false (by omega)
   clear c7
   replace H:=ybi H;obtain ⟨⟨t212,t213⟩,A13,H⟩:=H
   try dsimp only at H
   replace H:=ybi H;obtain ⟨t214,A14,H⟩:=H
   have H' := zm H
   clear H
   go_enter Try.func19,Try.ntmps19
   go_wp2_with (first|((with_reducible refine gate_dst (N:=4) rfl ?_);refine ybx 4 #[.int .u64 a0_0, .slice A0_1 l0_1.length c0_1] 33 ?_;intro gb209 hg w15 hbox hb;replace HO0_1:=yVe HO0_1 hg hb;have BK209:=zm (hbox);have GW209:=ygw hg;have GE209:=ygw hg;replace HB:=ybs hb;clear hb hbox hg)|((with_reducible refine gate_dst (N:=8) rfl ?_);refine ybx 8 #[.int .u64 0, .slice none 0 0] 33 ?_;intro gb210 hg w16 hbox hb;replace HO0_1:=yVe HO0_1 hg hb;have BK210:=zm (hbox);have GW210:=ygw hg;have GE210:=ygw hg;replace HB:=ybs hb;have NB209_210:=ynl BK209 hg;have NB210_209:=yng BK209 hg;replace BK209:=ybb BK209 hb;clear hb hbox hg)|((with_reducible refine gate_callee (f:=35) rfl ?_);refine ygl 16 Try.func35 #[.int .i64 a1, .int .i64 a2, .int .i64 a3] ?_;(with_reducible refine (psalteryref05_Fair.calls a1 a2 a3 true _ A5.out).mono ?_);rintro e w' ⟨rfl,⟨nd,rfl⟩⟩;refine ⟨_,rfl, ?_⟩;(try (rw [drewN_self w16];generalize hq_ : World.drewN w16 _=w16;have n0_ : Aside0 (Kd.V (Kd.int .i64) 3 w16 w.heap.size (fun k_=>(P0_1_ k_∨w.heap.size≤k_)∧k_≠gb209∧k_≠gb210) (.slice A0_1 l0_1.length c0_1) l0_1):=⟨by rw [← hq_];exact (yV0 HO0_1)⟩;have n1_ : Aside0 (w16.heap[gb209]? = some (.cells #[.int .u64 a0_0, .slice A0_1 l0_1.length c0_1] 33 (0,0))):=⟨by rw [← hq_];exact (yk BK209)⟩;have n2_ : Aside0 (w16.heap[gb210]? = some (.cells #[.int .u64 0, .slice none 0 0] 33 (0,0))):=⟨by rw [← hq_];exact (yk BK210)⟩;have n3_ : Aside0 (Below w.heap.size w w16):=⟨by rw [← hq_];exact yhb⟩;clear HO0_1 BK209 BK210 HB hq_;have HO0_1:=n0_;have BK209:=n1_;have BK210:=n2_;have HB:=n3_;clear n0_ n1_ n2_ n3_));have:=NB209_210.out;have:=NB210_209.out;obtain ⟨hcz18_0,hcz18_1,hfz18_0,hfz18_1⟩:=yc2 BK209)|((with_reducible refine gate_callee (f:=55) rfl ?_);refine ygl 30 Try.func55 #[.int .u64 a0_0, .int .i64 a1, .int .i64 a2, .int .i64 a3] ?_;(with_reducible refine (psalteryref05_part.calls a0_0 a1 a2 a3 t212 t213 _ A13.out).mono ?_);rintro e w' ⟨rfl,⟨nd,rfl⟩⟩;refine ⟨_,rfl, ?_⟩;(try (rw [drewN_self w16];generalize hq_ : World.drewN w16 _=w16;have n0_ : Aside0 (Kd.V (Kd.int .i64) 3 w16 w.heap.size (fun k_=>(P0_1_ k_∨w.heap.size≤k_)∧k_≠gb209∧k_≠gb210) (.slice A0_1 l0_1.length c0_1) l0_1):=⟨by rw [← hq_];exact (yV0 HO0_1)⟩;have n1_ : Aside0 (w16.heap[gb209]? = some (.cells #[.int .u64 a0_0, .slice A0_1 l0_1.length c0_1] 33 (0,0))):=⟨by rw [← hq_];exact (yk BK209)⟩;have n2_ : Aside0 (w16.heap[gb210]? = some (.cells #[.int .u64 0, .slice none 0 0] 33 (0,0))):=⟨by rw [← hq_];exact (yk BK210)⟩;have n3_ : Aside0 (Below w.heap.size w w16):=⟨by rw [← hq_];exact yhb⟩;clear HO0_1 BK209 BK210 HB hq_;have HO0_1:=n0_;have BK209:=n1_;have BK210:=n2_;have HB:=n3_;clear n0_ n1_ n2_ n3_));obtain ⟨hcz19_0,hcz19_1,hfz19_0,hfz19_1⟩:=yc2 BK209)|((with_reducible refine gate_callee (f:=56) rfl ?_);refine ygl 37 Try.func56 #[.slice A0_1 l0_1.length c0_1, .int .u64 t213] ?_;(with_reducible refine (psalteryref05_add.calls k _ _ l0_1 t213 t214 _ ?side1 ?side2 A14.out).mono ?_);(case side1=>exact yce (Kd.V_reads' HO0_1.out).2.2);(case side2=>exact (Kd.V_reads' HO0_1.out).2.1);rintro e w20 ⟨v215,rfl,ho0,hb⟩;refine ⟨_,rfl, ?_⟩;replace HO0_1:=zm (Kd.V_elder' (yr HO0_1) (Kd.R_base ho0) hb);have HO216:=zm (Kd.R_lower (Kd.R_newM (M:=fun k_=>(w.heap.size≤k_)) ho0 (zE yhb) (fun k_ h_=>h_)) (zE yhb));replace BK209:=ybb BK209 hb;replace BK210:=ybb BK210 hb;replace HB:=ybs hb;(try clear hb);(try clear ho0);obtain ⟨Ao21,co21,eo21⟩:=Kd.R_slice HO216.out;subst eo21)|((with_reducible refine gate_dst (N:=12) rfl ?_);refine ybx 12 #[.int .u64 0, .slice none 0 0] 33 ?_;intro gb217 hg w22 hbox hb;replace HO0_1:=yVe HO0_1 hg hb;replace HO216:=yRb HO216 hb;have BK217:=zm (hbox);have GW217:=ygw hg;have GE217:=ygw hg;replace HB:=ybs hb;have NB209_217:=ynl BK209 hg;have NB217_209:=yng BK209 hg;replace BK209:=ybb BK209 hb;have NB210_217:=ynl BK210 hg;have NB217_210:=yng BK210 hg;replace BK210:=ybb BK210 hb;clear hb hbox hg;have:=NB217_209.out;have:=NB209_217.out;have:=NB217_210.out;have:=NB210_217.out;obtain ⟨hcz25_0,hcz25_1,hfz25_0,hfz25_1⟩:=yc2 BK217))
   go_loopg [] k (fun kq w' => ∃ (x218000_1 : Int) (x218001_1 : List Int) (u218001 : Value),Aside0 (psalteryref05_Put.l0 kq x218000_1 x218001_1=some (r1,r2,r3))∧Aside0 (kq≤k)∧Aside0 (Kd.V (Kd.int .i64) 3 w' w.heap.size (fun k_=>(P0_1_ k_∨w.heap.size≤k_)∧some k_≠(u218001 : Value).ownBlock∧k_≠gb209∧k_≠gb210∧k_≠gb217) (.slice A0_1 l0_1.length c0_1) l0_1)∧Aside0 (Kd.R (Kd.int .i64) 3 w' w.heap.size (fun k_=>(w.heap.size≤k_)) u218001 x218001_1)∧Aside0 (w'.heap[gb209]? = some (.cells #[.int .u64 a0_0,(.slice A0_1 l0_1.length c0_1)] 33 (0,0)))∧Aside0 (w'.heap[gb210]? = some (.cells #[.int .u64 0,(.slice none 0 0)] 33 (0,0)))∧Aside0 (w'.heap[gb217]? = some (.cells #[.int .u64 x218000_1,u218001] 33 (0,0)))∧Aside0 (Below w.heap.size w w'))
   case atStart=>exact ⟨(t212),(t214),(.slice Ao21 t214.length co21),H',⟨Nat.le_refl _⟩,⟨yV0 HO0_1⟩,⟨yR1 HO216 BK217⟩,⟨yk BK209⟩,⟨yk BK210⟩,⟨ykp BK217⟩,⟨yhb⟩⟩
   case round =>
    clear H'
    try clear c7b0
    try clear c7b1
    try clear hcz11_0
    try clear hcz11_1
    try clear hcz12_0
    try clear hcz12_1
    try clear hcz18_0
    try clear hcz18_1
    try clear hcz19_0
    try clear hcz19_1
    try clear hcz25_0
    try clear hcz25_1
    try clear hfz11_0
    try clear hfz11_1
    try clear hfz12_0
    try clear hfz12_1
    try clear hfz18_0
    try clear hfz18_1
    try clear hfz19_0
    try clear hfz19_1
    try clear hfz25_0
    try clear hfz25_1
    obtain ⟨x218000_1,x218001_1,u218001,HA,HK1,HO_210001,HO_218001,BK209,BK210,BK217,HB⟩:=hrel
    obtain ⟨k1,rfl⟩:=ysu gk (fun h=>by subst h;exact absurd HA.out (by simp [psalteryref05_Put.l0]))
    have H:=HA.out;clear HA
    simp only [psalteryref05_Put.l0] at H
    by_cases c26 : x218000_1 < 16777216
    ·
     rw [if_pos c26] at H
     have c26b0 : decide (x218000_1 < 16777216)=true:=decide_eq_true c26
     clear c26
     replace H:=yif H;obtain ⟨c27,H⟩:=H
     have LMc27:=zm c27;clear c27
     obtain ⟨y218,hy218⟩ : ∃ y_ : List Int,y_=(x218001_1 ++ [0]):=⟨_,rfl⟩
     replace H : (psalteryref05_Put.l0 k1 (IntKind.u64.wrap (x218000_1 * 256)) y218)=some (r1,r2,r3):=yrw hy218 H
     have Ny218:=zm hy218;clear hy218
     have H' := zm H
     clear H
     have:=NB217_209.out
     have:=NB209_217.out
     have:=NB217_210.out
     have:=NB210_217.out
     obtain ⟨_,_,_,_⟩:=yc2 BK217
     go_wp2_with (first|((with_reducible refine gate_builtin (b:=.append) (xs := #[.tmp 47, .tmp 48]) rfl ?_);at_builtin;refine Kd.R_append (Kd.int .i64) (w0:=w) w.heap.size rfl (.tmp 47) (.tmp 48) 31 3 (.int .i64 0) 8 rfl Try.underlying31 info3 rfl (by decide) (by omega) u218001 x218001_1 0 [.int .i64 0] (fun k_=>(w.heap.size≤k_)) (fun _=>False) rfl (by first|(go_simp;done)|(go_simp;rfl)) ?aP (fun _ hk=>hk.elim) ?aF ?aO ?aB ?aS ?aL ?_;(case aP=>exact rfl);(case aB=>exact yhb);(case aF=>exact (fun k_ hk=>(Nat.le_trans (zE yhb) hk)));(case aO=>exact (yR1 HO_218001 BK217));(case aS=>exact (zE yhb));(case aL=>have:=LMc27.out;omega);intro v219 w31 ho hb hg hat;rw [← Ny218.out] at ho;replace HO_210001:=zm (Kd.V_afterv (ok:=(fun k_=>(P0_1_ k_∨w.heap.size≤k_)∧k_≠gb209∧k_≠gb210∧k_≠gb217)) (yV0 HO_210001) hg hat);replace BK209:=zm (blk_grown (yk BK209) hg (zu HO_218001.out BK209.out (by decide)));replace BK210:=zm (blk_grown (yk BK210) hg (zu HO_218001.out BK210.out (by decide)));replace BK217:=zm (blk_grown (g:=gb217) (o:=.cells #[.int .u64 (IntKind.u64.wrap (x218000_1 * 256)),u218001] 33 (0,0)) (ykp BK217) hg (zu HO_218001.out BK217.out (by decide)));replace HB:=zm (hb);have HO220:=zm (ho);clear HO_218001;clear ho hb hg hat;obtain ⟨Ao32,co32,eo32⟩:=Kd.R_slice HO220.out;subst eo32;obtain ⟨_,_,_,_⟩:=yc2 BK217))
     go_roundg k1
     case measure=>exact yom1 HK1
     case rel=>exact ⟨(IntKind.u64.wrap (x218000_1 * 256)),(y218),(.slice Ao32 y218.length co32),H',⟨yom1 HK1⟩,⟨yV0 HO_210001⟩,⟨yR1 HO220 BK217⟩,⟨yk BK209⟩,⟨yk BK210⟩,⟨ykp BK217⟩,⟨yhb⟩⟩
    ·
     rw [if_neg c26] at H
     have c26b0 : decide (x218000_1 < 16777216)=false:=decide_eq_false c26
     clear c26
     simp only [Option.some.injEq,Prod.mk.injEq] at H
     obtain ⟨rfl,rfl,rfl⟩:=H
     have:=NB217_209.out
     have:=NB209_217.out
     have:=NB217_210.out
     have:=NB210_217.out
     obtain ⟨_,_,_,_⟩:=yc2 BK217
     have:=NB210_209.out
     have:=NB209_210.out
     obtain ⟨_,_,_,_⟩:=yc2 BK210
     obtain ⟨Ao39,co39,eo39⟩:=Kd.R_slice HO_218001.out
     subst eo39
     go_wp2
     refine bodyPost_ret (results_ct rfl _ _ gb210 33 #[.int .u64 x218000_1, .slice Ao39 x218001_1.length co39] (0,0) _ rfl (ykp BK210) Try.underlying33 rfl (by kernel_rfl)) rfl ?_
     exact ⟨_,ye,zy (Kd.R_V (by (with_reducible repeat (first|apply zo|apply zp|apply zq));exact zG (zH (p:=⟨gb210,1,none⟩) (zH (p:=⟨gb210,0,none⟩) (Kd.R_types HO_218001.out BK210.out (by decide)) (fun _ hk=>hk.2) (.int .u64 x218000_1)) (fun _ hk=>hk.2) (.slice Ao39 x218001_1.length co39)) (fun _ hk=>(by first|exact hk.1|(have h_:=hk;(try simp only [and_assoc] at h_);first|exact h_.1|exact h_.2|exact h_.2.1|exact h_.2.2|exact h_.2.2.1|exact h_.2.2.2|exact h_.2.2.2.1|exact h_.2.2.2.2))))) (fun k_ hk=>by first|exact ⟨(.inr (hk.1)),hk.2⟩|exact (.inr (hk))),yhb⟩
 ·
  replace c6:=Bool.eq_false_iff.mpr c6
  subst c6
  rw [ynf] at H
  simp only [Option.some.injEq,Prod.mk.injEq] at H
  obtain ⟨rfl,rfl,rfl⟩:=H
  go_enter Try.func19,Try.ntmps19
  go_wp2_with (first|((with_reducible refine gate_dst (N:=4) rfl ?_);refine ybx 4 #[.int .u64 a0_0, .slice A0_1 l0_1.length c0_1] 33 ?_;intro gb209 hg w40 hbox hb;replace HO0_1:=yVe HO0_1 hg hb;have BK209:=zm (hbox);have GW209:=ygw hg;have GE209:=ygw hg;replace HB:=ybs hb;clear hb hbox hg)|((with_reducible refine gate_dst (N:=8) rfl ?_);refine ybx 8 #[.int .u64 0, .slice none 0 0] 33 ?_;intro gb210 hg w41 hbox hb;replace HO0_1:=yVe HO0_1 hg hb;have BK210:=zm (hbox);have GW210:=ygw hg;have GE210:=ygw hg;replace HB:=ybs hb;have NB209_210:=ynl BK209 hg;have NB210_209:=yng BK209 hg;replace BK209:=ybb BK209 hb;clear hb hbox hg)|((with_reducible refine gate_callee (f:=35) rfl ?_);refine ygl 16 Try.func35 #[.int .i64 a1, .int .i64 a2, .int .i64 a3] ?_;(with_reducible refine (psalteryref05_Fair.calls a1 a2 a3 false _ A5.out).mono ?_);rintro e w' ⟨rfl,⟨nd,rfl⟩⟩;refine ⟨_,rfl, ?_⟩;(try (rw [drewN_self w41];generalize hq_ : World.drewN w41 _=w41;have n0_ : Aside0 (Kd.V (Kd.int .i64) 3 w41 w.heap.size (fun k_=>(P0_1_ k_∨w.heap.size≤k_)∧k_≠gb209∧k_≠gb210) (.slice A0_1 l0_1.length c0_1) l0_1):=⟨by rw [← hq_];exact (yV0 HO0_1)⟩;have n1_ : Aside0 (w41.heap[gb209]? = some (.cells #[.int .u64 a0_0, .slice A0_1 l0_1.length c0_1] 33 (0,0))):=⟨by rw [← hq_];exact (yk BK209)⟩;have n2_ : Aside0 (w41.heap[gb210]? = some (.cells #[.int .u64 0, .slice none 0 0] 33 (0,0))):=⟨by rw [← hq_];exact (yk BK210)⟩;have n3_ : Aside0 (Below w.heap.size w w41):=⟨by rw [← hq_];exact yhb⟩;clear HO0_1 BK209 BK210 HB hq_;have HO0_1:=n0_;have BK209:=n1_;have BK210:=n2_;have HB:=n3_;clear n0_ n1_ n2_ n3_));have:=NB209_210.out;have:=NB210_209.out;obtain ⟨_,_,_,_⟩:=yc2 BK209;obtain ⟨_,_,_,_⟩:=yc2 BK210))
  refine bodyPost_ret (results_ct rfl _ _ gb210 33 #[.int .u64 a0_0, .slice A0_1 l0_1.length c0_1] (0,0) _ rfl (ykp BK210) Try.underlying33 rfl (by kernel_rfl)) rfl ?_
  exact ⟨_,ye,yV0 HO0_1,yhb⟩
def psalteryref05_PutNum.j0 : Nat→Int→Int→Bool→Int→List Int→Option (Int × List Int × Int)
 | 0,_,_,_,_,_=>none
 | k+1,x1,x2,x22,x495000,x495001=>if x22=true then (some (x495000,x495001,1)) else (if x2≤65536 then ((psalteryref05_Put.f k x495000 x495001 (wrap64 (x1)) (wrap64 ((wrap64 (x1))+1)) (wrap64 (x2))).bind fun bt496=>(some (bt496.1,bt496.2.1,bt496.2.2))) else ((psalteryref05_Put.f k x495000 x495001 (wrap64 (IntKind.u64.wrap (Int.tdiv x1 65536))) (wrap64 ((wrap64 (IntKind.u64.wrap (Int.tdiv x1 65536)))+1)) (wrap64 ((wrap64 (IntKind.u64.wrap (Int.tdiv (IntKind.u64.wrap (x2 - 1)) 65536)))+1))).bind fun bt501=>(if bt501.2.2=0 then ((psalteryref05_Put.f k bt501.1 bt501.2.1 (wrap64 (Int.tmod x1 65536)) (wrap64 ((wrap64 (Int.tmod x1 65536))+1)) 65536).bind fun bt507=>(if bt507.2.2=0 then (some (bt507.1,bt507.2.1,0)) else (some (x495000,x495001,bt507.2.2)))) else (some (x495000,x495001,bt501.2.2)))))
def psalteryref05_PutNum.f (k : Nat) (a0_0 : Int) (l0_1 : List Int) (a1 : Int) (a2 : Int) : Option (Int × List Int × Int):=if a2=0 then (psalteryref05_PutNum.j0 k a1 a2 true a0_0 l0_1) else (if a2 > 4294967296 then (psalteryref05_PutNum.j0 k a1 a2 true a0_0 l0_1) else (psalteryref05_PutNum.j0 k a1 a2 (decide (a1 ≥ a2)) a0_0 l0_1))
theorem psalteryref05_PutNum.mono_l : ∀ k,(∀ y0 y1 y2 y3 y4,LeO (psalteryref05_PutNum.j0 k y0 y1 y2 y3 y4) (psalteryref05_PutNum.j0 (k+1) y0 y1 y2 y3 y4))
 | 0=>fun _ _ _ _ _ r h=>by simp [psalteryref05_PutNum.j0] at h
 | k+1=>by
  have ih0:=psalteryref05_PutNum.mono_l k
  ·
   intro y0 y1 y2 y3 y4
   unfold psalteryref05_PutNum.j0
   repeat' with_reducible first|apply ih0|apply psalteryref05_Put.mono|apply yLr|apply yLn|apply yLi|apply yLb|intro _
theorem psalteryref05_PutNum.mono : ∀ a0 a1 a2 a3 k,LeO (psalteryref05_PutNum.f k a0 a1 a2 a3) (psalteryref05_PutNum.f (k+1) a0 a1 a2 a3):=by
 intro a0 a1 a2 a3 k
 have ih0:=psalteryref05_PutNum.mono_l k
 unfold psalteryref05_PutNum.f
 repeat' with_reducible first|apply ih0|apply psalteryref05_Put.mono|apply yLr|apply yLn|apply yLi|apply yLb|intro _
set_option maxHeartbeats 8000000 in
set_option maxRecDepth 100000 in
theorem psalteryref05_PutNum.calls (k : Nat) (a0_0 : Int) (P0_1_ : Nat→Prop) (A0_1 : Option Addr) (c0_1 : Nat) (l0_1 : List Int) (a1 : Int) (a2 : Int) (r1 : Int) (r2 : List Int) (r3 : Int) (w : World) (hs0_1 : Kd.V (Kd.int .i64) 3 w w.heap.size (fun k_=>P0_1_ k_) (.slice A0_1 l0_1.length c0_1) l0_1) (h : psalteryref05_PutNum.f k a0_0 l0_1 a1 a2=some (r1,r2,r3)) :
  Calls Try.prog 38 #[.agg #[.int .u64 a0_0, .slice A0_1 l0_1.length c0_1], .int .u64 a1, .int .u64 a2] w fun e w' => ∃ v1_ : Value,e=.returned (.tuple #[.agg #[.int .u64 r1,v1_], .int .i64 r3])∧Kd.V (Kd.int .i64) 3 w' w.heap.size (fun k_=>(P0_1_ k_∨w.heap.size≤k_)) v1_ r2∧Below w.heap.size w w' := by
 have hu33:=Try.underlying33
 have HO0_1:=zm (show Kd.V (Kd.int .i64) 3 w w.heap.size (fun k_=>(P0_1_ k_∨w.heap.size≤k_)) (.slice A0_1 l0_1.length c0_1) l0_1 from zy hs0_1 (fun k_ hk => .inl hk))
 have HB:=zm (Below.refl w.heap.size w)
 have H : (if a2=0 then (psalteryref05_PutNum.j0 k a1 a2 true a0_0 l0_1) else (if a2 > 4294967296 then (psalteryref05_PutNum.j0 k a1 a2 true a0_0 l0_1) else (psalteryref05_PutNum.j0 k a1 a2 (decide (a1 ≥ a2)) a0_0 l0_1)))=some (r1,r2,r3):=h
 clear h;have HC4:=zm H;clear H
 go_enter Try.func38,Try.ntmps38
 go_upto_region 1 with (first|((with_reducible refine gate_dst (N:=3) rfl ?_);refine ybx 3 #[.int .u64 a0_0, .slice A0_1 l0_1.length c0_1] 33 ?_;intro gb494 hg w5 hbox hb;replace HO0_1:=yVe HO0_1 hg hb;have BK494:=zm (hbox);have GW494:=ygw hg;have GE494:=ygw hg;replace HB:=ybs hb;clear hb hbox hg)|((with_reducible refine gate_dst (N:=6) rfl ?_);refine ybx 6 #[.int .u64 0, .slice none 0 0] 33 ?_;intro gb495 hg w6 hbox hb;replace HO0_1:=yVe HO0_1 hg hb;have BK495:=zm (hbox);have GW495:=ygw hg;have GE495:=ygw hg;replace HB:=ybs hb;have NB494_495:=ynl BK494 hg;have NB495_494:=yng BK494 hg;replace BK494:=ybb BK494 hb;clear hb hbox hg))
 (try simp only [Act.put,List.setIfInBounds_toArray,List.set_cons_zero,List.set_cons_succ])
 go_cut [22] (fun v22 wc => ∃ (kq : Nat) (x22_3 : Bool),v22=.bool x22_3∧Aside0 (psalteryref05_PutNum.j0 kq a1 a2 x22_3 a0_0 l0_1=some (r1,r2,r3))∧Aside0 (kq≤k)∧Aside0 (Kd.V (Kd.int .i64) 3 wc w.heap.size (fun k_=>(P0_1_ k_∨w.heap.size≤k_)∧k_≠gb494∧k_≠gb495) (.slice A0_1 l0_1.length c0_1) l0_1)∧Aside0 (wc.heap[gb494]? = some (.cells #[.int .u64 a0_0,(.slice A0_1 l0_1.length c0_1)] 33 (0,0)))∧Aside0 (wc.heap[gb495]? = some (.cells #[.int .u64 0,(.slice none 0 0)] 33 (0,0)))∧Aside0 (Below w.heap.size w wc))
 case first =>
  have H:=HC4.out;clear HC4
  by_cases c7 : a2=0
  ·
   rw [if_pos c7] at H
   have c7b0 : (a2 == 0)=true:=beq_iff_eq.mpr c7
   have c7b1 : (a2 != 0)=false:=bne_eq_false_iff_eq.mpr c7
   clear c7
   (first|rw [c7b0]|(simp only [i64_w,i32_w];rw [c7b0])|skip)
   have H' := zm H
   clear H
   go_wp2
   go_meet
   case rel=>exact ⟨_,(true),yq,H',⟨yo⟩,⟨yV0 HO0_1⟩,⟨yk BK494⟩,⟨yk BK495⟩,⟨yhb⟩⟩
  ·
   rw [if_neg c7] at H
   have c7b0 : (a2 == 0)=false:=beq_eq_false_iff_ne.mpr c7
   have c7b1 : (a2 != 0)=true:=bne_iff_ne.mpr c7
   (first|rw [c7b0]|(simp only [i64_w,i32_w];rw [c7b0])|skip)
   by_cases c8 : a2 > 4294967296
   ·
    rw [if_pos c8] at H
    have c8b0 : decide (4294967296 < a2)=true:=decide_eq_true c8
    clear c8
    have H' := zm H
    clear H
    go_wp2
    go_meet
    case rel=>exact ⟨_,(true),yq,H',⟨yo⟩,⟨yV0 HO0_1⟩,⟨yk BK494⟩,⟨yk BK495⟩,⟨yhb⟩⟩
   ·
    rw [if_neg c8] at H
    have c8b0 : decide (4294967296 < a2)=false:=decide_eq_false c8
    clear c8
    have H' := zm H
    clear H
    go_wp2
    go_meet
    case rel=>exact ⟨_,(decide (a1 ≥ a2)),yq,H',⟨yo⟩,⟨yV0 HO0_1⟩,⟨yk BK494⟩,⟨yk BK495⟩,⟨yhb⟩⟩
 case rest =>
  clear HC4
  obtain ⟨kq,x22_3,rfl,HA,HJ3,HO_495001,BK494,BK495,HB⟩:=hcut
  obtain ⟨kj3,rfl⟩:=ysu kq (fun h=>by subst h;exact absurd HA.out (by simp [psalteryref05_PutNum.j0]))
  have H:=HA.out;clear HA
  simp only [psalteryref05_PutNum.j0] at H
  by_cases c9 : x22_3=true
  ·
   subst c9
   rw [if_pos rfl] at H
   simp only [Option.some.injEq,Prod.mk.injEq] at H
   obtain ⟨rfl,rfl,rfl⟩:=H
   have:=NB494_495.out
   have:=NB495_494.out
   obtain ⟨_,_,_,_⟩:=yc2 BK494
   obtain ⟨_,_,_,_⟩:=yc2 BK495
   go_wp2
   refine bodyPost_ret (results_ct rfl _ _ gb495 33 #[.int .u64 a0_0, .slice A0_1 l0_1.length c0_1] (0,0) _ rfl (ykp BK495) Try.underlying33 rfl (by kernel_rfl)) rfl ?_
   exact ⟨_,ye,yV0 HO_495001,yhb⟩
  ·
   replace c9:=Bool.eq_false_iff.mpr c9
   subst c9
   rw [ynf] at H
   by_cases c13 : a2≤65536
   ·
    rw [if_pos c13] at H
    have c13b0 : decide (a2≤65536)=true:=decide_eq_true c13
    clear c13
    replace H:=ybi H;obtain ⟨⟨t496,t497,t500⟩,A14,H⟩:=H
    try dsimp only at H
    simp only [Option.some.injEq,Prod.mk.injEq] at H
    obtain ⟨rfl,rfl,rfl⟩:=H
    have:=NB494_495.out
    have:=NB495_494.out
    obtain ⟨_,_,_,_⟩:=yc2 BK494
    go_wp2_with (first|((with_reducible refine gate_callee (f:=19) rfl ?_);refine ygl 34 Try.func19 #[.agg #[.int .u64 a0_0, .slice A0_1 l0_1.length c0_1], .int .i64 (wrap64 (a1)), .int .i64 (wrap64 ((wrap64 (a1))+1)), .int .i64 (wrap64 (a2))] ?_;(with_reducible refine (psalteryref05_Put.calls kj3 a0_0 (fun k_=>((P0_1_ k_∨w.heap.size≤k_)∧(k_≠gb494∧k_≠gb495))) _ _ l0_1 (wrap64 (a1)) (wrap64 ((wrap64 (a1))+1)) (wrap64 (a2)) t496 t497 t500 _ HO_495001.out A14.out).mono ?_);rintro e w17 ⟨v498,rfl,ho0,hb⟩;refine ⟨_,rfl, ?_⟩;replace HO_495001:=yVb HO_495001 hb;have HO499:=yho (fun k_=>(P0_1_ k_∨w.heap.size≤k_)∧k_≠gb494∧k_≠gb495) ho0 (fun k_ hk_=>⟨Or.elim hk_ (fun hs_=>hs_.1) (fun hn_=>(.inr (Nat.le_trans (zE yhb) hn_))),yoB BK494 hk_,yoB BK495 hk_⟩);replace BK494:=ybb BK494 hb;replace BK495:=ybb BK495 hb;replace HB:=ybs hb;(try clear hb);(try clear ho0);obtain ⟨_,_,_,_⟩:=yc2 BK495;obtain ⟨Ao19,co19,eo19⟩:=Kd.V_slice HO499.out;subst eo19))
    refine bodyPost_ret (results_ct rfl _ _ gb495 33 #[.int .u64 t496, .slice Ao19 t497.length co19] (0,0) _ rfl (ykp BK495) Try.underlying33 rfl (by kernel_rfl)) rfl ?_
    exact ⟨_,ye,yV0 HO499,yhb⟩
   ·
    rw [if_neg c13] at H
    have c13b0 : decide (a2≤65536)=false:=decide_eq_false c13
    clear c13
    replace H:=ybi H;obtain ⟨⟨t501,t502,t505⟩,A20,H⟩:=H
    try dsimp only at H
    by_cases c21 : t505=0
    ·
     rw [if_pos c21] at H
     have c21b0 : (t505 == 0)=true:=beq_iff_eq.mpr c21
     have c21b1 : (t505 != 0)=false:=bne_eq_false_iff_eq.mpr c21
     clear c21
     replace H:=ybi H;obtain ⟨⟨t507,t508,t511⟩,A22,H⟩:=H
     try dsimp only at H
     by_cases c23 : t511=0
     ·
      rw [if_pos c23] at H
      have c23b0 : (t511 == 0)=true:=beq_iff_eq.mpr c23
      have c23b1 : (t511 != 0)=false:=bne_eq_false_iff_eq.mpr c23
      clear c23
      simp only [Option.some.injEq,Prod.mk.injEq] at H
      obtain ⟨rfl,rfl,rfl⟩:=H
      have:=NB494_495.out
      have:=NB495_494.out
      obtain ⟨_,_,_,_⟩:=yc2 BK494
      go_wp2_with (first|((with_reducible refine gate_callee (f:=19) rfl ?_);refine ygl 51 Try.func19 #[.agg #[.int .u64 a0_0, .slice A0_1 l0_1.length c0_1], .int .i64 (wrap64 (IntKind.u64.wrap (Int.tdiv a1 65536))), .int .i64 (wrap64 ((wrap64 (IntKind.u64.wrap (Int.tdiv a1 65536)))+1)), .int .i64 (wrap64 ((wrap64 (IntKind.u64.wrap (Int.tdiv (IntKind.u64.wrap (a2 - 1)) 65536)))+1))] ?_;(with_reducible refine (psalteryref05_Put.calls kj3 a0_0 (fun k_=>((P0_1_ k_∨w.heap.size≤k_)∧(k_≠gb494∧k_≠gb495))) _ _ l0_1 (wrap64 (IntKind.u64.wrap (Int.tdiv a1 65536))) (wrap64 ((wrap64 (IntKind.u64.wrap (Int.tdiv a1 65536)))+1)) (wrap64 ((wrap64 (IntKind.u64.wrap (Int.tdiv (IntKind.u64.wrap (a2 - 1)) 65536)))+1)) t501 t502 t505 _ HO_495001.out A20.out).mono ?_);rintro e w26 ⟨v503,rfl,ho0,hb⟩;refine ⟨_,rfl, ?_⟩;replace HO_495001:=yVb HO_495001 hb;have HO504:=yho (fun k_=>(P0_1_ k_∨w.heap.size≤k_)∧k_≠gb494∧k_≠gb495) ho0 (fun k_ hk_=>⟨Or.elim hk_ (fun hs_=>hs_.1) (fun hn_=>(.inr (Nat.le_trans (zE yhb) hn_))),yoB BK494 hk_,yoB BK495 hk_⟩);replace BK494:=ybb BK494 hb;replace BK495:=ybb BK495 hb;replace HB:=ybs hb;(try clear hb);(try clear ho0))|((with_reducible refine gate_dst (N:=8) rfl ?_);refine ybx 8 #[.int .u64 0, .slice none 0 0] 33 ?_;intro gb506 hg w27 hbox hb;replace HO_495001:=yVe HO_495001 hg hb;replace HO504:=yVe HO504 hg hb;have BK506:=zm (hbox);have GW506:=ygw hg;have GE506:=ygw hg;replace HB:=ybs hb;have NB494_506:=ynl BK494 hg;have NB506_494:=yng BK494 hg;replace BK494:=ybb BK494 hb;have NB495_506:=ynl BK495 hg;have NB506_495:=yng BK495 hg;replace BK495:=ybb BK495 hb;clear hb hbox hg;have:=NB506_494.out;have:=NB494_506.out;have:=NB506_495.out;have:=NB495_506.out;obtain ⟨_,_,_,_⟩:=yc2 BK506;obtain ⟨Ao31,co31,eo31⟩:=Kd.V_slice HO504.out;subst eo31)|((with_reducible refine gate_store (t:=33) (p:=8) rfl ?_);refine store_event (t:=33) (p:=8) (v := ?vo_w32) (w1:=((w27.setCell ⟨gb506,0,none⟩ (.int .u64 t501)).setCell ⟨gb506,1,none⟩ (.slice Ao31 t502.length co31))) ?hg ?ho ?hn ?hr ?_;(case ho=>rfl);(case hg=>rfl);(case hn=>rfl);(case hr=>first|(go_simp;done)|(go_simp;rfl));intro w32 hw;replace HO_495001 : Aside0 (Kd.V (Kd.int .i64) 3 w32 w.heap.size (fun k_=>(P0_1_ k_∨w.heap.size≤k_)∧k_≠gb494∧k_≠gb495∧k_≠gb506) (.slice A0_1 l0_1.length c0_1) l0_1):=⟨(by rw [hw];exact (yV0 HO_495001))⟩;replace HO504 : Aside0 (Kd.V (Kd.int .i64) 3 w32 w.heap.size (fun k_=>(P0_1_ k_∨w.heap.size≤k_)∧k_≠gb494∧k_≠gb495∧k_≠gb506) (.slice Ao31 t502.length co31) t502):=⟨(by rw [hw];exact (yV0 HO504))⟩;replace BK494 : Aside0 (w32.heap[gb494]? = some (.cells #[.int .u64 a0_0, .slice A0_1 l0_1.length c0_1] 33 (0,0))):=⟨(by rw [hw];exact (yk BK494))⟩;replace BK495 : Aside0 (w32.heap[gb495]? = some (.cells #[.int .u64 0, .slice none 0 0] 33 (0,0))):=⟨(by rw [hw];exact (yk BK495))⟩;replace BK506 : Aside0 (w32.heap[gb506]? = some (.cells #[.int .u64 t501, .slice Ao31 t502.length co31] 33 (0,0))):=⟨(by rw [hw];exact (ykp BK506))⟩;replace HB : Aside0 (Below w.heap.size w w32):=⟨(by rw [hw];exact yhb)⟩;clear hw;obtain ⟨_,_,_,_⟩:=yc2 BK506)|((with_reducible refine gate_callee (f:=19) rfl ?_);refine ygl 67 Try.func19 #[.agg #[.int .u64 t501, .slice Ao31 t502.length co31], .int .i64 (wrap64 (Int.tmod a1 65536)), .int .i64 (wrap64 ((wrap64 (Int.tmod a1 65536))+1)), .int .i64 65536] ?_;(with_reducible refine (psalteryref05_Put.calls kj3 t501 (fun k_=>((P0_1_ k_∨w.heap.size≤k_)∧(k_≠gb494∧(k_≠gb495∧k_≠gb506)))) _ _ t502 (wrap64 (Int.tmod a1 65536)) (wrap64 ((wrap64 (Int.tmod a1 65536))+1)) 65536 t507 t508 t511 _ HO504.out A22.out).mono ?_);rintro e w34 ⟨v509,rfl,ho0,hb⟩;refine ⟨_,rfl, ?_⟩;replace HO_495001:=yVb HO_495001 hb;replace HO504:=yVb HO504 hb;have HO510:=yho (fun k_=>(P0_1_ k_∨w.heap.size≤k_)∧k_≠gb494∧k_≠gb495∧k_≠gb506) ho0 (fun k_ hk_=>⟨Or.elim hk_ (fun hs_=>hs_.1) (fun hn_=>(.inr (Nat.le_trans (zE yhb) hn_))),yoB BK494 hk_,yoB BK495 hk_,yoB BK506 hk_⟩);replace BK494:=ybb BK494 hb;replace BK495:=ybb BK495 hb;replace BK506:=ybb BK506 hb;replace HB:=ybs hb;(try clear hb);(try clear ho0))|((with_reducible refine gate_dst (N:=10) rfl ?_);refine ybx 10 #[.int .u64 0, .slice none 0 0] 33 ?_;intro gb512 hg w35 hbox hb;replace HO_495001:=yVe HO_495001 hg hb;replace HO504:=yVe HO504 hg hb;replace HO510:=yVe HO510 hg hb;have BK512:=zm (hbox);have GW512:=ygw hg;have GE512:=ygw hg;replace HB:=ybs hb;have NB494_512:=ynl BK494 hg;have NB512_494:=yng BK494 hg;replace BK494:=ybb BK494 hb;have NB495_512:=ynl BK495 hg;have NB512_495:=yng BK495 hg;replace BK495:=ybb BK495 hb;have NB506_512:=ynl BK506 hg;have NB512_506:=yng BK506 hg;replace BK506:=ybb BK506 hb;clear hb hbox hg;have:=NB512_494.out;have:=NB494_512.out;have:=NB512_495.out;have:=NB495_512.out;have:=NB512_506.out;have:=NB506_512.out;obtain ⟨_,_,_,_⟩:=yc2 BK512;obtain ⟨Ao40,co40,eo40⟩:=Kd.V_slice HO510.out;subst eo40;obtain ⟨_,_,_,_⟩:=yc2 BK495))
      refine bodyPost_ret (results_ct rfl _ _ gb495 33 #[.int .u64 t507, .slice Ao40 t508.length co40] (0,0) _ rfl (ykp BK495) Try.underlying33 rfl (by kernel_rfl)) rfl ?_
      exact ⟨_,ye,yV0 HO510,yhb⟩
     ·
      rw [if_neg c23] at H
      have c23b0 : (t511 == 0)=false:=beq_eq_false_iff_ne.mpr c23
      have c23b1 : (t511 != 0)=true:=bne_iff_ne.mpr c23
      simp only [Option.some.injEq,Prod.mk.injEq] at H
      obtain ⟨rfl,rfl,rfl⟩:=H
      have:=NB494_495.out
      have:=NB495_494.out
      obtain ⟨_,_,_,_⟩:=yc2 BK494
      go_wp2_with (first|((with_reducible refine gate_callee (f:=19) rfl ?_);refine ygl 51 Try.func19 #[.agg #[.int .u64 a0_0, .slice A0_1 l0_1.length c0_1], .int .i64 (wrap64 (IntKind.u64.wrap (Int.tdiv a1 65536))), .int .i64 (wrap64 ((wrap64 (IntKind.u64.wrap (Int.tdiv a1 65536)))+1)), .int .i64 (wrap64 ((wrap64 (IntKind.u64.wrap (Int.tdiv (IntKind.u64.wrap (a2 - 1)) 65536)))+1))] ?_;(with_reducible refine (psalteryref05_Put.calls kj3 a0_0 (fun k_=>((P0_1_ k_∨w.heap.size≤k_)∧(k_≠gb494∧k_≠gb495))) _ _ l0_1 (wrap64 (IntKind.u64.wrap (Int.tdiv a1 65536))) (wrap64 ((wrap64 (IntKind.u64.wrap (Int.tdiv a1 65536)))+1)) (wrap64 ((wrap64 (IntKind.u64.wrap (Int.tdiv (IntKind.u64.wrap (a2 - 1)) 65536)))+1)) t501 t502 t505 _ HO_495001.out A20.out).mono ?_);rintro e w44 ⟨v503,rfl,ho0,hb⟩;refine ⟨_,rfl, ?_⟩;replace HO_495001:=yVb HO_495001 hb;have HO504:=yho (fun k_=>(P0_1_ k_∨w.heap.size≤k_)∧k_≠gb494∧k_≠gb495) ho0 (fun k_ hk_=>⟨Or.elim hk_ (fun hs_=>hs_.1) (fun hn_=>(.inr (Nat.le_trans (zE yhb) hn_))),yoB BK494 hk_,yoB BK495 hk_⟩);replace BK494:=ybb BK494 hb;replace BK495:=ybb BK495 hb;replace HB:=ybs hb;(try clear hb);(try clear ho0))|((with_reducible refine gate_dst (N:=8) rfl ?_);refine ybx 8 #[.int .u64 0, .slice none 0 0] 33 ?_;intro gb506 hg w45 hbox hb;replace HO_495001:=yVe HO_495001 hg hb;replace HO504:=yVe HO504 hg hb;have BK506:=zm (hbox);have GW506:=ygw hg;have GE506:=ygw hg;replace HB:=ybs hb;have NB494_506:=ynl BK494 hg;have NB506_494:=yng BK494 hg;replace BK494:=ybb BK494 hb;have NB495_506:=ynl BK495 hg;have NB506_495:=yng BK495 hg;replace BK495:=ybb BK495 hb;clear hb hbox hg;have:=NB506_494.out;have:=NB494_506.out;have:=NB506_495.out;have:=NB495_506.out;obtain ⟨_,_,_,_⟩:=yc2 BK506;obtain ⟨Ao49,co49,eo49⟩:=Kd.V_slice HO504.out;subst eo49)|((with_reducible refine gate_store (t:=33) (p:=8) rfl ?_);refine store_event (t:=33) (p:=8) (v := ?vo_w50) (w1:=((w45.setCell ⟨gb506,0,none⟩ (.int .u64 t501)).setCell ⟨gb506,1,none⟩ (.slice Ao49 t502.length co49))) ?hg ?ho ?hn ?hr ?_;(case ho=>rfl);(case hg=>rfl);(case hn=>rfl);(case hr=>first|(go_simp;done)|(go_simp;rfl));intro w50 hw;replace HO_495001 : Aside0 (Kd.V (Kd.int .i64) 3 w50 w.heap.size (fun k_=>(P0_1_ k_∨w.heap.size≤k_)∧k_≠gb494∧k_≠gb495∧k_≠gb506) (.slice A0_1 l0_1.length c0_1) l0_1):=⟨(by rw [hw];exact (yV0 HO_495001))⟩;replace HO504 : Aside0 (Kd.V (Kd.int .i64) 3 w50 w.heap.size (fun k_=>(P0_1_ k_∨w.heap.size≤k_)∧k_≠gb494∧k_≠gb495∧k_≠gb506) (.slice Ao49 t502.length co49) t502):=⟨(by rw [hw];exact (yV0 HO504))⟩;replace BK494 : Aside0 (w50.heap[gb494]? = some (.cells #[.int .u64 a0_0, .slice A0_1 l0_1.length c0_1] 33 (0,0))):=⟨(by rw [hw];exact (yk BK494))⟩;replace BK495 : Aside0 (w50.heap[gb495]? = some (.cells #[.int .u64 0, .slice none 0 0] 33 (0,0))):=⟨(by rw [hw];exact (yk BK495))⟩;replace BK506 : Aside0 (w50.heap[gb506]? = some (.cells #[.int .u64 t501, .slice Ao49 t502.length co49] 33 (0,0))):=⟨(by rw [hw];exact (ykp BK506))⟩;replace HB : Aside0 (Below w.heap.size w w50):=⟨(by rw [hw];exact yhb)⟩;clear hw;obtain ⟨_,_,_,_⟩:=yc2 BK506)|((with_reducible refine gate_callee (f:=19) rfl ?_);refine ygl 67 Try.func19 #[.agg #[.int .u64 t501, .slice Ao49 t502.length co49], .int .i64 (wrap64 (Int.tmod a1 65536)), .int .i64 (wrap64 ((wrap64 (Int.tmod a1 65536))+1)), .int .i64 65536] ?_;(with_reducible refine (psalteryref05_Put.calls kj3 t501 (fun k_=>((P0_1_ k_∨w.heap.size≤k_)∧(k_≠gb494∧(k_≠gb495∧k_≠gb506)))) _ _ t502 (wrap64 (Int.tmod a1 65536)) (wrap64 ((wrap64 (Int.tmod a1 65536))+1)) 65536 t507 t508 t511 _ HO504.out A22.out).mono ?_);rintro e w52 ⟨v509,rfl,ho0,hb⟩;refine ⟨_,rfl, ?_⟩;replace HO_495001:=yVb HO_495001 hb;replace HO504:=yVb HO504 hb;have HO510:=yho (fun k_=>(P0_1_ k_∨w.heap.size≤k_)∧k_≠gb494∧k_≠gb495∧k_≠gb506) ho0 (fun k_ hk_=>⟨Or.elim hk_ (fun hs_=>hs_.1) (fun hn_=>(.inr (Nat.le_trans (zE yhb) hn_))),yoB BK494 hk_,yoB BK495 hk_,yoB BK506 hk_⟩);replace BK494:=ybb BK494 hb;replace BK495:=ybb BK495 hb;replace BK506:=ybb BK506 hb;replace HB:=ybs hb;(try clear hb);(try clear ho0))|((with_reducible refine gate_dst (N:=10) rfl ?_);refine ybx 10 #[.int .u64 0, .slice none 0 0] 33 ?_;intro gb512 hg w53 hbox hb;replace HO_495001:=yVe HO_495001 hg hb;replace HO504:=yVe HO504 hg hb;replace HO510:=yVe HO510 hg hb;have BK512:=zm (hbox);have GW512:=ygw hg;have GE512:=ygw hg;replace HB:=ybs hb;have NB494_512:=ynl BK494 hg;have NB512_494:=yng BK494 hg;replace BK494:=ybb BK494 hb;have NB495_512:=ynl BK495 hg;have NB512_495:=yng BK495 hg;replace BK495:=ybb BK495 hb;have NB506_512:=ynl BK506 hg;have NB512_506:=yng BK506 hg;replace BK506:=ybb BK506 hb;clear hb hbox hg;have:=NB512_494.out;have:=NB494_512.out;have:=NB512_495.out;have:=NB495_512.out;have:=NB512_506.out;have:=NB506_512.out;obtain ⟨_,_,_,_⟩:=yc2 BK512;obtain ⟨Ao58,co58,eo58⟩:=Kd.V_slice HO510.out;subst eo58;obtain ⟨_,_,_,_⟩:=yc2 BK494;obtain ⟨_,_,_,_⟩:=yc2 BK495))
      refine bodyPost_ret (results_ct rfl _ _ gb495 33 #[.int .u64 a0_0, .slice A0_1 l0_1.length c0_1] (0,0) _ rfl (ykp BK495) Try.underlying33 rfl (by kernel_rfl)) rfl ?_
      exact ⟨_,ye,yV0 HO_495001,yhb⟩
    ·
     rw [if_neg c21] at H
     have c21b0 : (t505 == 0)=false:=beq_eq_false_iff_ne.mpr c21
     have c21b1 : (t505 != 0)=true:=bne_iff_ne.mpr c21
     simp only [Option.some.injEq,Prod.mk.injEq] at H
     obtain ⟨rfl,rfl,rfl⟩:=H
     have:=NB494_495.out
     have:=NB495_494.out
     obtain ⟨_,_,_,_⟩:=yc2 BK494
     go_wp2_with (first|((with_reducible refine gate_callee (f:=19) rfl ?_);refine ygl 51 Try.func19 #[.agg #[.int .u64 a0_0, .slice A0_1 l0_1.length c0_1], .int .i64 (wrap64 (IntKind.u64.wrap (Int.tdiv a1 65536))), .int .i64 (wrap64 ((wrap64 (IntKind.u64.wrap (Int.tdiv a1 65536)))+1)), .int .i64 (wrap64 ((wrap64 (IntKind.u64.wrap (Int.tdiv (IntKind.u64.wrap (a2 - 1)) 65536)))+1))] ?_;(with_reducible refine (psalteryref05_Put.calls kj3 a0_0 (fun k_=>((P0_1_ k_∨w.heap.size≤k_)∧(k_≠gb494∧k_≠gb495))) _ _ l0_1 (wrap64 (IntKind.u64.wrap (Int.tdiv a1 65536))) (wrap64 ((wrap64 (IntKind.u64.wrap (Int.tdiv a1 65536)))+1)) (wrap64 ((wrap64 (IntKind.u64.wrap (Int.tdiv (IntKind.u64.wrap (a2 - 1)) 65536)))+1)) t501 t502 t505 _ HO_495001.out A20.out).mono ?_);rintro e w63 ⟨v503,rfl,ho0,hb⟩;refine ⟨_,rfl, ?_⟩;replace HO_495001:=yVb HO_495001 hb;have HO504:=yho (fun k_=>(P0_1_ k_∨w.heap.size≤k_)∧k_≠gb494∧k_≠gb495) ho0 (fun k_ hk_=>⟨Or.elim hk_ (fun hs_=>hs_.1) (fun hn_=>(.inr (Nat.le_trans (zE yhb) hn_))),yoB BK494 hk_,yoB BK495 hk_⟩);replace BK494:=ybb BK494 hb;replace BK495:=ybb BK495 hb;replace HB:=ybs hb;(try clear hb);(try clear ho0))|((with_reducible refine gate_dst (N:=8) rfl ?_);refine ybx 8 #[.int .u64 0, .slice none 0 0] 33 ?_;intro gb506 hg w64 hbox hb;replace HO_495001:=yVe HO_495001 hg hb;replace HO504:=yVe HO504 hg hb;have BK506:=zm (hbox);have GW506:=ygw hg;have GE506:=ygw hg;replace HB:=ybs hb;have NB494_506:=ynl BK494 hg;have NB506_494:=yng BK494 hg;replace BK494:=ybb BK494 hb;have NB495_506:=ynl BK495 hg;have NB506_495:=yng BK495 hg;replace BK495:=ybb BK495 hb;clear hb hbox hg;have:=NB506_494.out;have:=NB494_506.out;have:=NB506_495.out;have:=NB495_506.out;obtain ⟨_,_,_,_⟩:=yc2 BK506;obtain ⟨Ao68,co68,eo68⟩:=Kd.V_slice HO504.out;subst eo68;obtain ⟨_,_,_,_⟩:=yc2 BK494;obtain ⟨_,_,_,_⟩:=yc2 BK495))
     refine bodyPost_ret (results_ct rfl _ _ gb495 33 #[.int .u64 a0_0, .slice A0_1 l0_1.length c0_1] (0,0) _ rfl (ykp BK495) Try.underlying33 rfl (by kernel_rfl)) rfl ?_
     exact ⟨_,ye,yV0 HO_495001,yhb⟩
end Go.Proofs.Ytkaoiblgfpphoaa.Prt
