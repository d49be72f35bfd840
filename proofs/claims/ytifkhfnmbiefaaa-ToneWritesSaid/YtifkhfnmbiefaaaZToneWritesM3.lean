-- Functions of the program and of the document as plain Lean, each with the proof that the code comes to it. Written by a program of this session (wip/tools/myprint.py, pack.py) over the kit's printer; Lean checks it.
import Derived.Test.YtifkhfnmbiefaaaZToneWritesPrt0
import Derived.Test.YtifkhfnmbiefaaaZToneWritesM2
import Derived.Test.YtifkhfnmbiefaaaZToneWritesSh2
import Derived.Test.YtifkhfnmbiefaaaZToneWritesSh
import Derived.Test.YtifkhfnmbiefaaaZToneWritesM1
import Derived.Laws.CopyOwn
namespace Go.Proofs.Ytifkhfnmbiefaaa.Prt
open Go.RowKit Go.Proofs.YtifkhfnmbiefaaaW.PrintWords Go.Proofs.YtifkhfnmbiefaaaW.PrintLast Go.Proofs.YtifkhfnmbiefaaaW.PrintMore
attribute [local go_sem] max2_int min2_int max_two min_two max_three min_three max_four min_four   -- for this text's walks alone
set_option linter.unusedVariables false
set_option linter.unusedSimpArgs false


mutual
def coder_Put.j0 : Nat→Int→Int→Int→List Int→Option (Int × Int × List Int × Int)
 | 0,_,_,_,_=>none
 | k+1,x10,ay,aI,az=>coder_Put.l0 k x10 ay aI az
def coder_Put.l0 : Nat→Int→Int→Int→List Int→Option (Int × Int × List Int × Int)
 | 0,_,_,_,_=>none
 | k+1,x10,ay,aI,az=>if x10 < 16777216 then (if az.length < 140737488355328 then (coder_Put.l0 k ((x10 * 256) % 4294967296) (Go.bits .and .u64 (IntKind.u64.wrap (ay * 256)) 4294967295) aI (az ++ [(ay / 16777216) % 256])) else (none)) else (some (ay,x10,az,0))
end
def coder_Put.f (k : Nat) (aA : Int) (aC : Int) (ax : List Int) (a1 : Int) (a2 : Int) (a3 : Int) : Option (Int × Int × List Int × Int):=(coder_own.f aA aC ax).bind fun ao=>((coder_fair.f a1 a2 a3).bind fun b6=>(if b6=true then (if (ao.2.2.length : Int) ≥ 3996 then (some (ao.1,ao.2.1,ao.2.2,3)) else ((coder_part.f ao.2.1 a1 a2 a3).bind fun aJ=>(if (IntKind.u64.wrap (ao.1+aJ.2)) > 4294967295 then ((coder_carry.f k ao.2.2).bind fun aW=>(coder_Put.j0 k aJ.1 (Go.bits .and .u64 (IntKind.u64.wrap (ao.1+aJ.2)) 4294967295) ao.2.1 aW)) else (coder_Put.j0 k aJ.1 (IntKind.u64.wrap (ao.1+aJ.2)) ao.2.1 ao.2.2)))) else (some (ao.1,ao.2.1,ao.2.2,1))))
theorem coder_Put.mono_l : ∀ k,(∀ y0 y1 y2 y3,LeO (coder_Put.j0 k y0 y1 y2 y3) (coder_Put.j0 (k+1) y0 y1 y2 y3))∧(∀ y0 y1 y2 y3,LeO (coder_Put.l0 k y0 y1 y2 y3) (coder_Put.l0 (k+1) y0 y1 y2 y3))
 | 0=>⟨fun _ _ _ _ r h=>by simp [coder_Put.j0] at h,fun _ _ _ _ r h=>by simp [coder_Put.l0] at h⟩
 | k+1=>by
  obtain ⟨ih0,ih1⟩:=coder_Put.mono_l k
  refine ⟨?_, ?_⟩
  ·
   intro y0 y1 y2 y3
   unfold coder_Put.j0
   repeat' with_reducible first|apply ih0|apply ih1|apply coder_carry.mono|apply yLr|apply yLn|apply yLi|apply yLb|intro _
  intro y0 y1 y2 y3
  unfold coder_Put.l0
  repeat' with_reducible first|apply ih0|apply ih1|apply coder_carry.mono|apply yLr|apply yLn|apply yLi|apply yLb|intro _
theorem coder_Put.mono : ∀ a0 a1 a2 a3 a4 a5 k,LeO (coder_Put.f k a0 a1 a2 a3 a4 a5) (coder_Put.f (k+1) a0 a1 a2 a3 a4 a5):=by
 intro a0 a1 a2 a3 a4 a5 k
 obtain ⟨ih0,ih1⟩:=coder_Put.mono_l k
 unfold coder_Put.f
 repeat' with_reducible first|apply ih0|apply ih1|apply coder_carry.mono|apply yLr|apply yLn|apply yLi|apply yLb|intro _
set_option maxHeartbeats 8000000 in
set_option maxRecDepth 100000 in
theorem coder_Put.calls (k : Nat) (aA : Int) (aC : Int) (aK : Option Addr) (aM : Nat) (ax : List Int) (a1 : Int) (a2 : Int) (a3 : Int) (r1 : Int) (r2 : Int) (r3 : List Int) (r4 : Int) (w : World) (hr0_2 : Kd.C (Kd.int .u8) w aK ax.length ax) (hc0_2 : ax.length≤aM) (h : coder_Put.f k aA aC ax a1 a2 a3=some (r1,r2,r3,r4)) :
  Calls Try.prog 43 #[.agg #[.int .u64 aA, .int .u32 aC, .slice aK ax.length aM], .int .i64 a1, .int .i64 a2, .int .i64 a3] w fun e w' => ∃ v2_ : Value,e=.returned (.tuple #[.agg #[.int .u64 r1, .int .u32 r2,v2_], .int .i64 r4])∧Kd.R (Kd.int .u8) 5 w' w.heap.size (fun _=>True) v2_ r3∧Below w.heap.size w w' := by
 have hu75:=Try.underlying75;have aT:=zm hr0_2;have aU:=zm hc0_2;clear hr0_2 hc0_2;have HB:=zm (Below.refl w.heap.size w);have H:=h
 unfold coder_Put.f at H
 clear h
 replace H:=ybi H;obtain ⟨⟨av,ap,aj⟩,A5,H⟩:=H
 try dsimp only at H
 replace H:=ybi H;obtain ⟨b6,A6,H⟩:=H
 by_cases c7 : b6=true
 ·
  subst c7
  rw [if_pos rfl] at H
  by_cases c8 : (aj.length : Int) ≥ 3996
  ·
   rw [if_pos c8] at H
   have ca:=yDl c8
   have cb : decide (3996≤aj.length)=true:=decide_eq_true (by omega)
   clear c8
   simp only [Option.some.injEq,Prod.mk.injEq] at H
   obtain ⟨rfl,rfl,rfl,rfl⟩:=H
   go_enter Try.func43,Try.ntmps43
   go_wp2_with (first|((with_reducible refine gate_dst (N:=4) rfl ?_);refine ybx 4 #[.int .u64 aA, .int .u32 aC, .slice aK ax.length aM] 75 ?_;intro ak hg w9 hbox hb;have aa:=zm (hbox);have bX:=ygw hg;have bY:=ygw hg;replace HB:=ybs hb;clear hb hbox hg)|((with_reducible refine gate_dst (N:=8) rfl ?_);refine ybx 8 #[.int .u64 0, .int .u32 0, .slice none 0 0] 75 ?_;intro aw hg w10 hbox hb;have ac:=zm (hbox);have bZ:=ygw hg;have b4:=ygw hg;replace HB:=ybs hb;have ag:=ynl aa hg;have ah:=yng aa hg;replace aa:=ybb aa hb;clear hb hbox hg;have:=ag.out;have:=ah.out;obtain ⟨aX,aY,aZ,a7,a8,a9⟩:=yc3 aa)|((with_reducible refine gate_callee (f:=83) rfl ?_);refine ygl 13 Try.func83 #[.agg #[.int .u64 aA, .int .u32 aC, .slice aK ax.length aM]] ?_;(with_reducible refine (coder_own.calls aA aC _ _ ax av ap aj _ ?aD aU.out A5.out).mono ?_);(case aD=>exact ycb aT);rintro e w13 ⟨ce,rfl,ho0,hb⟩;refine ⟨_,rfl, ?_⟩;have ae:=zm (Kd.R_lower ho0 (zE yhb));replace aa:=ybb aa hb;replace ac:=ybb ac hb;replace HB:=ybs hb;(try clear hb);(try clear ho0);obtain ⟨ba,bb,bc,bd,bf,bg⟩:=yc3 aa;obtain ⟨bh,bi,ck⟩:=Kd.R_slice ae.out;subst ck)|((with_reducible refine gate_store (t:=75) (p:=4) rfl ?_);refine store_event (t:=75) (p:=4) (v := ?vo_w16) (w1:=(((w13.setCell ⟨ak,0,none⟩ (.int .u64 av)).setCell ⟨ak,1,none⟩ (.int .u32 ap)).setCell ⟨ak,2,none⟩ (.slice bh aj.length bi))) ?hg ?ho ?hn ?hr ?_;(case ho=>rfl);(case hg=>rfl);(case hn=>rfl);(case hr=>first|(go_simp;done)|(go_simp;rfl));intro w16 hw;replace ae : Aside0 (Kd.R (Kd.int .u8) 5 w16 w.heap.size (fun _=>True) (.slice bh aj.length bi) aj):=⟨(by rw [hw];exact (yR1 ae aa))⟩;replace aa : Aside0 (w16.heap[ak]? = some (.cells #[.int .u64 av, .int .u32 ap, .slice bh aj.length bi] 75 (0,0))):=⟨(by rw [hw];exact (ykp aa))⟩;replace ac : Aside0 (w16.heap[aw]? = some (.cells #[.int .u64 0, .int .u32 0, .slice none 0 0] 75 (0,0))):=⟨(by rw [hw];exact (yk ac))⟩;replace HB : Aside0 (Below w.heap.size w w16):=⟨(by rw [hw];exact yhb)⟩;clear hw)|((with_reducible refine gate_callee (f:=84) rfl ?_);refine ygl 17 Try.func84 #[.int .i64 a1, .int .i64 a2, .int .i64 a3] ?_;(with_reducible refine (coder_fair.calls a1 a2 a3 true _ A6.out).mono ?_);rintro e w' ⟨rfl,⟨nd,rfl⟩⟩;refine ⟨_,rfl, ?_⟩;(try (rw [drewN_self w16];generalize hq_ : World.drewN w16 _=w16;replace ae:=yRq hq_ ae;replace aa:=ykq hq_ aa;replace ac:=ykq hq_ ac;replace HB:=ysq hq_;clear hq_));obtain ⟨bj,bk,bl,bm,bn,bo⟩:=yc3 aa;obtain ⟨bp,bq,br,bs,bu,bv⟩:=yc3 ac))
   refine bodyPost_ret (results_ct rfl _ _ aw 75 #[.int .u64 av, .int .u32 ap, .slice bh aj.length bi] (0,0) _ rfl (ykp ac) Try.underlying75 rfl (by kernel_rfl)) rfl ?_
   exact ⟨_,ye,yR1 ae ac,yhb⟩
  rw [if_neg c8] at H
  have ca:=yGl c8
  have cb : decide (3996≤aj.length)=false:=decide_eq_false (by omega)
  clear c8
  replace H:=ybi H;obtain ⟨⟨b7,aQ⟩,A19,H⟩:=H
  try dsimp only at H
  have b8:=zm H;clear H
  go_enter Try.func43,Try.ntmps43
  go_upto_if 41 with (first|((with_reducible refine gate_dst (N:=4) rfl ?_);refine ybx 4 #[.int .u64 aA, .int .u32 aC, .slice aK ax.length aM] 75 ?_;intro ak hg w21 hbox hb;have aa:=zm (hbox);have bX:=ygw hg;have bY:=ygw hg;replace HB:=ybs hb;clear hb hbox hg)|((with_reducible refine gate_dst (N:=8) rfl ?_);refine ybx 8 #[.int .u64 0, .int .u32 0, .slice none 0 0] 75 ?_;intro aw hg w22 hbox hb;have ac:=zm (hbox);have bZ:=ygw hg;have b4:=ygw hg;replace HB:=ybs hb;have ag:=ynl aa hg;have ah:=yng aa hg;replace aa:=ybb aa hb;clear hb hbox hg;have:=ag.out;have:=ah.out;obtain ⟨bw,bx,bz,bA,bB,bC⟩:=yc3 aa)|((with_reducible refine gate_callee (f:=83) rfl ?_);refine ygl 13 Try.func83 #[.agg #[.int .u64 aA, .int .u32 aC, .slice aK ax.length aM]] ?_;(with_reducible refine (coder_own.calls aA aC _ _ ax av ap aj _ ?aD aU.out A5.out).mono ?_);(case aD=>exact ycb aT);rintro e w25 ⟨ce,rfl,ho0,hb⟩;refine ⟨_,rfl, ?_⟩;have ae:=zm (Kd.R_lower ho0 (zE yhb));replace aa:=ybb aa hb;replace ac:=ybb ac hb;replace HB:=ybs hb;(try clear hb);(try clear ho0);obtain ⟨bD,bE,bF,bG,bH,bI⟩:=yc3 aa;obtain ⟨aG,aH,cl⟩:=Kd.R_slice ae.out;subst cl)|((with_reducible refine gate_store (t:=75) (p:=4) rfl ?_);refine store_event (t:=75) (p:=4) (v := ?vo_w28) (w1:=(((w25.setCell ⟨ak,0,none⟩ (.int .u64 av)).setCell ⟨ak,1,none⟩ (.int .u32 ap)).setCell ⟨ak,2,none⟩ (.slice aG aj.length aH))) ?hg ?ho ?hn ?hr ?_;(case ho=>rfl);(case hg=>rfl);(case hn=>rfl);(case hr=>first|(go_simp;done)|(go_simp;rfl));intro w28 hw;replace ae : Aside0 (Kd.R (Kd.int .u8) 5 w28 w.heap.size (fun _=>True) (.slice aG aj.length aH) aj):=⟨(by rw [hw];exact (yR1 ae aa))⟩;replace aa : Aside0 (w28.heap[ak]? = some (.cells #[.int .u64 av, .int .u32 ap, .slice aG aj.length aH] 75 (0,0))):=⟨(by rw [hw];exact (ykp aa))⟩;replace ac : Aside0 (w28.heap[aw]? = some (.cells #[.int .u64 0, .int .u32 0, .slice none 0 0] 75 (0,0))):=⟨(by rw [hw];exact (yk ac))⟩;replace HB : Aside0 (Below w.heap.size w w28):=⟨(by rw [hw];exact yhb)⟩;clear hw)|((with_reducible refine gate_callee (f:=84) rfl ?_);refine ygl 17 Try.func84 #[.int .i64 a1, .int .i64 a2, .int .i64 a3] ?_;(with_reducible refine (coder_fair.calls a1 a2 a3 true _ A6.out).mono ?_);rintro e w' ⟨rfl,⟨nd,rfl⟩⟩;refine ⟨_,rfl, ?_⟩;(try (rw [drewN_self w28];generalize hq_ : World.drewN w28 _=w28;replace ae:=yRq hq_ ae;replace aa:=ykq hq_ aa;replace ac:=ykq hq_ ac;replace HB:=ysq hq_;clear hq_));obtain ⟨bJ,bK,bL,bM,bN,bO⟩:=yc3 aa)|((with_reducible refine gate_callee (f:=85) rfl ?_);refine ygl 31 Try.func85 #[.int .u32 ap, .int .i64 a1, .int .i64 a2, .int .i64 a3] ?_;(with_reducible refine (coder_part.calls ap a1 a2 a3 b7 aQ _ A19.out).mono ?_);rintro e w' ⟨rfl,⟨nd,rfl⟩⟩;refine ⟨_,rfl, ?_⟩;(try (rw [drewN_self w28];generalize hq_ : World.drewN w28 _=w28;replace ae:=yRq hq_ ae;replace aa:=ykq hq_ aa;replace ac:=ykq hq_ ac;replace HB:=ysq hq_;clear hq_));obtain ⟨bP,bQ,bR,bS,bT,bU⟩:=yc3 aa))
  (try simp only [Act.put,List.setIfInBounds_toArray,List.set_cons_zero,List.set_cons_succ])
  go_cut [] (fun wc => ∃ (kq : Nat) (aq : Int) (au : List Int) (al : Value),Aside0 (coder_Put.j0 kq b7 aq ap au=some (r1,r2,r3,r4))∧Aside0 (kq≤k)∧Aside0 (Kd.R (Kd.int .u8) 5 wc w.heap.size (fun _=>True) al au)∧Aside0 (wc.heap[ak]? = some (.cells #[.int .u64 aq, .int .u32 ap,al] 75 (0,0)))∧Aside0 (wc.heap[aw]? = some (.cells #[.int .u64 0, .int .u32 0,(.slice none 0 0)] 75 (0,0)))∧Aside0 (Below w.heap.size w wc))
  case first =>
   have H:=b8.out;clear b8
   by_cases c31 : (IntKind.u64.wrap (av+aQ)) > 4294967295
   ·
    rw [if_pos c31] at H
    have aN:=yDs c31
    clear c31
    (first|rw [aN]|(simp only [i64_w,i32_w];rw [aN])|skip)
    replace H:=ybi H;obtain ⟨aW,A32,H⟩:=H
    have H' := zm H
    clear H
    have:=ag.out
    have:=ah.out
    obtain ⟨_,_,_,_,_,_⟩:=yc3 aa
    go_wp2_with (first|((with_reducible refine gate_store (t:=59) (p:=45) rfl ?_);refine store_event (t:=59) (p:=45) (v := ?vo_w35) (w1:=((w28.setCell ⟨ak,0,none⟩ (.int .u64 (IntKind.u64.wrap (av+aQ)))).setCell ⟨ak,0,none⟩ (.int .u64 (Go.bits .and .u64 (IntKind.u64.wrap (av+aQ)) 4294967295)))) ?hg ?ho ?hn ?hr ?_;(case ho=>rfl);(case hg=>rfl);(case hn=>rfl);(case hr=>first|(go_simp;done)|(go_simp;rfl));intro w35 hw;replace ae : Aside0 (Kd.R (Kd.int .u8) 5 w35 w.heap.size (fun _=>True) (.slice aG aj.length aH) aj):=⟨(by rw [hw];exact (yR1 ae aa))⟩;replace aa : Aside0 (w35.heap[ak]? = some (.cells #[.int .u64 (Go.bits .and .u64 (IntKind.u64.wrap (av+aQ)) 4294967295), .int .u32 ap, .slice aG aj.length aH] 75 (0,0))):=⟨(by rw [hw];exact (ykp aa))⟩;replace ac : Aside0 (w35.heap[aw]? = some (.cells #[.int .u64 0, .int .u32 0, .slice none 0 0] 75 (0,0))):=⟨(by rw [hw];exact (yk ac))⟩;replace HB : Aside0 (Below w.heap.size w w35):=⟨(by rw [hw];exact yhb)⟩;clear hw;obtain ⟨_,_,_,_,_,_⟩:=yc3 aa)|((with_reducible refine gate_callee (f:=86) rfl ?_);refine ygl 48 Try.func86 #[.slice aG aj.length aH] ?_;(with_reducible refine (coder_carry.calls k (fun k_=>some k_=(.slice aG aj.length aH : Value).ownBlock) (.slice aG aj.length aH) aj aW w _ ?aD ?cf A32.out).mono ?_);(case aD=>exact yhb);(case cf=>exact Kd.R_tight rfl ae.out);rintro e w37 ⟨rfl,hy0,hb,hkp⟩;refine ⟨_,rfl, ?_⟩;replace aa:=zm (blk_kept (yk aa) hkp (fun hs_=>(fun e_=>(zu ae.out aa.out (by decide)) e_) hs_));replace ac:=zm (blk_kept (yk ac) hkp (fun hs_=>(fun e_=>(zu ae.out ac.out (by decide)) e_) hs_));replace ae:=zm (Kd.R_reok rfl hy0 (fun k_ e_=>ae.out.1 k_ e_));replace HB:=zm (hb);(try clear hb);(try clear hkp);(try clear hy0)))
    go_meet
    case rel=>exact ⟨_,(Go.bits .and .u64 (IntKind.u64.wrap (av+aQ)) 4294967295),(aW),(.slice aG aj.length aH),H',⟨yo⟩,⟨yr ae⟩,⟨yk aa⟩,⟨yk ac⟩,⟨yhb⟩⟩
   rw [if_neg c31] at H
   have aN:=yGs c31
   clear c31
   (first|rw [aN]|(simp only [i64_w,i32_w];rw [aN])|skip)
   have H' := zm H
   clear H
   go_wp2
   go_meet
   case rel=>exact ⟨_,(IntKind.u64.wrap (av+aQ)),(aj),(.slice aG aj.length aH),H',⟨yo⟩,⟨yR1 ae aa⟩,⟨ykp aa⟩,⟨yk ac⟩,⟨yhb⟩⟩
  case rest =>
   clear b8
   try clear ca
   try clear cb
   try clear aX
   try clear aY
   try clear aZ
   try clear ba
   try clear bb
   try clear bc
   try clear bj
   try clear bk
   try clear bl
   try clear bp
   try clear bq
   try clear br
   try clear bw
   try clear bx
   try clear bz
   try clear bD
   try clear bE
   try clear bF
   try clear bJ
   try clear bK
   try clear bL
   try clear bP
   try clear bQ
   try clear bR
   try clear a7
   try clear a8
   try clear a9
   try clear bd
   try clear bf
   try clear bg
   try clear bm
   try clear bn
   try clear bo
   try clear bs
   try clear bu
   try clear bv
   try clear bA
   try clear bB
   try clear bC
   try clear bG
   try clear bH
   try clear bI
   try clear bM
   try clear bN
   try clear bO
   try clear bS
   try clear bT
   try clear bU
   obtain ⟨kq,aq,au,al,HA,cg,ai,aa,ac,HB⟩:=hcut
   obtain ⟨ch,rfl⟩:=ysu kq (fun h=>by subst h;exact absurd HA.out (by simp [coder_Put.j0]))
   have H:=HA.out;clear HA
   simp only [coder_Put.j0] at H
   have H' := zm H
   clear H
   go_wp2
   go_loopg [10] ch (fun kq v10 w' => ∃ (aE : Int) (af : Int) (am : List Int) (al : Value),v10=.int .u32 aE∧Aside0 (coder_Put.l0 kq aE af ap am=some (r1,r2,r3,r4))∧Aside0 (kq≤ch)∧Aside0 (Kd.R (Kd.int .u8) 5 w' w.heap.size (fun _=>True) al am)∧Aside0 (w'.heap[ak]? = some (.cells #[.int .u64 af, .int .u32 ap,al] 75 (0,0)))∧Aside0 (w'.heap[aw]? = some (.cells #[.int .u64 0, .int .u32 0,(.slice none 0 0)] 75 (0,0)))∧Aside0 (Below w.heap.size w w'))
   case atStart=>exact ⟨(b7),(aq),(au),(al),yq,H',⟨Nat.le_refl _⟩,⟨yr ai⟩,⟨yk aa⟩,⟨yk ac⟩,⟨yhb⟩⟩
   case round =>
    clear H'
    obtain ⟨aE,af,am,al,rfl,HA,HK2,ai,aa,ac,HB⟩:=hrel
    obtain ⟨k2,rfl⟩:=ysu gk (fun h=>by subst h;exact absurd HA.out (by simp [coder_Put.l0]))
    have H:=HA.out;clear HA
    simp only [coder_Put.l0] at H
    by_cases c38 : aE < 16777216
    ·
     rw [if_pos c38] at H
     have ci:=yD c38
     clear c38
     replace H:=yif H;obtain ⟨c39,H⟩:=H
     have LMc39:=zm c39;clear c39
     obtain ⟨b9,aV⟩ : ∃ y_ : List Int,y_=(am ++ [(af / 16777216) % 256]):=⟨_,rfl⟩
     replace H : (coder_Put.l0 k2 ((aE * 256) % 4294967296) (Go.bits .and .u64 (IntKind.u64.wrap (af * 256)) 4294967295) ap b9)=some (r1,r2,r3,r4):=yrw aV H
     have cj:=zm aV;clear aV
     have H' := zm H
     clear H
     have:=ag.out
     have:=ah.out
     obtain ⟨_,_,_,_,_,_⟩:=yc3 aa
     go_wp2_with (first|((with_reducible refine gate_builtin (b:=.append) (xs := #[.tmp 52, .tmp 57]) rfl ?_);at_builtin;refine Kd.R_append (Kd.int .u8) (w0:=w) w.heap.size rfl (.tmp 52) (.tmp 57) 36 5 (.int .u8 0) 1 rfl Try.underlying36 info5 rfl (by decide) (by omega) al am ((af / 16777216) % 256) [.int .u8 ((af / 16777216) % 256)] (fun _=>True) (fun _=>False) rfl rfl ?aP (fun _ hk=>hk.elim) ?aF ?aO ?aB ?aS ?aL ?_;(case aP=>exact rfl);(case aB=>exact yhb);(case aF=>exact (fun _ _=>trivial));(case aO=>exact (yr ai));(case aS=>exact (zE yhb));(case aL=>have:=LMc39.out;omega);intro cu w42 ho hb hg hat;rw [← cj.out] at ho;replace aa:=zm (blk_grown (yk aa) hg (zu ai.out aa.out (by decide)));replace ac:=zm (blk_grown (yk ac) hg (zu ai.out ac.out (by decide)));replace HB:=zm (hb);have b5:=zm (ho);clear ai;clear ho hb hg hat;obtain ⟨cm,cn,co⟩:=Kd.R_slice b5.out;subst co;obtain ⟨_,_,_,_,_,_⟩:=yc3 aa))
     go_roundg k2
     case measure=>exact yom2 cg HK2
     case rel=>exact ⟨((aE * 256) % 4294967296),(Go.bits .and .u64 (IntKind.u64.wrap (af * 256)) 4294967295),(b9),(.slice cm b9.length cn),yq,H',⟨yom2 cg HK2⟩,⟨yR1 b5 aa⟩,⟨ykp aa⟩,⟨yk ac⟩,⟨yhb⟩⟩
    rw [if_neg c38] at H
    have ci:=yG c38
    clear c38
    simp only [Option.some.injEq,Prod.mk.injEq] at H
    obtain ⟨rfl,rfl,rfl,rfl⟩:=H
    have:=ag.out
    have:=ah.out
    obtain ⟨_,_,_,_,_,_⟩:=yc3 aa
    obtain ⟨_,_,_,_,_,_⟩:=yc3 ac
    obtain ⟨cp,cq,cr⟩:=Kd.R_slice ai.out
    subst cr
    go_wp2
    refine bodyPost_ret (results_ct rfl _ _ aw 75 #[.int .u64 af, .int .u32 aE, .slice cp am.length cq] (0,0) _ rfl (ykp ac) Try.underlying75 rfl (by kernel_rfl)) rfl ?_
    exact ⟨_,ye,yR2 ai aa ac,yhb⟩
 replace c7:=Bool.eq_false_iff.mpr c7
 subst c7
 rw [ynf] at H
 simp only [Option.some.injEq,Prod.mk.injEq] at H
 obtain ⟨rfl,rfl,rfl,rfl⟩:=H
 go_enter Try.func43,Try.ntmps43
 go_wp2_with (first|((with_reducible refine gate_dst (N:=4) rfl ?_);refine ybx 4 #[.int .u64 aA, .int .u32 aC, .slice aK ax.length aM] 75 ?_;intro ak hg w49 hbox hb;have aa:=zm (hbox);have bX:=ygw hg;have bY:=ygw hg;replace HB:=ybs hb;clear hb hbox hg)|((with_reducible refine gate_dst (N:=8) rfl ?_);refine ybx 8 #[.int .u64 0, .int .u32 0, .slice none 0 0] 75 ?_;intro aw hg w50 hbox hb;have ac:=zm (hbox);have bZ:=ygw hg;have b4:=ygw hg;replace HB:=ybs hb;have ag:=ynl aa hg;have ah:=yng aa hg;replace aa:=ybb aa hb;clear hb hbox hg;have:=ag.out;have:=ah.out;obtain ⟨_,_,_,_,_,_⟩:=yc3 aa)|((with_reducible refine gate_callee (f:=83) rfl ?_);refine ygl 13 Try.func83 #[.agg #[.int .u64 aA, .int .u32 aC, .slice aK ax.length aM]] ?_;(with_reducible refine (coder_own.calls aA aC _ _ ax av ap aj _ ?aD aU.out A5.out).mono ?_);(case aD=>exact ycb aT);rintro e w53 ⟨ce,rfl,ho0,hb⟩;refine ⟨_,rfl, ?_⟩;have ae:=zm (Kd.R_lower ho0 (zE yhb));replace aa:=ybb aa hb;replace ac:=ybb ac hb;replace HB:=ybs hb;(try clear hb);(try clear ho0);obtain ⟨_,_,_,_,_,_⟩:=yc3 aa;obtain ⟨bV,bW,ct⟩:=Kd.R_slice ae.out;subst ct)|((with_reducible refine gate_store (t:=75) (p:=4) rfl ?_);refine store_event (t:=75) (p:=4) (v := ?vo_w56) (w1:=(((w53.setCell ⟨ak,0,none⟩ (.int .u64 av)).setCell ⟨ak,1,none⟩ (.int .u32 ap)).setCell ⟨ak,2,none⟩ (.slice bV aj.length bW))) ?hg ?ho ?hn ?hr ?_;(case ho=>rfl);(case hg=>rfl);(case hn=>rfl);(case hr=>first|(go_simp;done)|(go_simp;rfl));intro w56 hw;replace ae : Aside0 (Kd.R (Kd.int .u8) 5 w56 w.heap.size (fun _=>True) (.slice bV aj.length bW) aj):=⟨(by rw [hw];exact (yR1 ae aa))⟩;replace aa : Aside0 (w56.heap[ak]? = some (.cells #[.int .u64 av, .int .u32 ap, .slice bV aj.length bW] 75 (0,0))):=⟨(by rw [hw];exact (ykp aa))⟩;replace ac : Aside0 (w56.heap[aw]? = some (.cells #[.int .u64 0, .int .u32 0, .slice none 0 0] 75 (0,0))):=⟨(by rw [hw];exact (yk ac))⟩;replace HB : Aside0 (Below w.heap.size w w56):=⟨(by rw [hw];exact yhb)⟩;clear hw)|((with_reducible refine gate_callee (f:=84) rfl ?_);refine ygl 17 Try.func84 #[.int .i64 a1, .int .i64 a2, .int .i64 a3] ?_;(with_reducible refine (coder_fair.calls a1 a2 a3 false _ A6.out).mono ?_);rintro e w' ⟨rfl,⟨nd,rfl⟩⟩;refine ⟨_,rfl, ?_⟩;(try (rw [drewN_self w56];generalize hq_ : World.drewN w56 _=w56;replace ae:=yRq hq_ ae;replace aa:=ykq hq_ aa;replace ac:=ykq hq_ ac;replace HB:=ysq hq_;clear hq_));obtain ⟨_,_,_,_,_,_⟩:=yc3 aa;obtain ⟨_,_,_,_,_,_⟩:=yc3 ac))
 refine bodyPost_ret (results_ct rfl _ _ aw 75 #[.int .u64 av, .int .u32 ap, .slice bV aj.length bW] (0,0) _ rfl (ykp ac) Try.underlying75 rfl (by kernel_rfl)) rfl ?_
 exact ⟨_,ye,yR1 ae ac,yhb⟩
mutual
def coder_PutNum.j0 : Nat→Int→Int→Bool→Int→Int→List Int→Option (Int × Int × List Int × Int)
 | 0,_,_,_,_,_,_=>none
 | k+1,x1,x2,x26,av,aw,ax=>if x26=true then (some (av,aw,ax,1)) else ((coder_halves.f x2).bind fun aC=>(if aC.2=0 then (none) else ((coder_Put.f k av aw ax (wrap64 (Int.tdiv (wrap64 (x1)) aC.2)) (wrap64 ((wrap64 (Int.tdiv (wrap64 (x1)) aC.2))+1)) aC.1).bind fun aD=>(if aD.2.2.2=0 then (coder_PutNum.j1 k aC.2 (Int.tmod (wrap64 (x1)) aC.2) aD.2.2.2 (decide (aC.2 > 1)) av aw ax aD.1 aD.2.1 aD.2.2.1) else (coder_PutNum.j1 k aC.2 (Int.tmod (wrap64 (x1)) aC.2) aD.2.2.2 false av aw ax aD.1 aD.2.1 aD.2.2.1)))))
def coder_PutNum.j1 : Nat→Int→Int→Int→Bool→Int→Int→List Int→Int→Int→List Int→Option (Int × Int × List Int × Int)
 | 0,_,_,_,_,_,_,_,_,_,_=>none
 | k+1,x9,x11,x13,x55,av,aw,ax,bC,bD,bE=>if x55=true then ((coder_Put.f k bC bD bE x11 (wrap64 (x11+1)) x9).bind fun bn=>(if bn.2.2.2=0 then (some (bn.1,bn.2.1,bn.2.2.1,0)) else (some (av,aw,ax,bn.2.2.2)))) else (if x13=0 then (some (bC,bD,bE,0)) else (some (av,aw,ax,x13)))
end
def coder_PutNum.f (k : Nat) (aQ : Int) (aT : Int) (aH : List Int) (a1 : Int) (a2 : Int) : Option (Int × Int × List Int × Int):=(coder_own.f aQ aT aH).bind fun aE=>(if a2 < 1 then (coder_PutNum.j0 k a1 a2 true aE.1 aE.2.1 aE.2.2) else (if a2 > 4294967296 then (coder_PutNum.j0 k a1 a2 true aE.1 aE.2.1 aE.2.2) else (coder_PutNum.j0 k a1 a2 (decide (a1 ≥ a2)) aE.1 aE.2.1 aE.2.2)))
theorem coder_PutNum.mono_l : ∀ k,(∀ y0 y1 y2 y3 y4 y5,LeO (coder_PutNum.j0 k y0 y1 y2 y3 y4 y5) (coder_PutNum.j0 (k+1) y0 y1 y2 y3 y4 y5))∧(∀ y0 y1 y2 y3 y4 y5 y6 y7 y8 y9,LeO (coder_PutNum.j1 k y0 y1 y2 y3 y4 y5 y6 y7 y8 y9) (coder_PutNum.j1 (k+1) y0 y1 y2 y3 y4 y5 y6 y7 y8 y9))
 | 0=>⟨fun _ _ _ _ _ _ r h=>by simp [coder_PutNum.j0] at h,fun _ _ _ _ _ _ _ _ _ _ r h=>by simp [coder_PutNum.j1] at h⟩
 | k+1=>by
  obtain ⟨ih0,ih1⟩:=coder_PutNum.mono_l k
  refine ⟨?_, ?_⟩
  ·
   intro y0 y1 y2 y3 y4 y5
   unfold coder_PutNum.j0
   repeat' with_reducible first|apply ih0|apply ih1|apply coder_Put.mono|apply yLr|apply yLn|apply yLi|apply yLb|intro _
  intro y0 y1 y2 y3 y4 y5 y6 y7 y8 y9
  unfold coder_PutNum.j1
  repeat' with_reducible first|apply ih0|apply ih1|apply coder_Put.mono|apply yLr|apply yLn|apply yLi|apply yLb|intro _
theorem coder_PutNum.mono : ∀ a0 a1 a2 a3 a4 k,LeO (coder_PutNum.f k a0 a1 a2 a3 a4) (coder_PutNum.f (k+1) a0 a1 a2 a3 a4):=by
 intro a0 a1 a2 a3 a4 k
 obtain ⟨ih0,ih1⟩:=coder_PutNum.mono_l k
 unfold coder_PutNum.f
 repeat' with_reducible first|apply ih0|apply ih1|apply coder_Put.mono|apply yLr|apply yLn|apply yLi|apply yLb|intro _
set_option maxHeartbeats 8000000 in
set_option maxRecDepth 100000 in
theorem coder_PutNum.calls (k : Nat) (aQ : Int) (aT : Int) (bM : Option Addr) (bN : Nat) (aH : List Int) (a1 : Int) (a2 : Int) (r1 : Int) (r2 : Int) (r3 : List Int) (r4 : Int) (w : World) (hr0_2 : Kd.C (Kd.int .u8) w bM aH.length aH) (hc0_2 : aH.length≤bN) (h : coder_PutNum.f k aQ aT aH a1 a2=some (r1,r2,r3,r4)) :
  Calls Try.prog 50 #[.agg #[.int .u64 aQ, .int .u32 aT, .slice bM aH.length bN], .int .u64 a1, .int .u64 a2] w fun e w' => ∃ v2_ : Value,e=.returned (.tuple #[.agg #[.int .u64 r1, .int .u32 r2,v2_], .int .i64 r4])∧Kd.R (Kd.int .u8) 5 w' w.heap.size (fun _=>True) v2_ r3∧Below w.heap.size w w' := by
 have hu75:=Try.underlying75;have bO:=zm hr0_2;have bP:=zm hc0_2;clear hr0_2 hc0_2;have HB:=zm (Below.refl w.heap.size w);have H:=h
 unfold coder_PutNum.f at H
 clear h
 replace H:=ybi H;obtain ⟨⟨aI,aJ,az⟩,A4,H⟩:=H
 try dsimp only at H
 have HC5:=zm H;clear H
 go_enter Try.func50,Try.ntmps50
 go_upto_region 2 with (first|((with_reducible refine gate_dst (N:=3) rfl ?_);refine ybx 3 #[.int .u64 aQ, .int .u32 aT, .slice bM aH.length bN] 75 ?_;intro bF hg w6 hbox hb;have ac:=zm (hbox);have ce:=ygw hg;have cf:=ygw hg;replace HB:=ybs hb;clear hb hbox hg)|((with_reducible refine gate_dst (N:=6) rfl ?_);refine ybx 6 #[.int .u64 0, .int .u32 0, .slice none 0 0] 75 ?_;intro aG hg w7 hbox hb;have af:=zm (hbox);have cg:=ygw hg;have ch:=ygw hg;replace HB:=ybs hb;have ag:=ynl ac hg;have ah:=yng ac hg;replace ac:=ybb ac hb;clear hb hbox hg;have:=ag.out;have:=ah.out;obtain ⟨bq,br,bs,bu,bv,bw⟩:=yc3 ac)|(go_at_call 83;(with_reducible refine (coder_own.calls aQ aT _ _ aH aI aJ az _ ?aj bP.out A4.out).mono ?_);(case aj=>exact ycb bO);rintro e w10 ⟨cn,rfl,ho0,hb⟩;have aK:=zm (Kd.R_lower ho0 (zE yhb));replace ac:=ybb ac hb;replace af:=ybb af hb;replace HB:=ybs hb;(try clear hb);(try clear ho0);obtain ⟨aW,aX,aY,aZ,a7,a8⟩:=yc3 ac;obtain ⟨aU,aV,bQ⟩:=Kd.R_slice aK.out;subst bQ))
 repeat (go_quiet (first|((with_reducible refine gate_dst (N:=3) rfl ?_);refine ybx 3 #[.int .u64 aQ, .int .u32 aT, .slice bM aH.length bN] 75 ?_;intro bF hg w6 hbox hb;have ac:=zm (hbox);have ce:=ygw hg;have cf:=ygw hg;replace HB:=ybs hb;clear hb hbox hg)|((with_reducible refine gate_dst (N:=6) rfl ?_);refine ybx 6 #[.int .u64 0, .int .u32 0, .slice none 0 0] 75 ?_;intro aG hg w7 hbox hb;have af:=zm (hbox);have cg:=ygw hg;have ch:=ygw hg;replace HB:=ybs hb;have ag:=ynl ac hg;have ah:=yng ac hg;replace ac:=ybb ac hb;clear hb hbox hg;have:=ag.out;have:=ah.out;obtain ⟨bq,br,bs,bu,bv,bw⟩:=yc3 ac)|(go_at_call 83;(with_reducible refine (coder_own.calls aQ aT _ _ aH aI aJ az _ ?aj bP.out A4.out).mono ?_);(case aj=>exact ycb bO);rintro e w10 ⟨cn,rfl,ho0,hb⟩;have aK:=zm (Kd.R_lower ho0 (zE yhb));replace ac:=ybb ac hb;replace af:=ybb af hb;replace HB:=ybs hb;(try clear hb);(try clear ho0);obtain ⟨aW,aX,aY,aZ,a7,a8⟩:=yc3 ac;obtain ⟨aU,aV,bQ⟩:=Kd.R_slice aK.out;subst bQ));go_upto_region 2 with (first|((with_reducible refine gate_dst (N:=3) rfl ?_);refine ybx 3 #[.int .u64 aQ, .int .u32 aT, .slice bM aH.length bN] 75 ?_;intro bF hg w6 hbox hb;have ac:=zm (hbox);have ce:=ygw hg;have cf:=ygw hg;replace HB:=ybs hb;clear hb hbox hg)|((with_reducible refine gate_dst (N:=6) rfl ?_);refine ybx 6 #[.int .u64 0, .int .u32 0, .slice none 0 0] 75 ?_;intro aG hg w7 hbox hb;have af:=zm (hbox);have cg:=ygw hg;have ch:=ygw hg;replace HB:=ybs hb;have ag:=ynl ac hg;have ah:=yng ac hg;replace ac:=ybb ac hb;clear hb hbox hg;have:=ag.out;have:=ah.out;obtain ⟨bq,br,bs,bu,bv,bw⟩:=yc3 ac)|(go_at_call 83;(with_reducible refine (coder_own.calls aQ aT _ _ aH aI aJ az _ ?aj bP.out A4.out).mono ?_);(case aj=>exact ycb bO);rintro e w10 ⟨cn,rfl,ho0,hb⟩;have aK:=zm (Kd.R_lower ho0 (zE yhb));replace ac:=ybb ac hb;replace af:=ybb af hb;replace HB:=ybs hb;(try clear hb);(try clear ho0);obtain ⟨aW,aX,aY,aZ,a7,a8⟩:=yc3 ac;obtain ⟨aU,aV,bQ⟩:=Kd.R_slice aK.out;subst bQ)))
 (try simp only [Act.put,List.setIfInBounds_toArray,List.set_cons_zero,List.set_cons_succ])
 go_cut [26] (fun v26 wc => ∃ (kq : Nat) (bG : Bool),v26=.bool bG∧Aside0 (coder_PutNum.j0 kq a1 a2 bG aI aJ az=some (r1,r2,r3,r4))∧Aside0 (kq≤k)∧Aside0 (Kd.R (Kd.int .u8) 5 wc w.heap.size (fun _=>True) (.slice aU az.length aV) az)∧Aside0 (wc.heap[bF]? = some (.cells #[.int .u64 aI, .int .u32 aJ,(.slice aU az.length aV)] 75 (0,0)))∧Aside0 (wc.heap[aG]? = some (.cells #[.int .u64 0, .int .u32 0,(.slice none 0 0)] 75 (0,0)))∧Aside0 (Below w.heap.size w wc))
 case first =>
  have H:=HC5.out;clear HC5
  by_cases c13 : a2 < 1
  ·
   rw [if_pos c13] at H
   have bo:=yD c13
   clear c13
   (first|rw [bo]|(simp only [i64_w,i32_w];rw [bo])|skip)
   have H' := zm H
   clear H
   go_wp2
   repeat (go_quiet (fail);try go_wp2)
   go_meet
   case rel=>exact ⟨_,(true),yq,H',⟨yo⟩,⟨yR1 aK ac⟩,⟨ykp ac⟩,⟨yk af⟩,⟨yhb⟩⟩
  rw [if_neg c13] at H
  have bo:=yG c13
  clear c13
  (first|rw [bo]|(simp only [i64_w,i32_w];rw [bo])|skip)
  by_cases c14 : a2 > 4294967296
  ·
   rw [if_pos c14] at H
   have co:=yDs c14
   clear c14
   have H' := zm H
   clear H
   go_wp2
   repeat (go_quiet (fail);try go_wp2)
   go_meet
   case rel=>exact ⟨_,(true),yq,H',⟨yo⟩,⟨yR1 aK ac⟩,⟨ykp ac⟩,⟨yk af⟩,⟨yhb⟩⟩
  rw [if_neg c14] at H
  have co:=yGs c14
  clear c14
  have H' := zm H
  clear H
  go_wp2
  repeat (go_quiet (fail);try go_wp2)
  go_meet
  case rel=>exact ⟨_,(decide (a1 ≥ a2)),yq,H',⟨yo⟩,⟨yR1 aK ac⟩,⟨ykp ac⟩,⟨yk af⟩,⟨yhb⟩⟩
 case rest =>
  clear HC5
  try clear aW
  try clear aX
  try clear aY
  try clear bq
  try clear br
  try clear bs
  try clear aZ
  try clear a7
  try clear a8
  try clear bu
  try clear bv
  try clear bw
  obtain ⟨kq,bG,rfl,HA,HJ4,aa,ac,af,HB⟩:=hcut
  obtain ⟨kj4,rfl⟩:=ysu kq (fun h=>by subst h;exact absurd HA.out (by simp [coder_PutNum.j0]))
  have H:=HA.out;clear HA
  simp only [coder_PutNum.j0] at H
  by_cases c15 : bG=true
  ·
   subst c15
   rw [if_pos rfl] at H
   simp only [Option.some.injEq,Prod.mk.injEq] at H
   obtain ⟨rfl,rfl,rfl,rfl⟩:=H
   have:=ag.out
   have:=ah.out
   obtain ⟨bW,bX,bY,bZ,b4,b5⟩:=yc3 ac
   obtain ⟨b6,b7,b8,b9,ca,cb⟩:=yc3 af
   go_wp2
   repeat (go_quiet (fail);try go_wp2)
   refine bodyPost_ret (results_ct rfl _ _ aG 75 #[.int .u64 aI, .int .u32 aJ, .slice aU az.length aV] (0,0) _ rfl (ykp af) Try.underlying75 rfl (by kernel_rfl)) rfl ?_
   exact ⟨_,ye,yR1 aa af,yhb⟩
  replace c15:=Bool.eq_false_iff.mpr c15
  subst c15
  rw [ynf] at H
  replace H:=ybi H;obtain ⟨⟨bH,ap⟩,A19,H⟩:=H
  try dsimp only at H
  replace H:=yie H;obtain ⟨c20,H⟩:=H
  obtain ⟨cp,cq⟩:=yF c20
  replace H:=ybi H;obtain ⟨⟨aM,aN,aA,bI⟩,A21,H⟩:=H
  try dsimp only at H
  have ck:=zm H;clear H
  go_upto_region 7 with (first|(go_at_call 92;(with_reducible refine (coder_halves.calls a2 bH ap _ A19.out).mono ?_);rintro e w' ⟨rfl,⟨nd,rfl⟩⟩;(try exact yww);have:=ag.out;have:=ah.out;obtain ⟨a9,ba,bb,bc,bd,bf⟩:=yc3 ac)|(go_at_call 43;(with_reducible refine (coder_Put.calls kj4 aI aJ _ _ az (wrap64 (Int.tdiv (wrap64 (a1)) ap)) (wrap64 ((wrap64 (Int.tdiv (wrap64 (a1)) ap))+1)) bH aM aN aA bI _ ?aj ?aq A21.out).mono ?_);(case aj=>exact yce (Kd.R_reads' aa.out).2.2);(case aq=>exact (Kd.R_reads' aa.out).2.1);rintro e w25 ⟨cr,rfl,ho0,hb⟩;have au:=zm (Kd.R_lower (Kd.R_new' ho0 (Kd.R_lt (yr aa))) (zE yhb));replace aa:=zm (Kd.R_elder' (yr aa) (Kd.R_base ho0) hb);replace ac:=ybb ac hb;replace af:=ybb af hb;replace HB:=ybs hb;(try clear hb);(try clear ho0))|((with_reducible refine gate_dst (N:=12) rfl ?_);refine ybx 12 #[.int .u64 0, .int .u32 0, .slice none 0 0] 75 ?_;intro bR hg w26 hbox hb;replace aa:=yRb aa hb;replace au:=yRb au hb;have ai:=zm (hbox);have ci:=ygw hg;have cj:=ygw hg;replace HB:=ybs hb;have ak:=ynl ac hg;have al:=yng ac hg;replace ac:=ybb ac hb;have am:=ynl af hg;have ao:=yng af hg;replace af:=ybb af hb;clear hb hbox hg;have:=al.out;have:=ak.out;have:=ao.out;have:=am.out;obtain ⟨bg,bh,bi,bj,bk,bl⟩:=yc3 ai;obtain ⟨bJ,bK,bS⟩:=Kd.R_slice au.out;subst bS))
  repeat (go_quiet (first|(go_at_call 92;(with_reducible refine (coder_halves.calls a2 bH ap _ A19.out).mono ?_);rintro e w' ⟨rfl,⟨nd,rfl⟩⟩;(try exact yww);have:=ag.out;have:=ah.out;obtain ⟨a9,ba,bb,bc,bd,bf⟩:=yc3 ac)|(go_at_call 43;(with_reducible refine (coder_Put.calls kj4 aI aJ _ _ az (wrap64 (Int.tdiv (wrap64 (a1)) ap)) (wrap64 ((wrap64 (Int.tdiv (wrap64 (a1)) ap))+1)) bH aM aN aA bI _ ?aj ?aq A21.out).mono ?_);(case aj=>exact yce (Kd.R_reads' aa.out).2.2);(case aq=>exact (Kd.R_reads' aa.out).2.1);rintro e w25 ⟨cr,rfl,ho0,hb⟩;have au:=zm (Kd.R_lower (Kd.R_new' ho0 (Kd.R_lt (yr aa))) (zE yhb));replace aa:=zm (Kd.R_elder' (yr aa) (Kd.R_base ho0) hb);replace ac:=ybb ac hb;replace af:=ybb af hb;replace HB:=ybs hb;(try clear hb);(try clear ho0))|((with_reducible refine gate_dst (N:=12) rfl ?_);refine ybx 12 #[.int .u64 0, .int .u32 0, .slice none 0 0] 75 ?_;intro bR hg w26 hbox hb;replace aa:=yRb aa hb;replace au:=yRb au hb;have ai:=zm (hbox);have ci:=ygw hg;have cj:=ygw hg;replace HB:=ybs hb;have ak:=ynl ac hg;have al:=yng ac hg;replace ac:=ybb ac hb;have am:=ynl af hg;have ao:=yng af hg;replace af:=ybb af hb;clear hb hbox hg;have:=al.out;have:=ak.out;have:=ao.out;have:=am.out;obtain ⟨bg,bh,bi,bj,bk,bl⟩:=yc3 ai;obtain ⟨bJ,bK,bS⟩:=Kd.R_slice au.out;subst bS));go_upto_region 7 with (first|(go_at_call 92;(with_reducible refine (coder_halves.calls a2 bH ap _ A19.out).mono ?_);rintro e w' ⟨rfl,⟨nd,rfl⟩⟩;(try exact yww);have:=ag.out;have:=ah.out;obtain ⟨a9,ba,bb,bc,bd,bf⟩:=yc3 ac)|(go_at_call 43;(with_reducible refine (coder_Put.calls kj4 aI aJ _ _ az (wrap64 (Int.tdiv (wrap64 (a1)) ap)) (wrap64 ((wrap64 (Int.tdiv (wrap64 (a1)) ap))+1)) bH aM aN aA bI _ ?aj ?aq A21.out).mono ?_);(case aj=>exact yce (Kd.R_reads' aa.out).2.2);(case aq=>exact (Kd.R_reads' aa.out).2.1);rintro e w25 ⟨cr,rfl,ho0,hb⟩;have au:=zm (Kd.R_lower (Kd.R_new' ho0 (Kd.R_lt (yr aa))) (zE yhb));replace aa:=zm (Kd.R_elder' (yr aa) (Kd.R_base ho0) hb);replace ac:=ybb ac hb;replace af:=ybb af hb;replace HB:=ybs hb;(try clear hb);(try clear ho0))|((with_reducible refine gate_dst (N:=12) rfl ?_);refine ybx 12 #[.int .u64 0, .int .u32 0, .slice none 0 0] 75 ?_;intro bR hg w26 hbox hb;replace aa:=yRb aa hb;replace au:=yRb au hb;have ai:=zm (hbox);have ci:=ygw hg;have cj:=ygw hg;replace HB:=ybs hb;have ak:=ynl ac hg;have al:=yng ac hg;replace ac:=ybb ac hb;have am:=ynl af hg;have ao:=yng af hg;replace af:=ybb af hb;clear hb hbox hg;have:=al.out;have:=ak.out;have:=ao.out;have:=am.out;obtain ⟨bg,bh,bi,bj,bk,bl⟩:=yc3 ai;obtain ⟨bJ,bK,bS⟩:=Kd.R_slice au.out;subst bS)))
  (try simp only [Act.put,List.setIfInBounds_toArray,List.set_cons_zero,List.set_cons_succ])
  go_cut [55] (fun v55 wc => ∃ (kq : Nat) (bm : Bool),v55=.bool bm∧Aside0 (coder_PutNum.j1 kq ap (Int.tmod (wrap64 (a1)) ap) bI bm aI aJ az aM aN aA=some (r1,r2,r3,r4))∧Aside0 (kq≤kj4)∧Aside0 (Kd.R (Kd.int .u8) 5 wc w.heap.size (fun k_=>some k_≠((.slice bJ aA.length bK) : Value).ownBlock) (.slice aU az.length aV) az)∧Aside0 (Kd.R (Kd.int .u8) 5 wc w.heap.size (fun k_=>some k_≠((.slice aU az.length aV) : Value).ownBlock) (.slice bJ aA.length bK) aA)∧Aside0 (wc.heap[bF]? = some (.cells #[.int .u64 aI, .int .u32 aJ,(.slice aU az.length aV)] 75 (0,0)))∧Aside0 (wc.heap[aG]? = some (.cells #[.int .u64 0, .int .u32 0,(.slice none 0 0)] 75 (0,0)))∧Aside0 (wc.heap[bR]? = some (.cells #[.int .u64 aM, .int .u32 aN,(.slice bJ aA.length bK)] 75 (0,0)))∧Aside0 (Below w.heap.size w wc))
  case first =>
   have H:=ck.out;clear ck
   by_cases c31 : bI=0
   ·
    rw [if_pos c31] at H
    obtain ⟨bp,ct⟩:=yE c31
    clear c31
    (first|rw [bp]|(simp only [i64_w,i32_w];rw [bp])|skip)
    have H' := zm H
    clear H
    go_wp2
    repeat (go_quiet (fail);try go_wp2)
    go_meet
    case rel=>exact ⟨_,(decide (ap > 1)),yq,H',⟨yom1 HJ4⟩,⟨yR1 aa ai⟩,⟨yR1 au ai⟩,⟨yk ac⟩,⟨yk af⟩,⟨ykp ai⟩,⟨yhb⟩⟩
   rw [if_neg c31] at H
   obtain ⟨bp,ct⟩:=yF c31
   (first|rw [bp]|(simp only [i64_w,i32_w];rw [bp])|skip)
   have H' := zm H
   clear H
   go_wp2
   repeat (go_quiet (fail);try go_wp2)
   go_meet
   case rel=>exact ⟨_,(false),yq,H',⟨yom1 HJ4⟩,⟨yR1 aa ai⟩,⟨yR1 au ai⟩,⟨yk ac⟩,⟨yk af⟩,⟨ykp ai⟩,⟨yhb⟩⟩
  case rest =>
   clear ck
   try clear c20
   try clear cp
   try clear cq
   try clear bW
   try clear bX
   try clear bY
   try clear b6
   try clear b7
   try clear b8
   try clear a9
   try clear ba
   try clear bb
   try clear bg
   try clear bh
   try clear bi
   try clear bZ
   try clear b4
   try clear b5
   try clear b9
   try clear ca
   try clear cb
   try clear bc
   try clear bd
   try clear bf
   try clear bj
   try clear bk
   try clear bl
   obtain ⟨kq,bm,rfl,HA,cA,aa,ae,ac,af,ai,HB⟩:=hcut
   obtain ⟨bL,rfl⟩:=ysu kq (fun h=>by subst h;exact absurd HA.out (by simp [coder_PutNum.j1]))
   have H:=HA.out;clear HA
   simp only [coder_PutNum.j1] at H
   by_cases c32 : bm=true
   ·
    subst c32
    rw [if_pos rfl] at H
    replace H:=ybi H;obtain ⟨⟨bx,bz,bA,bB⟩,A33,H⟩:=H
    try dsimp only at H
    by_cases c34 : bB=0
    ·
     rw [if_pos c34] at H
     obtain ⟨cu,cv⟩:=yE c34
     clear c34
     simp only [Option.some.injEq,Prod.mk.injEq] at H
     obtain ⟨rfl,rfl,rfl,rfl⟩:=H
     have:=al.out
     have:=ak.out
     have:=ao.out
     have:=am.out
     obtain ⟨_,_,_,_,_,_⟩:=yc3 ai
     go_wp2_with (first|(go_at_call 43;(with_reducible refine (coder_Put.calls bL aM aN _ _ aA (Int.tmod (wrap64 (a1)) ap) (wrap64 ((Int.tmod (wrap64 (a1)) ap)+1)) ap bx bz bA bB _ ?aj ?aq A33.out).mono ?_);(case aj=>exact yce (Kd.R_reads' ae.out).2.2);(case aq=>exact (Kd.R_reads' ae.out).2.1);rintro e w38 ⟨bT,rfl,ho0,hb⟩;have ay:=zm (Kd.R_lower (Kd.R_new' (Kd.R_new' ho0 (Kd.R_lt (yr aa))) (Kd.R_lt (yr ae))) (zE yhb));replace aa:=zm (Kd.R_elder' (yr aa) (Kd.R_base ho0) hb);replace ae:=zm (Kd.R_elder' (yr ae) (Kd.R_base ho0) hb);replace ac:=ybb ac hb;replace af:=ybb af hb;replace ai:=ybb ai hb;replace HB:=ybs hb;(try clear hb);(try clear ho0);obtain ⟨_,_,_,_,_,_⟩:=yc3 ai;obtain ⟨cl,cm,bU⟩:=Kd.R_slice ay.out;subst bU;have:=ah.out;have:=ag.out;obtain ⟨_,_,_,_,_,_⟩:=yc3 af))
     repeat (go_quiet (first|(go_at_call 43;(with_reducible refine (coder_Put.calls bL aM aN _ _ aA (Int.tmod (wrap64 (a1)) ap) (wrap64 ((Int.tmod (wrap64 (a1)) ap)+1)) ap bx bz bA bB _ ?aj ?aq A33.out).mono ?_);(case aj=>exact yce (Kd.R_reads' ae.out).2.2);(case aq=>exact (Kd.R_reads' ae.out).2.1);rintro e w38 ⟨bT,rfl,ho0,hb⟩;have ay:=zm (Kd.R_lower (Kd.R_new' (Kd.R_new' ho0 (Kd.R_lt (yr aa))) (Kd.R_lt (yr ae))) (zE yhb));replace aa:=zm (Kd.R_elder' (yr aa) (Kd.R_base ho0) hb);replace ae:=zm (Kd.R_elder' (yr ae) (Kd.R_base ho0) hb);replace ac:=ybb ac hb;replace af:=ybb af hb;replace ai:=ybb ai hb;replace HB:=ybs hb;(try clear hb);(try clear ho0);obtain ⟨_,_,_,_,_,_⟩:=yc3 ai;obtain ⟨cl,cm,bU⟩:=Kd.R_slice ay.out;subst bU;have:=ah.out;have:=ag.out;obtain ⟨_,_,_,_,_,_⟩:=yc3 af));try go_wp2_with (first|(go_at_call 43;(with_reducible refine (coder_Put.calls bL aM aN _ _ aA (Int.tmod (wrap64 (a1)) ap) (wrap64 ((Int.tmod (wrap64 (a1)) ap)+1)) ap bx bz bA bB _ ?aj ?aq A33.out).mono ?_);(case aj=>exact yce (Kd.R_reads' ae.out).2.2);(case aq=>exact (Kd.R_reads' ae.out).2.1);rintro e w38 ⟨bT,rfl,ho0,hb⟩;have ay:=zm (Kd.R_lower (Kd.R_new' (Kd.R_new' ho0 (Kd.R_lt (yr aa))) (Kd.R_lt (yr ae))) (zE yhb));replace aa:=zm (Kd.R_elder' (yr aa) (Kd.R_base ho0) hb);replace ae:=zm (Kd.R_elder' (yr ae) (Kd.R_base ho0) hb);replace ac:=ybb ac hb;replace af:=ybb af hb;replace ai:=ybb ai hb;replace HB:=ybs hb;(try clear hb);(try clear ho0);obtain ⟨_,_,_,_,_,_⟩:=yc3 ai;obtain ⟨cl,cm,bU⟩:=Kd.R_slice ay.out;subst bU;have:=ah.out;have:=ag.out;obtain ⟨_,_,_,_,_,_⟩:=yc3 af)))
     refine bodyPost_ret (results_ct rfl _ _ aG 75 #[.int .u64 bx, .int .u32 bz, .slice cl bA.length cm] (0,0) _ rfl (ykp af) Try.underlying75 rfl (by kernel_rfl)) rfl ?_
     exact ⟨_,ye,yR2 ay ai af,yhb⟩
    rw [if_neg c34] at H
    obtain ⟨cu,cv⟩:=yF c34
    simp only [Option.some.injEq,Prod.mk.injEq] at H
    obtain ⟨rfl,rfl,rfl,rfl⟩:=H
    have:=al.out
    have:=ak.out
    have:=ao.out
    have:=am.out
    obtain ⟨_,_,_,_,_,_⟩:=yc3 ai
    go_wp2_with (first|(go_at_call 43;(with_reducible refine (coder_Put.calls bL aM aN _ _ aA (Int.tmod (wrap64 (a1)) ap) (wrap64 ((Int.tmod (wrap64 (a1)) ap)+1)) ap bx bz bA bB _ ?aj ?aq A33.out).mono ?_);(case aj=>exact yce (Kd.R_reads' ae.out).2.2);(case aq=>exact (Kd.R_reads' ae.out).2.1);rintro e w46 ⟨bT,rfl,ho0,hb⟩;have ay:=zm (Kd.R_lower (Kd.R_new' (Kd.R_new' ho0 (Kd.R_lt (yr aa))) (Kd.R_lt (yr ae))) (zE yhb));replace aa:=zm (Kd.R_elder' (yr aa) (Kd.R_base ho0) hb);replace ae:=zm (Kd.R_elder' (yr ae) (Kd.R_base ho0) hb);replace ac:=ybb ac hb;replace af:=ybb af hb;replace ai:=ybb ai hb;replace HB:=ybs hb;(try clear hb);(try clear ho0);obtain ⟨_,_,_,_,_,_⟩:=yc3 ai;obtain ⟨cw,cx,bV⟩:=Kd.R_slice ay.out;subst bV;have:=ag.out;have:=ah.out;obtain ⟨_,_,_,_,_,_⟩:=yc3 ac;obtain ⟨_,_,_,_,_,_⟩:=yc3 af))
    repeat (go_quiet (first|(go_at_call 43;(with_reducible refine (coder_Put.calls bL aM aN _ _ aA (Int.tmod (wrap64 (a1)) ap) (wrap64 ((Int.tmod (wrap64 (a1)) ap)+1)) ap bx bz bA bB _ ?aj ?aq A33.out).mono ?_);(case aj=>exact yce (Kd.R_reads' ae.out).2.2);(case aq=>exact (Kd.R_reads' ae.out).2.1);rintro e w46 ⟨bT,rfl,ho0,hb⟩;have ay:=zm (Kd.R_lower (Kd.R_new' (Kd.R_new' ho0 (Kd.R_lt (yr aa))) (Kd.R_lt (yr ae))) (zE yhb));replace aa:=zm (Kd.R_elder' (yr aa) (Kd.R_base ho0) hb);replace ae:=zm (Kd.R_elder' (yr ae) (Kd.R_base ho0) hb);replace ac:=ybb ac hb;replace af:=ybb af hb;replace ai:=ybb ai hb;replace HB:=ybs hb;(try clear hb);(try clear ho0);obtain ⟨_,_,_,_,_,_⟩:=yc3 ai;obtain ⟨cw,cx,bV⟩:=Kd.R_slice ay.out;subst bV;have:=ag.out;have:=ah.out;obtain ⟨_,_,_,_,_,_⟩:=yc3 ac;obtain ⟨_,_,_,_,_,_⟩:=yc3 af));try go_wp2_with (first|(go_at_call 43;(with_reducible refine (coder_Put.calls bL aM aN _ _ aA (Int.tmod (wrap64 (a1)) ap) (wrap64 ((Int.tmod (wrap64 (a1)) ap)+1)) ap bx bz bA bB _ ?aj ?aq A33.out).mono ?_);(case aj=>exact yce (Kd.R_reads' ae.out).2.2);(case aq=>exact (Kd.R_reads' ae.out).2.1);rintro e w46 ⟨bT,rfl,ho0,hb⟩;have ay:=zm (Kd.R_lower (Kd.R_new' (Kd.R_new' ho0 (Kd.R_lt (yr aa))) (Kd.R_lt (yr ae))) (zE yhb));replace aa:=zm (Kd.R_elder' (yr aa) (Kd.R_base ho0) hb);replace ae:=zm (Kd.R_elder' (yr ae) (Kd.R_base ho0) hb);replace ac:=ybb ac hb;replace af:=ybb af hb;replace ai:=ybb ai hb;replace HB:=ybs hb;(try clear hb);(try clear ho0);obtain ⟨_,_,_,_,_,_⟩:=yc3 ai;obtain ⟨cw,cx,bV⟩:=Kd.R_slice ay.out;subst bV;have:=ag.out;have:=ah.out;obtain ⟨_,_,_,_,_,_⟩:=yc3 ac;obtain ⟨_,_,_,_,_,_⟩:=yc3 af)))
    refine bodyPost_ret (results_ct rfl _ _ aG 75 #[.int .u64 aI, .int .u32 aJ, .slice aU az.length aV] (0,0) _ rfl (ykp af) Try.underlying75 rfl (by kernel_rfl)) rfl ?_
    exact ⟨_,ye,yR2 aa ai af,yhb⟩
   replace c32:=Bool.eq_false_iff.mpr c32
   subst c32
   rw [ynf] at H
   by_cases c52 : bI=0
   ·
    rw [if_pos c52] at H
    obtain ⟨cy,cz⟩:=yE c52
    clear c52
    simp only [Option.some.injEq,Prod.mk.injEq] at H
    obtain ⟨rfl,rfl,rfl,rfl⟩:=H
    have:=al.out
    have:=ak.out
    have:=ao.out
    have:=am.out
    obtain ⟨_,_,_,_,_,_⟩:=yc3 ai
    have:=ah.out
    have:=ag.out
    obtain ⟨_,_,_,_,_,_⟩:=yc3 af
    go_wp2
    repeat (go_quiet (fail);try go_wp2)
    refine bodyPost_ret (results_ct rfl _ _ aG 75 #[.int .u64 aM, .int .u32 aN, .slice bJ aA.length bK] (0,0) _ rfl (ykp af) Try.underlying75 rfl (by kernel_rfl)) rfl ?_
    exact ⟨_,ye,yR1 ae af,yhb⟩
   rw [if_neg c52] at H
   obtain ⟨cy,cz⟩:=yF c52
   simp only [Option.some.injEq,Prod.mk.injEq] at H
   obtain ⟨rfl,rfl,rfl,rfl⟩:=H
   have:=ag.out
   have:=ah.out
   have:=ak.out
   have:=al.out
   obtain ⟨_,_,_,_,_,_⟩:=yc3 ac
   have:=am.out
   have:=ao.out
   obtain ⟨_,_,_,_,_,_⟩:=yc3 af
   go_wp2
   repeat (go_quiet (fail);try go_wp2)
   refine bodyPost_ret (results_ct rfl _ _ aG 75 #[.int .u64 aI, .int .u32 aJ, .slice aU az.length aV] (0,0) _ rfl (ykp af) Try.underlying75 rfl (by kernel_rfl)) rfl ?_
   exact ⟨_,ye,yR1 aa af,yhb⟩
def gain_put.j0 : Nat→Int→Int→Bool→Int→Int→List Int→Option (Int × Int × List Int × Int)
 | 0,_,_,_,_,_,_=>none
 | k+1,x1,x10,x23,aE,aG,aH=>if x23=true then ((coder_Put.f k aE aG aH (wrap64 (x10+3)) (wrap64 ((wrap64 (x10+3))+1)) 8).bind fun aI=>(some (aI.1,aI.2.1,aI.2.2.1,aI.2.2.2))) else ((coder_Put.f k aE aG aH 7 8 8).bind fun au=>(if au.2.2.2=0 then ((coder_PutNum.f k au.1 au.2.1 au.2.2.1 (IntKind.u64.wrap (x1)) 45).bind fun aJ=>(some (aJ.1,aJ.2.1,aJ.2.2.1,aJ.2.2.2))) else (some (au.1,au.2.1,au.2.2.1,au.2.2.2))))
def gain_put.f (k : Nat) (ai : Int) (aj : Int) (ae : List Int) (a1 : Int) (a2 : Int) (a3 : Bool) : Option (Int × Int × List Int × Int):=if a3=true then ((coder_PutNum.f k ai aj ae (IntKind.u64.wrap (a1)) 45).bind fun aK=>(some (aK.1,aK.2.1,aK.2.2.1,aK.2.2.2))) else (if (wrap64 (a1 - a2)) ≥ (-3) then (gain_put.j0 k a1 (wrap64 (a1 - a2)) (decide ((wrap64 (a1 - a2))≤3)) ai aj ae) else (gain_put.j0 k a1 (wrap64 (a1 - a2)) false ai aj ae))
theorem gain_put.mono_l : ∀ k,(∀ y0 y1 y2 y3 y4 y5,LeO (gain_put.j0 k y0 y1 y2 y3 y4 y5) (gain_put.j0 (k+1) y0 y1 y2 y3 y4 y5))
 | 0=>fun _ _ _ _ _ _ r h=>by simp [gain_put.j0] at h
 | k+1=>by
  have ih0:=gain_put.mono_l k
  ·
   intro y0 y1 y2 y3 y4 y5
   unfold gain_put.j0
   repeat' with_reducible first|apply ih0|apply coder_Put.mono|apply coder_PutNum.mono|apply yLr|apply yLn|apply yLi|apply yLb|intro _
theorem gain_put.mono : ∀ a0 a1 a2 a3 a4 a5 k,LeO (gain_put.f k a0 a1 a2 a3 a4 a5) (gain_put.f (k+1) a0 a1 a2 a3 a4 a5):=by
 intro a0 a1 a2 a3 a4 a5 k
 have ih0:=gain_put.mono_l k
 unfold gain_put.f
 repeat' with_reducible first|apply ih0|apply coder_Put.mono|apply coder_PutNum.mono|apply yLr|apply yLn|apply yLi|apply yLb|intro _
set_option maxHeartbeats 8000000 in
set_option maxRecDepth 100000 in
theorem gain_put.calls (k : Nat) (ai : Int) (aj : Int) (aw : Option Addr) (ax : Nat) (ae : List Int) (a1 : Int) (a2 : Int) (a3 : Bool) (r1 : Int) (r2 : Int) (r3 : List Int) (r4 : Int) (w : World) (hr0_2 : Kd.C (Kd.int .u8) w aw ae.length ae) (hc0_2 : ae.length≤ax) (h : gain_put.f k ai aj ae a1 a2 a3=some (r1,r2,r3,r4)) :
  Calls Try.prog 87 #[.agg #[.int .u64 ai, .int .u32 aj, .slice aw ae.length ax], .int .i64 a1, .int .i64 a2, .bool a3] w fun e w' => ∃ v2_ : Value,e=.returned (.tuple #[.agg #[.int .u64 r1, .int .u32 r2,v2_], .int .i64 r4])∧Kd.R (Kd.int .u8) 5 w' w.heap.size (fun _=>True) v2_ r3∧Below w.heap.size w w' := by
 have hu75:=Try.underlying75;have aM:=zm hr0_2;have aN:=zm hc0_2;clear hr0_2 hc0_2;have HB:=zm (Below.refl w.heap.size w);have H:=h
 unfold gain_put.f at H
 clear h
 by_cases c5 : a3=true
 ·
  subst c5
  rw [if_pos rfl] at H
  replace H:=ybi H;obtain ⟨⟨bm,bn,bo,bG⟩,A6,H⟩:=H
  try dsimp only at H
  simp only [Option.some.injEq,Prod.mk.injEq] at H
  obtain ⟨rfl,rfl,rfl,rfl⟩:=H
  go_enter Try.func87,Try.ntmps87
  go_wp2_with (first|((with_reducible refine gate_dst (N:=4) rfl ?_);refine ybx 4 #[.int .u64 ai, .int .u32 aj, .slice aw ae.length ax] 75 ?_;intro aQ hg w7 hbox hb;have aa:=zm (hbox);have bp:=ygw hg;have bq:=ygw hg;replace HB:=ybs hb;clear hb hbox hg)|((with_reducible refine gate_dst (N:=8) rfl ?_);refine ybx 8 #[.int .u64 0, .int .u32 0, .slice none 0 0] 75 ?_;intro av hg w8 hbox hb;have ac:=zm (hbox);have br:=ygw hg;have bs:=ygw hg;replace HB:=ybs hb;have af:=ynl aa hg;have ag:=yng aa hg;replace aa:=ybb aa hb;clear hb hbox hg;have:=af.out;have:=ag.out;obtain ⟨aT,aU,aV,aW,aX,aY⟩:=yc3 aa)|((with_reducible refine gate_callee (f:=50) rfl ?_);refine ygl 46 Try.func50 #[.agg #[.int .u64 ai, .int .u32 aj, .slice aw ae.length ax], .int .u64 (IntKind.u64.wrap (a1)), .int .u64 45] ?_;(with_reducible refine (coder_PutNum.calls k ai aj _ _ ae (IntKind.u64.wrap (a1)) 45 bm bn bo bG _ ?ak aN.out A6.out).mono ?_);(case ak=>exact ycb aM);rintro e w11 ⟨bX,rfl,ho0,hb⟩;refine ⟨_,rfl, ?_⟩;have bf:=zm (Kd.R_lower ho0 (zE yhb));replace aa:=ybb aa hb;replace ac:=ybb ac hb;replace HB:=ybs hb;(try clear hb);(try clear ho0);obtain ⟨aZ,a7,a8,a9,ba,bb⟩:=yc3 ac;obtain ⟨bH,bI,bJ⟩:=Kd.R_slice bf.out;subst bJ))
  refine bodyPost_ret (results_ct rfl _ _ av 75 #[.int .u64 bm, .int .u32 bn, .slice bH bo.length bI] (0,0) _ rfl (ykp ac) Try.underlying75 rfl (by kernel_rfl)) rfl ?_
  exact ⟨_,ye,yR1 bf ac,yhb⟩
 replace c5:=Bool.eq_false_iff.mpr c5
 subst c5
 rw [ynf] at H
 have bj:=zm H;clear H
 go_enter Try.func87,Try.ntmps87
 go_upto_region 3 with (first|((with_reducible refine gate_dst (N:=4) rfl ?_);refine ybx 4 #[.int .u64 ai, .int .u32 aj, .slice aw ae.length ax] 75 ?_;intro aQ hg w15 hbox hb;have aa:=zm (hbox);have bp:=ygw hg;have bq:=ygw hg;replace HB:=ybs hb;clear hb hbox hg)|((with_reducible refine gate_dst (N:=8) rfl ?_);refine ybx 8 #[.int .u64 0, .int .u32 0, .slice none 0 0] 75 ?_;intro av hg w16 hbox hb;have ac:=zm (hbox);have br:=ygw hg;have bs:=ygw hg;replace HB:=ybs hb;have af:=ynl aa hg;have ag:=yng aa hg;replace aa:=ybb aa hb;clear hb hbox hg))
 (try simp only [Act.put,List.setIfInBounds_toArray,List.set_cons_zero,List.set_cons_succ])
 go_cut [23] (fun v23 wc => ∃ (kq : Nat) (ay : Bool),v23=.bool ay∧Aside0 (gain_put.j0 kq a1 (wrap64 (a1 - a2)) ay ai aj ae=some (r1,r2,r3,r4))∧Aside0 (kq≤k)∧Aside0 (wc.heap[aQ]? = some (.cells #[.int .u64 ai, .int .u32 aj,(.slice aw ae.length ax)] 75 (0,0)))∧Aside0 (wc.heap[av]? = some (.cells #[.int .u64 0, .int .u32 0,(.slice none 0 0)] 75 (0,0)))∧Aside0 (Below w.heap.size w wc))
 case first =>
  have H:=bj.out;clear bj
  by_cases c17 : (wrap64 (a1 - a2)) ≥ (-3)
  ·
   rw [if_pos c17] at H
   have az:=yDl c17
   clear c17
   (first|rw [az]|(simp only [i64_w,i32_w];rw [az])|skip)
   have H' := zm H
   clear H
   go_wp2
   go_meet
   case rel=>exact ⟨_,(decide ((wrap64 (a1 - a2))≤3)),yq,H',⟨yo⟩,⟨yk aa⟩,⟨yk ac⟩,⟨yhb⟩⟩
  rw [if_neg c17] at H
  have az:=yGl c17
  clear c17
  (first|rw [az]|(simp only [i64_w,i32_w];rw [az])|skip)
  have H' := zm H
  clear H
  go_wp2
  go_meet
  case rel=>exact ⟨_,(false),yq,H',⟨yo⟩,⟨yk aa⟩,⟨yk ac⟩,⟨yhb⟩⟩
 case rest =>
  clear bj
  try clear aT
  try clear aU
  try clear aV
  try clear aZ
  try clear a7
  try clear a8
  try clear aW
  try clear aX
  try clear aY
  try clear a9
  try clear ba
  try clear bb
  obtain ⟨kq,ay,rfl,HA,bY,aa,ac,HB⟩:=hcut
  obtain ⟨bc,rfl⟩:=ysu kq (fun h=>by subst h;exact absurd HA.out (by simp [gain_put.j0]))
  have H:=HA.out;clear HA
  simp only [gain_put.j0] at H
  by_cases c18 : ay=true
  ·
   subst c18
   rw [if_pos rfl] at H
   replace H:=ybi H;obtain ⟨⟨bu,bv,bw,bK⟩,A19,H⟩:=H
   try dsimp only at H
   simp only [Option.some.injEq,Prod.mk.injEq] at H
   obtain ⟨rfl,rfl,rfl,rfl⟩:=H
   have:=af.out
   have:=ag.out
   obtain ⟨_,_,_,_,_,_⟩:=yc3 aa
   go_wp2_with (first|((with_reducible refine gate_callee (f:=43) rfl ?_);refine ygl 30 Try.func43 #[.agg #[.int .u64 ai, .int .u32 aj, .slice aw ae.length ax], .int .i64 (wrap64 ((wrap64 (a1 - a2))+3)), .int .i64 (wrap64 ((wrap64 ((wrap64 (a1 - a2))+3))+1)), .int .i64 8] ?_;(with_reducible refine (coder_Put.calls bc ai aj _ _ ae (wrap64 ((wrap64 (a1 - a2))+3)) (wrap64 ((wrap64 ((wrap64 (a1 - a2))+3))+1)) 8 bu bv bw bK _ ?ak aN.out A19.out).mono ?_);(case ak=>exact ycb aM);rintro e w22 ⟨bZ,rfl,ho0,hb⟩;refine ⟨_,rfl, ?_⟩;have bg:=zm (Kd.R_lower ho0 (zE yhb));replace aa:=ybb aa hb;replace ac:=ybb ac hb;replace HB:=ybs hb;(try clear hb);(try clear ho0);obtain ⟨_,_,_,_,_,_⟩:=yc3 ac;obtain ⟨bL,bM,bN⟩:=Kd.R_slice bg.out;subst bN))
   refine bodyPost_ret (results_ct rfl _ _ av 75 #[.int .u64 bu, .int .u32 bv, .slice bL bw.length bM] (0,0) _ rfl (ykp ac) Try.underlying75 rfl (by kernel_rfl)) rfl ?_
   exact ⟨_,ye,yR1 bg ac,yhb⟩
  replace c18:=Bool.eq_false_iff.mpr c18
  subst c18
  rw [ynf] at H
  replace H:=ybi H;obtain ⟨⟨aC,aD,aA,bk⟩,A25,H⟩:=H
  try dsimp only at H
  by_cases c26 : bk=0
  ·
   rw [if_pos c26] at H
   obtain ⟨bx,bz⟩:=yE c26
   clear c26
   replace H:=ybi H;obtain ⟨⟨bA,bB,bC,bO⟩,A27,H⟩:=H
   try dsimp only at H
   simp only [Option.some.injEq,Prod.mk.injEq] at H
   obtain ⟨rfl,rfl,rfl,rfl⟩:=H
   have:=af.out
   have:=ag.out
   obtain ⟨_,_,_,_,_,_⟩:=yc3 aa
   go_wp2_with (first|((with_reducible refine gate_callee (f:=43) rfl ?_);refine ygl 35 Try.func43 #[.agg #[.int .u64 ai, .int .u32 aj, .slice aw ae.length ax], .int .i64 7, .int .i64 8, .int .i64 8] ?_;(with_reducible refine (coder_Put.calls bc ai aj _ _ ae 7 8 8 aC aD aA bk _ ?ak aN.out A25.out).mono ?_);(case ak=>exact ycb aM);rintro e w30 ⟨bP,rfl,ho0,hb⟩;refine ⟨_,rfl, ?_⟩;have ah:=zm (Kd.R_lower ho0 (zE yhb));replace aa:=ybb aa hb;replace ac:=ybb ac hb;replace HB:=ybs hb;(try clear hb);(try clear ho0))|((with_reducible refine gate_dst (N:=11) rfl ?_);refine ybx 11 #[.int .u64 0, .int .u32 0, .slice none 0 0] 75 ?_;intro bh hg w31 hbox hb;replace ah:=yRb ah hb;have al:=zm (hbox);have bD:=ygw hg;have bE:=ygw hg;replace HB:=ybs hb;have am:=ynl aa hg;have ao:=yng aa hg;replace aa:=ybb aa hb;have ap:=ynl ac hg;have aq:=yng ac hg;replace ac:=ybb ac hb;clear hb hbox hg;have:=ao.out;have:=am.out;have:=aq.out;have:=ap.out;obtain ⟨_,_,_,_,_,_⟩:=yc3 al;obtain ⟨bl,bd,bQ⟩:=Kd.R_slice ah.out;subst bQ;obtain ⟨_,_,_,_,_,_⟩:=yc3 aa)|((with_reducible refine gate_callee (f:=50) rfl ?_);refine ygl 46 Try.func50 #[.agg #[.int .u64 aC, .int .u32 aD, .slice bl aA.length bd], .int .u64 (IntKind.u64.wrap (a1)), .int .u64 45] ?_;(with_reducible refine (coder_PutNum.calls bc aC aD _ _ aA (IntKind.u64.wrap (a1)) 45 bA bB bC bO _ ?ak ?bF A27.out).mono ?_);(case ak=>refine (Kd.R_reads' (e:=5) (base:=w.heap.size) (ok:=fun k_=>True) (n:=aA.length) (c:=bd) ?_).2.2;exact (yR2 ah al aa));(case bF=>exact (Kd.R_reads' ah.out).2.1);rintro e w37 ⟨b4,rfl,ho0,hb⟩;refine ⟨_,rfl, ?_⟩;have bi:=zm (Kd.R_lower (Kd.R_new' ho0 (Kd.R_lt (yR2 ah al aa))) (zE yhb));replace ah:=zm (Kd.R_elder' (yR2 ah al aa) (Kd.R_base ho0) hb);replace aa:=zm (zF (g:=aQ) (o:=.cells #[.int .u64 aC, .int .u32 aD, .slice bl aA.length bd] 75 (0,0)) (ykp aa) hb);replace ac:=ybb ac hb;replace al:=zm (zF (g:=bh) (o:=.cells #[.int .u64 aC, .int .u32 aD, .slice bl aA.length bd] 75 (0,0)) (ykp al) hb);replace HB:=ybs hb;(try clear hb);(try clear ho0);obtain ⟨_,_,_,_,_,_⟩:=yc3 ac;obtain ⟨bR,bS,bT⟩:=Kd.R_slice bi.out;subst bT))
   refine bodyPost_ret (results_ct rfl _ _ av 75 #[.int .u64 bA, .int .u32 bB, .slice bR bC.length bS] (0,0) _ rfl (ykp ac) Try.underlying75 rfl (by kernel_rfl)) rfl ?_
   exact ⟨_,ye,yR1 bi ac,yhb⟩
  rw [if_neg c26] at H
  obtain ⟨bx,bz⟩:=yF c26
  simp only [Option.some.injEq,Prod.mk.injEq] at H
  obtain ⟨rfl,rfl,rfl,rfl⟩:=H
  have:=af.out
  have:=ag.out
  obtain ⟨_,_,_,_,_,_⟩:=yc3 aa
  go_wp2_with (first|((with_reducible refine gate_callee (f:=43) rfl ?_);refine ygl 35 Try.func43 #[.agg #[.int .u64 ai, .int .u32 aj, .slice aw ae.length ax], .int .i64 7, .int .i64 8, .int .i64 8] ?_;(with_reducible refine (coder_Put.calls bc ai aj _ _ ae 7 8 8 aC aD aA bk _ ?ak aN.out A25.out).mono ?_);(case ak=>exact ycb aM);rintro e w42 ⟨bP,rfl,ho0,hb⟩;refine ⟨_,rfl, ?_⟩;have ah:=zm (Kd.R_lower ho0 (zE yhb));replace aa:=ybb aa hb;replace ac:=ybb ac hb;replace HB:=ybs hb;(try clear hb);(try clear ho0))|((with_reducible refine gate_dst (N:=11) rfl ?_);refine ybx 11 #[.int .u64 0, .int .u32 0, .slice none 0 0] 75 ?_;intro bh hg w43 hbox hb;replace ah:=yRb ah hb;have al:=zm (hbox);have bD:=ygw hg;have bE:=ygw hg;replace HB:=ybs hb;have am:=ynl aa hg;have ao:=yng aa hg;replace aa:=ybb aa hb;have ap:=ynl ac hg;have aq:=yng ac hg;replace ac:=ybb ac hb;clear hb hbox hg;have:=ao.out;have:=am.out;have:=aq.out;have:=ap.out;obtain ⟨_,_,_,_,_,_⟩:=yc3 al;obtain ⟨bU,bV,bW⟩:=Kd.R_slice ah.out;subst bW;obtain ⟨_,_,_,_,_,_⟩:=yc3 ac))
  refine bodyPost_ret (results_ct rfl _ _ av 75 #[.int .u64 aC, .int .u32 aD, .slice bU aA.length bV] (0,0) _ rfl (ykp ac) Try.underlying75 rfl (by kernel_rfl)) rfl ?_
  exact ⟨_,ye,yR2 ah al ac,yhb⟩
mutual
def gain_Put.j0 : Nat→List Int→List Int→Bool→Bool→Int→Int→List Int→Int→Int→List Int→Option (Int × Int × List Int × Int)
 | 0,_,_,_,_,_,_,_,_,_,_=>none
 | k+1,x1,x2,x3,x33,ci,cj,ck,aY,aZ,a7=>if x33=true then (some (aY,aZ,a7,1)) else (gain_Put.l0 k x1 x2 x3 0 aY aZ a7 ci cj ck)
def gain_Put.l0 : Nat→List Int→List Int→Bool→Int→Int→Int→List Int→Int→Int→List Int→Option (Int × Int × List Int × Int)
 | 0,_,_,_,_,_,_,_,_,_,_=>none
 | k+1,x1,x2,x3,x36,aY,aZ,a7,br,bs,bu=>if x36 < 5 then (if x3=true then (gain_Put.j2 k x1 x2 x3 x36 0 x36 aY aZ a7 br bs bu) else (if 0≤x36 then (if x36 < (x2.length : Int) then (gain_Put.j2 k x1 x2 x3 x36 (rd x2 x36) x36 aY aZ a7 br bs bu) else (none)) else (none))) else (some (br,bs,bu,0))
def gain_Put.j2 : Nat→List Int→List Int→Bool→Int→Int→Int→Int→Int→List Int→Int→Int→List Int→Option (Int × Int × List Int × Int)
 | 0,_,_,_,_,_,_,_,_,_,_,_,_=>none
 | k+1,x1,x2,x3,x13,x14,x36,aY,aZ,a7,br,bs,bu=>if 0≤x13 then (if x13 < (x1.length : Int) then ((gain_put.f k br bs bu (rd x1 x13) x14 x3).bind fun bM=>(if bM.2.2.2=0 then (gain_Put.l0 k x1 x2 x3 (wrap64 (x36+1)) aY aZ a7 bM.1 bM.2.1 bM.2.2.1) else (some (aY,aZ,a7,bM.2.2.2)))) else (none)) else (none)
end
def gain_Put.f (k : Nat) (bd : Int) (bf : Int) (aJ : List Int) (l1 : List Int) (l2 : List Int) (a3 : Bool) : Option (Int × Int × List Int × Int):=(coder_Put.f k bd bf aJ 0 1 0).bind fun bv=>((gain_Right.f k l1).bind fun cZ=>(if cZ=true then (if a3=true then (gain_Put.j0 k l1 l2 a3 false bd bf aJ bv.1 bv.2.1 bv.2.2.1) else ((gain_Right.f k l2).bind fun cl=>(gain_Put.j0 k l1 l2 a3 (!cl) bd bf aJ bv.1 bv.2.1 bv.2.2.1))) else (gain_Put.j0 k l1 l2 a3 true bd bf aJ bv.1 bv.2.1 bv.2.2.1)))
theorem gain_Put.mono_l : ∀ k,(∀ y0 y1 y2 y3 y4 y5 y6 y7 y8 y9,LeO (gain_Put.j0 k y0 y1 y2 y3 y4 y5 y6 y7 y8 y9) (gain_Put.j0 (k+1) y0 y1 y2 y3 y4 y5 y6 y7 y8 y9))∧(∀ y0 y1 y2 y3 y4 y5 y6 y7 y8 y9,LeO (gain_Put.l0 k y0 y1 y2 y3 y4 y5 y6 y7 y8 y9) (gain_Put.l0 (k+1) y0 y1 y2 y3 y4 y5 y6 y7 y8 y9))∧(∀ y0 y1 y2 y3 y4 y5 y6 y7 y8 y9 y10 y11,LeO (gain_Put.j2 k y0 y1 y2 y3 y4 y5 y6 y7 y8 y9 y10 y11) (gain_Put.j2 (k+1) y0 y1 y2 y3 y4 y5 y6 y7 y8 y9 y10 y11))
 | 0=>⟨fun _ _ _ _ _ _ _ _ _ _ r h=>by simp [gain_Put.j0] at h,fun _ _ _ _ _ _ _ _ _ _ r h=>by simp [gain_Put.l0] at h,fun _ _ _ _ _ _ _ _ _ _ _ _ r h=>by simp [gain_Put.j2] at h⟩
 | k+1=>by
  obtain ⟨ih0,ih1,ih2⟩:=gain_Put.mono_l k
  refine ⟨?_, ?_, ?_⟩
  ·
   intro y0 y1 y2 y3 y4 y5 y6 y7 y8 y9
   unfold gain_Put.j0
   repeat' with_reducible first|apply ih0|apply ih1|apply ih2|apply coder_Put.mono|apply gain_Right.mono|apply gain_put.mono|apply yLr|apply yLn|apply yLi|apply yLb|intro _
  ·
   intro y0 y1 y2 y3 y4 y5 y6 y7 y8 y9
   unfold gain_Put.l0
   repeat' with_reducible first|apply ih0|apply ih1|apply ih2|apply coder_Put.mono|apply gain_Right.mono|apply gain_put.mono|apply yLr|apply yLn|apply yLi|apply yLb|intro _
  intro y0 y1 y2 y3 y4 y5 y6 y7 y8 y9 y10 y11
  unfold gain_Put.j2
  repeat' with_reducible first|apply ih0|apply ih1|apply ih2|apply coder_Put.mono|apply gain_Right.mono|apply gain_put.mono|apply yLr|apply yLn|apply yLi|apply yLb|intro _
theorem gain_Put.mono : ∀ a0 a1 a2 a3 a4 a5 k,LeO (gain_Put.f k a0 a1 a2 a3 a4 a5) (gain_Put.f (k+1) a0 a1 a2 a3 a4 a5):=by
 intro a0 a1 a2 a3 a4 a5 k
 obtain ⟨ih0,ih1,ih2⟩:=gain_Put.mono_l k
 unfold gain_Put.f
 repeat' with_reducible first|apply ih0|apply ih1|apply ih2|apply coder_Put.mono|apply gain_Right.mono|apply gain_put.mono|apply yLr|apply yLn|apply yLi|apply yLb|intro _
def gain_Put.T11 : Bool × List (List Nat × List Nat):=(true, [([], []),([], []),([], []),([1,2], [1,2]),([3], [3]),([], []),([], []),([0,4,5,6], [0,4,5,6]),([7], [7]),([8], [8]),([8], [8]),([], []),([11,9,7,0,1,2,3,4,5,6,7,8,9,11], [9,11]),([10,12,0,1,2,3,4,5,6,7,8,9,10,11,12], [10])])
def gain_Put.B11 : List Nat := [0,0,0,6,14,0,0,127,255,511,511,0,3071,8191]
theorem gain_Put.tab11 : rtab .any (opsOf Try.f45 11)=gain_Put.T11:=by kernel_rfl
theorem gain_Put.bits11 : waitsOk gain_Put.T11.2 gain_Put.B11=true:=by kernel_rfl
set_option maxHeartbeats 8000000 in
set_option maxRecDepth 100000 in
theorem gain_Put.calls (k : Nat) (bd : Int) (bf : Int) (aU : Nat→Prop) (a8 : Option Addr) (a9 : Nat) (aJ : List Int) (A1 : Option Addr) (c1 : Nat) (l1 : List Int) (A2 : Option Addr) (c2 : Nat) (l2 : List Int) (a3 : Bool) (r1 : Int) (r2 : Int) (r3 : List Int) (r4 : Int) (w : World) (dg : Kd.V (Kd.int .u8) 5 w w.heap.size (fun k_=>aU k_) (.slice a8 aJ.length a9) aJ) (hr1 : Kd.C (Kd.int .i64) w A1 l1.length l1) (hc1 : l1.length≤c1) (hr2 : Kd.C (Kd.int .i64) w A2 l2.length l2) (hc2 : l2.length≤c2) (h : gain_Put.f k bd bf aJ l1 l2 a3=some (r1,r2,r3,r4)) :
  Calls Try.prog 45 #[.agg #[.int .u64 bd, .int .u32 bf, .slice a8 aJ.length a9], .slice A1 l1.length c1, .slice A2 l2.length c2, .bool a3] w fun e w' => ∃ v2_ : Value,e=.returned (.tuple #[.agg #[.int .u64 r1, .int .u32 r2,v2_], .int .i64 r4])∧Kd.V (Kd.int .u8) 5 w' w.heap.size (fun k_=>(aU k_∨w.heap.size≤k_)) v2_ r3∧Below w.heap.size w w' := by
 have hu75:=Try.underlying75
 have ba:=zm (show Kd.V (Kd.int .u8) 5 w w.heap.size (fun k_=>(aU k_∨w.heap.size≤k_)) (.slice a8 aJ.length a9) aJ from zy dg (fun k_ hk => .inl hk))
 have HR1:=zm hr1;have HC1:=zm hc1;clear hr1 hc1;have HR2:=zm hr2;have HC2:=zm hc2;clear hr2 hc2;have HB:=zm (Below.refl w.heap.size w);have H:=h
 unfold gain_Put.f at H
 clear h
 replace H:=ybi H;obtain ⟨⟨bp,bq,aE,dm⟩,A5,H⟩:=H
 try dsimp only at H
 have HC6:=zm H;clear H
 go_enter Try.func45,Try.ntmps45
 go_upto_region 2 with (first|((with_reducible refine gate_dst (N:=4) rfl ?_);refine ybx 4 #[.int .u64 bd, .int .u32 bf, .slice a8 aJ.length a9] 75 ?_;intro aG hg w7 hbox hb;replace ba:=yVe ba hg hb;have aj:=zm (hbox);have dz:=ygw hg;have dA:=ygw hg;replace HB:=ybs hb;clear hb hbox hg)|((with_reducible refine gate_dst (N:=8) rfl ?_);refine ybx 8 #[.int .u64 0, .int .u32 0, .slice none 0 0] 75 ?_;intro aC hg w8 hbox hb;replace ba:=yVe ba hg hb;have ai:=zm (hbox);have dB:=ygw hg;have dC:=ygw hg;replace HB:=ybs hb;have bb:=ynl aj hg;have bc:=yng aj hg;replace aj:=ybb aj hb;clear hb hbox hg;have:=bb.out;have:=bc.out;obtain ⟨cm,cn,co,cp,cq,cr⟩:=yc3 aj)|((with_reducible refine gate_callee (f:=43) rfl ?_);refine ygl 19 Try.func43 #[.agg #[.int .u64 bd, .int .u32 bf, .slice a8 aJ.length a9], .int .i64 0, .int .i64 1, .int .i64 0] ?_;(with_reducible refine (coder_Put.calls k bd bf _ _ aJ 0 1 0 bp bq aE dm _ ?aT ?bw A5.out).mono ?_);(case aT=>exact yce (Kd.V_reads' ba.out).2.2);(case bw=>exact (Kd.V_reads' ba.out).2.1);rintro e w11 ⟨dL,rfl,ho0,hb⟩;refine ⟨_,rfl, ?_⟩;replace ba:=zm (Kd.V_elder' (yr ba) (Kd.R_base ho0) hb);have bH:=zm (Kd.R_lower (Kd.R_newM (M:=fun k_=>(w.heap.size≤k_)) ho0 (zE yhb) (fun k_ h_=>h_)) (zE yhb));replace aj:=ybb aj hb;replace ai:=ybb ai hb;replace HB:=ybs hb;(try clear hb);(try clear ho0))|((with_reducible refine gate_dst (N:=10) rfl ?_);refine ybx 10 #[.int .u64 0, .int .u32 0, .slice none 0 0] 75 ?_;intro aH hg w12 hbox hb;replace ba:=yVe ba hg hb;replace bH:=yRb bH hb;have ak:=zm (hbox);have dD:=ygw hg;have dE:=ygw hg;replace HB:=ybs hb;have bh:=ynl aj hg;have bi:=yng aj hg;replace aj:=ybb aj hb;have bj:=ynl ai hg;have bk:=yng ai hg;replace ai:=ybb ai hb;clear hb hbox hg;have:=bi.out;have:=bh.out;have:=bk.out;have:=bj.out;obtain ⟨ct,cu,cv,cw,cx,cy⟩:=yc3 ak;obtain ⟨aK,aM,dp⟩:=Kd.R_slice bH.out;subst dp))
 (try simp only [Act.put,List.setIfInBounds_toArray,List.set_cons_zero,List.set_cons_succ])
 go_cut [33] (fun v33 wc => ∃ (kq : Nat) (bP : Bool),v33=.bool bP∧Aside0 (gain_Put.j0 kq l1 l2 a3 bP bd bf aJ bp bq aE=some (r1,r2,r3,r4))∧Aside0 (kq≤k)∧Aside0 (Kd.V (Kd.int .u8) 5 wc w.heap.size (fun k_=>(aU k_∨w.heap.size≤k_)∧some k_≠((.slice aK aE.length aM) : Value).ownBlock∧k_≠aG∧k_≠aC∧k_≠aH) (.slice a8 aJ.length a9) aJ)∧Aside0 (Kd.R (Kd.int .u8) 5 wc w.heap.size (fun k_=>(w.heap.size≤k_)) (.slice aK aE.length aM) aE)∧Aside0 (wc.heap[aG]? = some (.cells #[.int .u64 bd, .int .u32 bf,(.slice a8 aJ.length a9)] 75 (0,0)))∧Aside0 (wc.heap[aC]? = some (.cells #[.int .u64 0, .int .u32 0,(.slice none 0 0)] 75 (0,0)))∧Aside0 (wc.heap[aH]? = some (.cells #[.int .u64 bp, .int .u32 bq,(.slice aK aE.length aM)] 75 (0,0)))∧Aside0 (Below w.heap.size w wc))
 case first =>
  have H:=HC6.out;clear HC6
  replace H:=ybi H;obtain ⟨cZ,A17,H⟩:=H
  by_cases c18 : cZ=true
  ·
   subst c18
   rw [if_pos rfl] at H
   by_cases c19 : a3=true
   ·
    subst c19
    rw [if_pos rfl] at H
    have H' := zm H
    clear H
    go_wp2_with (first|((with_reducible refine gate_callee (f:=72) rfl ?_);refine ygl 23 Try.func72 #[.slice A1 l1.length c1] ?_;(with_reducible refine (gain_Right.calls k _ _ l1 true _ ?aT HC1.out A17.out).mono ?_);(case aT=>exact Kd.C_below HR1.out yhb);rintro e w' ⟨rfl,⟨nd,rfl⟩⟩;refine ⟨_,rfl, ?_⟩))
    go_meet
    case rel=>exact ⟨_,(false),yq,H',⟨yo⟩,⟨yV0 ba⟩,⟨yR1 bH ak⟩,⟨yk aj⟩,⟨yk ai⟩,⟨ykp ak⟩,⟨yhb⟩⟩
   replace c19:=Bool.eq_false_iff.mpr c19
   subst c19
   rw [ynf] at H
   replace H:=ybi H;obtain ⟨cl,A20,H⟩:=H
   have H' := zm H
   clear H
   go_wp2_with (first|((with_reducible refine gate_callee (f:=72) rfl ?_);refine ygl 23 Try.func72 #[.slice A1 l1.length c1] ?_;(with_reducible refine (gain_Right.calls k _ _ l1 true _ ?aT HC1.out A17.out).mono ?_);(case aT=>exact Kd.C_below HR1.out yhb);rintro e w' ⟨rfl,⟨nd,rfl⟩⟩;refine ⟨_,rfl, ?_⟩)|(go_at_call 72;(with_reducible refine (gain_Right.calls k _ _ l2 cl _ ?aT HC2.out A20.out).mono ?_);(case aT=>exact Kd.C_below HR2.out yhb);rintro e w' ⟨rfl,⟨nd,rfl⟩⟩))
   go_meet
   case rel=>exact ⟨_,(!cl),yq,H',⟨yo⟩,⟨yV0 ba⟩,⟨yR1 bH ak⟩,⟨yk aj⟩,⟨yk ai⟩,⟨ykp ak⟩,⟨yhb⟩⟩
  replace c18:=Bool.eq_false_iff.mpr c18
  subst c18
  rw [ynf] at H
  have H' := zm H
  clear H
  go_wp2_with (first|((with_reducible refine gate_callee (f:=72) rfl ?_);refine ygl 23 Try.func72 #[.slice A1 l1.length c1] ?_;(with_reducible refine (gain_Right.calls k _ _ l1 false _ ?aT HC1.out A17.out).mono ?_);(case aT=>exact Kd.C_below HR1.out yhb);rintro e w' ⟨rfl,⟨nd,rfl⟩⟩;refine ⟨_,rfl, ?_⟩))
  go_meet
  case rel=>exact ⟨_,(true),yq,H',⟨yo⟩,⟨yV0 ba⟩,⟨yR1 bH ak⟩,⟨yk aj⟩,⟨yk ai⟩,⟨ykp ak⟩,⟨yhb⟩⟩
 case rest =>
  clear HC6
  try clear c1
  try clear c2
  try clear cm
  try clear cn
  try clear co
  try clear ct
  try clear cu
  try clear cv
  try clear cp
  try clear cq
  try clear cr
  try clear cw
  try clear cx
  try clear cy
  obtain ⟨kq,bP,rfl,HA,HJ5,ae,ac,aj,ai,ak,HB⟩:=hcut
  obtain ⟨kj5,rfl⟩:=ysu kq (fun h=>by subst h;exact absurd HA.out (by simp [gain_Put.j0]))
  have H:=HA.out;clear HA
  simp only [gain_Put.j0] at H
  by_cases c21 : bP=true
  ·
   subst c21
   rw [if_pos rfl] at H
   simp only [Option.some.injEq,Prod.mk.injEq] at H
   obtain ⟨rfl,rfl,rfl,rfl⟩:=H
   have:=bi.out
   have:=bh.out
   have:=bk.out
   have:=bj.out
   obtain ⟨cz,cA,cB,cC,cD,cE⟩:=yc3 ak
   have:=bc.out
   have:=bb.out
   obtain ⟨cF,cG,cH,cI,cJ,cK⟩:=yc3 ai
   go_wp2
   refine bodyPost_ret (results_ct rfl _ _ aC 75 #[.int .u64 bp, .int .u32 bq, .slice aK aE.length aM] (0,0) _ rfl (ykp ai) Try.underlying75 rfl (by kernel_rfl)) rfl ?_
   exact ⟨_,ye,zy (Kd.R_V (by (with_reducible repeat (first|apply zo|apply zp|apply zq));exact zG (zH (p:=⟨aC,2,none⟩) (zH (p:=⟨aC,1,none⟩) (zH (p:=⟨aC,0,none⟩) (Kd.R_types ac.out ai.out (by decide)) (fun _ hk=>hk.2) (.int .u64 bp)) (fun _ hk=>hk.2) (.int .u32 bq)) (fun _ hk=>hk.2) (.slice aK aE.length aM)) (fun _ hk=>hk.1))) (fun k_ hk=>by first|exact ⟨(.inr (hk.1)),hk.2⟩|exact (.inr (hk))),yhb⟩
  replace c21:=Bool.eq_false_iff.mpr c21
  subst c21
  rw [ynf] at H
  have H' := zm H
  clear H
  have:=bb.out
  have:=bc.out
  have:=bh.out
  have:=bi.out
  obtain ⟨cL,cM,cN,cO,cP,cQ⟩:=yc3 aj
  go_wp2_with (first|((with_reducible refine gate_dst (N:=12) rfl ?_);refine ybx 12 #[.int .u64 0, .int .u32 0, .slice none 0 0] 75 ?_;intro ap hg w30 hbox hb;replace ae:=yVe ae hg hb;replace ac:=yRb ac hb;have ao:=zm (hbox);have dF:=ygw hg;have dG:=ygw hg;replace HB:=ybs hb;have bC:=ynl aj hg;have bD:=yng aj hg;replace aj:=ybb aj hb;have bl:=ynl ai hg;have bm:=yng ai hg;replace ai:=ybb ai hb;have bn:=ynl ak hg;have bo:=yng ak hg;replace ak:=ybb ak hb;clear hb hbox hg;have:=bD.out;have:=bC.out;have:=bm.out;have:=bl.out;have:=bo.out;have:=bn.out;obtain ⟨cR,cS,cT,cU,cV,cW⟩:=yc3 ao))
  go_loopg [36] kj5 (fun kq v36 w' => ∃ (aq : Int) (aN : Int) (aQ : Int) (al : Int) (am : Int) (ag : List Int) (bx : Value),v36=.int .i64 aq∧Aside0 (gain_Put.l0 kq l1 l2 a3 aq bp bq aE al am ag=some (r1,r2,r3,r4))∧Aside0 (kq≤kj5)∧Aside0 (Kd.V (Kd.int .u8) 5 w' w.heap.size (fun k_=>(aU k_∨w.heap.size≤k_)∧some k_≠((.slice aK aE.length aM) : Value).ownBlock∧k_≠aG∧k_≠aC∧k_≠aH∧k_≠ap) (.slice a8 aJ.length a9) aJ)∧Aside0 (Kd.R (Kd.int .u8) 5 w' w.heap.size (fun k_=>(w.heap.size≤k_)) (.slice aK aE.length aM) aE)∧Aside0 (Kd.V (Kd.int .u8) 5 w' w.heap.size (fun k_=>(aU k_∨w.heap.size≤k_)∧some k_≠((.slice aK aE.length aM) : Value).ownBlock∧k_≠aG∧k_≠aC∧k_≠aH∧k_≠ap) bx ag)∧Aside0 (w'.heap[aG]? = some (.cells #[.int .u64 bd, .int .u32 bf,(.slice a8 aJ.length a9)] 75 (0,0)))∧Aside0 (w'.heap[aC]? = some (.cells #[.int .u64 aN, .int .u32 aQ,(.slice none 0 0)] 75 (0,0)))∧Aside0 (w'.heap[aH]? = some (.cells #[.int .u64 bp, .int .u32 bq,(.slice aK aE.length aM)] 75 (0,0)))∧Aside0 (w'.heap[ap]? = some (.cells #[.int .u64 al, .int .u32 am,bx] 75 (0,0)))∧Aside0 (Below w.heap.size w w'))
  case atStart=>exact ⟨(0),(0),(0),(bd),(bf),(aJ),(.slice a8 aJ.length a9),yq,H',⟨Nat.le_refl _⟩,⟨yV0 ae⟩,⟨yR1 ac ao⟩,⟨yV0 ae⟩,⟨yk aj⟩,⟨yk ai⟩,⟨yk ak⟩,⟨ykp ao⟩,⟨yhb⟩⟩
  case round =>
   clear H'
   try clear cz
   try clear cA
   try clear cB
   try clear cF
   try clear cG
   try clear cH
   try clear cL
   try clear cM
   try clear cN
   try clear cR
   try clear cS
   try clear cT
   try clear cC
   try clear cD
   try clear cE
   try clear cI
   try clear cJ
   try clear cK
   try clear cO
   try clear cP
   try clear cQ
   try clear cU
   try clear cV
   try clear cW
   obtain ⟨aq,aN,aQ,al,am,ag,bx,rfl,HA,HK2,ae,ac,aa,aj,ai,ak,ao,HB⟩:=hrel
   obtain ⟨k2,rfl⟩:=ysu gk (fun h=>by subst h;exact absurd HA.out (by simp [gain_Put.l0]))
   have H:=HA.out;clear HA
   simp only [gain_Put.l0] at H
   by_cases c35 : aq < 5
   ·
    rw [if_pos c35] at H
    have cX:=yD c35
    clear c35;have da:=zm H;clear H
    go_upto_if 40 with (fail)
    go_cut [14] (fun v14 wc => ∃ (kq : Nat) (aX : Int),v14=.int .i64 aX∧Aside0 (gain_Put.j2 kq l1 l2 a3 aq aX aq bp bq aE al am ag=some (r1,r2,r3,r4))∧Aside0 (kq≤k2)∧Aside0 (Kd.V (Kd.int .u8) 5 wc w.heap.size (fun k_=>(aU k_∨w.heap.size≤k_)∧some k_≠((.slice aK aE.length aM) : Value).ownBlock∧k_≠aG∧k_≠aC∧k_≠aH∧k_≠ap) (.slice a8 aJ.length a9) aJ)∧Aside0 (Kd.R (Kd.int .u8) 5 wc w.heap.size (fun k_=>(w.heap.size≤k_)) (.slice aK aE.length aM) aE)∧Aside0 (Kd.V (Kd.int .u8) 5 wc w.heap.size (fun k_=>(aU k_∨w.heap.size≤k_)∧some k_≠((.slice aK aE.length aM) : Value).ownBlock∧k_≠aG∧k_≠aC∧k_≠aH∧k_≠ap) bx ag)∧Aside0 (wc.heap[aG]? = some (.cells #[.int .u64 bd, .int .u32 bf,(.slice a8 aJ.length a9)] 75 (0,0)))∧Aside0 (wc.heap[aC]? = some (.cells #[.int .u64 aN, .int .u32 aQ,(.slice none 0 0)] 75 (0,0)))∧Aside0 (wc.heap[aH]? = some (.cells #[.int .u64 bp, .int .u32 bq,(.slice aK aE.length aM)] 75 (0,0)))∧Aside0 (wc.heap[ap]? = some (.cells #[.int .u64 al, .int .u32 am,bx] 75 (0,0)))∧Aside0 (Below w.heap.size w wc))
    case first =>
     have H:=da.out;clear da
     by_cases c37 : a3=true
     ·
      subst c37
      rw [if_pos rfl] at H
      have H' := zm H
      clear H
      go_wp2
      go_meet
      case rel=>exact ⟨_,(0),yq,H',⟨yom2 HJ5 HK2⟩,⟨yr ae⟩,⟨yr ac⟩,⟨yr aa⟩,⟨yk aj⟩,⟨yk ai⟩,⟨yk ak⟩,⟨yk ao⟩,⟨yhb⟩⟩
     replace c37:=Bool.eq_false_iff.mpr c37
     subst c37
     rw [ynf] at H
     replace H:=yif H;obtain ⟨c38,H⟩:=H
     have cY : decide (0≤aq)=true:=decide_eq_true c38
     clear c38
     (first|rw [cY]|(simp only [i64_w,i32_w];rw [cY])|skip)
     replace H:=yif H;obtain ⟨c39,H⟩:=H
     have dH : decide (aq < (l2.length : Int))=true:=decide_eq_true c39
     clear c39
     have H' := zm H
     clear H
     have db : 0≤(aq : Int):=yt
     have dc : aq < (l2.length : Int):=yt
     obtain ⟨dI,dq,bQ⟩:=Kd.at_int HR2.out aq db dc
     cases dq
     replace bQ:=yhx HB bQ
     replace db:=eq_true db
     replace dc:=eq_true dc
     go_wp2
     go_meet
     case rel=>exact ⟨_,(rd l2 aq),yq,H',⟨yom2 HJ5 HK2⟩,⟨yr ae⟩,⟨yr ac⟩,⟨yr aa⟩,⟨yk aj⟩,⟨yk ai⟩,⟨yk ak⟩,⟨yk ao⟩,⟨yhb⟩⟩
    case rest =>
     clear da
     try clear cX
     obtain ⟨kq,aX,rfl,HA,dh,ae,ac,aa,aj,ai,ak,ao,HB⟩:=hcut
     obtain ⟨bR,rfl⟩:=ysu kq (fun h=>by subst h;exact absurd HA.out (by simp [gain_Put.j2]))
     have H:=HA.out;clear HA
     simp only [gain_Put.j2] at H
     replace H:=yif H;obtain ⟨c40,H⟩:=H
     have dJ : decide (0≤aq)=true:=decide_eq_true c40
     clear c40
     replace H:=yif H;obtain ⟨c41,H⟩:=H
     have dK : decide (aq < (l1.length : Int))=true:=decide_eq_true c41
     clear c41
     replace H:=ybi H;obtain ⟨⟨bz,bA,bE,bF⟩,A42,H⟩:=H
     try dsimp only at H
     by_cases c43 : bF=0
     ·
      rw [if_pos c43] at H
      obtain ⟨di,dj⟩:=yE c43
      clear c43
      have H' := zm H
      clear H
      obtain ⟨bI,bJ,dr⟩:=Kd.V_slice aa.out
      subst dr
      try go_wp2
      replace ae:=zm (zC ae.out)
      replace ac:=zm (zq ac.out)
      replace aa:=zm (zC aa.out)
      replace aj:=zm (zj aj.out)
      replace ai:=zm (zj ai.out)
      replace ak:=zm (zj ak.out)
      replace ao:=zm (zj ao.out)
      replace HB:=zm (zf HB.out)
      have bN : 0≤(aq : Int):=yt
      have bO : aq < (l1.length : Int):=yt
      obtain ⟨bG,dd,aW⟩:=Kd.at_int HR1.out aq bN bO
      have hw917_0:=aW
      cases dd
      replace aW:=yhx HB aW
      replace bN:=eq_true bN
      replace bO:=eq_true bO
      refine yst (fun w' => w'.cell? ⟨ap,0,none⟩=some (.int .u64 al)∧w'.cell? ⟨ap,1,none⟩=some (.int .u32 am)∧w'.cell? ⟨ap,2,none⟩=some (.slice bI ag.length bJ)∧w'.cell? (bG.add (aq).toNat)=some (.int .i64 (rd l1 aq))) [] 14 gain_Put.tab11 gain_Put.bits11 (fun hHeld HT_ HW_ => ?_)
      generalize wc.drew=w45 at ae ac aa aj ai ak ao HB aW hHeld ⊢
      refine yp 1 47 HT_ ?_
      refine yp 2 48 HT_ ?_
      refine yp 3 49 HT_ ?_
      refine yp 5 51 HT_ ?_
      refine yp 6 52 HT_ ?_
      refine yl 0 46 HT_ HW_ hHeld ?_
      refine yl 4 50 HT_ HW_ hHeld ?_
      refine join_ (σ:=Value × Nat) 2 #[true,true,true,true,true,true,true,true,true,true,true,true,false,false] (fun s_ => [(53, .tuple #[.agg #[.int .u64 bz, .int .u32 bA,s_.1], .int .i64 bF]),(15, .pointer (some ⟨s_.2,0,none⟩)),(45, .tuple #[.agg #[.int .u64 bz, .int .u32 bA,s_.1], .int .i64 bF]),(54, .agg #[.int .u64 bz, .int .u32 bA,s_.1]),(55, .int .i64 bF)]) (fun s_ w' => (w'.cell? ⟨ap,0,none⟩=some (.int .u64 al)∧w'.cell? ⟨ap,1,none⟩=some (.int .u32 am)∧w'.cell? ⟨ap,2,none⟩=some (.slice bI ag.length bJ)∧w'.cell? (bG.add (aq).toNat)=some (.int .i64 (rd l1 aq)))∧(Kd.R (Kd.int .u8) 5 w' w.heap.size (fun k_=>(w.heap.size≤k_)∧some k_≠(.slice aK aE.length aM : Value).ownBlock) s_.1 bE)∧(Kd.V (Kd.int .u8) 5 w' w.heap.size (fun k_=>(aU k_∨w.heap.size≤k_)∧some k_≠(s_.1 : Value).ownBlock∧some k_≠(.slice aK aE.length aM : Value).ownBlock∧k_≠aG∧k_≠aC∧k_≠aH∧k_≠ap∧k_≠s_.2) (.slice a8 aJ.length a9) aJ)∧(Kd.R (Kd.int .u8) 5 w' w.heap.size (fun k_=>(w.heap.size≤k_)∧some k_≠(s_.1 : Value).ownBlock) (.slice aK aE.length aM) aE)∧(Kd.V (Kd.int .u8) 5 w' w.heap.size (fun k_=>(aU k_∨w.heap.size≤k_)∧some k_≠(s_.1 : Value).ownBlock∧some k_≠(.slice aK aE.length aM : Value).ownBlock∧k_≠aG∧k_≠aC∧k_≠aH∧k_≠ap∧k_≠s_.2) (.slice bI ag.length bJ) ag)∧(w'.heap[aG]? = some (.cells #[.int .u64 bd, .int .u32 bf, .slice a8 aJ.length a9] 75 (0,0)))∧(w'.heap[aC]? = some (.cells #[.int .u64 aN, .int .u32 aQ, .slice none 0 0] 75 (0,0)))∧(w'.heap[aH]? = some (.cells #[.int .u64 bp, .int .u32 bq, .slice aK aE.length aM] 75 (0,0)))∧(w'.heap[ap]? = some (.cells #[.int .u64 al, .int .u32 am, .slice bI ag.length bJ] 75 (0,0)))∧(w'.heap[s_.2]? = some (.cells #[.int .u64 0, .int .u32 0, .slice none 0 0] 75 (0,0)))∧(w.heap.size≤s_.2)∧(w.heap.size≤s_.2)∧(aG≠s_.2)∧(s_.2≠aG)∧(aC≠s_.2)∧(s_.2≠aC)∧(aH≠s_.2)∧(s_.2≠aH)∧(ap≠s_.2)∧(s_.2≠ap)∧(Below w.heap.size w w')) ?_ ?_
      rotate_left
      ·
       intro hCont
       refine two_ (i:=7) (j:=11) (Ni:=some 53) (Nj:=some 15) #[true,true,true,true,true,true,true,true,false,false,false,false,false,false] #[true,true,true,true,true,true,true,false,false,false,false,true,false,false] rfl rfl rfl rfl (two_of HT_.out (by kernel_rfl)) (by decide) (by decide) (fun K hK => ?_) (fun K hK => ?_)
       ·
        skip
        refine ygs Try.func87 #[.agg #[.int .u64 al, .int .u32 am, .slice bI ag.length bJ], .int .i64 (rd l1 aq), .int .i64 aX, .bool a3] ?_
        with_reducible refine (gain_put.calls bR al am _ _ ag (rd l1 aq) aX a3 bz bA bE bF _ ?aT ?bw A42.out).mono ?_
        (case aT=>exact yce (Kd.V_reads' aa.out).2.2)
        (case bw=>exact (Kd.V_reads' aa.out).2.1)
        rintro e w46 ⟨bg,rfl,ho0,hb⟩
        refine ⟨_,rfl, ?_⟩
        replace ae:=zm (Kd.V_elder' (yr ae) (Kd.R_base ho0) hb)
        replace aa:=zm (Kd.V_elder' (yr aa) (Kd.R_base ho0) hb)
        have aV:=zm (Kd.R_lower (Kd.R_new' (Kd.R_newM (M:=fun k_=>(w.heap.size≤k_)) ho0 (zE yhb) (fun k_ h_=>h_)) (Kd.R_lt (yr ac))) (zE yhb))
        replace ac:=zm (Kd.R_elder' (yr ac) (Kd.R_base ho0) hb)
        replace aj:=ybb aj hb
        replace ai:=ybb ai hb
        replace ak:=ybb ak hb
        replace ao:=ybb ao hb
        replace HB:=ybs hb
        (try clear hb)
        (try clear ho0)
        refine hK.out _ _ yH (fun hHeld => ?_)
        clear hK K
        refine ym (some 53) ?_
        refine yp 8 45 HT_ ?_
        refine yp 9 54 HT_ ?_
        refine yp 10 55 HT_ ?_
        refine yw 11 15 HT_ (fun K hK => ?_)
        refine box_step ?hg (N:=15) ?hd (cs := #[.int .u64 0, .int .u32 0, .slice none 0 0]) (t:=75) ?hr ?_;(case hd=>rfl);(case hg=>rfl);(case hr=>first|(go_simp;done)|(go_simp;rfl))
        intro ah hg w47 hbox hb
        replace ae:=yVe ae hg hb
        replace ac:=yRb ac hb
        replace aa:=yVe aa hg hb
        replace aV:=yRb aV hb
        have aI:=zm (hbox)
        have aD:=ygw hg
        have bB:=ygw hg
        replace HB:=ybs hb
        have ay:=ynl aj hg
        have az:=yng aj hg
        replace aj:=ybb aj hb
        have au:=ynl ai hg
        have av:=yng ai hg
        replace ai:=ybb ai hb
        have aw:=ynl ak hg
        have ax:=yng ak hg
        replace ak:=ybb ak hb
        have af:=ynl ao hg
        have aA:=yng ao hg
        replace ao:=ybb ao hb
        clear hb hbox hg
        refine hK.out _ _ yH (fun hHeld => ?_)
        clear hK K
        refine ym (some 15) ?_
        exact norm_ (by simp only [putAll,Act.put,List.setIfInBounds_toArray,List.set_cons_zero,List.set_cons_succ]) (hCont (bg,ah) _ ⟨hHeld,(yR0 aV),(yV0 ae),(yr ac),(yV0 aa),(yk aj),(yk ai),(yk ak),(yk ao),(yk aI),aD.out,bB.out,ay.out,az.out,au.out,av.out,aw.out,ax.out,af.out,aA.out,yhb⟩)
       skip
       refine box_step ?hg (N:=15) ?hd (cs := #[.int .u64 0, .int .u32 0, .slice none 0 0]) (t:=75) ?hr ?_;(case hd=>rfl);(case hg=>rfl);(case hr=>first|(go_simp;done)|(go_simp;rfl))
       intro ah hg w46 hbox hb
       replace ae:=yVe ae hg hb
       replace ac:=yRb ac hb
       replace aa:=yVe aa hg hb
       have aI:=zm (hbox)
       have aD:=ygw hg
       have bB:=ygw hg
       replace HB:=ybs hb
       have ay:=ynl aj hg
       have az:=yng aj hg
       replace aj:=ybb aj hb
       have au:=ynl ai hg
       have av:=yng ai hg
       replace ai:=ybb ai hb
       have aw:=ynl ak hg
       have ax:=yng ak hg
       replace ak:=ybb ak hb
       have af:=ynl ao hg
       have aA:=yng ao hg
       replace ao:=ybb ao hb
       clear hb hbox hg
       refine hK.out _ _ yH (fun hHeld => ?_)
       clear hK K
       refine ym (some 15) ?_
       refine yw 7 53 HT_ (fun K hK => ?_)
       refine ygs Try.func87 #[.agg #[.int .u64 al, .int .u32 am, .slice bI ag.length bJ], .int .i64 (rd l1 aq), .int .i64 aX, .bool a3] ?_
       with_reducible refine (gain_put.calls bR al am _ _ ag (rd l1 aq) aX a3 bz bA bE bF _ ?aT ?bw A42.out).mono ?_
       (case aT=>exact yce (Kd.V_reads' aa.out).2.2)
       (case bw=>exact (Kd.V_reads' aa.out).2.1)
       rintro e w47 ⟨bg,rfl,ho0,hb⟩
       refine ⟨_,rfl, ?_⟩
       replace ae:=zm (Kd.V_elder' (yr ae) (Kd.R_base ho0) hb)
       replace aa:=zm (Kd.V_elder' (yr aa) (Kd.R_base ho0) hb)
       have aV:=zm (Kd.R_lower (Kd.R_new' (Kd.R_newM (M:=fun k_=>(w.heap.size≤k_)) ho0 (zE yhb) (fun k_ h_=>h_)) (Kd.R_lt (yr ac))) (zE yhb))
       replace ac:=zm (Kd.R_elder' (yr ac) (Kd.R_base ho0) hb)
       replace aj:=ybb aj hb
       replace ai:=ybb ai hb
       replace ak:=ybb ak hb
       replace ao:=ybb ao hb
       replace aI:=ybb aI hb
       replace HB:=ybs hb
       (try clear hb)
       (try clear ho0)
       refine hK.out _ _ yH (fun hHeld => ?_)
       clear hK K
       refine ym (some 53) ?_
       refine yp 8 45 HT_ ?_
       refine yp 9 54 HT_ ?_
       refine yp 10 55 HT_ ?_
       exact norm_ (by simp only [putAll,Act.put,List.setIfInBounds_toArray,List.set_cons_zero,List.set_cons_succ]) (hCont (bg,ah) _ ⟨hHeld,(yR0 aV),(yV0 ae),(yr ac),(yV0 aa),(yk aj),(yk ai),(yk ak),(yk ao),(yk aI),aD.out,bB.out,ay.out,az.out,au.out,av.out,aw.out,ax.out,af.out,aA.out,yhb⟩)
      rintro ⟨bg,ah⟩ w48 ⟨hS_,h0_,h1_,h2_,h3_,h4_,h5_,h6_,h7_,h8_,h9_,bS,bT,bU,bV,bW,bX,bY,bZ,b4,b5⟩
      have n0_ : Aside0 (Kd.R (Kd.int .u8) 5 w48 w.heap.size (fun k_=>(w.heap.size≤k_)∧some k_≠(.slice aK aE.length aM : Value).ownBlock) bg bE):=⟨h0_⟩
      have n1_ : Aside0 (Kd.V (Kd.int .u8) 5 w48 w.heap.size (fun k_=>(aU k_∨w.heap.size≤k_)∧some k_≠(bg : Value).ownBlock∧some k_≠(.slice aK aE.length aM : Value).ownBlock∧k_≠aG∧k_≠aC∧k_≠aH∧k_≠ap∧k_≠ah) (.slice a8 aJ.length a9) aJ):=⟨h1_⟩
      have n2_ : Aside0 (Kd.R (Kd.int .u8) 5 w48 w.heap.size (fun k_=>(w.heap.size≤k_)∧some k_≠(bg : Value).ownBlock) (.slice aK aE.length aM) aE):=⟨h2_⟩
      have n3_ : Aside0 (Kd.V (Kd.int .u8) 5 w48 w.heap.size (fun k_=>(aU k_∨w.heap.size≤k_)∧some k_≠(bg : Value).ownBlock∧some k_≠(.slice aK aE.length aM : Value).ownBlock∧k_≠aG∧k_≠aC∧k_≠aH∧k_≠ap∧k_≠ah) (.slice bI ag.length bJ) ag):=⟨h3_⟩
      have n4_ : Aside0 (w48.heap[aG]? = some (.cells #[.int .u64 bd, .int .u32 bf, .slice a8 aJ.length a9] 75 (0,0))):=⟨h4_⟩
      have n5_ : Aside0 (w48.heap[aC]? = some (.cells #[.int .u64 aN, .int .u32 aQ, .slice none 0 0] 75 (0,0))):=⟨h5_⟩
      have n6_ : Aside0 (w48.heap[aH]? = some (.cells #[.int .u64 bp, .int .u32 bq, .slice aK aE.length aM] 75 (0,0))):=⟨h6_⟩
      have n7_ : Aside0 (w48.heap[ap]? = some (.cells #[.int .u64 al, .int .u32 am, .slice bI ag.length bJ] 75 (0,0))):=⟨h7_⟩
      have n8_ : Aside0 (w48.heap[ah]? = some (.cells #[.int .u64 0, .int .u32 0, .slice none 0 0] 75 (0,0))):=⟨h8_⟩
      have n9_ : Aside0 (w.heap.size≤ah):=⟨h9_⟩
      have b6 : Aside0 (w.heap.size≤ah):=⟨bS⟩
      have b7 : Aside0 (aG≠ah):=⟨bT⟩
      have b8 : Aside0 (ah≠aG):=⟨bU⟩
      have b9 : Aside0 (aC≠ah):=⟨bV⟩
      have ca : Aside0 (ah≠aC):=⟨bW⟩
      have cb : Aside0 (aH≠ah):=⟨bX⟩
      have ce : Aside0 (ah≠aH):=⟨bY⟩
      have cf : Aside0 (ap≠ah):=⟨bZ⟩
      have cg : Aside0 (ah≠ap):=⟨b4⟩
      have ch : Aside0 (Below w.heap.size w w48):=⟨b5⟩
      clear ae ac aa aj ai ak ao HB h0_ h1_ h2_ h3_ h4_ h5_ h6_ h7_ h8_ h9_ bS bT bU bV bW bX bY bZ b4 b5;have aV:=n0_;have ae:=n1_;have ac:=n2_;have aa:=n3_;have aj:=n4_;have ai:=n5_;have ak:=n6_;have ao:=n7_;have aI:=n8_;have aD:=n9_;have bB:=b6;have ay:=b7;have az:=b8;have au:=b9;have av:=ca;have aw:=cb;have ax:=ce;have af:=cf;have aA:=cg;have HB:=ch;clear n0_ n1_ n2_ n3_ n4_ n5_ n6_ n7_ n8_ n9_ b6 b7 b8 b9 ca cb ce cf cg ch
      have hHeld : w48.cell? ⟨ap,0,none⟩=some (.int .u64 al)∧w48.cell? ⟨ap,1,none⟩=some (.int .u32 am)∧w48.cell? ⟨ap,2,none⟩=some (.slice bI ag.length bJ)∧w48.cell? (bG.add (aq).toNat)=some (.int .i64 (rd l1 aq)):=hS_
      obtain ⟨de,df,dk⟩:=Kd.R_slice aV.out
      (first|subst dk|(injection dk with f1_ f2_ f3_;have f4_:=f1_.symm;have f5_:=f3_.symm;clear f1_ f2_ f3_;subst f4_;subst f5_))
      refine norm_ (a' := ?_) ?_ ?_
      rotate_left
      ·
       simp only [putAll,Act.put,List.setIfInBounds_toArray,List.set_cons_zero,List.set_cons_succ]
       rfl
      refine yv 12 HT_ (fun K hK => ?_)
      have dM : w48.cell? ⟨ah,0,none⟩=some (.int .u64 0):=(zs aI.out 0).trans rfl
      have hfs49:=zx aI.out 0
      have:=ay.out
      have:=au.out
      have:=aw.out
      have:=af.out
      have:=az.out
      have:=av.out
      have:=ax.out
      have:=aA.out
      have dN : w48.cell? ⟨ah,1,none⟩=some (.int .u32 0):=(zs aI.out 1).trans rfl
      have hfs50:=zx aI.out 1
      have:=ay.out
      have:=au.out
      have:=aw.out
      have:=af.out
      have:=az.out
      have:=av.out
      have:=ax.out
      have:=aA.out
      have dO : w48.cell? ⟨ah,2,none⟩=some (.slice none 0 0):=(zs aI.out 2).trans rfl
      have hfs52:=zx aI.out 2
      have:=ay.out
      have:=au.out
      have:=aw.out
      have:=af.out
      have:=az.out
      have:=av.out
      have:=ax.out
      have:=aA.out
      refine skip_ (w1 := ?_) (by rfl) rfl ?_ ?_
      rotate_left
      ·
       go_simp
       rfl
      refine hK.out _ _ ⟨((zr (p:=⟨ah,_,none⟩) af.out _).trans (((zr (p:=⟨ah,_,none⟩) af.out _).trans (((zr (p:=⟨ah,_,none⟩) af.out _).trans (hHeld.1)))))),((zr (p:=⟨ah,_,none⟩) af.out _).trans (((zr (p:=⟨ah,_,none⟩) af.out _).trans (((zr (p:=⟨ah,_,none⟩) af.out _).trans (hHeld.2.1)))))),((zr (p:=⟨ah,_,none⟩) af.out _).trans (((zr (p:=⟨ah,_,none⟩) af.out _).trans (((zr (p:=⟨ah,_,none⟩) af.out _).trans (hHeld.2.2.1)))))),((zr (p:=⟨ah,_,none⟩) (by first|exact zn (zl (by have:=zb _ _ hw917_0;first|rwa [za] at this|exact this) aD.out)|(rw [za];exact zn (zl (by have:=zb _ _ hw917_0;first|rwa [za] at this|exact this) aD.out))|(show (Addr.add _ _).block≠_;rw [za];exact zn (zl (by have:=zb _ _ hw917_0;first|rwa [za] at this|exact this) aD.out))|(dsimp only;exact zn (zl (by have:=zb _ _ hw917_0;first|rwa [za] at this|exact this) aD.out))) _).trans (((zr (p:=⟨ah,_,none⟩) (by first|exact zn (zl (by have:=zb _ _ hw917_0;first|rwa [za] at this|exact this) aD.out)|(rw [za];exact zn (zl (by have:=zb _ _ hw917_0;first|rwa [za] at this|exact this) aD.out))|(show (Addr.add _ _).block≠_;rw [za];exact zn (zl (by have:=zb _ _ hw917_0;first|rwa [za] at this|exact this) aD.out))|(dsimp only;exact zn (zl (by have:=zb _ _ hw917_0;first|rwa [za] at this|exact this) aD.out))) _).trans (((zr (p:=⟨ah,_,none⟩) (by first|exact zn (zl (by have:=zb _ _ hw917_0;first|rwa [za] at this|exact this) aD.out)|(rw [za];exact zn (zl (by have:=zb _ _ hw917_0;first|rwa [za] at this|exact this) aD.out))|(show (Addr.add _ _).block≠_;rw [za];exact zn (zl (by have:=zb _ _ hw917_0;first|rwa [za] at this|exact this) aD.out))|(dsimp only;exact zn (zl (by have:=zb _ _ hw917_0;first|rwa [za] at this|exact this) aD.out))) _).trans (hHeld.2.2.2))))))⟩ (fun hHeld => ?_)
      clear hK K
      refine yp 13 16 HT_ ?_
      refine done_ (done_of HT_.out (by kernel_rfl)) ?_
      have:=az.out
      have:=ay.out
      have:=av.out
      have:=au.out
      have:=ax.out
      have:=aw.out
      have:=aA.out
      have:=af.out
      obtain ⟨_,_,_,_,_,_⟩:=yc3 aI
      have:=bD.out
      have:=bC.out
      have:=bm.out
      have:=bl.out
      have:=bo.out
      have:=bn.out
      obtain ⟨_,_,_,_,_,_⟩:=yc3 ao
      try go_wp2
      go_roundg bR
      case measure=>exact yom3 HJ5 HK2 dh
      case rel=>exact ⟨(wrap64 (aq+1)),(aN),(aQ),(bz),(bA),(bE),(.slice de bE.length df),yq,H',⟨yom3 HJ5 HK2 dh⟩,⟨yV0 ae⟩,⟨yR2 ac aI ao⟩,⟨zy (Kd.R_V (ok:=fun k_=>w.heap.size≤k_∧some k_≠((.slice aK aE.length aM) : Value).ownBlock∧k_≠aG∧k_≠aC∧k_≠aH∧k_≠ap) (by (with_reducible repeat (first|apply zo|apply zp|apply zq));exact zG (zH (p:=⟨ap,2,none⟩) (zH (p:=⟨ap,1,none⟩) (zH (p:=⟨ap,0,none⟩) (zH (p:=⟨ah,2,none⟩) (zH (p:=⟨ah,1,none⟩) (zH (p:=⟨ah,0,none⟩) (Kd.R_types (Kd.R_types (Kd.R_types (Kd.R_types (Kd.R_types (Kd.R_types aV.out aj.out (by decide)) ai.out (by decide)) ak.out (by decide)) ao.out (by decide)) aI.out (by decide)) ao.out (by decide)) (fun _ hk=>hk.1.2) (.int .u64 bz)) (fun _ hk=>hk.1.2) (.int .u32 bA)) (fun _ hk=>hk.1.2) (.slice de bE.length df)) (fun _ hk=>hk.2) (.int .u64 bz)) (fun _ hk=>hk.2) (.int .u32 bA)) (fun _ hk=>hk.2) (.slice de bE.length df)) (fun _ hk=>⟨hk.1.1.1.1.1.1.1,⟨hk.1.1.1.1.1.1.2,⟨hk.1.1.1.1.1.2,⟨hk.1.1.1.1.2,⟨hk.1.1.1.2,hk.1.1.2⟩⟩⟩⟩⟩))) (fun k_ hk=>by first|exact ⟨(.inr (hk.1)),hk.2⟩|exact (.inr (hk)))⟩,⟨yk aj⟩,⟨yk ai⟩,⟨yk ak⟩,⟨ykp ao⟩,⟨yhb⟩⟩
     rw [if_neg c43] at H
     obtain ⟨di,dj⟩:=yF c43
     simp only [Option.some.injEq,Prod.mk.injEq] at H
     obtain ⟨rfl,rfl,rfl,rfl⟩:=H
     obtain ⟨bK,bL,dt⟩:=Kd.V_slice aa.out
     subst dt
     try go_wp2
     replace ae:=zm (zC ae.out)
     replace ac:=zm (zq ac.out)
     replace aa:=zm (zC aa.out)
     replace aj:=zm (zj aj.out)
     replace ai:=zm (zj ai.out)
     replace ak:=zm (zj ak.out)
     replace ao:=zm (zj ao.out)
     replace HB:=zm (zf HB.out)
     have bN : 0≤(aq : Int):=yt
     have bO : aq < (l1.length : Int):=yt
     obtain ⟨bG,dd,aW⟩:=Kd.at_int HR1.out aq bN bO
     have hw917_0:=aW
     cases dd
     replace aW:=yhx HB aW
     replace bN:=eq_true bN
     replace bO:=eq_true bO
     refine yst (fun w' => w'.cell? ⟨ap,0,none⟩=some (.int .u64 al)∧w'.cell? ⟨ap,1,none⟩=some (.int .u32 am)∧w'.cell? ⟨ap,2,none⟩=some (.slice bK ag.length bL)∧w'.cell? (bG.add (aq).toNat)=some (.int .i64 (rd l1 aq))) [] 14 gain_Put.tab11 gain_Put.bits11 (fun hHeld HT_ HW_ => ?_)
     generalize wc.drew=w63 at ae ac aa aj ai ak ao HB aW hHeld ⊢
     refine yp 1 47 HT_ ?_
     refine yp 2 48 HT_ ?_
     refine yp 3 49 HT_ ?_
     refine yp 5 51 HT_ ?_
     refine yp 6 52 HT_ ?_
     refine yl 0 46 HT_ HW_ hHeld ?_
     refine yl 4 50 HT_ HW_ hHeld ?_
     refine join_ (σ:=Value × Nat) 2 #[true,true,true,true,true,true,true,true,true,true,true,true,false,false] (fun s_ => [(53, .tuple #[.agg #[.int .u64 bz, .int .u32 bA,s_.1], .int .i64 bF]),(15, .pointer (some ⟨s_.2,0,none⟩)),(45, .tuple #[.agg #[.int .u64 bz, .int .u32 bA,s_.1], .int .i64 bF]),(54, .agg #[.int .u64 bz, .int .u32 bA,s_.1]),(55, .int .i64 bF)]) (fun s_ w' => (w'.cell? ⟨ap,0,none⟩=some (.int .u64 al)∧w'.cell? ⟨ap,1,none⟩=some (.int .u32 am)∧w'.cell? ⟨ap,2,none⟩=some (.slice bK ag.length bL)∧w'.cell? (bG.add (aq).toNat)=some (.int .i64 (rd l1 aq)))∧(Kd.R (Kd.int .u8) 5 w' w.heap.size (fun k_=>(w.heap.size≤k_)∧some k_≠(.slice aK aE.length aM : Value).ownBlock) s_.1 bE)∧(Kd.V (Kd.int .u8) 5 w' w.heap.size (fun k_=>(aU k_∨w.heap.size≤k_)∧some k_≠(s_.1 : Value).ownBlock∧some k_≠(.slice aK aE.length aM : Value).ownBlock∧k_≠aG∧k_≠aC∧k_≠aH∧k_≠ap∧k_≠s_.2) (.slice a8 aJ.length a9) aJ)∧(Kd.R (Kd.int .u8) 5 w' w.heap.size (fun k_=>(w.heap.size≤k_)∧some k_≠(s_.1 : Value).ownBlock) (.slice aK aE.length aM) aE)∧(Kd.V (Kd.int .u8) 5 w' w.heap.size (fun k_=>(aU k_∨w.heap.size≤k_)∧some k_≠(s_.1 : Value).ownBlock∧some k_≠(.slice aK aE.length aM : Value).ownBlock∧k_≠aG∧k_≠aC∧k_≠aH∧k_≠ap∧k_≠s_.2) (.slice bK ag.length bL) ag)∧(w'.heap[aG]? = some (.cells #[.int .u64 bd, .int .u32 bf, .slice a8 aJ.length a9] 75 (0,0)))∧(w'.heap[aC]? = some (.cells #[.int .u64 aN, .int .u32 aQ, .slice none 0 0] 75 (0,0)))∧(w'.heap[aH]? = some (.cells #[.int .u64 bp, .int .u32 bq, .slice aK aE.length aM] 75 (0,0)))∧(w'.heap[ap]? = some (.cells #[.int .u64 al, .int .u32 am, .slice bK ag.length bL] 75 (0,0)))∧(w'.heap[s_.2]? = some (.cells #[.int .u64 0, .int .u32 0, .slice none 0 0] 75 (0,0)))∧(w.heap.size≤s_.2)∧(w.heap.size≤s_.2)∧(aG≠s_.2)∧(s_.2≠aG)∧(aC≠s_.2)∧(s_.2≠aC)∧(aH≠s_.2)∧(s_.2≠aH)∧(ap≠s_.2)∧(s_.2≠ap)∧(Below w.heap.size w w')) ?_ ?_
     rotate_left
     ·
      intro hCont
      refine two_ (i:=7) (j:=11) (Ni:=some 53) (Nj:=some 15) #[true,true,true,true,true,true,true,true,false,false,false,false,false,false] #[true,true,true,true,true,true,true,false,false,false,false,true,false,false] rfl rfl rfl rfl (two_of HT_.out (by kernel_rfl)) (by decide) (by decide) (fun K hK => ?_) (fun K hK => ?_)
      ·
       skip
       refine ygs Try.func87 #[.agg #[.int .u64 al, .int .u32 am, .slice bK ag.length bL], .int .i64 (rd l1 aq), .int .i64 aX, .bool a3] ?_
       with_reducible refine (gain_put.calls bR al am _ _ ag (rd l1 aq) aX a3 bz bA bE bF _ ?aT ?bw A42.out).mono ?_
       (case aT=>exact yce (Kd.V_reads' aa.out).2.2)
       (case bw=>exact (Kd.V_reads' aa.out).2.1)
       rintro e w64 ⟨bg,rfl,ho0,hb⟩
       refine ⟨_,rfl, ?_⟩
       replace ae:=zm (Kd.V_elder' (yr ae) (Kd.R_base ho0) hb)
       replace aa:=zm (Kd.V_elder' (yr aa) (Kd.R_base ho0) hb)
       have aV:=zm (Kd.R_lower (Kd.R_new' (Kd.R_newM (M:=fun k_=>(w.heap.size≤k_)) ho0 (zE yhb) (fun k_ h_=>h_)) (Kd.R_lt (yr ac))) (zE yhb))
       replace ac:=zm (Kd.R_elder' (yr ac) (Kd.R_base ho0) hb)
       replace aj:=ybb aj hb
       replace ai:=ybb ai hb
       replace ak:=ybb ak hb
       replace ao:=ybb ao hb
       replace HB:=ybs hb
       (try clear hb)
       (try clear ho0)
       refine hK.out _ _ yH (fun hHeld => ?_)
       clear hK K
       refine ym (some 53) ?_
       refine yp 8 45 HT_ ?_
       refine yp 9 54 HT_ ?_
       refine yp 10 55 HT_ ?_
       refine yw 11 15 HT_ (fun K hK => ?_)
       refine box_step ?hg (N:=15) ?hd (cs := #[.int .u64 0, .int .u32 0, .slice none 0 0]) (t:=75) ?hr ?_;(case hd=>rfl);(case hg=>rfl);(case hr=>first|(go_simp;done)|(go_simp;rfl))
       intro ah hg w65 hbox hb
       replace ae:=yVe ae hg hb
       replace ac:=yRb ac hb
       replace aa:=yVe aa hg hb
       replace aV:=yRb aV hb
       have aI:=zm (hbox)
       have aD:=ygw hg
       have bB:=ygw hg
       replace HB:=ybs hb
       have ay:=ynl aj hg
       have az:=yng aj hg
       replace aj:=ybb aj hb
       have au:=ynl ai hg
       have av:=yng ai hg
       replace ai:=ybb ai hb
       have aw:=ynl ak hg
       have ax:=yng ak hg
       replace ak:=ybb ak hb
       have af:=ynl ao hg
       have aA:=yng ao hg
       replace ao:=ybb ao hb
       clear hb hbox hg
       refine hK.out _ _ yH (fun hHeld => ?_)
       clear hK K
       refine ym (some 15) ?_
       exact norm_ (by simp only [putAll,Act.put,List.setIfInBounds_toArray,List.set_cons_zero,List.set_cons_succ]) (hCont (bg,ah) _ ⟨hHeld,(yR0 aV),(yV0 ae),(yr ac),(yV0 aa),(yk aj),(yk ai),(yk ak),(yk ao),(yk aI),aD.out,bB.out,ay.out,az.out,au.out,av.out,aw.out,ax.out,af.out,aA.out,yhb⟩)
      skip
      refine box_step ?hg (N:=15) ?hd (cs := #[.int .u64 0, .int .u32 0, .slice none 0 0]) (t:=75) ?hr ?_;(case hd=>rfl);(case hg=>rfl);(case hr=>first|(go_simp;done)|(go_simp;rfl))
      intro ah hg w64 hbox hb
      replace ae:=yVe ae hg hb
      replace ac:=yRb ac hb
      replace aa:=yVe aa hg hb
      have aI:=zm (hbox)
      have aD:=ygw hg
      have bB:=ygw hg
      replace HB:=ybs hb
      have ay:=ynl aj hg
      have az:=yng aj hg
      replace aj:=ybb aj hb
      have au:=ynl ai hg
      have av:=yng ai hg
      replace ai:=ybb ai hb
      have aw:=ynl ak hg
      have ax:=yng ak hg
      replace ak:=ybb ak hb
      have af:=ynl ao hg
      have aA:=yng ao hg
      replace ao:=ybb ao hb
      clear hb hbox hg
      refine hK.out _ _ yH (fun hHeld => ?_)
      clear hK K
      refine ym (some 15) ?_
      refine yw 7 53 HT_ (fun K hK => ?_)
      refine ygs Try.func87 #[.agg #[.int .u64 al, .int .u32 am, .slice bK ag.length bL], .int .i64 (rd l1 aq), .int .i64 aX, .bool a3] ?_
      with_reducible refine (gain_put.calls bR al am _ _ ag (rd l1 aq) aX a3 bz bA bE bF _ ?aT ?bw A42.out).mono ?_
      (case aT=>exact yce (Kd.V_reads' aa.out).2.2)
      (case bw=>exact (Kd.V_reads' aa.out).2.1)
      rintro e w65 ⟨bg,rfl,ho0,hb⟩
      refine ⟨_,rfl, ?_⟩
      replace ae:=zm (Kd.V_elder' (yr ae) (Kd.R_base ho0) hb)
      replace aa:=zm (Kd.V_elder' (yr aa) (Kd.R_base ho0) hb)
      have aV:=zm (Kd.R_lower (Kd.R_new' (Kd.R_newM (M:=fun k_=>(w.heap.size≤k_)) ho0 (zE yhb) (fun k_ h_=>h_)) (Kd.R_lt (yr ac))) (zE yhb))
      replace ac:=zm (Kd.R_elder' (yr ac) (Kd.R_base ho0) hb)
      replace aj:=ybb aj hb
      replace ai:=ybb ai hb
      replace ak:=ybb ak hb
      replace ao:=ybb ao hb
      replace aI:=ybb aI hb
      replace HB:=ybs hb
      (try clear hb)
      (try clear ho0)
      refine hK.out _ _ yH (fun hHeld => ?_)
      clear hK K
      refine ym (some 53) ?_
      refine yp 8 45 HT_ ?_
      refine yp 9 54 HT_ ?_
      refine yp 10 55 HT_ ?_
      exact norm_ (by simp only [putAll,Act.put,List.setIfInBounds_toArray,List.set_cons_zero,List.set_cons_succ]) (hCont (bg,ah) _ ⟨hHeld,(yR0 aV),(yV0 ae),(yr ac),(yV0 aa),(yk aj),(yk ai),(yk ak),(yk ao),(yk aI),aD.out,bB.out,ay.out,az.out,au.out,av.out,aw.out,ax.out,af.out,aA.out,yhb⟩)
     rintro ⟨bg,ah⟩ w66 ⟨hS_,h0_,h1_,h2_,h3_,h4_,h5_,h6_,h7_,h8_,h9_,bS,bT,bU,bV,bW,bX,bY,bZ,b4,b5⟩
     have n0_ : Aside0 (Kd.R (Kd.int .u8) 5 w66 w.heap.size (fun k_=>(w.heap.size≤k_)∧some k_≠(.slice aK aE.length aM : Value).ownBlock) bg bE):=⟨h0_⟩
     have n1_ : Aside0 (Kd.V (Kd.int .u8) 5 w66 w.heap.size (fun k_=>(aU k_∨w.heap.size≤k_)∧some k_≠(bg : Value).ownBlock∧some k_≠(.slice aK aE.length aM : Value).ownBlock∧k_≠aG∧k_≠aC∧k_≠aH∧k_≠ap∧k_≠ah) (.slice a8 aJ.length a9) aJ):=⟨h1_⟩
     have n2_ : Aside0 (Kd.R (Kd.int .u8) 5 w66 w.heap.size (fun k_=>(w.heap.size≤k_)∧some k_≠(bg : Value).ownBlock) (.slice aK aE.length aM) aE):=⟨h2_⟩
     have n3_ : Aside0 (Kd.V (Kd.int .u8) 5 w66 w.heap.size (fun k_=>(aU k_∨w.heap.size≤k_)∧some k_≠(bg : Value).ownBlock∧some k_≠(.slice aK aE.length aM : Value).ownBlock∧k_≠aG∧k_≠aC∧k_≠aH∧k_≠ap∧k_≠ah) (.slice bK ag.length bL) ag):=⟨h3_⟩
     have n4_ : Aside0 (w66.heap[aG]? = some (.cells #[.int .u64 bd, .int .u32 bf, .slice a8 aJ.length a9] 75 (0,0))):=⟨h4_⟩
     have n5_ : Aside0 (w66.heap[aC]? = some (.cells #[.int .u64 aN, .int .u32 aQ, .slice none 0 0] 75 (0,0))):=⟨h5_⟩
     have n6_ : Aside0 (w66.heap[aH]? = some (.cells #[.int .u64 bp, .int .u32 bq, .slice aK aE.length aM] 75 (0,0))):=⟨h6_⟩
     have n7_ : Aside0 (w66.heap[ap]? = some (.cells #[.int .u64 al, .int .u32 am, .slice bK ag.length bL] 75 (0,0))):=⟨h7_⟩
     have n8_ : Aside0 (w66.heap[ah]? = some (.cells #[.int .u64 0, .int .u32 0, .slice none 0 0] 75 (0,0))):=⟨h8_⟩
     have n9_ : Aside0 (w.heap.size≤ah):=⟨h9_⟩
     have b6 : Aside0 (w.heap.size≤ah):=⟨bS⟩
     have b7 : Aside0 (aG≠ah):=⟨bT⟩
     have b8 : Aside0 (ah≠aG):=⟨bU⟩
     have b9 : Aside0 (aC≠ah):=⟨bV⟩
     have ca : Aside0 (ah≠aC):=⟨bW⟩
     have cb : Aside0 (aH≠ah):=⟨bX⟩
     have ce : Aside0 (ah≠aH):=⟨bY⟩
     have cf : Aside0 (ap≠ah):=⟨bZ⟩
     have cg : Aside0 (ah≠ap):=⟨b4⟩
     have ch : Aside0 (Below w.heap.size w w66):=⟨b5⟩
     clear ae ac aa aj ai ak ao HB h0_ h1_ h2_ h3_ h4_ h5_ h6_ h7_ h8_ h9_ bS bT bU bV bW bX bY bZ b4 b5;have aV:=n0_;have ae:=n1_;have ac:=n2_;have aa:=n3_;have aj:=n4_;have ai:=n5_;have ak:=n6_;have ao:=n7_;have aI:=n8_;have aD:=n9_;have bB:=b6;have ay:=b7;have az:=b8;have au:=b9;have av:=ca;have aw:=cb;have ax:=ce;have af:=cf;have aA:=cg;have HB:=ch;clear n0_ n1_ n2_ n3_ n4_ n5_ n6_ n7_ n8_ n9_ b6 b7 b8 b9 ca cb ce cf cg ch
     have hHeld : w66.cell? ⟨ap,0,none⟩=some (.int .u64 al)∧w66.cell? ⟨ap,1,none⟩=some (.int .u32 am)∧w66.cell? ⟨ap,2,none⟩=some (.slice bK ag.length bL)∧w66.cell? (bG.add (aq).toNat)=some (.int .i64 (rd l1 aq)):=hS_
     obtain ⟨du,dv,dl⟩:=Kd.R_slice aV.out
     (first|subst dl|(injection dl with f1_ f2_ f3_;have f4_:=f1_.symm;have f5_:=f3_.symm;clear f1_ f2_ f3_;subst f4_;subst f5_))
     refine norm_ (a' := ?_) ?_ ?_
     rotate_left
     ·
      simp only [putAll,Act.put,List.setIfInBounds_toArray,List.set_cons_zero,List.set_cons_succ]
      rfl
     refine yv 12 HT_ (fun K hK => ?_)
     have dP : w66.cell? ⟨ah,0,none⟩=some (.int .u64 0):=(zs aI.out 0).trans rfl
     have hfs67:=zx aI.out 0
     have:=ay.out
     have:=au.out
     have:=aw.out
     have:=af.out
     have:=az.out
     have:=av.out
     have:=ax.out
     have:=aA.out
     have dQ : w66.cell? ⟨ah,1,none⟩=some (.int .u32 0):=(zs aI.out 1).trans rfl
     have hfs68:=zx aI.out 1
     have:=ay.out
     have:=au.out
     have:=aw.out
     have:=af.out
     have:=az.out
     have:=av.out
     have:=ax.out
     have:=aA.out
     have dR : w66.cell? ⟨ah,2,none⟩=some (.slice none 0 0):=(zs aI.out 2).trans rfl
     have hfs70:=zx aI.out 2
     have:=ay.out
     have:=au.out
     have:=aw.out
     have:=af.out
     have:=az.out
     have:=av.out
     have:=ax.out
     have:=aA.out
     refine skip_ (w1 := ?_) (by rfl) rfl ?_ ?_
     rotate_left
     ·
      go_simp
      rfl
     refine hK.out _ _ ⟨((zr (p:=⟨ah,_,none⟩) af.out _).trans (((zr (p:=⟨ah,_,none⟩) af.out _).trans (((zr (p:=⟨ah,_,none⟩) af.out _).trans (hHeld.1)))))),((zr (p:=⟨ah,_,none⟩) af.out _).trans (((zr (p:=⟨ah,_,none⟩) af.out _).trans (((zr (p:=⟨ah,_,none⟩) af.out _).trans (hHeld.2.1)))))),((zr (p:=⟨ah,_,none⟩) af.out _).trans (((zr (p:=⟨ah,_,none⟩) af.out _).trans (((zr (p:=⟨ah,_,none⟩) af.out _).trans (hHeld.2.2.1)))))),((zr (p:=⟨ah,_,none⟩) (by first|exact zn (zl (by have:=zb _ _ hw917_0;first|rwa [za] at this|exact this) aD.out)|(rw [za];exact zn (zl (by have:=zb _ _ hw917_0;first|rwa [za] at this|exact this) aD.out))|(show (Addr.add _ _).block≠_;rw [za];exact zn (zl (by have:=zb _ _ hw917_0;first|rwa [za] at this|exact this) aD.out))|(dsimp only;exact zn (zl (by have:=zb _ _ hw917_0;first|rwa [za] at this|exact this) aD.out))) _).trans (((zr (p:=⟨ah,_,none⟩) (by first|exact zn (zl (by have:=zb _ _ hw917_0;first|rwa [za] at this|exact this) aD.out)|(rw [za];exact zn (zl (by have:=zb _ _ hw917_0;first|rwa [za] at this|exact this) aD.out))|(show (Addr.add _ _).block≠_;rw [za];exact zn (zl (by have:=zb _ _ hw917_0;first|rwa [za] at this|exact this) aD.out))|(dsimp only;exact zn (zl (by have:=zb _ _ hw917_0;first|rwa [za] at this|exact this) aD.out))) _).trans (((zr (p:=⟨ah,_,none⟩) (by first|exact zn (zl (by have:=zb _ _ hw917_0;first|rwa [za] at this|exact this) aD.out)|(rw [za];exact zn (zl (by have:=zb _ _ hw917_0;first|rwa [za] at this|exact this) aD.out))|(show (Addr.add _ _).block≠_;rw [za];exact zn (zl (by have:=zb _ _ hw917_0;first|rwa [za] at this|exact this) aD.out))|(dsimp only;exact zn (zl (by have:=zb _ _ hw917_0;first|rwa [za] at this|exact this) aD.out))) _).trans (hHeld.2.2.2))))))⟩ (fun hHeld => ?_)
     clear hK K
     refine yp 13 16 HT_ ?_
     refine done_ (done_of HT_.out (by kernel_rfl)) ?_
     have:=bi.out
     have:=bh.out
     have:=bk.out
     have:=bj.out
     have:=bn.out
     have:=bo.out
     have:=aw.out
     have:=ax.out
     obtain ⟨_,_,_,_,_,_⟩:=yc3 ak
     have:=bc.out
     have:=bb.out
     have:=bl.out
     have:=bm.out
     have:=au.out
     have:=av.out
     obtain ⟨_,_,_,_,_,_⟩:=yc3 ai
     try go_wp2
     refine bodyPost_ret (results_ct rfl _ _ aC 75 #[.int .u64 bp, .int .u32 bq, .slice aK aE.length aM] (0,0) _ rfl (ykp ai) Try.underlying75 rfl (by kernel_rfl)) rfl ?_
     exact ⟨_,ye,zy (Kd.R_V (by (with_reducible repeat (first|apply zo|apply zp|apply zq));exact zG (zH (p:=⟨aC,2,none⟩) (zH (p:=⟨aC,1,none⟩) (zH (p:=⟨aC,0,none⟩) (zH (p:=⟨ah,2,none⟩) (zH (p:=⟨ah,1,none⟩) (zH (p:=⟨ah,0,none⟩) (Kd.R_types (Kd.R_types ac.out aI.out (by decide)) ai.out (by decide)) (fun _ hk=>hk.1.2) (.int .u64 bz)) (fun _ hk=>hk.1.2) (.int .u32 bA)) (fun _ hk=>hk.1.2) (.slice du bE.length dv)) (fun _ hk=>hk.2) (.int .u64 bp)) (fun _ hk=>hk.2) (.int .u32 bq)) (fun _ hk=>hk.2) (.slice aK aE.length aM)) (fun _ hk=>hk.1.1.1))) (fun k_ hk=>by first|exact ⟨(.inr (hk.1)),hk.2⟩|exact (.inr (hk))),yhb⟩
   rw [if_neg c35] at H
   have cX:=yG c35
   clear c35
   simp only [Option.some.injEq,Prod.mk.injEq] at H
   obtain ⟨rfl,rfl,rfl,rfl⟩:=H
   have:=bD.out
   have:=bC.out
   have:=bm.out
   have:=bl.out
   have:=bo.out
   have:=bn.out
   obtain ⟨_,_,_,_,_,_⟩:=yc3 ao
   have:=bc.out
   have:=bb.out
   have:=bj.out
   have:=bk.out
   obtain ⟨_,_,_,_,_,_⟩:=yc3 ai
   obtain ⟨dw,dx,dy⟩:=Kd.V_slice aa.out
   subst dy
   go_wp2
   refine bodyPost_ret (results_ct rfl _ _ aC 75 #[.int .u64 al, .int .u32 am, .slice dw ag.length dx] (0,0) _ rfl (ykp ai) Try.underlying75 rfl (by kernel_rfl)) rfl ?_
   exact ⟨_,ye,yV0 aa,yhb⟩
/-- A row of scalars, as one block of cells. -/
theorem cpack_Write.intRow {k : IntKind} {e base : Nat} {ok : Nat→Prop} {w : World} {v : Value} {xs : List Int} (h : (Kd.int k).R e w base ok v xs) :
  (v=.slice none 0 0∧xs = [])∨∃ g cap cur,v=.slice (some ⟨g,0,none⟩) xs.length cap∧ok g∧base≤g∧w.heap[g]? = some (.cells cur e (0,0))∧xs.length≤cap∧cap≤maxLen∧cur.size=cap∧cur.toList.take xs.length=xs.map (Value.int k):=by
 obtain ⟨h0,inner,⟨h1,h2⟩,hr⟩:=h
 have hsz : (Kd.int k).sz=1:=rfl
 have hin : inner=xs.map (Value.int k):=by
  refine List.ext_getElem? fun j => ?_
  have hl : inner.length=xs.length:=by rw [h1,hsz,Nat.mul_one]
  rcases Nat.lt_or_ge j xs.length with hj|hj
  ·
   have:=hr.2 j _ (List.getElem?_eq_getElem hj)
   rw [hsz,Nat.mul_one] at this
   have h3 : (inner.drop j).take 1 = [Value.int k xs[j]]:=this
   have h4:=congrArg (fun l=>l[0]?) h3
   simp only [List.getElem?_take,List.getElem?_drop] at h4
   simp at h4
   simp [h4,hj]
  rw [List.getElem?_eq_none (by omega),List.getElem?_eq_none (by simp;omega)]
 rcases h2 with ⟨rfl,hn⟩ | ⟨g,cap,cur,rfl,hb,hh,hnc,hcm,hcs,ht⟩
 ·
  exact .inl ⟨rfl,List.eq_nil_of_length_eq_zero hn⟩
 rw [hsz,Nat.mul_one] at hcs ht
 exact .inr ⟨g,cap,cur,rfl,h0 g rfl,hb,hh,hnc,hcm,hcs,by rw [ht,hin]⟩
theorem cpack_Write.rowInt {k : IntKind} {e base : Nat} {ok : Nat→Prop} {w : World} {xs : List Int} {g cap : Nat} {cur : Array Value} (hg : ok g) (hb : base≤g) (hh : w.heap[g]? = some (.cells cur e (0,0))) (hn : xs.length≤cap) (hc : cap≤maxLen) (hs : cur.size=cap) (ht : cur.toList.take xs.length=xs.map (Value.int k)) :
  (Kd.int k).R e w base ok (.slice (some ⟨g,0,none⟩) xs.length cap) xs:=by
 have hsz : (Kd.int k).sz=1:=rfl
 refine ⟨fun q hq => ?_,xs.map (Value.int k),⟨by simp [hsz], .inr ⟨g,cap,cur,rfl,hb,hh,hn,hc,by rw [hsz,Nat.mul_one,hs],by rw [hsz,Nat.mul_one,ht]⟩⟩,by simp [hsz],fun j p hp => ?_⟩
 ·
  simp only [Value.ownBlock,Option.some.injEq] at hq;exact hq ▸ hg
 have : ((xs.map (Value.int k)).drop (j * 1)).take 1 = [Value.int k p]:=by
  rw [Nat.mul_one]
  obtain ⟨hj,hpj⟩:=List.getElem?_eq_some_iff.1 hp
  refine List.ext_getElem? fun i => ?_
  rcases i with _|i
  ·
   simp [List.getElem?_take,hp]
  simp [List.getElem?_take]
 exact this

theorem cpack_Write.copyRow {P : Program} {ops : Array Oper} {rest : List Oper} {o : Oper} {a : Act} {Q : Exit→Act→World→Prop} {k : IntKind} {w0 W : World} (base : Nat) (hgd : o.guard=none) (d s : Operand) (t e : TypeId)
  (ho : o.op=.call { callee:=.builtin .copy,args := #[d,s],argTypes := #[t,t] }) (ht : P.underlying t=some (.slice e)) {z : Value} {bytes : Nat} (hinfo : (P.info? e).map (fun i=>(i.zero,i.size,i.bytes))=some (some z,1,bytes))
  (v : Value) (xs ys : List Int) (A : Option Addr) (m c : Nat) (ok : Nat→Prop) (hd : a.eval d=v) (hs : a.eval s=.slice A m c)
  (HO : (Kd.int k).R e W base ok v xs) (HR : (Kd.int k).C W A m ys) (HB : Below base w0 W)
  (h : ∀ w1,(Kd.int k).R e w1 base ok v (ys.take xs.length ++ xs.drop ys.length)→Below base w0 w1→wpList P ops Q rest (a.put o.dst (goInt ((min m xs.length : Nat) : Int))) w1) :
  wpList P ops Q (o :: rest) a W:=by
 have hm : ys.length=m:=HR.1
 have hsz : (P.info? e).map (·.size)=some 1:=by
  obtain ⟨i0,hi,hz⟩:=Option.map_eq_some_iff.1 hinfo
  simp only [Prod.mk.injEq] at hz
  rw [hi,Option.map_some,hz.2.1]
 rcases cpack_Write.intRow HO with ⟨rfl,rfl⟩ | ⟨g,cap,cur,rfl,hok,hbg,hh,hnc,hcm,hcs,htk⟩
 ·
  refine wpList_copy_nothing hgd d s t t ho e ht hsz none A 0 0 m c hd hs (by simp) ?_
  have:=h W (by simpa using HO) HB
  simpa using this
 have hl : (ys.take xs.length).length=min m xs.length:=by simp [List.length_take,hm,Nat.min_comm]
 refine wpList_copy_splice hgd d s t t ho e ht hsz _ A xs.length cap m c hd hs g 0 cur.toList e (by simpa using hh) ((ys.take xs.length).map (Value.int k)) (by rw [List.length_map,hl]) (fun hp=>⟨rfl, ?_⟩) (by rw [List.length_map,hl];have : cur.toList.length=cap:=(by simpa using hcs);omega) (fun v hv=>by obtain ⟨x,_,rfl⟩:=List.mem_map.1 hv;rfl) base w0 HB hbg (fun w1 hg1 hb1 => ?_)
 ·
  rw [List.length_map,hl] at hp
  obtain ⟨ad,rfl,hc⟩:=HR.2.2 (by omega)
  refine ⟨ad,rfl,fun j v hj => ?_⟩
  rw [List.getElem?_map,List.getElem?_take] at hj
  split at hj
  ·
   rcases hy : ys[j]? with _|y
   ·
    rw [hy] at hj;simp at hj
   rw [hy] at hj
   simp only [Option.map_some,Option.some.injEq] at hj
   subst hj
   obtain ⟨cs,hcl,hcr,hcc⟩:=hc j y hy
   have hcr : cs = [Value.int k y]:=hcr
   subst hcr
   have:=hcc 0 _ rfl
   have h1 : (Kd.int k).sz=1:=rfl
   rwa [h1,Nat.mul_one,Nat.add_zero] at this
  simp at hj
 have hlen : (ys.take xs.length ++ xs.drop ys.length).length=xs.length:=by
  rw [List.length_append,List.length_drop,List.length_take];omega
 have hR : (Kd.int k).R e w1 base ok (.slice (some ⟨g,0,none⟩) (ys.take xs.length ++ xs.drop ys.length).length cap) (ys.take xs.length ++ xs.drop ys.length):=by
  refine cpack_Write.rowInt hok hbg hg1 (by omega) hcm ?_ ?_
  ·
   have:=length_splice cur.toList 0 ((ys.take xs.length).map (Value.int k)) (by rw [List.length_map,hl];have : cur.toList.length=cap:=(by simpa using hcs);omega)
   simp only [List.size_toArray,this]
   simpa using hcs
  rw [hlen]
  simp only [splice,List.take_zero,List.nil_append,List.length_map,Nat.zero_add,List.map_append]
  have hcur : cur.toList=xs.map (Value.int k) ++ cur.toList.drop xs.length:=by rw [← htk,List.take_append_drop]
  have h2 : (cur.toList.drop (ys.take xs.length).length)=(xs.drop (ys.take xs.length).length).map (Value.int k) ++ cur.toList.drop xs.length:=by
   conv=>lhs;rw [hcur]
   rw [List.drop_append_of_le_length (by rw [List.length_map,hl];omega),List.map_drop]
  rw [h2, ← List.append_assoc,List.take_append_of_le_length (by rw [List.length_append,List.length_map,List.length_map,List.length_drop];omega),List.take_of_length_le (by rw [List.length_append,List.length_map,List.length_map,List.length_drop];omega)]
  congr 2
  rcases Nat.le_total ys.length xs.length with h3|h3
  ·
   rw [List.length_take,Nat.min_eq_right h3]
  rw [List.length_take,Nat.min_eq_left h3,List.drop_eq_nil_of_le (Nat.le_refl _),List.drop_eq_nil_of_le h3]
 rw [hlen] at hR
 have:=h w1 hR hb1
 rwa [← hl, ← List.length_map (f:=Value.int k)] at this
mutual
def cpack_Write.j0 : Nat→Int→Int→List (List Int)→Bool→Bool→List (List Int)→List (List (List Int))→Option (List Int × Int)
 | 0,_,_,_,_,_,_,_=>none
 | k+1,x0,x1,x3,x41,aQ,aH,aT=>if x41=true then (some (([] : List Int),1)) else (if aQ=true then (cpack_Write.j1 k x0 x1 x3 1 aQ aH aT) else (cpack_Write.j1 k x0 x1 x3 0 aQ aH aT))
def cpack_Write.j1 : Nat→Int→Int→List (List Int)→Int→Bool→List (List Int)→List (List (List Int))→Option (List Int × Int)
 | 0,_,_,_,_,_,_,_=>none
 | k+1,x0,x1,x3,x10,aQ,aH,aT=>(coder_New.f).bind fun bM=>((coder_Put.f k bM.1 bM.2.1 bM.2.2 x10 (wrap64 (x10+1)) 2).bind fun bN=>(cpack_Write.l0 k x0 x1 x3 aH (aH.length : Int) 0 aQ aH aT bN.1 bN.2.1 bN.2.2.1))
def cpack_Write.l0 : Nat→Int→Int→List (List Int)→List (List Int)→Int→Int→Bool→List (List Int)→List (List (List Int))→Int→Int→List Int→Option (List Int × Int)
 | 0,_,_,_,_,_,_,_,_,_,_,_,_=>none
 | k+1,x0,x1,x3,x53,x54,x55,aQ,aH,aT,aI,aJ,aK=>if x55 < x54 then (if 0≤x55 then (if x55 < (x53.length : Int) then ((cpack_of.f x3 x55).bind fun bO=>((gain_Put.f k aI aJ aK (rd_L2 x53 x55) bO aQ).bind fun bP=>(cpack_Write.l0 k x0 x1 x3 x53 x54 (wrap64 (x55+1)) aQ aH aT bP.1 bP.2.1 bP.2.2.1))) else (none)) else (none)) else ((alloc_Pulses.f k x0 x1 aH).bind fun dt=>(cpack_Write.l1 k x0 dt.1 aT (aT.length : Int) 0 aI aJ aK))
def cpack_Write.l1 : Nat→Int→List (List Int)→List (List (List Int))→Int→Int→Int→Int→List Int→Option (List Int × Int)
 | 0,_,_,_,_,_,_,_,_=>none
 | k+1,x0,x15,x81,x82,x83,aI,aJ,aK=>if x83 < x82 then (if 0≤x83 then (if x83 < (x81.length : Int) then (cpack_Write.l2 k x0 x15 x83 x81 x82 x83 (rd_L4 x81 x83) ((rd_L4 x81 x83).length : Int) 0 aI aJ aK) else (none)) else (none)) else (if 0≤x0 then (if (x0 : Int).toNat≤281474976710656 then ((some (List.replicate (x0 : Int).toNat 0 : List Int)).bind fun bo=>((coder_Finish.f aI aJ aK).bind fun bi=>(some ((bi.take bo.length ++ bo.drop bi.length),0)))) else (none)) else (none))
def cpack_Write.l2 : Nat→Int→List (List Int)→Int→List (List (List Int))→Int→Int→List (List Int)→Int→Int→Int→Int→List Int→Option (List Int × Int)
 | 0,_,_,_,_,_,_,_,_,_,_,_,_=>none
 | k+1,x0,x15,x17,x81,x82,x83,x88,x89,x90,aI,aJ,aK=>if x90 < x89 then (if 0≤x90 then (if x90 < (x88.length : Int) then (if 0≤x17 then (if x17 < (x15.length : Int) then (if x90 < ((rd_L2 x15 x17).length : Int) then (if (rd (rd_L2 x15 x17) x90)=0 then (cpack_Write.l2 k x0 x15 x17 x81 x82 x83 x88 x89 (wrap64 (x90+1)) aI aJ aK) else ((band_Width.f x90).bind fun bQ=>((comb_Count.f bQ (rd (rd_L2 x15 x17) x90)).bind fun du=>((comb_Index.f k (rd_L2 x88 x90)).bind fun dv=>((coder_PutNum.f k aI aJ aK dv.1 du.1).bind fun bR=>(cpack_Write.l2 k x0 x15 x17 x81 x82 x83 x88 x89 (wrap64 (x90+1)) bR.1 bR.2.1 bR.2.2.1)))))) else (none)) else (none)) else (none)) else (none)) else (none)) else (cpack_Write.l1 k x0 x15 x81 x82 (wrap64 (x83+1)) aI aJ aK)
end
def cpack_Write.f (k : Nat) (a0 : Int) (a1 : Int) (aM : Bool) (al : List (List Int)) (ai : List (List (List Int))) (l3 : List (List Int)) : Option (List Int × Int):=(cpack_Right.f k a0 a1 aM al ai).bind fun cV=>(if cV=true then (if aM=true then (cpack_Write.j0 k a0 a1 l3 false aM al ai) else ((cpack_gains.f k a1 l3).bind fun bY=>(cpack_Write.j0 k a0 a1 l3 (!bY) aM al ai))) else (cpack_Write.j0 k a0 a1 l3 true aM al ai))
theorem cpack_Write.mono_l : ∀ k,(∀ y0 y1 y2 y3 y4 y5 y6,LeO (cpack_Write.j0 k y0 y1 y2 y3 y4 y5 y6) (cpack_Write.j0 (k+1) y0 y1 y2 y3 y4 y5 y6))∧(∀ y0 y1 y2 y3 y4 y5 y6,LeO (cpack_Write.j1 k y0 y1 y2 y3 y4 y5 y6) (cpack_Write.j1 (k+1) y0 y1 y2 y3 y4 y5 y6))∧(∀ y0 y1 y2 y3 y4 y5 y6 y7 y8 y9 y10 y11,LeO (cpack_Write.l0 k y0 y1 y2 y3 y4 y5 y6 y7 y8 y9 y10 y11) (cpack_Write.l0 (k+1) y0 y1 y2 y3 y4 y5 y6 y7 y8 y9 y10 y11))∧(∀ y0 y1 y2 y3 y4 y5 y6 y7,LeO (cpack_Write.l1 k y0 y1 y2 y3 y4 y5 y6 y7) (cpack_Write.l1 (k+1) y0 y1 y2 y3 y4 y5 y6 y7))∧(∀ y0 y1 y2 y3 y4 y5 y6 y7 y8 y9 y10 y11,LeO (cpack_Write.l2 k y0 y1 y2 y3 y4 y5 y6 y7 y8 y9 y10 y11) (cpack_Write.l2 (k+1) y0 y1 y2 y3 y4 y5 y6 y7 y8 y9 y10 y11))
 | 0=>⟨fun _ _ _ _ _ _ _ r h=>by simp [cpack_Write.j0] at h,fun _ _ _ _ _ _ _ r h=>by simp [cpack_Write.j1] at h,fun _ _ _ _ _ _ _ _ _ _ _ _ r h=>by simp [cpack_Write.l0] at h,fun _ _ _ _ _ _ _ _ r h=>by simp [cpack_Write.l1] at h,fun _ _ _ _ _ _ _ _ _ _ _ _ r h=>by simp [cpack_Write.l2] at h⟩
 | k+1=>by
  obtain ⟨ih0,ih1,ih2,ih3,ih4⟩:=cpack_Write.mono_l k
  refine ⟨?_, ?_, ?_, ?_, ?_⟩
  ·
   intro y0 y1 y2 y3 y4 y5 y6
   unfold cpack_Write.j0
   repeat' with_reducible first|apply ih0|apply ih1|apply ih2|apply ih3|apply ih4|apply alloc_Pulses.mono|apply coder_Put.mono|apply coder_PutNum.mono|apply comb_Index.mono|apply cpack_Right.mono|apply cpack_gains.mono|apply gain_Put.mono|apply yLr|apply yLn|apply yLi|apply yLb|intro _
  ·
   intro y0 y1 y2 y3 y4 y5 y6
   unfold cpack_Write.j1
   repeat' with_reducible first|apply ih0|apply ih1|apply ih2|apply ih3|apply ih4|apply alloc_Pulses.mono|apply coder_Put.mono|apply coder_PutNum.mono|apply comb_Index.mono|apply cpack_Right.mono|apply cpack_gains.mono|apply gain_Put.mono|apply yLr|apply yLn|apply yLi|apply yLb|intro _
  ·
   intro y0 y1 y2 y3 y4 y5 y6 y7 y8 y9 y10 y11
   unfold cpack_Write.l0
   repeat' with_reducible first|apply ih0|apply ih1|apply ih2|apply ih3|apply ih4|apply alloc_Pulses.mono|apply coder_Put.mono|apply coder_PutNum.mono|apply comb_Index.mono|apply cpack_Right.mono|apply cpack_gains.mono|apply gain_Put.mono|apply yLr|apply yLn|apply yLi|apply yLb|intro _
  ·
   intro y0 y1 y2 y3 y4 y5 y6 y7
   unfold cpack_Write.l1
   repeat' with_reducible first|apply ih0|apply ih1|apply ih2|apply ih3|apply ih4|apply alloc_Pulses.mono|apply coder_Put.mono|apply coder_PutNum.mono|apply comb_Index.mono|apply cpack_Right.mono|apply cpack_gains.mono|apply gain_Put.mono|apply yLr|apply yLn|apply yLi|apply yLb|intro _
  intro y0 y1 y2 y3 y4 y5 y6 y7 y8 y9 y10 y11
  unfold cpack_Write.l2
  repeat' with_reducible first|apply ih0|apply ih1|apply ih2|apply ih3|apply ih4|apply alloc_Pulses.mono|apply coder_Put.mono|apply coder_PutNum.mono|apply comb_Index.mono|apply cpack_Right.mono|apply cpack_gains.mono|apply gain_Put.mono|apply yLr|apply yLn|apply yLi|apply yLb|intro _
theorem cpack_Write.mono : ∀ a0 a1 a2 a3 a4 a5 k,LeO (cpack_Write.f k a0 a1 a2 a3 a4 a5) (cpack_Write.f (k+1) a0 a1 a2 a3 a4 a5):=by
 intro a0 a1 a2 a3 a4 a5 k
 obtain ⟨ih0,ih1,ih2,ih3,ih4⟩:=cpack_Write.mono_l k
 unfold cpack_Write.f
 repeat' with_reducible first|apply ih0|apply ih1|apply ih2|apply ih3|apply ih4|apply alloc_Pulses.mono|apply coder_Put.mono|apply coder_PutNum.mono|apply comb_Index.mono|apply cpack_Right.mono|apply cpack_gains.mono|apply gain_Put.mono|apply yLr|apply yLn|apply yLi|apply yLb|intro _
def cpack_Write.T10 : Bool × List (List Nat × List Nat):=(true, [([], []),([], []),([], []),([], []),([2,3], [2,3]),([], []),([5], [5]),([0,1,4,6,4], [0,1,4,6]),([7], [7]),([8], [8]),([8], [8]),([9,7,0,1,2,3,4,5,6,7,8,9], [9])])
def cpack_Write.B10 : List Nat := [0,0,0,0,12,0,32,127,255,511,511,1023]
theorem cpack_Write.tab10 : rtab .any (opsOf Try.f15 10)=cpack_Write.T10:=by kernel_rfl
theorem cpack_Write.bits10 : waitsOk cpack_Write.T10.2 cpack_Write.B10=true:=by kernel_rfl
def cpack_Write.T20 : Bool × List (List Nat × List Nat):=(true, [([], []),([0], [0]),([], []),([], []),([2,3], [2,3]),([4], [4]),([], []),([5,6], [5,6]),([7], [7]),([1,8,1], [1,8]),([9], [9]),([10], [10]),([10], [10]),([11,9,0,1,2,3,4,5,6,7,8,9,10,11], [11]),([12,13,0,1,2,3,4,5,6,7,8,9,10,11,12,13], [12])])
def cpack_Write.B20 : List Nat := [0,1,0,0,12,28,0,124,252,511,1023,2047,2047,4095,16383]
theorem cpack_Write.tab20 : rtab .any (opsOf Try.f15 20)=cpack_Write.T20:=by kernel_rfl
theorem cpack_Write.bits20 : waitsOk cpack_Write.T20.2 cpack_Write.B20=true:=by kernel_rfl
set_option maxHeartbeats 8000000 in
set_option maxRecDepth 100000 in
theorem cpack_Write.calls (k : Nat) (a0 : Int) (a1 : Int) (aM : Bool) (bc : Option Addr) (ba : Nat) (al : List (List Int)) (bf : Option Addr) (bd : Nat) (ai : List (List (List Int))) (A3 : Option Addr) (c3 : Nat) (l3 : List (List Int)) (r1 : List Int) (r2 : Int) (w : World) (hr2_1 : Kd.C (Kd.slice 3 (Kd.int .i64)) w bc al.length al) (hc2_1 : al.length≤ba) (hr2_2 : Kd.C (Kd.slice 55 (Kd.slice 3 (Kd.int .i64))) w bf ai.length ai) (hc2_2 : ai.length≤bd) (hr3 : Kd.C (Kd.slice 3 (Kd.int .i64)) w A3 l3.length l3) (hc3 : l3.length≤c3) (h : cpack_Write.f k a0 a1 aM al ai l3=some (r1,r2)) :
  Calls Try.prog 15 #[.int .i64 a0, .int .i64 a1, .agg #[.bool aM, .slice bc al.length ba, .slice bf ai.length bd], .slice A3 l3.length c3] w fun e w' => ∃ v0_ : Value,e=.returned (.tuple #[v0_, .int .i64 r2])∧Kd.R (Kd.int .u8) 5 w' w.heap.size (fun _=>True) v0_ r1∧Below w.heap.size w w' := by
 have hu31:=Try.underlying31;have hu75:=Try.underlying75;have bp:=zm hr2_1;have bv:=zm hc2_1;clear hr2_1 hc2_1;have bw:=zm hr2_2;have bS:=zm hc2_2;clear hr2_2 hc2_2;have HR3:=zm hr3;have HC3:=zm hc3;clear hr3 hc3;have HB:=zm (Below.refl w.heap.size w);have H:=h
 unfold cpack_Write.f at H
 clear h;have HC5:=zm H;clear H
 go_enter Try.func15,Try.ntmps15
 go_upto_region 1 with (first|((with_reducible refine gate_dst (N:=6) rfl ?_);refine ybx 6 #[.bool aM, .slice bc al.length ba, .slice bf ai.length bd] 31 ?_;intro aU hg w6 hbox hb;have ac:=zm (hbox);have eI:=ygw hg;have eJ:=ygw hg;replace HB:=ybs hb;clear hb hbox hg))
 (try simp only [Act.put,List.setIfInBounds_toArray,List.set_cons_zero,List.set_cons_succ])
 go_cut [41] (fun v41 wc => ∃ (kq : Nat) (bx : Bool),v41=.bool bx∧Aside0 (cpack_Write.j0 kq a0 a1 l3 bx aM al ai=some (r1,r2))∧Aside0 (kq≤k)∧Aside0 (wc.heap[aU]? = some (.cells #[.bool aM,(.slice bc al.length ba),(.slice bf ai.length bd)] 31 (0,0)))∧Aside0 (Below w.heap.size w wc))
 case first =>
  have H:=HC5.out;clear HC5
  replace H:=ybi H;obtain ⟨cV,A7,H⟩:=H
  by_cases c8 : cV=true
  ·
   subst c8
   rw [if_pos rfl] at H
   by_cases c9 : aM=true
   ·
    subst c9
    rw [if_pos rfl] at H
    have H' := zm H
    clear H
    obtain ⟨_,_,_,_,_,_⟩:=yc3 ac
    go_wp2_with (first|((with_reducible refine gate_callee (f:=17) rfl ?_);refine ygl 29 Try.func17 #[.int .i64 a0, .int .i64 a1, .agg #[.bool true, .slice bc al.length ba, .slice bf ai.length bd]] ?_;(with_reducible refine (cpack_Right.calls k a0 a1 true _ _ al _ _ ai true _ ?am bv.out ?bg bS.out A7.out).mono ?_);(case am=>exact ycb bp);(case bg=>exact ycb bw);rintro e w11 ⟨rfl,hb⟩;refine ⟨_,rfl, ?_⟩;replace ac:=ybb ac hb;replace HB:=ybs hb;(try clear hb);obtain ⟨_,_,_,_,_,_⟩:=yc3 ac))
    go_meet
    case rel=>exact ⟨_,(false),yq,H',⟨yo⟩,⟨yk ac⟩,⟨yhb⟩⟩
   replace c9:=Bool.eq_false_iff.mpr c9
   subst c9
   rw [ynf] at H
   replace H:=ybi H;obtain ⟨bY,A13,H⟩:=H
   have H' := zm H
   clear H
   obtain ⟨_,_,_,_,_,_⟩:=yc3 ac
   go_wp2_with (first|((with_reducible refine gate_callee (f:=17) rfl ?_);refine ygl 29 Try.func17 #[.int .i64 a0, .int .i64 a1, .agg #[.bool false, .slice bc al.length ba, .slice bf ai.length bd]] ?_;(with_reducible refine (cpack_Right.calls k a0 a1 false _ _ al _ _ ai true _ ?am bv.out ?bg bS.out A7.out).mono ?_);(case am=>exact ycb bp);(case bg=>exact ycb bw);rintro e w15 ⟨rfl,hb⟩;refine ⟨_,rfl, ?_⟩;replace ac:=ybb ac hb;replace HB:=ybs hb;(try clear hb);obtain ⟨_,_,_,_,_,_⟩:=yc3 ac)|(go_at_call 42;(with_reducible refine (cpack_gains.calls k a1 _ _ l3 bY _ ?am HC3.out A13.out).mono ?_);(case am=>exact ycb HR3);rintro e w' ⟨rfl,⟨nd,rfl⟩⟩))
   go_meet
   case rel=>exact ⟨_,(!bY),yq,H',⟨yo⟩,⟨yk ac⟩,⟨yhb⟩⟩
  replace c8:=Bool.eq_false_iff.mpr c8
  subst c8
  rw [ynf] at H
  have H' := zm H
  clear H
  obtain ⟨_,_,_,_,_,_⟩:=yc3 ac
  go_wp2_with (first|((with_reducible refine gate_callee (f:=17) rfl ?_);refine ygl 29 Try.func17 #[.int .i64 a0, .int .i64 a1, .agg #[.bool aM, .slice bc al.length ba, .slice bf ai.length bd]] ?_;(with_reducible refine (cpack_Right.calls k a0 a1 aM _ _ al _ _ ai false _ ?am bv.out ?bg bS.out A7.out).mono ?_);(case am=>exact ycb bp);(case bg=>exact ycb bw);rintro e w18 ⟨rfl,hb⟩;refine ⟨_,rfl, ?_⟩;replace ac:=ybb ac hb;replace HB:=ybs hb;(try clear hb)))
  go_meet
  case rel=>exact ⟨_,(true),yq,H',⟨yo⟩,⟨yk ac⟩,⟨yhb⟩⟩
 case rest =>
  clear HC5
  try clear c3
  obtain ⟨kq,bx,rfl,HA,HJ4,ac,HB⟩:=hcut
  obtain ⟨kj4,rfl⟩:=ysu kq (fun h=>by subst h;exact absurd HA.out (by simp [cpack_Write.j0]))
  have H:=HA.out;clear HA
  simp only [cpack_Write.j0] at H
  by_cases c19 : bx=true
  ·
   subst c19
   rw [if_pos rfl] at H
   simp only [Option.some.injEq,Prod.mk.injEq] at H
   obtain ⟨rfl,rfl⟩:=H
   go_wp2
   go_ret2
   exact ⟨_,ye,yn,yhb⟩
  replace c19:=Bool.eq_false_iff.mpr c19
  subst c19
  rw [ynf] at H
  have cW:=zm H;clear H
  obtain ⟨bZ,b4,b5,b6,b7,b8⟩:=yc3 ac
  go_upto_if 43 with (fail)
  go_cut [10] (fun v10 wc => ∃ (kq : Nat) (aX : Int),v10=.int .i64 aX∧Aside0 (cpack_Write.j1 kq a0 a1 l3 aX aM al ai=some (r1,r2))∧Aside0 (kq≤kj4)∧Aside0 (wc.heap[aU]? = some (.cells #[.bool aM,(.slice bc al.length ba),(.slice bf ai.length bd)] 31 (0,0)))∧Aside0 (Below w.heap.size w wc))
  case first =>
   have H:=cW.out;clear cW
   by_cases c22 : aM=true
   ·
    subst c22
    rw [if_pos rfl] at H
    have H' := zm H
    clear H
    go_wp2
    go_meet
    case rel=>exact ⟨_,(1),yq,H',⟨yom1 HJ4⟩,⟨yk ac⟩,⟨yhb⟩⟩
   replace c22:=Bool.eq_false_iff.mpr c22
   subst c22
   rw [ynf] at H
   have H' := zm H
   clear H
   go_wp2
   go_meet
   case rel=>exact ⟨_,(0),yq,H',⟨yom1 HJ4⟩,⟨yk ac⟩,⟨yhb⟩⟩
  case rest =>
   clear cW
   try clear bZ
   try clear b4
   try clear b5
   try clear b6
   try clear b7
   try clear b8
   obtain ⟨kq,aX,rfl,HA,bq,ac,HB⟩:=hcut
   obtain ⟨cX,rfl⟩:=ysu kq (fun h=>by subst h;exact absurd HA.out (by simp [cpack_Write.j1]))
   have H:=HA.out;clear HA
   simp only [cpack_Write.j1] at H
   replace H:=ybi H;obtain ⟨⟨cY,cZ,da⟩,A23,H⟩:=H
   try dsimp only at H
   replace H:=ybi H;obtain ⟨⟨db,dc,b9,d5⟩,A24,H⟩:=H
   try dsimp only at H
   have H' := zm H
   clear H
   go_wp2_with (first|((with_reducible refine gate_callee (f:=44) rfl ?_);refine ygl 45 Try.func44 #[] ?_;(with_reducible refine (coder_New.calls  cY cZ da _ A23.out).mono ?_);rintro e w25 ⟨eV,rfl,ho0,hb⟩;refine ⟨_,rfl, ?_⟩;have bb:=zm (Kd.R_lower ho0 (zE yhb));replace ac:=ybb ac hb;replace HB:=ybs hb;(try clear hb);(try clear ho0);obtain ⟨d6,d7,d8⟩:=Kd.R_slice bb.out;subst d8)|((with_reducible refine gate_callee (f:=43) rfl ?_);refine ygl 49 Try.func43 #[.agg #[.int .u64 cY, .int .u32 cZ, .slice d6 da.length d7], .int .i64 aX, .int .i64 (wrap64 (aX+1)), .int .i64 2] ?_;(with_reducible refine (coder_Put.calls cX cY cZ _ _ da aX (wrap64 (aX+1)) 2 db dc b9 d5 _ ?am ?bh A24.out).mono ?_);(case am=>exact yce (Kd.R_reads' bb.out).2.2);(case bh=>exact (Kd.R_reads' bb.out).2.1);rintro e w27 ⟨eW,rfl,ho0,hb⟩;refine ⟨_,rfl, ?_⟩;have bz:=zm (Kd.R_lower (Kd.R_new' ho0 (Kd.R_lt (yr bb))) (zE yhb));replace bb:=zm (Kd.R_elder' (yr bb) (Kd.R_base ho0) hb);replace ac:=ybb ac hb;replace HB:=ybs hb;(try clear hb);(try clear ho0))|((with_reducible refine gate_dst (N:=11) rfl ?_);refine ybx 11 #[.int .u64 0, .int .u32 0, .slice none 0 0] 75 ?_;intro ao hg w28 hbox hb;replace bb:=yRb bb hb;replace bz:=yRb bz hb;have ae:=zm (hbox);have eK:=ygw hg;have eL:=ygw hg;replace HB:=ybs hb;have av:=ynl ac hg;have aw:=yng ac hg;replace ac:=ybb ac hb;clear hb hbox hg;have:=aw.out;have:=av.out;obtain ⟨ca,cb,ce,cf,cg,ch⟩:=yc3 ae;obtain ⟨dw,dx,d9⟩:=Kd.R_slice bz.out;subst d9;obtain ⟨ci,cj,ck,cl,cm,cn⟩:=yc3 ac))
   go_loopg [55] cX (fun kq v55 w' => ∃ (aV : Int) (aq : Int) (au : Int) (ax : List Int) (ah : Value),v55=.int .i64 aV∧Aside0 (cpack_Write.l0 kq a0 a1 l3 al (al.length : Int) aV aM al ai aq au ax=some (r1,r2))∧Aside0 (kq≤cX)∧Aside0 (Kd.V (Kd.int .u8) 5 w' w.heap.size (fun k_=>k_≠aU∧k_≠ao) ah ax)∧Aside0 (w'.heap[aU]? = some (.cells #[.bool aM,(.slice bc al.length ba),(.slice bf ai.length bd)] 31 (0,0)))∧Aside0 (w'.heap[ao]? = some (.cells #[.int .u64 aq, .int .u32 au,ah] 75 (0,0)))∧Aside0 (Below w.heap.size w w'))
   case atStart=>exact ⟨(0),(db),(dc),(b9),(.slice dw b9.length dx),yq,H',⟨Nat.le_refl _⟩,⟨Kd.R_V (by (with_reducible repeat (first|apply zo|apply zp|apply zq));exact zG (zH (p:=⟨ao,2,none⟩) (zH (p:=⟨ao,1,none⟩) (zH (p:=⟨ao,0,none⟩) (Kd.R_types (Kd.R_types (Kd.R_types bz.out ac.out (by decide)) ae.out (by decide)) ae.out (by decide)) (fun _ hk=>hk.2) (.int .u64 db)) (fun _ hk=>hk.2) (.int .u32 dc)) (fun _ hk=>hk.2) (.slice dw b9.length dx)) (fun _ hk=>⟨hk.1.1.2,hk.1.2⟩))⟩,⟨yk ac⟩,⟨ykp ae⟩,⟨yhb⟩⟩
   case round =>
    clear H'
    try clear ca
    try clear cb
    try clear ce
    try clear ci
    try clear cj
    try clear ck
    try clear cf
    try clear cg
    try clear ch
    try clear cl
    try clear cm
    try clear cn
    obtain ⟨aV,aq,au,ax,ah,rfl,HA,HK3,aa,ac,ae,HB⟩:=hrel
    obtain ⟨k3,rfl⟩:=ysu gk (fun h=>by subst h;exact absurd HA.out (by simp [cpack_Write.l0]))
    have H:=HA.out;clear HA
    simp only [cpack_Write.l0] at H
    by_cases c33 : aV < (al.length : Int)
    ·
     rw [if_pos c33] at H
     have cO:=yD c33
     clear c33
     replace H:=yif H;obtain ⟨c34,H⟩:=H
     have dy : decide (0≤aV)=true:=decide_eq_true c34
     clear c34
     replace H:=yif H;obtain ⟨c35,H⟩:=H
     have dz : decide (aV < (al.length : Int))=true:=decide_eq_true c35
     clear c35
     replace H:=ybi H;obtain ⟨bO,A36,H⟩:=H
     replace H:=ybi H;obtain ⟨⟨dA,dB,dd,ea⟩,A37,H⟩:=H
     try dsimp only at H
     have H' := zm H
     clear H
     have co : 0≤(aV : Int):=yt
     have cp : aV < (al.length : Int):=yt
     obtain ⟨dC,de,df,eb,bj,bA,bB⟩:=at_L2 bp.out aV co cp
     cases eb
     replace bj:=yhx HB bj
     have cq:=zm bB;have cr:=zm bA;clear bB bA
     replace co:=eq_true co
     replace cp:=eq_true cp
     try go_wp2
     replace aa:=zm (zC aa.out)
     replace ac:=zm (zj ac.out)
     replace ae:=zm (zj ae.out)
     replace HB:=zm (zf HB.out)
     refine yst (fun w' => w'.cell? ⟨ao,0,none⟩=some (.int .u64 aq)∧w'.cell? ⟨ao,1,none⟩=some (.int .u32 au)∧w'.cell? ⟨ao,2,none⟩=some (ah)∧w'.cell? ⟨aU,0,none⟩=some (.bool aM)∧w'.cell? ⟨aU,1,none⟩=some (.slice (some dC) al.length ba)∧w'.cell? ⟨aU,2,none⟩=some (.slice bf ai.length bd)) [11] 12 cpack_Write.tab10 cpack_Write.bits10 (fun hHeld HT_ HW_ => ?_)
     generalize wr.drew=w38 at aa ac ae HB hHeld ⊢
     refine yp 1 62 HT_ ?_
     refine yp 2 63 HT_ ?_
     refine yp 3 64 HT_ ?_
     refine yp 5 66 HT_ ?_
     refine yl 0 61 HT_ HW_ hHeld ?_
     refine yl 6 67 HT_ HW_ hHeld ?_
     refine yw 4 65 HT_ (fun K hK => ?_)
     refine ygs Try.func46 #[.slice A3 l3.length c3, .int .i64 aV] ?_
     with_reducible refine (cpack_of.calls (fun k_=>k_ < w.heap.size) _ _ l3 aV bO _ ?am A36.out).mono ?_
     (case am=>exact Kd.V_mk HC3.out (Kd.F_below (Kd.C_F (Kd.heap_slice 3 (Kd.heap_int .i64)) HR3.out) yhb))
     rintro e w39 ⟨eX,rfl,ho0,hb⟩
     refine ⟨_,rfl, ?_⟩
     replace aa:=yVb aa hb
     have br:=yho (fun k_=>k_≠aU∧k_≠ao) ho0 (fun k_ hk_=>⟨yoB ac hk_,yoB ae hk_⟩)
     replace ac:=ybb ac hb
     replace ae:=ybb ae hb
     replace HB:=ybs hb
     (try clear hb)
     (try clear ho0)
     obtain ⟨dD,dE,dF⟩:=Kd.V_slice aa.out
     (first|subst dF|(injection dF with f1_ f2_ f3_;have f4_:=f1_.symm;have f5_:=f3_.symm;clear f1_ f2_ f3_;subst f4_;subst f5_))
     obtain ⟨ec,ed,dG⟩:=Kd.V_slice br.out
     (first|subst dG|(injection dG with f1_ f2_ f3_;have f4_:=f1_.symm;have f5_:=f3_.symm;clear f1_ f2_ f3_;subst f4_;subst f5_))
     refine hK.out _ _ yH (fun hHeld => ?_)
     clear hK K
     refine ym (some 65) ?_
     refine yw 7 68 HT_ (fun K hK => ?_)
     refine ygs Try.func45 #[.agg #[.int .u64 aq, .int .u32 au, .slice dD ax.length dE], .slice de (rd_L2 al aV).length df, .slice ec bO.length ed, .bool aM] ?_
     with_reducible refine (gain_Put.calls k3 aq au (fun k_=>(k_≠aU∧k_≠ao)) _ _ ax _ _ (rd_L2 al aV) _ _ bO aM dA dB dd ea _ ?am ?bh ?bg ?dH ?dI A37.out).mono ?_
     (case am=>exact aa.out)
     (case bh=>exact ycb cq)
     (case bg=>exact cr.out)
     (case dH=>exact yce (Kd.V_reads' br.out).2.2)
     (case dI=>exact (Kd.V_reads' br.out).2.1)
     rintro e w42 ⟨eY,rfl,ho0,hb⟩
     refine ⟨_,rfl, ?_⟩
     replace aa:=yVb aa hb
     replace br:=yVb br hb
     have cP:=yho (fun k_=>k_≠aU∧k_≠ao) ho0 (fun k_ hk_=>⟨yoB ac hk_,yoB ae hk_⟩)
     replace ac:=ybb ac hb
     replace ae:=ybb ae hb
     replace HB:=ybs hb
     (try clear hb)
     (try clear ho0)
     obtain ⟨ee,ef,dJ⟩:=Kd.V_slice cP.out
     (first|subst dJ|(injection dJ with f1_ f2_ f3_;have f4_:=f1_.symm;have f5_:=f3_.symm;clear f1_ f2_ f3_;subst f4_;subst f5_))
     refine hK.out _ _ yH (fun hHeld => ?_)
     clear hK K
     refine ym (some 68) ?_
     refine yp 8 60 HT_ ?_
     refine yp 9 69 HT_ ?_
     refine yp 10 70 HT_ ?_
     refine last_ (i:=11) (N:=none) #[true,true,true,true,true,true,true,true,true,true,true,true] rfl rfl (one_of HT_.out (by kernel_rfl)) (by decide) (fun K hK => ?_)
     have eZ : w42.cell? ⟨ao,0,none⟩=some (.int .u64 aq):=(zs ae.out 0).trans rfl
     have hfs43:=zx ae.out 0
     have:=av.out
     have:=aw.out
     have e8 : w42.cell? ⟨ao,1,none⟩=some (.int .u32 au):=(zs ae.out 1).trans rfl
     have hfs44:=zx ae.out 1
     have:=av.out
     have:=aw.out
     have e9 : w42.cell? ⟨ao,2,none⟩=some (.slice dD ax.length dE):=(zs ae.out 2).trans rfl
     have hfs46:=zx ae.out 2
     have:=av.out
     have:=aw.out
     refine skip_ (w1 := ?_) (by rfl) rfl ?_ ?_
     rotate_left
     ·
      go_simp
      rfl
     refine hK.out _ _ ?_
     clear hK K
     refine done_ (done_of HT_.out (by kernel_rfl)) ?_
     try go_wp2
     go_roundg k3
     case measure=>exact yom3 HJ4 bq HK3
     case rel=>exact ⟨(wrap64 (aV+1)),(dA),(dB),(dd),(.slice ee dd.length ef),yq,H',⟨yom3 HJ4 bq HK3⟩,⟨yV0 cP⟩,⟨yk ac⟩,⟨ykp ae⟩,⟨yhb⟩⟩
    rw [if_neg c33] at H
    have cO:=yG c33
    clear c33
    replace H:=ybi H;obtain ⟨⟨aW,eg⟩,A47,H⟩:=H
    try dsimp only at H
    have H' := zm H
    clear H
    have:=av.out
    have:=aw.out
    obtain ⟨ct,cu,cv,cw,cx,cy⟩:=yc3 ac
    go_wp2_with (first|((with_reducible refine gate_callee (f:=37) rfl ?_);refine ygl 77 Try.func37 #[.int .i64 a0, .int .i64 a1, .slice bc al.length ba] ?_;(with_reducible refine (alloc_Pulses.calls k3 a0 a1 _ _ al aW eg _ ?am bv.out A47.out).mono ?_);(case am=>exact ycb bp);rintro e w50 ⟨cz,rfl,ho0,hb⟩;refine ⟨_,rfl, ?_⟩;replace aa:=zm (Kd.V_elder' (yr aa) (Kd.S_base ho0) hb);have dK:=zm (Kd.S_lower ho0 (zE yhb));replace ac:=ybb ac hb;replace ae:=ybb ae hb;replace HB:=ybs hb;(try clear hb);(try clear ho0);obtain ⟨cA,cB,cC,cD,cE,cF⟩:=yc3 ac))
    go_loopg [83] k3 (fun kq v83 w' => ∃ (af : Int) (ay : Int) (az : Int) (aA : List Int) (ah : Value),v83=.int .i64 af∧Aside0 (cpack_Write.l1 kq a0 aW ai (ai.length : Int) af ay az aA=some (r1,r2))∧Aside0 (kq≤k3)∧Aside0 (Kd.S (Kd.slice 3 (Kd.int .i64)) 55 w' w.heap.size (fun _=>True) cz aW)∧Aside0 (Kd.V (Kd.int .u8) 5 w' w.heap.size (fun k_=>some k_≠(cz : Value).ownBlock∧k_≠aU∧k_≠ao) ah aA)∧Aside0 (w'.heap[aU]? = some (.cells #[.bool aM,(.slice bc al.length ba),(.slice bf ai.length bd)] 31 (0,0)))∧Aside0 (w'.heap[ao]? = some (.cells #[.int .u64 ay, .int .u32 az,ah] 75 (0,0)))∧Aside0 (Below w.heap.size w w'))
    case atStart=>exact ⟨(0),(aq),(au),(ax),(ah),yq,H',⟨Nat.le_refl _⟩,⟨yr dK⟩,⟨yV0 aa⟩,⟨yk ac⟩,⟨yk ae⟩,⟨yhb⟩⟩
    case round =>
     clear H'
     try clear c3
     try clear cO
     try clear dy
     try clear dz
     try clear ct
     try clear cu
     try clear cv
     try clear cA
     try clear cB
     try clear cC
     try clear cw
     try clear cx
     try clear cy
     try clear cD
     try clear cE
     try clear cF
     try clear bj
     try clear co
     try clear cp
     obtain ⟨af,ay,az,aA,ah,rfl,HA,HK4,ag,aa,ac,ae,HB⟩:=hrel
     obtain ⟨k4,rfl⟩:=ysu gk (fun h=>by subst h;exact absurd HA.out (by simp [cpack_Write.l1]))
     have H:=HA.out;clear HA
     simp only [cpack_Write.l1] at H
     by_cases c52 : af < (ai.length : Int)
     ·
      rw [if_pos c52] at H
      have cQ:=yD c52
      clear c52
      replace H:=yif H;obtain ⟨c53,H⟩:=H
      have dL : decide (0≤af)=true:=decide_eq_true c53
      clear c53
      replace H:=yif H;obtain ⟨c54,H⟩:=H
      have dM : decide (af < (ai.length : Int))=true:=decide_eq_true c54
      clear c54
      have H' := zm H
      clear H
      have cG : 0≤(af : Int):=yt
      have cH : af < (ai.length : Int):=yt
      obtain ⟨dN,eh,ei,ej,bk,bC,bD⟩:=at_L4 bw.out af cG cH
      cases ej
      replace bk:=yhx HB bk
      have bE:=zm bD;have dY:=zm bC;clear bD bC
      replace cG:=eq_true cG
      replace cH:=eq_true cH
      go_wp2
      go_loopg [90] k4 (fun kq v90 w' => ∃ (aj : Int) (aC : Int) (aD : Int) (aE : List Int) (ah : Value),v90=.int .i64 aj∧Aside0 (cpack_Write.l2 kq a0 aW af ai (ai.length : Int) af (rd_L4 ai af) ((rd_L4 ai af).length : Int) aj aC aD aE=some (r1,r2))∧Aside0 (kq≤k4)∧Aside0 (Kd.S (Kd.slice 3 (Kd.int .i64)) 55 w' w.heap.size (fun _=>True) cz aW)∧Aside0 (Kd.V (Kd.int .u8) 5 w' w.heap.size (fun k_=>some k_≠(cz : Value).ownBlock∧k_≠aU∧k_≠ao) ah aE)∧Aside0 (w'.heap[aU]? = some (.cells #[.bool aM,(.slice bc al.length ba),(.slice (some dN) ai.length bd)] 31 (0,0)))∧Aside0 (w'.heap[ao]? = some (.cells #[.int .u64 aC, .int .u32 aD,ah] 75 (0,0)))∧Aside0 (Below w.heap.size w w'))
      case atStart=>exact ⟨(0),(ay),(az),(aA),(ah),yq,H',⟨Nat.le_refl _⟩,⟨yr ag⟩,⟨yr aa⟩,⟨yk ac⟩,⟨yk ae⟩,⟨yhb⟩⟩
      case round =>
       clear H'
       try clear cQ
       try clear dL
       try clear dM
       try clear bk
       try clear cG
       try clear cH
       obtain ⟨aj,aC,aD,aE,ah,rfl,HA,HK5,ag,aa,ac,ae,HB⟩:=hrel
       obtain ⟨k5,rfl⟩:=ysu gk (fun h=>by subst h;exact absurd HA.out (by simp [cpack_Write.l2]))
       have H:=HA.out;clear HA
       simp only [cpack_Write.l2] at H
       by_cases c55 : aj < ((rd_L4 ai af).length : Int)
       ·
        rw [if_pos c55] at H
        have dO:=yD c55
        clear c55
        replace H:=yif H;obtain ⟨c56,H⟩:=H
        have eM : decide (0≤aj)=true:=decide_eq_true c56
        clear c56
        replace H:=yif H;obtain ⟨c57,H⟩:=H
        have eN : decide (aj < ((rd_L4 ai af).length : Int))=true:=decide_eq_true c57
        clear c57
        replace H:=yif H;obtain ⟨c58,H⟩:=H
        have eO : decide (0≤af)=true:=decide_eq_true c58
        clear c58
        replace H:=yif H;obtain ⟨c59,H⟩:=H
        have eP : decide (af < (aW.length : Int))=true:=decide_eq_true c59
        clear c59
        replace H:=yif H;obtain ⟨c60,H⟩:=H
        have eQ : decide (aj < ((rd_L2 aW af).length : Int))=true:=decide_eq_true c60
        clear c60
        by_cases c61 : (rd (rd_L2 aW af) aj)=0
        ·
         rw [if_pos c61] at H
         obtain ⟨dP,dQ⟩:=yE c61
         clear c61
         have H' := zm H
         clear H
         have bs : 0≤(aj : Int):=yt
         have bu : aj < ((rd_L4 ai af).length : Int):=yt
         obtain ⟨dR,bT,bU,dg,aY,aZ,a7⟩:=at_L2 bE.out aj bs bu
         cases dg
         replace aY:=yhx HB aY
         have bF:=zm a7;have bG:=zm aZ;clear a7 aZ
         replace bs:=eq_true bs
         replace bu:=eq_true bu
         obtain ⟨fa,fb,ek⟩:=Kd.S_slice ag.out
         subst ek
         have bl : 0≤(af : Int):=yt
         have bm : af < (aW.length : Int):=yt
         obtain ⟨bV,dh,di,dj,bn,a8,a9⟩:=at_L2 (Kd.S_reads' ag.out).2.2 af bl bm
         cases dj
         obtain ⟨ce978,hce978,hMe978,hcc978⟩:=Kd.S_get ag.out [] af bl (by first|exact bm|exact yt|(have e_:=(Kd.S_reads' ag.out).1;omega))
         obtain ⟨ve978_0,rfl,ge978_0⟩:=hMe978
         have hv978_0:=hcc978 0 _ rfl
         rw [Nat.add_zero,show ((Kd.slice 3 (Kd.int .i64))).sz=1 from rfl,Nat.mul_one] at hv978_0
         replace hv978_0:=Option.some.inj (hv978_0.symm.trans bn)
         rw [hv978_0] at ge978_0
         have ap:=zm (show Kd.R (Kd.int .i64) 3 _ _ _ _ (rd_L2 aW af) from ge978_0)
         clear hv978_0 ge978_0 hcc978 hce978;have ak:=zm a9;have cI:=zm a8;clear a9 a8
         replace bl:=eq_true bl
         replace bm:=eq_true bm
         obtain ⟨dS,dk,cJ,el,en⟩:=yai ak aj
         cases dk
         go_wp2
         go_roundg k5
         case measure=>exact yom5 HJ4 bq HK3 HK4 HK5
         case rel=>exact ⟨(wrap64 (aj+1)),(aC),(aD),(aE),(ah),yq,H',⟨yom5 HJ4 bq HK3 HK4 HK5⟩,⟨yr ag⟩,⟨yr aa⟩,⟨yk ac⟩,⟨yk ae⟩,⟨yhb⟩⟩
        rw [if_neg c61] at H
        obtain ⟨dP,dQ⟩:=yF c61
        replace H:=ybi H;obtain ⟨bQ,A63,H⟩:=H
        replace H:=ybi H;obtain ⟨⟨dl,eo⟩,A64,H⟩:=H
        try dsimp only at H
        replace H:=ybi H;obtain ⟨⟨dm,ep⟩,A65,H⟩:=H
        try dsimp only at H
        replace H:=ybi H;obtain ⟨⟨dp,dq,cK,eq⟩,A66,H⟩:=H
        try dsimp only at H
        have H' := zm H
        clear H
        have bs : 0≤(aj : Int):=yt
        have bu : aj < ((rd_L4 ai af).length : Int):=yt
        obtain ⟨dR,bT,bU,dg,aY,aZ,a7⟩:=at_L2 bE.out aj bs bu
        cases dg
        replace aY:=yhx HB aY
        have bF:=zm a7;have bG:=zm aZ;clear a7 aZ
        replace bs:=eq_true bs
        replace bu:=eq_true bu
        obtain ⟨fc,fd,er⟩:=Kd.S_slice ag.out
        subst er
        have bl : 0≤(af : Int):=yt
        have bm : af < (aW.length : Int):=yt
        obtain ⟨bV,dh,di,dj,bn,a8,a9⟩:=at_L2 (Kd.S_reads' ag.out).2.2 af bl bm
        cases dj
        obtain ⟨ce978,hce978,hMe978,hcc978⟩:=Kd.S_get ag.out [] af bl (by first|exact bm|exact yt|(have e_:=(Kd.S_reads' ag.out).1;omega))
        obtain ⟨ve978_0,rfl,ge978_0⟩:=hMe978
        have hv978_0:=hcc978 0 _ rfl
        rw [Nat.add_zero,show ((Kd.slice 3 (Kd.int .i64))).sz=1 from rfl,Nat.mul_one] at hv978_0
        replace hv978_0:=Option.some.inj (hv978_0.symm.trans bn)
        rw [hv978_0] at ge978_0
        have ap:=zm (show Kd.R (Kd.int .i64) 3 _ _ _ _ (rd_L2 aW af) from ge978_0)
        clear hv978_0 ge978_0 hcc978 hce978;have ak:=zm a9;have cI:=zm a8;clear a9 a8
        replace bl:=eq_true bl
        replace bm:=eq_true bm
        obtain ⟨dS,dk,cJ,el,en⟩:=yai ak aj
        cases dk
        try go_wp2
        replace ag:=zm (Kd.S_drew ag.out)
        replace aa:=zm (zC aa.out)
        replace ap:=zm (zq ap.out)
        replace ac:=zm (zj ac.out)
        replace ae:=zm (zj ae.out)
        replace ak:=zm (Kd.C_drew ak.out)
        replace HB:=zm (zf HB.out)
        have cL : 0≤(af : Int):=yt
        have cM : af < (aW.length : Int):=yt
        obtain ⟨dT,es,dr,et,bH,bI,bJ⟩:=at_L2 (Kd.S_reads' ag.out).2.2 af cL cM
        obtain rfl : bV=dT:=(by injection et)
        obtain ⟨ce981,hce981,hMe981,hcc981⟩:=Kd.S_get ag.out [] af cL (by first|exact cM|exact yt|(have e_:=(Kd.S_reads' ag.out).1;omega))
        obtain ⟨ve981_0,rfl,ge981_0⟩:=hMe981
        have hv981_0:=hcc981 0 _ rfl
        rw [Nat.add_zero,show ((Kd.slice 3 (Kd.int .i64))).sz=1 from rfl,Nat.mul_one] at hv981_0
        replace hv981_0:=Option.some.inj (hv981_0.symm.trans bH)
        rw [hv981_0] at ge981_0
        have aN:=zm (show Kd.R (Kd.int .i64) 3 _ _ _ _ (rd_L2 aW af) from ge981_0)
        clear hv981_0 ge981_0 hcc981 hce981;have aG:=zm bJ;have dZ:=zm bI;clear bJ bI
        replace cL:=eq_true cL
        replace cM:=eq_true cM
        obtain ⟨cR,eu,cN,fe,ff⟩:=yai aG aj
        cases eu
        refine yst (fun w' => w'.cell? (bV.add (af).toNat)=some (.slice (some cR) (rd_L2 aW af).length dr)∧w'.cell? (cR.add (aj).toNat)=some (.int .i64 (rd (rd_L2 aW af) aj))) [] 15 cpack_Write.tab20 cpack_Write.bits20 (fun hHeld HT_ HW_ => ?_)
        generalize wr.drew=w68 at ag aa ap ac ae ak HB aN aG bH cN hHeld ⊢
        refine yp 0 104 HT_ ?_
        refine yp 2 106 HT_ ?_
        refine yp 3 107 HT_ ?_
        refine yp 4 108 HT_ ?_
        refine yp 6 110 HT_ ?_
        refine yl 5 109 HT_ HW_ hHeld ?_
        refine yp 7 111 HT_ ?_
        refine yl 8 112 HT_ HW_ hHeld ?_
        refine yw 1 105 HT_ (fun K hK => ?_)
        refine ygs Try.func48 #[.int .i64 aj] ?_
        with_reducible refine (band_Width.calls aj bQ _ A63.out).mono ?_
        rintro e w69 ⟨rfl,hb⟩
        have ev:=yhs hb hHeld.1
        have ew:=yhs hb hHeld.2
        refine ⟨_,rfl, ?_⟩
        replace ag:=ySb ag hb
        replace aa:=yVb aa hb
        replace ap:=yRb ap hb
        replace aN:=yRb aN hb
        replace ac:=ybb ac hb
        replace ae:=ybb ae hb
        replace ak:=yCb ak hb
        replace aG:=yCb aG hb
        replace HB:=ybs hb
        (try clear hb)
        refine hK.out _ _ yH (fun hHeld => ?_)
        clear hK K
        refine ym (some 105) ?_
        refine yw 9 113 HT_ (fun K hK => ?_)
        refine ygs Try.func47 #[.int .i64 bQ, .int .i64 (rd (rd_L2 aW af) aj)] ?_
        with_reducible refine (comb_Count.calls bQ (rd (rd_L2 aW af) aj) dl eo _ A64.out).mono ?_
        rintro e w70 ⟨rfl,hb⟩
        have ev:=yhs hb hHeld.1
        have ew:=yhs hb hHeld.2
        refine ⟨_,rfl, ?_⟩
        replace ag:=ySb ag hb
        replace aa:=yVb aa hb
        replace ap:=yRb ap hb
        replace aN:=yRb aN hb
        replace ac:=ybb ac hb
        replace ae:=ybb ae hb
        replace ak:=yCb ak hb
        replace aG:=yCb aG hb
        replace HB:=ybs hb
        (try clear hb)
        refine hK.out _ _ yH (fun hHeld => ?_)
        clear hK K
        refine ym (some 113) ?_
        refine yp 10 103 HT_ ?_
        refine yp 11 114 HT_ ?_
        refine yp 12 115 HT_ ?_
        refine yp 13 21 HT_ ?_
        refine yp 14 22 HT_ ?_
        refine done_ (done_of HT_.out (by kernel_rfl)) ?_
        try go_wp2_with (first|((with_reducible refine gate_callee (f:=49) rfl ?_);refine ygl 118 Try.func49 #[.slice bT (rd_L2 (rd_L4 ai af) aj).length bU] ?_;(with_reducible refine (comb_Index.calls k5 _ _ (rd_L2 (rd_L4 ai af) aj) dm ep _ ?am bG.out A65.out).mono ?_);(case am=>exact ycb bF);rintro e w71 ⟨rfl,hb⟩;refine ⟨_,rfl, ?_⟩;replace ag:=ySb ag hb;replace aa:=yVb aa hb;replace ap:=yRb ap hb;replace aN:=yRb aN hb;replace ac:=ybb ac hb;replace ae:=ybb ae hb;replace ak:=yCb ak hb;replace aG:=yCb aG hb;replace HB:=ybs hb;(try clear hb);have:=aw.out;have:=av.out;obtain ⟨_,_,_,_,_,_⟩:=yc3 ae;obtain ⟨ey,ez,eA⟩:=Kd.V_slice aa.out;subst eA)|((with_reducible refine gate_callee (f:=50) rfl ?_);refine ygl 125 Try.func50 #[.agg #[.int .u64 aC, .int .u32 aD, .slice ey aE.length ez], .int .u64 dm, .int .u64 dl] ?_;(with_reducible refine (coder_PutNum.calls k5 aC aD _ _ aE dm dl dp dq cK eq _ ?am ?bh A66.out).mono ?_);(case am=>exact yce (Kd.V_reads' aa.out).2.2);(case bh=>exact (Kd.V_reads' aa.out).2.1);rintro e w75 ⟨fg,rfl,ho0,hb⟩;refine ⟨_,rfl, ?_⟩;replace ag:=ySb ag hb;replace aa:=zm (Kd.V_elder' (yr aa) (Kd.R_base ho0) hb);replace ap:=yRb ap hb;replace aN:=yRb aN hb;have cS:=zm (Kd.R_lower ho0 (zE yhb));replace ac:=ybb ac hb;replace ae:=ybb ae hb;replace ak:=yCb ak hb;replace aG:=yCb aG hb;replace HB:=ybs hb;(try clear hb);(try clear ho0);obtain ⟨_,_,_,_,_,_⟩:=yc3 ae;obtain ⟨dU,dV,eB⟩:=Kd.R_slice cS.out;subst eB))
        go_roundg k5
        case measure=>exact yom5 HJ4 bq HK3 HK4 HK5
        case rel=>exact ⟨(wrap64 (aj+1)),(dp),(dq),(cK),(.slice dU cK.length dV),yq,H',⟨yom5 HJ4 bq HK3 HK4 HK5⟩,⟨yS1 ag ae⟩,⟨Kd.R_V (by (with_reducible repeat (first|apply zo|apply zp|apply zq));exact zG (zH (p:=⟨ao,2,none⟩) (zH (p:=⟨ao,1,none⟩) (zH (p:=⟨ao,0,none⟩) (Kd.R_types (Kd.R_types (Kd.R_types (Kd.R_apart' cS.out (Kd.S_typed ag.out) (by decide)) ac.out (by decide)) ae.out (by decide)) ae.out (by decide)) (fun _ hk=>hk.2) (.int .u64 dp)) (fun _ hk=>hk.2) (.int .u32 dq)) (fun _ hk=>hk.2) (.slice dU cK.length dV)) (fun _ hk=>⟨hk.1.1.1.2,⟨hk.1.1.2,hk.1.2⟩⟩))⟩,⟨yk ac⟩,⟨ykp ae⟩,⟨yhb⟩⟩
       rw [if_neg c55] at H
       have dO:=yG c55
       clear c55
       have H' := zm H
       clear H
       go_wp2
       go_roundg k5
       case measure=>exact yom5 HJ4 bq HK3 HK4 HK5
       case rel=>exact ⟨(wrap64 (af+1)),(aC),(aD),(aE),(ah),yq,H',⟨yom5 HJ4 bq HK3 HK4 HK5⟩,⟨yr ag⟩,⟨yr aa⟩,⟨yk ac⟩,⟨yk ae⟩,⟨yhb⟩⟩
     rw [if_neg c52] at H
     have cQ:=yG c52
     clear c52
     replace H:=yif H;obtain ⟨c78,H⟩:=H
     have eR:=eq_true c78
     have eS : decide (0≤a0)=true:=decide_eq_true c78
     clear c78
     replace H:=yif H;obtain ⟨c79,H⟩:=H
     have eT:=eq_true c79
     have eU : decide ((a0 : Int).toNat≤281474976710656)=true:=decide_eq_true c79
     clear c79
     obtain ⟨bo,bW⟩ : ∃ y_ : List Int,y_=(List.replicate (a0 : Int).toNat 0):=⟨_,rfl⟩
     replace H : ((coder_Finish.f ay az aA).bind fun bi=>(some ((bi.take bo.length ++ bo.drop bi.length),0)))=some (r1,r2):=yrw bW H
     have cT:=zm bW;clear bW
     replace H:=ybi H;obtain ⟨bi,A80,H⟩:=H
     by_cases c81 : True
     ·
      have _h:=c81;have LMc81:=zm c81;clear c81
      obtain ⟨eC,bX⟩ : ∃ y_ : List Int,y_=(bi.take bo.length ++ bo.drop bi.length):=⟨_,rfl⟩
      replace H : (some (eC,0))=some (r1,r2):=yrw bX H
      have dW:=zm bX;clear bX
      simp only [Option.some.injEq,Prod.mk.injEq] at H
      obtain ⟨rfl,rfl⟩:=H
      go_wp2_with (first|((with_reducible refine gate_dst (N:=131) rfl ?_);refine Kd.R_make (Kd.int .u8) _ 5 rfl (N:=131) rfl 36 _ _ rfl a0 rfl rfl Try.underlying36 (.int .u8 0) 1 info5 rfl (by decide) (by omega) 0 (ok:=fun _=>True) (okp:=fun _=>True) rfl (fun _ hk=>hk) trivial (yt) (Nat.le_trans (Nat.mul_le_mul_right _ (yt : a0.toNat≤281474976710656)) (by omega)) (Below.refl _ _) (Nat.le_refl _) ?_;intro eD w82 bL hb hg_ hnew_;clear hg_ hnew_;(first|rw [← cT.out] at bL|(simp only [Int.reduceToNat] at bL;rw [← cT.out] at bL));replace ag:=ySb ag hb;replace aa:=zm (Kd.V_elder' (yr aa) (Kd.R_base bL) hb);have bK:=zm (Kd.R_lower bL (zE yhb));replace ac:=ybb ac hb;replace ae:=ybb ae hb;replace HB:=ybs hb;clear hb bL;have:=aw.out;have:=av.out;obtain ⟨_,_,_,_,_,_⟩:=yc3 ae;obtain ⟨eE,eF,eG⟩:=Kd.V_slice aa.out;subst eG)|((with_reducible refine gate_callee (f:=51) rfl ?_);refine ygl 134 Try.func51 #[.agg #[.int .u64 ay, .int .u32 az, .slice eE aA.length eF]] ?_;(with_reducible refine (coder_Finish.calls ay az _ _ aA bi _ ?am ?bh A80.out).mono ?_);(case am=>exact yce (Kd.V_reads' aa.out).2.2);(case bh=>exact (Kd.V_reads' aa.out).2.1);rintro e w87 ⟨fh,rfl,ho0,hb⟩;refine ⟨_,rfl, ?_⟩;replace ag:=ySb ag hb;replace aa:=zm (Kd.V_elder' (yr aa) (Kd.R_base ho0) hb);have cU:=zm (Kd.R_lower (Kd.R_new' ho0 (Kd.R_lt (yr bK))) (zE yhb));replace bK:=zm (Kd.R_elder' (yr bK) (Kd.R_base ho0) hb);replace ac:=ybb ac hb;replace ae:=ybb ae hb;replace HB:=ybs hb;(try clear hb);(try clear ho0);obtain ⟨fi,fj,eH⟩:=Kd.R_slice cU.out;subst eH)|((with_reducible refine gate_builtin (b:=.copy) (xs := #[.tmp 132, .tmp 134]) rfl ?_);refine cpack_Write.copyRow (k:=.u8) (w0:=w) w.heap.size rfl (.tmp 132) (.tmp 134) 36 5 rfl Try.underlying36 info5 eD bo bi _ _ _ (fun _=>True) rfl rfl ?aO ?aR ?aB ?_;(case aO=>exact (yR0 bK));(case aR=>exact yce (Kd.R_reads' cU.out).2.2);(case aB=>exact yhb);intro w88 ho hb;rw [← dW.out] at ho;clear HB;have dX:=zm ho;have HB:=zm hb;clear ho hb))
      go_ret2
      exact ⟨_,ye,yR0 dX,yhb⟩
     exact absurd trivial c81
def w13_As.f (aj : Bool) (aa : List (List Int)) (ac : List (List (List Int))) : Option (Bool × (List (List Int)) × (List (List (List Int)))):=some (aj,aa,ac)
set_option maxHeartbeats 8000000 in
set_option maxRecDepth 100000 in
theorem w13_As.calls (aj : Bool) (ae : Nat→Prop) (am : Option Addr) (ao : Nat) (aa : List (List Int)) (af : Nat→Prop) (ap : Option Addr) (aq : Nat) (ac : List (List (List Int))) (r1 : Bool) (r2 : List (List Int)) (r3 : List (List (List Int))) (w : World) (av : Kd.V (Kd.slice 3 (Kd.int .i64)) 55 w w.heap.size (fun k_=>ae k_) (.slice am aa.length ao) aa) (aw : Kd.V (Kd.slice 55 (Kd.slice 3 (Kd.int .i64))) 25 w w.heap.size (fun k_=>af k_) (.slice ap ac.length aq) ac) (h : w13_As.f aj aa ac=some (r1,r2,r3)) :
  Calls Try.prog 19 #[.agg #[.bool aj, .slice am aa.length ao, .slice ap ac.length aq]] w fun e w' => ∃ v1_ v2_ : Value,e=.returned (.agg #[.bool r1,v1_,v2_])∧Kd.V (Kd.slice 3 (Kd.int .i64)) 55 w' w.heap.size (fun k_=>((ae k_∨af k_)∨w.heap.size≤k_)) v1_ r2∧Kd.V (Kd.slice 55 (Kd.slice 3 (Kd.int .i64))) 25 w' w.heap.size (fun k_=>((ae k_∨af k_)∨w.heap.size≤k_)) v2_ r3∧Below w.heap.size w w' := by
 have hu31:=Try.underlying31;have hu42:=Try.underlying42
 have ag:=zm (show Kd.V (Kd.slice 3 (Kd.int .i64)) 55 w w.heap.size (fun k_=>((ae k_∨af k_)∨w.heap.size≤k_)) (.slice am aa.length ao) aa from zy av (fun k_ hk => .inl (.inl hk)))
 have ah:=zm (show Kd.V (Kd.slice 55 (Kd.slice 3 (Kd.int .i64))) 25 w w.heap.size (fun k_=>((ae k_∨af k_)∨w.heap.size≤k_)) (.slice ap ac.length aq) ac from zy aw (fun k_ hk => .inl (.inr hk)))
 have HB:=zm (Below.refl w.heap.size w);have H:=h
 unfold w13_As.f at H
 clear h
 simp only [Option.some.injEq,Prod.mk.injEq] at H
 obtain ⟨rfl,rfl,rfl⟩:=H
 go_enter Try.func19,Try.ntmps19
 go_wp2_with (first|((with_reducible refine gate_dst (N:=1) rfl ?_);refine ybx 1 #[.bool aj, .slice am aa.length ao, .slice ap ac.length aq] 31 ?_;intro ay hg w2 hbox hb;replace ag:=yVe ag hg hb;replace ah:=yVe ah hg hb;have ai:=zm (hbox);have az:=ygw hg;have aA:=ygw hg;replace HB:=ybs hb;clear hb hbox hg)|((with_reducible refine gate_dst (N:=2) rfl ?_);refine ybx 2 #[.bool false, .slice none 0 0, .slice none 0 0] 42 ?_;intro ax hg w3 hbox hb;replace ag:=yVe ag hg hb;replace ah:=yVe ah hg hb;have au:=zm (hbox);have aC:=ygw hg;have aD:=ygw hg;replace HB:=ybs hb;have ak:=ynl ai hg;have al:=yng ai hg;replace ai:=ybb ai hb;clear hb hbox hg;have:=ak.out;have:=al.out;obtain ⟨_,_,_,_,_,_⟩:=yc3 ai;obtain ⟨_,_,_,_,_,_⟩:=yc3 au))
 refine bodyPost_ret (results_cell_row rfl _ _ ax 42 #[.bool aj, .slice am aa.length ao, .slice ap ac.length aq] (0,0) _ rfl (ykp au) Try.underlying42 rfl (by kernel_rfl)) rfl ?_
 exact ⟨_,_,ye,yV0 ag,yV0 ah,yhb⟩
def w23_great.l0 : Nat→Int→List (List Int)→Option (Bool)
 | 0,_,_=>none
 | k+1,x3,ah=>if x3 < (ah.length : Int) then (if 0≤x3 then (if ((rd_L1 ah x3).length : Int) > 100 then (some true) else (w23_great.l0 k (wrap64 (x3+1)) ah)) else (none)) else (some (decide ((ah.length : Int) > 10)))
def w23_great.f (k : Nat) (aa : List (List Int)) : Option (Bool):=w23_great.l0 k 0 aa
theorem w23_great.mono_l : ∀ k,(∀ y0 y1,LeO (w23_great.l0 k y0 y1) (w23_great.l0 (k+1) y0 y1))
 | 0=>fun _ _ r h=>by simp [w23_great.l0] at h
 | k+1=>by
  have ih0:=w23_great.mono_l k
  ·
   intro y0 y1
   unfold w23_great.l0
   repeat' with_reducible first|apply ih0|apply yLr|apply yLn|apply yLi|apply yLb|intro _
theorem w23_great.mono : ∀ a0 k,LeO (w23_great.f k a0) (w23_great.f (k+1) a0):=by
 intro a0 k
 have ih0:=w23_great.mono_l k
 unfold w23_great.f
 repeat' with_reducible first|apply ih0|apply yLr|apply yLn|apply yLi|apply yLb|intro _
set_option maxHeartbeats 8000000 in
set_option maxRecDepth 100000 in
theorem w23_great.calls (k : Nat) (al : Option Addr) (am : Nat) (aa : List (List Int)) (r : Bool) (w : World) (hr0_0 : Kd.C (Kd.slice 2 (Kd.int .i64)) w al aa.length aa) (hc0_0 : aa.length≤am) (h : w23_great.f k aa=some r) :
  Calls Try.prog 10 #[.agg #[.slice al aa.length am]] w fun e w' => e=.returned (.bool r)∧Below w.heap.size w w' := by
 have hu24:=Try.underlying24;have aq:=zm hr0_0;have aD:=zm hc0_0;clear hr0_0 hc0_0;have HB:=zm (Below.refl w.heap.size w);have H:=h
 unfold w23_great.f at H
 clear h
 have H' := zm H
 clear H
 go_enter Try.func10,Try.ntmps10
 go_wp2_with (first|((with_reducible refine gate_dst (N:=1) rfl ?_);refine ybx 1 #[.slice al aa.length am] 24 ?_;intro ax hg w2 hbox hb;have ai:=zm (hbox);have aE:=ygw hg;have aG:=ygw hg;replace HB:=ybs hb;clear hb hbox hg))
 go_loopg [3] k (fun kq v3 w' => ∃ (ac : Int),v3=.int .i64 ac∧Aside0 (w23_great.l0 kq ac aa=some r)∧Aside0 (kq≤k)∧Aside0 (w'.heap[ax]? = some (.cells #[(.slice al aa.length am)] 24 (0,0)))∧Aside0 (Below w.heap.size w w'))
 case atStart=>exact ⟨(0),yq,H',⟨Nat.le_refl _⟩,⟨yk ai⟩,⟨yhb⟩⟩
 case round =>
  clear H'
  obtain ⟨ac,rfl,HA,HK1,ai,HB⟩:=hrel
  obtain ⟨k1,rfl⟩:=ysu gk (fun h=>by subst h;exact absurd HA.out (by simp [w23_great.l0]))
  have H:=HA.out;clear HA
  simp only [w23_great.l0] at H
  by_cases c3 : ac < (aa.length : Int)
  ·
   rw [if_pos c3] at H
   have az:=yD c3
   clear c3
   replace H:=yif H;obtain ⟨c4,H⟩:=H
   have aH : decide (0≤ac)=true:=decide_eq_true c4
   clear c4
   by_cases c5 : ((rd_L1 aa ac).length : Int) > 100
   ·
    rw [if_pos c5] at H
    have aA:=yDs c5
    have aC : decide (100 < (rd_L1 aa ac).length)=true:=decide_eq_true (by omega)
    clear c5
    obtain rfl:=Option.some.inj H
    obtain ⟨_,_⟩:=yc1 ai
    have aj : 0≤(ac : Int):=yt
    have ak : ac < (aa.length : Int):=yt
    obtain ⟨ay,au,av,aw,ae,af,ag⟩:=at_L1 aq.out ac aj ak
    cases aw
    replace ae:=yhx HB ae
    have ao:=zm ag;have ap:=zm af;clear ag af
    replace aj:=eq_true aj
    replace ak:=eq_true ak
    go_wp2
    go_ret
    exact ⟨ye,yhb⟩
   rw [if_neg c5] at H
   have aA:=yGs c5
   have aC : decide (100 < (rd_L1 aa ac).length)=false:=decide_eq_false (by omega)
   clear c5
   have H' := zm H
   clear H
   obtain ⟨_,_⟩:=yc1 ai
   have aj : 0≤(ac : Int):=yt
   have ak : ac < (aa.length : Int):=yt
   obtain ⟨ay,au,av,aw,ae,af,ag⟩:=at_L1 aq.out ac aj ak
   cases aw
   replace ae:=yhx HB ae
   have ao:=zm ag;have ap:=zm af;clear ag af
   replace aj:=eq_true aj
   replace ak:=eq_true ak
   go_wp2
   go_roundg k1
   case measure=>exact yom1 HK1
   case rel=>exact ⟨(wrap64 (ac+1)),yq,H',⟨yom1 HK1⟩,⟨yk ai⟩,⟨yhb⟩⟩
  rw [if_neg c3] at H
  have az:=yG c3
  clear c3
  obtain rfl:=Option.some.inj H
  obtain ⟨_,_⟩:=yc1 ai
  go_wp2
  go_ret
  exact ⟨ye,yhb⟩
def num_Sqrt.l0 : Nat→Int→Int→Int→Option (Int)
 | 0,_,_,_=>none
 | k+1,x0,x3,x4=>if x4 > 0 then (if (Go.bits .or .u64 x3 x4)=0 then (none) else (if (Go.bits .or .u64 x3 x4)≤(IntKind.u64.wrap (Int.tdiv x0 (Go.bits .or .u64 x3 x4))) then (num_Sqrt.l0 k x0 (Go.bits .or .u64 x3 x4) (x4 / 2)) else (num_Sqrt.l0 k x0 x3 (x4 / 2)))) else (some x3)
def num_Sqrt.f (k : Nat) (a0 : Int) : Option (Int):=num_Sqrt.l0 k a0 0 2147483648
theorem num_Sqrt.mono_l : ∀ k,(∀ y0 y1 y2,LeO (num_Sqrt.l0 k y0 y1 y2) (num_Sqrt.l0 (k+1) y0 y1 y2))
 | 0=>fun _ _ _ r h=>by simp [num_Sqrt.l0] at h
 | k+1=>by
  have ih0:=num_Sqrt.mono_l k
  ·
   intro y0 y1 y2
   unfold num_Sqrt.l0
   repeat' with_reducible first|apply ih0|apply yLr|apply yLn|apply yLi|apply yLb|intro _
theorem num_Sqrt.mono : ∀ a0 k,LeO (num_Sqrt.f k a0) (num_Sqrt.f (k+1) a0):=by
 intro a0 k
 have ih0:=num_Sqrt.mono_l k
 unfold num_Sqrt.f
 repeat' with_reducible first|apply ih0|apply yLr|apply yLn|apply yLi|apply yLb|intro _
set_option maxHeartbeats 8000000 in
set_option maxRecDepth 100000 in
theorem num_Sqrt.calls (k : Nat) (a0 : Int) (r : Int) (w : World) (h : num_Sqrt.f k a0=some r) :
  Calls Try.prog 106 #[.int .u64 a0] w fun e w' => e=.returned (.int .u64 r)∧Drawn0 w w' := by
 have H:=h
 unfold num_Sqrt.f at H
 clear h
 have H' := zm H
 clear H
 go_enter Try.func106,Try.ntmps106
 go_wp2
 go_loopg [3,4] k (fun kq v3 v4 w' => ∃ (ac : Int) (aa : Int),v3=.int .u64 ac∧v4=.int .u64 aa∧Aside0 (num_Sqrt.l0 kq a0 ac aa=some r)∧Aside0 (kq≤k)∧Drawn0 w w')
 case atStart=>exact ⟨(0),(2147483648),yq,yq,H',⟨Nat.le_refl _⟩,yd⟩
 case round =>
  clear H'
  obtain ⟨ac,aa,rfl,rfl,HA,HK1,⟨m1,rfl⟩⟩:=hrel
  obtain ⟨k1,rfl⟩:=ysu gk (fun h=>by subst h;exact absurd HA.out (by simp [num_Sqrt.l0]))
  have H:=HA.out;clear HA
  simp only [num_Sqrt.l0] at H
  by_cases c2 : aa > 0
  ·
   rw [if_pos c2] at H
   have ae:=yDs c2
   clear c2
   replace H:=yie H;obtain ⟨c3,H⟩:=H
   obtain ⟨ag,ah⟩:=yF c3
   by_cases c4 : (Go.bits .or .u64 ac aa)≤(IntKind.u64.wrap (Int.tdiv a0 (Go.bits .or .u64 ac aa)))
   ·
    rw [if_pos c4] at H
    have af:=yD c4
    clear c4
    have H' := zm H
    clear H
    go_wp2
    go_roundg k1
    case measure=>exact yom1 HK1
    case rel=>exact ⟨(Go.bits .or .u64 ac aa),(aa / 2),yq,yq,H',⟨yom1 HK1⟩,yd⟩
   rw [if_neg c4] at H
   have af:=yG c4
   clear c4
   have H' := zm H
   clear H
   go_wp2
   go_roundg k1
   case measure=>exact yom1 HK1
   case rel=>exact ⟨(ac),(aa / 2),yq,yq,H',⟨yom1 HK1⟩,yd⟩
  rw [if_neg c2] at H
  have ae:=yGs c2
  clear c2
  obtain rfl:=Option.some.inj H
  go_wp2
  go_ret
  exact ⟨yq,yd⟩
def band_Value.f (k : Nat) (a0 : Int) : Option (Int):=if a0 < 1 then (some 0) else (if a0 > 44 then (some 0) else (if 0≤(wrap64 (a0 - 1)) then ((num_Sqrt.f k (shl .u64 1 (wrap64 (a0 - 1)))).bind fun ae=>(some (wrap64 (ae)))) else (none)))
theorem band_Value.mono : ∀ a0 k,LeO (band_Value.f k a0) (band_Value.f (k+1) a0):=by
 intro a0 k
 unfold band_Value.f
 repeat' with_reducible first|apply num_Sqrt.mono|apply yLr|apply yLn|apply yLi|apply yLb|intro _
set_option maxHeartbeats 8000000 in
set_option maxRecDepth 100000 in
theorem band_Value.calls (k : Nat) (a0 : Int) (r : Int) (w : World) (h : band_Value.f k a0=some r) :
  Calls Try.prog 102 #[.int .i64 a0] w fun e w' => e=.returned (.int .i64 r)∧Drawn0 w w' := by
 have H:=h
 unfold band_Value.f at H
 clear h
 by_cases c2 : a0 < 1
 ·
  rw [if_pos c2] at H
  have ag:=yD c2
  clear c2
  obtain rfl:=Option.some.inj H
  go_enter Try.func102,Try.ntmps102
  go_wp2
  go_ret
  exact ⟨yq,yd⟩
 rw [if_neg c2] at H
 have ag:=yG c2
 clear c2
 by_cases c3 : a0 > 44
 ·
  rw [if_pos c3] at H
  have ah:=yDs c3
  clear c3
  obtain rfl:=Option.some.inj H
  go_enter Try.func102,Try.ntmps102
  go_wp2
  go_ret
  exact ⟨yq,yd⟩
 rw [if_neg c3] at H
 have ah:=yGs c3
 clear c3
 obtain ⟨ji4,ac⟩ : ∃ j_ : Int,(wrap64 (a0 - 1))=j_:=⟨_,rfl⟩
 (first|rw [ac] at H|simp only [ac] at H)
 have hji4w : (IntKind.i64.wrap (a0 - 1))=ji4:=(i64_w _).trans ac
 replace H:=yif H;obtain ⟨c5,H⟩:=H
 have ai:=eq_true c5
 have aj : decide (0≤(ji4))=true:=decide_eq_true c5
 clear c5
 obtain ⟨ji6,aa⟩ : ∃ j_ : Int,(shl .u64 1 (ji4))=j_:=⟨_,rfl⟩
 (first|rw [aa] at H|simp only [aa] at H)
 have af : (IntKind.u64.wrap (1 * 2 ^ min (ji4).toNat 64))=ji6:=aa
 have hji6z : (ji4)≤64→(IntKind.u64.wrap (1 * 2 ^ (ji4).toNat))=ji6:=shl_small aa
 have hji6u : (IntKind.u64.wrap (2 ^ min (ji4).toNat 64))=ji6:=by have h_:=af;rw [Int.one_mul] at h_;exact h_
 have hji6v : (ji4)≤64→(IntKind.u64.wrap (2 ^ (ji4).toNat))=ji6:=fun hle_=>by have h_:=hji6z hle_;rw [Int.one_mul] at h_;exact h_
 replace H:=ybi H;obtain ⟨ae,A7,H⟩:=H
 obtain rfl:=Option.some.inj H
 go_enter Try.func102,Try.ntmps102
 go_wp2_with (first|((with_reducible refine gate_callee (f:=106) rfl ?_);refine goesL_ (some 12) rfl rfl Try.func106 (by kernel_rfl) rfl #[.int .u64 ji6] rfl (by (try simp only [List.map_toArray,List.map_cons,List.map_nil]);first|done|(simp only [aa];rfl)|rfl|(simp only [List.length_drop,List.length_take];rfl)) ?_;(with_reducible refine (num_Sqrt.calls k ji6 ae _ A7.out).mono ?_);rintro e w' ⟨rfl,⟨nd,rfl⟩⟩;refine ⟨_,rfl, ?_⟩))
 go_ret
 exact ⟨by first|rfl|(simp;done)|(simp only [← ac, ← aa] <;> (first|rfl|simp))|(simp [*];done),yd⟩
def ccodec_loud.l0 : Nat→List Int→Int→Int→Option (Bool)
 | 0,_,_,_=>none
 | k+1,x5,x6,x7=>if x7 < x6 then (if 0≤x7 then (if x7 < (x5.length : Int) then (if (rd x5 x7)=0 then (ccodec_loud.l0 k x5 x6 (wrap64 (x7+1))) else (some true)) else (none)) else (none)) else (some false)
def ccodec_loud.f (k : Nat) (l0 : List Int) : Option (Bool):=ccodec_loud.l0 k l0 (l0.length : Int) 0
theorem ccodec_loud.mono_l : ∀ k,(∀ y0 y1 y2,LeO (ccodec_loud.l0 k y0 y1 y2) (ccodec_loud.l0 (k+1) y0 y1 y2))
 | 0=>fun _ _ _ r h=>by simp [ccodec_loud.l0] at h
 | k+1=>by
  have ih0:=ccodec_loud.mono_l k
  ·
   intro y0 y1 y2
   unfold ccodec_loud.l0
   repeat' with_reducible first|apply ih0|apply yLr|apply yLn|apply yLi|apply yLb|intro _
theorem ccodec_loud.mono : ∀ a0 k,LeO (ccodec_loud.f k a0) (ccodec_loud.f (k+1) a0):=by
 intro a0 k
 have ih0:=ccodec_loud.mono_l k
 unfold ccodec_loud.f
 repeat' with_reducible first|apply ih0|apply yLr|apply yLn|apply yLi|apply yLb|intro _
set_option maxHeartbeats 8000000 in
set_option maxRecDepth 100000 in
theorem ccodec_loud.calls (k : Nat) (A0 : Option Addr) (c0 : Nat) (l0 : List Int) (r : Bool) (w : World) (hr0 : Kd.C (Kd.int .i64) w A0 l0.length l0) (hc0 : l0.length≤c0) (h : ccodec_loud.f k l0=some r) :
  Calls Try.prog 103 #[.slice A0 l0.length c0] w fun e w' => e=.returned (.bool r)∧Drawn0 w w' := by
 have HR0:=zm hr0;have HC0:=zm hc0;clear hr0 hc0;have H:=h
 unfold ccodec_loud.f at H
 clear h
 have H' := zm H
 clear H
 go_enter Try.func103,Try.ntmps103
 go_wp2
 go_loopg [7] k (fun kq v7 w' => ∃ (aa : Int),v7=.int .i64 aa∧Aside0 (ccodec_loud.l0 kq l0 (l0.length : Int) aa=some r)∧Aside0 (kq≤k)∧Drawn0 w w')
 case atStart=>exact ⟨(0),yq,H',⟨Nat.le_refl _⟩,yd⟩
 case round =>
  clear H'
  obtain ⟨aa,rfl,HA,HK1,⟨m1,rfl⟩⟩:=hrel
  obtain ⟨k1,rfl⟩:=ysu gk (fun h=>by subst h;exact absurd HA.out (by simp [ccodec_loud.l0]))
  have H:=HA.out;clear HA
  simp only [ccodec_loud.l0] at H
  by_cases c2 : aa < (l0.length : Int)
  ·
   rw [if_pos c2] at H
   have ag:=yD c2
   clear c2
   replace H:=yif H;obtain ⟨c3,H⟩:=H
   have al : decide (0≤aa)=true:=decide_eq_true c3
   clear c3
   replace H:=yif H;obtain ⟨c4,H⟩:=H
   have am : decide (aa < (l0.length : Int))=true:=decide_eq_true c4
   clear c4
   by_cases c5 : (rd l0 aa)=0
   ·
    rw [if_pos c5] at H
    obtain ⟨ah,ai⟩:=yE c5
    clear c5
    have H' := zm H
    clear H
    obtain ⟨af,ae,ac,aj,ak⟩:=yai HR0 aa
    cases ae
    go_wp2
    go_roundg k1
    case measure=>exact yom1 HK1
    case rel=>exact ⟨(wrap64 (aa+1)),yq,H',⟨yom1 HK1⟩,yd⟩
   rw [if_neg c5] at H
   obtain ⟨ah,ai⟩:=yF c5
   obtain rfl:=Option.some.inj H
   obtain ⟨af,ae,ac,aj,ak⟩:=yai HR0 aa
   cases ae
   go_wp2
   go_ret
   exact ⟨yq,yd⟩
  rw [if_neg c2] at H
  have ag:=yG c2
  clear c2
  obtain rfl:=Option.some.inj H
  go_wp2
  go_ret
  exact ⟨yq,yd⟩
def num_size.f (a0 : Int) : Option (Int):=if a0 < 0 then (some (IntKind.u64.wrap (-(IntKind.u64.wrap (a0))))) else (some (IntKind.u64.wrap (a0)))
set_option maxHeartbeats 8000000 in
set_option maxRecDepth 100000 in
theorem num_size.calls (a0 : Int) (r : Int) (w : World) (h : num_size.f a0=some r) :
  Calls Try.prog 120 #[.int .i64 a0] w fun e w' => e=.returned (.int .u64 r)∧Drawn0 w w' := by
 have H:=h
 unfold num_size.f at H
 clear h
 by_cases c2 : a0 < 0
 ·
  rw [if_pos c2] at H
  have aa:=yD c2
  clear c2
  obtain rfl:=Option.some.inj H
  go_enter Try.func120,Try.ntmps120
  go_wp2
  go_ret
  exact ⟨yq,yd⟩
 rw [if_neg c2] at H
 have aa:=yG c2
 clear c2
 obtain rfl:=Option.some.inj H
 go_enter Try.func120,Try.ntmps120
 go_wp2
 go_ret
 exact ⟨yq,yd⟩
def num_Div.f (a0 : Int) (a1 : Int) : Option (Int × Int):=if a1 < 1 then (some (0,1)) else ((num_size.f a0).bind fun aa=>(if (IntKind.u64.wrap (a1))=0 then (none) else (if (Int.tmod aa (IntKind.u64.wrap (a1))) ≥ (IntKind.u64.wrap ((IntKind.u64.wrap (a1)) - (Int.tmod aa (IntKind.u64.wrap (a1))))) then (if a0 < 0 then (some (wrap64 (IntKind.u64.wrap (-(IntKind.u64.wrap ((IntKind.u64.wrap (Int.tdiv aa (IntKind.u64.wrap (a1))))+1)))),0)) else (some (wrap64 (IntKind.u64.wrap ((IntKind.u64.wrap (Int.tdiv aa (IntKind.u64.wrap (a1))))+1)),0))) else (if a0 < 0 then (some (wrap64 (IntKind.u64.wrap (-(IntKind.u64.wrap (Int.tdiv aa (IntKind.u64.wrap (a1)))))),0)) else (some (wrap64 (IntKind.u64.wrap (Int.tdiv aa (IntKind.u64.wrap (a1)))),0))))))
set_option maxHeartbeats 8000000 in
set_option maxRecDepth 100000 in
theorem num_Div.calls (a0 : Int) (a1 : Int) (r1 : Int) (r2 : Int) (w : World) (h : num_Div.f a0 a1=some (r1,r2)) :
  Calls Try.prog 105 #[.int .i64 a0, .int .i64 a1] w fun e w' => e=.returned (.tuple #[.int .i64 r1, .int .i64 r2])∧Drawn0 w w' := by
 have H:=h
 unfold num_Div.f at H
 clear h
 by_cases c3 : a1 < 1
 ·
  rw [if_pos c3] at H
  have ac:=yD c3
  clear c3
  simp only [Option.some.injEq,Prod.mk.injEq] at H
  obtain ⟨rfl,rfl⟩:=H
  go_enter Try.func105,Try.ntmps105
  go_wp2
  repeat (go_quiet (fail);try go_wp2)
  go_ret2
  exact ⟨yq,yd⟩
 rw [if_neg c3] at H
 have ac:=yG c3
 clear c3
 replace H:=ybi H;obtain ⟨aa,A4,H⟩:=H
 replace H:=yie H;obtain ⟨c5,H⟩:=H
 obtain ⟨ah,ai⟩:=yF c5
 by_cases c6 : (Int.tmod aa (IntKind.u64.wrap (a1))) ≥ (IntKind.u64.wrap ((IntKind.u64.wrap (a1)) - (Int.tmod aa (IntKind.u64.wrap (a1)))))
 ·
  rw [if_pos c6] at H
  have ae:=yDl c6
  clear c6
  by_cases c7 : a0 < 0
  ·
   rw [if_pos c7] at H
   have af:=yD c7
   clear c7
   simp only [Option.some.injEq,Prod.mk.injEq] at H
   obtain ⟨rfl,rfl⟩:=H
   go_enter Try.func105,Try.ntmps105
   go_wp2_with (first|(go_at_call 120;(with_reducible refine (num_size.calls a0 aa _ A4.out).mono ?_);rintro e w' ⟨rfl,⟨nd,rfl⟩⟩;(try exact yww)))
   repeat (go_quiet (first|(go_at_call 120;(with_reducible refine (num_size.calls a0 aa _ A4.out).mono ?_);rintro e w' ⟨rfl,⟨nd,rfl⟩⟩;(try exact yww)));try go_wp2_with (first|(go_at_call 120;(with_reducible refine (num_size.calls a0 aa _ A4.out).mono ?_);rintro e w' ⟨rfl,⟨nd,rfl⟩⟩;(try exact yww))))
   go_ret2
   exact ⟨yq,yd⟩
  rw [if_neg c7] at H
  have af:=yG c7
  clear c7
  simp only [Option.some.injEq,Prod.mk.injEq] at H
  obtain ⟨rfl,rfl⟩:=H
  go_enter Try.func105,Try.ntmps105
  go_wp2_with (first|(go_at_call 120;(with_reducible refine (num_size.calls a0 aa _ A4.out).mono ?_);rintro e w' ⟨rfl,⟨nd,rfl⟩⟩;(try exact yww)))
  repeat (go_quiet (first|(go_at_call 120;(with_reducible refine (num_size.calls a0 aa _ A4.out).mono ?_);rintro e w' ⟨rfl,⟨nd,rfl⟩⟩;(try exact yww)));try go_wp2_with (first|(go_at_call 120;(with_reducible refine (num_size.calls a0 aa _ A4.out).mono ?_);rintro e w' ⟨rfl,⟨nd,rfl⟩⟩;(try exact yww))))
  go_ret2
  exact ⟨yq,yd⟩
 rw [if_neg c6] at H
 have ae:=yGl c6
 clear c6
 by_cases c8 : a0 < 0
 ·
  rw [if_pos c8] at H
  have ag:=yD c8
  clear c8
  simp only [Option.some.injEq,Prod.mk.injEq] at H
  obtain ⟨rfl,rfl⟩:=H
  go_enter Try.func105,Try.ntmps105
  go_wp2_with (first|(go_at_call 120;(with_reducible refine (num_size.calls a0 aa _ A4.out).mono ?_);rintro e w' ⟨rfl,⟨nd,rfl⟩⟩;(try exact yww)))
  repeat (go_quiet (first|(go_at_call 120;(with_reducible refine (num_size.calls a0 aa _ A4.out).mono ?_);rintro e w' ⟨rfl,⟨nd,rfl⟩⟩;(try exact yww)));try go_wp2_with (first|(go_at_call 120;(with_reducible refine (num_size.calls a0 aa _ A4.out).mono ?_);rintro e w' ⟨rfl,⟨nd,rfl⟩⟩;(try exact yww))))
  go_ret2
  exact ⟨yq,yd⟩
 rw [if_neg c8] at H
 have ag:=yG c8
 clear c8
 simp only [Option.some.injEq,Prod.mk.injEq] at H
 obtain ⟨rfl,rfl⟩:=H
 go_enter Try.func105,Try.ntmps105
 go_wp2_with (first|(go_at_call 120;(with_reducible refine (num_size.calls a0 aa _ A4.out).mono ?_);rintro e w' ⟨rfl,⟨nd,rfl⟩⟩;(try exact yww)))
 repeat (go_quiet (first|(go_at_call 120;(with_reducible refine (num_size.calls a0 aa _ A4.out).mono ?_);rintro e w' ⟨rfl,⟨nd,rfl⟩⟩;(try exact yww)));try go_wp2_with (first|(go_at_call 120;(with_reducible refine (num_size.calls a0 aa _ A4.out).mono ?_);rintro e w' ⟨rfl,⟨nd,rfl⟩⟩;(try exact yww))))
 go_ret2
 exact ⟨yq,yd⟩
mutual
def pvq_Shape.j0 : Nat→List Int→Int→Bool→Option (List Int × Int)
 | 0,_,_,_=>none
 | k+1,x0,x1,x29=>if x29=true then (some (([] : List Int),1)) else (pvq_Shape.l0 k x0 x1 0 x0 (x0.length : Int) 0)
def pvq_Shape.l0 : Nat→List Int→Int→Int→List Int→Int→Int→Option (List Int × Int)
 | 0,_,_,_,_,_,_=>none
 | k+1,x0,x1,x8,x30,x31,x32=>if x32 < x31 then (if 0≤x32 then (if x32 < (x30.length : Int) then (pvq_Shape.l0 k x0 x1 (IntKind.u64.wrap (x8+(IntKind.u64.wrap (wrap64 ((rd x30 x32) * (rd x30 x32)))))) x30 x31 (wrap64 (x32+1))) else (none)) else (none)) else (if 0≤(x0.length : Int) then (if ((x0.length : Int) : Int).toNat≤35184372088832 then ((some (List.replicate ((x0.length : Int) : Int).toNat 0 : List Int)).bind fun am=>(if x8=0 then (some (am,0)) else ((num_Sqrt.f k (IntKind.u64.wrap ((IntKind.u64.wrap (x8 * 256)) * 256))).bind fun ag=>(pvq_Shape.l1 k x1 am (wrap64 (ag)) x0 (x0.length : Int) 0)))) else (none)) else (none))
def pvq_Shape.l1 : Nat→Int→List Int→Int→List Int→Int→Int→Option (List Int × Int)
 | 0,_,_,_,_,_,_=>none
 | k+1,x1,x11,x12,x54,x55,x56=>if x56 < x55 then (if 0≤x56 then (if x56 < (x54.length : Int) then ((num_Div.f (wrap64 ((wrap64 ((rd x54 x56) * x1)) * 256)) x12).bind fun aJ=>(if x56 < (x11.length : Int) then (pvq_Shape.l1 k x1 (x11.set (x56 : Int).toNat aJ.1) x12 x54 x55 (wrap64 (x56+1))) else (none))) else (none)) else (none)) else (some (x11,0))
end
def pvq_Shape.f (k : Nat) (l0 : List Int) (a1 : Int) : Option (List Int × Int):=(comb_Index.f k l0).bind fun aK=>(if aK.2=0 then (if a1 < 0 then (pvq_Shape.j0 k l0 a1 true) else (pvq_Shape.j0 k l0 a1 (decide (a1 > 4194304)))) else (pvq_Shape.j0 k l0 a1 true))
theorem pvq_Shape.mono_l : ∀ k,(∀ y0 y1 y2,LeO (pvq_Shape.j0 k y0 y1 y2) (pvq_Shape.j0 (k+1) y0 y1 y2))∧(∀ y0 y1 y2 y3 y4 y5,LeO (pvq_Shape.l0 k y0 y1 y2 y3 y4 y5) (pvq_Shape.l0 (k+1) y0 y1 y2 y3 y4 y5))∧(∀ y0 y1 y2 y3 y4 y5,LeO (pvq_Shape.l1 k y0 y1 y2 y3 y4 y5) (pvq_Shape.l1 (k+1) y0 y1 y2 y3 y4 y5))
 | 0=>⟨fun _ _ _ r h=>by simp [pvq_Shape.j0] at h,fun _ _ _ _ _ _ r h=>by simp [pvq_Shape.l0] at h,fun _ _ _ _ _ _ r h=>by simp [pvq_Shape.l1] at h⟩
 | k+1=>by
  obtain ⟨ih0,ih1,ih2⟩:=pvq_Shape.mono_l k
  refine ⟨?_, ?_, ?_⟩
  ·
   intro y0 y1 y2
   unfold pvq_Shape.j0
   repeat' with_reducible first|apply ih0|apply ih1|apply ih2|apply comb_Index.mono|apply num_Sqrt.mono|apply yLr|apply yLn|apply yLi|apply yLb|intro _
  ·
   intro y0 y1 y2 y3 y4 y5
   unfold pvq_Shape.l0
   repeat' with_reducible first|apply ih0|apply ih1|apply ih2|apply comb_Index.mono|apply num_Sqrt.mono|apply yLr|apply yLn|apply yLi|apply yLb|intro _
  intro y0 y1 y2 y3 y4 y5
  unfold pvq_Shape.l1
  repeat' with_reducible first|apply ih0|apply ih1|apply ih2|apply comb_Index.mono|apply num_Sqrt.mono|apply yLr|apply yLn|apply yLi|apply yLb|intro _
theorem pvq_Shape.mono : ∀ a0 a1 k,LeO (pvq_Shape.f k a0 a1) (pvq_Shape.f (k+1) a0 a1):=by
 intro a0 a1 k
 obtain ⟨ih0,ih1,ih2⟩:=pvq_Shape.mono_l k
 unfold pvq_Shape.f
 repeat' with_reducible first|apply ih0|apply ih1|apply ih2|apply comb_Index.mono|apply num_Sqrt.mono|apply yLr|apply yLn|apply yLi|apply yLb|intro _
set_option maxHeartbeats 8000000 in
set_option maxRecDepth 100000 in
theorem pvq_Shape.calls (k : Nat) (A0 : Option Addr) (c0 : Nat) (l0 : List Int) (a1 : Int) (r1 : List Int) (r2 : Int) (w : World) (hr0 : Kd.C (Kd.int .i64) w A0 l0.length l0) (hc0 : l0.length≤c0) (h : pvq_Shape.f k l0 a1=some (r1,r2)) :
  Calls Try.prog 104 #[.slice A0 l0.length c0, .int .i64 a1] w fun e w' => ∃ v0_ : Value,e=.returned (.tuple #[v0_, .int .i64 r2])∧Kd.R (Kd.int .i64) 2 w' w.heap.size (fun _=>True) v0_ r1∧Below w.heap.size w w' := by
 have HR0:=zm hr0;have HC0:=zm hc0;clear hr0 hc0;have HB:=zm (Below.refl w.heap.size w);have H:=h
 unfold pvq_Shape.f at H
 clear h
 replace H:=ybi H;obtain ⟨⟨bc,aM⟩,A3,H⟩:=H
 try dsimp only at H
 have HC4:=zm H;clear H
 go_enter Try.func104,Try.ntmps104
 go_upto_region 2 with (first|((with_reducible refine gate_callee (f:=49) rfl ?_);refine ygl 17 Try.func49 #[.slice A0 l0.length c0] ?_;(with_reducible refine (comb_Index.calls k _ _ l0 bc aM _ ?aN HC0.out A3.out).mono ?_);(case aN=>exact yce HR0.out);rintro e w5 ⟨rfl,hb⟩;refine ⟨_,rfl, ?_⟩;replace HB:=ybs hb;(try clear hb)))
 (try simp only [Act.put,List.setIfInBounds_toArray,List.set_cons_zero,List.set_cons_succ])
 go_cut [29] (fun v29 wc => ∃ (kq : Nat) (aj : Bool),v29=.bool aj∧Aside0 (pvq_Shape.j0 kq l0 a1 aj=some (r1,r2))∧Aside0 (kq≤k)∧Aside0 (Below w.heap.size w wc))
 case first =>
  have H:=HC4.out;clear HC4
  by_cases c6 : aM=0
  ·
   rw [if_pos c6] at H
   obtain ⟨ao,bd⟩:=yE c6
   clear c6
   (first|rw [ao]|(simp only [i64_w,i32_w];rw [ao])|skip)
   by_cases c7 : a1 < 0
   ·
    rw [if_pos c7] at H
    have bf:=yD c7
    clear c7
    have H' := zm H
    clear H
    go_wp2
    go_meet
    case rel=>exact ⟨_,(true),yq,H',⟨yo⟩,⟨yhb⟩⟩
   rw [if_neg c7] at H
   have bf:=yG c7
   clear c7
   have H' := zm H
   clear H
   go_wp2
   go_meet
   case rel=>exact ⟨_,(decide (a1 > 4194304)),yq,H',⟨yo⟩,⟨yhb⟩⟩
  rw [if_neg c6] at H
  obtain ⟨ao,bd⟩:=yF c6
  (first|rw [ao]|(simp only [i64_w,i32_w];rw [ao])|skip)
  have H' := zm H
  clear H
  go_wp2
  go_meet
  case rel=>exact ⟨_,(true),yq,H',⟨yo⟩,⟨yhb⟩⟩
 case rest =>
  clear HC4
  obtain ⟨kq,aj,rfl,HA,HJ3,HB⟩:=hcut
  obtain ⟨kj3,rfl⟩:=ysu kq (fun h=>by subst h;exact absurd HA.out (by simp [pvq_Shape.j0]))
  have H:=HA.out;clear HA
  simp only [pvq_Shape.j0] at H
  by_cases c8 : aj=true
  ·
   subst c8
   rw [if_pos rfl] at H
   simp only [Option.some.injEq,Prod.mk.injEq] at H
   obtain ⟨rfl,rfl⟩:=H
   go_wp2
   go_ret2
   exact ⟨_,ye,yn,yhb⟩
  replace c8:=Bool.eq_false_iff.mpr c8
  subst c8
  rw [ynf] at H
  have H' := zm H
  clear H
  go_wp2
  go_loopg [8,32] kj3 (fun kq v8 v32 w' => ∃ (ah : Int) (ac : Int),v8=.int .u64 ah∧v32=.int .i64 ac∧Aside0 (pvq_Shape.l0 kq l0 a1 ah l0 (l0.length : Int) ac=some (r1,r2))∧Aside0 (kq≤kj3)∧Aside0 (Below w.heap.size w w'))
  case atStart=>exact ⟨(0),(0),yq,yq,H',⟨Nat.le_refl _⟩,⟨yhb⟩⟩
  case round =>
   clear H'
   obtain ⟨ah,ac,rfl,rfl,HA,HK2,HB⟩:=hrel
   obtain ⟨k2,rfl⟩:=ysu gk (fun h=>by subst h;exact absurd HA.out (by simp [pvq_Shape.l0]))
   have H:=HA.out;clear HA
   simp only [pvq_Shape.l0] at H
   by_cases c9 : ac < (l0.length : Int)
   ·
    rw [if_pos c9] at H
    have aQ:=yD c9
    clear c9
    replace H:=yif H;obtain ⟨c10,H⟩:=H
    have aT : decide (0≤ac)=true:=decide_eq_true c10
    clear c10
    replace H:=yif H;obtain ⟨c11,H⟩:=H
    have aU : decide (ac < (l0.length : Int))=true:=decide_eq_true c11
    clear c11
    have H' := zm H
    clear H
    have ax : 0≤(ac : Int):=yt
    have ay : ac < (l0.length : Int):=yt
    obtain ⟨bo,bg,ai⟩:=Kd.at_int HR0.out ac ax ay
    cases bg
    replace ai:=yhx HB ai
    replace ax:=eq_true ax
    replace ay:=eq_true ay
    go_wp2
    go_roundg k2
    case measure=>exact yom2 HJ3 HK2
    case rel=>exact ⟨(IntKind.u64.wrap (ah+(IntKind.u64.wrap (wrap64 ((rd l0 ac) * (rd l0 ac)))))),(wrap64 (ac+1)),yq,yq,H',⟨yom2 HJ3 HK2⟩,⟨yhb⟩⟩
   rw [if_neg c9] at H
   have aQ:=yG c9
   clear c9
   replace H:=yif H;obtain ⟨c12,H⟩:=H
   have aV:=eq_true c12
   have aW : decide (0≤(l0.length : Int))=true:=decide_eq_true c12
   clear c12
   replace H:=yif H;obtain ⟨c13,H⟩:=H
   have aX:=eq_true c13
   have aY : decide (((l0.length : Int) : Int).toNat≤35184372088832)=true:=decide_eq_true c13
   clear c13
   obtain ⟨am,ap⟩ : ∃ y_ : List Int,y_=(List.replicate ((l0.length : Int) : Int).toNat 0):=⟨_,rfl⟩
   replace H : (if ah=0 then (some (am,0)) else ((num_Sqrt.f k2 (IntKind.u64.wrap ((IntKind.u64.wrap (ah * 256)) * 256))).bind fun ag=>(pvq_Shape.l1 k2 a1 am (wrap64 (ag)) l0 (l0.length : Int) 0)))=some (r1,r2):=yrw ap H
   have ak:=zm ap;clear ap
   by_cases c14 : ah=0
   ·
    rw [if_pos c14] at H
    obtain ⟨aA,aC⟩:=yE c14
    clear c14
    simp only [Option.some.injEq,Prod.mk.injEq] at H
    obtain ⟨rfl,rfl⟩:=H
    go_wp2_with (first|((with_reducible refine gate_dst (N:=45) rfl ?_);refine Kd.R_make (Kd.int .i64) _ 2 rfl (N:=45) rfl 53 _ _ rfl (l0.length : Int) rfl rfl Try.underlying53 (.int .i64 0) 8 info2 rfl (by decide) (by omega) 0 (ok:=fun _=>True) (okp:=fun _=>True) rfl (fun _ hk=>hk) trivial (yt) (Nat.le_trans (Nat.mul_le_mul_right _ (yt : (l0.length : Int).toNat≤35184372088832)) (by omega)) (Below.refl _ _) (Nat.le_refl _) ?_;intro aZ w15 aq hb hg_ hnew_;clear hg_ hnew_;(first|rw [← ak.out] at aq|(simp only [Int.reduceToNat] at aq;rw [← ak.out] at aq));have au:=zm (Kd.R_lower aq (zE yhb));replace HB:=ybs hb;clear hb aq))
    go_ret2
    exact ⟨_,ye,yr au,yhb⟩
   rw [if_neg c14] at H
   obtain ⟨aA,aC⟩:=yF c14
   replace H:=ybi H;obtain ⟨ag,A17,H⟩:=H
   have H' := zm H
   clear H
   go_wp2_with (first|((with_reducible refine gate_dst (N:=45) rfl ?_);refine Kd.R_make (Kd.int .i64) _ 2 rfl (N:=45) rfl 53 _ _ rfl (l0.length : Int) rfl rfl Try.underlying53 (.int .i64 0) 8 info2 rfl (by decide) (by omega) 0 (ok:=fun _=>True) (okp:=fun _=>True) rfl (fun _ hk=>hk) trivial (yt) (Nat.le_trans (Nat.mul_le_mul_right _ (yt : (l0.length : Int).toNat≤35184372088832)) (by omega)) (Below.refl _ _) (Nat.le_refl _) ?_;intro aZ w18 av hb hg_ hnew_;clear hg_ hnew_;(first|rw [← ak.out] at av|(simp only [Int.reduceToNat] at av;rw [← ak.out] at av));have au:=zm (Kd.R_lower av (zE yhb));replace HB:=ybs hb;clear hb av)|((with_reducible refine gate_callee (f:=106) rfl ?_);refine ygl 52 Try.func106 #[.int .u64 (IntKind.u64.wrap ((IntKind.u64.wrap (ah * 256)) * 256))] ?_;(with_reducible refine (num_Sqrt.calls k2 (IntKind.u64.wrap ((IntKind.u64.wrap (ah * 256)) * 256)) ag _ A17.out).mono ?_);rintro e w' ⟨rfl,⟨nd,rfl⟩⟩;refine ⟨_,rfl, ?_⟩))
   go_loopg [56] k2 (fun kq v56 w' => ∃ (af : List Int) (aa : Int),v56=.int .i64 aa∧Aside0 (pvq_Shape.l1 kq a1 af (wrap64 (ag)) l0 (l0.length : Int) aa=some (r1,r2))∧Aside0 (kq≤k2)∧Aside0 (Kd.R (Kd.int .i64) 2 w' w.heap.size (fun _=>True) aZ af)∧Aside0 (Below w.heap.size w w'))
   case atStart=>exact ⟨(am),(0),yq,H',⟨Nat.le_refl _⟩,⟨yr au⟩,⟨yhb⟩⟩
   case round =>
    clear H'
    try clear aQ
    try clear aT
    try clear aU
    try clear aV
    try clear aW
    try clear aX
    try clear aY
    try clear c14
    try clear aA
    try clear aC
    try clear ai
    try clear ax
    try clear ay
    obtain ⟨af,aa,rfl,HA,HK3,ae,HB⟩:=hrel
    obtain ⟨k3,rfl⟩:=ysu gk (fun h=>by subst h;exact absurd HA.out (by simp [pvq_Shape.l1]))
    have H:=HA.out;clear HA
    simp only [pvq_Shape.l1] at H
    by_cases c20 : aa < (l0.length : Int)
    ·
     rw [if_pos c20] at H
     have a7:=yD c20
     clear c20
     replace H:=yif H;obtain ⟨c21,H⟩:=H
     have bp : decide (0≤aa)=true:=decide_eq_true c21
     clear c21
     replace H:=yif H;obtain ⟨c22,H⟩:=H
     have bq : decide (aa < (l0.length : Int))=true:=decide_eq_true c22
     clear c22
     replace H:=ybi H;obtain ⟨⟨az,bh⟩,A23,H⟩:=H
     try dsimp only at H
     replace H:=yif H;obtain ⟨c24,H⟩:=H
     have br : decide (aa < (af.length : Int))=true:=decide_eq_true c24
     clear c24
     obtain ⟨aD,aw⟩ : ∃ y_ : List Int,y_=(af.set (aa : Int).toNat az):=⟨_,rfl⟩
     replace H : (pvq_Shape.l1 k3 a1 aD (wrap64 (ag)) l0 (l0.length : Int) (wrap64 (aa+1)))=some (r1,r2):=yrw aw H
     have a8:=zm aw;clear aw
     have H' := zm H
     clear H
     have aE : 0≤(aa : Int):=yt
     have aG : aa < (l0.length : Int):=yt
     obtain ⟨bs,bi,al⟩:=Kd.at_int HR0.out aa aE aG
     cases bi
     replace al:=yhx HB al
     replace aE:=eq_true aE
     replace aG:=eq_true aG
     go_wp2_with (first|((with_reducible refine gate_callee (f:=105) rfl ?_);refine ygl 69 Try.func105 #[.int .i64 (wrap64 ((wrap64 ((rd l0 aa) * a1)) * 256)), .int .i64 (wrap64 (ag))] ?_;(with_reducible refine (num_Div.calls (wrap64 ((wrap64 ((rd l0 aa) * a1)) * 256)) (wrap64 (ag)) az bh _ A23.out).mono ?_);rintro e w' ⟨rfl,⟨nd,rfl⟩⟩;refine ⟨_,rfl, ?_⟩;(try (rw [drewN_self wr];generalize hq_ : World.drewN wr _=wr;replace ae:=yRq hq_ ae;replace HB:=ysq hq_;clear hq_));have p25 : 0≤(aa : Int):=yt;have q25 : (aa : Int) < ((af.length : Int) : Int):=yt;obtain ⟨aH,bj,a9,ba,bk,bv,bb⟩:=Kd.R_form ae.out (by omega);(first|cases a9|(injection a9 with ea_ en_ ec_;(first|subst ea_|(injection ea_ with ea_;subst ea_));subst ec_;clear en_));have bl:=zm ba;have bw:=zm bb;clear ba bk bb;obtain ⟨bm,bn⟩:=Kd.R_celln 0 ae.out (aa : Int) p25 q25;replace p25:=eq_true p25;replace q25:=eq_true q25;obtain ⟨bu,hz26_⟩:=Kd.R_celln 0 ae.out (aa : Int) (yt) (yt);have aI:=Kd.R_putg ae.out (aa : Int) az)|((with_reducible refine gate_store (t:=2) (p:=72) rfl ?_);refine store_event (t:=2) (p:=72) (v := ?vo_w27) (w1:=(wr.setCell ⟨aH,(aa : Int).toNat,none⟩ (.int .i64 az))) ?hg ?ho ?hn ?hr ?_;(case ho=>rfl);(case hg=>rfl);(case hn=>rfl);(case hr=>first|(go_simp;done)|(go_simp;rfl));intro w27 hw;have hg : wr.grownBy w27 (some aH):=(by rw [hw];exact aI.2);have hp_ : Kd.R (Kd.int .i64) 2 w27 w.heap.size (fun _=>True) (.slice (some ⟨aH,0,none⟩) af.length bj) aD:=(by rw [hw,a8.out];exact aI.1);clear aI;replace ae:=zm (hp_);replace HB:=zm ((by rw [hw];exact zk (HB.out) bl.out : Below w.heap.size w w27));clear hg hw hp_))
     go_roundg k3
     case measure=>exact yom3 HJ3 HK2 HK3
     case rel=>exact ⟨(aD),(wrap64 (aa+1)),yq,H',⟨yom3 HJ3 HK2 HK3⟩,⟨yr ae⟩,⟨yhb⟩⟩
    rw [if_neg c20] at H
    have a7:=yG c20
    clear c20
    simp only [Option.some.injEq,Prod.mk.injEq] at H
    obtain ⟨rfl,rfl⟩:=H
    go_wp2
    go_ret2
    exact ⟨_,ye,yr ae,yhb⟩
mutual
def ccodec_next.j2 : Nat→List Int→Option (List Int)
 | 0,_=>none
 | k+1,x6=>ccodec_next.l1 k x6 (x6.length : Int) 0
def ccodec_next.l1 : Nat→List Int→Int→Int→Option (List Int)
 | 0,_,_,_=>none
 | k+1,x6,x72,x73=>if x73 < x72 then (if 0≤x73 then (if x73 < (x6.length : Int) then ((num_Clamp.f (rd x6 x73) (-1048576) 1048576).bind fun au=>(ccodec_next.l1 k (x6.set (x73 : Int).toNat au) x72 (wrap64 (x73+1)))) else (none)) else (none)) else (some x6)
def ccodec_next.j0 : Nat→List Int→List Int→List Int→Int→Bool→Option (List Int)
 | 0,_,_,_,_,_=>none
 | k+1,x0,x2,x6,x7,x27=>if x27=true then ((num_Sqrt.f k (IntKind.u64.wrap ((IntKind.u64.wrap ((IntKind.u64.wrap ((x0.length : Int))) * 256)) * 256))).bind fun aM=>((num_Div.f (wrap64 (x7 * 256)) (wrap64 (aM))).bind fun bL=>(ccodec_next.l0 k x2 x6 bL.1 (x6.length : Int) 0))) else (ccodec_next.j2 k x6)
def ccodec_next.l0 : Nat→List Int→List Int→Int→Int→Int→Option (List Int)
 | 0,_,_,_,_,_=>none
 | k+1,x2,x6,x8,x49,x50=>if x50 < x49 then (if 0≤x50 then (if x50 < (x6.length : Int) then ((some (x6.set (x50 : Int).toNat x8 : List Int)).bind fun ay=>(if (x2.length : Int)=0 then (none) else (if 0≤(Int.tmod x50 (x2.length : Int)) then (if (Int.tmod x50 (x2.length : Int)) < (x2.length : Int) then (if (rd x2 (Int.tmod x50 (x2.length : Int))) < 0 then (ccodec_next.l0 k x2 (ay.set (x50 : Int).toNat (wrap64 (-x8))) x8 x49 (wrap64 (x50+1))) else (ccodec_next.l0 k x2 ay x8 x49 (wrap64 (x50+1)))) else (none)) else (none)))) else (none)) else (none)) else (ccodec_next.j2 k x6)
end
def ccodec_next.f (k : Nat) (l0 : List Int) (a1 : Int) (l2 : List Int) : Option (List Int):=if 0≤(l0.length : Int) then (if ((l0.length : Int) : Int).toNat≤35184372088832 then ((some (List.replicate ((l0.length : Int) : Int).toNat 0 : List Int)).bind fun av=>((band_Value.f k a1).bind fun ao=>((ccodec_loud.f k l0).bind fun a7=>(if a7=true then ((pvq_Shape.f k l0 ao).bind fun a8=>(ccodec_next.j2 k a8.1)) else (if ao > 0 then (ccodec_next.j0 k l0 l2 av ao (decide ((l2.length : Int) > 0))) else (ccodec_next.j0 k l0 l2 av ao false)))))) else (none)) else (none)
theorem ccodec_next.mono_l : ∀ k,(∀ y0,LeO (ccodec_next.j2 k y0) (ccodec_next.j2 (k+1) y0))∧(∀ y0 y1 y2,LeO (ccodec_next.l1 k y0 y1 y2) (ccodec_next.l1 (k+1) y0 y1 y2))∧(∀ y0 y1 y2 y3 y4,LeO (ccodec_next.j0 k y0 y1 y2 y3 y4) (ccodec_next.j0 (k+1) y0 y1 y2 y3 y4))∧(∀ y0 y1 y2 y3 y4,LeO (ccodec_next.l0 k y0 y1 y2 y3 y4) (ccodec_next.l0 (k+1) y0 y1 y2 y3 y4))
 | 0=>⟨fun _ r h=>by simp [ccodec_next.j2] at h,fun _ _ _ r h=>by simp [ccodec_next.l1] at h,fun _ _ _ _ _ r h=>by simp [ccodec_next.j0] at h,fun _ _ _ _ _ r h=>by simp [ccodec_next.l0] at h⟩
 | k+1=>by
  obtain ⟨ih0,ih1,ih2,ih3⟩:=ccodec_next.mono_l k
  refine ⟨?_, ?_, ?_, ?_⟩
  ·
   intro y0
   unfold ccodec_next.j2
   repeat' with_reducible first|apply ih0|apply ih1|apply ih2|apply ih3|apply band_Value.mono|apply ccodec_loud.mono|apply num_Sqrt.mono|apply pvq_Shape.mono|apply yLr|apply yLn|apply yLi|apply yLb|intro _
  ·
   intro y0 y1 y2
   unfold ccodec_next.l1
   repeat' with_reducible first|apply ih0|apply ih1|apply ih2|apply ih3|apply band_Value.mono|apply ccodec_loud.mono|apply num_Sqrt.mono|apply pvq_Shape.mono|apply yLr|apply yLn|apply yLi|apply yLb|intro _
  ·
   intro y0 y1 y2 y3 y4
   unfold ccodec_next.j0
   repeat' with_reducible first|apply ih0|apply ih1|apply ih2|apply ih3|apply band_Value.mono|apply ccodec_loud.mono|apply num_Sqrt.mono|apply pvq_Shape.mono|apply yLr|apply yLn|apply yLi|apply yLb|intro _
  intro y0 y1 y2 y3 y4
  unfold ccodec_next.l0
  repeat' with_reducible first|apply ih0|apply ih1|apply ih2|apply ih3|apply band_Value.mono|apply ccodec_loud.mono|apply num_Sqrt.mono|apply pvq_Shape.mono|apply yLr|apply yLn|apply yLi|apply yLb|intro _
theorem ccodec_next.mono : ∀ a0 a1 a2 k,LeO (ccodec_next.f k a0 a1 a2) (ccodec_next.f (k+1) a0 a1 a2):=by
 intro a0 a1 a2 k
 obtain ⟨ih0,ih1,ih2,ih3⟩:=ccodec_next.mono_l k
 unfold ccodec_next.f
 repeat' with_reducible first|apply ih0|apply ih1|apply ih2|apply ih3|apply band_Value.mono|apply ccodec_loud.mono|apply num_Sqrt.mono|apply pvq_Shape.mono|apply yLr|apply yLn|apply yLi|apply yLb|intro _
set_option maxHeartbeats 8000000 in
set_option maxRecDepth 100000 in
theorem ccodec_next.calls (k : Nat) (B : Nat) (A0 : Option Addr) (c0 : Nat) (l0 : List Int) (a1 : Int) (A2 : Option Addr) (c2 : Nat) (l2 : List Int) (r : List Int) (w : World) (hr0 : Kd.C (Kd.int .i64) w A0 l0.length l0) (hc0 : l0.length≤c0) (hr2 : Kd.C (Kd.int .i64) w A2 l2.length l2) (hc2 : l2.length≤c2) (hs : w.heap[B]? = some (.cells #[.slice A2 l2.length c2] 53 (0,0))) (h : ccodec_next.f k l0 a1 l2=some r) :
  Calls Try.prog 101 #[.slice A0 l0.length c0, .int .i64 a1, .pointer (some ⟨B,0,none⟩)] w fun e w' => ∃ v0_ : Value,e=.returned (v0_)∧Kd.R (Kd.int .i64) 2 w' w.heap.size (fun _=>True) v0_ r∧Kept w w' (fun k_=>k_=B)∧Below B w w'∧w'.heap[B]? = some (.cells #[v0_] 53 (0,0)):=by
 have HCL : Aside0 (w.cell? ⟨B,0,none⟩=some (.slice A2 l2.length c2)):=⟨(zs hs 0).trans rfl⟩
 have HS:=zm hs;clear hs;have HR0:=zm hr0;have HC0:=zm hc0;clear hr0 hc0;have HR2:=zm hr2;have HC2:=zm hc2;clear hr2 hc2;have HB:=zm (Below.refl w.heap.size w);have H:=h
 unfold ccodec_next.f at H
 clear h
 replace H:=yif H;obtain ⟨c4,H⟩:=H
 have bM:=eq_true c4
 have bN : decide (0≤(l0.length : Int))=true:=decide_eq_true c4
 clear c4
 replace H:=yif H;obtain ⟨c5,H⟩:=H
 have bO:=eq_true c5
 have bP : decide (((l0.length : Int) : Int).toNat≤35184372088832)=true:=decide_eq_true c5
 clear c5
 obtain ⟨av,a9⟩ : ∃ y_ : List Int,y_=(List.replicate ((l0.length : Int) : Int).toNat 0):=⟨_,rfl⟩
 replace H : ((band_Value.f k a1).bind fun ao=>((ccodec_loud.f k l0).bind fun a7=>(if a7=true then ((pvq_Shape.f k l0 ao).bind fun a8=>(ccodec_next.j2 k a8.1)) else (if ao > 0 then (ccodec_next.j0 k l0 l2 av ao (decide ((l2.length : Int) > 0))) else (ccodec_next.j0 k l0 l2 av ao false)))))=some r:=yrw a9 H
 have aH:=zm a9;clear a9
 replace H:=ybi H;obtain ⟨ao,A6,H⟩:=H
 have HC7:=zm H;clear H
 go_enter Try.func101,Try.ntmps101
 go_upto_block 0 with (first|((with_reducible refine gate_dst (N:=15) rfl ?_);(try (refine gate_guard (by rfl) ?_;dsimp only));refine Kd.R_make (Kd.int .i64) _ 2 rfl (N:=15) rfl 53 _ _ rfl (l0.length : Int) rfl rfl Try.underlying53 (.int .i64 0) 8 info2 rfl (by decide) (by omega) 0 (ok:=fun _=>True) (okp:=fun _=>True) rfl (fun _ hk=>hk) trivial (yt) (Nat.le_trans (Nat.mul_le_mul_right _ (yt : (l0.length : Int).toNat≤35184372088832)) (by omega)) (Below.refl _ _) (Nat.le_refl _) ?_;intro bB w8 ho9 hb hg_ hnew_;clear hg_ hnew_;(first|rw [← aH.out] at ho9|(simp only [Int.reduceToNat] at ho9;rw [← aH.out] at ho9));have aq:=zm (Kd.R_lower ho9 (zE yhb));replace HB:=ybs hb;clear hb ho9)|(go_at_call 102;(with_reducible refine (band_Value.calls k a1 ao _ A6.out).mono ?_);rintro e w' ⟨rfl,⟨nd,rfl⟩⟩;(try exact yww)))
 repeat (go_quiet (first|((with_reducible refine gate_dst (N:=15) rfl ?_);(try (refine gate_guard (by rfl) ?_;dsimp only));refine Kd.R_make (Kd.int .i64) _ 2 rfl (N:=15) rfl 53 _ _ rfl (l0.length : Int) rfl rfl Try.underlying53 (.int .i64 0) 8 info2 rfl (by decide) (by omega) 0 (ok:=fun _=>True) (okp:=fun _=>True) rfl (fun _ hk=>hk) trivial (yt) (Nat.le_trans (Nat.mul_le_mul_right _ (yt : (l0.length : Int).toNat≤35184372088832)) (by omega)) (Below.refl _ _) (Nat.le_refl _) ?_;intro bB w8 ho9 hb hg_ hnew_;clear hg_ hnew_;(first|rw [← aH.out] at ho9|(simp only [Int.reduceToNat] at ho9;rw [← aH.out] at ho9));have aq:=zm (Kd.R_lower ho9 (zE yhb));replace HB:=ybs hb;clear hb ho9)|(go_at_call 102;(with_reducible refine (band_Value.calls k a1 ao _ A6.out).mono ?_);rintro e w' ⟨rfl,⟨nd,rfl⟩⟩;(try exact yww)));go_upto_block 0 with (first|((with_reducible refine gate_dst (N:=15) rfl ?_);(try (refine gate_guard (by rfl) ?_;dsimp only));refine Kd.R_make (Kd.int .i64) _ 2 rfl (N:=15) rfl 53 _ _ rfl (l0.length : Int) rfl rfl Try.underlying53 (.int .i64 0) 8 info2 rfl (by decide) (by omega) 0 (ok:=fun _=>True) (okp:=fun _=>True) rfl (fun _ hk=>hk) trivial (yt) (Nat.le_trans (Nat.mul_le_mul_right _ (yt : (l0.length : Int).toNat≤35184372088832)) (by omega)) (Below.refl _ _) (Nat.le_refl _) ?_;intro bB w8 ho9 hb hg_ hnew_;clear hg_ hnew_;(first|rw [← aH.out] at ho9|(simp only [Int.reduceToNat] at ho9;rw [← aH.out] at ho9));have aq:=zm (Kd.R_lower ho9 (zE yhb));replace HB:=ybs hb;clear hb ho9)|(go_at_call 102;(with_reducible refine (band_Value.calls k a1 ao _ A6.out).mono ?_);rintro e w' ⟨rfl,⟨nd,rfl⟩⟩;(try exact yww))))
 (try simp only [Act.put,List.setIfInBounds_toArray,List.set_cons_zero,List.set_cons_succ])
 go_cut [6] (fun v6 wc => ∃ (kq : Nat) (aN : List Int),Aside0 (ccodec_next.j2 kq aN=some r)∧Aside0 (kq≤k)∧Aside0 (Kd.R (Kd.int .i64) 2 wc w.heap.size (fun _=>True) v6 aN)∧Aside0 (Below w.heap.size w wc))
 case first =>
  have H:=HC7.out;clear HC7
  replace H:=ybi H;obtain ⟨a7,A10,H⟩:=H
  by_cases c11 : a7=true
  ·
   subst c11
   rw [if_pos rfl] at H
   replace H:=ybi H;obtain ⟨⟨bv,bC⟩,A12,H⟩:=H
   try dsimp only at H
   have H' := zm H
   clear H
   go_wp2_with (first|(go_at_call 103;(with_reducible refine (ccodec_loud.calls k _ _ l0 true _ ?aj HC0.out A10.out).mono ?_);(case aj=>exact ycb HR0);rintro e w' ⟨rfl,⟨nd,rfl⟩⟩;(try exact yww))|(go_at_call 104;(with_reducible refine (pvq_Shape.calls k _ _ l0 ao bv bC _ ?aj HC0.out A12.out).mono ?_);(case aj=>exact ycb HR0);rintro e w13 ⟨bQ,rfl,ho0,hb⟩;have ba:=zm (Kd.R_lower (Kd.R_new' ho0 (Kd.R_lt (yr aq))) (zE yhb));replace aq:=zm (Kd.R_elder' (yr aq) (Kd.R_base ho0) hb);replace HB:=ybs hb;(try clear hb);(try clear ho0)))
   repeat (go_quiet (first|(go_at_call 103;(with_reducible refine (ccodec_loud.calls k _ _ l0 true _ ?aj HC0.out A10.out).mono ?_);(case aj=>exact ycb HR0);rintro e w' ⟨rfl,⟨nd,rfl⟩⟩;(try exact yww))|(go_at_call 104;(with_reducible refine (pvq_Shape.calls k _ _ l0 ao bv bC _ ?aj HC0.out A12.out).mono ?_);(case aj=>exact ycb HR0);rintro e w13 ⟨bQ,rfl,ho0,hb⟩;have ba:=zm (Kd.R_lower (Kd.R_new' ho0 (Kd.R_lt (yr aq))) (zE yhb));replace aq:=zm (Kd.R_elder' (yr aq) (Kd.R_base ho0) hb);replace HB:=ybs hb;(try clear hb);(try clear ho0)));try go_wp2_with (first|(go_at_call 103;(with_reducible refine (ccodec_loud.calls k _ _ l0 true _ ?aj HC0.out A10.out).mono ?_);(case aj=>exact ycb HR0);rintro e w' ⟨rfl,⟨nd,rfl⟩⟩;(try exact yww))|(go_at_call 104;(with_reducible refine (pvq_Shape.calls k _ _ l0 ao bv bC _ ?aj HC0.out A12.out).mono ?_);(case aj=>exact ycb HR0);rintro e w13 ⟨bQ,rfl,ho0,hb⟩;have ba:=zm (Kd.R_lower (Kd.R_new' ho0 (Kd.R_lt (yr aq))) (zE yhb));replace aq:=zm (Kd.R_elder' (yr aq) (Kd.R_base ho0) hb);replace HB:=ybs hb;(try clear hb);(try clear ho0))))
   go_meet
   case rel=>exact ⟨_,(bv),H',⟨yo⟩,⟨yR0 ba⟩,⟨yhb⟩⟩
  replace c11:=Bool.eq_false_iff.mpr c11
  subst c11
  rw [ynf] at H
  have bD:=zm H;clear H
  go_upto_region 5 with (first|(go_at_call 103;(with_reducible refine (ccodec_loud.calls k _ _ l0 false _ ?aj HC0.out A10.out).mono ?_);(case aj=>exact ycb HR0);rintro e w' ⟨rfl,⟨nd,rfl⟩⟩;(try exact yww)))
  repeat (go_quiet (first|(go_at_call 103;(with_reducible refine (ccodec_loud.calls k _ _ l0 false _ ?aj HC0.out A10.out).mono ?_);(case aj=>exact ycb HR0);rintro e w' ⟨rfl,⟨nd,rfl⟩⟩;(try exact yww)));go_upto_region 5 with (first|(go_at_call 103;(with_reducible refine (ccodec_loud.calls k _ _ l0 false _ ?aj HC0.out A10.out).mono ?_);(case aj=>exact ycb HR0);rintro e w' ⟨rfl,⟨nd,rfl⟩⟩;(try exact yww))))
  (try simp only [Act.put,List.setIfInBounds_toArray,List.set_cons_zero,List.set_cons_succ])
  go_cut [27] (fun v27 wc => ∃ (kq : Nat) (aJ : Bool),v27=.bool aJ∧Aside0 (ccodec_next.j0 kq l0 l2 av ao aJ=some r)∧Aside0 (kq≤k)∧Aside0 (Kd.R (Kd.int .i64) 2 wc w.heap.size (fun _=>True) bB av)∧Aside0 (Below w.heap.size w wc))
  case first =>
   have H:=bD.out;clear bD
   by_cases c15 : ao > 0
   ·
    rw [if_pos c15] at H
    have aQ:=yDs c15
    clear c15
    (first|rw [aQ]|(simp only [i64_w,i32_w];rw [aQ])|skip)
    have H' := zm H
    clear H
    have hcl:=(HB.out.cell (zb w _ HCL.out)).trans HCL.out
    go_wp2
    repeat (go_quiet (fail);try go_wp2)
    go_meet
    case rel=>exact ⟨_,(decide ((l2.length : Int) > 0)),yq,H',⟨yo⟩,⟨yr aq⟩,⟨yhb⟩⟩
   rw [if_neg c15] at H
   have aQ:=yGs c15
   clear c15
   (first|rw [aQ]|(simp only [i64_w,i32_w];rw [aQ])|skip)
   have H' := zm H
   clear H
   have hcl:=(HB.out.cell (zb w _ HCL.out)).trans HCL.out
   go_wp2
   repeat (go_quiet (fail);try go_wp2)
   go_meet
   case rel=>exact ⟨_,(false),yq,H',⟨yo⟩,⟨yr aq⟩,⟨yhb⟩⟩
  case rest =>
   clear bD
   try clear c2
   try clear bM
   try clear bN
   try clear bO
   try clear bP
   obtain ⟨kq,aJ,rfl,HA,aZ,aa,HB⟩:=hcut
   obtain ⟨bb,rfl⟩:=ysu kq (fun h=>by subst h;exact absurd HA.out (by simp [ccodec_next.j0]))
   have H:=HA.out;clear HA
   simp only [ccodec_next.j0] at H
   by_cases c16 : aJ=true
   ·
    subst c16
    rw [if_pos rfl] at H
    replace H:=ybi H;obtain ⟨aM,A17,H⟩:=H
    replace H:=ybi H;obtain ⟨⟨ah,bE⟩,A18,H⟩:=H
    try dsimp only at H
    have H' := zm H
    clear H
    go_wp2_with (first|(go_at_call 106;(with_reducible refine (num_Sqrt.calls bb (IntKind.u64.wrap ((IntKind.u64.wrap ((IntKind.u64.wrap ((l0.length : Int))) * 256)) * 256)) aM _ A17.out).mono ?_);rintro e w' ⟨rfl,⟨nd,rfl⟩⟩;(try exact yww))|(go_at_call 105;(with_reducible refine (num_Div.calls (wrap64 (ao * 256)) (wrap64 (aM)) ah bE _ A18.out).mono ?_);rintro e w' ⟨rfl,⟨nd,rfl⟩⟩;(try exact yww);obtain ⟨bF,az,bc⟩:=Kd.R_slice aa.out;subst bc))
    repeat (go_quiet (first|(go_at_call 106;(with_reducible refine (num_Sqrt.calls bb (IntKind.u64.wrap ((IntKind.u64.wrap ((IntKind.u64.wrap ((l0.length : Int))) * 256)) * 256)) aM _ A17.out).mono ?_);rintro e w' ⟨rfl,⟨nd,rfl⟩⟩;(try exact yww))|(go_at_call 105;(with_reducible refine (num_Div.calls (wrap64 (ao * 256)) (wrap64 (aM)) ah bE _ A18.out).mono ?_);rintro e w' ⟨rfl,⟨nd,rfl⟩⟩;(try exact yww);obtain ⟨bF,az,bc⟩:=Kd.R_slice aa.out;subst bc));try go_wp2_with (first|(go_at_call 106;(with_reducible refine (num_Sqrt.calls bb (IntKind.u64.wrap ((IntKind.u64.wrap ((IntKind.u64.wrap ((l0.length : Int))) * 256)) * 256)) aM _ A17.out).mono ?_);rintro e w' ⟨rfl,⟨nd,rfl⟩⟩;(try exact yww))|(go_at_call 105;(with_reducible refine (num_Div.calls (wrap64 (ao * 256)) (wrap64 (aM)) ah bE _ A18.out).mono ?_);rintro e w' ⟨rfl,⟨nd,rfl⟩⟩;(try exact yww);obtain ⟨bF,az,bc⟩:=Kd.R_slice aa.out;subst bc)))
    go_loopg [50] bb (fun kq v50 w' => ∃ (ag : List Int) (ac : Int),v50=.int .i64 ac∧Aside0 (ccodec_next.l0 kq l2 ag ah (av.length : Int) ac=some r)∧Aside0 (kq≤bb)∧Aside0 (Kd.R (Kd.int .i64) 2 w' w.heap.size (fun _=>True) (.slice bF av.length az) ag)∧Aside0 (Below w.heap.size w w'))
    case atStart=>exact ⟨(av),(0),yq,H',⟨Nat.le_refl _⟩,⟨yr aa⟩,⟨yhb⟩⟩
    case round =>
     clear H'
     obtain ⟨ag,ac,rfl,HA,HK2,aa,HB⟩:=hrel
     have ak:=(Kd.R_reads' aa.out).1
     rw [ak] at aa
     (try simp only [ak])
     obtain ⟨k2,rfl⟩:=ysu gk (fun h=>by subst h;exact absurd HA.out (by simp [ccodec_next.l0]))
     have H:=HA.out;clear HA
     simp only [ccodec_next.l0] at H
     by_cases c20 : ac < (av.length : Int)
     ·
      rw [if_pos c20] at H
      have bx:=yD c20
      clear c20
      replace H:=yif H;obtain ⟨c21,H⟩:=H
      have b5 : decide (0≤ac)=true:=decide_eq_true c21
      clear c21
      replace H:=yif H;obtain ⟨c22,H⟩:=H
      have b6 : decide (ac < (ag.length : Int))=true:=decide_eq_true c22
      clear c22
      obtain ⟨ay,bd⟩ : ∃ y_ : List Int,y_=(ag.set (ac : Int).toNat ah):=⟨_,rfl⟩
      replace H : (if (l2.length : Int)=0 then (none) else (if 0≤(Int.tmod ac (l2.length : Int)) then (if (Int.tmod ac (l2.length : Int)) < (l2.length : Int) then (if (rd l2 (Int.tmod ac (l2.length : Int))) < 0 then (ccodec_next.l0 k2 l2 (ay.set (ac : Int).toNat (wrap64 (-ah))) ah (av.length : Int) (wrap64 (ac+1))) else (ccodec_next.l0 k2 l2 ay ah (av.length : Int) (wrap64 (ac+1)))) else (none)) else (none)))=some r:=yrw bd H
      have aI:=zm bd;clear bd
      replace H:=yie H;obtain ⟨c24,H⟩:=H
      obtain ⟨b7,b8⟩:=yF c24
      have b9 : ¬ (l2 = []):=fun h_=>c24 (by rw [h_];rfl)
      obtain ⟨ap,bz⟩ : ∃ j_ : Int,(Int.tmod ac (l2.length : Int))=j_:=⟨_,rfl⟩
      (first|rw [bz] at H|simp only [bz] at H)
      replace H:=yif H;obtain ⟨c26,H⟩:=H
      have ca : decide (0≤(ap))=true:=decide_eq_true c26
      clear c26
      replace H:=yif H;obtain ⟨c27,H⟩:=H
      have cb : decide ((ap) < (l2.length : Int))=true:=decide_eq_true c27
      clear c27
      by_cases c28 : (rd l2 (ap)) < 0
      ·
       rw [if_pos c28] at H
       have bR:=yD c28
       clear c28
       obtain ⟨bf,bg⟩ : ∃ y_ : List Int,y_=(ay.set (ac : Int).toNat (wrap64 (-ah))):=⟨_,rfl⟩
       replace H : (ccodec_next.l0 k2 l2 bf ah (av.length : Int) (wrap64 (ac+1)))=some r:=yrw bg H
       have bh:=zm bg;clear bg
       have H' := zm H
       clear H
       have p23 : 0≤(ac : Int):=yt
       have q23 : (ac : Int) < ((ag.length : Int) : Int):=yt
       obtain ⟨ai,bV,bi,bj,bG,bW,bk⟩:=Kd.R_form aa.out (by omega)
       (first|cases bi|(injection bi with ea_ en_ ec_;(first|subst ea_|(injection ea_ with ea_;subst ea_));subst ec_;clear en_))
       have aG:=zm bj;have bX:=zm bk;clear bj bG bk
       obtain ⟨bH,bI⟩:=Kd.R_celln 0 aa.out (ac : Int) p23 q23
       replace p23:=eq_true p23
       replace q23:=eq_true q23
       have aA:=Kd.R_putg aa.out (ac : Int) ah
       go_wp2_with (first|((with_reducible refine gate_store (t:=2) (p:=56) rfl ?_);(try (rw [drewN_self wr];generalize hq_ : World.drewN wr _=wr;have n0_:=zm (Kd.R_at hq_ aa.out);have n1_:=zm (below_at hq_ HB.out);clear hq_ aa HB;have aa:=n0_;have HB:=n1_;clear n0_ n1_;(try (have aA:=Kd.R_putg aa.out (ac : Int) ah))));refine store_event (t:=2) (p:=56) (v := ?vo_w31) (w1:=(wr.setCell ⟨ai,(ac : Int).toNat,none⟩ (.int .i64 ah))) ?hg ?ho ?hn ?hr ?_;(case ho=>rfl);(case hg=>rfl);(case hn=>rfl);(case hr=>first|(go_simp;done)|(go_simp;rfl));intro w31 hw;have hg : wr.grownBy w31 (some ai):=(by rw [hw];exact aA.2);have hp_ : Kd.R (Kd.int .i64) 2 w31 w.heap.size (fun _=>True) (.slice (some ⟨ai,0,none⟩) ag.length az) ay:=(by rw [hw,aI.out];exact aA.1);clear aA;replace aa:=zm (hp_);replace HB:=zm ((by rw [hw];exact zk (HB.out) aG.out : Below w.heap.size w w31));clear hg hw hp_;have hcl:=(HB.out.cell (zb w _ HCL.out)).trans HCL.out;have al : 0≤((ap) : Int):=yt;have am : (ap) < (l2.length : Int):=yt;obtain ⟨aT,aD,af⟩:=Kd.at_int HR2.out (ap) al am;cases aD;replace af:=yhx HB af;replace al:=eq_true al;replace am:=eq_true am;have p29 : 0≤(ac : Int):=yt;have q29 : (ac : Int) < ((ag.length : Int) : Int):=yt;obtain ⟨bl,bm⟩:=Kd.R_celln 0 aa.out (ac : Int) p29 q29;replace p29:=eq_true p29;replace q29:=eq_true q29;obtain ⟨aU,hz32_⟩:=Kd.R_celln 0 aa.out (ac : Int) (yt) (yt);have aw:=Kd.R_putg aa.out (ac : Int) (wrap64 (-ah)))|((with_reducible refine gate_store (t:=2) (p:=69) rfl ?_);(try (rw [drewN_self w31];generalize hq_ : World.drewN w31 _=w31;have n0_:=zm (Kd.R_at hq_ aa.out);have n1_:=zm (below_at hq_ HB.out);clear hq_ aa HB;have aa:=n0_;have HB:=n1_;clear n0_ n1_;(try (obtain ⟨aU,hz32_⟩:=Kd.R_celln 0 aa.out (ac : Int) (yt) (yt)));(try (have aw:=Kd.R_putg aa.out (ac : Int) (wrap64 (-ah))))));refine store_event (t:=2) (p:=69) (v := ?vo_w33) (w1:=(w31.setCell ⟨ai,(ac : Int).toNat,none⟩ (.int .i64 (wrap64 (-ah))))) ?hg ?ho ?hn ?hr ?_;(case ho=>rfl);(case hg=>rfl);(case hn=>rfl);(case hr=>first|(go_simp;done)|(go_simp;rfl));intro w33 hw;have hg : w31.grownBy w33 (some ai):=(by rw [hw];exact aw.2);have hp_ : Kd.R (Kd.int .i64) 2 w33 w.heap.size (fun _=>True) (.slice (some ⟨ai,0,none⟩) ag.length az) bf:=(by rw [hw,bh.out];exact aw.1);clear aw;replace aa:=zm (hp_);replace HB:=zm ((by rw [hw];exact zk (HB.out) aG.out : Below w.heap.size w w33));clear hg hw hp_))
       repeat (go_quiet (first|((with_reducible refine gate_store (t:=2) (p:=56) rfl ?_);(try (rw [drewN_self wr];generalize hq_ : World.drewN wr _=wr;have n0_:=zm (Kd.R_at hq_ aa.out);have n1_:=zm (below_at hq_ HB.out);clear hq_ aa HB;have aa:=n0_;have HB:=n1_;clear n0_ n1_;(try (have aA:=Kd.R_putg aa.out (ac : Int) ah))));refine store_event (t:=2) (p:=56) (v := ?vo_w31) (w1:=(wr.setCell ⟨ai,(ac : Int).toNat,none⟩ (.int .i64 ah))) ?hg ?ho ?hn ?hr ?_;(case ho=>rfl);(case hg=>rfl);(case hn=>rfl);(case hr=>first|(go_simp;done)|(go_simp;rfl));intro w31 hw;have hg : wr.grownBy w31 (some ai):=(by rw [hw];exact aA.2);have hp_ : Kd.R (Kd.int .i64) 2 w31 w.heap.size (fun _=>True) (.slice (some ⟨ai,0,none⟩) ag.length az) ay:=(by rw [hw,aI.out];exact aA.1);clear aA;replace aa:=zm (hp_);replace HB:=zm ((by rw [hw];exact zk (HB.out) aG.out : Below w.heap.size w w31));clear hg hw hp_;have hcl:=(HB.out.cell (zb w _ HCL.out)).trans HCL.out;have al : 0≤((ap) : Int):=yt;have am : (ap) < (l2.length : Int):=yt;obtain ⟨aT,aD,af⟩:=Kd.at_int HR2.out (ap) al am;cases aD;replace af:=yhx HB af;replace al:=eq_true al;replace am:=eq_true am;have p29 : 0≤(ac : Int):=yt;have q29 : (ac : Int) < ((ag.length : Int) : Int):=yt;obtain ⟨bl,bm⟩:=Kd.R_celln 0 aa.out (ac : Int) p29 q29;replace p29:=eq_true p29;replace q29:=eq_true q29;obtain ⟨aU,hz32_⟩:=Kd.R_celln 0 aa.out (ac : Int) (yt) (yt);have aw:=Kd.R_putg aa.out (ac : Int) (wrap64 (-ah)))|((with_reducible refine gate_store (t:=2) (p:=69) rfl ?_);(try (rw [drewN_self w31];generalize hq_ : World.drewN w31 _=w31;have n0_:=zm (Kd.R_at hq_ aa.out);have n1_:=zm (below_at hq_ HB.out);clear hq_ aa HB;have aa:=n0_;have HB:=n1_;clear n0_ n1_;(try (obtain ⟨aU,hz32_⟩:=Kd.R_celln 0 aa.out (ac : Int) (yt) (yt)));(try (have aw:=Kd.R_putg aa.out (ac : Int) (wrap64 (-ah))))));refine store_event (t:=2) (p:=69) (v := ?vo_w33) (w1:=(w31.setCell ⟨ai,(ac : Int).toNat,none⟩ (.int .i64 (wrap64 (-ah))))) ?hg ?ho ?hn ?hr ?_;(case ho=>rfl);(case hg=>rfl);(case hn=>rfl);(case hr=>first|(go_simp;done)|(go_simp;rfl));intro w33 hw;have hg : w31.grownBy w33 (some ai):=(by rw [hw];exact aw.2);have hp_ : Kd.R (Kd.int .i64) 2 w33 w.heap.size (fun _=>True) (.slice (some ⟨ai,0,none⟩) ag.length az) bf:=(by rw [hw,bh.out];exact aw.1);clear aw;replace aa:=zm (hp_);replace HB:=zm ((by rw [hw];exact zk (HB.out) aG.out : Below w.heap.size w w33));clear hg hw hp_));try go_wp2_with (first|((with_reducible refine gate_store (t:=2) (p:=56) rfl ?_);(try (rw [drewN_self wr];generalize hq_ : World.drewN wr _=wr;have n0_:=zm (Kd.R_at hq_ aa.out);have n1_:=zm (below_at hq_ HB.out);clear hq_ aa HB;have aa:=n0_;have HB:=n1_;clear n0_ n1_;(try (have aA:=Kd.R_putg aa.out (ac : Int) ah))));refine store_event (t:=2) (p:=56) (v := ?vo_w31) (w1:=(wr.setCell ⟨ai,(ac : Int).toNat,none⟩ (.int .i64 ah))) ?hg ?ho ?hn ?hr ?_;(case ho=>rfl);(case hg=>rfl);(case hn=>rfl);(case hr=>first|(go_simp;done)|(go_simp;rfl));intro w31 hw;have hg : wr.grownBy w31 (some ai):=(by rw [hw];exact aA.2);have hp_ : Kd.R (Kd.int .i64) 2 w31 w.heap.size (fun _=>True) (.slice (some ⟨ai,0,none⟩) ag.length az) ay:=(by rw [hw,aI.out];exact aA.1);clear aA;replace aa:=zm (hp_);replace HB:=zm ((by rw [hw];exact zk (HB.out) aG.out : Below w.heap.size w w31));clear hg hw hp_;have hcl:=(HB.out.cell (zb w _ HCL.out)).trans HCL.out;have al : 0≤((ap) : Int):=yt;have am : (ap) < (l2.length : Int):=yt;obtain ⟨aT,aD,af⟩:=Kd.at_int HR2.out (ap) al am;cases aD;replace af:=yhx HB af;replace al:=eq_true al;replace am:=eq_true am;have p29 : 0≤(ac : Int):=yt;have q29 : (ac : Int) < ((ag.length : Int) : Int):=yt;obtain ⟨bl,bm⟩:=Kd.R_celln 0 aa.out (ac : Int) p29 q29;replace p29:=eq_true p29;replace q29:=eq_true q29;obtain ⟨aU,hz32_⟩:=Kd.R_celln 0 aa.out (ac : Int) (yt) (yt);have aw:=Kd.R_putg aa.out (ac : Int) (wrap64 (-ah)))|((with_reducible refine gate_store (t:=2) (p:=69) rfl ?_);(try (rw [drewN_self w31];generalize hq_ : World.drewN w31 _=w31;have n0_:=zm (Kd.R_at hq_ aa.out);have n1_:=zm (below_at hq_ HB.out);clear hq_ aa HB;have aa:=n0_;have HB:=n1_;clear n0_ n1_;(try (obtain ⟨aU,hz32_⟩:=Kd.R_celln 0 aa.out (ac : Int) (yt) (yt)));(try (have aw:=Kd.R_putg aa.out (ac : Int) (wrap64 (-ah))))));refine store_event (t:=2) (p:=69) (v := ?vo_w33) (w1:=(w31.setCell ⟨ai,(ac : Int).toNat,none⟩ (.int .i64 (wrap64 (-ah))))) ?hg ?ho ?hn ?hr ?_;(case ho=>rfl);(case hg=>rfl);(case hn=>rfl);(case hr=>first|(go_simp;done)|(go_simp;rfl));intro w33 hw;have hg : w31.grownBy w33 (some ai):=(by rw [hw];exact aw.2);have hp_ : Kd.R (Kd.int .i64) 2 w33 w.heap.size (fun _=>True) (.slice (some ⟨ai,0,none⟩) ag.length az) bf:=(by rw [hw,bh.out];exact aw.1);clear aw;replace aa:=zm (hp_);replace HB:=zm ((by rw [hw];exact zk (HB.out) aG.out : Below w.heap.size w w33));clear hg hw hp_)))
       (try simp only [← ak])
       go_roundg k2
       case measure=>exact yom2 aZ HK2
       case rel=>exact ⟨(bf),(wrap64 (ac+1)),yq,H',⟨yom2 aZ HK2⟩,⟨by (try simp only [ak]);(with_reducible repeat (first|apply zo|apply zp|apply zq));exact aa.out⟩,⟨yhb⟩⟩
      rw [if_neg c28] at H
      have bR:=yG c28
      clear c28
      have H' := zm H
      clear H
      have p23 : 0≤(ac : Int):=yt
      have q23 : (ac : Int) < ((ag.length : Int) : Int):=yt
      obtain ⟨ai,bV,bi,bj,bG,bW,bk⟩:=Kd.R_form aa.out (by omega)
      (first|cases bi|(injection bi with ea_ en_ ec_;(first|subst ea_|(injection ea_ with ea_;subst ea_));subst ec_;clear en_))
      have aG:=zm bj;have bX:=zm bk;clear bj bG bk
      obtain ⟨bH,bI⟩:=Kd.R_celln 0 aa.out (ac : Int) p23 q23
      replace p23:=eq_true p23
      replace q23:=eq_true q23
      have aC:=Kd.R_putg aa.out (ac : Int) ah
      go_wp2_with (first|((with_reducible refine gate_store (t:=2) (p:=56) rfl ?_);(try (rw [drewN_self wr];generalize hq_ : World.drewN wr _=wr;have n0_:=zm (Kd.R_at hq_ aa.out);have n1_:=zm (below_at hq_ HB.out);clear hq_ aa HB;have aa:=n0_;have HB:=n1_;clear n0_ n1_;(try (have aC:=Kd.R_putg aa.out (ac : Int) ah))));refine store_event (t:=2) (p:=56) (v := ?vo_w35) (w1:=(wr.setCell ⟨ai,(ac : Int).toNat,none⟩ (.int .i64 ah))) ?hg ?ho ?hn ?hr ?_;(case ho=>rfl);(case hg=>rfl);(case hn=>rfl);(case hr=>first|(go_simp;done)|(go_simp;rfl));intro w35 hw;have hg : wr.grownBy w35 (some ai):=(by rw [hw];exact aC.2);have hp_ : Kd.R (Kd.int .i64) 2 w35 w.heap.size (fun _=>True) (.slice (some ⟨ai,0,none⟩) ag.length az) ay:=(by rw [hw,aI.out];exact aC.1);clear aC;replace aa:=zm (hp_);replace HB:=zm ((by rw [hw];exact zk (HB.out) aG.out : Below w.heap.size w w35));clear hg hw hp_;have hcl:=(HB.out.cell (zb w _ HCL.out)).trans HCL.out;have al : 0≤((ap) : Int):=yt;have am : (ap) < (l2.length : Int):=yt;obtain ⟨aT,aD,af⟩:=Kd.at_int HR2.out (ap) al am;cases aD;replace af:=yhx HB af;replace al:=eq_true al;replace am:=eq_true am))
      repeat (go_quiet (first|((with_reducible refine gate_store (t:=2) (p:=56) rfl ?_);(try (rw [drewN_self wr];generalize hq_ : World.drewN wr _=wr;have n0_:=zm (Kd.R_at hq_ aa.out);have n1_:=zm (below_at hq_ HB.out);clear hq_ aa HB;have aa:=n0_;have HB:=n1_;clear n0_ n1_;(try (have aC:=Kd.R_putg aa.out (ac : Int) ah))));refine store_event (t:=2) (p:=56) (v := ?vo_w35) (w1:=(wr.setCell ⟨ai,(ac : Int).toNat,none⟩ (.int .i64 ah))) ?hg ?ho ?hn ?hr ?_;(case ho=>rfl);(case hg=>rfl);(case hn=>rfl);(case hr=>first|(go_simp;done)|(go_simp;rfl));intro w35 hw;have hg : wr.grownBy w35 (some ai):=(by rw [hw];exact aC.2);have hp_ : Kd.R (Kd.int .i64) 2 w35 w.heap.size (fun _=>True) (.slice (some ⟨ai,0,none⟩) ag.length az) ay:=(by rw [hw,aI.out];exact aC.1);clear aC;replace aa:=zm (hp_);replace HB:=zm ((by rw [hw];exact zk (HB.out) aG.out : Below w.heap.size w w35));clear hg hw hp_;have hcl:=(HB.out.cell (zb w _ HCL.out)).trans HCL.out;have al : 0≤((ap) : Int):=yt;have am : (ap) < (l2.length : Int):=yt;obtain ⟨aT,aD,af⟩:=Kd.at_int HR2.out (ap) al am;cases aD;replace af:=yhx HB af;replace al:=eq_true al;replace am:=eq_true am));try go_wp2_with (first|((with_reducible refine gate_store (t:=2) (p:=56) rfl ?_);(try (rw [drewN_self wr];generalize hq_ : World.drewN wr _=wr;have n0_:=zm (Kd.R_at hq_ aa.out);have n1_:=zm (below_at hq_ HB.out);clear hq_ aa HB;have aa:=n0_;have HB:=n1_;clear n0_ n1_;(try (have aC:=Kd.R_putg aa.out (ac : Int) ah))));refine store_event (t:=2) (p:=56) (v := ?vo_w35) (w1:=(wr.setCell ⟨ai,(ac : Int).toNat,none⟩ (.int .i64 ah))) ?hg ?ho ?hn ?hr ?_;(case ho=>rfl);(case hg=>rfl);(case hn=>rfl);(case hr=>first|(go_simp;done)|(go_simp;rfl));intro w35 hw;have hg : wr.grownBy w35 (some ai):=(by rw [hw];exact aC.2);have hp_ : Kd.R (Kd.int .i64) 2 w35 w.heap.size (fun _=>True) (.slice (some ⟨ai,0,none⟩) ag.length az) ay:=(by rw [hw,aI.out];exact aC.1);clear aC;replace aa:=zm (hp_);replace HB:=zm ((by rw [hw];exact zk (HB.out) aG.out : Below w.heap.size w w35));clear hg hw hp_;have hcl:=(HB.out.cell (zb w _ HCL.out)).trans HCL.out;have al : 0≤((ap) : Int):=yt;have am : (ap) < (l2.length : Int):=yt;obtain ⟨aT,aD,af⟩:=Kd.at_int HR2.out (ap) al am;cases aD;replace af:=yhx HB af;replace al:=eq_true al;replace am:=eq_true am)))
      (try simp only [← ak])
      go_roundg k2
      case measure=>exact yom2 aZ HK2
      case rel=>exact ⟨(ay),(wrap64 (ac+1)),yq,H',⟨yom2 aZ HK2⟩,⟨by (try simp only [ak]);(with_reducible repeat (first|apply zo|apply zp|apply zq));exact aa.out⟩,⟨yhb⟩⟩
     rw [if_neg c20] at H
     have bx:=yG c20
     have c20x0 : decide (ac < (ag.length : Int))=false:=by rw [← ak];exact bx
     clear c20
     have H' := zm H
     clear H
     go_wp2
     repeat (go_quiet (fail);try go_wp2)
     (try simp only [← ak])
     go_meet
     case rel=>exact ⟨_,(ag),H',⟨yom2 aZ HK2⟩,⟨by (try simp only [ak]);(with_reducible repeat (first|apply zo|apply zp|apply zq));exact aa.out⟩,⟨yhb⟩⟩
   replace c16:=Bool.eq_false_iff.mpr c16
   subst c16
   rw [ynf] at H
   have H' := zm H
   clear H
   go_wp2
   repeat (go_quiet (fail);try go_wp2)
   go_meet
   case rel=>exact ⟨_,(av),H',⟨yom1 aZ⟩,⟨yr aa⟩,⟨yhb⟩⟩
 case rest =>
  clear HC7
  try clear c2
  try clear bM
  try clear bN
  try clear bO
  try clear bP
  obtain ⟨kq,aN,HA,HJ6,aa,HB⟩:=hcut
  obtain ⟨kj6,rfl⟩:=ysu kq (fun h=>by subst h;exact absurd HA.out (by simp [ccodec_next.j2]))
  have H:=HA.out;clear HA
  simp only [ccodec_next.j2] at H
  have H' := zm H
  clear H
  obtain ⟨bY,bw,bZ⟩:=Kd.R_slice aa.out
  subst bZ
  go_wp2
  repeat (go_quiet (fail);try go_wp2)
  go_loopg [73] kj6 (fun kq v73 w' => ∃ (ag : List Int) (ae : Int),v73=.int .i64 ae∧Aside0 (ccodec_next.l1 kq ag (aN.length : Int) ae=some r)∧Aside0 (kq≤kj6)∧Aside0 (Kd.R (Kd.int .i64) 2 w' w.heap.size (fun _=>True) (.slice bY aN.length bw) ag)∧Aside0 (Below w.heap.size w w'))
  case atStart=>exact ⟨(aN),(0),yq,H',⟨Nat.le_refl _⟩,⟨yr aa⟩,⟨yhb⟩⟩
  case round =>
   clear H'
   obtain ⟨ag,ae,rfl,HA,HK2,aa,HB⟩:=hrel
   have ak:=(Kd.R_reads' aa.out).1
   rw [ak] at aa
   (try simp only [ak])
   obtain ⟨k2,rfl⟩:=ysu gk (fun h=>by subst h;exact absurd HA.out (by simp [ccodec_next.l1]))
   have H:=HA.out;clear HA
   simp only [ccodec_next.l1] at H
   by_cases c37 : ae < (aN.length : Int)
   ·
    rw [if_pos c37] at H
    have bA:=yD c37
    clear c37
    replace H:=yif H;obtain ⟨c38,H⟩:=H
    have ce : decide (0≤ae)=true:=decide_eq_true c38
    clear c38
    replace H:=yif H;obtain ⟨c39,H⟩:=H
    have cf : decide (ae < (ag.length : Int))=true:=decide_eq_true c39
    clear c39
    replace H:=ybi H;obtain ⟨au,A40,H⟩:=H
    obtain ⟨bn,bo⟩ : ∃ y_ : List Int,y_=(ag.set (ae : Int).toNat au):=⟨_,rfl⟩
    replace H : (ccodec_next.l1 k2 bn (aN.length : Int) (wrap64 (ae+1)))=some r:=yrw bo H
    have bp:=zm bo;clear bo
    have H' := zm H
    clear H
    have bJ : 0≤(ae : Int):=yt
    have bK : ae < (ag.length : Int):=yt
    obtain ⟨cg,b4,aK⟩:=Kd.at_int (Kd.R_reads' aa.out).2.2 ae bJ bK
    cases b4
    replace bJ:=eq_true bJ
    replace bK:=eq_true bK
    go_wp2_with (first|(go_at_call 95;(with_reducible refine (num_Clamp.calls (rd ag ae) (-1048576) 1048576 au _ A40.out).mono ?_);rintro e w' ⟨rfl,⟨nd,rfl⟩⟩;(try exact yww);have p41 : 0≤(ae : Int):=yt;have q41 : (ae : Int) < ((ag.length : Int) : Int):=yt;obtain ⟨aE,bS,aV,aW,bq,bT,aX⟩:=Kd.R_form aa.out (by omega);(first|cases aV|(injection aV with ea_ en_ ec_;(first|subst ea_|(injection ea_ with ea_;subst ea_));subst ec_;clear en_));have br:=zm aW;have bU:=zm aX;clear aW bq aX;(first|simp only [add_plain] at aK|skip);obtain ⟨bs,bu⟩:=Kd.R_celln 0 aa.out (ae : Int) p41 q41;replace p41:=eq_true p41;replace q41:=eq_true q41;obtain ⟨aY,hz42_⟩:=Kd.R_celln 0 aa.out (ae : Int) (yt) (yt);have ax:=Kd.R_putg aa.out (ae : Int) au)|((with_reducible refine gate_store (t:=2) (p:=82) rfl ?_);(try (rw [drewN_self wr];generalize hq_ : World.drewN wr _=wr;have n0_:=zm (Kd.R_at hq_ aa.out);have n1_:=zm (below_at hq_ HB.out);clear hq_ aa HB;have aa:=n0_;have HB:=n1_;clear n0_ n1_;(try (obtain ⟨aY,hz42_⟩:=Kd.R_celln 0 aa.out (ae : Int) (yt) (yt)));(try (have ax:=Kd.R_putg aa.out (ae : Int) au))));refine store_event (t:=2) (p:=82) (v := ?vo_w43) (w1:=(wr.setCell ⟨aE,(ae : Int).toNat,none⟩ (.int .i64 au))) ?hg ?ho ?hn ?hr ?_;(case ho=>rfl);(case hg=>rfl);(case hn=>rfl);(case hr=>first|(go_simp;done)|(go_simp;rfl));intro w43 hw;have hg : wr.grownBy w43 (some aE):=(by rw [hw];exact ax.2);have hp_ : Kd.R (Kd.int .i64) 2 w43 w.heap.size (fun _=>True) (.slice (some ⟨aE,0,none⟩) ag.length bw) bn:=(by rw [hw,bp.out];exact ax.1);clear ax;replace aa:=zm (hp_);replace HB:=zm ((by rw [hw];exact zk (HB.out) br.out : Below w.heap.size w w43));clear hg hw hp_))
    repeat (go_quiet (first|(go_at_call 95;(with_reducible refine (num_Clamp.calls (rd ag ae) (-1048576) 1048576 au _ A40.out).mono ?_);rintro e w' ⟨rfl,⟨nd,rfl⟩⟩;(try exact yww);have p41 : 0≤(ae : Int):=yt;have q41 : (ae : Int) < ((ag.length : Int) : Int):=yt;obtain ⟨aE,bS,aV,aW,bq,bT,aX⟩:=Kd.R_form aa.out (by omega);(first|cases aV|(injection aV with ea_ en_ ec_;(first|subst ea_|(injection ea_ with ea_;subst ea_));subst ec_;clear en_));have br:=zm aW;have bU:=zm aX;clear aW bq aX;(first|simp only [add_plain] at aK|skip);obtain ⟨bs,bu⟩:=Kd.R_celln 0 aa.out (ae : Int) p41 q41;replace p41:=eq_true p41;replace q41:=eq_true q41;obtain ⟨aY,hz42_⟩:=Kd.R_celln 0 aa.out (ae : Int) (yt) (yt);have ax:=Kd.R_putg aa.out (ae : Int) au)|((with_reducible refine gate_store (t:=2) (p:=82) rfl ?_);(try (rw [drewN_self wr];generalize hq_ : World.drewN wr _=wr;have n0_:=zm (Kd.R_at hq_ aa.out);have n1_:=zm (below_at hq_ HB.out);clear hq_ aa HB;have aa:=n0_;have HB:=n1_;clear n0_ n1_;(try (obtain ⟨aY,hz42_⟩:=Kd.R_celln 0 aa.out (ae : Int) (yt) (yt)));(try (have ax:=Kd.R_putg aa.out (ae : Int) au))));refine store_event (t:=2) (p:=82) (v := ?vo_w43) (w1:=(wr.setCell ⟨aE,(ae : Int).toNat,none⟩ (.int .i64 au))) ?hg ?ho ?hn ?hr ?_;(case ho=>rfl);(case hg=>rfl);(case hn=>rfl);(case hr=>first|(go_simp;done)|(go_simp;rfl));intro w43 hw;have hg : wr.grownBy w43 (some aE):=(by rw [hw];exact ax.2);have hp_ : Kd.R (Kd.int .i64) 2 w43 w.heap.size (fun _=>True) (.slice (some ⟨aE,0,none⟩) ag.length bw) bn:=(by rw [hw,bp.out];exact ax.1);clear ax;replace aa:=zm (hp_);replace HB:=zm ((by rw [hw];exact zk (HB.out) br.out : Below w.heap.size w w43));clear hg hw hp_));try go_wp2_with (first|(go_at_call 95;(with_reducible refine (num_Clamp.calls (rd ag ae) (-1048576) 1048576 au _ A40.out).mono ?_);rintro e w' ⟨rfl,⟨nd,rfl⟩⟩;(try exact yww);have p41 : 0≤(ae : Int):=yt;have q41 : (ae : Int) < ((ag.length : Int) : Int):=yt;obtain ⟨aE,bS,aV,aW,bq,bT,aX⟩:=Kd.R_form aa.out (by omega);(first|cases aV|(injection aV with ea_ en_ ec_;(first|subst ea_|(injection ea_ with ea_;subst ea_));subst ec_;clear en_));have br:=zm aW;have bU:=zm aX;clear aW bq aX;(first|simp only [add_plain] at aK|skip);obtain ⟨bs,bu⟩:=Kd.R_celln 0 aa.out (ae : Int) p41 q41;replace p41:=eq_true p41;replace q41:=eq_true q41;obtain ⟨aY,hz42_⟩:=Kd.R_celln 0 aa.out (ae : Int) (yt) (yt);have ax:=Kd.R_putg aa.out (ae : Int) au)|((with_reducible refine gate_store (t:=2) (p:=82) rfl ?_);(try (rw [drewN_self wr];generalize hq_ : World.drewN wr _=wr;have n0_:=zm (Kd.R_at hq_ aa.out);have n1_:=zm (below_at hq_ HB.out);clear hq_ aa HB;have aa:=n0_;have HB:=n1_;clear n0_ n1_;(try (obtain ⟨aY,hz42_⟩:=Kd.R_celln 0 aa.out (ae : Int) (yt) (yt)));(try (have ax:=Kd.R_putg aa.out (ae : Int) au))));refine store_event (t:=2) (p:=82) (v := ?vo_w43) (w1:=(wr.setCell ⟨aE,(ae : Int).toNat,none⟩ (.int .i64 au))) ?hg ?ho ?hn ?hr ?_;(case ho=>rfl);(case hg=>rfl);(case hn=>rfl);(case hr=>first|(go_simp;done)|(go_simp;rfl));intro w43 hw;have hg : wr.grownBy w43 (some aE):=(by rw [hw];exact ax.2);have hp_ : Kd.R (Kd.int .i64) 2 w43 w.heap.size (fun _=>True) (.slice (some ⟨aE,0,none⟩) ag.length bw) bn:=(by rw [hw,bp.out];exact ax.1);clear ax;replace aa:=zm (hp_);replace HB:=zm ((by rw [hw];exact zk (HB.out) br.out : Below w.heap.size w w43));clear hg hw hp_)))
    (try simp only [← ak])
    go_roundg k2
    case measure=>exact yom2 HJ6 HK2
    case rel=>exact ⟨(bn),(wrap64 (ae+1)),yq,H',⟨yom2 HJ6 HK2⟩,⟨by (try simp only [ak]);(with_reducible repeat (first|apply zo|apply zp|apply zq));exact aa.out⟩,⟨yhb⟩⟩
   rw [if_neg c37] at H
   have bA:=yG c37
   have c37x0 : decide (ae < (ag.length : Int))=false:=by rw [← ak];exact bA
   clear c37
   obtain rfl:=Option.some.inj H
   have hcl:=(HB.out.cell (zb w _ HCL.out)).trans HCL.out
   have hfz:=zx (zF HS.out HB.out) 0
   go_wp2
   repeat (go_quiet (fail);try go_wp2)
   go_ret
   exact ⟨_,ye,zG (zH (zG (Kd.R_bound aa.out) (fun k_ hk=>hk.2.1)) (p:=⟨B,0,none⟩) (fun k_ hk e_=>by rw [e_] at hk;exact Nat.lt_irrefl _ (zl (zD HS.out) hk)) _) (fun _ _=>trivial),Kept.setCell (Kept.of_below HB.out (fun k_=>k_=B)) (.inl rfl) _,Below.setCell (Below.mono HB.out (Nat.le_of_lt (zD HS.out))) (Nat.le_refl _) _,blk_set (zF HS.out HB.out) 0 _⟩
mutual
def ccodec_Decode.l0 : Nat→List (List (List Int))→Int→Int→Bool→List (List Int)→List (List (List Int))→List (List Int)→Option ((List (List Int)) × Int)
 | 0,_,_,_,_,_,_,_=>none
 | k+1,x22,x23,x24,aC,au,aD,aw=>if x24 < x23 then (if 0≤x24 then (if x24 < (x22.length : Int) then (ccodec_Decode.l1 k x24 ([] : List Int) ([] : List Int) x22 x23 x24 (rd_L4 x22 x24) ((rd_L4 x22 x24).length : Int) 0 aC au aD aw) else (none)) else (none)) else (some (aw,0))
def ccodec_Decode.l1 : Nat→Int→List Int→List Int→List (List (List Int))→Int→Int→List (List Int)→Int→Int→Bool→List (List Int)→List (List (List Int))→List (List Int)→Option ((List (List Int)) × Int)
 | 0,_,_,_,_,_,_,_,_,_,_,_,_,_=>none
 | k+1,x9,x11,x12,x22,x23,x24,x30,x31,x32,aC,au,aD,aw=>if x32 < x31 then (if 0≤x32 then (if x32 < (x30.length : Int) then (if 0≤x9 then (if x9 < (au.length : Int) then (if x32 < ((rd_L2 au x9).length : Int) then ((ccodec_next.f k (rd_L2 x30 x32) (rd (rd_L2 au x9) x32) x11).bind fun aA=>(if x12.length+aA.length < 17592186044416 then (ccodec_Decode.l1 k x9 aA (x12 ++ aA) x22 x23 x24 x30 x31 (wrap64 (x32+1)) aC au aD aw) else (none))) else (none)) else (none)) else (none)) else (none)) else (none)) else (if aw.length < 5864062014805 then (ccodec_Decode.l0 k x22 x23 (wrap64 (x24+1)) aC au aD (aw ++ [x12])) else (none))
end
def ccodec_Decode.f (k : Nat) (a0 : Int) (a1 : Int) (av : Bool) (ak : List (List Int)) (ag : List (List (List Int))) : Option ((List (List Int)) × Int):=(cpack_Right.f k a0 a1 av ak ag).bind fun bD=>(if bD=true then (ccodec_Decode.l0 k ag (ag.length : Int) 0 av ak ag ([] : List (List Int))) else (some (([] : List (List Int)),1)))
theorem ccodec_Decode.mono_l : ∀ k,(∀ y0 y1 y2 y3 y4 y5 y6,LeO (ccodec_Decode.l0 k y0 y1 y2 y3 y4 y5 y6) (ccodec_Decode.l0 (k+1) y0 y1 y2 y3 y4 y5 y6))∧(∀ y0 y1 y2 y3 y4 y5 y6 y7 y8 y9 y10 y11 y12,LeO (ccodec_Decode.l1 k y0 y1 y2 y3 y4 y5 y6 y7 y8 y9 y10 y11 y12) (ccodec_Decode.l1 (k+1) y0 y1 y2 y3 y4 y5 y6 y7 y8 y9 y10 y11 y12))
 | 0=>⟨fun _ _ _ _ _ _ _ r h=>by simp [ccodec_Decode.l0] at h,fun _ _ _ _ _ _ _ _ _ _ _ _ _ r h=>by simp [ccodec_Decode.l1] at h⟩
 | k+1=>by
  obtain ⟨ih0,ih1⟩:=ccodec_Decode.mono_l k
  refine ⟨?_, ?_⟩
  ·
   intro y0 y1 y2 y3 y4 y5 y6
   unfold ccodec_Decode.l0
   repeat' with_reducible first|apply ih0|apply ih1|apply ccodec_next.mono|apply cpack_Right.mono|apply yLr|apply yLn|apply yLi|apply yLb|intro _
  intro y0 y1 y2 y3 y4 y5 y6 y7 y8 y9 y10 y11 y12
  unfold ccodec_Decode.l1
  repeat' with_reducible first|apply ih0|apply ih1|apply ccodec_next.mono|apply cpack_Right.mono|apply yLr|apply yLn|apply yLi|apply yLb|intro _
theorem ccodec_Decode.mono : ∀ a0 a1 a2 a3 a4 k,LeO (ccodec_Decode.f k a0 a1 a2 a3 a4) (ccodec_Decode.f (k+1) a0 a1 a2 a3 a4):=by
 intro a0 a1 a2 a3 a4 k
 obtain ⟨ih0,ih1⟩:=ccodec_Decode.mono_l k
 unfold ccodec_Decode.f
 repeat' with_reducible first|apply ih0|apply ih1|apply ccodec_next.mono|apply cpack_Right.mono|apply yLr|apply yLn|apply yLi|apply yLb|intro _
/-- The closure, made: its variable is a block of its own. -/
theorem ccodec_bands.calls (w : World) : Calls Try.prog 64 #[] w fun e w' => ∃ B,e=.returned (.func (.func 101) #[] #[.pointer (some ⟨B,0,none⟩)])∧w.heap.size≤B∧w'.heap[B]? = some (.cells #[.slice none 0 0] 53 (0,0))∧Below w.heap.size w w' := by
 have hmf : ∀ (fn : Fn) (first cap : Array Value) (w : World),(Instr.makeFunc fn first cap).run Try.prog w=.ok (.func fn first cap) w:=fun _ _ _ _=>rfl
 go_enter Try.func64,Try.ntmps64
 go_wp2_with (first|((with_reducible refine gate_dst (N:=1) rfl ?_);refine ybx 1 #[.slice none 0 0] 53 ?_;intro gb hg w5 hbox hb))
 go_ret
 exact ⟨gb,by first|rfl|(simp;done),by rw [hg];exact Nat.le_refl _,hbox,hb⟩
/-- Rows over a call that writes one block, which is none of theirs. -/
theorem ccodec_Decode.R_el {α : Type} {d : Kd α} {e base B : Nat} {ok : Nat→Prop} {W w1 : World} {u v : Value} {xs : List α} (h : d.R e W base (fun k=>ok k∧k≠B) v xs) (hk : Kept W w1 (fun k=>k=B)) (hb : ∀ k,u.ownBlock=some k→W.heap.size≤k) : d.R e w1 base (fun k=>ok k∧some k≠u.ownBlock) v xs :=
 zG (Kd.R_keptB h hk (fun _ hk=>hk.2)) (fun k hk=>⟨hk.1.1,fun e_=>Nat.not_le.2 hk.2.2 (hb k e_.symm)⟩)
theorem ccodec_Decode.S_el {α : Type} {d : Kd α} {e base B : Nat} {ok : Nat→Prop} {W w1 : World} {u v : Value} {xs : List α} (h : Kd.S d e W base ok v xs) (hne : ∀ k,ok k→k≠B) (hk : Kept W w1 (fun k=>k=B)) (hb : ∀ k,u.ownBlock=some k→W.heap.size≤k) : Kd.S d e w1 base (fun k=>ok k∧some k≠u.ownBlock) v xs :=
 Kd.S_mono (Kd.S_keptB h hk hne) (fun k hk=>⟨hk.1,fun e_=>Nat.not_le.2 hk.2.2 (hb k e_.symm)⟩)
set_option maxHeartbeats 8000000 in
set_option maxRecDepth 100000 in
theorem ccodec_Decode.calls (k : Nat) (a0 : Int) (a1 : Int) (av : Bool) (aM : Option Addr) (aN : Nat) (ak : List (List Int)) (aV : Option Addr) (aQ : Nat) (ag : List (List (List Int))) (r1 : List (List Int)) (r2 : Int) (w : World) (hr2_1 : Kd.C (Kd.slice 3 (Kd.int .i64)) w aM ak.length ak) (hc2_1 : ak.length≤aN) (hr2_2 : Kd.C (Kd.slice 55 (Kd.slice 3 (Kd.int .i64))) w aV ag.length ag) (hc2_2 : ag.length≤aQ) (h : ccodec_Decode.f k a0 a1 av ak ag=some (r1,r2)) :
  Calls Try.prog 23 #[.int .i64 a0, .int .i64 a1, .agg #[.bool av, .slice aM ak.length aN, .slice aV ag.length aQ]] w fun e w' => ∃ v0_ : Value,e=.returned (.tuple #[.agg #[v0_], .int .i64 r2])∧Kd.S (Kd.slice 2 (Kd.int .i64)) 53 w' w.heap.size (fun _=>True) v0_ r1∧Below w.heap.size w w' := by
 have hu31:=Try.underlying31;have hu24:=Try.underlying24;have bd:=zm hr2_1;have bz:=zm hc2_1;clear hr2_1 hc2_1;have bf:=zm hr2_2;have bA:=zm hc2_2;clear hr2_2 hc2_2;have HB:=zm (Below.refl w.heap.size w);have H:=h
 unfold ccodec_Decode.f at H
 clear h
 replace H:=ybi H;obtain ⟨bD,A4,H⟩:=H
 by_cases c5 : bD=true
 ·
  subst c5
  rw [if_pos rfl] at H
  have H' := zm H
  clear H
  go_enter Try.func23,Try.ntmps23
  go_wp2_with (first|((with_reducible refine gate_dst (N:=5) rfl ?_);refine ybx 5 #[.bool av, .slice aM ak.length aN, .slice aV ag.length aQ] 31 ?_;intro aW hg w6 hbox hb;have ac:=zm (hbox);have bT:=ygw hg;have bU:=ygw hg;replace HB:=ybs hb;clear hb hbox hg)|((with_reducible refine gate_dst (N:=6) rfl ?_);refine ybx 6 #[.slice none 0 0] 24 ?_;intro aH hg w7 hbox hb;have ae:=zm (hbox);have bV:=ygw hg;have bW:=ygw hg;replace HB:=ybs hb;have am:=ynl ac hg;have ao:=yng ac hg;replace ac:=ybb ac hb;clear hb hbox hg;have:=am.out;have:=ao.out;obtain ⟨bE,bF,bG,bH,bI,bJ⟩:=yc3 ac)|((with_reducible refine gate_callee (f:=17) rfl ?_);refine ygl 18 Try.func17 #[.int .i64 a0, .int .i64 a1, .agg #[.bool av, .slice aM ak.length aN, .slice aV ag.length aQ]] ?_;(with_reducible refine (cpack_Right.calls k a0 a1 av _ _ ak _ _ ag true _ ?aT bz.out ?aU bA.out A4.out).mono ?_);(case aT=>exact ycb bd);(case aU=>exact ycb bf);rintro e w10 ⟨rfl,hb⟩;refine ⟨_,rfl, ?_⟩;replace ac:=ybb ac hb;replace ae:=ybb ae hb;replace HB:=ybs hb;(try clear hb))|((with_reducible refine gate_dst (N:=8) rfl ?_);refine ybx 8 #[.slice none 0 0] 24 ?_;intro bg hg w11 hbox hb;have ah:=zm (hbox);have cA:=ygw hg;have cB:=ygw hg;replace HB:=ybs hb;have ax:=ynl ac hg;have ay:=yng ac hg;replace ac:=ybb ac hb;have aI:=ynl ae hg;have aJ:=yng ae hg;replace ae:=ybb ae hb;clear hb hbox hg;have:=ax.out;have:=ay.out;obtain ⟨bj,bk,bl,bm,bn,bo⟩:=yc3 ac))
  go_loopg [24] k (fun kq v24 w' => ∃ (af : Int) (ai : List (List Int)) (al : Value),v24=.int .i64 af∧Aside0 (ccodec_Decode.l0 kq ag (ag.length : Int) af av ak ag ai=some (r1,r2))∧Aside0 (kq≤k)∧Aside0 (Kd.S (Kd.slice 2 (Kd.int .i64)) 53 w' w.heap.size (fun _=>True) al ai)∧Aside0 (w'.heap[aW]? = some (.cells #[.bool av,(.slice aM ak.length aN),(.slice aV ag.length aQ)] 31 (0,0)))∧Aside0 (w'.heap[aH]? = some (.cells #[(.slice none 0 0)] 24 (0,0)))∧Aside0 (w'.heap[bg]? = some (.cells #[al] 24 (0,0)))∧Aside0 (Below w.heap.size w w'))
  case atStart=>exact ⟨(0),(([] : List (List Int))),(.slice none 0 0),yq,H',⟨Nat.le_refl _⟩,⟨yn⟩,⟨yk ac⟩,⟨yk ae⟩,⟨yk ah⟩,⟨yhb⟩⟩
  case round =>
   clear H'
   try clear bj
   try clear bk
   try clear bl
   try clear bE
   try clear bF
   try clear bG
   try clear bm
   try clear bn
   try clear bo
   try clear bH
   try clear bI
   try clear bJ
   obtain ⟨af,ai,al,rfl,HA,HK1,aa,ac,ae,ah,HB⟩:=hrel
   obtain ⟨k1,rfl⟩:=ysu gk (fun h=>by subst h;exact absurd HA.out (by simp [ccodec_Decode.l0]))
   have H:=HA.out;clear HA
   simp only [ccodec_Decode.l0] at H
   by_cases c14 : af < (ag.length : Int)
   ·
    rw [if_pos c14] at H
    have bB:=yD c14
    clear c14
    replace H:=yif H;obtain ⟨c15,H⟩:=H
    have bX : decide (0≤af)=true:=decide_eq_true c15
    clear c15
    replace H:=yif H;obtain ⟨c16,H⟩:=H
    have bY : decide (af < (ag.length : Int))=true:=decide_eq_true c16
    clear c16
    have H' := zm H
    clear H
    have bp : 0≤(af : Int):=yt
    have bq : af < (ag.length : Int):=yt
    obtain ⟨bZ,cg,ch,ci,aK,aX,aY⟩:=at_L4 bf.out af bp bq
    cases ci
    replace aK:=yhx HB aK
    have br:=zm aY;have ce:=zm aX;clear aY aX
    replace bp:=eq_true bp
    replace bq:=eq_true bq
    go_wp2_with (first|((with_reducible refine gate_callee (f:=64) rfl ?_);refine goesL_ (some 29) rfl rfl Try.func64 (by kernel_rfl) rfl #[] rfl (by first|rfl|simp) ?_;(with_reducible refine (ccodec_bands.calls _).mono ?_);rintro e w9 ⟨B,rfl,hB9,hs9,hb⟩;refine ⟨_,rfl, ?_⟩;have n0_:=zm (Kd.S_below (by (with_reducible repeat (first|apply Kd.S_alloc|apply Kd.S_drewN|apply Kd.S_drew));exact Kd.S_elderB aa.out B hB9) hb);have n1_:=ybb ac hb;have n2_:=ybb ae hb;have n3_:=ybb ah hb;have n4_:=ybs hb;have HBW:=zm (show w.heap.size≤B from Nat.le_trans (zE HB.out) hB9);clear aa ac ae ah HB;have aa:=n0_;have ac:=n1_;have ae:=n2_;have ah:=n3_;have HB:=n4_;clear n0_ n1_ n2_ n3_ n4_;have HS:=zm hs9;clear hs9 hB9 hb))
    go_loopg [12,32] k1 (fun kq v12 v32 w' => ∃ (aE : List Int) (v11 : Value) (az : List Int) (aj : Int),v32=.int .i64 aj∧Aside0 (ccodec_Decode.l1 kq af aE az ag (ag.length : Int) af (rd_L4 ag af) ((rd_L4 ag af).length : Int) aj av ak ag ai=some (r1,r2))∧Aside0 (kq≤k1)∧Aside0 (Kd.R (Kd.int .i64) 2 w' w.heap.size (fun k_=>some k_≠(v12 : Value).ownBlock) v11 aE)∧Aside0 (Kd.R (Kd.int .i64) 2 w' w.heap.size (fun k_=>some k_≠(v11 : Value).ownBlock) v12 az)∧Aside0 (Kd.S (Kd.slice 2 (Kd.int .i64)) 53 w' w.heap.size (fun k_=>(some k_≠(v11 : Value).ownBlock∧k_≠B)∧some k_≠(v12 : Value).ownBlock) al ai)∧Aside0 (w'.heap[aW]? = some (.cells #[.bool av,(.slice aM ak.length aN),(.slice (some bZ) ag.length aQ)] 31 (0,0)))∧Aside0 (w'.heap[aH]? = some (.cells #[(.slice none 0 0)] 24 (0,0)))∧Aside0 (w'.heap[bg]? = some (.cells #[al] 24 (0,0)))∧Aside0 (w'.heap[B]? = some (.cells #[v11] 53 (0,0)))∧Aside0 (Below w.heap.size w w'))
    case atStart=>exact ⟨(([] : List Int)),(.slice none 0 0),(([] : List Int)),(0),yq,H',⟨Nat.le_refl _⟩,⟨yn⟩,⟨yn⟩,⟨yS0 aa⟩,⟨yk ac⟩,⟨yk ae⟩,⟨yk ah⟩,⟨yk HS⟩,⟨yhb⟩⟩
    case round =>
     clear H'
     try clear bB
     try clear bX
     try clear bY
     try clear aK
     try clear bp
     try clear bq
     obtain ⟨aE,u11,az,aj,rfl,HA,HK2,ap,aq,aa,ac,ae,ah,HS,HB⟩:=hrel
     obtain ⟨k2,rfl⟩:=ysu gk (fun h=>by subst h;exact absurd HA.out (by simp [ccodec_Decode.l1]))
     have H:=HA.out;clear HA
     simp only [ccodec_Decode.l1] at H
     by_cases c17 : aj < ((rd_L4 ag af).length : Int)
     ·
      rw [if_pos c17] at H
      have b4:=yD c17
      clear c17
      replace H:=yif H;obtain ⟨c18,H⟩:=H
      have cC : decide (0≤aj)=true:=decide_eq_true c18
      clear c18
      replace H:=yif H;obtain ⟨c19,H⟩:=H
      have cD : decide (aj < ((rd_L4 ag af).length : Int))=true:=decide_eq_true c19
      clear c19
      replace H:=yif H;obtain ⟨c20,H⟩:=H
      have cE : decide (0≤af)=true:=decide_eq_true c20
      clear c20
      replace H:=yif H;obtain ⟨c21,H⟩:=H
      have cF : decide (af < (ak.length : Int))=true:=decide_eq_true c21
      clear c21
      replace H:=yif H;obtain ⟨c22,H⟩:=H
      have cG : decide (aj < ((rd_L2 ak af).length : Int))=true:=decide_eq_true c22
      clear c22
      replace H:=ybi H;obtain ⟨aA,A23,H⟩:=H
      replace H:=yif H;obtain ⟨c24,H⟩:=H
      have LMc24:=zm c24;clear c24
      obtain ⟨b5,bh⟩ : ∃ y_ : List Int,y_=(az ++ aA):=⟨_,rfl⟩
      replace H : (ccodec_Decode.l1 k2 af aA b5 ag (ag.length : Int) af (rd_L4 ag af) ((rd_L4 ag af).length : Int) (wrap64 (aj+1)) av ak ag ai)=some (r1,r2):=yrw bh H
      have b6:=zm bh;clear bh
      have H' := zm H
      clear H
      have bK : 0≤(aj : Int):=yt
      have bL : aj < ((rd_L4 ag af).length : Int):=yt
      obtain ⟨cH,cj,ck,cl,aZ,a7,a8⟩:=at_L2 br.out aj bK bL
      cases cl
      replace aZ:=yhx HB aZ
      have bs:=zm a8;have bu:=zm a7;clear a8 a7
      replace bK:=eq_true bK
      replace bL:=eq_true bL
      have:=am.out
      have:=ao.out
      have:=ax.out
      have:=ay.out
      obtain ⟨_,_,_,_,_,_⟩:=yc3 ac
      have bM : 0≤(af : Int):=yt
      have bN : af < (ak.length : Int):=yt
      obtain ⟨cI,cm,cn,co,a9,ba,bb⟩:=at_L2 bd.out af bM bN
      cases co
      replace a9:=yhx HB a9
      have bv:=zm bb;have cf:=zm ba;clear bb ba
      replace bM:=eq_true bM
      replace bN:=eq_true bN
      have bO : 0≤(aj : Int):=yt
      have bP : aj < ((rd_L2 ak af).length : Int):=yt
      obtain ⟨cJ,cp,bc⟩:=Kd.at_int bv.out aj bO bP
      cases cp
      replace bc:=yhx HB bc
      replace bO:=eq_true bO
      replace bP:=eq_true bP
      obtain ⟨bw,bx,cq⟩:=Kd.R_slice ap.out
      subst cq
      go_wp2_with (first|(go_at_call 101;(with_reducible refine (ccodec_next.calls k2 B _ _ (rd_L2 (rd_L4 ag af) aj) (rd (rd_L2 ak af) aj) bw bx aE aA _ ?aT bu.out ?aU ?b7 HS.out A23.out).mono ?_);(case aT=>exact ycb bs);(case aU=>exact yce (Kd.R_reads' ap.out).2.2);(case b7=>exact (Kd.R_reads' ap.out).2.1);rintro e w29 ⟨cK,rfl,ho0,hkp,hb,hs9⟩;replace aa:=zm (ccodec_Decode.S_el aa.out (fun _ hk_=>hk_.1.2) hkp (Kd.R_base ho0));have aG:=zm (Kd.R_lower (Kd.R_new' (Kd.R_new' ho0 (Kd.R_lt (yr ap))) (Kd.R_lt (yr aq))) (zE yhb));replace ap:=zm (ccodec_Decode.R_el (Kd.R_types ap.out HS.out (by decide)) hkp (Kd.R_base ho0));replace aq:=zm (ccodec_Decode.R_el (Kd.R_types aq.out HS.out (by decide)) hkp (Kd.R_base ho0));replace ac:=zm (blk_kept (g:=aW) ac.out hkp (blk_ne ac.out HS.out (by decide)));replace ae:=zm (blk_kept (g:=aH) ae.out hkp (blk_ne ae.out HS.out (by decide)));replace ah:=zm (blk_kept (g:=bg) ah.out hkp (blk_ne ah.out HS.out (by decide)));replace HB:=zm (Below.trans yhb (Below.mono hb HBW.out));(try clear hb);(try clear ho0);clear HS hkp;have HS:=zm hs9;clear hs9;obtain ⟨bQ,bR,cr⟩:=Kd.R_slice aG.out;subst cr)|((with_reducible refine gate_builtin (b:=.append) (xs := #[.tmp 37, .tmp 48]) rfl ?_);at_builtin;refine Kd.R_append_rows (Kd.int .i64) (w0:=w) w.heap.size rfl (.tmp 37) (.tmp 48) 53 2 (.int .i64 0) 8 rfl Try.underlying53 info2 rfl (by decide) (by omega) u12 az aA _ _ _ (fun k_=>some k_≠(.slice bw aE.length bx : Value).ownBlock∧some k_≠(.slice bQ aA.length bR : Value).ownBlock) (fun _=>False) rfl rfl ?aO ?aR (fun _ _ h=>h) (fun _ h=>h.elim) ?aF ?aB ?aS ?aL ?_;(case aR=>exact yce (Kd.R_reads' aG.out).2.2);(case aB=>exact yhb);(case aF=>exact (fun k_ hk=>⟨Kd.fresh' (Kd.R_lt (yr ap)) k_ hk,Kd.fresh' (Kd.R_lt (yr aG)) k_ hk⟩));(case aO=>exact (yr aq));(case aS=>exact (zE yhb));(case aL=>have:=LMc24.out;omega);intro cL w30 ho hb hg hat;rw [← b6.out] at ho;have n0_:=zm (Kd.R_after (ok:=(fun k_=>some k_≠(.slice bQ aA.length bR : Value).ownBlock)) (yR0 ap) hg hat);have n1_:=zm (Kd.S_after (ok:=(fun k_=>(some k_≠(.slice bw aE.length bx : Value).ownBlock∧k_≠B)∧some k_≠(.slice bQ aA.length bR : Value).ownBlock)) (yS0 aa) hg hat);have n2_:=zm (blk_grown (yk ac) hg (zu aq.out ac.out (by decide)));have n3_:=zm (blk_grown (yk ae) hg (zu aq.out ae.out (by decide)));have n4_:=zm (blk_grown (yk ah) hg (zu aq.out ah.out (by decide)));have n5_:=zm (Kd.R_after (ok:=(fun k_=>some k_≠(.slice bw aE.length bx : Value).ownBlock)) (yR0 aG) hg hat);have n6_:=zm (hb);have n7_:=zm (ho);have n9_:=zm (blk_grown (g:=B) (yk HS) hg (zu aq.out HS.out (by decide)));clear HS;have HS:=n9_;clear n9_;clear ap;clear aa;clear ac;clear ae;clear ah;clear aG;clear HB;clear aq;have ap:=n0_;have aa:=n1_;have ac:=n2_;have ae:=n3_;have ah:=n4_;have aG:=n5_;have HB:=n6_;have b8:=n7_;clear n0_ n1_ n2_ n3_ n4_ n5_ n6_ n7_;clear ho hb hg hat))
      go_roundg k2
      case measure=>exact yom2 HK1 HK2
      case rel=>exact ⟨(aA),(_),(b5),(wrap64 (aj+1)),yq,H',⟨yom2 HK1 HK2⟩,⟨yR0 aG⟩,⟨yR0 b8⟩,⟨yS0 aa⟩,⟨yk ac⟩,⟨yk ae⟩,⟨yk ah⟩,⟨yk HS⟩,⟨yhb⟩⟩
     rw [if_neg c17] at H
     have b4:=yG c17
     clear c17
     replace H:=yif H;obtain ⟨c32,H⟩:=H
     have LMc32:=zm c32;clear c32
     obtain ⟨bS,bi⟩ : ∃ y_ : List (List Int),y_=(ai ++ [az]):=⟨_,rfl⟩
     replace H : (ccodec_Decode.l0 k2 ag (ag.length : Int) (wrap64 (af+1)) av ak ag bS)=some (r1,r2):=yrw bi H
     have b9:=zm bi;clear bi
     have H' := zm H
     clear H
     have:=ay.out
     have:=ax.out
     have:=aJ.out
     have:=aI.out
     obtain ⟨_,_⟩:=yc1 ah
     obtain ⟨ca,cb,ct⟩:=Kd.R_slice aq.out
     subst ct
     go_wp2_with (first|((with_reducible refine gate_builtin (b:=.append) (xs := #[.tmp 52, .tmp 54]) rfl ?_);at_builtin;refine Kd.S_append (Kd.slice 2 (Kd.int .i64)) (w0:=w) w.heap.size rfl (.tmp 52) (.tmp 54) 22 53 (.slice none 0 0) 24 rfl Try.underlying22 info53 rfl (by decide) (by omega) al ai az [.slice ca az.length cb] (fun k_=>some k_≠(u11 : Value).ownBlock) (fun k_=>some k_=(.slice ca az.length cb : Value).ownBlock) rfl rfl ?aP (fun k_ hk_=>((zG (ok' := fun k_=>((fun k_=>some k_≠(u11 : Value).ownBlock)) k_∧some k_≠(al : Value).ownBlock) (Kd.R_apart' (aq.out) (Kd.S_typed aa.out) (by decide)) (fun k_ hk=>⟨hk.1,hk.2⟩))).1 k_ hk_.symm) ?aF ?aO ?aB ?aS ?aL ?_;(case aP=>exact Kd.M_row (zG (Kd.R_tight rfl (zG (ok' := fun k_=>((fun k_=>some k_≠(u11 : Value).ownBlock)) k_∧some k_≠(al : Value).ownBlock) (Kd.R_apart' (aq.out) (Kd.S_typed aa.out) (by decide)) (fun k_ hk=>⟨hk.1,hk.2⟩))) (fun _ h_=>h_)));(case aB=>exact yhb);(case aF=>exact (fun k_ hk=>Kd.fresh' (Kd.R_lt (yr ap)) k_ hk));(case aO=>exact (yS0 aa));(case aS=>exact (zE yhb));(case aL=>have:=LMc32.out;omega);intro cM w36 ho hb hg hat;rw [← b9.out] at ho;replace ap:=zm (Kd.R_over' (yr ap) (Kd.S_typed (yr aa)) (by decide) hg);replace ac:=zm (blk_grown (yk ac) hg (Kd.S_ne aa.out ac.out (by decide)));replace ae:=zm (blk_grown (yk ae) hg (Kd.S_ne aa.out ae.out (by decide)));replace ah:=zm (blk_grown (yk ah) hg (Kd.S_ne aa.out ah.out (by decide)));replace HB:=zm (hb);have bC:=zm (ho);clear aa;clear aq;clear ho hb hg hat;obtain ⟨cu,cv,cw⟩:=Kd.S_slice bC.out;subst cw;obtain ⟨_,_⟩:=yc1 ah))
     go_roundg k2
     case measure=>exact yom2 HK1 HK2
     case rel=>exact ⟨(wrap64 (af+1)),(bS),(.slice cu bS.length cv),yq,H',⟨yom2 HK1 HK2⟩,⟨yS1 bC ah⟩,⟨yk ac⟩,⟨yk ae⟩,⟨ykp ah⟩,⟨yhb⟩⟩
   rw [if_neg c14] at H
   have bB:=yG c14
   clear c14
   simp only [Option.some.injEq,Prod.mk.injEq] at H
   obtain ⟨rfl,rfl⟩:=H
   have:=ay.out
   have:=ax.out
   have:=aJ.out
   have:=aI.out
   obtain ⟨_,_⟩:=yc1 ah
   obtain ⟨cx,cy,cz⟩:=Kd.S_slice aa.out
   subst cz
   have:=ao.out
   have:=am.out
   obtain ⟨_,_⟩:=yc1 ae
   go_wp2
   refine bodyPost_ret (results_ct rfl _ _ aH 24 #[.slice cx ai.length cy] (0,0) _ rfl (ykp ae) Try.underlying24 rfl (by kernel_rfl)) rfl ?_
   exact ⟨_,ye,yS1 aa ae,yhb⟩
 replace c5:=Bool.eq_false_iff.mpr c5
 subst c5
 rw [ynf] at H
 simp only [Option.some.injEq,Prod.mk.injEq] at H
 obtain ⟨rfl,rfl⟩:=H
 go_enter Try.func23,Try.ntmps23
 go_wp2_with (first|((with_reducible refine gate_dst (N:=5) rfl ?_);refine ybx 5 #[.bool av, .slice aM ak.length aN, .slice aV ag.length aQ] 31 ?_;intro aW hg w46 hbox hb;have ac:=zm (hbox);have bT:=ygw hg;have bU:=ygw hg;replace HB:=ybs hb;clear hb hbox hg)|((with_reducible refine gate_dst (N:=6) rfl ?_);refine ybx 6 #[.slice none 0 0] 24 ?_;intro aH hg w47 hbox hb;have ae:=zm (hbox);have bV:=ygw hg;have bW:=ygw hg;replace HB:=ybs hb;have am:=ynl ac hg;have ao:=yng ac hg;replace ac:=ybb ac hb;clear hb hbox hg;have:=am.out;have:=ao.out;obtain ⟨_,_,_,_,_,_⟩:=yc3 ac)|((with_reducible refine gate_callee (f:=17) rfl ?_);refine ygl 18 Try.func17 #[.int .i64 a0, .int .i64 a1, .agg #[.bool av, .slice aM ak.length aN, .slice aV ag.length aQ]] ?_;(with_reducible refine (cpack_Right.calls k a0 a1 av _ _ ak _ _ ag false _ ?aT bz.out ?aU bA.out A4.out).mono ?_);(case aT=>exact ycb bd);(case aU=>exact ycb bf);rintro e w50 ⟨rfl,hb⟩;refine ⟨_,rfl, ?_⟩;replace ac:=ybb ac hb;replace ae:=ybb ae hb;replace HB:=ybs hb;(try clear hb);obtain ⟨_,_⟩:=yc1 ae))
 refine bodyPost_ret (results_ct rfl _ _ aH 24 #[.slice none 0 0] (0,0) _ rfl (ykp ae) Try.underlying24 rfl (by kernel_rfl)) rfl ?_
 exact ⟨_,ye,yn,yhb⟩
def r06_Same.l0 : Nat→List Int→List Int→Int→Option (Bool)
 | 0,_,_,_=>none
 | k+1,x0,x1,x5=>if x5 < (x0.length : Int) then (if 0≤x5 then (if x5 < (x1.length : Int) then (if (rd x0 x5)=(rd x1 x5) then (r06_Same.l0 k x0 x1 (wrap64 (x5+1))) else (some false)) else (none)) else (none)) else (some true)
def r06_Same.f (k : Nat) (l0 : List Int) (l1 : List Int) : Option (Bool):=if (l0.length : Int)=(l1.length : Int) then (r06_Same.l0 k l0 l1 0) else (some false)
theorem r06_Same.mono_l : ∀ k,(∀ y0 y1 y2,LeO (r06_Same.l0 k y0 y1 y2) (r06_Same.l0 (k+1) y0 y1 y2))
 | 0=>fun _ _ _ r h=>by simp [r06_Same.l0] at h
 | k+1=>by
  have ih0:=r06_Same.mono_l k
  ·
   intro y0 y1 y2
   unfold r06_Same.l0
   repeat' with_reducible first|apply ih0|apply yLr|apply yLn|apply yLi|apply yLb|intro _
theorem r06_Same.mono : ∀ a0 a1 k,LeO (r06_Same.f k a0 a1) (r06_Same.f (k+1) a0 a1):=by
 intro a0 a1 k
 have ih0:=r06_Same.mono_l k
 unfold r06_Same.f
 repeat' with_reducible first|apply ih0|apply yLr|apply yLn|apply yLi|apply yLb|intro _
set_option maxHeartbeats 8000000 in
set_option maxRecDepth 100000 in
theorem r06_Same.calls (k : Nat) (A0 : Option Addr) (c0 : Nat) (l0 : List Int) (A1 : Option Addr) (c1 : Nat) (l1 : List Int) (r : Bool) (w : World) (hr0 : Kd.C (Kd.int .i64) w A0 l0.length l0) (hc0 : l0.length≤c0) (hr1 : Kd.C (Kd.int .i64) w A1 l1.length l1) (hc1 : l1.length≤c1) (h : r06_Same.f k l0 l1=some r) :
  Calls Try.prog 35 #[.slice A0 l0.length c0, .slice A1 l1.length c1] w fun e w' => e=.returned (.bool r)∧Drawn0 w w' := by
 have HR0:=zm hr0;have HC0:=zm hc0;clear hr0 hc0;have HR1:=zm hr1;have HC1:=zm hc1;clear hr1 hc1;have H:=h
 unfold r06_Same.f at H
 clear h
 by_cases c3 : (l0.length : Int)=(l1.length : Int)
 ·
  rw [if_pos c3] at H
  obtain ⟨ah,ai⟩:=yE c3
  have aj : (l0.length == l1.length)=true:=by first|simpa using c3|(simp at c3 ⊢; omega)
  clear c3
  have H' := zm H
  clear H
  go_enter Try.func35,Try.ntmps35
  go_wp2
  repeat (go_quiet (fail);try go_wp2)
  go_loopg [5] k (fun kq v5 w' => ∃ (aa : Int),v5=.int .i64 aa∧Aside0 (r06_Same.l0 kq l0 l1 aa=some r)∧Aside0 (kq≤k)∧Drawn0 w w')
  case atStart=>exact ⟨(0),yq,H',⟨Nat.le_refl _⟩,yd⟩
  case round =>
   clear H'
   try clear c1
   try clear ah
   try clear ai
   try clear aj
   obtain ⟨aa,rfl,HA,HK1,⟨m1,rfl⟩⟩:=hrel
   obtain ⟨k1,rfl⟩:=ysu gk (fun h=>by subst h;exact absurd HA.out (by simp [r06_Same.l0]))
   have H:=HA.out;clear HA
   simp only [r06_Same.l0] at H
   by_cases c4 : aa < (l0.length : Int)
   ·
    rw [if_pos c4] at H
    have am:=yD c4
    clear c4
    replace H:=yif H;obtain ⟨c5,H⟩:=H
    have ax : decide (0≤aa)=true:=decide_eq_true c5
    clear c5
    replace H:=yif H;obtain ⟨c6,H⟩:=H
    have ay : decide (aa < (l1.length : Int))=true:=decide_eq_true c6
    clear c6
    by_cases c7 : (rd l0 aa)=(rd l1 aa)
    ·
     rw [if_pos c7] at H
     obtain ⟨ao,ap⟩:=yE c7
     clear c7
     have H' := zm H
     clear H
     obtain ⟨ak,af,ac,aq,au⟩:=yai HR0 aa
     cases af
     obtain ⟨al,ag,ae,av,aw⟩:=yai HR1 aa
     cases ag
     go_wp2
     repeat (go_quiet (fail);try go_wp2)
     go_roundg k1
     case measure=>exact yom1 HK1
     case rel=>exact ⟨(wrap64 (aa+1)),yq,H',⟨yom1 HK1⟩,yd⟩
    rw [if_neg c7] at H
    obtain ⟨ao,ap⟩:=yF c7
    obtain rfl:=Option.some.inj H
    obtain ⟨ak,af,ac,aq,au⟩:=yai HR0 aa
    cases af
    obtain ⟨al,ag,ae,av,aw⟩:=yai HR1 aa
    cases ag
    go_wp2
    repeat (go_quiet (fail);try go_wp2)
    go_ret
    exact ⟨yq,yd⟩
   rw [if_neg c4] at H
   have am:=yG c4
   clear c4
   obtain rfl:=Option.some.inj H
   go_wp2
   repeat (go_quiet (fail);try go_wp2)
   go_ret
   exact ⟨yq,yd⟩
 rw [if_neg c3] at H
 obtain ⟨ah,ai⟩:=yF c3
 have aj : (l0.length == l1.length)=false:=by first|simpa using c3|(simp at c3 ⊢; omega)
 obtain rfl:=Option.some.inj H
 go_enter Try.func35,Try.ntmps35
 go_wp2
 repeat (go_quiet (fail);try go_wp2)
 go_ret
 exact ⟨yq,yd⟩
def w23_knows.f (k : Nat)  : Option (Bool):=(some (List.replicate 16 0 : List Int)).bind fun av=>(if 0 < (av.length : Int) then ((ccodec_Encode.f k 60 1 (([(av.set (0 : Int).toNat 100)] : List (List Int))) true).bind fun ac=>((ccodec_Decode.f k 60 1 ac.1 ac.2.1 ac.2.2.1).bind fun aa=>(if ac.2.2.2=0 then (if ac.1=true then (if (ac.2.1.length : Int)=1 then (if 0 < (ac.2.1.length : Int) then ((r06_Same.f k (rd_L2 ac.2.1 0) (([14,0,0,0,0] : List Int))).bind fun aH=>(if aH=true then (if aa.2=0 then (if (aa.1.length : Int)=1 then (if 0 < (aa.1.length : Int) then (if ((rd_L1 aa.1 0).length : Int)=16 then (if 0 < ((rd_L1 aa.1 0).length : Int) then (if (rd (rd_L1 aa.1 0) 0)=90 then (if 1 < ((rd_L1 aa.1 0).length : Int) then (if (rd (rd_L1 aa.1 0) 1)=0 then ((ccodec_Right.f k 60 1 aa.1).bind fun aC=>(some aC)) else (none)) else (none)) else (none)) else (none)) else (none)) else (none)) else (none)) else (none)) else (none))) else (none)) else (none)) else (none)) else (none)))) else (none))
theorem w23_knows.mono : ∀ k,LeO (w23_knows.f k ) (w23_knows.f (k+1) ):=by
 intro  k
 unfold w23_knows.f
 repeat' with_reducible first|apply ccodec_Decode.mono|apply ccodec_Encode.mono|apply ccodec_Right.mono|apply r06_Same.mono|apply yLr|apply yLn|apply yLi|apply yLb|intro _
set_option maxHeartbeats 8000000 in
set_option maxRecDepth 100000 in
theorem w23_knows.calls (k : Nat)  (r : Bool) (w : World) (h : w23_knows.f k  = some r) :
  Calls Try.prog 12 #[] w fun e w' => e=.returned (.bool r)∧Below w.heap.size w w' := by
 have hu24:=Try.underlying24;have hu31:=Try.underlying31;have HB:=zm (Below.refl w.heap.size w);have H:=h
 unfold w23_knows.f at H
 clear h
 obtain ⟨av,bn⟩ : ∃ y_ : List Int,y_=(List.replicate 16 0):=⟨_,rfl⟩
 replace H : (if 0 < (av.length : Int) then ((ccodec_Encode.f k 60 1 (([(av.set (0 : Int).toNat 100)] : List (List Int))) true).bind fun ac=>((ccodec_Decode.f k 60 1 ac.1 ac.2.1 ac.2.2.1).bind fun aa=>(if ac.2.2.2=0 then (if ac.1=true then (if (ac.2.1.length : Int)=1 then (if 0 < (ac.2.1.length : Int) then ((r06_Same.f k (rd_L2 ac.2.1 0) (([14,0,0,0,0] : List Int))).bind fun aH=>(if aH=true then (if aa.2=0 then (if (aa.1.length : Int)=1 then (if 0 < (aa.1.length : Int) then (if ((rd_L1 aa.1 0).length : Int)=16 then (if 0 < ((rd_L1 aa.1 0).length : Int) then (if (rd (rd_L1 aa.1 0) 0)=90 then (if 1 < ((rd_L1 aa.1 0).length : Int) then (if (rd (rd_L1 aa.1 0) 1)=0 then ((ccodec_Right.f k 60 1 aa.1).bind fun aC=>(some aC)) else (none)) else (none)) else (none)) else (none)) else (none)) else (none)) else (none)) else (none)) else (none))) else (none)) else (none)) else (none)) else (none)))) else (none))=some r:=yrw bn H
 have bH:=zm bn;clear bn
 replace H:=yif H;obtain ⟨c1,H⟩:=H
 have cR : decide (0 < (av.length : Int))=true:=decide_eq_true c1
 have cS : decide (0 < av.length)=true:=decide_eq_true (by omega)
 clear c1
 obtain ⟨bo,bp⟩ : ∃ y_ : List Int,y_=(av.set (0 : Int).toNat 100):=⟨_,rfl⟩
 replace H : ((ccodec_Encode.f k 60 1 (([bo] : List (List Int))) true).bind fun ac=>((ccodec_Decode.f k 60 1 ac.1 ac.2.1 ac.2.2.1).bind fun aa=>(if ac.2.2.2=0 then (if ac.1=true then (if (ac.2.1.length : Int)=1 then (if 0 < (ac.2.1.length : Int) then ((r06_Same.f k (rd_L2 ac.2.1 0) (([14,0,0,0,0] : List Int))).bind fun aH=>(if aH=true then (if aa.2=0 then (if (aa.1.length : Int)=1 then (if 0 < (aa.1.length : Int) then (if ((rd_L1 aa.1 0).length : Int)=16 then (if 0 < ((rd_L1 aa.1 0).length : Int) then (if (rd (rd_L1 aa.1 0) 0)=90 then (if 1 < ((rd_L1 aa.1 0).length : Int) then (if (rd (rd_L1 aa.1 0) 1)=0 then ((ccodec_Right.f k 60 1 aa.1).bind fun aC=>(some aC)) else (none)) else (none)) else (none)) else (none)) else (none)) else (none)) else (none)) else (none)) else (none))) else (none)) else (none)) else (none)) else (none))))=some r:=yrw bp H
 have bT:=zm bp;clear bp
 obtain ⟨aw,bq⟩ : ∃ y_ : List (List Int),y_=(([bo] : List (List Int))):=⟨_,rfl⟩
 replace H : ((ccodec_Encode.f k 60 1 aw true).bind fun ac=>((ccodec_Decode.f k 60 1 ac.1 ac.2.1 ac.2.2.1).bind fun aa=>(if ac.2.2.2=0 then (if ac.1=true then (if (ac.2.1.length : Int)=1 then (if 0 < (ac.2.1.length : Int) then ((r06_Same.f k (rd_L2 ac.2.1 0) (([14,0,0,0,0] : List Int))).bind fun aH=>(if aH=true then (if aa.2=0 then (if (aa.1.length : Int)=1 then (if 0 < (aa.1.length : Int) then (if ((rd_L1 aa.1 0).length : Int)=16 then (if 0 < ((rd_L1 aa.1 0).length : Int) then (if (rd (rd_L1 aa.1 0) 0)=90 then (if 1 < ((rd_L1 aa.1 0).length : Int) then (if (rd (rd_L1 aa.1 0) 1)=0 then ((ccodec_Right.f k 60 1 aa.1).bind fun aC=>(some aC)) else (none)) else (none)) else (none)) else (none)) else (none)) else (none)) else (none)) else (none)) else (none))) else (none)) else (none)) else (none)) else (none))))=some r:=yrw bq H
 have bI:=zm bq;clear bq
 replace H:=ybi H;obtain ⟨⟨cT,ak,ao,b5⟩,A3,H⟩:=H
 try dsimp only at H
 replace H:=ybi H;obtain ⟨⟨ae,bU⟩,A4,H⟩:=H
 try dsimp only at H
 replace H:=yif H;obtain ⟨c5,H⟩:=H
 obtain ⟨cU,cV⟩:=yE c5
 clear c5
 replace H:=yif H;obtain ⟨c6,H⟩:=H
 subst c6
 replace H:=yif H;obtain ⟨c7,H⟩:=H
 obtain ⟨cW,cX⟩:=yE c7
 clear c7
 replace H:=yif H;obtain ⟨c8,H⟩:=H
 have cY : decide (0 < (ak.length : Int))=true:=decide_eq_true c8
 have cZ : decide (0 < ak.length)=true:=decide_eq_true (by omega)
 clear c8
 obtain ⟨bV,br⟩ : ∃ y_ : List Int,y_=(([14,0,0,0,0] : List Int)):=⟨_,rfl⟩
 replace H : ((r06_Same.f k (rd_L2 ak 0) bV).bind fun aH=>(if aH=true then (if bU=0 then (if (ae.length : Int)=1 then (if 0 < (ae.length : Int) then (if ((rd_L1 ae 0).length : Int)=16 then (if 0 < ((rd_L1 ae 0).length : Int) then (if (rd (rd_L1 ae 0) 0)=90 then (if 1 < ((rd_L1 ae 0).length : Int) then (if (rd (rd_L1 ae 0) 1)=0 then ((ccodec_Right.f k 60 1 ae).bind fun aC=>(some aC)) else (none)) else (none)) else (none)) else (none)) else (none)) else (none)) else (none)) else (none)) else (none)))=some r:=yrw br H
 have bJ:=zm br;clear br
 replace H:=ybi H;obtain ⟨aH,A9,H⟩:=H
 replace H:=yif H;obtain ⟨c10,H⟩:=H
 subst c10
 replace H:=yif H;obtain ⟨c11,H⟩:=H
 obtain ⟨cu,cv⟩:=yE c11
 clear c11
 replace H:=yif H;obtain ⟨c12,H⟩:=H
 obtain ⟨cw,cx⟩:=yE c12
 clear c12
 replace H:=yif H;obtain ⟨c13,H⟩:=H
 have cy : decide (0 < (ae.length : Int))=true:=decide_eq_true c13
 have cz : decide (0 < ae.length)=true:=decide_eq_true (by omega)
 clear c13
 replace H:=yif H;obtain ⟨c14,H⟩:=H
 obtain ⟨cA,cB⟩:=yE c14
 clear c14
 replace H:=yif H;obtain ⟨c15,H⟩:=H
 have cC : decide (0 < ((rd_L1 ae 0).length : Int))=true:=decide_eq_true c15
 have cD : decide (0 < (rd_L1 ae 0).length)=true:=decide_eq_true (by omega)
 clear c15
 replace H:=yif H;obtain ⟨c16,H⟩:=H
 obtain ⟨cE,cF⟩:=yE c16
 clear c16
 replace H:=yif H;obtain ⟨c17,H⟩:=H
 have cG : decide (1 < ((rd_L1 ae 0).length : Int))=true:=decide_eq_true c17
 have cH : decide (1 < (rd_L1 ae 0).length)=true:=decide_eq_true (by omega)
 clear c17
 replace H:=yif H;obtain ⟨c18,H⟩:=H
 obtain ⟨cI,cJ⟩:=yE c18
 clear c18
 replace H:=ybi H;obtain ⟨aC,A19,H⟩:=H
 obtain rfl:=Option.some.inj H
 go_enter Try.func12,Try.ntmps12
 go_wp2_with (first|((with_reducible refine gate_dst (N:=6) rfl ?_);(try (refine gate_guard (by rfl) ?_;dsimp only));refine Kd.R_make (Kd.int .i64) _ 2 rfl (N:=6) rfl 53 _ _ rfl 16 rfl rfl Try.underlying53 (.int .i64 0) 8 info2 rfl (by decide) (by omega) 0 (ok:=fun _=>True) (okp:=fun _=>True) rfl (fun _ hk=>hk) trivial (by omega) (by omega) (Below.refl _ _) (Nat.le_refl _) ?_;intro da w20 bs hb hg_ hnew_;clear hg_ hnew_;(first|rw [← bH.out] at bs|(simp only [Int.reduceToNat] at bs;rw [← bH.out] at bs));have ap:=zm (Kd.R_lower bs (zE yhb));replace HB:=ybs hb;clear hb bs;have p2 : 0≤(0 : Int):=(by omega);have q2 : (0 : Int) < ((av.length : Int) : Int):=yt;have qi2 : (0 < av.length)=True:=eq_true (by omega);obtain ⟨go2,co2,eo2,gb2,gl2,cl2,HG2⟩:=Kd.R_form ap.out (by omega);(first|cases eo2|(injection eo2 with ea_ en_ ec_;(first|subst ea_|(injection ea_ with ea_;subst ea_));subst ec_;clear en_));have GB2:=zm gb2;have GG2:=zm HG2;clear gb2 gl2 HG2;obtain ⟨bK,bL⟩:=Kd.R_celln 0 ap.out (0 : Int) p2 q2;(try rw [show ((0 : Int)).toNat=0 from rfl] at bK);(try simp only [Nat.reduceMul,Nat.zero_mul,Nat.zero_add,Nat.reduceAdd] at bK);(try rw [show ((0 : Int)).toNat=0 from rfl] at bL);(try simp only [Nat.reduceMul,Nat.zero_mul,Nat.zero_add,Nat.reduceAdd] at bL);replace p2:=eq_true p2;replace q2:=eq_true q2;obtain ⟨bM,hz22_⟩:=Kd.R_celln 0 ap.out (0 : Int) (by omega) (yt);(try simp only [Int.reduceToNat,Int.toNat_zero,Int.toNat_ofNat,Nat.reduceMul,Nat.zero_mul,Nat.zero_add] at bM hz22_);(try rw [show ((0 : Int)).toNat=0 from rfl] at bM);(try rw [show ((0 : Int)).toNat=0 from rfl] at hz22_);have bO:=Kd.R_putg ap.out (0 : Int) 100)|((with_reducible refine gate_store (t:=2) (p:=8) rfl ?_);refine store_event (t:=2) (p:=8) (v := ?vo_w23) (w1:=(w20.setCell ⟨go2,(0 : Int).toNat,none⟩ (.int .i64 100))) ?hg ?ho ?hn ?hr ?_;(case ho=>rfl);(case hg=>rfl);(case hn=>rfl);(case hr=>first|(go_simp;done)|(go_simp;rfl));intro w23 hw;have hg : w20.grownBy w23 (some go2):=(by rw [hw];exact bO.2);have hp_ : Kd.R (Kd.int .i64) 2 w23 w.heap.size (fun _=>True) (.slice (some ⟨go2,0,none⟩) av.length co2) bo:=(by rw [hw,bT.out];exact bO.1);clear bO;replace ap:=zm (hp_);replace HB:=zm ((by rw [hw];exact zk (HB.out) GB2.out : Below w.heap.size w w23));clear hg hw hp_)|((with_reducible refine gate_dst (N:=11) rfl ?_);(try (refine gate_guard (by rfl) ?_;dsimp only));refine Kd.N_lit (Kd.slice 2 (Kd.int .i64)) _ 53 ?hg (N' := 11) ?hd (xs:=([bo] : List (List Int))) (inner := [.slice (some ⟨go2,0,none⟩) av.length co2]) (ok:=(fun _=>True)) (okp:=(fun _=>True)) ?hr ?hpx (fun _ hk=>hk) ((show ∀ k_,w23.heap.size≤k_→(fun _=>True) k_ from fun k_ hk=>trivial) _ (Nat.le_refl _)) (Below.refl _ _) (Nat.le_refl _) (by simp) ?_;(case hd=>rfl);(case hg=>rfl);(case hr=>first|(go_simp;done)|(go_simp;rfl));(case hpx=>exact (Reps.one (show Kd.FK (Kd.slice 2 (Kd.int .i64)) _ _ bo [.slice (some ⟨go2,0,none⟩) av.length co2] from (by have e_:=(Kd.R_reads' ap.out).1;have l_:=(Kd.R_reads' ap.out).2.1;have f_:=Kd.R_F (zG (ok' := (fun _=>True)) ap.out (fun k_ hk=>trivial));rw [e_] at l_ f_ ⊢; exact Kd.FK_slice_mk l_ f_)) (Reps.none _ _)));intro db w24 bu hb hg_ hnew_;clear hg_ hnew_;(first|rw [← bI.out] at bu|(simp only [Int.reduceToNat] at bu;rw [← bI.out] at bu));have af:=zm (Kd.N_lower bu (zE yhb));replace HB:=ybs hb;clear ap;clear hb bu;obtain ⟨aI,aJ,b6⟩:=Kd.N_slice af.out;subst b6)|((with_reducible refine gate_callee (f:=13) rfl ?_);refine ygl 13 Try.func13 #[.int .i64 60, .int .i64 1, .agg #[.slice aI aw.length aJ], .bool true] ?_;(with_reducible refine (ccodec_Encode.calls k 60 1 _ _ aw true true ak ao b5 _ ?aD ?aV A3.out).mono ?_);(case aD=>exact yce (Kd.N_reads' af.out).2.2);(case aV=>exact (Kd.N_reads' af.out).2.1);rintro e w27 ⟨b7,b8,rfl,ho0,ho1,hb⟩;refine ⟨_,rfl, ?_⟩;have ah:=zm (Kd.N_lower (Kd.N_mono (ok' := fun k_=>some k_≠(b8 : Value).ownBlock∧some k_≠(.slice aI aw.length aJ : Value).ownBlock) ho0 (fun k_ hk_=>⟨hk_.2,(Kd.fresh' (Kd.N_lt (yr af)) k_ hk_.1)⟩)) (zE yhb));have ai:=zm (Kd.N_lower (Kd.N_mono (ok' := fun k_=>some k_≠(b7 : Value).ownBlock∧some k_≠(.slice aI aw.length aJ : Value).ownBlock) ho1 (fun k_ hk_=>⟨hk_.2,(Kd.fresh' (Kd.N_lt (yr af)) k_ hk_.1)⟩)) (zE yhb));replace af:=zm (Kd.N_mono (Kd.N_told (Kd.N_told (Kd.N_old (yr af) hb) (Kd.N_base ho0)) (Kd.N_base ho1)) (fun _ h_=>h_.1));replace HB:=ybs hb;(try clear hb);(try clear ho0);(try clear ho1))|((with_reducible refine gate_dst (N:=2) rfl ?_);(try (refine gate_guard (by rfl) ?_;dsimp only));refine ybx 2 #[.bool false, .slice none 0 0, .slice none 0 0] 31 ?_;intro al hg w28 hbox hb;replace af:=zm (Kd.N_below (Kd.N_elderB (yr af) al (Nat.le_of_eq hg.symm)) hb);replace ah:=zm (Kd.N_below (Kd.N_elderB (yr ah) al (Nat.le_of_eq hg.symm)) hb);replace ai:=zm (Kd.N_below (Kd.N_elderB (yr ai) al (Nat.le_of_eq hg.symm)) hb);have aj:=zm (hbox);have cK:=ygw hg;have cL:=ygw hg;replace HB:=ybs hb;clear hb hbox hg;obtain ⟨_,_,_,_,_,_⟩:=yc3 aj;obtain ⟨aK,aE,b9⟩:=Kd.N_slice ah.out;subst b9;obtain ⟨aM,aG,ca⟩:=Kd.N_slice ai.out;subst ca)|((with_reducible refine gate_callee (f:=23) rfl ?_);refine ygl 18 Try.func23 #[.int .i64 60, .int .i64 1, .agg #[.bool true, .slice aK ak.length aE, .slice aM ao.length aG]] ?_;(with_reducible refine (ccodec_Decode.calls k 60 1 true _ _ ak _ _ ao ae bU _ ?aD ?aV ?bv ?bw A4.out).mono ?_);(case aD=>refine (Kd.N_reads' (e:=55) (base:=w.heap.size) (ok:=fun k_=>((some k_≠(.slice aM ao.length aG : Value).ownBlock∧some k_≠(.slice aI aw.length aJ : Value).ownBlock)∧k_≠al)) (n:=ak.length) (c:=aE) ?_).2.2;exact (yN0 ah));(case aV=>exact (Kd.N_reads' ah.out).2.1);(case bv=>refine (Kd.N_reads' (e:=25) (base:=w.heap.size) (ok:=fun k_=>((some k_≠(.slice aK ak.length aE : Value).ownBlock∧some k_≠(.slice aI aw.length aJ : Value).ownBlock)∧k_≠al)) (n:=ao.length) (c:=aG) ?_).2.2;exact (yN0 ai));(case bw=>exact (Kd.N_reads' ai.out).2.1);rintro e w32 ⟨dc,rfl,ho0,hb⟩;refine ⟨_,rfl, ?_⟩;have ag:=zm (Kd.N_lower (Kd.N_mono (ok' := fun k_=>some k_≠(.slice aI aw.length aJ : Value).ownBlock∧some k_≠(.slice aK ak.length aE : Value).ownBlock∧some k_≠(.slice aM ao.length aG : Value).ownBlock∧k_≠al) (Kd.S_N (Kd.S_bound ho0)) (fun k_ hk_=>⟨(Kd.fresh' (Kd.N_lt (yN0 af)) k_ hk_.2.1),(Kd.fresh' (Kd.N_lt (yN0 ah)) k_ hk_.2.1),(Kd.fresh' (Kd.N_lt (yN0 ai)) k_ hk_.2.1),(Kd.freshB (g:=al) (o:=.cells #[.bool true, .slice aK ak.length aE, .slice aM ao.length aG] 31 (0,0)) (ykp aj) k_ hk_.2.1)⟩)) (zE yhb));replace af:=zm (Kd.N_elder' (yN0 af) (Kd.S_base ho0) hb);replace ah:=zm (Kd.N_elder' (yN0 ah) (Kd.S_base ho0) hb);replace ai:=zm (Kd.N_elder' (yN0 ai) (Kd.S_base ho0) hb);replace aj:=zm (zF (g:=al) (o:=.cells #[.bool true, .slice aK ak.length aE, .slice aM ao.length aG] 31 (0,0)) (ykp aj) hb);replace HB:=ybs hb;(try clear hb);(try clear ho0))|((with_reducible refine gate_dst (N:=4) rfl ?_);(try (refine gate_guard (by rfl) ?_;dsimp only));refine ybx 4 #[.slice none 0 0] 24 ?_;intro am hg w33 hbox hb;replace af:=zm (Kd.N_below (Kd.N_elderB (yr af) am (Nat.le_of_eq hg.symm)) hb);replace ah:=zm (Kd.N_below (Kd.N_elderB (yr ah) am (Nat.le_of_eq hg.symm)) hb);replace ai:=zm (Kd.N_below (Kd.N_elderB (yr ai) am (Nat.le_of_eq hg.symm)) hb);replace ag:=zm (Kd.N_below (Kd.N_elderB (yr ag) am (Nat.le_of_eq hg.symm)) hb);have ax:=zm (hbox);have cM:=ygw hg;have cN:=ygw hg;replace HB:=ybs hb;have bj:=ynl aj hg;have bk:=yng aj hg;replace aj:=ybb aj hb;clear hb hbox hg;obtain ⟨bl,bm,cb⟩:=Kd.N_slice ag.out;subst cb;have:=bk.out;have:=bj.out;obtain ⟨_,_⟩:=yc1 ax)|((with_reducible refine gate_store (t:=24) (p:=4) rfl ?_);refine store_event (t:=24) (p:=4) (v := ?vo_w37) (w1:=(w33.setCell ⟨am,0,none⟩ (.slice bl ae.length bm))) ?hg ?ho ?hn ?hr ?_;(case ho=>rfl);(case hg=>rfl);(case hn=>rfl);(case hr=>first|(go_simp;done)|(go_simp;rfl));intro w37 hw;replace af : Aside0 (Kd.N (Kd.slice 2 (Kd.int .i64)) 53 w37 w.heap.size (fun k_=>some k_≠(.slice aK ak.length aE : Value).ownBlock∧some k_≠(.slice aM ao.length aG : Value).ownBlock∧some k_≠(.slice bl ae.length bm : Value).ownBlock∧k_≠al∧k_≠am) (.slice aI aw.length aJ) aw):=⟨(by rw [hw];exact (yN0 af))⟩;replace ah : Aside0 (Kd.N (Kd.slice 3 (Kd.int .i64)) 55 w37 w.heap.size (fun k_=>some k_≠(.slice aI aw.length aJ : Value).ownBlock∧some k_≠(.slice aM ao.length aG : Value).ownBlock∧some k_≠(.slice bl ae.length bm : Value).ownBlock∧k_≠al∧k_≠am) (.slice aK ak.length aE) ak):=⟨(by rw [hw];exact (yN0 ah))⟩;replace ai : Aside0 (Kd.N (Kd.slice 55 (Kd.slice 3 (Kd.int .i64))) 25 w37 w.heap.size (fun k_=>some k_≠(.slice aI aw.length aJ : Value).ownBlock∧some k_≠(.slice aK ak.length aE : Value).ownBlock∧some k_≠(.slice bl ae.length bm : Value).ownBlock∧k_≠al∧k_≠am) (.slice aM ao.length aG) ao):=⟨(by rw [hw];exact (yN0 ai))⟩;replace ag : Aside0 (Kd.N (Kd.slice 2 (Kd.int .i64)) 53 w37 w.heap.size (fun k_=>some k_≠(.slice aI aw.length aJ : Value).ownBlock∧some k_≠(.slice aK ak.length aE : Value).ownBlock∧some k_≠(.slice aM ao.length aG : Value).ownBlock∧k_≠al∧k_≠am) (.slice bl ae.length bm) ae):=⟨(by rw [hw];exact (yN0 ag))⟩;replace aj : Aside0 (w37.heap[al]? = some (.cells #[.bool true, .slice aK ak.length aE, .slice aM ao.length aG] 31 (0,0))):=⟨(by rw [hw];exact (yk aj))⟩;replace ax : Aside0 (w37.heap[am]? = some (.cells #[.slice bl ae.length bm] 24 (0,0))):=⟨(by rw [hw];exact (ykp ax))⟩;replace HB : Aside0 (Below w.heap.size w w37):=⟨(by rw [hw];exact yhb)⟩;clear hw;obtain ⟨_,_,_,_,_,_⟩:=yc3 aj;have bx : 0≤(0 : Int):=(by omega);have bz : 0 < (ak.length : Int):=yt;obtain ⟨cO,ce,cf,cg,aQ,aX,aY⟩:=at_L2 (Kd.N_reads' ah.out).2.2 0 bx bz;cases cg;obtain ⟨ce367,hce367,hMe367,hcc367⟩:=Kd.N_get ah.out [] 0 bx (by first|exact bz|exact yt|(have e_:=(Kd.N_reads' ah.out).1;omega));obtain ⟨ua367_0,uc367_0,rfl,ul367_0,ge367_0⟩:=Kd.FK_slice_open hMe367;have hv367_0:=hcc367 0 _ rfl;rw [Nat.add_zero,show ((Kd.slice 3 (Kd.int .i64))).sz=1 from rfl,Nat.mul_one] at hv367_0;replace hv367_0:=Option.some.inj (hv367_0.symm.trans aQ);injection hv367_0 with hva_ hvn_ hvc_;rw [hva_] at ge367_0;rw [hvc_] at ul367_0;have ay:=zm (show Kd.V (Kd.int .i64) 3 _ w.heap.size _ _ (rd_L2 ak 0) from Kd.V_mk ul367_0 ge367_0);clear hva_ hvn_ hvc_ ge367_0 ul367_0;clear hcc367 hce367;have qi367 : (0 < ak.length)=True:=eq_true (by omega);(try rw [show ((0 : Int)).toNat=0 from rfl] at aQ);(try rw [Addr.add_zero'] at aQ);have aq:=zm aY;have bA:=zm aX;clear aY aX;replace bx:=eq_true bx;replace bz:=eq_true bz)|((with_reducible refine gate_dst (N:=38) rfl ?_);(try (refine gate_guard (by rfl) ?_;dsimp only));refine Kd.R_lit (Kd.int .i64) _ 3 ?hg (N:=38) ?hd (xs:=([14,0,0,0,0] : List Int)) (inner := [.int .i64 14, .int .i64 0, .int .i64 0, .int .i64 0, .int .i64 0]) (ok:=fun _=>True) (okp:=fun _=>True) ?hr ?hpx (fun _ hk=>hk) trivial (Below.refl _ _) (Nat.le_refl _) (by simp) ?_;(case hd=>rfl);(case hg=>rfl);(case hr=>first|(go_simp;done)|(go_simp;rfl));(case hpx=>exact (Reps.one (show Kd.M (Kd.int .i64) _ _ _ 14 [.int .i64 14] from rfl) (Reps.one (show Kd.M (Kd.int .i64) _ _ _ 0 [.int .i64 0] from rfl) (Reps.one (show Kd.M (Kd.int .i64) _ _ _ 0 [.int .i64 0] from rfl) (Reps.one (show Kd.M (Kd.int .i64) _ _ _ 0 [.int .i64 0] from rfl) (Reps.one (show Kd.M (Kd.int .i64) _ _ _ 0 [.int .i64 0] from rfl) (Reps.none _ _)))))));intro dd w39 aN hb hg_ hnew_;clear hg_ hnew_;(first|rw [← bJ.out] at aN|(simp only [Int.reduceToNat] at aN;rw [← bJ.out] at aN));replace af:=zm (Kd.N_elder' (yr af) (Kd.R_base aN) hb);replace ah:=zm (Kd.N_elder' (yr ah) (Kd.R_base aN) hb);replace ai:=zm (Kd.N_elder' (yr ai) (Kd.R_base aN) hb);replace ag:=zm (Kd.N_elder' (yr ag) (Kd.R_base aN) hb);replace ay:=zm (Kd.V_elder' (yr ay) (Kd.R_base aN) hb);have aW:=zm (Kd.R_lower aN (zE yhb));replace aj:=ybb aj hb;replace ax:=ybb ax hb;replace aq:=yCb aq hb;replace HB:=ybs hb;clear hb aN;obtain ⟨de,df,ch⟩:=Kd.R_slice aW.out;subst ch)|(go_at_call 35;(with_reducible refine (r06_Same.calls k _ _ (rd_L2 ak 0) _ _ bV true _ ?aD bA.out ?bv ?bw A9.out).mono ?_);(case aD=>exact yce (yrc aq));(case bv=>exact yce (Kd.R_reads' aW.out).2.2);(case bw=>exact (Kd.R_reads' aW.out).2.1);rintro e w' ⟨rfl,⟨nd,rfl⟩⟩;obtain ⟨_,_⟩:=yc1 ax;have bB : 0≤(0 : Int):=(by omega);have bC : 0 < (ae.length : Int):=yt;obtain ⟨bN,ci,cj,ck,au,aZ,a7⟩:=at_L1 (Kd.N_reads' ag.out).2.2 0 bB bC;cases ck;obtain ⟨ce372,hce372,hMe372,hcc372⟩:=Kd.N_get ag.out [] 0 bB (by first|exact bC|exact yt|(have e_:=(Kd.N_reads' ag.out).1;omega));obtain ⟨ua372_0,uc372_0,rfl,ul372_0,ge372_0⟩:=Kd.FK_slice_open hMe372;have hv372_0:=hcc372 0 _ rfl;rw [Nat.add_zero,show ((Kd.slice 2 (Kd.int .i64))).sz=1 from rfl,Nat.mul_one] at hv372_0;replace hv372_0:=Option.some.inj (hv372_0.symm.trans au);injection hv372_0 with hva_ hvn_ hvc_;rw [hva_] at ge372_0;rw [hvc_] at ul372_0;have a8:=zm (show Kd.V (Kd.int .i64) 2 _ w.heap.size _ _ (rd_L1 ae 0) from Kd.V_mk ul372_0 ge372_0);clear hva_ hvn_ hvc_ ge372_0 ul372_0;clear hcc372 hce372;have qi372 : (0 < ae.length)=True:=eq_true (by omega);(try rw [show ((0 : Int)).toNat=0 from rfl] at au);(try rw [Addr.add_zero'] at au);have a9:=zm a7;have bY:=zm aZ;clear a7 aZ;replace bB:=eq_true bB;replace bC:=eq_true bC;have bD : 0≤(0 : Int):=(by omega);have bE : 0 < (ae.length : Int):=yt;obtain ⟨bW,cl,cm,cn,az,ba,bb⟩:=at_L1 (Kd.N_reads' ag.out).2.2 0 bD bE;obtain rfl : bN=bW:=(by injection cn);obtain ⟨ce373,hce373,hMe373,hcc373⟩:=Kd.N_get ag.out [] 0 bD (by first|exact bE|exact yt|(have e_:=(Kd.N_reads' ag.out).1;omega));obtain ⟨ua373_0,uc373_0,rfl,ul373_0,ge373_0⟩:=Kd.FK_slice_open hMe373;have hv373_0:=hcc373 0 _ rfl;rw [Nat.add_zero,show ((Kd.slice 2 (Kd.int .i64))).sz=1 from rfl,Nat.mul_one] at hv373_0;replace hv373_0:=Option.some.inj (hv373_0.symm.trans az);injection hv373_0 with hva_ hvn_ hvc_;rw [hva_] at ge373_0;rw [hvc_] at ul373_0;have bc:=zm (show Kd.V (Kd.int .i64) 2 _ w.heap.size _ _ (rd_L1 ae 0) from Kd.V_mk ul373_0 ge373_0);clear hva_ hvn_ hvc_ ge373_0 ul373_0;clear hcc373 hce373;have qi373 : (0 < ae.length)=True:=eq_true (by omega);(try rw [show ((0 : Int)).toNat=0 from rfl] at az);(try rw [Addr.add_zero'] at az);have aT:=zm bb;have bZ:=zm ba;clear bb ba;replace bD:=eq_true bD;replace bE:=eq_true bE;have ea_:=Option.some.inj (au.symm.trans az);injection ea_ with ea_ en_ ec_;subst ea_;subst ec_;clear en_;have bP : 0≤(0 : Int):=(by omega);have bQ : 0 < ((rd_L1 ae 0).length : Int):=yt;obtain ⟨cP,co,bd⟩:=Kd.at_int (yrc aT) 0 bP bQ;cases co;have qi374 : (0 < (rd_L1 ae 0).length)=True:=eq_true (by omega);(try rw [show ((0 : Int)).toNat=0 from rfl] at bd);(try rw [Addr.add_zero'] at bd);replace bP:=eq_true bP;replace bQ:=eq_true bQ;have bF : 0≤(0 : Int):=(by omega);have bG : 0 < (ae.length : Int):=yt;obtain ⟨bX,cp,cq,cr,aA,bf,bg⟩:=at_L1 (Kd.N_reads' ag.out).2.2 0 bF bG;obtain rfl : bN=bX:=(by injection cr);obtain ⟨ce375,hce375,hMe375,hcc375⟩:=Kd.N_get ag.out [] 0 bF (by first|exact bG|exact yt|(have e_:=(Kd.N_reads' ag.out).1;omega));obtain ⟨ua375_0,uc375_0,rfl,ul375_0,ge375_0⟩:=Kd.FK_slice_open hMe375;have hv375_0:=hcc375 0 _ rfl;rw [Nat.add_zero,show ((Kd.slice 2 (Kd.int .i64))).sz=1 from rfl,Nat.mul_one] at hv375_0;replace hv375_0:=Option.some.inj (hv375_0.symm.trans aA);injection hv375_0 with hva_ hvn_ hvc_;rw [hva_] at ge375_0;rw [hvc_] at ul375_0;have bh:=zm (show Kd.V (Kd.int .i64) 2 _ w.heap.size _ _ (rd_L1 ae 0) from Kd.V_mk ul375_0 ge375_0);clear hva_ hvn_ hvc_ ge375_0 ul375_0;clear hcc375 hce375;have qi375 : (0 < ae.length)=True:=eq_true (by omega);(try rw [show ((0 : Int)).toNat=0 from rfl] at aA);(try rw [Addr.add_zero'] at aA);have aU:=zm bg;have b4:=zm bf;clear bg bf;replace bF:=eq_true bF;replace bG:=eq_true bG;have ea_:=Option.some.inj (au.symm.trans aA);injection ea_ with ea_ en_ ec_;subst ea_;subst ec_;clear en_;have bR : 0≤(1 : Int):=(by omega);have bS : 1 < ((rd_L1 ae 0).length : Int):=yt;obtain ⟨cQ,ct,bi⟩:=Kd.at_int (yrc aU) 1 bR bS;cases ct;(try simp only [show (1 : Int).toNat=1 from rfl,Nat.reduceMul,Nat.reduceEqDiff,Go.Addr.add, ↓reduceIte] at bi);have qi376 : (1 < (rd_L1 ae 0).length)=True:=eq_true (by omega);(try rw [show ((1 : Int)).toNat=1 from rfl] at bi);replace bR:=eq_true bR;replace bS:=eq_true bS)|(go_at_call 20;(with_reducible refine (ccodec_Right.calls k 60 1 _ _ ae aC _ ?aD ?aV A19.out).mono ?_);(case aD=>exact yce (Kd.N_reads' ag.out).2.2);(case aV=>exact (Kd.N_reads' ag.out).2.1);rintro e w43 ⟨rfl,hb⟩;replace af:=yNb af hb;replace ah:=yNb ah hb;replace ai:=yNb ai hb;replace ag:=yNb ag hb;replace ay:=yVb ay hb;replace aW:=yRb aW hb;replace a8:=yVb a8 hb;replace bc:=yVb bc hb;replace bh:=yVb bh hb;replace aj:=ybb aj hb;replace ax:=ybb ax hb;replace aq:=yCb aq hb;replace a9:=yCb a9 hb;replace aT:=yCb aT hb;replace aU:=yCb aU hb;replace HB:=ybs hb;(try clear hb)))
 go_ret
 exact ⟨ye,yhb⟩
end Go.Proofs.Ytifkhfnmbiefaaa.Prt
