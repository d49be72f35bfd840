-- Functions of the program and of the document as plain Lean, each with the proof that the code comes to it. Written by a program of this session (wip/tools/myprint.py, pack.py) over the kit's printer; Lean checks it.
import Derived.Test.YtnmbndkojpjkmaaZPackWritesPrt0
import Derived.Test.YtnmbndkojpjkmaaZPackWritesM1
import Derived.Test.YtnmbndkojpjkmaaZPackWritesSh
import Derived.Laws.CopyOwn
namespace Go.Proofs.Ytnmbndkojpjkmaa.Prt
open Go.RowKit Go.Proofs.YtnmbndkojpjkmaaW.PrintWords Go.Proofs.YtnmbndkojpjkmaaW.PrintLast Go.Proofs.YtnmbndkojpjkmaaW.PrintMore
attribute [local go_sem] max2_int min2_int max_two min_two max_three min_three max_four min_four   -- for this text's walks alone
set_option linter.unusedVariables false
set_option linter.unusedSimpArgs false


mutual
def gain_Put.j0 : Nat→List Int→List Int→Bool→Bool→Int→Int→List Int→Int→Int→List Int→Option (Int × Int × List Int × Int)
 | 0,_,_,_,_,_,_,_,_,_,_=>none
 | k+1,x1,x2,x3,x33,x267000,x267001,x267002,x275000,x275001,x275002=>if x33=true then (some (x275000,x275001,x275002,1)) else (gain_Put.l0 k x1 x2 x3 0 x275000 x275001 x275002 x267000 x267001 x267002)
def gain_Put.l0 : Nat→List Int→List Int→Bool→Int→Int→Int→List Int→Int→Int→List Int→Option (Int × Int × List Int × Int)
 | 0,_,_,_,_,_,_,_,_,_,_=>none
 | k+1,x1,x2,x3,x36,x275000,x275001,x275002,x278000,x278001,x278002=>if x36 < 5 then (if x3=true then (gain_Put.j2 k x1 x2 x3 x36 0 x36 x275000 x275001 x275002 x278000 x278001 x278002) else (if 0≤x36 then (if x36 < (x2.length : Int) then (gain_Put.j2 k x1 x2 x3 x36 (rd x2 x36) x36 x275000 x275001 x275002 x278000 x278001 x278002) else (none)) else (none))) else (some (x278000,x278001,x278002,0))
def gain_Put.j2 : Nat→List Int→List Int→Bool→Int→Int→Int→Int→Int→List Int→Int→Int→List Int→Option (Int × Int × List Int × Int)
 | 0,_,_,_,_,_,_,_,_,_,_,_,_=>none
 | k+1,x1,x2,x3,x13,x14,x36,x275000,x275001,x275002,x278000,x278001,x278002=>if 0≤x13 then (if x13 < (x1.length : Int) then ((gain_put.f k x278000 x278001 x278002 (rd x1 x13) x14 x3).bind fun bt280=>(if bt280.2.2.2=0 then (gain_Put.l0 k x1 x2 x3 (wrap64 (x36+1)) x275000 x275001 x275002 bt280.1 bt280.2.1 bt280.2.2.1) else (some (x275000,x275001,x275002,bt280.2.2.2)))) else (none)) else (none)
end
def gain_Put.f (k : Nat) (a0_0 : Int) (a0_1 : Int) (l0_2 : List Int) (l1 : List Int) (l2 : List Int) (a3 : Bool) : Option (Int × Int × List Int × Int):=(coder_Put.f k a0_0 a0_1 l0_2 0 1 0).bind fun bt268=>((gain_Right.f k l1).bind fun t275=>(if t275=true then (if a3=true then (gain_Put.j0 k l1 l2 a3 false a0_0 a0_1 l0_2 bt268.1 bt268.2.1 bt268.2.2.1) else ((gain_Right.f k l2).bind fun t276=>(gain_Put.j0 k l1 l2 a3 (!t276) a0_0 a0_1 l0_2 bt268.1 bt268.2.1 bt268.2.2.1))) else (gain_Put.j0 k l1 l2 a3 true a0_0 a0_1 l0_2 bt268.1 bt268.2.1 bt268.2.2.1)))
theorem gain_Put.mono_l : ∀ k,(∀ y0 y1 y2 y3 y4 y5 y6 y7 y8 y9,LeO (gain_Put.j0 k y0 y1 y2 y3 y4 y5 y6 y7 y8 y9) (gain_Put.j0 (k+1) y0 y1 y2 y3 y4 y5 y6 y7 y8 y9))∧(∀ y0 y1 y2 y3 y4 y5 y6 y7 y8 y9,LeO (gain_Put.l0 k y0 y1 y2 y3 y4 y5 y6 y7 y8 y9) (gain_Put.l0 (k+1) y0 y1 y2 y3 y4 y5 y6 y7 y8 y9))∧(∀ y0 y1 y2 y3 y4 y5 y6 y7 y8 y9 y10 y11,LeO (gain_Put.j2 k y0 y1 y2 y3 y4 y5 y6 y7 y8 y9 y10 y11) (gain_Put.j2 (k+1) y0 y1 y2 y3 y4 y5 y6 y7 y8 y9 y10 y11))
 | 0=>⟨fun _ _ _ _ _ _ _ _ _ _ r h=>by simp [gain_Put.j0] at h,fun _ _ _ _ _ _ _ _ _ _ r h=>by simp [gain_Put.l0] at h,fun _ _ _ _ _ _ _ _ _ _ _ _ r h=>by simp [gain_Put.j2] at h⟩
 | k+1=>by
  obtain ⟨ih0,ih1,ih2⟩:=gain_Put.mono_l k
  refine ⟨?_, ?_, ?_⟩
  ·
   intro y0 y1 y2 y3 y4 y5 y6 y7 y8 y9
   unfold gain_Put.j0
   repeat' with_reducible first|apply ih0|apply ih1|apply ih2|apply coder_Put.mono|apply gain_Right.mono|apply gain_put.mono|apply yLr|apply yLn|apply yLi|apply yLb|intro _
  ·
   intro y0 y1 y2 y3 y4 y5 y6 y7 y8 y9
   unfold gain_Put.l0
   repeat' with_reducible first|apply ih0|apply ih1|apply ih2|apply coder_Put.mono|apply gain_Right.mono|apply gain_put.mono|apply yLr|apply yLn|apply yLi|apply yLb|intro _
  ·
   intro y0 y1 y2 y3 y4 y5 y6 y7 y8 y9 y10 y11
   unfold gain_Put.j2
   repeat' with_reducible first|apply ih0|apply ih1|apply ih2|apply coder_Put.mono|apply gain_Right.mono|apply gain_put.mono|apply yLr|apply yLn|apply yLi|apply yLb|intro _
theorem gain_Put.mono : ∀ a0 a1 a2 a3 a4 a5 k,LeO (gain_Put.f k a0 a1 a2 a3 a4 a5) (gain_Put.f (k+1) a0 a1 a2 a3 a4 a5):=by
 intro a0 a1 a2 a3 a4 a5 k
 obtain ⟨ih0,ih1,ih2⟩:=gain_Put.mono_l k
 unfold gain_Put.f
 repeat' with_reducible first|apply ih0|apply ih1|apply ih2|apply coder_Put.mono|apply gain_Right.mono|apply gain_put.mono|apply yLr|apply yLn|apply yLi|apply yLb|intro _
def gain_Put.T11 : Bool × List (List Nat × List Nat):=(true, [([], []),([], []),([], []),([1,2], [1,2]),([3], [3]),([], []),([], []),([0,4,5,6], [0,4,5,6]),([7], [7]),([8], [8]),([8], [8]),([], []),([11,9,7,0,1,2,3,4,5,6,7,8,9,11], [9,11]),([10,12,0,1,2,3,4,5,6,7,8,9,10,11,12], [10])])
def gain_Put.B11 : List Nat := [0,0,0,6,14,0,0,127,255,511,511,0,3071,8191]
theorem gain_Put.tab11 : rtab .any (opsOf Try.f28 11)=gain_Put.T11:=by kernel_rfl
theorem gain_Put.bits11 : waitsOk gain_Put.T11.2 gain_Put.B11=true:=by kernel_rfl
set_option maxHeartbeats 8000000 in
set_option maxRecDepth 100000 in
theorem gain_Put.calls (k : Nat) (a0_0 : Int) (a0_1 : Int) (P0_2_ : Nat→Prop) (A0_2 : Option Addr) (c0_2 : Nat) (l0_2 : List Int) (A1 : Option Addr) (c1 : Nat) (l1 : List Int) (A2 : Option Addr) (c2 : Nat) (l2 : List Int) (a3 : Bool) (r1 : Int) (r2 : Int) (r3 : List Int) (r4 : Int) (w : World) (hs0_2 : Kd.V (Kd.int .u8) 5 w w.heap.size (fun k_=>P0_2_ k_) (.slice A0_2 l0_2.length c0_2) l0_2) (hr1 : Kd.C (Kd.int .i64) w A1 l1.length l1) (hc1 : l1.length≤c1) (hr2 : Kd.C (Kd.int .i64) w A2 l2.length l2) (hc2 : l2.length≤c2) (h : gain_Put.f k a0_0 a0_1 l0_2 l1 l2 a3=some (r1,r2,r3,r4)) :
  Calls Try.prog 28 #[.agg #[.int .u64 a0_0, .int .u32 a0_1, .slice A0_2 l0_2.length c0_2], .slice A1 l1.length c1, .slice A2 l2.length c2, .bool a3] w fun e w' => ∃ v2_ : Value,e=.returned (.tuple #[.agg #[.int .u64 r1, .int .u32 r2,v2_], .int .i64 r4])∧Kd.V (Kd.int .u8) 5 w' w.heap.size (fun k_=>(P0_2_ k_∨w.heap.size≤k_)) v2_ r3∧Below w.heap.size w w' := by
 have hu54:=Try.underlying54
 have HO0_2:=zm (show Kd.V (Kd.int .u8) 5 w w.heap.size (fun k_=>(P0_2_ k_∨w.heap.size≤k_)) (.slice A0_2 l0_2.length c0_2) l0_2 from zy hs0_2 (fun k_ hk => .inl hk))
 have HR1:=zm hr1;have HC1:=zm hc1;clear hr1 hc1;have HR2:=zm hr2;have HC2:=zm hc2;clear hr2 hc2;have HB:=zm (Below.refl w.heap.size w)
 have H : ((coder_Put.f k a0_0 a0_1 l0_2 0 1 0).bind fun bt268=>((gain_Right.f k l1).bind fun t275=>(if t275=true then (if a3=true then (gain_Put.j0 k l1 l2 a3 false a0_0 a0_1 l0_2 bt268.1 bt268.2.1 bt268.2.2.1) else ((gain_Right.f k l2).bind fun t276=>(gain_Put.j0 k l1 l2 a3 (!t276) a0_0 a0_1 l0_2 bt268.1 bt268.2.1 bt268.2.2.1))) else (gain_Put.j0 k l1 l2 a3 true a0_0 a0_1 l0_2 bt268.1 bt268.2.1 bt268.2.2.1))))=some (r1,r2,r3,r4):=h
 clear h
 obtain ⟨⟨t268,t269,t270,t273⟩,A5,H⟩:=ybi H
 try dsimp only at H
 have HC6:=zm H;clear H
 go_enter Try.func28,Try.ntmps28
 go_upto_region 2 with (first|((with_reducible refine gate_dst (N:=4) rfl ?_);refine ybx 4 #[.int .u64 a0_0, .int .u32 a0_1, .slice A0_2 l0_2.length c0_2] 54 ?_;intro gb266 hg w7 hbox hb;replace HO0_2:=yVe HO0_2 hg hb;have BK266:=zm (hbox);have GW266:=ygw hg;have GE266:=ygw hg;replace HB:=ybs hb;clear hb hbox hg)|((with_reducible refine gate_dst (N:=8) rfl ?_);refine ybx 8 #[.int .u64 0, .int .u32 0, .slice none 0 0] 54 ?_;intro gb267 hg w8 hbox hb;replace HO0_2:=yVe HO0_2 hg hb;have BK267:=zm (hbox);have GW267:=ygw hg;have GE267:=ygw hg;replace HB:=ybs hb;have NB266_267:=ynl BK266 hg;have NB267_266:=yng BK266 hg;replace BK266:=ybb BK266 hb;clear hb hbox hg;have:=NB266_267.out;have:=NB267_266.out;obtain ⟨hcz10_0,hcz10_1,hcz10_2,hfz10_0,hfz10_1,hfz10_2⟩:=yc3 BK266)|((with_reducible refine gate_callee (f:=26) rfl ?_);refine ygl 19 Try.func26 #[.agg #[.int .u64 a0_0, .int .u32 a0_1, .slice A0_2 l0_2.length c0_2], .int .i64 0, .int .i64 1, .int .i64 0] ?_;(with_reducible refine (coder_Put.calls k a0_0 a0_1 _ _ l0_2 0 1 0 t268 t269 t270 t273 _ ?side1 ?side2 A5.out).mono ?_);(case side1=>exact yce (Kd.V_reads' HO0_2.out).2.2);(case side2=>exact (Kd.V_reads' HO0_2.out).2.1);rintro e w11 ⟨v271,rfl,ho0,hb⟩;refine ⟨_,rfl, ?_⟩;replace HO0_2:=zm (Kd.V_elder' (yr HO0_2) (Kd.R_base ho0) hb);have HO272:=zm (Kd.R_lower (Kd.R_newM (M:=fun k_=>(w.heap.size≤k_)) ho0 (zE yhb) (fun k_ h_=>h_)) (zE yhb));replace BK266:=ybb BK266 hb;replace BK267:=ybb BK267 hb;replace HB:=ybs hb;(try clear hb);(try clear ho0))|((with_reducible refine gate_dst (N:=10) rfl ?_);refine ybx 10 #[.int .u64 0, .int .u32 0, .slice none 0 0] 54 ?_;intro gb274 hg w12 hbox hb;replace HO0_2:=yVe HO0_2 hg hb;replace HO272:=yRb HO272 hb;have BK274:=zm (hbox);have GW274:=ygw hg;have GE274:=ygw hg;replace HB:=ybs hb;have NB266_274:=ynl BK266 hg;have NB274_266:=yng BK266 hg;replace BK266:=ybb BK266 hb;have NB267_274:=ynl BK267 hg;have NB274_267:=yng BK267 hg;replace BK267:=ybb BK267 hb;clear hb hbox hg;have:=NB274_266.out;have:=NB266_274.out;have:=NB274_267.out;have:=NB267_274.out;obtain ⟨hcz15_0,hcz15_1,hcz15_2,hfz15_0,hfz15_1,hfz15_2⟩:=yc3 BK274;obtain ⟨Ao16,co16,eo16⟩:=Kd.R_slice HO272.out;subst eo16))
 (try simp only [Act.put,List.setIfInBounds_toArray,List.set_cons_zero,List.set_cons_succ])
 go_cut [33] (fun v33 wc => ∃ (kq : Nat) (x33_5 : Bool),v33=.bool x33_5∧Aside0 (gain_Put.j0 kq l1 l2 a3 x33_5 a0_0 a0_1 l0_2 t268 t269 t270=some (r1,r2,r3,r4))∧Aside0 (kq≤k)∧Aside0 (Kd.V (Kd.int .u8) 5 wc w.heap.size (fun k_=>(P0_2_ k_∨w.heap.size≤k_)∧some k_≠((.slice Ao16 t270.length co16) : Value).ownBlock∧k_≠gb266∧k_≠gb267∧k_≠gb274) (.slice A0_2 l0_2.length c0_2) l0_2)∧Aside0 (Kd.R (Kd.int .u8) 5 wc w.heap.size (fun k_=>(w.heap.size≤k_)) (.slice Ao16 t270.length co16) t270)∧Aside0 (wc.heap[gb266]? = some (.cells #[.int .u64 a0_0, .int .u32 a0_1,(.slice A0_2 l0_2.length c0_2)] 54 (0,0)))∧Aside0 (wc.heap[gb267]? = some (.cells #[.int .u64 0, .int .u32 0,(.slice none 0 0)] 54 (0,0)))∧Aside0 (wc.heap[gb274]? = some (.cells #[.int .u64 t268, .int .u32 t269,(.slice Ao16 t270.length co16)] 54 (0,0)))∧Aside0 (Below w.heap.size w wc))
 case first =>
  have H:=HC6.out;clear HC6
  obtain ⟨t275,A17,H⟩:=ybi H
  by_cases c18 : t275=true
  ·
   subst c18
   rw [if_pos rfl] at H
   by_cases c19 : a3=true
   ·
    subst c19
    rw [if_pos rfl] at H
    have H' := zm H
    clear H
    go_wp2_with (first|((with_reducible refine gate_callee (f:=62) rfl ?_);refine ygl 23 Try.func62 #[.slice A1 l1.length c1] ?_;(with_reducible refine (gain_Right.calls k _ _ l1 true _ ?side1 HC1.out A17.out).mono ?_);(case side1=>exact Kd.C_below HR1.out yhb);rintro e w' ⟨rfl,⟨nd,rfl⟩⟩;refine ⟨_,rfl, ?_⟩))
    go_meet
    case rel=>exact ⟨_,(false),yq,H',⟨yo⟩,⟨yV0 HO0_2⟩,⟨yR1 HO272 BK274⟩,⟨yk BK266⟩,⟨yk BK267⟩,⟨ykp BK274⟩,⟨yhb⟩⟩
   ·
    replace c19:=Bool.eq_false_iff.mpr c19
    subst c19
    rw [ynf] at H
    obtain ⟨t276,A20,H⟩:=ybi H
    have H' := zm H
    clear H
    go_wp2_with (first|((with_reducible refine gate_callee (f:=62) rfl ?_);refine ygl 23 Try.func62 #[.slice A1 l1.length c1] ?_;(with_reducible refine (gain_Right.calls k _ _ l1 true _ ?side1 HC1.out A17.out).mono ?_);(case side1=>exact Kd.C_below HR1.out yhb);rintro e w' ⟨rfl,⟨nd,rfl⟩⟩;refine ⟨_,rfl, ?_⟩)|(go_at_call 62;(with_reducible refine (gain_Right.calls k _ _ l2 t276 _ ?side1 HC2.out A20.out).mono ?_);(case side1=>exact Kd.C_below HR2.out yhb);rintro e w' ⟨rfl,⟨nd,rfl⟩⟩))
    go_meet
    case rel=>exact ⟨_,(!t276),yq,H',⟨yo⟩,⟨yV0 HO0_2⟩,⟨yR1 HO272 BK274⟩,⟨yk BK266⟩,⟨yk BK267⟩,⟨ykp BK274⟩,⟨yhb⟩⟩
  ·
   replace c18:=Bool.eq_false_iff.mpr c18
   subst c18
   rw [ynf] at H
   have H' := zm H
   clear H
   go_wp2_with (first|((with_reducible refine gate_callee (f:=62) rfl ?_);refine ygl 23 Try.func62 #[.slice A1 l1.length c1] ?_;(with_reducible refine (gain_Right.calls k _ _ l1 false _ ?side1 HC1.out A17.out).mono ?_);(case side1=>exact Kd.C_below HR1.out yhb);rintro e w' ⟨rfl,⟨nd,rfl⟩⟩;refine ⟨_,rfl, ?_⟩))
   go_meet
   case rel=>exact ⟨_,(true),yq,H',⟨yo⟩,⟨yV0 HO0_2⟩,⟨yR1 HO272 BK274⟩,⟨yk BK266⟩,⟨yk BK267⟩,⟨ykp BK274⟩,⟨yhb⟩⟩
 case rest =>
  clear HC6
  try clear c1
  try clear c2
  try clear hcz10_0
  try clear hcz10_1
  try clear hcz10_2
  try clear hcz15_0
  try clear hcz15_1
  try clear hcz15_2
  try clear hfz10_0
  try clear hfz10_1
  try clear hfz10_2
  try clear hfz15_0
  try clear hfz15_1
  try clear hfz15_2
  obtain ⟨kq,x33_5,rfl,HA,HJ5,HO_267002,HO_275002,BK266,BK267,BK274,HB⟩:=hcut
  obtain ⟨kj5,rfl⟩:=ysu kq (fun h=>by subst h;exact absurd HA.out (by simp [gain_Put.j0]))
  have H:=HA.out;clear HA
  simp only [gain_Put.j0] at H
  by_cases c21 : x33_5=true
  ·
   subst c21
   rw [if_pos rfl] at H
   simp only [Option.some.injEq,Prod.mk.injEq] at H
   obtain ⟨rfl,rfl,rfl,rfl⟩:=H
   have:=NB274_266.out
   have:=NB266_274.out
   have:=NB274_267.out
   have:=NB267_274.out
   obtain ⟨hcz24_0,hcz24_1,hcz24_2,hfz24_0,hfz24_1,hfz24_2⟩:=yc3 BK274
   have:=NB267_266.out
   have:=NB266_267.out
   obtain ⟨hcz26_0,hcz26_1,hcz26_2,hfz26_0,hfz26_1,hfz26_2⟩:=yc3 BK267
   go_wp2
   refine bodyPost_ret (results_ct rfl _ _ gb267 54 #[.int .u64 t268, .int .u32 t269, .slice Ao16 t270.length co16] (0,0) _ rfl (ykp BK267) Try.underlying54 rfl (by kernel_rfl)) rfl ?_
   exact ⟨_,ye,zy (Kd.R_V (by (with_reducible repeat (first|apply zo|apply zp|apply zq));exact zG (zH (p:=⟨gb267,2,none⟩) (zH (p:=⟨gb267,1,none⟩) (zH (p:=⟨gb267,0,none⟩) (Kd.R_types HO_275002.out BK267.out (by decide)) (fun _ hk=>hk.2) (.int .u64 t268)) (fun _ hk=>hk.2) (.int .u32 t269)) (fun _ hk=>hk.2) (.slice Ao16 t270.length co16)) (fun _ hk=>hk.1))) (fun k_ hk=>by first|exact ⟨(.inr (hk.1)),hk.2⟩|exact (.inr (hk))),yhb⟩
  ·
   replace c21:=Bool.eq_false_iff.mpr c21
   subst c21
   rw [ynf] at H
   have H' := zm H
   clear H
   have:=NB266_267.out
   have:=NB267_266.out
   have:=NB266_274.out
   have:=NB274_266.out
   obtain ⟨hcz29_0,hcz29_1,hcz29_2,hfz29_0,hfz29_1,hfz29_2⟩:=yc3 BK266
   go_wp2_with (first|((with_reducible refine gate_dst (N:=12) rfl ?_);refine ybx 12 #[.int .u64 0, .int .u32 0, .slice none 0 0] 54 ?_;intro gb277 hg w30 hbox hb;replace HO_267002:=yVe HO_267002 hg hb;replace HO_275002:=yRb HO_275002 hb;have BK277:=zm (hbox);have GW277:=ygw hg;have GE277:=ygw hg;replace HB:=ybs hb;have NB266_277:=ynl BK266 hg;have NB277_266:=yng BK266 hg;replace BK266:=ybb BK266 hb;have NB267_277:=ynl BK267 hg;have NB277_267:=yng BK267 hg;replace BK267:=ybb BK267 hb;have NB274_277:=ynl BK274 hg;have NB277_274:=yng BK274 hg;replace BK274:=ybb BK274 hb;clear hb hbox hg;have:=NB277_266.out;have:=NB266_277.out;have:=NB277_267.out;have:=NB267_277.out;have:=NB277_274.out;have:=NB274_277.out;obtain ⟨hcz34_0,hcz34_1,hcz34_2,hfz34_0,hfz34_1,hfz34_2⟩:=yc3 BK277))
   go_loopg [36] kj5 (fun kq v36 w' => ∃ (x36_2 : Int) (x268000_2 : Int) (x268001_2 : Int) (x278000_2 : Int) (x278001_2 : Int) (x278002_2 : List Int) (u278002 : Value),v36=.int .i64 x36_2∧Aside0 (gain_Put.l0 kq l1 l2 a3 x36_2 t268 t269 t270 x278000_2 x278001_2 x278002_2=some (r1,r2,r3,r4))∧Aside0 (kq≤kj5)∧Aside0 (Kd.V (Kd.int .u8) 5 w' w.heap.size (fun k_=>(P0_2_ k_∨w.heap.size≤k_)∧some k_≠((.slice Ao16 t270.length co16) : Value).ownBlock∧k_≠gb266∧k_≠gb267∧k_≠gb274∧k_≠gb277) (.slice A0_2 l0_2.length c0_2) l0_2)∧Aside0 (Kd.R (Kd.int .u8) 5 w' w.heap.size (fun k_=>(w.heap.size≤k_)) (.slice Ao16 t270.length co16) t270)∧Aside0 (Kd.V (Kd.int .u8) 5 w' w.heap.size (fun k_=>(P0_2_ k_∨w.heap.size≤k_)∧some k_≠((.slice Ao16 t270.length co16) : Value).ownBlock∧k_≠gb266∧k_≠gb267∧k_≠gb274∧k_≠gb277) u278002 x278002_2)∧Aside0 (w'.heap[gb266]? = some (.cells #[.int .u64 a0_0, .int .u32 a0_1,(.slice A0_2 l0_2.length c0_2)] 54 (0,0)))∧Aside0 (w'.heap[gb267]? = some (.cells #[.int .u64 x268000_2, .int .u32 x268001_2,(.slice none 0 0)] 54 (0,0)))∧Aside0 (w'.heap[gb274]? = some (.cells #[.int .u64 t268, .int .u32 t269,(.slice Ao16 t270.length co16)] 54 (0,0)))∧Aside0 (w'.heap[gb277]? = some (.cells #[.int .u64 x278000_2, .int .u32 x278001_2,u278002] 54 (0,0)))∧Aside0 (Below w.heap.size w w'))
   case atStart=>exact ⟨(0),(0),(0),(a0_0),(a0_1),(l0_2),(.slice A0_2 l0_2.length c0_2),yq,H',⟨Nat.le_refl _⟩,⟨yV0 HO_267002⟩,⟨yR1 HO_275002 BK277⟩,⟨yV0 HO_267002⟩,⟨yk BK266⟩,⟨yk BK267⟩,⟨yk BK274⟩,⟨ykp BK277⟩,⟨yhb⟩⟩
   case round =>
    clear H'
    try clear hcz24_0
    try clear hcz24_1
    try clear hcz24_2
    try clear hcz26_0
    try clear hcz26_1
    try clear hcz26_2
    try clear hcz29_0
    try clear hcz29_1
    try clear hcz29_2
    try clear hcz34_0
    try clear hcz34_1
    try clear hcz34_2
    try clear hfz24_0
    try clear hfz24_1
    try clear hfz24_2
    try clear hfz26_0
    try clear hfz26_1
    try clear hfz26_2
    try clear hfz29_0
    try clear hfz29_1
    try clear hfz29_2
    try clear hfz34_0
    try clear hfz34_1
    try clear hfz34_2
    obtain ⟨x36_2,x268000_2,x268001_2,x278000_2,x278001_2,x278002_2,u278002,rfl,HA,HK2,HO_267002,HO_275002,HO_278002,BK266,BK267,BK274,BK277,HB⟩:=hrel
    obtain ⟨k2,rfl⟩:=ysu gk (fun h=>by subst h;exact absurd HA.out (by simp [gain_Put.l0]))
    have H:=HA.out;clear HA
    simp only [gain_Put.l0] at H
    by_cases c35 : x36_2 < 5
    ·
     rw [if_pos c35] at H
     have c35b0 : decide (x36_2 < 5)=true:=decide_eq_true c35
     clear c35;have HC36:=zm H;clear H
     go_upto_if 40 with (fail)
     go_cut [14] (fun v14 wc => ∃ (kq : Nat) (x14_35 : Int),v14=.int .i64 x14_35∧Aside0 (gain_Put.j2 kq l1 l2 a3 x36_2 x14_35 x36_2 t268 t269 t270 x278000_2 x278001_2 x278002_2=some (r1,r2,r3,r4))∧Aside0 (kq≤k2)∧Aside0 (Kd.V (Kd.int .u8) 5 wc w.heap.size (fun k_=>(P0_2_ k_∨w.heap.size≤k_)∧some k_≠((.slice Ao16 t270.length co16) : Value).ownBlock∧k_≠gb266∧k_≠gb267∧k_≠gb274∧k_≠gb277) (.slice A0_2 l0_2.length c0_2) l0_2)∧Aside0 (Kd.R (Kd.int .u8) 5 wc w.heap.size (fun k_=>(w.heap.size≤k_)) (.slice Ao16 t270.length co16) t270)∧Aside0 (Kd.V (Kd.int .u8) 5 wc w.heap.size (fun k_=>(P0_2_ k_∨w.heap.size≤k_)∧some k_≠((.slice Ao16 t270.length co16) : Value).ownBlock∧k_≠gb266∧k_≠gb267∧k_≠gb274∧k_≠gb277) u278002 x278002_2)∧Aside0 (wc.heap[gb266]? = some (.cells #[.int .u64 a0_0, .int .u32 a0_1,(.slice A0_2 l0_2.length c0_2)] 54 (0,0)))∧Aside0 (wc.heap[gb267]? = some (.cells #[.int .u64 x268000_2, .int .u32 x268001_2,(.slice none 0 0)] 54 (0,0)))∧Aside0 (wc.heap[gb274]? = some (.cells #[.int .u64 t268, .int .u32 t269,(.slice Ao16 t270.length co16)] 54 (0,0)))∧Aside0 (wc.heap[gb277]? = some (.cells #[.int .u64 x278000_2, .int .u32 x278001_2,u278002] 54 (0,0)))∧Aside0 (Below w.heap.size w wc))
     case first =>
      have H:=HC36.out;clear HC36
      by_cases c37 : a3=true
      ·
       subst c37
       rw [if_pos rfl] at H
       have H' := zm H
       clear H
       go_wp2
       go_meet
       case rel=>exact ⟨_,(0),yq,H',⟨yom2 HJ5 HK2⟩,⟨yr HO_267002⟩,⟨yr HO_275002⟩,⟨yr HO_278002⟩,⟨yk BK266⟩,⟨yk BK267⟩,⟨yk BK274⟩,⟨yk BK277⟩,⟨yhb⟩⟩
      ·
       replace c37:=Bool.eq_false_iff.mpr c37
       subst c37
       rw [ynf] at H
       obtain ⟨c38,H⟩:=yif H
       have c38b0 : decide (0≤x36_2)=true:=decide_eq_true c38
       clear c38
       (first|rw [c38b0]|(simp only [i64_w,i32_w];rw [c38b0])|skip)
       obtain ⟨c39,H⟩:=yif H
       have c39b0 : decide (x36_2 < (l2.length : Int))=true:=decide_eq_true c39
       clear c39
       have H' := zm H
       clear H
       have p278 : 0≤(x36_2 : Int):=yt
       have q278 : x36_2 < (l2.length : Int):=yt
       obtain ⟨ad278,e278,hx278_0⟩:=Kd.at_int HR2.out x36_2 p278 q278
       cases e278
       replace hx278_0:=yhx HB hx278_0
       replace p278:=eq_true p278
       replace q278:=eq_true q278
       go_wp2
       go_meet
       case rel=>exact ⟨_,(rd l2 x36_2),yq,H',⟨yom2 HJ5 HK2⟩,⟨yr HO_267002⟩,⟨yr HO_275002⟩,⟨yr HO_278002⟩,⟨yk BK266⟩,⟨yk BK267⟩,⟨yk BK274⟩,⟨yk BK277⟩,⟨yhb⟩⟩
     case rest =>
      clear HC36
      try clear c35b0
      obtain ⟨kq,x14_35,rfl,HA,HJ35,HO_267002,HO_275002,HO_278002,BK266,BK267,BK274,BK277,HB⟩:=hcut
      obtain ⟨kj35,rfl⟩:=ysu kq (fun h=>by subst h;exact absurd HA.out (by simp [gain_Put.j2]))
      have H:=HA.out;clear HA
      simp only [gain_Put.j2] at H
      obtain ⟨c40,H⟩:=yif H
      have c40b0 : decide (0≤x36_2)=true:=decide_eq_true c40
      clear c40
      obtain ⟨c41,H⟩:=yif H
      have c41b0 : decide (x36_2 < (l1.length : Int))=true:=decide_eq_true c41
      clear c41
      obtain ⟨⟨t280,t281,t282,t285⟩,A42,H⟩:=ybi H
      try dsimp only at H
      by_cases c43 : t285=0
      ·
       rw [if_pos c43] at H
       have c43b0 : (t285 == 0)=true:=beq_iff_eq.mpr c43
       have c43b1 : (t285 != 0)=false:=bne_eq_false_iff_eq.mpr c43
       clear c43
       have H' := zm H
       clear H
       obtain ⟨Ao44,co44,eo44⟩:=Kd.V_slice HO_278002.out
       subst eo44
       try go_wp2
       replace HO_267002:=zm (zC HO_267002.out)
       replace HO_275002:=zm (zq HO_275002.out)
       replace HO_278002:=zm (zC HO_278002.out)
       replace BK266:=zm (zj BK266.out)
       replace BK267:=zm (zj BK267.out)
       replace BK274:=zm (zj BK274.out)
       replace BK277:=zm (zj BK277.out)
       replace HB:=zm (zf HB.out)
       have p279 : 0≤(x36_2 : Int):=yt
       have q279 : x36_2 < (l1.length : Int):=yt
       obtain ⟨ad279,e279,hx279_0⟩:=Kd.at_int HR1.out x36_2 p279 q279
       have hw279_0:=hx279_0
       cases e279
       replace hx279_0:=yhx HB hx279_0
       replace p279:=eq_true p279
       replace q279:=eq_true q279
       refine yst (fun w' => w'.cell? ⟨gb277,0,none⟩=some (.int .u64 x278000_2)∧w'.cell? ⟨gb277,1,none⟩=some (.int .u32 x278001_2)∧w'.cell? ⟨gb277,2,none⟩=some (.slice Ao44 x278002_2.length co44)∧w'.cell? (ad279.add (x36_2).toNat)=some (.int .i64 (rd l1 x36_2))) [] 14 gain_Put.tab11 gain_Put.bits11 (fun hHeld HT_ HW_ => ?_)
       generalize wc.drew=w45 at HO_267002 HO_275002 HO_278002 BK266 BK267 BK274 BK277 HB hx279_0 hHeld ⊢
       refine yp 1 47 HT_ ?_
       refine yp 2 48 HT_ ?_
       refine yp 3 49 HT_ ?_
       refine yp 5 51 HT_ ?_
       refine yp 6 52 HT_ ?_
       refine yl 0 46 HT_ HW_ hHeld ?_
       refine yl 4 50 HT_ HW_ hHeld ?_
       refine join_ (σ:=Value × Nat) 2 #[true,true,true,true,true,true,true,true,true,true,true,true,false,false] (fun s_ => [(53, .tuple #[.agg #[.int .u64 t280, .int .u32 t281,s_.1], .int .i64 t285]),(15, .pointer (some ⟨s_.2,0,none⟩)),(45, .tuple #[.agg #[.int .u64 t280, .int .u32 t281,s_.1], .int .i64 t285]),(54, .agg #[.int .u64 t280, .int .u32 t281,s_.1]),(55, .int .i64 t285)]) (fun s_ w' => (w'.cell? ⟨gb277,0,none⟩=some (.int .u64 x278000_2)∧w'.cell? ⟨gb277,1,none⟩=some (.int .u32 x278001_2)∧w'.cell? ⟨gb277,2,none⟩=some (.slice Ao44 x278002_2.length co44)∧w'.cell? (ad279.add (x36_2).toNat)=some (.int .i64 (rd l1 x36_2)))∧(Kd.R (Kd.int .u8) 5 w' w.heap.size (fun k_=>(w.heap.size≤k_)∧some k_≠(.slice Ao16 t270.length co16 : Value).ownBlock) s_.1 t282)∧(Kd.V (Kd.int .u8) 5 w' w.heap.size (fun k_=>(P0_2_ k_∨w.heap.size≤k_)∧some k_≠(s_.1 : Value).ownBlock∧some k_≠(.slice Ao16 t270.length co16 : Value).ownBlock∧k_≠gb266∧k_≠gb267∧k_≠gb274∧k_≠gb277∧k_≠s_.2) (.slice A0_2 l0_2.length c0_2) l0_2)∧(Kd.R (Kd.int .u8) 5 w' w.heap.size (fun k_=>(w.heap.size≤k_)∧some k_≠(s_.1 : Value).ownBlock) (.slice Ao16 t270.length co16) t270)∧(Kd.V (Kd.int .u8) 5 w' w.heap.size (fun k_=>(P0_2_ k_∨w.heap.size≤k_)∧some k_≠(s_.1 : Value).ownBlock∧some k_≠(.slice Ao16 t270.length co16 : Value).ownBlock∧k_≠gb266∧k_≠gb267∧k_≠gb274∧k_≠gb277∧k_≠s_.2) (.slice Ao44 x278002_2.length co44) x278002_2)∧(w'.heap[gb266]? = some (.cells #[.int .u64 a0_0, .int .u32 a0_1, .slice A0_2 l0_2.length c0_2] 54 (0,0)))∧(w'.heap[gb267]? = some (.cells #[.int .u64 x268000_2, .int .u32 x268001_2, .slice none 0 0] 54 (0,0)))∧(w'.heap[gb274]? = some (.cells #[.int .u64 t268, .int .u32 t269, .slice Ao16 t270.length co16] 54 (0,0)))∧(w'.heap[gb277]? = some (.cells #[.int .u64 x278000_2, .int .u32 x278001_2, .slice Ao44 x278002_2.length co44] 54 (0,0)))∧(w'.heap[s_.2]? = some (.cells #[.int .u64 0, .int .u32 0, .slice none 0 0] 54 (0,0)))∧(w.heap.size≤s_.2)∧(w.heap.size≤s_.2)∧(gb266≠s_.2)∧(s_.2≠gb266)∧(gb267≠s_.2)∧(s_.2≠gb267)∧(gb274≠s_.2)∧(s_.2≠gb274)∧(gb277≠s_.2)∧(s_.2≠gb277)∧(Below w.heap.size w w')) ?_ ?_
       rotate_left
       ·
        intro hCont
        refine two_ (i:=7) (j:=11) (Ni:=some 53) (Nj:=some 15) #[true,true,true,true,true,true,true,true,false,false,false,false,false,false] #[true,true,true,true,true,true,true,false,false,false,false,true,false,false] rfl rfl rfl rfl (two_of HT_.out (by kernel_rfl)) (by decide) (by decide) (fun K hK => ?_) (fun K hK => ?_)
        ·
         skip
         refine ygs Try.func67 #[.agg #[.int .u64 x278000_2, .int .u32 x278001_2, .slice Ao44 x278002_2.length co44], .int .i64 (rd l1 x36_2), .int .i64 x14_35, .bool a3] ?_
         with_reducible refine (gain_put.calls kj35 x278000_2 x278001_2 _ _ x278002_2 (rd l1 x36_2) x14_35 a3 t280 t281 t282 t285 _ ?side1 ?side2 A42.out).mono ?_
         (case side1=>exact yce (Kd.V_reads' HO_278002.out).2.2)
         (case side2=>exact (Kd.V_reads' HO_278002.out).2.1)
         rintro e w46 ⟨v283,rfl,ho0,hb⟩
         refine ⟨_,rfl, ?_⟩
         replace HO_267002:=zm (Kd.V_elder' (yr HO_267002) (Kd.R_base ho0) hb)
         replace HO_278002:=zm (Kd.V_elder' (yr HO_278002) (Kd.R_base ho0) hb)
         have HO284:=zm (Kd.R_lower (Kd.R_new' (Kd.R_newM (M:=fun k_=>(w.heap.size≤k_)) ho0 (zE yhb) (fun k_ h_=>h_)) (Kd.R_lt (yr HO_275002))) (zE yhb))
         replace HO_275002:=zm (Kd.R_elder' (yr HO_275002) (Kd.R_base ho0) hb)
         replace BK266:=ybb BK266 hb
         replace BK267:=ybb BK267 hb
         replace BK274:=ybb BK274 hb
         replace BK277:=ybb BK277 hb
         replace HB:=ybs hb
         (try clear hb)
         (try clear ho0)
         refine hK.out _ _ yH (fun hHeld => ?_)
         clear hK K
         refine ym (some 53) ?_
         refine yp 8 45 HT_ ?_
         refine yp 9 54 HT_ ?_
         refine yp 10 55 HT_ ?_
         refine yw 11 15 HT_ (fun K hK => ?_)
         refine box_step ?hg (N:=15) ?hd (cs := #[.int .u64 0, .int .u32 0, .slice none 0 0]) (t:=54) ?hr ?_;(case hd=>rfl);(case hg=>rfl);(case hr=>first|(go_simp;done)|(go_simp;rfl))
         intro gb286 hg w47 hbox hb
         replace HO_267002:=yVe HO_267002 hg hb
         replace HO_275002:=yRb HO_275002 hb
         replace HO_278002:=yVe HO_278002 hg hb
         replace HO284:=yRb HO284 hb
         have BK286:=zm (hbox)
         have GW286:=ygw hg
         have GE286:=ygw hg
         replace HB:=ybs hb
         have NB266_286:=ynl BK266 hg
         have NB286_266:=yng BK266 hg
         replace BK266:=ybb BK266 hb
         have NB267_286:=ynl BK267 hg
         have NB286_267:=yng BK267 hg
         replace BK267:=ybb BK267 hb
         have NB274_286:=ynl BK274 hg
         have NB286_274:=yng BK274 hg
         replace BK274:=ybb BK274 hb
         have NB277_286:=ynl BK277 hg
         have NB286_277:=yng BK277 hg
         replace BK277:=ybb BK277 hb
         clear hb hbox hg
         refine hK.out _ _ yH (fun hHeld => ?_)
         clear hK K
         refine ym (some 15) ?_
         exact norm_ (by simp only [putAll,Act.put,List.setIfInBounds_toArray,List.set_cons_zero,List.set_cons_succ]) (hCont (v283,gb286) _ ⟨hHeld,(yR0 HO284),(yV0 HO_267002),(yr HO_275002),(yV0 HO_278002),(yk BK266),(yk BK267),(yk BK274),(yk BK277),(yk BK286),GW286.out,GE286.out,NB266_286.out,NB286_266.out,NB267_286.out,NB286_267.out,NB274_286.out,NB286_274.out,NB277_286.out,NB286_277.out,yhb⟩)
        ·
         skip
         refine box_step ?hg (N:=15) ?hd (cs := #[.int .u64 0, .int .u32 0, .slice none 0 0]) (t:=54) ?hr ?_;(case hd=>rfl);(case hg=>rfl);(case hr=>first|(go_simp;done)|(go_simp;rfl))
         intro gb286 hg w46 hbox hb
         replace HO_267002:=yVe HO_267002 hg hb
         replace HO_275002:=yRb HO_275002 hb
         replace HO_278002:=yVe HO_278002 hg hb
         have BK286:=zm (hbox)
         have GW286:=ygw hg
         have GE286:=ygw hg
         replace HB:=ybs hb
         have NB266_286:=ynl BK266 hg
         have NB286_266:=yng BK266 hg
         replace BK266:=ybb BK266 hb
         have NB267_286:=ynl BK267 hg
         have NB286_267:=yng BK267 hg
         replace BK267:=ybb BK267 hb
         have NB274_286:=ynl BK274 hg
         have NB286_274:=yng BK274 hg
         replace BK274:=ybb BK274 hb
         have NB277_286:=ynl BK277 hg
         have NB286_277:=yng BK277 hg
         replace BK277:=ybb BK277 hb
         clear hb hbox hg
         refine hK.out _ _ yH (fun hHeld => ?_)
         clear hK K
         refine ym (some 15) ?_
         refine yw 7 53 HT_ (fun K hK => ?_)
         refine ygs Try.func67 #[.agg #[.int .u64 x278000_2, .int .u32 x278001_2, .slice Ao44 x278002_2.length co44], .int .i64 (rd l1 x36_2), .int .i64 x14_35, .bool a3] ?_
         with_reducible refine (gain_put.calls kj35 x278000_2 x278001_2 _ _ x278002_2 (rd l1 x36_2) x14_35 a3 t280 t281 t282 t285 _ ?side1 ?side2 A42.out).mono ?_
         (case side1=>exact yce (Kd.V_reads' HO_278002.out).2.2)
         (case side2=>exact (Kd.V_reads' HO_278002.out).2.1)
         rintro e w47 ⟨v283,rfl,ho0,hb⟩
         refine ⟨_,rfl, ?_⟩
         replace HO_267002:=zm (Kd.V_elder' (yr HO_267002) (Kd.R_base ho0) hb)
         replace HO_278002:=zm (Kd.V_elder' (yr HO_278002) (Kd.R_base ho0) hb)
         have HO284:=zm (Kd.R_lower (Kd.R_new' (Kd.R_newM (M:=fun k_=>(w.heap.size≤k_)) ho0 (zE yhb) (fun k_ h_=>h_)) (Kd.R_lt (yr HO_275002))) (zE yhb))
         replace HO_275002:=zm (Kd.R_elder' (yr HO_275002) (Kd.R_base ho0) hb)
         replace BK266:=ybb BK266 hb
         replace BK267:=ybb BK267 hb
         replace BK274:=ybb BK274 hb
         replace BK277:=ybb BK277 hb
         replace BK286:=ybb BK286 hb
         replace HB:=ybs hb
         (try clear hb)
         (try clear ho0)
         refine hK.out _ _ yH (fun hHeld => ?_)
         clear hK K
         refine ym (some 53) ?_
         refine yp 8 45 HT_ ?_
         refine yp 9 54 HT_ ?_
         refine yp 10 55 HT_ ?_
         exact norm_ (by simp only [putAll,Act.put,List.setIfInBounds_toArray,List.set_cons_zero,List.set_cons_succ]) (hCont (v283,gb286) _ ⟨hHeld,(yR0 HO284),(yV0 HO_267002),(yr HO_275002),(yV0 HO_278002),(yk BK266),(yk BK267),(yk BK274),(yk BK277),(yk BK286),GW286.out,GE286.out,NB266_286.out,NB286_266.out,NB267_286.out,NB286_267.out,NB274_286.out,NB286_274.out,NB277_286.out,NB286_277.out,yhb⟩)
       rintro ⟨v283,gb286⟩ w48 ⟨hS_,h0_,h1_,h2_,h3_,h4_,h5_,h6_,h7_,h8_,h9_,h10_,h11_,h12_,h13_,h14_,h15_,h16_,h17_,h18_,h19_⟩
       have n0_ : Aside0 (Kd.R (Kd.int .u8) 5 w48 w.heap.size (fun k_=>(w.heap.size≤k_)∧some k_≠(.slice Ao16 t270.length co16 : Value).ownBlock) v283 t282):=⟨h0_⟩
       have n1_ : Aside0 (Kd.V (Kd.int .u8) 5 w48 w.heap.size (fun k_=>(P0_2_ k_∨w.heap.size≤k_)∧some k_≠(v283 : Value).ownBlock∧some k_≠(.slice Ao16 t270.length co16 : Value).ownBlock∧k_≠gb266∧k_≠gb267∧k_≠gb274∧k_≠gb277∧k_≠gb286) (.slice A0_2 l0_2.length c0_2) l0_2):=⟨h1_⟩
       have n2_ : Aside0 (Kd.R (Kd.int .u8) 5 w48 w.heap.size (fun k_=>(w.heap.size≤k_)∧some k_≠(v283 : Value).ownBlock) (.slice Ao16 t270.length co16) t270):=⟨h2_⟩
       have n3_ : Aside0 (Kd.V (Kd.int .u8) 5 w48 w.heap.size (fun k_=>(P0_2_ k_∨w.heap.size≤k_)∧some k_≠(v283 : Value).ownBlock∧some k_≠(.slice Ao16 t270.length co16 : Value).ownBlock∧k_≠gb266∧k_≠gb267∧k_≠gb274∧k_≠gb277∧k_≠gb286) (.slice Ao44 x278002_2.length co44) x278002_2):=⟨h3_⟩
       have n4_ : Aside0 (w48.heap[gb266]? = some (.cells #[.int .u64 a0_0, .int .u32 a0_1, .slice A0_2 l0_2.length c0_2] 54 (0,0))):=⟨h4_⟩
       have n5_ : Aside0 (w48.heap[gb267]? = some (.cells #[.int .u64 x268000_2, .int .u32 x268001_2, .slice none 0 0] 54 (0,0))):=⟨h5_⟩
       have n6_ : Aside0 (w48.heap[gb274]? = some (.cells #[.int .u64 t268, .int .u32 t269, .slice Ao16 t270.length co16] 54 (0,0))):=⟨h6_⟩
       have n7_ : Aside0 (w48.heap[gb277]? = some (.cells #[.int .u64 x278000_2, .int .u32 x278001_2, .slice Ao44 x278002_2.length co44] 54 (0,0))):=⟨h7_⟩
       have n8_ : Aside0 (w48.heap[gb286]? = some (.cells #[.int .u64 0, .int .u32 0, .slice none 0 0] 54 (0,0))):=⟨h8_⟩
       have n9_ : Aside0 (w.heap.size≤gb286):=⟨h9_⟩
       have n10_ : Aside0 (w.heap.size≤gb286):=⟨h10_⟩
       have n11_ : Aside0 (gb266≠gb286):=⟨h11_⟩
       have n12_ : Aside0 (gb286≠gb266):=⟨h12_⟩
       have n13_ : Aside0 (gb267≠gb286):=⟨h13_⟩
       have n14_ : Aside0 (gb286≠gb267):=⟨h14_⟩
       have n15_ : Aside0 (gb274≠gb286):=⟨h15_⟩
       have n16_ : Aside0 (gb286≠gb274):=⟨h16_⟩
       have n17_ : Aside0 (gb277≠gb286):=⟨h17_⟩
       have n18_ : Aside0 (gb286≠gb277):=⟨h18_⟩
       have n19_ : Aside0 (Below w.heap.size w w48):=⟨h19_⟩
       clear HO_267002;clear HO_275002;clear HO_278002;clear BK266;clear BK267;clear BK274;clear BK277;clear HB;clear h0_ h1_ h2_ h3_ h4_ h5_ h6_ h7_ h8_ h9_ h10_ h11_ h12_ h13_ h14_ h15_ h16_ h17_ h18_ h19_;have HO284:=n0_;have HO_267002:=n1_;have HO_275002:=n2_;have HO_278002:=n3_;have BK266:=n4_;have BK267:=n5_;have BK274:=n6_;have BK277:=n7_;have BK286:=n8_;have GW286:=n9_;have GE286:=n10_;have NB266_286:=n11_;have NB286_266:=n12_;have NB267_286:=n13_;have NB286_267:=n14_;have NB274_286:=n15_;have NB286_274:=n16_;have NB277_286:=n17_;have NB286_277:=n18_;have HB:=n19_;clear n0_ n1_ n2_ n3_ n4_ n5_ n6_ n7_ n8_ n9_ n10_ n11_ n12_ n13_ n14_ n15_ n16_ n17_ n18_ n19_
       have hHeld : w48.cell? ⟨gb277,0,none⟩=some (.int .u64 x278000_2)∧w48.cell? ⟨gb277,1,none⟩=some (.int .u32 x278001_2)∧w48.cell? ⟨gb277,2,none⟩=some (.slice Ao44 x278002_2.length co44)∧w48.cell? (ad279.add (x36_2).toNat)=some (.int .i64 (rd l1 x36_2)):=hS_
       obtain ⟨Ao51,co51,eo51⟩:=Kd.R_slice HO284.out
       (first|subst eo51|(injection eo51 with f1_ f2_ f3_;have f4_:=f1_.symm;have f5_:=f3_.symm;clear f1_ f2_ f3_;subst f4_;subst f5_))
       refine norm_ (a' := ?_) ?_ ?_
       rotate_left
       ·
        simp only [putAll,Act.put,List.setIfInBounds_toArray,List.set_cons_zero,List.set_cons_succ]
        rfl
       refine yv 12 HT_ (fun K hK => ?_)
       have hs49 : w48.cell? ⟨gb286,0,none⟩=some (.int .u64 0):=(zs BK286.out 0).trans rfl
       have hfs49:=zx BK286.out 0
       have:=NB266_286.out
       have:=NB267_286.out
       have:=NB274_286.out
       have:=NB277_286.out
       have:=NB286_266.out
       have:=NB286_267.out
       have:=NB286_274.out
       have:=NB286_277.out
       have hs50 : w48.cell? ⟨gb286,1,none⟩=some (.int .u32 0):=(zs BK286.out 1).trans rfl
       have hfs50:=zx BK286.out 1
       have:=NB266_286.out
       have:=NB267_286.out
       have:=NB274_286.out
       have:=NB277_286.out
       have:=NB286_266.out
       have:=NB286_267.out
       have:=NB286_274.out
       have:=NB286_277.out
       have hs52 : w48.cell? ⟨gb286,2,none⟩=some (.slice none 0 0):=(zs BK286.out 2).trans rfl
       have hfs52:=zx BK286.out 2
       have:=NB266_286.out
       have:=NB267_286.out
       have:=NB274_286.out
       have:=NB277_286.out
       have:=NB286_266.out
       have:=NB286_267.out
       have:=NB286_274.out
       have:=NB286_277.out
       refine skip_ (w1 := ?_) (by rfl) rfl ?_ ?_
       rotate_left
       ·
        go_simp
        rfl
       refine hK.out _ _ ⟨((zr (p:=⟨gb286,_,none⟩) NB277_286.out _).trans (((zr (p:=⟨gb286,_,none⟩) NB277_286.out _).trans (((zr (p:=⟨gb286,_,none⟩) NB277_286.out _).trans (hHeld.1)))))),((zr (p:=⟨gb286,_,none⟩) NB277_286.out _).trans (((zr (p:=⟨gb286,_,none⟩) NB277_286.out _).trans (((zr (p:=⟨gb286,_,none⟩) NB277_286.out _).trans (hHeld.2.1)))))),((zr (p:=⟨gb286,_,none⟩) NB277_286.out _).trans (((zr (p:=⟨gb286,_,none⟩) NB277_286.out _).trans (((zr (p:=⟨gb286,_,none⟩) NB277_286.out _).trans (hHeld.2.2.1)))))),((zr (p:=⟨gb286,_,none⟩) (by first|exact zn (zl (by have:=zb _ _ hw279_0;first|rwa [za] at this|exact this) GW286.out)|(rw [za];exact zn (zl (by have:=zb _ _ hw279_0;first|rwa [za] at this|exact this) GW286.out))|(show (Addr.add _ _).block≠_;rw [za];exact zn (zl (by have:=zb _ _ hw279_0;first|rwa [za] at this|exact this) GW286.out))|(dsimp only;exact zn (zl (by have:=zb _ _ hw279_0;first|rwa [za] at this|exact this) GW286.out))) _).trans (((zr (p:=⟨gb286,_,none⟩) (by first|exact zn (zl (by have:=zb _ _ hw279_0;first|rwa [za] at this|exact this) GW286.out)|(rw [za];exact zn (zl (by have:=zb _ _ hw279_0;first|rwa [za] at this|exact this) GW286.out))|(show (Addr.add _ _).block≠_;rw [za];exact zn (zl (by have:=zb _ _ hw279_0;first|rwa [za] at this|exact this) GW286.out))|(dsimp only;exact zn (zl (by have:=zb _ _ hw279_0;first|rwa [za] at this|exact this) GW286.out))) _).trans (((zr (p:=⟨gb286,_,none⟩) (by first|exact zn (zl (by have:=zb _ _ hw279_0;first|rwa [za] at this|exact this) GW286.out)|(rw [za];exact zn (zl (by have:=zb _ _ hw279_0;first|rwa [za] at this|exact this) GW286.out))|(show (Addr.add _ _).block≠_;rw [za];exact zn (zl (by have:=zb _ _ hw279_0;first|rwa [za] at this|exact this) GW286.out))|(dsimp only;exact zn (zl (by have:=zb _ _ hw279_0;first|rwa [za] at this|exact this) GW286.out))) _).trans (hHeld.2.2.2))))))⟩ (fun hHeld => ?_)
       clear hK K
       refine yp 13 16 HT_ ?_
       refine done_ (done_of HT_.out (by kernel_rfl)) ?_
       have:=NB286_266.out
       have:=NB266_286.out
       have:=NB286_267.out
       have:=NB267_286.out
       have:=NB286_274.out
       have:=NB274_286.out
       have:=NB286_277.out
       have:=NB277_286.out
       obtain ⟨_,_,_,_,_,_⟩:=yc3 BK286
       have:=NB277_266.out
       have:=NB266_277.out
       have:=NB277_267.out
       have:=NB267_277.out
       have:=NB277_274.out
       have:=NB274_277.out
       obtain ⟨_,_,_,_,_,_⟩:=yc3 BK277
       try go_wp2
       go_roundg kj35
       case measure=>exact yom3 HJ5 HK2 HJ35
       case rel=>exact ⟨(wrap64 (x36_2+1)),(x268000_2),(x268001_2),(t280),(t281),(t282),(.slice Ao51 t282.length co51),yq,H',⟨yom3 HJ5 HK2 HJ35⟩,⟨yV0 HO_267002⟩,⟨yR2 HO_275002 BK286 BK277⟩,⟨zy (Kd.R_V (ok:=fun k_=>w.heap.size≤k_∧some k_≠((.slice Ao16 t270.length co16) : Value).ownBlock∧k_≠gb266∧k_≠gb267∧k_≠gb274∧k_≠gb277) (by (with_reducible repeat (first|apply zo|apply zp|apply zq));exact zG (zH (p:=⟨gb277,2,none⟩) (zH (p:=⟨gb277,1,none⟩) (zH (p:=⟨gb277,0,none⟩) (zH (p:=⟨gb286,2,none⟩) (zH (p:=⟨gb286,1,none⟩) (zH (p:=⟨gb286,0,none⟩) (Kd.R_types (Kd.R_types (Kd.R_types (Kd.R_types (Kd.R_types (Kd.R_types HO284.out BK266.out (by decide)) BK267.out (by decide)) BK274.out (by decide)) BK277.out (by decide)) BK286.out (by decide)) BK277.out (by decide)) (fun _ hk=>hk.1.2) (.int .u64 t280)) (fun _ hk=>hk.1.2) (.int .u32 t281)) (fun _ hk=>hk.1.2) (.slice Ao51 t282.length co51)) (fun _ hk=>hk.2) (.int .u64 t280)) (fun _ hk=>hk.2) (.int .u32 t281)) (fun _ hk=>hk.2) (.slice Ao51 t282.length co51)) (fun _ hk=>⟨hk.1.1.1.1.1.1.1,⟨hk.1.1.1.1.1.1.2,⟨hk.1.1.1.1.1.2,⟨hk.1.1.1.1.2,⟨hk.1.1.1.2,hk.1.1.2⟩⟩⟩⟩⟩))) (fun k_ hk=>by first|exact ⟨(.inr (hk.1)),hk.2⟩|exact (.inr (hk)))⟩,⟨yk BK266⟩,⟨yk BK267⟩,⟨yk BK274⟩,⟨ykp BK277⟩,⟨yhb⟩⟩
      ·
       rw [if_neg c43] at H
       have c43b0 : (t285 == 0)=false:=beq_eq_false_iff_ne.mpr c43
       have c43b1 : (t285 != 0)=true:=bne_iff_ne.mpr c43
       simp only [Option.some.injEq,Prod.mk.injEq] at H
       obtain ⟨rfl,rfl,rfl,rfl⟩:=H
       obtain ⟨Ao62,co62,eo62⟩:=Kd.V_slice HO_278002.out
       subst eo62
       try go_wp2
       replace HO_267002:=zm (zC HO_267002.out)
       replace HO_275002:=zm (zq HO_275002.out)
       replace HO_278002:=zm (zC HO_278002.out)
       replace BK266:=zm (zj BK266.out)
       replace BK267:=zm (zj BK267.out)
       replace BK274:=zm (zj BK274.out)
       replace BK277:=zm (zj BK277.out)
       replace HB:=zm (zf HB.out)
       have p279 : 0≤(x36_2 : Int):=yt
       have q279 : x36_2 < (l1.length : Int):=yt
       obtain ⟨ad279,e279,hx279_0⟩:=Kd.at_int HR1.out x36_2 p279 q279
       have hw279_0:=hx279_0
       cases e279
       replace hx279_0:=yhx HB hx279_0
       replace p279:=eq_true p279
       replace q279:=eq_true q279
       refine yst (fun w' => w'.cell? ⟨gb277,0,none⟩=some (.int .u64 x278000_2)∧w'.cell? ⟨gb277,1,none⟩=some (.int .u32 x278001_2)∧w'.cell? ⟨gb277,2,none⟩=some (.slice Ao62 x278002_2.length co62)∧w'.cell? (ad279.add (x36_2).toNat)=some (.int .i64 (rd l1 x36_2))) [] 14 gain_Put.tab11 gain_Put.bits11 (fun hHeld HT_ HW_ => ?_)
       generalize wc.drew=w63 at HO_267002 HO_275002 HO_278002 BK266 BK267 BK274 BK277 HB hx279_0 hHeld ⊢
       refine yp 1 47 HT_ ?_
       refine yp 2 48 HT_ ?_
       refine yp 3 49 HT_ ?_
       refine yp 5 51 HT_ ?_
       refine yp 6 52 HT_ ?_
       refine yl 0 46 HT_ HW_ hHeld ?_
       refine yl 4 50 HT_ HW_ hHeld ?_
       refine join_ (σ:=Value × Nat) 2 #[true,true,true,true,true,true,true,true,true,true,true,true,false,false] (fun s_ => [(53, .tuple #[.agg #[.int .u64 t280, .int .u32 t281,s_.1], .int .i64 t285]),(15, .pointer (some ⟨s_.2,0,none⟩)),(45, .tuple #[.agg #[.int .u64 t280, .int .u32 t281,s_.1], .int .i64 t285]),(54, .agg #[.int .u64 t280, .int .u32 t281,s_.1]),(55, .int .i64 t285)]) (fun s_ w' => (w'.cell? ⟨gb277,0,none⟩=some (.int .u64 x278000_2)∧w'.cell? ⟨gb277,1,none⟩=some (.int .u32 x278001_2)∧w'.cell? ⟨gb277,2,none⟩=some (.slice Ao62 x278002_2.length co62)∧w'.cell? (ad279.add (x36_2).toNat)=some (.int .i64 (rd l1 x36_2)))∧(Kd.R (Kd.int .u8) 5 w' w.heap.size (fun k_=>(w.heap.size≤k_)∧some k_≠(.slice Ao16 t270.length co16 : Value).ownBlock) s_.1 t282)∧(Kd.V (Kd.int .u8) 5 w' w.heap.size (fun k_=>(P0_2_ k_∨w.heap.size≤k_)∧some k_≠(s_.1 : Value).ownBlock∧some k_≠(.slice Ao16 t270.length co16 : Value).ownBlock∧k_≠gb266∧k_≠gb267∧k_≠gb274∧k_≠gb277∧k_≠s_.2) (.slice A0_2 l0_2.length c0_2) l0_2)∧(Kd.R (Kd.int .u8) 5 w' w.heap.size (fun k_=>(w.heap.size≤k_)∧some k_≠(s_.1 : Value).ownBlock) (.slice Ao16 t270.length co16) t270)∧(Kd.V (Kd.int .u8) 5 w' w.heap.size (fun k_=>(P0_2_ k_∨w.heap.size≤k_)∧some k_≠(s_.1 : Value).ownBlock∧some k_≠(.slice Ao16 t270.length co16 : Value).ownBlock∧k_≠gb266∧k_≠gb267∧k_≠gb274∧k_≠gb277∧k_≠s_.2) (.slice Ao62 x278002_2.length co62) x278002_2)∧(w'.heap[gb266]? = some (.cells #[.int .u64 a0_0, .int .u32 a0_1, .slice A0_2 l0_2.length c0_2] 54 (0,0)))∧(w'.heap[gb267]? = some (.cells #[.int .u64 x268000_2, .int .u32 x268001_2, .slice none 0 0] 54 (0,0)))∧(w'.heap[gb274]? = some (.cells #[.int .u64 t268, .int .u32 t269, .slice Ao16 t270.length co16] 54 (0,0)))∧(w'.heap[gb277]? = some (.cells #[.int .u64 x278000_2, .int .u32 x278001_2, .slice Ao62 x278002_2.length co62] 54 (0,0)))∧(w'.heap[s_.2]? = some (.cells #[.int .u64 0, .int .u32 0, .slice none 0 0] 54 (0,0)))∧(w.heap.size≤s_.2)∧(w.heap.size≤s_.2)∧(gb266≠s_.2)∧(s_.2≠gb266)∧(gb267≠s_.2)∧(s_.2≠gb267)∧(gb274≠s_.2)∧(s_.2≠gb274)∧(gb277≠s_.2)∧(s_.2≠gb277)∧(Below w.heap.size w w')) ?_ ?_
       rotate_left
       ·
        intro hCont
        refine two_ (i:=7) (j:=11) (Ni:=some 53) (Nj:=some 15) #[true,true,true,true,true,true,true,true,false,false,false,false,false,false] #[true,true,true,true,true,true,true,false,false,false,false,true,false,false] rfl rfl rfl rfl (two_of HT_.out (by kernel_rfl)) (by decide) (by decide) (fun K hK => ?_) (fun K hK => ?_)
        ·
         skip
         refine ygs Try.func67 #[.agg #[.int .u64 x278000_2, .int .u32 x278001_2, .slice Ao62 x278002_2.length co62], .int .i64 (rd l1 x36_2), .int .i64 x14_35, .bool a3] ?_
         with_reducible refine (gain_put.calls kj35 x278000_2 x278001_2 _ _ x278002_2 (rd l1 x36_2) x14_35 a3 t280 t281 t282 t285 _ ?side1 ?side2 A42.out).mono ?_
         (case side1=>exact yce (Kd.V_reads' HO_278002.out).2.2)
         (case side2=>exact (Kd.V_reads' HO_278002.out).2.1)
         rintro e w64 ⟨v283,rfl,ho0,hb⟩
         refine ⟨_,rfl, ?_⟩
         replace HO_267002:=zm (Kd.V_elder' (yr HO_267002) (Kd.R_base ho0) hb)
         replace HO_278002:=zm (Kd.V_elder' (yr HO_278002) (Kd.R_base ho0) hb)
         have HO284:=zm (Kd.R_lower (Kd.R_new' (Kd.R_newM (M:=fun k_=>(w.heap.size≤k_)) ho0 (zE yhb) (fun k_ h_=>h_)) (Kd.R_lt (yr HO_275002))) (zE yhb))
         replace HO_275002:=zm (Kd.R_elder' (yr HO_275002) (Kd.R_base ho0) hb)
         replace BK266:=ybb BK266 hb
         replace BK267:=ybb BK267 hb
         replace BK274:=ybb BK274 hb
         replace BK277:=ybb BK277 hb
         replace HB:=ybs hb
         (try clear hb)
         (try clear ho0)
         refine hK.out _ _ yH (fun hHeld => ?_)
         clear hK K
         refine ym (some 53) ?_
         refine yp 8 45 HT_ ?_
         refine yp 9 54 HT_ ?_
         refine yp 10 55 HT_ ?_
         refine yw 11 15 HT_ (fun K hK => ?_)
         refine box_step ?hg (N:=15) ?hd (cs := #[.int .u64 0, .int .u32 0, .slice none 0 0]) (t:=54) ?hr ?_;(case hd=>rfl);(case hg=>rfl);(case hr=>first|(go_simp;done)|(go_simp;rfl))
         intro gb286 hg w65 hbox hb
         replace HO_267002:=yVe HO_267002 hg hb
         replace HO_275002:=yRb HO_275002 hb
         replace HO_278002:=yVe HO_278002 hg hb
         replace HO284:=yRb HO284 hb
         have BK286:=zm (hbox)
         have GW286:=ygw hg
         have GE286:=ygw hg
         replace HB:=ybs hb
         have NB266_286:=ynl BK266 hg
         have NB286_266:=yng BK266 hg
         replace BK266:=ybb BK266 hb
         have NB267_286:=ynl BK267 hg
         have NB286_267:=yng BK267 hg
         replace BK267:=ybb BK267 hb
         have NB274_286:=ynl BK274 hg
         have NB286_274:=yng BK274 hg
         replace BK274:=ybb BK274 hb
         have NB277_286:=ynl BK277 hg
         have NB286_277:=yng BK277 hg
         replace BK277:=ybb BK277 hb
         clear hb hbox hg
         refine hK.out _ _ yH (fun hHeld => ?_)
         clear hK K
         refine ym (some 15) ?_
         exact norm_ (by simp only [putAll,Act.put,List.setIfInBounds_toArray,List.set_cons_zero,List.set_cons_succ]) (hCont (v283,gb286) _ ⟨hHeld,(yR0 HO284),(yV0 HO_267002),(yr HO_275002),(yV0 HO_278002),(yk BK266),(yk BK267),(yk BK274),(yk BK277),(yk BK286),GW286.out,GE286.out,NB266_286.out,NB286_266.out,NB267_286.out,NB286_267.out,NB274_286.out,NB286_274.out,NB277_286.out,NB286_277.out,yhb⟩)
        ·
         skip
         refine box_step ?hg (N:=15) ?hd (cs := #[.int .u64 0, .int .u32 0, .slice none 0 0]) (t:=54) ?hr ?_;(case hd=>rfl);(case hg=>rfl);(case hr=>first|(go_simp;done)|(go_simp;rfl))
         intro gb286 hg w64 hbox hb
         replace HO_267002:=yVe HO_267002 hg hb
         replace HO_275002:=yRb HO_275002 hb
         replace HO_278002:=yVe HO_278002 hg hb
         have BK286:=zm (hbox)
         have GW286:=ygw hg
         have GE286:=ygw hg
         replace HB:=ybs hb
         have NB266_286:=ynl BK266 hg
         have NB286_266:=yng BK266 hg
         replace BK266:=ybb BK266 hb
         have NB267_286:=ynl BK267 hg
         have NB286_267:=yng BK267 hg
         replace BK267:=ybb BK267 hb
         have NB274_286:=ynl BK274 hg
         have NB286_274:=yng BK274 hg
         replace BK274:=ybb BK274 hb
         have NB277_286:=ynl BK277 hg
         have NB286_277:=yng BK277 hg
         replace BK277:=ybb BK277 hb
         clear hb hbox hg
         refine hK.out _ _ yH (fun hHeld => ?_)
         clear hK K
         refine ym (some 15) ?_
         refine yw 7 53 HT_ (fun K hK => ?_)
         refine ygs Try.func67 #[.agg #[.int .u64 x278000_2, .int .u32 x278001_2, .slice Ao62 x278002_2.length co62], .int .i64 (rd l1 x36_2), .int .i64 x14_35, .bool a3] ?_
         with_reducible refine (gain_put.calls kj35 x278000_2 x278001_2 _ _ x278002_2 (rd l1 x36_2) x14_35 a3 t280 t281 t282 t285 _ ?side1 ?side2 A42.out).mono ?_
         (case side1=>exact yce (Kd.V_reads' HO_278002.out).2.2)
         (case side2=>exact (Kd.V_reads' HO_278002.out).2.1)
         rintro e w65 ⟨v283,rfl,ho0,hb⟩
         refine ⟨_,rfl, ?_⟩
         replace HO_267002:=zm (Kd.V_elder' (yr HO_267002) (Kd.R_base ho0) hb)
         replace HO_278002:=zm (Kd.V_elder' (yr HO_278002) (Kd.R_base ho0) hb)
         have HO284:=zm (Kd.R_lower (Kd.R_new' (Kd.R_newM (M:=fun k_=>(w.heap.size≤k_)) ho0 (zE yhb) (fun k_ h_=>h_)) (Kd.R_lt (yr HO_275002))) (zE yhb))
         replace HO_275002:=zm (Kd.R_elder' (yr HO_275002) (Kd.R_base ho0) hb)
         replace BK266:=ybb BK266 hb
         replace BK267:=ybb BK267 hb
         replace BK274:=ybb BK274 hb
         replace BK277:=ybb BK277 hb
         replace BK286:=ybb BK286 hb
         replace HB:=ybs hb
         (try clear hb)
         (try clear ho0)
         refine hK.out _ _ yH (fun hHeld => ?_)
         clear hK K
         refine ym (some 53) ?_
         refine yp 8 45 HT_ ?_
         refine yp 9 54 HT_ ?_
         refine yp 10 55 HT_ ?_
         exact norm_ (by simp only [putAll,Act.put,List.setIfInBounds_toArray,List.set_cons_zero,List.set_cons_succ]) (hCont (v283,gb286) _ ⟨hHeld,(yR0 HO284),(yV0 HO_267002),(yr HO_275002),(yV0 HO_278002),(yk BK266),(yk BK267),(yk BK274),(yk BK277),(yk BK286),GW286.out,GE286.out,NB266_286.out,NB286_266.out,NB267_286.out,NB286_267.out,NB274_286.out,NB286_274.out,NB277_286.out,NB286_277.out,yhb⟩)
       rintro ⟨v283,gb286⟩ w66 ⟨hS_,h0_,h1_,h2_,h3_,h4_,h5_,h6_,h7_,h8_,h9_,h10_,h11_,h12_,h13_,h14_,h15_,h16_,h17_,h18_,h19_⟩
       have n0_ : Aside0 (Kd.R (Kd.int .u8) 5 w66 w.heap.size (fun k_=>(w.heap.size≤k_)∧some k_≠(.slice Ao16 t270.length co16 : Value).ownBlock) v283 t282):=⟨h0_⟩
       have n1_ : Aside0 (Kd.V (Kd.int .u8) 5 w66 w.heap.size (fun k_=>(P0_2_ k_∨w.heap.size≤k_)∧some k_≠(v283 : Value).ownBlock∧some k_≠(.slice Ao16 t270.length co16 : Value).ownBlock∧k_≠gb266∧k_≠gb267∧k_≠gb274∧k_≠gb277∧k_≠gb286) (.slice A0_2 l0_2.length c0_2) l0_2):=⟨h1_⟩
       have n2_ : Aside0 (Kd.R (Kd.int .u8) 5 w66 w.heap.size (fun k_=>(w.heap.size≤k_)∧some k_≠(v283 : Value).ownBlock) (.slice Ao16 t270.length co16) t270):=⟨h2_⟩
       have n3_ : Aside0 (Kd.V (Kd.int .u8) 5 w66 w.heap.size (fun k_=>(P0_2_ k_∨w.heap.size≤k_)∧some k_≠(v283 : Value).ownBlock∧some k_≠(.slice Ao16 t270.length co16 : Value).ownBlock∧k_≠gb266∧k_≠gb267∧k_≠gb274∧k_≠gb277∧k_≠gb286) (.slice Ao62 x278002_2.length co62) x278002_2):=⟨h3_⟩
       have n4_ : Aside0 (w66.heap[gb266]? = some (.cells #[.int .u64 a0_0, .int .u32 a0_1, .slice A0_2 l0_2.length c0_2] 54 (0,0))):=⟨h4_⟩
       have n5_ : Aside0 (w66.heap[gb267]? = some (.cells #[.int .u64 x268000_2, .int .u32 x268001_2, .slice none 0 0] 54 (0,0))):=⟨h5_⟩
       have n6_ : Aside0 (w66.heap[gb274]? = some (.cells #[.int .u64 t268, .int .u32 t269, .slice Ao16 t270.length co16] 54 (0,0))):=⟨h6_⟩
       have n7_ : Aside0 (w66.heap[gb277]? = some (.cells #[.int .u64 x278000_2, .int .u32 x278001_2, .slice Ao62 x278002_2.length co62] 54 (0,0))):=⟨h7_⟩
       have n8_ : Aside0 (w66.heap[gb286]? = some (.cells #[.int .u64 0, .int .u32 0, .slice none 0 0] 54 (0,0))):=⟨h8_⟩
       have n9_ : Aside0 (w.heap.size≤gb286):=⟨h9_⟩
       have n10_ : Aside0 (w.heap.size≤gb286):=⟨h10_⟩
       have n11_ : Aside0 (gb266≠gb286):=⟨h11_⟩
       have n12_ : Aside0 (gb286≠gb266):=⟨h12_⟩
       have n13_ : Aside0 (gb267≠gb286):=⟨h13_⟩
       have n14_ : Aside0 (gb286≠gb267):=⟨h14_⟩
       have n15_ : Aside0 (gb274≠gb286):=⟨h15_⟩
       have n16_ : Aside0 (gb286≠gb274):=⟨h16_⟩
       have n17_ : Aside0 (gb277≠gb286):=⟨h17_⟩
       have n18_ : Aside0 (gb286≠gb277):=⟨h18_⟩
       have n19_ : Aside0 (Below w.heap.size w w66):=⟨h19_⟩
       clear HO_267002;clear HO_275002;clear HO_278002;clear BK266;clear BK267;clear BK274;clear BK277;clear HB;clear h0_ h1_ h2_ h3_ h4_ h5_ h6_ h7_ h8_ h9_ h10_ h11_ h12_ h13_ h14_ h15_ h16_ h17_ h18_ h19_;have HO284:=n0_;have HO_267002:=n1_;have HO_275002:=n2_;have HO_278002:=n3_;have BK266:=n4_;have BK267:=n5_;have BK274:=n6_;have BK277:=n7_;have BK286:=n8_;have GW286:=n9_;have GE286:=n10_;have NB266_286:=n11_;have NB286_266:=n12_;have NB267_286:=n13_;have NB286_267:=n14_;have NB274_286:=n15_;have NB286_274:=n16_;have NB277_286:=n17_;have NB286_277:=n18_;have HB:=n19_;clear n0_ n1_ n2_ n3_ n4_ n5_ n6_ n7_ n8_ n9_ n10_ n11_ n12_ n13_ n14_ n15_ n16_ n17_ n18_ n19_
       have hHeld : w66.cell? ⟨gb277,0,none⟩=some (.int .u64 x278000_2)∧w66.cell? ⟨gb277,1,none⟩=some (.int .u32 x278001_2)∧w66.cell? ⟨gb277,2,none⟩=some (.slice Ao62 x278002_2.length co62)∧w66.cell? (ad279.add (x36_2).toNat)=some (.int .i64 (rd l1 x36_2)):=hS_
       obtain ⟨Ao69,co69,eo69⟩:=Kd.R_slice HO284.out
       (first|subst eo69|(injection eo69 with f1_ f2_ f3_;have f4_:=f1_.symm;have f5_:=f3_.symm;clear f1_ f2_ f3_;subst f4_;subst f5_))
       refine norm_ (a' := ?_) ?_ ?_
       rotate_left
       ·
        simp only [putAll,Act.put,List.setIfInBounds_toArray,List.set_cons_zero,List.set_cons_succ]
        rfl
       refine yv 12 HT_ (fun K hK => ?_)
       have hs67 : w66.cell? ⟨gb286,0,none⟩=some (.int .u64 0):=(zs BK286.out 0).trans rfl
       have hfs67:=zx BK286.out 0
       have:=NB266_286.out
       have:=NB267_286.out
       have:=NB274_286.out
       have:=NB277_286.out
       have:=NB286_266.out
       have:=NB286_267.out
       have:=NB286_274.out
       have:=NB286_277.out
       have hs68 : w66.cell? ⟨gb286,1,none⟩=some (.int .u32 0):=(zs BK286.out 1).trans rfl
       have hfs68:=zx BK286.out 1
       have:=NB266_286.out
       have:=NB267_286.out
       have:=NB274_286.out
       have:=NB277_286.out
       have:=NB286_266.out
       have:=NB286_267.out
       have:=NB286_274.out
       have:=NB286_277.out
       have hs70 : w66.cell? ⟨gb286,2,none⟩=some (.slice none 0 0):=(zs BK286.out 2).trans rfl
       have hfs70:=zx BK286.out 2
       have:=NB266_286.out
       have:=NB267_286.out
       have:=NB274_286.out
       have:=NB277_286.out
       have:=NB286_266.out
       have:=NB286_267.out
       have:=NB286_274.out
       have:=NB286_277.out
       refine skip_ (w1 := ?_) (by rfl) rfl ?_ ?_
       rotate_left
       ·
        go_simp
        rfl
       refine hK.out _ _ ⟨((zr (p:=⟨gb286,_,none⟩) NB277_286.out _).trans (((zr (p:=⟨gb286,_,none⟩) NB277_286.out _).trans (((zr (p:=⟨gb286,_,none⟩) NB277_286.out _).trans (hHeld.1)))))),((zr (p:=⟨gb286,_,none⟩) NB277_286.out _).trans (((zr (p:=⟨gb286,_,none⟩) NB277_286.out _).trans (((zr (p:=⟨gb286,_,none⟩) NB277_286.out _).trans (hHeld.2.1)))))),((zr (p:=⟨gb286,_,none⟩) NB277_286.out _).trans (((zr (p:=⟨gb286,_,none⟩) NB277_286.out _).trans (((zr (p:=⟨gb286,_,none⟩) NB277_286.out _).trans (hHeld.2.2.1)))))),((zr (p:=⟨gb286,_,none⟩) (by first|exact zn (zl (by have:=zb _ _ hw279_0;first|rwa [za] at this|exact this) GW286.out)|(rw [za];exact zn (zl (by have:=zb _ _ hw279_0;first|rwa [za] at this|exact this) GW286.out))|(show (Addr.add _ _).block≠_;rw [za];exact zn (zl (by have:=zb _ _ hw279_0;first|rwa [za] at this|exact this) GW286.out))|(dsimp only;exact zn (zl (by have:=zb _ _ hw279_0;first|rwa [za] at this|exact this) GW286.out))) _).trans (((zr (p:=⟨gb286,_,none⟩) (by first|exact zn (zl (by have:=zb _ _ hw279_0;first|rwa [za] at this|exact this) GW286.out)|(rw [za];exact zn (zl (by have:=zb _ _ hw279_0;first|rwa [za] at this|exact this) GW286.out))|(show (Addr.add _ _).block≠_;rw [za];exact zn (zl (by have:=zb _ _ hw279_0;first|rwa [za] at this|exact this) GW286.out))|(dsimp only;exact zn (zl (by have:=zb _ _ hw279_0;first|rwa [za] at this|exact this) GW286.out))) _).trans (((zr (p:=⟨gb286,_,none⟩) (by first|exact zn (zl (by have:=zb _ _ hw279_0;first|rwa [za] at this|exact this) GW286.out)|(rw [za];exact zn (zl (by have:=zb _ _ hw279_0;first|rwa [za] at this|exact this) GW286.out))|(show (Addr.add _ _).block≠_;rw [za];exact zn (zl (by have:=zb _ _ hw279_0;first|rwa [za] at this|exact this) GW286.out))|(dsimp only;exact zn (zl (by have:=zb _ _ hw279_0;first|rwa [za] at this|exact this) GW286.out))) _).trans (hHeld.2.2.2))))))⟩ (fun hHeld => ?_)
       clear hK K
       refine yp 13 16 HT_ ?_
       refine done_ (done_of HT_.out (by kernel_rfl)) ?_
       have:=NB274_266.out
       have:=NB266_274.out
       have:=NB274_267.out
       have:=NB267_274.out
       have:=NB274_277.out
       have:=NB277_274.out
       have:=NB274_286.out
       have:=NB286_274.out
       obtain ⟨_,_,_,_,_,_⟩:=yc3 BK274
       have:=NB267_266.out
       have:=NB266_267.out
       have:=NB267_277.out
       have:=NB277_267.out
       have:=NB267_286.out
       have:=NB286_267.out
       obtain ⟨_,_,_,_,_,_⟩:=yc3 BK267
       try go_wp2
       refine bodyPost_ret (results_ct rfl _ _ gb267 54 #[.int .u64 t268, .int .u32 t269, .slice Ao16 t270.length co16] (0,0) _ rfl (ykp BK267) Try.underlying54 rfl (by kernel_rfl)) rfl ?_
       exact ⟨_,ye,zy (Kd.R_V (by (with_reducible repeat (first|apply zo|apply zp|apply zq));exact zG (zH (p:=⟨gb267,2,none⟩) (zH (p:=⟨gb267,1,none⟩) (zH (p:=⟨gb267,0,none⟩) (zH (p:=⟨gb286,2,none⟩) (zH (p:=⟨gb286,1,none⟩) (zH (p:=⟨gb286,0,none⟩) (Kd.R_types (Kd.R_types HO_275002.out BK286.out (by decide)) BK267.out (by decide)) (fun _ hk=>hk.1.2) (.int .u64 t280)) (fun _ hk=>hk.1.2) (.int .u32 t281)) (fun _ hk=>hk.1.2) (.slice Ao69 t282.length co69)) (fun _ hk=>hk.2) (.int .u64 t268)) (fun _ hk=>hk.2) (.int .u32 t269)) (fun _ hk=>hk.2) (.slice Ao16 t270.length co16)) (fun _ hk=>hk.1.1.1))) (fun k_ hk=>by first|exact ⟨(.inr (hk.1)),hk.2⟩|exact (.inr (hk))),yhb⟩
    ·
     rw [if_neg c35] at H
     have c35b0 : decide (x36_2 < 5)=false:=decide_eq_false c35
     clear c35
     simp only [Option.some.injEq,Prod.mk.injEq] at H
     obtain ⟨rfl,rfl,rfl,rfl⟩:=H
     have:=NB277_266.out
     have:=NB266_277.out
     have:=NB277_267.out
     have:=NB267_277.out
     have:=NB277_274.out
     have:=NB274_277.out
     obtain ⟨_,_,_,_,_,_⟩:=yc3 BK277
     have:=NB267_266.out
     have:=NB266_267.out
     have:=NB267_274.out
     have:=NB274_267.out
     obtain ⟨_,_,_,_,_,_⟩:=yc3 BK267
     obtain ⟨Ao87,co87,eo87⟩:=Kd.V_slice HO_278002.out
     subst eo87
     go_wp2
     refine bodyPost_ret (results_ct rfl _ _ gb267 54 #[.int .u64 x278000_2, .int .u32 x278001_2, .slice Ao87 x278002_2.length co87] (0,0) _ rfl (ykp BK267) Try.underlying54 rfl (by kernel_rfl)) rfl ?_
     exact ⟨_,ye,yV0 HO_278002,yhb⟩
/-- A row of scalars, as one block of cells. -/
theorem cpack_Write.intRow {k : IntKind} {e base : Nat} {ok : Nat→Prop} {w : World} {v : Value} {xs : List Int} (h : (Kd.int k).R e w base ok v xs) :
  (v=.slice none 0 0∧xs = [])∨∃ g cap cur,v=.slice (some ⟨g,0,none⟩) xs.length cap∧ok g∧base≤g∧w.heap[g]? = some (.cells cur e (0,0))∧xs.length≤cap∧cap≤maxLen∧cur.size=cap∧cur.toList.take xs.length=xs.map (Value.int k):=by
 obtain ⟨h0,inner,⟨h1,h2⟩,hr⟩:=h
 have hsz : (Kd.int k).sz=1:=rfl
 have hin : inner=xs.map (Value.int k):=by
  refine List.ext_getElem? fun j => ?_
  have hl : inner.length=xs.length:=by rw [h1,hsz,Nat.mul_one]
  rcases Nat.lt_or_ge j xs.length with hj|hj
  ·
   have:=hr.2 j _ (List.getElem?_eq_getElem hj)
   rw [hsz,Nat.mul_one] at this
   have h3 : (inner.drop j).take 1 = [Value.int k xs[j]]:=this
   have h4:=congrArg (fun l=>l[0]?) h3
   simp only [List.getElem?_take,List.getElem?_drop] at h4
   simp at h4
   simp [h4,hj]
  ·
   rw [List.getElem?_eq_none (by omega),List.getElem?_eq_none (by simp;omega)]
 rcases h2 with ⟨rfl,hn⟩ | ⟨g,cap,cur,rfl,hb,hh,hnc,hcm,hcs,ht⟩
 ·
  exact .inl ⟨rfl,List.eq_nil_of_length_eq_zero hn⟩
 ·
  rw [hsz,Nat.mul_one] at hcs ht
  exact .inr ⟨g,cap,cur,rfl,h0 g rfl,hb,hh,hnc,hcm,hcs,by rw [ht,hin]⟩
theorem cpack_Write.rowInt {k : IntKind} {e base : Nat} {ok : Nat→Prop} {w : World} {xs : List Int} {g cap : Nat} {cur : Array Value} (hg : ok g) (hb : base≤g) (hh : w.heap[g]? = some (.cells cur e (0,0))) (hn : xs.length≤cap) (hc : cap≤maxLen) (hs : cur.size=cap) (ht : cur.toList.take xs.length=xs.map (Value.int k)) :
  (Kd.int k).R e w base ok (.slice (some ⟨g,0,none⟩) xs.length cap) xs:=by
 have hsz : (Kd.int k).sz=1:=rfl
 refine ⟨fun q hq => ?_,xs.map (Value.int k),⟨by simp [hsz], .inr ⟨g,cap,cur,rfl,hb,hh,hn,hc,by rw [hsz,Nat.mul_one,hs],by rw [hsz,Nat.mul_one,ht]⟩⟩,by simp [hsz],fun j p hp => ?_⟩
 ·
  simp only [Value.ownBlock,Option.some.injEq] at hq;exact hq ▸ hg
 ·
  have : ((xs.map (Value.int k)).drop (j * 1)).take 1 = [Value.int k p]:=by
   rw [Nat.mul_one]
   obtain ⟨hj,hpj⟩:=List.getElem?_eq_some_iff.1 hp
   refine List.ext_getElem? fun i => ?_
   rcases i with _|i
   ·
    simp [List.getElem?_take,hp]
   ·
    simp [List.getElem?_take]
  exact this

theorem cpack_Write.copyRow {P : Program} {ops : Array Oper} {rest : List Oper} {o : Oper} {a : Act} {Q : Exit→Act→World→Prop} {k : IntKind} {w0 W : World} (base : Nat) (hgd : o.guard=none) (d s : Operand) (t e : TypeId)
  (ho : o.op=.call { callee:=.builtin .copy,args := #[d,s],argTypes := #[t,t] }) (ht : P.underlying t=some (.slice e)) {z : Value} {bytes : Nat} (hinfo : (P.info? e).map (fun i=>(i.zero,i.size,i.bytes))=some (some z,1,bytes))
  (v : Value) (xs ys : List Int) (A : Option Addr) (m c : Nat) (ok : Nat→Prop) (hd : a.eval d=v) (hs : a.eval s=.slice A m c)
  (HO : (Kd.int k).R e W base ok v xs) (HR : (Kd.int k).C W A m ys) (HB : Below base w0 W)
  (h : ∀ w1,(Kd.int k).R e w1 base ok v (ys.take xs.length ++ xs.drop ys.length)→Below base w0 w1→wpList P ops Q rest (a.put o.dst (goInt ((min m xs.length : Nat) : Int))) w1) :
  wpList P ops Q (o :: rest) a W:=by
 have hm : ys.length=m:=HR.1
 have hsz : (P.info? e).map (·.size)=some 1:=by
  obtain ⟨i0,hi,hz⟩:=Option.map_eq_some_iff.1 hinfo
  simp only [Prod.mk.injEq] at hz
  rw [hi,Option.map_some,hz.2.1]
 rcases cpack_Write.intRow HO with ⟨rfl,rfl⟩ | ⟨g,cap,cur,rfl,hok,hbg,hh,hnc,hcm,hcs,htk⟩
 ·
  refine wpList_copy_nothing hgd d s t t ho e ht hsz none A 0 0 m c hd hs (by simp) ?_
  have:=h W (by simpa using HO) HB
  simpa using this
 ·
  have hl : (ys.take xs.length).length=min m xs.length:=by simp [List.length_take,hm,Nat.min_comm]
  refine wpList_copy_splice hgd d s t t ho e ht hsz _ A xs.length cap m c hd hs g 0 cur.toList e (by simpa using hh) ((ys.take xs.length).map (Value.int k)) (by rw [List.length_map,hl]) (fun hp=>⟨rfl, ?_⟩) (by rw [List.length_map,hl];have : cur.toList.length=cap:=(by simpa using hcs);omega) (fun v hv=>by obtain ⟨x,_,rfl⟩:=List.mem_map.1 hv;rfl) base w0 HB hbg (fun w1 hg1 hb1 => ?_)
  ·
   rw [List.length_map,hl] at hp
   obtain ⟨ad,rfl,hc⟩:=HR.2.2 (by omega)
   refine ⟨ad,rfl,fun j v hj => ?_⟩
   rw [List.getElem?_map,List.getElem?_take] at hj
   split at hj
   ·
    rcases hy : ys[j]? with _|y
    ·
     rw [hy] at hj;simp at hj
    ·
     rw [hy] at hj
     simp only [Option.map_some,Option.some.injEq] at hj
     subst hj
     obtain ⟨cs,hcl,hcr,hcc⟩:=hc j y hy
     have hcr : cs = [Value.int k y]:=hcr
     subst hcr
     have:=hcc 0 _ rfl
     have h1 : (Kd.int k).sz=1:=rfl
     rwa [h1,Nat.mul_one,Nat.add_zero] at this
   ·
    simp at hj
  ·
   have hlen : (ys.take xs.length ++ xs.drop ys.length).length=xs.length:=by
    rw [List.length_append,List.length_drop,List.length_take];omega
   have hR : (Kd.int k).R e w1 base ok (.slice (some ⟨g,0,none⟩) (ys.take xs.length ++ xs.drop ys.length).length cap) (ys.take xs.length ++ xs.drop ys.length):=by
    refine cpack_Write.rowInt hok hbg hg1 (by omega) hcm ?_ ?_
    ·
     have:=length_splice cur.toList 0 ((ys.take xs.length).map (Value.int k)) (by rw [List.length_map,hl];have : cur.toList.length=cap:=(by simpa using hcs);omega)
     simp only [List.size_toArray,this]
     simpa using hcs
    ·
     rw [hlen]
     simp only [splice,List.take_zero,List.nil_append,List.length_map,Nat.zero_add,List.map_append]
     have hcur : cur.toList=xs.map (Value.int k) ++ cur.toList.drop xs.length:=by rw [← htk,List.take_append_drop]
     have h2 : (cur.toList.drop (ys.take xs.length).length)=(xs.drop (ys.take xs.length).length).map (Value.int k) ++ cur.toList.drop xs.length:=by
      conv=>lhs;rw [hcur]
      rw [List.drop_append_of_le_length (by rw [List.length_map,hl];omega),List.map_drop]
     rw [h2, ← List.append_assoc,List.take_append_of_le_length (by rw [List.length_append,List.length_map,List.length_map,List.length_drop];omega),List.take_of_length_le (by rw [List.length_append,List.length_map,List.length_map,List.length_drop];omega)]
     congr 2
     rcases Nat.le_total ys.length xs.length with h3|h3
     ·
      rw [List.length_take,Nat.min_eq_right h3]
     ·
      rw [List.length_take,Nat.min_eq_left h3,List.drop_eq_nil_of_le (Nat.le_refl _),List.drop_eq_nil_of_le h3]
   rw [hlen] at hR
   have:=h w1 hR hb1
   rwa [← hl, ← List.length_map (f:=Value.int k)] at this
mutual
def cpack_Write.j0 : Nat→Int→Int→List (List Int)→Bool→Bool→List (List Int)→List (List (List Int))→Option (List Int × Int)
 | 0,_,_,_,_,_,_,_=>none
 | k+1,x0,x1,x3,x41,x301000,x301001,x301002=>if x41=true then (some (([] : List Int),1)) else (if x301000=true then (cpack_Write.j1 k x0 x1 x3 1 x301000 x301001 x301002) else (cpack_Write.j1 k x0 x1 x3 0 x301000 x301001 x301002))
def cpack_Write.j1 : Nat→Int→Int→List (List Int)→Int→Bool→List (List Int)→List (List (List Int))→Option (List Int × Int)
 | 0,_,_,_,_,_,_,_=>none
 | k+1,x0,x1,x3,x10,x301000,x301001,x301002=>(coder_New.f).bind fun bt303=>((coder_Put.f k bt303.1 bt303.2.1 bt303.2.2 x10 (wrap64 (x10+1)) 2).bind fun bt308=>(cpack_Write.l0 k x0 x1 x3 x301001 (x301001.length : Int) 0 x301000 x301001 x301002 bt308.1 bt308.2.1 bt308.2.2.1))
def cpack_Write.l0 : Nat→Int→Int→List (List Int)→List (List Int)→Int→Int→Bool→List (List Int)→List (List (List Int))→Int→Int→List Int→Option (List Int × Int)
 | 0,_,_,_,_,_,_,_,_,_,_,_,_=>none
 | k+1,x0,x1,x3,x53,x54,x55,x301000,x301001,x301002,x315000,x315001,x315002=>if x55 < x54 then (if 0≤x55 then (if x55 < (x53.length : Int) then ((cpack_of.f x3 x55).bind fun t316=>((gain_Put.f k x315000 x315001 x315002 (rd_L1 x53 x55) t316 x301000).bind fun bt319=>(cpack_Write.l0 k x0 x1 x3 x53 x54 (wrap64 (x55+1)) x301000 x301001 x301002 bt319.1 bt319.2.1 bt319.2.2.1))) else (none)) else (none)) else ((alloc_Pulses.f k x0 x1 x301001).bind fun bt325=>(cpack_Write.l1 k x0 bt325.1 x301002 (x301002.length : Int) 0 x315000 x315001 x315002))
def cpack_Write.l1 : Nat→Int→List (List Int)→List (List (List Int))→Int→Int→Int→Int→List Int→Option (List Int × Int)
 | 0,_,_,_,_,_,_,_,_=>none
 | k+1,x0,x15,x81,x82,x83,x315000,x315001,x315002=>if x83 < x82 then (if 0≤x83 then (if x83 < (x81.length : Int) then (cpack_Write.l2 k x0 x15 x83 x81 x82 x83 (rd_L2 x81 x83) ((rd_L2 x81 x83).length : Int) 0 x315000 x315001 x315002) else (none)) else (none)) else (if 0≤x0 then (if (x0 : Int).toNat≤281474976710656 then ((some (List.replicate (x0 : Int).toNat 0 : List Int)).bind fun y329=>((coder_Finish.f x315000 x315001 x315002).bind fun t332=>(some ((t332.take y329.length ++ y329.drop t332.length),0)))) else (none)) else (none))
def cpack_Write.l2 : Nat→Int→List (List Int)→Int→List (List (List Int))→Int→Int→List (List Int)→Int→Int→Int→Int→List Int→Option (List Int × Int)
 | 0,_,_,_,_,_,_,_,_,_,_,_,_=>none
 | k+1,x0,x15,x17,x81,x82,x83,x88,x89,x90,x315000,x315001,x315002=>if x90 < x89 then (if 0≤x90 then (if x90 < (x88.length : Int) then (if 0≤x17 then (if x17 < (x15.length : Int) then (if x90 < ((rd_L1 x15 x17).length : Int) then (if (rd (rd_L1 x15 x17) x90)=0 then (cpack_Write.l2 k x0 x15 x17 x81 x82 x83 x88 x89 (wrap64 (x90+1)) x315000 x315001 x315002) else ((band_Width.f x90).bind fun t342=>((comb_Count.f t342 (rd (rd_L1 x15 x17) x90)).bind fun bt345=>((comb_Index.f k (rd_L1 x88 x90)).bind fun bt347=>((coder_PutNum.f k x315000 x315001 x315002 bt347.1 bt345.1).bind fun bt349=>(cpack_Write.l2 k x0 x15 x17 x81 x82 x83 x88 x89 (wrap64 (x90+1)) bt349.1 bt349.2.1 bt349.2.2.1)))))) else (none)) else (none)) else (none)) else (none)) else (none)) else (cpack_Write.l1 k x0 x15 x81 x82 (wrap64 (x83+1)) x315000 x315001 x315002)
end
def cpack_Write.f (k : Nat) (a0 : Int) (a1 : Int) (a2_0 : Bool) (l2_1 : List (List Int)) (l2_2 : List (List (List Int))) (l3 : List (List Int)) : Option (List Int × Int):=(cpack_Right.f k a0 a1 a2_0 l2_1 l2_2).bind fun t301=>(if t301=true then (if a2_0=true then (cpack_Write.j0 k a0 a1 l3 false a2_0 l2_1 l2_2) else ((cpack_gains.f k a1 l3).bind fun t302=>(cpack_Write.j0 k a0 a1 l3 (!t302) a2_0 l2_1 l2_2))) else (cpack_Write.j0 k a0 a1 l3 true a2_0 l2_1 l2_2))
theorem cpack_Write.mono_l : ∀ k,(∀ y0 y1 y2 y3 y4 y5 y6,LeO (cpack_Write.j0 k y0 y1 y2 y3 y4 y5 y6) (cpack_Write.j0 (k+1) y0 y1 y2 y3 y4 y5 y6))∧(∀ y0 y1 y2 y3 y4 y5 y6,LeO (cpack_Write.j1 k y0 y1 y2 y3 y4 y5 y6) (cpack_Write.j1 (k+1) y0 y1 y2 y3 y4 y5 y6))∧(∀ y0 y1 y2 y3 y4 y5 y6 y7 y8 y9 y10 y11,LeO (cpack_Write.l0 k y0 y1 y2 y3 y4 y5 y6 y7 y8 y9 y10 y11) (cpack_Write.l0 (k+1) y0 y1 y2 y3 y4 y5 y6 y7 y8 y9 y10 y11))∧(∀ y0 y1 y2 y3 y4 y5 y6 y7,LeO (cpack_Write.l1 k y0 y1 y2 y3 y4 y5 y6 y7) (cpack_Write.l1 (k+1) y0 y1 y2 y3 y4 y5 y6 y7))∧(∀ y0 y1 y2 y3 y4 y5 y6 y7 y8 y9 y10 y11,LeO (cpack_Write.l2 k y0 y1 y2 y3 y4 y5 y6 y7 y8 y9 y10 y11) (cpack_Write.l2 (k+1) y0 y1 y2 y3 y4 y5 y6 y7 y8 y9 y10 y11))
 | 0=>⟨fun _ _ _ _ _ _ _ r h=>by simp [cpack_Write.j0] at h,fun _ _ _ _ _ _ _ r h=>by simp [cpack_Write.j1] at h,fun _ _ _ _ _ _ _ _ _ _ _ _ r h=>by simp [cpack_Write.l0] at h,fun _ _ _ _ _ _ _ _ r h=>by simp [cpack_Write.l1] at h,fun _ _ _ _ _ _ _ _ _ _ _ _ r h=>by simp [cpack_Write.l2] at h⟩
 | k+1=>by
  obtain ⟨ih0,ih1,ih2,ih3,ih4⟩:=cpack_Write.mono_l k
  refine ⟨?_, ?_, ?_, ?_, ?_⟩
  ·
   intro y0 y1 y2 y3 y4 y5 y6
   unfold cpack_Write.j0
   repeat' with_reducible first|apply ih0|apply ih1|apply ih2|apply ih3|apply ih4|apply alloc_Pulses.mono|apply coder_Put.mono|apply coder_PutNum.mono|apply comb_Index.mono|apply cpack_Right.mono|apply cpack_gains.mono|apply gain_Put.mono|apply yLr|apply yLn|apply yLi|apply yLb|intro _
  ·
   intro y0 y1 y2 y3 y4 y5 y6
   unfold cpack_Write.j1
   repeat' with_reducible first|apply ih0|apply ih1|apply ih2|apply ih3|apply ih4|apply alloc_Pulses.mono|apply coder_Put.mono|apply coder_PutNum.mono|apply comb_Index.mono|apply cpack_Right.mono|apply cpack_gains.mono|apply gain_Put.mono|apply yLr|apply yLn|apply yLi|apply yLb|intro _
  ·
   intro y0 y1 y2 y3 y4 y5 y6 y7 y8 y9 y10 y11
   unfold cpack_Write.l0
   repeat' with_reducible first|apply ih0|apply ih1|apply ih2|apply ih3|apply ih4|apply alloc_Pulses.mono|apply coder_Put.mono|apply coder_PutNum.mono|apply comb_Index.mono|apply cpack_Right.mono|apply cpack_gains.mono|apply gain_Put.mono|apply yLr|apply yLn|apply yLi|apply yLb|intro _
  ·
   intro y0 y1 y2 y3 y4 y5 y6 y7
   unfold cpack_Write.l1
   repeat' with_reducible first|apply ih0|apply ih1|apply ih2|apply ih3|apply ih4|apply alloc_Pulses.mono|apply coder_Put.mono|apply coder_PutNum.mono|apply comb_Index.mono|apply cpack_Right.mono|apply cpack_gains.mono|apply gain_Put.mono|apply yLr|apply yLn|apply yLi|apply yLb|intro _
  ·
   intro y0 y1 y2 y3 y4 y5 y6 y7 y8 y9 y10 y11
   unfold cpack_Write.l2
   repeat' with_reducible first|apply ih0|apply ih1|apply ih2|apply ih3|apply ih4|apply alloc_Pulses.mono|apply coder_Put.mono|apply coder_PutNum.mono|apply comb_Index.mono|apply cpack_Right.mono|apply cpack_gains.mono|apply gain_Put.mono|apply yLr|apply yLn|apply yLi|apply yLb|intro _
theorem cpack_Write.mono : ∀ a0 a1 a2 a3 a4 a5 k,LeO (cpack_Write.f k a0 a1 a2 a3 a4 a5) (cpack_Write.f (k+1) a0 a1 a2 a3 a4 a5):=by
 intro a0 a1 a2 a3 a4 a5 k
 obtain ⟨ih0,ih1,ih2,ih3,ih4⟩:=cpack_Write.mono_l k
 unfold cpack_Write.f
 repeat' with_reducible first|apply ih0|apply ih1|apply ih2|apply ih3|apply ih4|apply alloc_Pulses.mono|apply coder_Put.mono|apply coder_PutNum.mono|apply comb_Index.mono|apply cpack_Right.mono|apply cpack_gains.mono|apply gain_Put.mono|apply yLr|apply yLn|apply yLi|apply yLb|intro _
def cpack_Write.T10 : Bool × List (List Nat × List Nat):=(true, [([], []),([], []),([], []),([], []),([2,3], [2,3]),([], []),([5], [5]),([0,1,4,6,4], [0,1,4,6]),([7], [7]),([8], [8]),([8], [8]),([9,7,0,1,2,3,4,5,6,7,8,9], [9])])
def cpack_Write.B10 : List Nat := [0,0,0,0,12,0,32,127,255,511,511,1023]
theorem cpack_Write.tab10 : rtab .any (opsOf Try.f12 10)=cpack_Write.T10:=by kernel_rfl
theorem cpack_Write.bits10 : waitsOk cpack_Write.T10.2 cpack_Write.B10=true:=by kernel_rfl
def cpack_Write.T20 : Bool × List (List Nat × List Nat):=(true, [([], []),([0], [0]),([], []),([], []),([2,3], [2,3]),([4], [4]),([], []),([5,6], [5,6]),([7], [7]),([1,8,1], [1,8]),([9], [9]),([10], [10]),([10], [10]),([11,9,0,1,2,3,4,5,6,7,8,9,10,11], [11]),([12,13,0,1,2,3,4,5,6,7,8,9,10,11,12,13], [12])])
def cpack_Write.B20 : List Nat := [0,1,0,0,12,28,0,124,252,511,1023,2047,2047,4095,16383]
theorem cpack_Write.tab20 : rtab .any (opsOf Try.f12 20)=cpack_Write.T20:=by kernel_rfl
theorem cpack_Write.bits20 : waitsOk cpack_Write.T20.2 cpack_Write.B20=true:=by kernel_rfl
set_option maxHeartbeats 8000000 in
set_option maxRecDepth 100000 in
theorem cpack_Write.calls (k : Nat) (a0 : Int) (a1 : Int) (a2_0 : Bool) (A2_1 : Option Addr) (c2_1 : Nat) (l2_1 : List (List Int)) (A2_2 : Option Addr) (c2_2 : Nat) (l2_2 : List (List (List Int))) (A3 : Option Addr) (c3 : Nat) (l3 : List (List Int)) (r1 : List Int) (r2 : Int) (w : World) (hr2_1 : Kd.C (Kd.slice 3 (Kd.int .i64)) w A2_1 l2_1.length l2_1) (hc2_1 : l2_1.length≤c2_1) (hr2_2 : Kd.C (Kd.slice 49 (Kd.slice 3 (Kd.int .i64))) w A2_2 l2_2.length l2_2) (hc2_2 : l2_2.length≤c2_2) (hr3 : Kd.C (Kd.slice 3 (Kd.int .i64)) w A3 l3.length l3) (hc3 : l3.length≤c3) (h : cpack_Write.f k a0 a1 a2_0 l2_1 l2_2 l3=some (r1,r2)) :
  Calls Try.prog 12 #[.int .i64 a0, .int .i64 a1, .agg #[.bool a2_0, .slice A2_1 l2_1.length c2_1, .slice A2_2 l2_2.length c2_2], .slice A3 l3.length c3] w fun e w' => ∃ v0_ : Value,e=.returned (.tuple #[v0_, .int .i64 r2])∧Kd.R (Kd.int .u8) 5 w' w.heap.size (fun _=>True) v0_ r1∧Below w.heap.size w w' := by
 have hu25:=Try.underlying25;have hu54:=Try.underlying54;have HR2_1:=zm hr2_1;have HC2_1:=zm hc2_1;clear hr2_1 hc2_1;have HR2_2:=zm hr2_2;have HC2_2:=zm hc2_2;clear hr2_2 hc2_2;have HR3:=zm hr3;have HC3:=zm hc3;clear hr3 hc3;have HB:=zm (Below.refl w.heap.size w)
 have H : ((cpack_Right.f k a0 a1 a2_0 l2_1 l2_2).bind fun t301=>(if t301=true then (if a2_0=true then (cpack_Write.j0 k a0 a1 l3 false a2_0 l2_1 l2_2) else ((cpack_gains.f k a1 l3).bind fun t302=>(cpack_Write.j0 k a0 a1 l3 (!t302) a2_0 l2_1 l2_2))) else (cpack_Write.j0 k a0 a1 l3 true a2_0 l2_1 l2_2)))=some (r1,r2):=h
 clear h;have HC5:=zm H;clear H
 go_enter Try.func12,Try.ntmps12
 go_upto_region 1 with (first|((with_reducible refine gate_dst (N:=6) rfl ?_);refine ybx 6 #[.bool a2_0, .slice A2_1 l2_1.length c2_1, .slice A2_2 l2_2.length c2_2] 25 ?_;intro gb300 hg w6 hbox hb;have BK300:=zm (hbox);have GW300:=ygw hg;have GE300:=ygw hg;replace HB:=ybs hb;clear hb hbox hg))
 (try simp only [Act.put,List.setIfInBounds_toArray,List.set_cons_zero,List.set_cons_succ])
 go_cut [41] (fun v41 wc => ∃ (kq : Nat) (x41_4 : Bool),v41=.bool x41_4∧Aside0 (cpack_Write.j0 kq a0 a1 l3 x41_4 a2_0 l2_1 l2_2=some (r1,r2))∧Aside0 (kq≤k)∧Aside0 (wc.heap[gb300]? = some (.cells #[.bool a2_0,(.slice A2_1 l2_1.length c2_1),(.slice A2_2 l2_2.length c2_2)] 25 (0,0)))∧Aside0 (Below w.heap.size w wc))
 case first =>
  have H:=HC5.out;clear HC5
  obtain ⟨t301,A7,H⟩:=ybi H
  by_cases c8 : t301=true
  ·
   subst c8
   rw [if_pos rfl] at H
   by_cases c9 : a2_0=true
   ·
    subst c9
    rw [if_pos rfl] at H
    have H' := zm H
    clear H
    obtain ⟨_,_,_,_,_,_⟩:=yc3 BK300
    go_wp2_with (first|((with_reducible refine gate_callee (f:=15) rfl ?_);refine ygl 29 Try.func15 #[.int .i64 a0, .int .i64 a1, .agg #[.bool true, .slice A2_1 l2_1.length c2_1, .slice A2_2 l2_2.length c2_2]] ?_;(with_reducible refine (cpack_Right.calls k a0 a1 true _ _ l2_1 _ _ l2_2 true _ ?side1 HC2_1.out ?side3 HC2_2.out A7.out).mono ?_);(case side1=>exact ycb HR2_1);(case side3=>exact ycb HR2_2);rintro e w11 ⟨rfl,hb⟩;refine ⟨_,rfl, ?_⟩;replace BK300:=ybb BK300 hb;replace HB:=ybs hb;(try clear hb);obtain ⟨_,_,_,_,_,_⟩:=yc3 BK300))
    go_meet
    case rel=>exact ⟨_,(false),yq,H',⟨yo⟩,⟨yk BK300⟩,⟨yhb⟩⟩
   ·
    replace c9:=Bool.eq_false_iff.mpr c9
    subst c9
    rw [ynf] at H
    obtain ⟨t302,A13,H⟩:=ybi H
    have H' := zm H
    clear H
    obtain ⟨_,_,_,_,_,_⟩:=yc3 BK300
    go_wp2_with (first|((with_reducible refine gate_callee (f:=15) rfl ?_);refine ygl 29 Try.func15 #[.int .i64 a0, .int .i64 a1, .agg #[.bool false, .slice A2_1 l2_1.length c2_1, .slice A2_2 l2_2.length c2_2]] ?_;(with_reducible refine (cpack_Right.calls k a0 a1 false _ _ l2_1 _ _ l2_2 true _ ?side1 HC2_1.out ?side3 HC2_2.out A7.out).mono ?_);(case side1=>exact ycb HR2_1);(case side3=>exact ycb HR2_2);rintro e w15 ⟨rfl,hb⟩;refine ⟨_,rfl, ?_⟩;replace BK300:=ybb BK300 hb;replace HB:=ybs hb;(try clear hb);obtain ⟨_,_,_,_,_,_⟩:=yc3 BK300)|(go_at_call 25;(with_reducible refine (cpack_gains.calls k a1 _ _ l3 t302 _ ?side1 HC3.out A13.out).mono ?_);(case side1=>exact ycb HR3);rintro e w' ⟨rfl,⟨nd,rfl⟩⟩))
    go_meet
    case rel=>exact ⟨_,(!t302),yq,H',⟨yo⟩,⟨yk BK300⟩,⟨yhb⟩⟩
  ·
   replace c8:=Bool.eq_false_iff.mpr c8
   subst c8
   rw [ynf] at H
   have H' := zm H
   clear H
   obtain ⟨_,_,_,_,_,_⟩:=yc3 BK300
   go_wp2_with (first|((with_reducible refine gate_callee (f:=15) rfl ?_);refine ygl 29 Try.func15 #[.int .i64 a0, .int .i64 a1, .agg #[.bool a2_0, .slice A2_1 l2_1.length c2_1, .slice A2_2 l2_2.length c2_2]] ?_;(with_reducible refine (cpack_Right.calls k a0 a1 a2_0 _ _ l2_1 _ _ l2_2 false _ ?side1 HC2_1.out ?side3 HC2_2.out A7.out).mono ?_);(case side1=>exact ycb HR2_1);(case side3=>exact ycb HR2_2);rintro e w18 ⟨rfl,hb⟩;refine ⟨_,rfl, ?_⟩;replace BK300:=ybb BK300 hb;replace HB:=ybs hb;(try clear hb)))
   go_meet
   case rel=>exact ⟨_,(true),yq,H',⟨yo⟩,⟨yk BK300⟩,⟨yhb⟩⟩
 case rest =>
  clear HC5
  try clear c3
  obtain ⟨kq,x41_4,rfl,HA,HJ4,BK300,HB⟩:=hcut
  obtain ⟨kj4,rfl⟩:=ysu kq (fun h=>by subst h;exact absurd HA.out (by simp [cpack_Write.j0]))
  have H:=HA.out;clear HA
  simp only [cpack_Write.j0] at H
  by_cases c19 : x41_4=true
  ·
   subst c19
   rw [if_pos rfl] at H
   simp only [Option.some.injEq,Prod.mk.injEq] at H
   obtain ⟨rfl,rfl⟩:=H
   go_wp2
   go_ret2
   exact ⟨_,ye,yn,yhb⟩
  ·
   replace c19:=Bool.eq_false_iff.mpr c19
   subst c19
   rw [ynf] at H
   have HC20:=zm H;clear H
   obtain ⟨hcz21_0,hcz21_1,hcz21_2,hfz21_0,hfz21_1,hfz21_2⟩:=yc3 BK300
   go_upto_if 43 with (fail)
   go_cut [10] (fun v10 wc => ∃ (kq : Nat) (x10_19 : Int),v10=.int .i64 x10_19∧Aside0 (cpack_Write.j1 kq a0 a1 l3 x10_19 a2_0 l2_1 l2_2=some (r1,r2))∧Aside0 (kq≤kj4)∧Aside0 (wc.heap[gb300]? = some (.cells #[.bool a2_0,(.slice A2_1 l2_1.length c2_1),(.slice A2_2 l2_2.length c2_2)] 25 (0,0)))∧Aside0 (Below w.heap.size w wc))
   case first =>
    have H:=HC20.out;clear HC20
    by_cases c22 : a2_0=true
    ·
     subst c22
     rw [if_pos rfl] at H
     have H' := zm H
     clear H
     go_wp2
     go_meet
     case rel=>exact ⟨_,(1),yq,H',⟨yom1 HJ4⟩,⟨yk BK300⟩,⟨yhb⟩⟩
    ·
     replace c22:=Bool.eq_false_iff.mpr c22
     subst c22
     rw [ynf] at H
     have H' := zm H
     clear H
     go_wp2
     go_meet
     case rel=>exact ⟨_,(0),yq,H',⟨yom1 HJ4⟩,⟨yk BK300⟩,⟨yhb⟩⟩
   case rest =>
    clear HC20
    try clear hcz21_0
    try clear hcz21_1
    try clear hcz21_2
    try clear hfz21_0
    try clear hfz21_1
    try clear hfz21_2
    obtain ⟨kq,x10_19,rfl,HA,HJ19,BK300,HB⟩:=hcut
    obtain ⟨kj19,rfl⟩:=ysu kq (fun h=>by subst h;exact absurd HA.out (by simp [cpack_Write.j1]))
    have H:=HA.out;clear HA
    simp only [cpack_Write.j1] at H
    obtain ⟨⟨t303,t304,t305⟩,A23,H⟩:=ybi H
    try dsimp only at H
    obtain ⟨⟨t308,t309,t310,t313⟩,A24,H⟩:=ybi H
    try dsimp only at H
    have H' := zm H
    clear H
    go_wp2_with (first|((with_reducible refine gate_callee (f:=27) rfl ?_);refine ygl 45 Try.func27 #[] ?_;(with_reducible refine (coder_New.calls  t303 t304 t305 _ A23.out).mono ?_);rintro e w25 ⟨v306,rfl,ho0,hb⟩;refine ⟨_,rfl, ?_⟩;have HO307:=zm (Kd.R_lower ho0 (zE yhb));replace BK300:=ybb BK300 hb;replace HB:=ybs hb;(try clear hb);(try clear ho0);obtain ⟨Ao26,co26,eo26⟩:=Kd.R_slice HO307.out;subst eo26)|((with_reducible refine gate_callee (f:=26) rfl ?_);refine ygl 49 Try.func26 #[.agg #[.int .u64 t303, .int .u32 t304, .slice Ao26 t305.length co26], .int .i64 x10_19, .int .i64 (wrap64 (x10_19+1)), .int .i64 2] ?_;(with_reducible refine (coder_Put.calls kj19 t303 t304 _ _ t305 x10_19 (wrap64 (x10_19+1)) 2 t308 t309 t310 t313 _ ?side1 ?side2 A24.out).mono ?_);(case side1=>exact yce (Kd.R_reads' HO307.out).2.2);(case side2=>exact (Kd.R_reads' HO307.out).2.1);rintro e w27 ⟨v311,rfl,ho0,hb⟩;refine ⟨_,rfl, ?_⟩;have HO312:=zm (Kd.R_lower (Kd.R_new' ho0 (Kd.R_lt (yr HO307))) (zE yhb));replace HO307:=zm (Kd.R_elder' (yr HO307) (Kd.R_base ho0) hb);replace BK300:=ybb BK300 hb;replace HB:=ybs hb;(try clear hb);(try clear ho0))|((with_reducible refine gate_dst (N:=11) rfl ?_);refine ybx 11 #[.int .u64 0, .int .u32 0, .slice none 0 0] 54 ?_;intro gb314 hg w28 hbox hb;replace HO307:=yRb HO307 hb;replace HO312:=yRb HO312 hb;have BK314:=zm (hbox);have GW314:=ygw hg;have GE314:=ygw hg;replace HB:=ybs hb;have NB300_314:=ynl BK300 hg;have NB314_300:=yng BK300 hg;replace BK300:=ybb BK300 hb;clear hb hbox hg;have:=NB314_300.out;have:=NB300_314.out;obtain ⟨hcz30_0,hcz30_1,hcz30_2,hfz30_0,hfz30_1,hfz30_2⟩:=yc3 BK314;obtain ⟨Ao31,co31,eo31⟩:=Kd.R_slice HO312.out;subst eo31;obtain ⟨hcz32_0,hcz32_1,hcz32_2,hfz32_0,hfz32_1,hfz32_2⟩:=yc3 BK300))
    go_loopg [55] kj19 (fun kq v55 w' => ∃ (x55_3 : Int) (x315000_3 : Int) (x315001_3 : Int) (x315002_3 : List Int) (u315002 : Value),v55=.int .i64 x55_3∧Aside0 (cpack_Write.l0 kq a0 a1 l3 l2_1 (l2_1.length : Int) x55_3 a2_0 l2_1 l2_2 x315000_3 x315001_3 x315002_3=some (r1,r2))∧Aside0 (kq≤kj19)∧Aside0 (Kd.V (Kd.int .u8) 5 w' w.heap.size (fun k_=>k_≠gb300∧k_≠gb314) u315002 x315002_3)∧Aside0 (w'.heap[gb300]? = some (.cells #[.bool a2_0,(.slice A2_1 l2_1.length c2_1),(.slice A2_2 l2_2.length c2_2)] 25 (0,0)))∧Aside0 (w'.heap[gb314]? = some (.cells #[.int .u64 x315000_3, .int .u32 x315001_3,u315002] 54 (0,0)))∧Aside0 (Below w.heap.size w w'))
    case atStart=>exact ⟨(0),(t308),(t309),(t310),(.slice Ao31 t310.length co31),yq,H',⟨Nat.le_refl _⟩,⟨Kd.R_V (by (with_reducible repeat (first|apply zo|apply zp|apply zq));exact zG (zH (p:=⟨gb314,2,none⟩) (zH (p:=⟨gb314,1,none⟩) (zH (p:=⟨gb314,0,none⟩) (Kd.R_types (Kd.R_types (Kd.R_types HO312.out BK300.out (by decide)) BK314.out (by decide)) BK314.out (by decide)) (fun _ hk=>hk.2) (.int .u64 t308)) (fun _ hk=>hk.2) (.int .u32 t309)) (fun _ hk=>hk.2) (.slice Ao31 t310.length co31)) (fun _ hk=>⟨hk.1.1.2,hk.1.2⟩))⟩,⟨yk BK300⟩,⟨ykp BK314⟩,⟨yhb⟩⟩
    case round =>
     clear H'
     try clear hcz30_0
     try clear hcz30_1
     try clear hcz30_2
     try clear hcz32_0
     try clear hcz32_1
     try clear hcz32_2
     try clear hfz30_0
     try clear hfz30_1
     try clear hfz30_2
     try clear hfz32_0
     try clear hfz32_1
     try clear hfz32_2
     obtain ⟨x55_3,x315000_3,x315001_3,x315002_3,u315002,rfl,HA,HK3,HO_315002,BK300,BK314,HB⟩:=hrel
     obtain ⟨k3,rfl⟩:=ysu gk (fun h=>by subst h;exact absurd HA.out (by simp [cpack_Write.l0]))
     have H:=HA.out;clear HA
     simp only [cpack_Write.l0] at H
     by_cases c33 : x55_3 < (l2_1.length : Int)
     ·
      rw [if_pos c33] at H
      have c33b0 : decide (x55_3 < (l2_1.length : Int))=true:=decide_eq_true c33
      clear c33
      obtain ⟨c34,H⟩:=yif H
      have c34b0 : decide (0≤x55_3)=true:=decide_eq_true c34
      clear c34
      obtain ⟨c35,H⟩:=yif H
      have c35b0 : decide (x55_3 < (l2_1.length : Int))=true:=decide_eq_true c35
      clear c35
      obtain ⟨t316,A36,H⟩:=ybi H
      obtain ⟨⟨t319,t320,t321,t324⟩,A37,H⟩:=ybi H
      try dsimp only at H
      have H' := zm H
      clear H
      have p315 : 0≤(x55_3 : Int):=yt
      have q315 : x55_3 < (l2_1.length : Int):=yt
      obtain ⟨ad315,A315_0,c315_0,e315,hx315_0,hl315_0,hi315_0⟩:=at_L1 HR2_1.out x55_3 p315 q315
      cases e315
      replace hx315_0:=yhx HB hx315_0
      have HR315_0:=zm hi315_0;have HC315_0:=zm hl315_0;clear hi315_0 hl315_0
      replace p315:=eq_true p315
      replace q315:=eq_true q315
      try go_wp2
      replace HO_315002:=zm (zC HO_315002.out)
      replace BK300:=zm (zj BK300.out)
      replace BK314:=zm (zj BK314.out)
      replace HB:=zm (zf HB.out)
      refine yst (fun w' => w'.cell? ⟨gb314,0,none⟩=some (.int .u64 x315000_3)∧w'.cell? ⟨gb314,1,none⟩=some (.int .u32 x315001_3)∧w'.cell? ⟨gb314,2,none⟩=some (u315002)∧w'.cell? ⟨gb300,0,none⟩=some (.bool a2_0)∧w'.cell? ⟨gb300,1,none⟩=some (.slice (some ad315) l2_1.length c2_1)∧w'.cell? ⟨gb300,2,none⟩=some (.slice A2_2 l2_2.length c2_2)) [11] 12 cpack_Write.tab10 cpack_Write.bits10 (fun hHeld HT_ HW_ => ?_)
      generalize wr.drew=w38 at HO_315002 BK300 BK314 HB hHeld ⊢
      refine yp 1 62 HT_ ?_
      refine yp 2 63 HT_ ?_
      refine yp 3 64 HT_ ?_
      refine yp 5 66 HT_ ?_
      refine yl 0 61 HT_ HW_ hHeld ?_
      refine yl 6 67 HT_ HW_ hHeld ?_
      refine yw 4 65 HT_ (fun K hK => ?_)
      refine ygs Try.func29 #[.slice A3 l3.length c3, .int .i64 x55_3] ?_
      with_reducible refine (cpack_of.calls (fun k_=>k_ < w.heap.size) _ _ l3 x55_3 t316 _ ?side1 A36.out).mono ?_
      (case side1=>exact Kd.V_mk HC3.out (Kd.F_below (Kd.C_F (Kd.heap_slice 3 (Kd.heap_int .i64)) HR3.out) yhb))
      rintro e w39 ⟨v317,rfl,ho0,hb⟩
      refine ⟨_,rfl, ?_⟩
      replace HO_315002:=yVb HO_315002 hb
      have HO318:=yho (fun k_=>k_≠gb300∧k_≠gb314) ho0 (fun k_ hk_=>⟨yoB BK300 hk_,yoB BK314 hk_⟩)
      replace BK300:=ybb BK300 hb
      replace BK314:=ybb BK314 hb
      replace HB:=ybs hb
      (try clear hb)
      (try clear ho0)
      obtain ⟨Ao40,co40,eo40⟩:=Kd.V_slice HO_315002.out
      (first|subst eo40|(injection eo40 with f1_ f2_ f3_;have f4_:=f1_.symm;have f5_:=f3_.symm;clear f1_ f2_ f3_;subst f4_;subst f5_))
      obtain ⟨Ao41,co41,eo41⟩:=Kd.V_slice HO318.out
      (first|subst eo41|(injection eo41 with f1_ f2_ f3_;have f4_:=f1_.symm;have f5_:=f3_.symm;clear f1_ f2_ f3_;subst f4_;subst f5_))
      refine hK.out _ _ yH (fun hHeld => ?_)
      clear hK K
      refine ym (some 65) ?_
      refine yw 7 68 HT_ (fun K hK => ?_)
      refine ygs Try.func28 #[.agg #[.int .u64 x315000_3, .int .u32 x315001_3, .slice Ao40 x315002_3.length co40], .slice A315_0 (rd_L1 l2_1 x55_3).length c315_0, .slice Ao41 t316.length co41, .bool a2_0] ?_
      with_reducible refine (gain_Put.calls k3 x315000_3 x315001_3 (fun k_=>(k_≠gb300∧k_≠gb314)) _ _ x315002_3 _ _ (rd_L1 l2_1 x55_3) _ _ t316 a2_0 t319 t320 t321 t324 _ ?side1 ?side2 ?side3 ?side4 ?side5 A37.out).mono ?_
      (case side1=>exact HO_315002.out)
      (case side2=>exact ycb HR315_0)
      (case side3=>exact HC315_0.out)
      (case side4=>exact yce (Kd.V_reads' HO318.out).2.2)
      (case side5=>exact (Kd.V_reads' HO318.out).2.1)
      rintro e w42 ⟨v322,rfl,ho0,hb⟩
      refine ⟨_,rfl, ?_⟩
      replace HO_315002:=yVb HO_315002 hb
      replace HO318:=yVb HO318 hb
      have HO323:=yho (fun k_=>k_≠gb300∧k_≠gb314) ho0 (fun k_ hk_=>⟨yoB BK300 hk_,yoB BK314 hk_⟩)
      replace BK300:=ybb BK300 hb
      replace BK314:=ybb BK314 hb
      replace HB:=ybs hb
      (try clear hb)
      (try clear ho0)
      obtain ⟨Ao45,co45,eo45⟩:=Kd.V_slice HO323.out
      (first|subst eo45|(injection eo45 with f1_ f2_ f3_;have f4_:=f1_.symm;have f5_:=f3_.symm;clear f1_ f2_ f3_;subst f4_;subst f5_))
      refine hK.out _ _ yH (fun hHeld => ?_)
      clear hK K
      refine ym (some 68) ?_
      refine yp 8 60 HT_ ?_
      refine yp 9 69 HT_ ?_
      refine yp 10 70 HT_ ?_
      refine last_ (i:=11) (N:=none) #[true,true,true,true,true,true,true,true,true,true,true,true] rfl rfl (one_of HT_.out (by kernel_rfl)) (by decide) (fun K hK => ?_)
      have hs43 : w42.cell? ⟨gb314,0,none⟩=some (.int .u64 x315000_3):=(zs BK314.out 0).trans rfl
      have hfs43:=zx BK314.out 0
      have:=NB300_314.out
      have:=NB314_300.out
      have hs44 : w42.cell? ⟨gb314,1,none⟩=some (.int .u32 x315001_3):=(zs BK314.out 1).trans rfl
      have hfs44:=zx BK314.out 1
      have:=NB300_314.out
      have:=NB314_300.out
      have hs46 : w42.cell? ⟨gb314,2,none⟩=some (.slice Ao40 x315002_3.length co40):=(zs BK314.out 2).trans rfl
      have hfs46:=zx BK314.out 2
      have:=NB300_314.out
      have:=NB314_300.out
      refine skip_ (w1 := ?_) (by rfl) rfl ?_ ?_
      rotate_left
      ·
       go_simp
       rfl
      refine hK.out _ _ ?_
      clear hK K
      refine done_ (done_of HT_.out (by kernel_rfl)) ?_
      try go_wp2
      go_roundg k3
      case measure=>exact yom3 HJ4 HJ19 HK3
      case rel=>exact ⟨(wrap64 (x55_3+1)),(t319),(t320),(t321),(.slice Ao45 t321.length co45),yq,H',⟨yom3 HJ4 HJ19 HK3⟩,⟨yV0 HO323⟩,⟨yk BK300⟩,⟨ykp BK314⟩,⟨yhb⟩⟩
     ·
      rw [if_neg c33] at H
      have c33b0 : decide (x55_3 < (l2_1.length : Int))=false:=decide_eq_false c33
      clear c33
      obtain ⟨⟨t325,t326⟩,A47,H⟩:=ybi H
      try dsimp only at H
      have H' := zm H
      clear H
      have:=NB300_314.out
      have:=NB314_300.out
      obtain ⟨hcz49_0,hcz49_1,hcz49_2,hfz49_0,hfz49_1,hfz49_2⟩:=yc3 BK300
      go_wp2_with (first|((with_reducible refine gate_callee (f:=30) rfl ?_);refine ygl 77 Try.func30 #[.int .i64 a0, .int .i64 a1, .slice A2_1 l2_1.length c2_1] ?_;(with_reducible refine (alloc_Pulses.calls k3 a0 a1 _ _ l2_1 t325 t326 _ ?side1 HC2_1.out A47.out).mono ?_);(case side1=>exact ycb HR2_1);rintro e w50 ⟨v327,rfl,ho0,hb⟩;refine ⟨_,rfl, ?_⟩;replace HO_315002:=zm (Kd.V_elder' (yr HO_315002) (Kd.S_base ho0) hb);have HO328:=zm (Kd.S_lower ho0 (zE yhb));replace BK300:=ybb BK300 hb;replace BK314:=ybb BK314 hb;replace HB:=ybs hb;(try clear hb);(try clear ho0);obtain ⟨hcz51_0,hcz51_1,hcz51_2,hfz51_0,hfz51_1,hfz51_2⟩:=yc3 BK300))
      go_loopg [83] k3 (fun kq v83 w' => ∃ (x83_4 : Int) (x315000_4 : Int) (x315001_4 : Int) (x315002_4 : List Int) (u315002 : Value),v83=.int .i64 x83_4∧Aside0 (cpack_Write.l1 kq a0 t325 l2_2 (l2_2.length : Int) x83_4 x315000_4 x315001_4 x315002_4=some (r1,r2))∧Aside0 (kq≤k3)∧Aside0 (Kd.S (Kd.slice 3 (Kd.int .i64)) 49 w' w.heap.size (fun _=>True) v327 t325)∧Aside0 (Kd.V (Kd.int .u8) 5 w' w.heap.size (fun k_=>some k_≠(v327 : Value).ownBlock∧k_≠gb300∧k_≠gb314) u315002 x315002_4)∧Aside0 (w'.heap[gb300]? = some (.cells #[.bool a2_0,(.slice A2_1 l2_1.length c2_1),(.slice A2_2 l2_2.length c2_2)] 25 (0,0)))∧Aside0 (w'.heap[gb314]? = some (.cells #[.int .u64 x315000_4, .int .u32 x315001_4,u315002] 54 (0,0)))∧Aside0 (Below w.heap.size w w'))
      case atStart=>exact ⟨(0),(x315000_3),(x315001_3),(x315002_3),(u315002),yq,H',⟨Nat.le_refl _⟩,⟨yr HO328⟩,⟨yV0 HO_315002⟩,⟨yk BK300⟩,⟨yk BK314⟩,⟨yhb⟩⟩
      case round =>
       clear H'
       try clear c3
       try clear c33b0
       try clear c34b0
       try clear c35b0
       try clear hcz49_0
       try clear hcz49_1
       try clear hcz49_2
       try clear hcz51_0
       try clear hcz51_1
       try clear hcz51_2
       try clear hfz49_0
       try clear hfz49_1
       try clear hfz49_2
       try clear hfz51_0
       try clear hfz51_1
       try clear hfz51_2
       try clear hx315_0
       try clear p315
       try clear q315
       obtain ⟨x83_4,x315000_4,x315001_4,x315002_4,u315002,rfl,HA,HK4,HO_15,HO_315002,BK300,BK314,HB⟩:=hrel
       obtain ⟨k4,rfl⟩:=ysu gk (fun h=>by subst h;exact absurd HA.out (by simp [cpack_Write.l1]))
       have H:=HA.out;clear HA
       simp only [cpack_Write.l1] at H
       by_cases c52 : x83_4 < (l2_2.length : Int)
       ·
        rw [if_pos c52] at H
        have c52b0 : decide (x83_4 < (l2_2.length : Int))=true:=decide_eq_true c52
        clear c52
        obtain ⟨c53,H⟩:=yif H
        have c53b0 : decide (0≤x83_4)=true:=decide_eq_true c53
        clear c53
        obtain ⟨c54,H⟩:=yif H
        have c54b0 : decide (x83_4 < (l2_2.length : Int))=true:=decide_eq_true c54
        clear c54
        have H' := zm H
        clear H
        have p338 : 0≤(x83_4 : Int):=yt
        have q338 : x83_4 < (l2_2.length : Int):=yt
        obtain ⟨ad338,A338_0,c338_0,e338,hx338_0,hl338_0,hi338_0⟩:=at_L2 HR2_2.out x83_4 p338 q338
        cases e338
        replace hx338_0:=yhx HB hx338_0
        have HR338_0:=zm hi338_0;have HC338_0:=zm hl338_0;clear hi338_0 hl338_0
        replace p338:=eq_true p338
        replace q338:=eq_true q338
        go_wp2
        go_loopg [90] k4 (fun kq v90 w' => ∃ (x90_5 : Int) (x315000_5 : Int) (x315001_5 : Int) (x315002_5 : List Int) (u315002 : Value),v90=.int .i64 x90_5∧Aside0 (cpack_Write.l2 kq a0 t325 x83_4 l2_2 (l2_2.length : Int) x83_4 (rd_L2 l2_2 x83_4) ((rd_L2 l2_2 x83_4).length : Int) x90_5 x315000_5 x315001_5 x315002_5=some (r1,r2))∧Aside0 (kq≤k4)∧Aside0 (Kd.S (Kd.slice 3 (Kd.int .i64)) 49 w' w.heap.size (fun _=>True) v327 t325)∧Aside0 (Kd.V (Kd.int .u8) 5 w' w.heap.size (fun k_=>some k_≠(v327 : Value).ownBlock∧k_≠gb300∧k_≠gb314) u315002 x315002_5)∧Aside0 (w'.heap[gb300]? = some (.cells #[.bool a2_0,(.slice A2_1 l2_1.length c2_1),(.slice (some ad338) l2_2.length c2_2)] 25 (0,0)))∧Aside0 (w'.heap[gb314]? = some (.cells #[.int .u64 x315000_5, .int .u32 x315001_5,u315002] 54 (0,0)))∧Aside0 (Below w.heap.size w w'))
        case atStart=>exact ⟨(0),(x315000_4),(x315001_4),(x315002_4),(u315002),yq,H',⟨Nat.le_refl _⟩,⟨yr HO_15⟩,⟨yr HO_315002⟩,⟨yk BK300⟩,⟨yk BK314⟩,⟨yhb⟩⟩
        case round =>
         clear H'
         try clear c52b0
         try clear c53b0
         try clear c54b0
         try clear hx338_0
         try clear p338
         try clear q338
         obtain ⟨x90_5,x315000_5,x315001_5,x315002_5,u315002,rfl,HA,HK5,HO_15,HO_315002,BK300,BK314,HB⟩:=hrel
         obtain ⟨k5,rfl⟩:=ysu gk (fun h=>by subst h;exact absurd HA.out (by simp [cpack_Write.l2]))
         have H:=HA.out;clear HA
         simp only [cpack_Write.l2] at H
         by_cases c55 : x90_5 < ((rd_L2 l2_2 x83_4).length : Int)
         ·
          rw [if_pos c55] at H
          have c55b0 : decide (x90_5 < ((rd_L2 l2_2 x83_4).length : Int))=true:=decide_eq_true c55
          clear c55
          obtain ⟨c56,H⟩:=yif H
          have c56b0 : decide (0≤x90_5)=true:=decide_eq_true c56
          clear c56
          obtain ⟨c57,H⟩:=yif H
          have c57b0 : decide (x90_5 < ((rd_L2 l2_2 x83_4).length : Int))=true:=decide_eq_true c57
          clear c57
          obtain ⟨c58,H⟩:=yif H
          have c58b0 : decide (0≤x83_4)=true:=decide_eq_true c58
          clear c58
          obtain ⟨c59,H⟩:=yif H
          have c59b0 : decide (x83_4 < (t325.length : Int))=true:=decide_eq_true c59
          clear c59
          obtain ⟨c60,H⟩:=yif H
          have c60b0 : decide (x90_5 < ((rd_L1 t325 x83_4).length : Int))=true:=decide_eq_true c60
          clear c60
          by_cases c61 : (rd (rd_L1 t325 x83_4) x90_5)=0
          ·
           rw [if_pos c61] at H
           have c61b0 : ((rd (rd_L1 t325 x83_4) x90_5) == 0)=true:=beq_iff_eq.mpr c61
           have c61b1 : ((rd (rd_L1 t325 x83_4) x90_5) != 0)=false:=bne_eq_false_iff_eq.mpr c61
           clear c61
           have H' := zm H
           clear H
           have p339 : 0≤(x90_5 : Int):=yt
           have q339 : x90_5 < ((rd_L2 l2_2 x83_4).length : Int):=yt
           obtain ⟨ad339,A339_0,c339_0,e339,hx339_0,hl339_0,hi339_0⟩:=at_L1 HR338_0.out x90_5 p339 q339
           cases e339
           replace hx339_0:=yhx HB hx339_0
           have HR339_0:=zm hi339_0;have HC339_0:=zm hl339_0;clear hi339_0 hl339_0
           replace p339:=eq_true p339
           replace q339:=eq_true q339
           obtain ⟨Ao62,co62,eo62⟩:=Kd.S_slice HO_15.out
           subst eo62
           have p340 : 0≤(x83_4 : Int):=yt
           have q340 : x83_4 < (t325.length : Int):=yt
           obtain ⟨ad340,A340_0,c340_0,e340,hx340_0,hl340_0,hi340_0⟩:=at_L1 (Kd.S_reads' HO_15.out).2.2 x83_4 p340 q340
           cases e340
           obtain ⟨ce340,hce340,hMe340,hcc340⟩:=Kd.S_get HO_15.out [] x83_4 p340 (by first|exact q340|exact yt|(have e_:=(Kd.S_reads' HO_15.out).1;omega))
           obtain ⟨ve340_0,rfl,ge340_0⟩:=hMe340
           have hv340_0:=hcc340 0 _ rfl
           rw [Nat.add_zero,show ((Kd.slice 3 (Kd.int .i64))).sz=1 from rfl,Nat.mul_one] at hv340_0
           replace hv340_0:=Option.some.inj (hv340_0.symm.trans hx340_0)
           rw [hv340_0] at ge340_0
           have HL340_0:=zm (show Kd.R (Kd.int .i64) 3 _ _ _ _ (rd_L1 t325 x83_4) from ge340_0)
           clear hv340_0 ge340_0;clear hcc340 hce340;have HR340_0:=zm hi340_0;have HC340_0:=zm hl340_0;clear hi340_0 hl340_0
           replace p340:=eq_true p340
           replace q340:=eq_true q340
           obtain ⟨ad341,e341,hx341_0,p341,q341⟩:=yai HR340_0 x90_5
           cases e341
           go_wp2
           go_roundg k5
           case measure=>exact yom5 HJ4 HJ19 HK3 HK4 HK5
           case rel=>exact ⟨(wrap64 (x90_5+1)),(x315000_5),(x315001_5),(x315002_5),(u315002),yq,H',⟨yom5 HJ4 HJ19 HK3 HK4 HK5⟩,⟨yr HO_15⟩,⟨yr HO_315002⟩,⟨yk BK300⟩,⟨yk BK314⟩,⟨yhb⟩⟩
          ·
           rw [if_neg c61] at H
           have c61b0 : ((rd (rd_L1 t325 x83_4) x90_5) == 0)=false:=beq_eq_false_iff_ne.mpr c61
           have c61b1 : ((rd (rd_L1 t325 x83_4) x90_5) != 0)=true:=bne_iff_ne.mpr c61
           obtain ⟨t342,A63,H⟩:=ybi H
           obtain ⟨⟨t345,t346⟩,A64,H⟩:=ybi H
           try dsimp only at H
           obtain ⟨⟨t347,t348⟩,A65,H⟩:=ybi H
           try dsimp only at H
           obtain ⟨⟨t349,t350,t351,t354⟩,A66,H⟩:=ybi H
           try dsimp only at H
           have H' := zm H
           clear H
           have p339 : 0≤(x90_5 : Int):=yt
           have q339 : x90_5 < ((rd_L2 l2_2 x83_4).length : Int):=yt
           obtain ⟨ad339,A339_0,c339_0,e339,hx339_0,hl339_0,hi339_0⟩:=at_L1 HR338_0.out x90_5 p339 q339
           cases e339
           replace hx339_0:=yhx HB hx339_0
           have HR339_0:=zm hi339_0;have HC339_0:=zm hl339_0;clear hi339_0 hl339_0
           replace p339:=eq_true p339
           replace q339:=eq_true q339
           obtain ⟨Ao67,co67,eo67⟩:=Kd.S_slice HO_15.out
           subst eo67
           have p340 : 0≤(x83_4 : Int):=yt
           have q340 : x83_4 < (t325.length : Int):=yt
           obtain ⟨ad340,A340_0,c340_0,e340,hx340_0,hl340_0,hi340_0⟩:=at_L1 (Kd.S_reads' HO_15.out).2.2 x83_4 p340 q340
           cases e340
           obtain ⟨ce340,hce340,hMe340,hcc340⟩:=Kd.S_get HO_15.out [] x83_4 p340 (by first|exact q340|exact yt|(have e_:=(Kd.S_reads' HO_15.out).1;omega))
           obtain ⟨ve340_0,rfl,ge340_0⟩:=hMe340
           have hv340_0:=hcc340 0 _ rfl
           rw [Nat.add_zero,show ((Kd.slice 3 (Kd.int .i64))).sz=1 from rfl,Nat.mul_one] at hv340_0
           replace hv340_0:=Option.some.inj (hv340_0.symm.trans hx340_0)
           rw [hv340_0] at ge340_0
           have HL340_0:=zm (show Kd.R (Kd.int .i64) 3 _ _ _ _ (rd_L1 t325 x83_4) from ge340_0)
           clear hv340_0 ge340_0;clear hcc340 hce340;have HR340_0:=zm hi340_0;have HC340_0:=zm hl340_0;clear hi340_0 hl340_0
           replace p340:=eq_true p340
           replace q340:=eq_true q340
           obtain ⟨ad341,e341,hx341_0,p341,q341⟩:=yai HR340_0 x90_5
           cases e341
           try go_wp2
           replace HO_15:=zm (Kd.S_drew HO_15.out)
           replace HO_315002:=zm (zC HO_315002.out)
           replace HL340_0:=zm (zq HL340_0.out)
           replace BK300:=zm (zj BK300.out)
           replace BK314:=zm (zj BK314.out)
           replace HR340_0:=zm (Kd.C_drew HR340_0.out)
           replace HB:=zm (zf HB.out)
           have p343 : 0≤(x83_4 : Int):=yt
           have q343 : x83_4 < (t325.length : Int):=yt
           obtain ⟨ad343,A343_0,c343_0,e343,hx343_0,hl343_0,hi343_0⟩:=at_L1 (Kd.S_reads' HO_15.out).2.2 x83_4 p343 q343
           obtain rfl : ad340=ad343:=(by injection e343)
           obtain ⟨ce343,hce343,hMe343,hcc343⟩:=Kd.S_get HO_15.out [] x83_4 p343 (by first|exact q343|exact yt|(have e_:=(Kd.S_reads' HO_15.out).1;omega))
           obtain ⟨ve343_0,rfl,ge343_0⟩:=hMe343
           have hv343_0:=hcc343 0 _ rfl
           rw [Nat.add_zero,show ((Kd.slice 3 (Kd.int .i64))).sz=1 from rfl,Nat.mul_one] at hv343_0
           replace hv343_0:=Option.some.inj (hv343_0.symm.trans hx343_0)
           rw [hv343_0] at ge343_0
           have HL343_0:=zm (show Kd.R (Kd.int .i64) 3 _ _ _ _ (rd_L1 t325 x83_4) from ge343_0)
           clear hv343_0 ge343_0;clear hcc343 hce343;have HR343_0:=zm hi343_0;have HC343_0:=zm hl343_0;clear hi343_0 hl343_0
           replace p343:=eq_true p343
           replace q343:=eq_true q343
           obtain ⟨ad344,e344,hx344_0,p344,q344⟩:=yai HR343_0 x90_5
           cases e344
           refine yst (fun w' => w'.cell? (ad340.add (x83_4).toNat)=some (.slice (some ad344) (rd_L1 t325 x83_4).length c343_0)∧w'.cell? (ad344.add (x90_5).toNat)=some (.int .i64 (rd (rd_L1 t325 x83_4) x90_5))) [] 15 cpack_Write.tab20 cpack_Write.bits20 (fun hHeld HT_ HW_ => ?_)
           generalize wr.drew=w68 at HO_15 HO_315002 HL340_0 BK300 BK314 HR340_0 HB HL343_0 HR343_0 hx343_0 hx344_0 hHeld ⊢
           refine yp 0 104 HT_ ?_
           refine yp 2 106 HT_ ?_
           refine yp 3 107 HT_ ?_
           refine yp 4 108 HT_ ?_
           refine yp 6 110 HT_ ?_
           refine yl 5 109 HT_ HW_ hHeld ?_
           refine yp 7 111 HT_ ?_
           refine yl 8 112 HT_ HW_ hHeld ?_
           refine yw 1 105 HT_ (fun K hK => ?_)
           refine ygs Try.func32 #[.int .i64 x90_5] ?_
           with_reducible refine (band_Width.calls x90_5 t342 _ A63.out).mono ?_
           rintro e w69 ⟨rfl,hb⟩
           have HS0_:=yhs hb hHeld.1
           have HS1_:=yhs hb hHeld.2
           refine ⟨_,rfl, ?_⟩
           replace HO_15:=ySb HO_15 hb
           replace HO_315002:=yVb HO_315002 hb
           replace HL340_0:=yRb HL340_0 hb
           replace HL343_0:=yRb HL343_0 hb
           replace BK300:=ybb BK300 hb
           replace BK314:=ybb BK314 hb
           replace HR340_0:=yCb HR340_0 hb
           replace HR343_0:=yCb HR343_0 hb
           replace HB:=ybs hb
           (try clear hb)
           refine hK.out _ _ yH (fun hHeld => ?_)
           clear hK K
           refine ym (some 105) ?_
           refine yw 9 113 HT_ (fun K hK => ?_)
           refine ygs Try.func31 #[.int .i64 t342, .int .i64 (rd (rd_L1 t325 x83_4) x90_5)] ?_
           with_reducible refine (comb_Count.calls t342 (rd (rd_L1 t325 x83_4) x90_5) t345 t346 _ A64.out).mono ?_
           rintro e w70 ⟨rfl,hb⟩
           have HS0_:=yhs hb hHeld.1
           have HS1_:=yhs hb hHeld.2
           refine ⟨_,rfl, ?_⟩
           replace HO_15:=ySb HO_15 hb
           replace HO_315002:=yVb HO_315002 hb
           replace HL340_0:=yRb HL340_0 hb
           replace HL343_0:=yRb HL343_0 hb
           replace BK300:=ybb BK300 hb
           replace BK314:=ybb BK314 hb
           replace HR340_0:=yCb HR340_0 hb
           replace HR343_0:=yCb HR343_0 hb
           replace HB:=ybs hb
           (try clear hb)
           refine hK.out _ _ yH (fun hHeld => ?_)
           clear hK K
           refine ym (some 113) ?_
           refine yp 10 103 HT_ ?_
           refine yp 11 114 HT_ ?_
           refine yp 12 115 HT_ ?_
           refine yp 13 21 HT_ ?_
           refine yp 14 22 HT_ ?_
           refine done_ (done_of HT_.out (by kernel_rfl)) ?_
           try go_wp2_with (first|((with_reducible refine gate_callee (f:=33) rfl ?_);refine ygl 118 Try.func33 #[.slice A339_0 (rd_L1 (rd_L2 l2_2 x83_4) x90_5).length c339_0] ?_;(with_reducible refine (comb_Index.calls k5 _ _ (rd_L1 (rd_L2 l2_2 x83_4) x90_5) t347 t348 _ ?side1 HC339_0.out A65.out).mono ?_);(case side1=>exact ycb HR339_0);rintro e w71 ⟨rfl,hb⟩;refine ⟨_,rfl, ?_⟩;replace HO_15:=ySb HO_15 hb;replace HO_315002:=yVb HO_315002 hb;replace HL340_0:=yRb HL340_0 hb;replace HL343_0:=yRb HL343_0 hb;replace BK300:=ybb BK300 hb;replace BK314:=ybb BK314 hb;replace HR340_0:=yCb HR340_0 hb;replace HR343_0:=yCb HR343_0 hb;replace HB:=ybs hb;(try clear hb);have:=NB314_300.out;have:=NB300_314.out;obtain ⟨_,_,_,_,_,_⟩:=yc3 BK314;obtain ⟨Ao74,co74,eo74⟩:=Kd.V_slice HO_315002.out;subst eo74)|((with_reducible refine gate_callee (f:=34) rfl ?_);refine ygl 125 Try.func34 #[.agg #[.int .u64 x315000_5, .int .u32 x315001_5, .slice Ao74 x315002_5.length co74], .int .u64 t347, .int .u64 t345] ?_;(with_reducible refine (coder_PutNum.calls k5 x315000_5 x315001_5 _ _ x315002_5 t347 t345 t349 t350 t351 t354 _ ?side1 ?side2 A66.out).mono ?_);(case side1=>exact yce (Kd.V_reads' HO_315002.out).2.2);(case side2=>exact (Kd.V_reads' HO_315002.out).2.1);rintro e w75 ⟨v352,rfl,ho0,hb⟩;refine ⟨_,rfl, ?_⟩;replace HO_15:=ySb HO_15 hb;replace HO_315002:=zm (Kd.V_elder' (yr HO_315002) (Kd.R_base ho0) hb);replace HL340_0:=yRb HL340_0 hb;replace HL343_0:=yRb HL343_0 hb;have HO353:=zm (Kd.R_lower ho0 (zE yhb));replace BK300:=ybb BK300 hb;replace BK314:=ybb BK314 hb;replace HR340_0:=yCb HR340_0 hb;replace HR343_0:=yCb HR343_0 hb;replace HB:=ybs hb;(try clear hb);(try clear ho0);obtain ⟨_,_,_,_,_,_⟩:=yc3 BK314;obtain ⟨Ao77,co77,eo77⟩:=Kd.R_slice HO353.out;subst eo77))
           go_roundg k5
           case measure=>exact yom5 HJ4 HJ19 HK3 HK4 HK5
           case rel=>exact ⟨(wrap64 (x90_5+1)),(t349),(t350),(t351),(.slice Ao77 t351.length co77),yq,H',⟨yom5 HJ4 HJ19 HK3 HK4 HK5⟩,⟨yS1 HO_15 BK314⟩,⟨Kd.R_V (by (with_reducible repeat (first|apply zo|apply zp|apply zq));exact zG (zH (p:=⟨gb314,2,none⟩) (zH (p:=⟨gb314,1,none⟩) (zH (p:=⟨gb314,0,none⟩) (Kd.R_types (Kd.R_types (Kd.R_types (Kd.R_apart' HO353.out (Kd.S_typed HO_15.out) (by decide)) BK300.out (by decide)) BK314.out (by decide)) BK314.out (by decide)) (fun _ hk=>hk.2) (.int .u64 t349)) (fun _ hk=>hk.2) (.int .u32 t350)) (fun _ hk=>hk.2) (.slice Ao77 t351.length co77)) (fun _ hk=>⟨hk.1.1.1.2,⟨hk.1.1.2,hk.1.2⟩⟩))⟩,⟨yk BK300⟩,⟨ykp BK314⟩,⟨yhb⟩⟩
         ·
          rw [if_neg c55] at H
          have c55b0 : decide (x90_5 < ((rd_L2 l2_2 x83_4).length : Int))=false:=decide_eq_false c55
          clear c55
          have H' := zm H
          clear H
          go_wp2
          go_roundg k5
          case measure=>exact yom5 HJ4 HJ19 HK3 HK4 HK5
          case rel=>exact ⟨(wrap64 (x83_4+1)),(x315000_5),(x315001_5),(x315002_5),(u315002),yq,H',⟨yom5 HJ4 HJ19 HK3 HK4 HK5⟩,⟨yr HO_15⟩,⟨yr HO_315002⟩,⟨yk BK300⟩,⟨yk BK314⟩,⟨yhb⟩⟩
       ·
        rw [if_neg c52] at H
        have c52b0 : decide (x83_4 < (l2_2.length : Int))=false:=decide_eq_false c52
        clear c52
        obtain ⟨c78,H⟩:=yif H
        have c78b0:=eq_true c78
        have c78b1 : decide (0≤a0)=true:=decide_eq_true c78
        clear c78
        obtain ⟨c79,H⟩:=yif H
        have c79b0:=eq_true c79
        have c79b1 : decide ((a0 : Int).toNat≤281474976710656)=true:=decide_eq_true c79
        clear c79
        obtain ⟨y329,hy329⟩ : ∃ y_ : List Int,y_=(List.replicate (a0 : Int).toNat 0):=⟨_,rfl⟩
        replace H : ((coder_Finish.f x315000_4 x315001_4 x315002_4).bind fun t332=>(some ((t332.take y329.length ++ y329.drop t332.length),0)))=some (r1,r2):=yrw hy329 H
        have Ny329:=zm hy329;clear hy329
        obtain ⟨t332,A80,H⟩:=ybi H
        by_cases c81 : True
        ·
         have _h:=c81;have LMc81:=zm c81;clear c81
         obtain ⟨y335,hy335⟩ : ∃ y_ : List Int,y_=(t332.take y329.length ++ y329.drop t332.length):=⟨_,rfl⟩
         replace H : (some (y335,0))=some (r1,r2):=yrw hy335 H
         have Ny335:=zm hy335;clear hy335
         simp only [Option.some.injEq,Prod.mk.injEq] at H
         obtain ⟨rfl,rfl⟩:=H
         go_wp2_with (first|((with_reducible refine gate_dst (N:=131) rfl ?_);refine Kd.R_make (Kd.int .u8) _ 5 rfl (N:=131) rfl 28 _ _ rfl a0 rfl rfl Try.underlying28 (.int .u8 0) 1 info5 rfl (by decide) (by omega) 0 (ok:=fun _=>True) (okp:=fun _=>True) rfl (fun _ hk=>hk) trivial (yt) (Nat.le_trans (Nat.mul_le_mul_right _ (yt : a0.toNat≤281474976710656)) (by omega)) (Below.refl _ _) (Nat.le_refl _) ?_;intro v330 w82 ho83 hb hg_ hnew_;clear hg_ hnew_;(first|rw [← Ny329.out] at ho83|(simp only [Int.reduceToNat] at ho83;rw [← Ny329.out] at ho83));replace HO_15:=ySb HO_15 hb;replace HO_315002:=zm (Kd.V_elder' (yr HO_315002) (Kd.R_base ho83) hb);have HO331:=zm (Kd.R_lower ho83 (zE yhb));replace BK300:=ybb BK300 hb;replace BK314:=ybb BK314 hb;replace HB:=ybs hb;clear hb ho83;have:=NB314_300.out;have:=NB300_314.out;obtain ⟨_,_,_,_,_,_⟩:=yc3 BK314;obtain ⟨Ao86,co86,eo86⟩:=Kd.V_slice HO_315002.out;subst eo86)|((with_reducible refine gate_callee (f:=35) rfl ?_);refine ygl 134 Try.func35 #[.agg #[.int .u64 x315000_4, .int .u32 x315001_4, .slice Ao86 x315002_4.length co86]] ?_;(with_reducible refine (coder_Finish.calls x315000_4 x315001_4 _ _ x315002_4 t332 _ ?side1 ?side2 A80.out).mono ?_);(case side1=>exact yce (Kd.V_reads' HO_315002.out).2.2);(case side2=>exact (Kd.V_reads' HO_315002.out).2.1);rintro e w87 ⟨v333,rfl,ho0,hb⟩;refine ⟨_,rfl, ?_⟩;replace HO_15:=ySb HO_15 hb;replace HO_315002:=zm (Kd.V_elder' (yr HO_315002) (Kd.R_base ho0) hb);have HO334:=zm (Kd.R_lower (Kd.R_new' ho0 (Kd.R_lt (yr HO331))) (zE yhb));replace HO331:=zm (Kd.R_elder' (yr HO331) (Kd.R_base ho0) hb);replace BK300:=ybb BK300 hb;replace BK314:=ybb BK314 hb;replace HB:=ybs hb;(try clear hb);(try clear ho0);obtain ⟨Ao89,co89,eo89⟩:=Kd.R_slice HO334.out;subst eo89)|((with_reducible refine gate_builtin (b:=.copy) (xs := #[.tmp 132, .tmp 134]) rfl ?_);refine cpack_Write.copyRow (k:=.u8) (w0:=w) w.heap.size rfl (.tmp 132) (.tmp 134) 28 5 rfl Try.underlying28 info5 v330 y329 t332 _ _ _ (fun _=>True) rfl rfl ?aO ?aR ?aB ?_;(case aO=>exact (yR0 HO331));(case aR=>exact yce (Kd.R_reads' HO334.out).2.2);(case aB=>exact yhb);intro w88 ho hb;rw [← Ny335.out] at ho;clear HB;have HO337:=zm ho;have HB:=zm hb;clear ho hb))
         go_ret2
         exact ⟨_,ye,yR0 HO337,yhb⟩
        ·
         exact absurd trivial c81
def psalterylaw13_As.f (a0_0 : Bool) (l0_1 : List (List Int)) (l0_2 : List (List (List Int))) : Option (Bool × (List (List Int)) × (List (List (List Int)))):=some (a0_0,l0_1,l0_2)
set_option maxHeartbeats 8000000 in
set_option maxRecDepth 100000 in
theorem psalterylaw13_As.calls (a0_0 : Bool) (P0_1_ : Nat→Prop) (A0_1 : Option Addr) (c0_1 : Nat) (l0_1 : List (List Int)) (P0_2_ : Nat→Prop) (A0_2 : Option Addr) (c0_2 : Nat) (l0_2 : List (List (List Int))) (r1 : Bool) (r2 : List (List Int)) (r3 : List (List (List Int))) (w : World) (hs0_1 : Kd.V (Kd.slice 3 (Kd.int .i64)) 49 w w.heap.size (fun k_=>P0_1_ k_) (.slice A0_1 l0_1.length c0_1) l0_1) (hs0_2 : Kd.V (Kd.slice 49 (Kd.slice 3 (Kd.int .i64))) 22 w w.heap.size (fun k_=>P0_2_ k_) (.slice A0_2 l0_2.length c0_2) l0_2) (h : psalterylaw13_As.f a0_0 l0_1 l0_2=some (r1,r2,r3)) :
  Calls Try.prog 14 #[.agg #[.bool a0_0, .slice A0_1 l0_1.length c0_1, .slice A0_2 l0_2.length c0_2]] w fun e w' => ∃ v1_ v2_ : Value,e=.returned (.agg #[.bool r1,v1_,v2_])∧Kd.V (Kd.slice 3 (Kd.int .i64)) 49 w' w.heap.size (fun k_=>((P0_1_ k_∨P0_2_ k_)∨w.heap.size≤k_)) v1_ r2∧Kd.V (Kd.slice 49 (Kd.slice 3 (Kd.int .i64))) 22 w' w.heap.size (fun k_=>((P0_1_ k_∨P0_2_ k_)∨w.heap.size≤k_)) v2_ r3∧Below w.heap.size w w' := by
 have hu25:=Try.underlying25;have hu33:=Try.underlying33
 have HO0_1:=zm (show Kd.V (Kd.slice 3 (Kd.int .i64)) 49 w w.heap.size (fun k_=>((P0_1_ k_∨P0_2_ k_)∨w.heap.size≤k_)) (.slice A0_1 l0_1.length c0_1) l0_1 from zy hs0_1 (fun k_ hk => .inl (.inl hk)))
 have HO0_2:=zm (show Kd.V (Kd.slice 49 (Kd.slice 3 (Kd.int .i64))) 22 w w.heap.size (fun k_=>((P0_1_ k_∨P0_2_ k_)∨w.heap.size≤k_)) (.slice A0_2 l0_2.length c0_2) l0_2 from zy hs0_2 (fun k_ hk => .inl (.inr hk)))
 have HB:=zm (Below.refl w.heap.size w)
 have H : (some (a0_0,l0_1,l0_2))=some (r1,r2,r3):=h
 clear h
 simp only [Option.some.injEq,Prod.mk.injEq] at H
 obtain ⟨rfl,rfl,rfl⟩:=H
 go_enter Try.func14,Try.ntmps14
 go_wp2_with (first|((with_reducible refine gate_dst (N:=1) rfl ?_);refine ybx 1 #[.bool a0_0, .slice A0_1 l0_1.length c0_1, .slice A0_2 l0_2.length c0_2] 25 ?_;intro gb355 hg w2 hbox hb;replace HO0_1:=yVe HO0_1 hg hb;replace HO0_2:=yVe HO0_2 hg hb;have BK355:=zm (hbox);have GW355:=ygw hg;have GE355:=ygw hg;replace HB:=ybs hb;clear hb hbox hg)|((with_reducible refine gate_dst (N:=2) rfl ?_);refine ybx 2 #[.bool false, .slice none 0 0, .slice none 0 0] 33 ?_;intro gb356 hg w3 hbox hb;replace HO0_1:=yVe HO0_1 hg hb;replace HO0_2:=yVe HO0_2 hg hb;have BK356:=zm (hbox);have GW356:=ygw hg;have GE356:=ygw hg;replace HB:=ybs hb;have NB355_356:=ynl BK355 hg;have NB356_355:=yng BK355 hg;replace BK355:=ybb BK355 hb;clear hb hbox hg;have:=NB355_356.out;have:=NB356_355.out;obtain ⟨_,_,_,_,_,_⟩:=yc3 BK355;obtain ⟨_,_,_,_,_,_⟩:=yc3 BK356))
 refine bodyPost_ret (results_cell_row rfl _ _ gb356 33 #[.bool a0_0, .slice A0_1 l0_1.length c0_1, .slice A0_2 l0_2.length c0_2] (0,0) _ rfl (ykp BK356) Try.underlying33 rfl (by kernel_rfl)) rfl ?_
 exact ⟨_,_,ye,yV0 HO0_1,yV0 HO0_2,yhb⟩
def psalterylaw13_wide.l0 : Nat→List (List Int)→Int→Option (Bool)
 | 0,_,_=>none
 | k+1,x0,x3=>if x3 < (x0.length : Int) then (if 0≤x3 then (if ((rd_L1 x0 x3).length : Int) > 60 then (some true) else (psalterylaw13_wide.l0 k x0 (wrap64 (x3+1)))) else (none)) else (some (decide ((x0.length : Int) > 10)))
def psalterylaw13_wide.f (k : Nat) (l0 : List (List Int)) : Option (Bool):=psalterylaw13_wide.l0 k l0 0
theorem psalterylaw13_wide.mono_l : ∀ k,(∀ y0 y1,LeO (psalterylaw13_wide.l0 k y0 y1) (psalterylaw13_wide.l0 (k+1) y0 y1))
 | 0=>fun _ _ r h=>by simp [psalterylaw13_wide.l0] at h
 | k+1=>by
  have ih0:=psalterylaw13_wide.mono_l k
  ·
   intro y0 y1
   unfold psalterylaw13_wide.l0
   repeat' with_reducible first|apply ih0|apply yLr|apply yLn|apply yLi|apply yLb|intro _
theorem psalterylaw13_wide.mono : ∀ a0 k,LeO (psalterylaw13_wide.f k a0) (psalterylaw13_wide.f (k+1) a0):=by
 intro a0 k
 have ih0:=psalterylaw13_wide.mono_l k
 unfold psalterylaw13_wide.f
 repeat' with_reducible first|apply ih0|apply yLr|apply yLn|apply yLi|apply yLb|intro _
set_option maxHeartbeats 8000000 in
set_option maxRecDepth 100000 in
theorem psalterylaw13_wide.calls (k : Nat) (A0 : Option Addr) (c0 : Nat) (l0 : List (List Int)) (r : Bool) (w : World) (hr0 : Kd.C (Kd.slice 3 (Kd.int .i64)) w A0 l0.length l0) (hc0 : l0.length≤c0) (h : psalterylaw13_wide.f k l0=some r) :
  Calls Try.prog 19 #[.slice A0 l0.length c0] w fun e w' => e=.returned (.bool r)∧Drawn0 w w' := by
 have HR0:=zm hr0;have HC0:=zm hc0;clear hr0 hc0
 have H : (psalterylaw13_wide.l0 k l0 0)=some r:=h
 clear h
 have H' := zm H
 clear H
 go_enter Try.func19,Try.ntmps19
 go_wp2
 go_loopg [3] k (fun kq v3 w' => ∃ (x3_1 : Int),v3=.int .i64 x3_1∧Aside0 (psalterylaw13_wide.l0 kq l0 x3_1=some r)∧Aside0 (kq≤k)∧Drawn0 w w')
 case atStart=>exact ⟨(0),yq,H',⟨Nat.le_refl _⟩,yd⟩
 case round =>
  clear H'
  obtain ⟨x3_1,rfl,HA,HK1,⟨m1,rfl⟩⟩:=hrel
  obtain ⟨k1,rfl⟩:=ysu gk (fun h=>by subst h;exact absurd HA.out (by simp [psalterylaw13_wide.l0]))
  have H:=HA.out;clear HA
  simp only [psalterylaw13_wide.l0] at H
  by_cases c2 : x3_1 < (l0.length : Int)
  ·
   rw [if_pos c2] at H
   have c2b0 : decide (x3_1 < (l0.length : Int))=true:=decide_eq_true c2
   clear c2
   obtain ⟨c3,H⟩:=yif H
   have c3b0 : decide (0≤x3_1)=true:=decide_eq_true c3
   clear c3
   by_cases c4 : ((rd_L1 l0 x3_1).length : Int) > 60
   ·
    rw [if_pos c4] at H
    have c4b0 : decide (60 < ((rd_L1 l0 x3_1).length : Int))=true:=decide_eq_true c4
    have c4b1 : decide (60 < (rd_L1 l0 x3_1).length)=true:=decide_eq_true (by omega)
    clear c4
    obtain rfl:=Option.some.inj H
    have p101 : 0≤(x3_1 : Int):=yt
    have q101 : x3_1 < (l0.length : Int):=yt
    obtain ⟨ad101,A101_0,c101_0,e101,hx101_0,hl101_0,hi101_0⟩:=at_L1 HR0.out x3_1 p101 q101
    cases e101
    have HR101_0:=zm hi101_0;have HC101_0:=zm hl101_0;clear hi101_0 hl101_0
    replace p101:=eq_true p101
    replace q101:=eq_true q101
    go_wp2
    go_ret
    exact ⟨yq,yd⟩
   ·
    rw [if_neg c4] at H
    have c4b0 : decide (60 < ((rd_L1 l0 x3_1).length : Int))=false:=decide_eq_false c4
    have c4b1 : decide (60 < (rd_L1 l0 x3_1).length)=false:=decide_eq_false (by omega)
    clear c4
    have H' := zm H
    clear H
    have p101 : 0≤(x3_1 : Int):=yt
    have q101 : x3_1 < (l0.length : Int):=yt
    obtain ⟨ad101,A101_0,c101_0,e101,hx101_0,hl101_0,hi101_0⟩:=at_L1 HR0.out x3_1 p101 q101
    cases e101
    have HR101_0:=zm hi101_0;have HC101_0:=zm hl101_0;clear hi101_0 hl101_0
    replace p101:=eq_true p101
    replace q101:=eq_true q101
    go_wp2
    go_roundg k1
    case measure=>exact yom1 HK1
    case rel=>exact ⟨(wrap64 (x3_1+1)),yq,H',⟨yom1 HK1⟩,yd⟩
  ·
   rw [if_neg c2] at H
   have c2b0 : decide (x3_1 < (l0.length : Int))=false:=decide_eq_false c2
   clear c2
   obtain rfl:=Option.some.inj H
   go_wp2
   go_ret
   exact ⟨yq,yd⟩
mutual
def psalterylaw13_great.j0 : Nat→Bool→Bool→List (List Int)→List (List (List Int))→Option (Bool)
 | 0,_,_,_,_=>none
 | k+1,x18,x103000,x103001,x103002=>if x18=true then (some true) else (psalterylaw13_great.l0 k 0 x103000 x103001 x103002)
def psalterylaw13_great.l0 : Nat→Int→Bool→List (List Int)→List (List (List Int))→Option (Bool)
 | 0,_,_,_,_=>none
 | k+1,x5,x103000,x103001,x103002=>if x5 < (x103002.length : Int) then (if 0≤x5 then ((psalterylaw13_wide.f k (rd_L2 x103002 x5)).bind fun t106=>(if t106=true then (some true) else (psalterylaw13_great.l0 k (wrap64 (x5+1)) x103000 x103001 x103002))) else (none)) else (some false)
end
def psalterylaw13_great.f (k : Nat) (a0_0 : Bool) (l0_1 : List (List Int)) (l0_2 : List (List (List Int))) (l1 : List (List Int)) : Option (Bool):=(psalterylaw13_wide.f k l0_1).bind fun t103=>(if t103=true then (psalterylaw13_great.j0 k true a0_0 l0_1 l0_2) else ((psalterylaw13_wide.f k l1).bind fun t104=>(if t104=true then (psalterylaw13_great.j0 k true a0_0 l0_1 l0_2) else (psalterylaw13_great.j0 k (decide ((l0_2.length : Int) > 10)) a0_0 l0_1 l0_2))))
theorem psalterylaw13_great.mono_l : ∀ k,(∀ y0 y1 y2 y3,LeO (psalterylaw13_great.j0 k y0 y1 y2 y3) (psalterylaw13_great.j0 (k+1) y0 y1 y2 y3))∧(∀ y0 y1 y2 y3,LeO (psalterylaw13_great.l0 k y0 y1 y2 y3) (psalterylaw13_great.l0 (k+1) y0 y1 y2 y3))
 | 0=>⟨fun _ _ _ _ r h=>by simp [psalterylaw13_great.j0] at h,fun _ _ _ _ r h=>by simp [psalterylaw13_great.l0] at h⟩
 | k+1=>by
  obtain ⟨ih0,ih1⟩:=psalterylaw13_great.mono_l k
  refine ⟨?_, ?_⟩
  ·
   intro y0 y1 y2 y3
   unfold psalterylaw13_great.j0
   repeat' with_reducible first|apply ih0|apply ih1|apply psalterylaw13_wide.mono|apply yLr|apply yLn|apply yLi|apply yLb|intro _
  ·
   intro y0 y1 y2 y3
   unfold psalterylaw13_great.l0
   repeat' with_reducible first|apply ih0|apply ih1|apply psalterylaw13_wide.mono|apply yLr|apply yLn|apply yLi|apply yLb|intro _
theorem psalterylaw13_great.mono : ∀ a0 a1 a2 a3 k,LeO (psalterylaw13_great.f k a0 a1 a2 a3) (psalterylaw13_great.f (k+1) a0 a1 a2 a3):=by
 intro a0 a1 a2 a3 k
 obtain ⟨ih0,ih1⟩:=psalterylaw13_great.mono_l k
 unfold psalterylaw13_great.f
 repeat' with_reducible first|apply ih0|apply ih1|apply psalterylaw13_wide.mono|apply yLr|apply yLn|apply yLi|apply yLb|intro _
set_option maxHeartbeats 8000000 in
set_option maxRecDepth 100000 in
theorem psalterylaw13_great.calls (k : Nat) (a0_0 : Bool) (A0_1 : Option Addr) (c0_1 : Nat) (l0_1 : List (List Int)) (A0_2 : Option Addr) (c0_2 : Nat) (l0_2 : List (List (List Int))) (A1 : Option Addr) (c1 : Nat) (l1 : List (List Int)) (r : Bool) (w : World) (hr0_1 : Kd.C (Kd.slice 3 (Kd.int .i64)) w A0_1 l0_1.length l0_1) (hc0_1 : l0_1.length≤c0_1) (hr0_2 : Kd.C (Kd.slice 49 (Kd.slice 3 (Kd.int .i64))) w A0_2 l0_2.length l0_2) (hc0_2 : l0_2.length≤c0_2) (hr1 : Kd.C (Kd.slice 3 (Kd.int .i64)) w A1 l1.length l1) (hc1 : l1.length≤c1) (h : psalterylaw13_great.f k a0_0 l0_1 l0_2 l1=some r) :
  Calls Try.prog 10 #[.agg #[.bool a0_0, .slice A0_1 l0_1.length c0_1, .slice A0_2 l0_2.length c0_2], .slice A1 l1.length c1] w fun e w' => e=.returned (.bool r)∧Below w.heap.size w w' := by
 have hu25:=Try.underlying25;have HR0_1:=zm hr0_1;have HC0_1:=zm hc0_1;clear hr0_1 hc0_1;have HR0_2:=zm hr0_2;have HC0_2:=zm hc0_2;clear hr0_2 hc0_2;have HR1:=zm hr1;have HC1:=zm hc1;clear hr1 hc1;have HB:=zm (Below.refl w.heap.size w)
 have H : ((psalterylaw13_wide.f k l0_1).bind fun t103=>(if t103=true then (psalterylaw13_great.j0 k true a0_0 l0_1 l0_2) else ((psalterylaw13_wide.f k l1).bind fun t104=>(if t104=true then (psalterylaw13_great.j0 k true a0_0 l0_1 l0_2) else (psalterylaw13_great.j0 k (decide ((l0_2.length : Int) > 10)) a0_0 l0_1 l0_2)))))=some r:=h
 clear h;have HC3:=zm H;clear H
 go_enter Try.func10,Try.ntmps10
 go_upto_region 1 with (first|((with_reducible refine gate_dst (N:=2) rfl ?_);(try (refine gate_guard (by rfl) ?_;dsimp only));refine ybx 2 #[.bool a0_0, .slice A0_1 l0_1.length c0_1, .slice A0_2 l0_2.length c0_2] 25 ?_;intro gb102 hg w4 hbox hb;have BK102:=zm (hbox);have GW102:=ygw hg;have GE102:=ygw hg;replace HB:=ybs hb;clear hb hbox hg))
 (try simp only [Act.put,List.setIfInBounds_toArray,List.set_cons_zero,List.set_cons_succ])
 go_cut [18] (fun v18 wc => ∃ (kq : Nat) (x18_2 : Bool),v18=.bool x18_2∧Aside0 (psalterylaw13_great.j0 kq x18_2 a0_0 l0_1 l0_2=some r)∧Aside0 (kq≤k)∧Aside0 (wc.heap[gb102]? = some (.cells #[.bool a0_0,(.slice A0_1 l0_1.length c0_1),(.slice A0_2 l0_2.length c0_2)] 25 (0,0)))∧Aside0 (Below w.heap.size w wc))
 case first =>
  have H:=HC3.out;clear HC3
  obtain ⟨t103,A5,H⟩:=ybi H
  by_cases c6 : t103=true
  ·
   subst c6
   rw [if_pos rfl] at H
   have H' := zm H
   clear H
   obtain ⟨_,_,_,_,_,_⟩:=yc3 BK102
   go_wp2_with (first|((with_reducible refine gate_callee (f:=19) rfl ?_);refine ygl 8 Try.func19 #[.slice A0_1 l0_1.length c0_1] ?_;(with_reducible refine (psalterylaw13_wide.calls k _ _ l0_1 true _ ?side1 HC0_1.out A5.out).mono ?_);(case side1=>exact ycb HR0_1);rintro e w' ⟨rfl,⟨nd,rfl⟩⟩;refine ⟨_,rfl, ?_⟩))
   go_meet
   case rel=>exact ⟨_,(true),yq,H',⟨yo⟩,⟨yk BK102⟩,⟨yhb⟩⟩
  ·
   replace c6:=Bool.eq_false_iff.mpr c6
   subst c6
   rw [ynf] at H
   obtain ⟨t104,A8,H⟩:=ybi H
   by_cases c9 : t104=true
   ·
    subst c9
    rw [if_pos rfl] at H
    have H' := zm H
    clear H
    obtain ⟨_,_,_,_,_,_⟩:=yc3 BK102
    go_wp2_with (first|((with_reducible refine gate_callee (f:=19) rfl ?_);refine ygl 8 Try.func19 #[.slice A0_1 l0_1.length c0_1] ?_;(with_reducible refine (psalterylaw13_wide.calls k _ _ l0_1 false _ ?side1 HC0_1.out A5.out).mono ?_);(case side1=>exact ycb HR0_1);rintro e w' ⟨rfl,⟨nd,rfl⟩⟩;refine ⟨_,rfl, ?_⟩)|(go_at_call 19;(with_reducible refine (psalterylaw13_wide.calls k _ _ l1 true _ ?side1 HC1.out A8.out).mono ?_);(case side1=>exact ycb HR1);rintro e w' ⟨rfl,⟨nd,rfl⟩⟩))
    go_meet
    case rel=>exact ⟨_,(true),yq,H',⟨yo⟩,⟨yk BK102⟩,⟨yhb⟩⟩
   ·
    replace c9:=Bool.eq_false_iff.mpr c9
    subst c9
    rw [ynf] at H
    have H' := zm H
    clear H
    obtain ⟨_,_,_,_,_,_⟩:=yc3 BK102
    go_wp2_with (first|((with_reducible refine gate_callee (f:=19) rfl ?_);refine ygl 8 Try.func19 #[.slice A0_1 l0_1.length c0_1] ?_;(with_reducible refine (psalterylaw13_wide.calls k _ _ l0_1 false _ ?side1 HC0_1.out A5.out).mono ?_);(case side1=>exact ycb HR0_1);rintro e w' ⟨rfl,⟨nd,rfl⟩⟩;refine ⟨_,rfl, ?_⟩)|(go_at_call 19;(with_reducible refine (psalterylaw13_wide.calls k _ _ l1 false _ ?side1 HC1.out A8.out).mono ?_);(case side1=>exact ycb HR1);rintro e w' ⟨rfl,⟨nd,rfl⟩⟩))
    go_meet
    case rel=>exact ⟨_,(decide ((l0_2.length : Int) > 10)),yq,H',⟨yo⟩,⟨yk BK102⟩,⟨yhb⟩⟩
 case rest =>
  clear HC3
  try clear c1
  obtain ⟨kq,x18_2,rfl,HA,HJ2,BK102,HB⟩:=hcut
  obtain ⟨kj2,rfl⟩:=ysu kq (fun h=>by subst h;exact absurd HA.out (by simp [psalterylaw13_great.j0]))
  have H:=HA.out;clear HA
  simp only [psalterylaw13_great.j0] at H
  by_cases c12 : x18_2=true
  ·
   subst c12
   rw [if_pos rfl] at H
   obtain rfl:=Option.some.inj H
   go_wp2
   go_ret
   exact ⟨ye,yhb⟩
  ·
   replace c12:=Bool.eq_false_iff.mpr c12
   subst c12
   rw [ynf] at H
   have H' := zm H
   clear H
   go_wp2
   go_loopg [5] kj2 (fun kq v5 w' => ∃ (x5_2 : Int),v5=.int .i64 x5_2∧Aside0 (psalterylaw13_great.l0 kq x5_2 a0_0 l0_1 l0_2=some r)∧Aside0 (kq≤kj2)∧Aside0 (w'.heap[gb102]? = some (.cells #[.bool a0_0,(.slice A0_1 l0_1.length c0_1),(.slice A0_2 l0_2.length c0_2)] 25 (0,0)))∧Aside0 (Below w.heap.size w w'))
   case atStart=>exact ⟨(0),yq,H',⟨Nat.le_refl _⟩,⟨yk BK102⟩,⟨yhb⟩⟩
   case round =>
    clear H'
    obtain ⟨x5_2,rfl,HA,HK2,BK102,HB⟩:=hrel
    obtain ⟨k2,rfl⟩:=ysu gk (fun h=>by subst h;exact absurd HA.out (by simp [psalterylaw13_great.l0]))
    have H:=HA.out;clear HA
    simp only [psalterylaw13_great.l0] at H
    by_cases c13 : x5_2 < (l0_2.length : Int)
    ·
     rw [if_pos c13] at H
     have c13b0 : decide (x5_2 < (l0_2.length : Int))=true:=decide_eq_true c13
     clear c13
     obtain ⟨c14,H⟩:=yif H
     have c14b0 : decide (0≤x5_2)=true:=decide_eq_true c14
     clear c14
     obtain ⟨t106,A15,H⟩:=ybi H
     by_cases c16 : t106=true
     ·
      subst c16
      rw [if_pos rfl] at H
      obtain rfl:=Option.some.inj H
      obtain ⟨_,_,_,_,_,_⟩:=yc3 BK102
      have p105 : 0≤(x5_2 : Int):=yt
      have q105 : x5_2 < (l0_2.length : Int):=yt
      obtain ⟨ad105,A105_0,c105_0,e105,hx105_0,hl105_0,hi105_0⟩:=at_L2 HR0_2.out x5_2 p105 q105
      cases e105
      replace hx105_0:=yhx HB hx105_0
      have HR105_0:=zm hi105_0;have HC105_0:=zm hl105_0;clear hi105_0 hl105_0
      replace p105:=eq_true p105
      replace q105:=eq_true q105
      go_wp2_with (first|((with_reducible refine gate_callee (f:=19) rfl ?_);refine ygl 31 Try.func19 #[.slice A105_0 (rd_L2 l0_2 x5_2).length c105_0] ?_;(with_reducible refine (psalterylaw13_wide.calls k2 _ _ (rd_L2 l0_2 x5_2) true _ ?side1 HC105_0.out A15.out).mono ?_);(case side1=>exact ycb HR105_0);rintro e w' ⟨rfl,⟨nd,rfl⟩⟩;refine ⟨_,rfl, ?_⟩))
      go_ret
      exact ⟨ye,yhb⟩
     ·
      replace c16:=Bool.eq_false_iff.mpr c16
      subst c16
      rw [ynf] at H
      have H' := zm H
      clear H
      obtain ⟨_,_,_,_,_,_⟩:=yc3 BK102
      have p105 : 0≤(x5_2 : Int):=yt
      have q105 : x5_2 < (l0_2.length : Int):=yt
      obtain ⟨ad105,A105_0,c105_0,e105,hx105_0,hl105_0,hi105_0⟩:=at_L2 HR0_2.out x5_2 p105 q105
      cases e105
      replace hx105_0:=yhx HB hx105_0
      have HR105_0:=zm hi105_0;have HC105_0:=zm hl105_0;clear hi105_0 hl105_0
      replace p105:=eq_true p105
      replace q105:=eq_true q105
      go_wp2_with (first|((with_reducible refine gate_callee (f:=19) rfl ?_);refine ygl 31 Try.func19 #[.slice A105_0 (rd_L2 l0_2 x5_2).length c105_0] ?_;(with_reducible refine (psalterylaw13_wide.calls k2 _ _ (rd_L2 l0_2 x5_2) false _ ?side1 HC105_0.out A15.out).mono ?_);(case side1=>exact ycb HR105_0);rintro e w' ⟨rfl,⟨nd,rfl⟩⟩;refine ⟨_,rfl, ?_⟩))
      go_roundg k2
      case measure=>exact yom2 HJ2 HK2
      case rel=>exact ⟨(wrap64 (x5_2+1)),yq,H',⟨yom2 HJ2 HK2⟩,⟨yk BK102⟩,⟨yhb⟩⟩
    ·
     rw [if_neg c13] at H
     have c13b0 : decide (x5_2 < (l0_2.length : Int))=false:=decide_eq_false c13
     clear c13
     obtain rfl:=Option.some.inj H
     obtain ⟨_,_,_,_,_,_⟩:=yc3 BK102
     go_wp2
     go_ret
     exact ⟨ye,yhb⟩
def coder_at.f (l0 : List Int) (a1 : Int) : Option (Int):=if a1 ≥ (l0.length : Int) then (some 0) else (if 0≤a1 then (if a1 < (l0.length : Int) then (some (IntKind.u64.wrap (rd l0 a1))) else (none)) else (none))
set_option maxHeartbeats 8000000 in
set_option maxRecDepth 100000 in
theorem coder_at.calls (A0 : Option Addr) (c0 : Nat) (l0 : List Int) (a1 : Int) (r : Int) (w : World) (hr0 : Kd.C (Kd.int .u8) w A0 l0.length l0) (hc0 : l0.length≤c0) (h : coder_at.f l0 a1=some r) :
  Calls Try.prog 85 #[.slice A0 l0.length c0, .int .i64 a1] w fun e w' => e=.returned (.int .u64 r)∧Drawn0 w w' := by
 have HR0:=zm hr0;have HC0:=zm hc0;clear hr0 hc0
 have H : (if a1 ≥ (l0.length : Int) then (some 0) else (if 0≤a1 then (if a1 < (l0.length : Int) then (some (IntKind.u64.wrap (rd l0 a1))) else (none)) else (none)))=some r:=h
 clear h
 by_cases c3 : a1 ≥ (l0.length : Int)
 ·
  rw [if_pos c3] at H
  have c3b0 : decide ((l0.length : Int)≤a1)=true:=decide_eq_true c3
  clear c3
  obtain rfl:=Option.some.inj H
  go_enter Try.func85,Try.ntmps85
  go_wp2
  go_ret
  exact ⟨yq,yd⟩
 ·
  rw [if_neg c3] at H
  have c3b0 : decide ((l0.length : Int)≤a1)=false:=decide_eq_false c3
  clear c3
  obtain ⟨c4,H⟩:=yif H
  have c4b0 : decide (0≤a1)=true:=decide_eq_true c4
  clear c4
  obtain ⟨c5,H⟩:=yif H
  have c5b0 : decide (a1 < (l0.length : Int))=true:=decide_eq_true c5
  clear c5
  obtain rfl:=Option.some.inj H
  obtain ⟨ad357,e357,hx357_0,p357,q357⟩:=yai HR0 a1
  cases e357
  go_enter Try.func85,Try.ntmps85
  go_wp2
  go_ret
  exact ⟨yq,yd⟩
def coder_Open.f (l0 : List Int) : Option (Int × Int × List Int × Int):=(coder_at.f l0 0).bind fun t359=>((coder_at.f l0 1).bind fun t360=>((coder_at.f l0 2).bind fun t361=>((coder_at.f l0 3).bind fun t362=>(some (Go.bits .or .u64 (Go.bits .or .u64 (Go.bits .or .u64 (IntKind.u64.wrap (t359 * 16777216)) (IntKind.u64.wrap (t360 * 65536))) (IntKind.u64.wrap (t361 * 256))) t362,4294967295,l0,4)))))
set_option maxHeartbeats 8000000 in
set_option maxRecDepth 100000 in
theorem coder_Open.calls (P0_ : Nat→Prop) (A0 : Option Addr) (c0 : Nat) (l0 : List Int) (r1 : Int) (r2 : Int) (r3 : List Int) (r4 : Int) (w : World) (hs0 : Kd.V (Kd.int .u8) 5 w w.heap.size (fun k_=>P0_ k_) (.slice A0 l0.length c0) l0) (h : coder_Open.f l0=some (r1,r2,r3,r4)) :
  Calls Try.prog 49 #[.slice A0 l0.length c0] w fun e w' => ∃ v2_ : Value,e=.returned (.agg #[.int .u64 r1, .int .u32 r2,v2_, .int .i64 r4])∧Kd.V (Kd.int .u8) 5 w' w.heap.size (fun k_=>(P0_ k_∨w.heap.size≤k_)) v2_ r3∧Below w.heap.size w w' := by
 have hu82:=Try.underlying82
 have HO0:=zm (show Kd.V (Kd.int .u8) 5 w w.heap.size (fun k_=>(P0_ k_∨w.heap.size≤k_)) (.slice A0 l0.length c0) l0 from zy hs0 (fun k_ hk => .inl hk))
 have HB:=zm (Below.refl w.heap.size w)
 have H : ((coder_at.f l0 0).bind fun t359=>((coder_at.f l0 1).bind fun t360=>((coder_at.f l0 2).bind fun t361=>((coder_at.f l0 3).bind fun t362=>(some (Go.bits .or .u64 (Go.bits .or .u64 (Go.bits .or .u64 (IntKind.u64.wrap (t359 * 16777216)) (IntKind.u64.wrap (t360 * 65536))) (IntKind.u64.wrap (t361 * 256))) t362,4294967295,l0,4))))))=some (r1,r2,r3,r4):=h
 clear h
 obtain ⟨t359,A2,H⟩:=ybi H
 obtain ⟨t360,A3,H⟩:=ybi H
 obtain ⟨t361,A4,H⟩:=ybi H
 obtain ⟨t362,A5,H⟩:=ybi H
 simp only [Option.some.injEq,Prod.mk.injEq] at H
 obtain ⟨rfl,rfl,rfl,rfl⟩:=H
 go_enter Try.func49,Try.ntmps49
 go_wp2_with (first|((with_reducible refine gate_dst (N:=2) rfl ?_);refine ybx 2 #[.int .u64 0, .int .u32 0, .slice none 0 0, .int .i64 0] 82 ?_;intro gb358 hg w6 hbox hb;replace HO0:=yVe HO0 hg hb;have BK358:=zm (hbox);have GW358:=ygw hg;have GE358:=ygw hg;replace HB:=ybs hb;clear hb hbox hg)|((with_reducible refine gate_callee (f:=85) rfl ?_);refine ygl 4 Try.func85 #[.slice A0 l0.length c0, .int .i64 0] ?_;(with_reducible refine (coder_at.calls _ _ l0 0 t359 _ ?side1 ?side2 A2.out).mono ?_);(case side1=>exact yce (Kd.V_reads' HO0.out).2.2);(case side2=>exact (Kd.V_reads' HO0.out).2.1);rintro e w' ⟨rfl,⟨nd,rfl⟩⟩;refine ⟨_,rfl, ?_⟩;(try (rw [drewN_self w6];generalize hq_ : World.drewN w6 _=w6;have n0_ : Aside0 (Kd.V (Kd.int .u8) 5 w6 w.heap.size (fun k_=>(P0_ k_∨w.heap.size≤k_)∧k_≠gb358) (.slice A0 l0.length c0) l0):=⟨by rw [← hq_];exact (yr HO0)⟩;have n1_ : Aside0 (w6.heap[gb358]? = some (.cells #[.int .u64 0, .int .u32 0, .slice none 0 0, .int .i64 0] 82 (0,0))):=⟨by rw [← hq_];exact (yk BK358)⟩;have n2_ : Aside0 (Below w.heap.size w w6):=⟨by rw [← hq_];exact yhb⟩;clear HO0 BK358 HB hq_;have HO0:=n0_;have BK358:=n1_;have HB:=n2_;clear n0_ n1_ n2_)))|((with_reducible refine gate_callee (f:=85) rfl ?_);refine ygl 7 Try.func85 #[.slice A0 l0.length c0, .int .i64 1] ?_;(with_reducible refine (coder_at.calls _ _ l0 1 t360 _ ?side1 ?side2 A3.out).mono ?_);(case side1=>exact yce (Kd.V_reads' HO0.out).2.2);(case side2=>exact (Kd.V_reads' HO0.out).2.1);rintro e w' ⟨rfl,⟨nd,rfl⟩⟩;refine ⟨_,rfl, ?_⟩;(try (rw [drewN_self w6];generalize hq_ : World.drewN w6 _=w6;have n0_ : Aside0 (Kd.V (Kd.int .u8) 5 w6 w.heap.size (fun k_=>(P0_ k_∨w.heap.size≤k_)∧k_≠gb358) (.slice A0 l0.length c0) l0):=⟨by rw [← hq_];exact (yr HO0)⟩;have n1_ : Aside0 (w6.heap[gb358]? = some (.cells #[.int .u64 0, .int .u32 0, .slice none 0 0, .int .i64 0] 82 (0,0))):=⟨by rw [← hq_];exact (yk BK358)⟩;have n2_ : Aside0 (Below w.heap.size w w6):=⟨by rw [← hq_];exact yhb⟩;clear HO0 BK358 HB hq_;have HO0:=n0_;have BK358:=n1_;have HB:=n2_;clear n0_ n1_ n2_)))|((with_reducible refine gate_callee (f:=85) rfl ?_);refine ygl 11 Try.func85 #[.slice A0 l0.length c0, .int .i64 2] ?_;(with_reducible refine (coder_at.calls _ _ l0 2 t361 _ ?side1 ?side2 A4.out).mono ?_);(case side1=>exact yce (Kd.V_reads' HO0.out).2.2);(case side2=>exact (Kd.V_reads' HO0.out).2.1);rintro e w' ⟨rfl,⟨nd,rfl⟩⟩;refine ⟨_,rfl, ?_⟩;(try (rw [drewN_self w6];generalize hq_ : World.drewN w6 _=w6;have n0_ : Aside0 (Kd.V (Kd.int .u8) 5 w6 w.heap.size (fun k_=>(P0_ k_∨w.heap.size≤k_)∧k_≠gb358) (.slice A0 l0.length c0) l0):=⟨by rw [← hq_];exact (yr HO0)⟩;have n1_ : Aside0 (w6.heap[gb358]? = some (.cells #[.int .u64 0, .int .u32 0, .slice none 0 0, .int .i64 0] 82 (0,0))):=⟨by rw [← hq_];exact (yk BK358)⟩;have n2_ : Aside0 (Below w.heap.size w w6):=⟨by rw [← hq_];exact yhb⟩;clear HO0 BK358 HB hq_;have HO0:=n0_;have BK358:=n1_;have HB:=n2_;clear n0_ n1_ n2_)))|((with_reducible refine gate_callee (f:=85) rfl ?_);refine ygl 15 Try.func85 #[.slice A0 l0.length c0, .int .i64 3] ?_;(with_reducible refine (coder_at.calls _ _ l0 3 t362 _ ?side1 ?side2 A5.out).mono ?_);(case side1=>exact yce (Kd.V_reads' HO0.out).2.2);(case side2=>exact (Kd.V_reads' HO0.out).2.1);rintro e w' ⟨rfl,⟨nd,rfl⟩⟩;refine ⟨_,rfl, ?_⟩;(try (rw [drewN_self w6];generalize hq_ : World.drewN w6 _=w6;have n0_ : Aside0 (Kd.V (Kd.int .u8) 5 w6 w.heap.size (fun k_=>(P0_ k_∨w.heap.size≤k_)∧k_≠gb358) (.slice A0 l0.length c0) l0):=⟨by rw [← hq_];exact (yr HO0)⟩;have n1_ : Aside0 (w6.heap[gb358]? = some (.cells #[.int .u64 0, .int .u32 0, .slice none 0 0, .int .i64 0] 82 (0,0))):=⟨by rw [← hq_];exact (yk BK358)⟩;have n2_ : Aside0 (Below w.heap.size w w6):=⟨by rw [← hq_];exact yhb⟩;clear HO0 BK358 HB hq_;have HO0:=n0_;have BK358:=n1_;have HB:=n2_;clear n0_ n1_ n2_));obtain ⟨_,_,_,_,_,_,_,_⟩:=yc4 BK358))
 refine bodyPost_ret (results_cell_row rfl _ _ gb358 82 #[.int .u64 (Go.bits .or .u64 (Go.bits .or .u64 (Go.bits .or .u64 (IntKind.u64.wrap (t359 * 16777216)) (IntKind.u64.wrap (t360 * 65536))) (IntKind.u64.wrap (t361 * 256))) t362), .int .u32 4294967295, .slice A0 l0.length c0, .int .i64 4] (0,0) _ rfl (ykp BK358) Try.underlying82 rfl (by kernel_rfl)) rfl ?_
 exact ⟨_,ye,yV0 HO0,yhb⟩
def coder_RightDec.f (a0_0 : Int) (a0_1 : Int) (l0_2 : List Int) (a0_3 : Int) : Option (Bool):=if a0_0≤4294967295 then (if a0_1 ≥ 16777216 then (some (decide (a0_3 ≥ 0))) else (some false)) else (some false)
set_option maxHeartbeats 8000000 in
set_option maxRecDepth 100000 in
theorem coder_RightDec.calls (a0_0 : Int) (a0_1 : Int) (A0_2 : Option Addr) (c0_2 : Nat) (l0_2 : List Int) (a0_3 : Int) (r : Bool) (w : World) (hr0_2 : Kd.C (Kd.int .u8) w A0_2 l0_2.length l0_2) (hc0_2 : l0_2.length≤c0_2) (h : coder_RightDec.f a0_0 a0_1 l0_2 a0_3=some r) :
  Calls Try.prog 97 #[.agg #[.int .u64 a0_0, .int .u32 a0_1, .slice A0_2 l0_2.length c0_2, .int .i64 a0_3]] w fun e w' => e=.returned (.bool r)∧Below w.heap.size w w' := by
 have hu82:=Try.underlying82;have HR0_2:=zm hr0_2;have HC0_2:=zm hc0_2;clear hr0_2 hc0_2;have HB:=zm (Below.refl w.heap.size w)
 have H : (if a0_0≤4294967295 then (if a0_1 ≥ 16777216 then (some (decide (a0_3 ≥ 0))) else (some false)) else (some false))=some r:=h
 clear h
 by_cases c2 : a0_0≤4294967295
 ·
  rw [if_pos c2] at H
  have c2b0 : decide (a0_0≤4294967295)=true:=decide_eq_true c2
  clear c2
  by_cases c3 : a0_1 ≥ 16777216
  ·
   rw [if_pos c3] at H
   have c3b0 : decide (16777216≤a0_1)=true:=decide_eq_true c3
   clear c3
   obtain rfl:=Option.some.inj H
   go_enter Try.func97,Try.ntmps97
   go_wp2_with (first|((with_reducible refine gate_dst (N:=1) rfl ?_);refine ybx 1 #[.int .u64 a0_0, .int .u32 a0_1, .slice A0_2 l0_2.length c0_2, .int .i64 a0_3] 82 ?_;intro gb363 hg w4 hbox hb;have BK363:=zm (hbox);have GW363:=ygw hg;have GE363:=ygw hg;replace HB:=ybs hb;clear hb hbox hg;obtain ⟨_,_,_,_,_,_,_,_⟩:=yc4 BK363))
   go_ret
   exact ⟨ye,yhb⟩
  ·
   rw [if_neg c3] at H
   have c3b0 : decide (16777216≤a0_1)=false:=decide_eq_false c3
   clear c3
   obtain rfl:=Option.some.inj H
   go_enter Try.func97,Try.ntmps97
   go_wp2_with (first|((with_reducible refine gate_dst (N:=1) rfl ?_);refine ybx 1 #[.int .u64 a0_0, .int .u32 a0_1, .slice A0_2 l0_2.length c0_2, .int .i64 a0_3] 82 ?_;intro gb363 hg w6 hbox hb;have BK363:=zm (hbox);have GW363:=ygw hg;have GE363:=ygw hg;replace HB:=ybs hb;clear hb hbox hg;obtain ⟨_,_,_,_,_,_,_,_⟩:=yc4 BK363))
   go_ret
   exact ⟨ye,yhb⟩
 ·
  rw [if_neg c2] at H
  have c2b0 : decide (a0_0≤4294967295)=false:=decide_eq_false c2
  clear c2
  obtain rfl:=Option.some.inj H
  go_enter Try.func97,Try.ntmps97
  go_wp2_with (first|((with_reducible refine gate_dst (N:=1) rfl ?_);refine ybx 1 #[.int .u64 a0_0, .int .u32 a0_1, .slice A0_2 l0_2.length c0_2, .int .i64 a0_3] 82 ?_;intro gb363 hg w8 hbox hb;have BK363:=zm (hbox);have GW363:=ygw hg;have GE363:=ygw hg;replace HB:=ybs hb;clear hb hbox hg;obtain ⟨_,_,_,_,_,_,_,_⟩:=yc4 BK363))
  go_ret
  exact ⟨ye,yhb⟩
def coder_good.f (a0_0 : Int) (a0_1 : Int) (l0_2 : List Int) (a0_3 : Int) : Option (Int × Int × List Int × Int):=(coder_RightDec.f a0_0 a0_1 l0_2 a0_3).bind fun t366=>(if t366=true then (some (a0_0,a0_1,l0_2,a0_3)) else ((coder_Open.f ([] : List Int)).bind fun bt367=>(some (bt367.1,bt367.2.1,bt367.2.2.1,bt367.2.2.2))))
set_option maxHeartbeats 8000000 in
set_option maxRecDepth 100000 in
theorem coder_good.calls (a0_0 : Int) (a0_1 : Int) (P0_2_ : Nat→Prop) (A0_2 : Option Addr) (c0_2 : Nat) (l0_2 : List Int) (a0_3 : Int) (r1 : Int) (r2 : Int) (r3 : List Int) (r4 : Int) (w : World) (hs0_2 : Kd.V (Kd.int .u8) 5 w w.heap.size (fun k_=>P0_2_ k_) (.slice A0_2 l0_2.length c0_2) l0_2) (h : coder_good.f a0_0 a0_1 l0_2 a0_3=some (r1,r2,r3,r4)) :
  Calls Try.prog 86 #[.agg #[.int .u64 a0_0, .int .u32 a0_1, .slice A0_2 l0_2.length c0_2, .int .i64 a0_3]] w fun e w' => ∃ v2_ : Value,e=.returned (.agg #[.int .u64 r1, .int .u32 r2,v2_, .int .i64 r4])∧Kd.V (Kd.int .u8) 5 w' w.heap.size (fun k_=>(P0_2_ k_∨w.heap.size≤k_)) v2_ r3∧Below w.heap.size w w' := by
 have hu82:=Try.underlying82
 have HO0_2:=zm (show Kd.V (Kd.int .u8) 5 w w.heap.size (fun k_=>(P0_2_ k_∨w.heap.size≤k_)) (.slice A0_2 l0_2.length c0_2) l0_2 from zy hs0_2 (fun k_ hk => .inl hk))
 have HB:=zm (Below.refl w.heap.size w)
 have H : ((coder_RightDec.f a0_0 a0_1 l0_2 a0_3).bind fun t366=>(if t366=true then (some (a0_0,a0_1,l0_2,a0_3)) else ((coder_Open.f ([] : List Int)).bind fun bt367=>(some (bt367.1,bt367.2.1,bt367.2.2.1,bt367.2.2.2)))))=some (r1,r2,r3,r4):=h
 clear h
 obtain ⟨t366,A2,H⟩:=ybi H
 by_cases c3 : t366=true
 ·
  subst c3
  rw [if_pos rfl] at H
  simp only [Option.some.injEq,Prod.mk.injEq] at H
  obtain ⟨rfl,rfl,rfl,rfl⟩:=H
  go_enter Try.func86,Try.ntmps86
  go_wp2_with (first|((with_reducible refine gate_dst (N:=1) rfl ?_);refine ybx 1 #[.int .u64 a0_0, .int .u32 a0_1, .slice A0_2 l0_2.length c0_2, .int .i64 a0_3] 82 ?_;intro gb364 hg w4 hbox hb;replace HO0_2:=yVe HO0_2 hg hb;have BK364:=zm (hbox);have GW364:=ygw hg;have GE364:=ygw hg;replace HB:=ybs hb;clear hb hbox hg)|((with_reducible refine gate_dst (N:=2) rfl ?_);refine ybx 2 #[.int .u64 0, .int .u32 0, .slice none 0 0, .int .i64 0] 82 ?_;intro gb365 hg w5 hbox hb;replace HO0_2:=yVe HO0_2 hg hb;have BK365:=zm (hbox);have GW365:=ygw hg;have GE365:=ygw hg;replace HB:=ybs hb;have NB364_365:=ynl BK364 hg;have NB365_364:=yng BK364 hg;replace BK364:=ybb BK364 hb;clear hb hbox hg;have:=NB364_365.out;have:=NB365_364.out;obtain ⟨_,_,_,_,_,_,_,_⟩:=yc4 BK364)|((with_reducible refine gate_callee (f:=97) rfl ?_);refine ygl 4 Try.func97 #[.agg #[.int .u64 a0_0, .int .u32 a0_1, .slice A0_2 l0_2.length c0_2, .int .i64 a0_3]] ?_;(with_reducible refine (coder_RightDec.calls a0_0 a0_1 _ _ l0_2 a0_3 true _ ?side1 ?side2 A2.out).mono ?_);(case side1=>exact yce (Kd.V_reads' HO0_2.out).2.2);(case side2=>exact (Kd.V_reads' HO0_2.out).2.1);rintro e w8 ⟨rfl,hb⟩;refine ⟨_,rfl, ?_⟩;replace HO0_2:=yVb HO0_2 hb;replace BK364:=ybb BK364 hb;replace BK365:=ybb BK365 hb;replace HB:=ybs hb;(try clear hb);obtain ⟨_,_,_,_,_,_,_,_⟩:=yc4 BK364;obtain ⟨_,_,_,_,_,_,_,_⟩:=yc4 BK365))
  refine bodyPost_ret (results_cell_row rfl _ _ gb365 82 #[.int .u64 a0_0, .int .u32 a0_1, .slice A0_2 l0_2.length c0_2, .int .i64 a0_3] (0,0) _ rfl (ykp BK365) Try.underlying82 rfl (by kernel_rfl)) rfl ?_
  exact ⟨_,ye,yV0 HO0_2,yhb⟩
 ·
  replace c3:=Bool.eq_false_iff.mpr c3
  subst c3
  rw [ynf] at H
  obtain ⟨⟨t367,t368,t369,t372⟩,A11,H⟩:=ybi H
  try dsimp only at H
  simp only [Option.some.injEq,Prod.mk.injEq] at H
  obtain ⟨rfl,rfl,rfl,rfl⟩:=H
  go_enter Try.func86,Try.ntmps86
  go_wp2_with (first|((with_reducible refine gate_dst (N:=1) rfl ?_);refine ybx 1 #[.int .u64 a0_0, .int .u32 a0_1, .slice A0_2 l0_2.length c0_2, .int .i64 a0_3] 82 ?_;intro gb364 hg w12 hbox hb;replace HO0_2:=yVe HO0_2 hg hb;have BK364:=zm (hbox);have GW364:=ygw hg;have GE364:=ygw hg;replace HB:=ybs hb;clear hb hbox hg)|((with_reducible refine gate_dst (N:=2) rfl ?_);refine ybx 2 #[.int .u64 0, .int .u32 0, .slice none 0 0, .int .i64 0] 82 ?_;intro gb365 hg w13 hbox hb;replace HO0_2:=yVe HO0_2 hg hb;have BK365:=zm (hbox);have GW365:=ygw hg;have GE365:=ygw hg;replace HB:=ybs hb;have NB364_365:=ynl BK364 hg;have NB365_364:=yng BK364 hg;replace BK364:=ybb BK364 hb;clear hb hbox hg;have:=NB364_365.out;have:=NB365_364.out;obtain ⟨_,_,_,_,_,_,_,_⟩:=yc4 BK364)|((with_reducible refine gate_callee (f:=97) rfl ?_);refine ygl 4 Try.func97 #[.agg #[.int .u64 a0_0, .int .u32 a0_1, .slice A0_2 l0_2.length c0_2, .int .i64 a0_3]] ?_;(with_reducible refine (coder_RightDec.calls a0_0 a0_1 _ _ l0_2 a0_3 false _ ?side1 ?side2 A2.out).mono ?_);(case side1=>exact yce (Kd.V_reads' HO0_2.out).2.2);(case side2=>exact (Kd.V_reads' HO0_2.out).2.1);rintro e w16 ⟨rfl,hb⟩;refine ⟨_,rfl, ?_⟩;replace HO0_2:=yVb HO0_2 hb;replace BK364:=ybb BK364 hb;replace BK365:=ybb BK365 hb;replace HB:=ybs hb;(try clear hb))|((with_reducible refine gate_callee (f:=49) rfl ?_);refine ygl 6 Try.func49 #[.slice none 0 0] ?_;(refine (coder_Open.calls (fun k_=>False) _ _ ([] : List Int) t367 t368 t369 t372 _ ?side1 A11.out).mono ?_);(case side1=>exact Kd.V_nil _ _ _ _ _);rintro e w17 ⟨v370,rfl,ho0,hb⟩;refine ⟨_,rfl, ?_⟩;replace HO0_2:=yVb HO0_2 hb;have HO371:=yho (fun k_=>(P0_2_ k_∨w.heap.size≤k_)∧k_≠gb364∧k_≠gb365) ho0 (fun k_ hk_=>⟨Or.elim hk_ (fun hs_=>(hs_).elim) (fun hn_=>(.inr (Nat.le_trans (zE yhb) hn_))),yoB BK364 hk_,yoB BK365 hk_⟩);replace BK364:=ybb BK364 hb;replace BK365:=ybb BK365 hb;replace HB:=ybs hb;(try clear hb);(try clear ho0);obtain ⟨_,_,_,_,_,_,_,_⟩:=yc4 BK365;obtain ⟨Ao19,co19,eo19⟩:=Kd.V_slice HO371.out;subst eo19))
  refine bodyPost_ret (results_cell_row rfl _ _ gb365 82 #[.int .u64 t367, .int .u32 t368, .slice Ao19 t369.length co19, .int .i64 t372] (0,0) _ rfl (ykp BK365) Try.underlying82 rfl (by kernel_rfl)) rfl ?_
  exact ⟨_,ye,yV0 HO371,yhb⟩
def num_Clamp.f (a0 : Int) (a1 : Int) (a2 : Int) : Option (Int):=if a0 < a1 then (some a1) else (if a0 > a2 then (some a2) else (some a0))
set_option maxHeartbeats 8000000 in
set_option maxRecDepth 100000 in
theorem num_Clamp.calls (a0 : Int) (a1 : Int) (a2 : Int) (r : Int) (w : World) (h : num_Clamp.f a0 a1 a2=some r) :
  Calls Try.prog 87 #[.int .i64 a0, .int .i64 a1, .int .i64 a2] w fun e w' => e=.returned (.int .i64 r)∧Drawn0 w w' := by
 have H : (if a0 < a1 then (some a1) else (if a0 > a2 then (some a2) else (some a0)))=some r:=h
 clear h
 by_cases c4 : a0 < a1
 ·
  rw [if_pos c4] at H
  have c4b0 : decide (a0 < a1)=true:=decide_eq_true c4
  clear c4
  obtain rfl:=Option.some.inj H
  go_enter Try.func87,Try.ntmps87
  go_wp2
  go_ret
  exact ⟨yq,yd⟩
 ·
  rw [if_neg c4] at H
  have c4b0 : decide (a0 < a1)=false:=decide_eq_false c4
  clear c4
  by_cases c5 : a0 > a2
  ·
   rw [if_pos c5] at H
   have c5b0 : decide (a2 < a0)=true:=decide_eq_true c5
   clear c5
   obtain rfl:=Option.some.inj H
   go_enter Try.func87,Try.ntmps87
   go_wp2
   go_ret
   exact ⟨yq,yd⟩
  ·
   rw [if_neg c5] at H
   have c5b0 : decide (a2 < a0)=false:=decide_eq_false c5
   clear c5
   obtain rfl:=Option.some.inj H
   go_enter Try.func87,Try.ntmps87
   go_wp2
   go_ret
   exact ⟨yq,yd⟩
def coder_Get.f (a0_0 : Int) (a0_1 : Int) (l0_2 : List Int) (a0_3 : Int) (a1 : Int) : Option (Int × Int):=(coder_good.f a0_0 a0_1 l0_2 a0_3).bind fun bt374=>(if a1 < 1 then (some (0,1)) else (if a1 > 65536 then (some (0,1)) else (if ((a1) % 4294967296)=0 then (none) else (if ((Int.tdiv bt374.2.1 ((a1) % 4294967296)) % 4294967296)=0 then (none) else ((num_Clamp.f (wrap64 (IntKind.u64.wrap (Int.tdiv bt374.1 ((Int.tdiv bt374.2.1 ((a1) % 4294967296)) % 4294967296)))) 0 (wrap64 (a1 - 1))).bind fun t380=>(some (t380,0)))))))
set_option maxHeartbeats 8000000 in
set_option maxRecDepth 100000 in
theorem coder_Get.calls (a0_0 : Int) (a0_1 : Int) (A0_2 : Option Addr) (c0_2 : Nat) (l0_2 : List Int) (a0_3 : Int) (a1 : Int) (r1 : Int) (r2 : Int) (w : World) (hr0_2 : Kd.C (Kd.int .u8) w A0_2 l0_2.length l0_2) (hc0_2 : l0_2.length≤c0_2) (h : coder_Get.f a0_0 a0_1 l0_2 a0_3 a1=some (r1,r2)) :
  Calls Try.prog 50 #[.agg #[.int .u64 a0_0, .int .u32 a0_1, .slice A0_2 l0_2.length c0_2, .int .i64 a0_3], .int .i64 a1] w fun e w' => e=.returned (.tuple #[.int .i64 r1, .int .i64 r2])∧Below w.heap.size w w' := by
 have hu82:=Try.underlying82;have HR0_2:=zm hr0_2;have HC0_2:=zm hc0_2;clear hr0_2 hc0_2;have HB:=zm (Below.refl w.heap.size w)
 have H : ((coder_good.f a0_0 a0_1 l0_2 a0_3).bind fun bt374=>(if a1 < 1 then (some (0,1)) else (if a1 > 65536 then (some (0,1)) else (if ((a1) % 4294967296)=0 then (none) else (if ((Int.tdiv bt374.2.1 ((a1) % 4294967296)) % 4294967296)=0 then (none) else ((num_Clamp.f (wrap64 (IntKind.u64.wrap (Int.tdiv bt374.1 ((Int.tdiv bt374.2.1 ((a1) % 4294967296)) % 4294967296)))) 0 (wrap64 (a1 - 1))).bind fun t380=>(some (t380,0))))))))=some (r1,r2):=h
 clear h
 obtain ⟨⟨t374,t375,t376,t379⟩,A3,H⟩:=ybi H
 try dsimp only at H
 by_cases c4 : a1 < 1
 ·
  rw [if_pos c4] at H
  have c4b0 : decide (a1 < 1)=true:=decide_eq_true c4
  clear c4
  simp only [Option.some.injEq,Prod.mk.injEq] at H
  obtain ⟨rfl,rfl⟩:=H
  go_enter Try.func50,Try.ntmps50
  go_wp2_with (first|((with_reducible refine gate_dst (N:=2) rfl ?_);refine ybx 2 #[.int .u64 a0_0, .int .u32 a0_1, .slice A0_2 l0_2.length c0_2, .int .i64 a0_3] 82 ?_;intro gb373 hg w5 hbox hb;have BK373:=zm (hbox);have GW373:=ygw hg;have GE373:=ygw hg;replace HB:=ybs hb;clear hb hbox hg;obtain ⟨_,_,_,_,_,_,_,_⟩:=yc4 BK373)|(go_at_call 86;(with_reducible refine (coder_good.calls a0_0 a0_1 (fun k_=>k_ < w.heap.size) _ _ l0_2 a0_3 t374 t375 t376 t379 _ ?side1 A3.out).mono ?_);(case side1=>exact Kd.V_mk HC0_2.out (Kd.F_below (Kd.C_F (Kd.heap_int .u8) HR0_2.out) yhb));rintro e w7 ⟨v377,rfl,ho0,hb⟩;have HO378:=yho (fun k_=>k_≠gb373) ho0 (fun k_ hk_=>yoB BK373 hk_);replace BK373:=ybb BK373 hb;replace HB:=ybs hb;(try clear hb);(try clear ho0);obtain ⟨_,_,_,_,_,_,_,_⟩:=yc4 BK373;obtain ⟨Ao9,co9,eo9⟩:=Kd.V_slice HO378.out;subst eo9))
  repeat (go_quiet (first|((with_reducible refine gate_dst (N:=2) rfl ?_);refine ybx 2 #[.int .u64 a0_0, .int .u32 a0_1, .slice A0_2 l0_2.length c0_2, .int .i64 a0_3] 82 ?_;intro gb373 hg w5 hbox hb;have BK373:=zm (hbox);have GW373:=ygw hg;have GE373:=ygw hg;replace HB:=ybs hb;clear hb hbox hg;obtain ⟨_,_,_,_,_,_,_,_⟩:=yc4 BK373)|(go_at_call 86;(with_reducible refine (coder_good.calls a0_0 a0_1 (fun k_=>k_ < w.heap.size) _ _ l0_2 a0_3 t374 t375 t376 t379 _ ?side1 A3.out).mono ?_);(case side1=>exact Kd.V_mk HC0_2.out (Kd.F_below (Kd.C_F (Kd.heap_int .u8) HR0_2.out) yhb));rintro e w7 ⟨v377,rfl,ho0,hb⟩;have HO378:=yho (fun k_=>k_≠gb373) ho0 (fun k_ hk_=>yoB BK373 hk_);replace BK373:=ybb BK373 hb;replace HB:=ybs hb;(try clear hb);(try clear ho0);obtain ⟨_,_,_,_,_,_,_,_⟩:=yc4 BK373;obtain ⟨Ao9,co9,eo9⟩:=Kd.V_slice HO378.out;subst eo9));try go_wp2_with (first|((with_reducible refine gate_dst (N:=2) rfl ?_);refine ybx 2 #[.int .u64 a0_0, .int .u32 a0_1, .slice A0_2 l0_2.length c0_2, .int .i64 a0_3] 82 ?_;intro gb373 hg w5 hbox hb;have BK373:=zm (hbox);have GW373:=ygw hg;have GE373:=ygw hg;replace HB:=ybs hb;clear hb hbox hg;obtain ⟨_,_,_,_,_,_,_,_⟩:=yc4 BK373)|(go_at_call 86;(with_reducible refine (coder_good.calls a0_0 a0_1 (fun k_=>k_ < w.heap.size) _ _ l0_2 a0_3 t374 t375 t376 t379 _ ?side1 A3.out).mono ?_);(case side1=>exact Kd.V_mk HC0_2.out (Kd.F_below (Kd.C_F (Kd.heap_int .u8) HR0_2.out) yhb));rintro e w7 ⟨v377,rfl,ho0,hb⟩;have HO378:=yho (fun k_=>k_≠gb373) ho0 (fun k_ hk_=>yoB BK373 hk_);replace BK373:=ybb BK373 hb;replace HB:=ybs hb;(try clear hb);(try clear ho0);obtain ⟨_,_,_,_,_,_,_,_⟩:=yc4 BK373;obtain ⟨Ao9,co9,eo9⟩:=Kd.V_slice HO378.out;subst eo9)))
  go_ret2
  exact ⟨ye,yhb⟩
 ·
  rw [if_neg c4] at H
  have c4b0 : decide (a1 < 1)=false:=decide_eq_false c4
  clear c4
  by_cases c10 : a1 > 65536
  ·
   rw [if_pos c10] at H
   have c10b0 : decide (65536 < a1)=true:=decide_eq_true c10
   clear c10
   simp only [Option.some.injEq,Prod.mk.injEq] at H
   obtain ⟨rfl,rfl⟩:=H
   go_enter Try.func50,Try.ntmps50
   go_wp2_with (first|((with_reducible refine gate_dst (N:=2) rfl ?_);refine ybx 2 #[.int .u64 a0_0, .int .u32 a0_1, .slice A0_2 l0_2.length c0_2, .int .i64 a0_3] 82 ?_;intro gb373 hg w11 hbox hb;have BK373:=zm (hbox);have GW373:=ygw hg;have GE373:=ygw hg;replace HB:=ybs hb;clear hb hbox hg;obtain ⟨_,_,_,_,_,_,_,_⟩:=yc4 BK373)|(go_at_call 86;(with_reducible refine (coder_good.calls a0_0 a0_1 (fun k_=>k_ < w.heap.size) _ _ l0_2 a0_3 t374 t375 t376 t379 _ ?side1 A3.out).mono ?_);(case side1=>exact Kd.V_mk HC0_2.out (Kd.F_below (Kd.C_F (Kd.heap_int .u8) HR0_2.out) yhb));rintro e w13 ⟨v377,rfl,ho0,hb⟩;have HO378:=yho (fun k_=>k_≠gb373) ho0 (fun k_ hk_=>yoB BK373 hk_);replace BK373:=ybb BK373 hb;replace HB:=ybs hb;(try clear hb);(try clear ho0);obtain ⟨_,_,_,_,_,_,_,_⟩:=yc4 BK373;obtain ⟨Ao15,co15,eo15⟩:=Kd.V_slice HO378.out;subst eo15))
   repeat (go_quiet (first|((with_reducible refine gate_dst (N:=2) rfl ?_);refine ybx 2 #[.int .u64 a0_0, .int .u32 a0_1, .slice A0_2 l0_2.length c0_2, .int .i64 a0_3] 82 ?_;intro gb373 hg w11 hbox hb;have BK373:=zm (hbox);have GW373:=ygw hg;have GE373:=ygw hg;replace HB:=ybs hb;clear hb hbox hg;obtain ⟨_,_,_,_,_,_,_,_⟩:=yc4 BK373)|(go_at_call 86;(with_reducible refine (coder_good.calls a0_0 a0_1 (fun k_=>k_ < w.heap.size) _ _ l0_2 a0_3 t374 t375 t376 t379 _ ?side1 A3.out).mono ?_);(case side1=>exact Kd.V_mk HC0_2.out (Kd.F_below (Kd.C_F (Kd.heap_int .u8) HR0_2.out) yhb));rintro e w13 ⟨v377,rfl,ho0,hb⟩;have HO378:=yho (fun k_=>k_≠gb373) ho0 (fun k_ hk_=>yoB BK373 hk_);replace BK373:=ybb BK373 hb;replace HB:=ybs hb;(try clear hb);(try clear ho0);obtain ⟨_,_,_,_,_,_,_,_⟩:=yc4 BK373;obtain ⟨Ao15,co15,eo15⟩:=Kd.V_slice HO378.out;subst eo15));try go_wp2_with (first|((with_reducible refine gate_dst (N:=2) rfl ?_);refine ybx 2 #[.int .u64 a0_0, .int .u32 a0_1, .slice A0_2 l0_2.length c0_2, .int .i64 a0_3] 82 ?_;intro gb373 hg w11 hbox hb;have BK373:=zm (hbox);have GW373:=ygw hg;have GE373:=ygw hg;replace HB:=ybs hb;clear hb hbox hg;obtain ⟨_,_,_,_,_,_,_,_⟩:=yc4 BK373)|(go_at_call 86;(with_reducible refine (coder_good.calls a0_0 a0_1 (fun k_=>k_ < w.heap.size) _ _ l0_2 a0_3 t374 t375 t376 t379 _ ?side1 A3.out).mono ?_);(case side1=>exact Kd.V_mk HC0_2.out (Kd.F_below (Kd.C_F (Kd.heap_int .u8) HR0_2.out) yhb));rintro e w13 ⟨v377,rfl,ho0,hb⟩;have HO378:=yho (fun k_=>k_≠gb373) ho0 (fun k_ hk_=>yoB BK373 hk_);replace BK373:=ybb BK373 hb;replace HB:=ybs hb;(try clear hb);(try clear ho0);obtain ⟨_,_,_,_,_,_,_,_⟩:=yc4 BK373;obtain ⟨Ao15,co15,eo15⟩:=Kd.V_slice HO378.out;subst eo15)))
   go_ret2
   exact ⟨ye,yhb⟩
  ·
   rw [if_neg c10] at H
   have c10b0 : decide (65536 < a1)=false:=decide_eq_false c10
   clear c10
   obtain ⟨c16,H⟩:=yie H
   have c16b0 : (((a1) % 4294967296) == 0)=false:=beq_eq_false_iff_ne.mpr c16
   have c16b1 : (((a1) % 4294967296) != 0)=true:=bne_iff_ne.mpr c16
   obtain ⟨c17,H⟩:=yie H
   have c17b0 : (((Int.tdiv t375 ((a1) % 4294967296)) % 4294967296) == 0)=false:=beq_eq_false_iff_ne.mpr c17
   have c17b1 : (((Int.tdiv t375 ((a1) % 4294967296)) % 4294967296) != 0)=true:=bne_iff_ne.mpr c17
   obtain ⟨t380,A18,H⟩:=ybi H
   simp only [Option.some.injEq,Prod.mk.injEq] at H
   obtain ⟨rfl,rfl⟩:=H
   go_enter Try.func50,Try.ntmps50
   go_wp2_with (first|((with_reducible refine gate_dst (N:=2) rfl ?_);refine ybx 2 #[.int .u64 a0_0, .int .u32 a0_1, .slice A0_2 l0_2.length c0_2, .int .i64 a0_3] 82 ?_;intro gb373 hg w19 hbox hb;have BK373:=zm (hbox);have GW373:=ygw hg;have GE373:=ygw hg;replace HB:=ybs hb;clear hb hbox hg;obtain ⟨_,_,_,_,_,_,_,_⟩:=yc4 BK373)|(go_at_call 86;(with_reducible refine (coder_good.calls a0_0 a0_1 (fun k_=>k_ < w.heap.size) _ _ l0_2 a0_3 t374 t375 t376 t379 _ ?side1 A3.out).mono ?_);(case side1=>exact Kd.V_mk HC0_2.out (Kd.F_below (Kd.C_F (Kd.heap_int .u8) HR0_2.out) yhb));rintro e w21 ⟨v377,rfl,ho0,hb⟩;have HO378:=yho (fun k_=>k_≠gb373) ho0 (fun k_ hk_=>yoB BK373 hk_);replace BK373:=ybb BK373 hb;replace HB:=ybs hb;(try clear hb);(try clear ho0);obtain ⟨_,_,_,_,_,_,_,_⟩:=yc4 BK373;obtain ⟨Ao23,co23,eo23⟩:=Kd.V_slice HO378.out;subst eo23)|(go_at_call 87;(with_reducible refine (num_Clamp.calls (wrap64 (IntKind.u64.wrap (Int.tdiv t374 ((Int.tdiv t375 ((a1) % 4294967296)) % 4294967296)))) 0 (wrap64 (a1 - 1)) t380 _ A18.out).mono ?_);rintro e w' ⟨rfl,⟨nd,rfl⟩⟩;(try exact yww)))
   repeat (go_quiet (first|((with_reducible refine gate_dst (N:=2) rfl ?_);refine ybx 2 #[.int .u64 a0_0, .int .u32 a0_1, .slice A0_2 l0_2.length c0_2, .int .i64 a0_3] 82 ?_;intro gb373 hg w19 hbox hb;have BK373:=zm (hbox);have GW373:=ygw hg;have GE373:=ygw hg;replace HB:=ybs hb;clear hb hbox hg;obtain ⟨_,_,_,_,_,_,_,_⟩:=yc4 BK373)|(go_at_call 86;(with_reducible refine (coder_good.calls a0_0 a0_1 (fun k_=>k_ < w.heap.size) _ _ l0_2 a0_3 t374 t375 t376 t379 _ ?side1 A3.out).mono ?_);(case side1=>exact Kd.V_mk HC0_2.out (Kd.F_below (Kd.C_F (Kd.heap_int .u8) HR0_2.out) yhb));rintro e w21 ⟨v377,rfl,ho0,hb⟩;have HO378:=yho (fun k_=>k_≠gb373) ho0 (fun k_ hk_=>yoB BK373 hk_);replace BK373:=ybb BK373 hb;replace HB:=ybs hb;(try clear hb);(try clear ho0);obtain ⟨_,_,_,_,_,_,_,_⟩:=yc4 BK373;obtain ⟨Ao23,co23,eo23⟩:=Kd.V_slice HO378.out;subst eo23)|(go_at_call 87;(with_reducible refine (num_Clamp.calls (wrap64 (IntKind.u64.wrap (Int.tdiv t374 ((Int.tdiv t375 ((a1) % 4294967296)) % 4294967296)))) 0 (wrap64 (a1 - 1)) t380 _ A18.out).mono ?_);rintro e w' ⟨rfl,⟨nd,rfl⟩⟩;(try exact yww)));try go_wp2_with (first|((with_reducible refine gate_dst (N:=2) rfl ?_);refine ybx 2 #[.int .u64 a0_0, .int .u32 a0_1, .slice A0_2 l0_2.length c0_2, .int .i64 a0_3] 82 ?_;intro gb373 hg w19 hbox hb;have BK373:=zm (hbox);have GW373:=ygw hg;have GE373:=ygw hg;replace HB:=ybs hb;clear hb hbox hg;obtain ⟨_,_,_,_,_,_,_,_⟩:=yc4 BK373)|(go_at_call 86;(with_reducible refine (coder_good.calls a0_0 a0_1 (fun k_=>k_ < w.heap.size) _ _ l0_2 a0_3 t374 t375 t376 t379 _ ?side1 A3.out).mono ?_);(case side1=>exact Kd.V_mk HC0_2.out (Kd.F_below (Kd.C_F (Kd.heap_int .u8) HR0_2.out) yhb));rintro e w21 ⟨v377,rfl,ho0,hb⟩;have HO378:=yho (fun k_=>k_≠gb373) ho0 (fun k_ hk_=>yoB BK373 hk_);replace BK373:=ybb BK373 hb;replace HB:=ybs hb;(try clear hb);(try clear ho0);obtain ⟨_,_,_,_,_,_,_,_⟩:=yc4 BK373;obtain ⟨Ao23,co23,eo23⟩:=Kd.V_slice HO378.out;subst eo23)|(go_at_call 87;(with_reducible refine (num_Clamp.calls (wrap64 (IntKind.u64.wrap (Int.tdiv t374 ((Int.tdiv t375 ((a1) % 4294967296)) % 4294967296)))) 0 (wrap64 (a1 - 1)) t380 _ A18.out).mono ?_);rintro e w' ⟨rfl,⟨nd,rfl⟩⟩;(try exact yww))))
   go_ret2
   exact ⟨ye,yhb⟩
def coder_Take.l0 : Nat→Int→Int→Int→List Int→Int→Option (Int × Int × List Int × Int × Int)
 | 0,_,_,_,_,_=>none
 | k+1,x10,x382000,x382001,x382002,x382003=>if x10 < 16777216 then ((coder_at.f x382002 x382003).bind fun t392=>(if x382003 < (x382002.length : Int) then (coder_Take.l0 k ((x10 * 256) % 4294967296) (Go.bits .or .u64 (Go.bits .and .u64 (IntKind.u64.wrap (x382000 * 256)) 4294967295) t392) x382001 x382002 (wrap64 (x382003+1))) else (coder_Take.l0 k ((x10 * 256) % 4294967296) (Go.bits .or .u64 (Go.bits .and .u64 (IntKind.u64.wrap (x382000 * 256)) 4294967295) t392) x382001 x382002 x382003))) else (some (x382000,x10,x382002,x382003,0))
def coder_Take.f (k : Nat) (a0_0 : Int) (a0_1 : Int) (l0_2 : List Int) (a0_3 : Int) (a1 : Int) (a2 : Int) (a3 : Int) : Option (Int × Int × List Int × Int × Int):=(coder_good.f a0_0 a0_1 l0_2 a0_3).bind fun bt383=>((coder_fair.f a1 a2 a3).bind fun t389=>(if t389=true then ((coder_part.f bt383.2.1 a1 a2 a3).bind fun bt390=>(coder_Take.l0 k bt390.1 (IntKind.u64.wrap (bt383.1 - (mn bt383.1 bt390.2))) bt383.2.1 bt383.2.2.1 bt383.2.2.2)) else (some (bt383.1,bt383.2.1,bt383.2.2.1,bt383.2.2.2,1))))
theorem coder_Take.mono_l : ∀ k,(∀ y0 y1 y2 y3 y4,LeO (coder_Take.l0 k y0 y1 y2 y3 y4) (coder_Take.l0 (k+1) y0 y1 y2 y3 y4))
 | 0=>fun _ _ _ _ _ r h=>by simp [coder_Take.l0] at h
 | k+1=>by
  have ih0:=coder_Take.mono_l k
  ·
   intro y0 y1 y2 y3 y4
   unfold coder_Take.l0
   repeat' with_reducible first|apply ih0|apply yLr|apply yLn|apply yLi|apply yLb|intro _
theorem coder_Take.mono : ∀ a0 a1 a2 a3 a4 a5 a6 k,LeO (coder_Take.f k a0 a1 a2 a3 a4 a5 a6) (coder_Take.f (k+1) a0 a1 a2 a3 a4 a5 a6):=by
 intro a0 a1 a2 a3 a4 a5 a6 k
 have ih0:=coder_Take.mono_l k
 unfold coder_Take.f
 repeat' with_reducible first|apply ih0|apply yLr|apply yLn|apply yLi|apply yLb|intro _
def coder_Take.T7 : Bool × List (List Nat × List Nat):=(true, [([], []),([0], [0]),([1], [1]),([2], [2]),([], []),([4], [4]),([], []),([6], [6]),([5,7], [5,7]),([3,8], [3,8]),([0,1,2,3,4,5,6,7,8,9], []),([10,9,8,0,1,2,3,4,5,6,7,8,9], [9,10])])
def coder_Take.B7 : List Nat := [0,1,3,7,0,16,0,64,240,511,1023,2047]
theorem coder_Take.tab7 : rtab .any (opsOf Try.f51 7)=coder_Take.T7:=by kernel_rfl
theorem coder_Take.bits7 : waitsOk coder_Take.T7.2 coder_Take.B7=true:=by kernel_rfl
set_option maxHeartbeats 8000000 in
set_option maxRecDepth 100000 in
theorem coder_Take.calls (k : Nat) (a0_0 : Int) (a0_1 : Int) (P0_2_ : Nat→Prop) (A0_2 : Option Addr) (c0_2 : Nat) (l0_2 : List Int) (a0_3 : Int) (a1 : Int) (a2 : Int) (a3 : Int) (r1 : Int) (r2 : Int) (r3 : List Int) (r4 : Int) (r5 : Int) (w : World) (hs0_2 : Kd.V (Kd.int .u8) 5 w w.heap.size (fun k_=>P0_2_ k_) (.slice A0_2 l0_2.length c0_2) l0_2) (h : coder_Take.f k a0_0 a0_1 l0_2 a0_3 a1 a2 a3=some (r1,r2,r3,r4,r5)) :
  Calls Try.prog 51 #[.agg #[.int .u64 a0_0, .int .u32 a0_1, .slice A0_2 l0_2.length c0_2, .int .i64 a0_3], .int .i64 a1, .int .i64 a2, .int .i64 a3] w fun e w' => ∃ v2_ : Value,e=.returned (.tuple #[.agg #[.int .u64 r1, .int .u32 r2,v2_, .int .i64 r4], .int .i64 r5])∧Kd.V (Kd.int .u8) 5 w' w.heap.size (fun k_=>(P0_2_ k_∨w.heap.size≤k_)) v2_ r3∧Below w.heap.size w w' := by
 have hu82:=Try.underlying82
 have HO0_2:=zm (show Kd.V (Kd.int .u8) 5 w w.heap.size (fun k_=>(P0_2_ k_∨w.heap.size≤k_)) (.slice A0_2 l0_2.length c0_2) l0_2 from zy hs0_2 (fun k_ hk => .inl hk))
 have HB:=zm (Below.refl w.heap.size w)
 have H : ((coder_good.f a0_0 a0_1 l0_2 a0_3).bind fun bt383=>((coder_fair.f a1 a2 a3).bind fun t389=>(if t389=true then ((coder_part.f bt383.2.1 a1 a2 a3).bind fun bt390=>(coder_Take.l0 k bt390.1 (IntKind.u64.wrap (bt383.1 - (mn bt383.1 bt390.2))) bt383.2.1 bt383.2.2.1 bt383.2.2.2)) else (some (bt383.1,bt383.2.1,bt383.2.2.1,bt383.2.2.2,1)))))=some (r1,r2,r3,r4,r5):=h
 clear h
 obtain ⟨⟨t383,t384,t385,t388⟩,A5,H⟩:=ybi H
 try dsimp only at H
 obtain ⟨t389,A6,H⟩:=ybi H
 by_cases c7 : t389=true
 ·
  subst c7
  rw [if_pos rfl] at H
  obtain ⟨⟨t390,t391⟩,A8,H⟩:=ybi H
  try dsimp only at H
  obtain ⟨ji9,hji9⟩ : ∃ j_ : Int,(mn t383 t391)=j_:=⟨_,rfl⟩
  replace H : (coder_Take.l0 k t390 (IntKind.u64.wrap (t383 - (ji9))) t384 t385 t388)=some (r1,r2,r3,r4,r5):=by first|(rw [hji9] at H;exact H)|(simp only [hji9] at H ⊢; exact H)
  (try rw [hji9] at A5)
  (try rw [hji9] at A6)
  (try rw [hji9] at A8)
  have hji9_ : (if t391 < t383 then t391 else t383)=ji9:=hji9
  have H' := zm H
  clear H
  go_enter Try.func51,Try.ntmps51
  go_wp2_with (first|((with_reducible refine gate_dst (N:=4) rfl ?_);refine ybx 4 #[.int .u64 a0_0, .int .u32 a0_1, .slice A0_2 l0_2.length c0_2, .int .i64 a0_3] 82 ?_;intro gb381 hg w10 hbox hb;replace HO0_2:=yVe HO0_2 hg hb;have BK381:=zm (hbox);have GW381:=ygw hg;have GE381:=ygw hg;replace HB:=ybs hb;clear hb hbox hg)|((with_reducible refine gate_dst (N:=8) rfl ?_);refine ybx 8 #[.int .u64 0, .int .u32 0, .slice none 0 0, .int .i64 0] 82 ?_;intro gb382 hg w11 hbox hb;replace HO0_2:=yVe HO0_2 hg hb;have BK382:=zm (hbox);have GW382:=ygw hg;have GE382:=ygw hg;replace HB:=ybs hb;have NB381_382:=ynl BK381 hg;have NB382_381:=yng BK381 hg;replace BK381:=ybb BK381 hb;clear hb hbox hg;have:=NB381_382.out;have:=NB382_381.out;obtain ⟨hcz13_0,hcz13_1,hcz13_2,hcz13_3,hfz13_0,hfz13_1,hfz13_2,hfz13_3⟩:=yc4 BK381)|((with_reducible refine gate_callee (f:=86) rfl ?_);refine ygl 13 Try.func86 #[.agg #[.int .u64 a0_0, .int .u32 a0_1, .slice A0_2 l0_2.length c0_2, .int .i64 a0_3]] ?_;(with_reducible refine (coder_good.calls a0_0 a0_1 (fun k_=>(((P0_2_ k_∨w.heap.size≤k_)∧k_≠gb381)∧k_≠gb382)) _ _ l0_2 a0_3 t383 t384 t385 t388 _ HO0_2.out A5.out).mono ?_);rintro e w14 ⟨v386,rfl,ho0,hb⟩;refine ⟨_,rfl, ?_⟩;replace HO0_2:=yVb HO0_2 hb;have HO387:=yho (fun k_=>(P0_2_ k_∨w.heap.size≤k_)∧k_≠gb381∧k_≠gb382) ho0 (fun k_ hk_=>⟨Or.elim hk_ (fun hs_=>hs_.1.1) (fun hn_=>(.inr (Nat.le_trans (zE yhb) hn_))),yoB BK381 hk_,yoB BK382 hk_⟩);replace BK381:=ybb BK381 hb;replace BK382:=ybb BK382 hb;replace HB:=ybs hb;(try clear hb);(try clear ho0);obtain ⟨hcz15_0,hcz15_1,hcz15_2,hcz15_3,hfz15_0,hfz15_1,hfz15_2,hfz15_3⟩:=yc4 BK381;obtain ⟨Ao16,co16,eo16⟩:=Kd.V_slice HO387.out;subst eo16)|((with_reducible refine gate_store (t:=82) (p:=4) rfl ?_);refine store_event (t:=82) (p:=4) (v := ?vo_w17) (w1:=((((w14.setCell ⟨gb381,0,none⟩ (.int .u64 t383)).setCell ⟨gb381,1,none⟩ (.int .u32 t384)).setCell ⟨gb381,2,none⟩ (.slice Ao16 t385.length co16)).setCell ⟨gb381,3,none⟩ (.int .i64 t388))) ?hg ?ho ?hn ?hr ?_;(case ho=>rfl);(case hg=>rfl);(case hn=>rfl);(case hr=>first|(go_simp;done)|(go_simp;rfl));intro w17 hw;replace HO0_2 : Aside0 (Kd.V (Kd.int .u8) 5 w17 w.heap.size (fun k_=>(P0_2_ k_∨w.heap.size≤k_)∧k_≠gb381∧k_≠gb382) (.slice A0_2 l0_2.length c0_2) l0_2):=⟨(by rw [hw];exact (yV0 HO0_2))⟩;replace HO387 : Aside0 (Kd.V (Kd.int .u8) 5 w17 w.heap.size (fun k_=>(P0_2_ k_∨w.heap.size≤k_)∧k_≠gb381∧k_≠gb382) (.slice Ao16 t385.length co16) t385):=⟨(by rw [hw];exact (yV0 HO387))⟩;replace BK381 : Aside0 (w17.heap[gb381]? = some (.cells #[.int .u64 t383, .int .u32 t384, .slice Ao16 t385.length co16, .int .i64 t388] 82 (0,0))):=⟨(by rw [hw];exact (ykp BK381))⟩;replace BK382 : Aside0 (w17.heap[gb382]? = some (.cells #[.int .u64 0, .int .u32 0, .slice none 0 0, .int .i64 0] 82 (0,0))):=⟨(by rw [hw];exact (yk BK382))⟩;replace HB : Aside0 (Below w.heap.size w w17):=⟨(by rw [hw];exact yhb)⟩;clear hw)|((with_reducible refine gate_callee (f:=64) rfl ?_);refine ygl 17 Try.func64 #[.int .i64 a1, .int .i64 a2, .int .i64 a3] ?_;(with_reducible refine (coder_fair.calls a1 a2 a3 true _ A6.out).mono ?_);rintro e w' ⟨rfl,⟨nd,rfl⟩⟩;refine ⟨_,rfl, ?_⟩;(try (rw [drewN_self w17];generalize hq_ : World.drewN w17 _=w17;have n0_ : Aside0 (Kd.V (Kd.int .u8) 5 w17 w.heap.size (fun k_=>(P0_2_ k_∨w.heap.size≤k_)∧k_≠gb381∧k_≠gb382) (.slice A0_2 l0_2.length c0_2) l0_2):=⟨by rw [← hq_];exact (yr HO0_2)⟩;have n1_ : Aside0 (Kd.V (Kd.int .u8) 5 w17 w.heap.size (fun k_=>(P0_2_ k_∨w.heap.size≤k_)∧k_≠gb381∧k_≠gb382) (.slice Ao16 t385.length co16) t385):=⟨by rw [← hq_];exact (yr HO387)⟩;have n2_ : Aside0 (w17.heap[gb381]? = some (.cells #[.int .u64 t383, .int .u32 t384, .slice Ao16 t385.length co16, .int .i64 t388] 82 (0,0))):=⟨by rw [← hq_];exact (yk BK381)⟩;have n3_ : Aside0 (w17.heap[gb382]? = some (.cells #[.int .u64 0, .int .u32 0, .slice none 0 0, .int .i64 0] 82 (0,0))):=⟨by rw [← hq_];exact (yk BK382)⟩;have n4_ : Aside0 (Below w.heap.size w w17):=⟨by rw [← hq_];exact yhb⟩;clear HO0_2 HO387 BK381 BK382 HB hq_;have HO0_2:=n0_;have HO387:=n1_;have BK381:=n2_;have BK382:=n3_;have HB:=n4_;clear n0_ n1_ n2_ n3_ n4_));obtain ⟨hcz18_0,hcz18_1,hcz18_2,hcz18_3,hfz18_0,hfz18_1,hfz18_2,hfz18_3⟩:=yc4 BK381)|((with_reducible refine gate_callee (f:=65) rfl ?_);refine ygl 26 Try.func65 #[.int .u32 t384, .int .i64 a1, .int .i64 a2, .int .i64 a3] ?_;(with_reducible refine (coder_part.calls t384 a1 a2 a3 t390 t391 _ A8.out).mono ?_);rintro e w' ⟨rfl,⟨nd,rfl⟩⟩;refine ⟨_,rfl, ?_⟩;(try (rw [drewN_self w17];generalize hq_ : World.drewN w17 _=w17;have n0_ : Aside0 (Kd.V (Kd.int .u8) 5 w17 w.heap.size (fun k_=>(P0_2_ k_∨w.heap.size≤k_)∧k_≠gb381∧k_≠gb382) (.slice A0_2 l0_2.length c0_2) l0_2):=⟨by rw [← hq_];exact (yr HO0_2)⟩;have n1_ : Aside0 (Kd.V (Kd.int .u8) 5 w17 w.heap.size (fun k_=>(P0_2_ k_∨w.heap.size≤k_)∧k_≠gb381∧k_≠gb382) (.slice Ao16 t385.length co16) t385):=⟨by rw [← hq_];exact (yr HO387)⟩;have n2_ : Aside0 (w17.heap[gb381]? = some (.cells #[.int .u64 t383, .int .u32 t384, .slice Ao16 t385.length co16, .int .i64 t388] 82 (0,0))):=⟨by rw [← hq_];exact (yk BK381)⟩;have n3_ : Aside0 (w17.heap[gb382]? = some (.cells #[.int .u64 0, .int .u32 0, .slice none 0 0, .int .i64 0] 82 (0,0))):=⟨by rw [← hq_];exact (yk BK382)⟩;have n4_ : Aside0 (Below w.heap.size w w17):=⟨by rw [← hq_];exact yhb⟩;clear HO0_2 HO387 BK381 BK382 HB hq_;have HO0_2:=n0_;have HO387:=n1_;have BK381:=n2_;have BK382:=n3_;have HB:=n4_;clear n0_ n1_ n2_ n3_ n4_));obtain ⟨hcz19_0,hcz19_1,hcz19_2,hcz19_3,hfz19_0,hfz19_1,hfz19_2,hfz19_3⟩:=yc4 BK381))
  go_loopg [10] k (fun kq v10 w' => ∃ (x10_1 : Int) (x382000_1 : Int) (x382003_1 : Int),v10=.int .u32 x10_1∧Aside0 (coder_Take.l0 kq x10_1 x382000_1 t384 t385 x382003_1=some (r1,r2,r3,r4,r5))∧Aside0 (kq≤k)∧Aside0 (Kd.V (Kd.int .u8) 5 w' w.heap.size (fun k_=>(P0_2_ k_∨w.heap.size≤k_)∧k_≠gb381∧k_≠gb382) (.slice Ao16 t385.length co16) t385)∧Aside0 (w'.heap[gb381]? = some (.cells #[.int .u64 x382000_1, .int .u32 t384,(.slice Ao16 t385.length co16), .int .i64 x382003_1] 82 (0,0)))∧Aside0 (w'.heap[gb382]? = some (.cells #[.int .u64 0, .int .u32 0,(.slice none 0 0), .int .i64 0] 82 (0,0)))∧Aside0 (Below w.heap.size w w'))
  case atStart=>exact ⟨(t390),(IntKind.u64.wrap (t383 - (ji9))),(t388),yq,H',⟨Nat.le_refl _⟩,⟨yV0 HO387⟩,⟨ykp BK381⟩,⟨yk BK382⟩,⟨yhb⟩⟩
  case round =>
   clear H'
   try clear hcz13_0
   try clear hcz13_1
   try clear hcz13_2
   try clear hcz13_3
   try clear hcz15_0
   try clear hcz15_1
   try clear hcz15_2
   try clear hcz15_3
   try clear hcz18_0
   try clear hcz18_1
   try clear hcz18_2
   try clear hcz18_3
   try clear hcz19_0
   try clear hcz19_1
   try clear hcz19_2
   try clear hcz19_3
   try clear hfz13_0
   try clear hfz13_1
   try clear hfz13_2
   try clear hfz13_3
   try clear hfz15_0
   try clear hfz15_1
   try clear hfz15_2
   try clear hfz15_3
   try clear hfz18_0
   try clear hfz18_1
   try clear hfz18_2
   try clear hfz18_3
   try clear hfz19_0
   try clear hfz19_1
   try clear hfz19_2
   try clear hfz19_3
   obtain ⟨x10_1,x382000_1,x382003_1,rfl,HA,HK1,HO_382002,BK381,BK382,HB⟩:=hrel
   obtain ⟨k1,rfl⟩:=ysu gk (fun h=>by subst h;exact absurd HA.out (by simp [coder_Take.l0]))
   have H:=HA.out;clear HA
   simp only [coder_Take.l0] at H
   by_cases c20 : x10_1 < 16777216
   ·
    rw [if_pos c20] at H
    have c20b0 : decide (x10_1 < 16777216)=true:=decide_eq_true c20
    clear c20
    obtain ⟨t392,A21,H⟩:=ybi H
    by_cases c22 : x382003_1 < (t385.length : Int)
    ·
     rw [if_pos c22] at H
     have c22b0 : decide (x382003_1 < (t385.length : Int))=true:=decide_eq_true c22
     clear c22
     have H' := zm H
     clear H
     try go_wp2
     replace HO_382002:=zm (zC HO_382002.out)
     replace BK381:=zm (zj BK381.out)
     replace BK382:=zm (zj BK382.out)
     replace HB:=zm (zf HB.out)
     refine yst (fun w' => w'.cell? ⟨gb381,0,none⟩=some (.int .u64 x382000_1)∧w'.cell? ⟨gb381,1,none⟩=some (.int .u32 t384)∧w'.cell? ⟨gb381,2,none⟩=some (.slice Ao16 t385.length co16)∧w'.cell? ⟨gb381,3,none⟩=some (.int .i64 x382003_1)) [11] 12 coder_Take.tab7 coder_Take.bits7 (fun hHeld HT_ HW_ => ?_)
     generalize wr.drew=w23 at HO_382002 BK381 BK382 HB hHeld ⊢
     refine yp 0 39 HT_ ?_
     refine yp 4 43 HT_ ?_
     refine yp 6 45 HT_ ?_
     refine yl 1 40 HT_ HW_ hHeld ?_
     refine yp 2 41 HT_ ?_
     refine yp 3 42 HT_ ?_
     refine yl 5 44 HT_ HW_ hHeld ?_
     refine yl 7 46 HT_ HW_ hHeld ?_
     refine yw 8 47 HT_ (fun K hK => ?_)
     refine ygs Try.func85 #[.slice Ao16 t385.length co16, .int .i64 x382003_1] ?_
     with_reducible refine (coder_at.calls _ _ t385 x382003_1 t392 _ ?side1 ?side2 A21.out).mono ?_
     (case side1=>exact yce (Kd.V_reads' HO_382002.out).2.2)
     (case side2=>exact (Kd.V_reads' HO_382002.out).2.1)
     rintro e w' ⟨rfl,⟨nd,rfl⟩⟩
     refine ⟨_,rfl, ?_⟩
     refine hK.out _ _ yH (fun hHeld => ?_)
     clear hK K
     refine ym (some 47) ?_
     refine yp 9 48 HT_ ?_
     refine yp 10 49 HT_ ?_
     refine last_ (i:=11) (N:=none) #[true,true,true,true,true,true,true,true,true,true,true,true] rfl rfl (one_of HT_.out (by kernel_rfl)) (by decide) (fun K hK => ?_)
     have hs24 : w23.cell? ⟨gb381,0,none⟩=some (.int .u64 x382000_1):=(zs BK381.out 0).trans rfl
     have hfs24:=zx BK381.out 0
     have:=NB382_381.out
     have:=NB381_382.out
     refine skip_ (w1 := ?_) (by rfl) rfl ?_ ?_
     rotate_left
     ·
      go_simp
      rfl
     refine hK.out _ _ ?_
     clear hK K
     refine done_ (done_of HT_.out (by kernel_rfl)) ?_
     have:=NB381_382.out
     have:=NB382_381.out
     obtain ⟨_,_,_,_,_,_,_,_⟩:=yc4 BK381
     try go_wp2
     go_roundg k1
     case measure=>exact yom1 HK1
     case rel=>exact ⟨((x10_1 * 256) % 4294967296),(Go.bits .or .u64 (Go.bits .and .u64 (IntKind.u64.wrap (x382000_1 * 256)) 4294967295) t392),(wrap64 (x382003_1+1)),yq,H',⟨yom1 HK1⟩,⟨yV0 HO_382002⟩,⟨ykp BK381⟩,⟨yk BK382⟩,⟨yhb⟩⟩
    ·
     rw [if_neg c22] at H
     have c22b0 : decide (x382003_1 < (t385.length : Int))=false:=decide_eq_false c22
     clear c22
     have H' := zm H
     clear H
     try go_wp2
     replace HO_382002:=zm (zC HO_382002.out)
     replace BK381:=zm (zj BK381.out)
     replace BK382:=zm (zj BK382.out)
     replace HB:=zm (zf HB.out)
     refine yst (fun w' => w'.cell? ⟨gb381,0,none⟩=some (.int .u64 x382000_1)∧w'.cell? ⟨gb381,1,none⟩=some (.int .u32 t384)∧w'.cell? ⟨gb381,2,none⟩=some (.slice Ao16 t385.length co16)∧w'.cell? ⟨gb381,3,none⟩=some (.int .i64 x382003_1)) [11] 12 coder_Take.tab7 coder_Take.bits7 (fun hHeld HT_ HW_ => ?_)
     generalize wr.drew=w27 at HO_382002 BK381 BK382 HB hHeld ⊢
     refine yp 0 39 HT_ ?_
     refine yp 4 43 HT_ ?_
     refine yp 6 45 HT_ ?_
     refine yl 1 40 HT_ HW_ hHeld ?_
     refine yp 2 41 HT_ ?_
     refine yp 3 42 HT_ ?_
     refine yl 5 44 HT_ HW_ hHeld ?_
     refine yl 7 46 HT_ HW_ hHeld ?_
     refine yw 8 47 HT_ (fun K hK => ?_)
     refine ygs Try.func85 #[.slice Ao16 t385.length co16, .int .i64 x382003_1] ?_
     with_reducible refine (coder_at.calls _ _ t385 x382003_1 t392 _ ?side1 ?side2 A21.out).mono ?_
     (case side1=>exact yce (Kd.V_reads' HO_382002.out).2.2)
     (case side2=>exact (Kd.V_reads' HO_382002.out).2.1)
     rintro e w' ⟨rfl,⟨nd,rfl⟩⟩
     refine ⟨_,rfl, ?_⟩
     refine hK.out _ _ yH (fun hHeld => ?_)
     clear hK K
     refine ym (some 47) ?_
     refine yp 9 48 HT_ ?_
     refine yp 10 49 HT_ ?_
     refine last_ (i:=11) (N:=none) #[true,true,true,true,true,true,true,true,true,true,true,true] rfl rfl (one_of HT_.out (by kernel_rfl)) (by decide) (fun K hK => ?_)
     have hs28 : w27.cell? ⟨gb381,0,none⟩=some (.int .u64 x382000_1):=(zs BK381.out 0).trans rfl
     have hfs28:=zx BK381.out 0
     have:=NB382_381.out
     have:=NB381_382.out
     refine skip_ (w1 := ?_) (by rfl) rfl ?_ ?_
     rotate_left
     ·
      go_simp
      rfl
     refine hK.out _ _ ?_
     clear hK K
     refine done_ (done_of HT_.out (by kernel_rfl)) ?_
     have:=NB381_382.out
     have:=NB382_381.out
     obtain ⟨_,_,_,_,_,_,_,_⟩:=yc4 BK381
     try go_wp2
     go_roundg k1
     case measure=>exact yom1 HK1
     case rel=>exact ⟨((x10_1 * 256) % 4294967296),(Go.bits .or .u64 (Go.bits .and .u64 (IntKind.u64.wrap (x382000_1 * 256)) 4294967295) t392),(x382003_1),yq,H',⟨yom1 HK1⟩,⟨yV0 HO_382002⟩,⟨ykp BK381⟩,⟨yk BK382⟩,⟨yhb⟩⟩
   ·
    rw [if_neg c20] at H
    have c20b0 : decide (x10_1 < 16777216)=false:=decide_eq_false c20
    clear c20
    simp only [Option.some.injEq,Prod.mk.injEq] at H
    obtain ⟨rfl,rfl,rfl,rfl,rfl⟩:=H
    have:=NB381_382.out
    have:=NB382_381.out
    obtain ⟨_,_,_,_,_,_,_,_⟩:=yc4 BK381
    obtain ⟨_,_,_,_,_,_,_,_⟩:=yc4 BK382
    go_wp2
    refine bodyPost_ret (results_ct rfl _ _ gb382 82 #[.int .u64 x382000_1, .int .u32 x10_1, .slice Ao16 t385.length co16, .int .i64 x382003_1] (0,0) _ rfl (ykp BK382) Try.underlying82 rfl (by kernel_rfl)) rfl ?_
    exact ⟨_,by first|rfl|(simp [errW_none,errW_some] <;> rfl)|(simp only [← hji9];first|rfl|(simp [errW_none,errW_some] <;> rfl))|(simp [*,errW_none,errW_some] <;> rfl),yV0 HO_382002,yhb⟩
 ·
  replace c7:=Bool.eq_false_iff.mpr c7
  subst c7
  rw [ynf] at H
  simp only [Option.some.injEq,Prod.mk.injEq] at H
  obtain ⟨rfl,rfl,rfl,rfl,rfl⟩:=H
  go_enter Try.func51,Try.ntmps51
  go_wp2_with (first|((with_reducible refine gate_dst (N:=4) rfl ?_);refine ybx 4 #[.int .u64 a0_0, .int .u32 a0_1, .slice A0_2 l0_2.length c0_2, .int .i64 a0_3] 82 ?_;intro gb381 hg w34 hbox hb;replace HO0_2:=yVe HO0_2 hg hb;have BK381:=zm (hbox);have GW381:=ygw hg;have GE381:=ygw hg;replace HB:=ybs hb;clear hb hbox hg)|((with_reducible refine gate_dst (N:=8) rfl ?_);refine ybx 8 #[.int .u64 0, .int .u32 0, .slice none 0 0, .int .i64 0] 82 ?_;intro gb382 hg w35 hbox hb;replace HO0_2:=yVe HO0_2 hg hb;have BK382:=zm (hbox);have GW382:=ygw hg;have GE382:=ygw hg;replace HB:=ybs hb;have NB381_382:=ynl BK381 hg;have NB382_381:=yng BK381 hg;replace BK381:=ybb BK381 hb;clear hb hbox hg;have:=NB381_382.out;have:=NB382_381.out;obtain ⟨_,_,_,_,_,_,_,_⟩:=yc4 BK381)|((with_reducible refine gate_callee (f:=86) rfl ?_);refine ygl 13 Try.func86 #[.agg #[.int .u64 a0_0, .int .u32 a0_1, .slice A0_2 l0_2.length c0_2, .int .i64 a0_3]] ?_;(with_reducible refine (coder_good.calls a0_0 a0_1 (fun k_=>(((P0_2_ k_∨w.heap.size≤k_)∧k_≠gb381)∧k_≠gb382)) _ _ l0_2 a0_3 t383 t384 t385 t388 _ HO0_2.out A5.out).mono ?_);rintro e w38 ⟨v386,rfl,ho0,hb⟩;refine ⟨_,rfl, ?_⟩;replace HO0_2:=yVb HO0_2 hb;have HO387:=yho (fun k_=>(P0_2_ k_∨w.heap.size≤k_)∧k_≠gb381∧k_≠gb382) ho0 (fun k_ hk_=>⟨Or.elim hk_ (fun hs_=>hs_.1.1) (fun hn_=>(.inr (Nat.le_trans (zE yhb) hn_))),yoB BK381 hk_,yoB BK382 hk_⟩);replace BK381:=ybb BK381 hb;replace BK382:=ybb BK382 hb;replace HB:=ybs hb;(try clear hb);(try clear ho0);obtain ⟨_,_,_,_,_,_,_,_⟩:=yc4 BK381;obtain ⟨Ao40,co40,eo40⟩:=Kd.V_slice HO387.out;subst eo40)|((with_reducible refine gate_store (t:=82) (p:=4) rfl ?_);refine store_event (t:=82) (p:=4) (v := ?vo_w41) (w1:=((((w38.setCell ⟨gb381,0,none⟩ (.int .u64 t383)).setCell ⟨gb381,1,none⟩ (.int .u32 t384)).setCell ⟨gb381,2,none⟩ (.slice Ao40 t385.length co40)).setCell ⟨gb381,3,none⟩ (.int .i64 t388))) ?hg ?ho ?hn ?hr ?_;(case ho=>rfl);(case hg=>rfl);(case hn=>rfl);(case hr=>first|(go_simp;done)|(go_simp;rfl));intro w41 hw;replace HO0_2 : Aside0 (Kd.V (Kd.int .u8) 5 w41 w.heap.size (fun k_=>(P0_2_ k_∨w.heap.size≤k_)∧k_≠gb381∧k_≠gb382) (.slice A0_2 l0_2.length c0_2) l0_2):=⟨(by rw [hw];exact (yV0 HO0_2))⟩;replace HO387 : Aside0 (Kd.V (Kd.int .u8) 5 w41 w.heap.size (fun k_=>(P0_2_ k_∨w.heap.size≤k_)∧k_≠gb381∧k_≠gb382) (.slice Ao40 t385.length co40) t385):=⟨(by rw [hw];exact (yV0 HO387))⟩;replace BK381 : Aside0 (w41.heap[gb381]? = some (.cells #[.int .u64 t383, .int .u32 t384, .slice Ao40 t385.length co40, .int .i64 t388] 82 (0,0))):=⟨(by rw [hw];exact (ykp BK381))⟩;replace BK382 : Aside0 (w41.heap[gb382]? = some (.cells #[.int .u64 0, .int .u32 0, .slice none 0 0, .int .i64 0] 82 (0,0))):=⟨(by rw [hw];exact (yk BK382))⟩;replace HB : Aside0 (Below w.heap.size w w41):=⟨(by rw [hw];exact yhb)⟩;clear hw)|((with_reducible refine gate_callee (f:=64) rfl ?_);refine ygl 17 Try.func64 #[.int .i64 a1, .int .i64 a2, .int .i64 a3] ?_;(with_reducible refine (coder_fair.calls a1 a2 a3 false _ A6.out).mono ?_);rintro e w' ⟨rfl,⟨nd,rfl⟩⟩;refine ⟨_,rfl, ?_⟩;(try (rw [drewN_self w41];generalize hq_ : World.drewN w41 _=w41;have n0_ : Aside0 (Kd.V (Kd.int .u8) 5 w41 w.heap.size (fun k_=>(P0_2_ k_∨w.heap.size≤k_)∧k_≠gb381∧k_≠gb382) (.slice A0_2 l0_2.length c0_2) l0_2):=⟨by rw [← hq_];exact (yr HO0_2)⟩;have n1_ : Aside0 (Kd.V (Kd.int .u8) 5 w41 w.heap.size (fun k_=>(P0_2_ k_∨w.heap.size≤k_)∧k_≠gb381∧k_≠gb382) (.slice Ao40 t385.length co40) t385):=⟨by rw [← hq_];exact (yr HO387)⟩;have n2_ : Aside0 (w41.heap[gb381]? = some (.cells #[.int .u64 t383, .int .u32 t384, .slice Ao40 t385.length co40, .int .i64 t388] 82 (0,0))):=⟨by rw [← hq_];exact (yk BK381)⟩;have n3_ : Aside0 (w41.heap[gb382]? = some (.cells #[.int .u64 0, .int .u32 0, .slice none 0 0, .int .i64 0] 82 (0,0))):=⟨by rw [← hq_];exact (yk BK382)⟩;have n4_ : Aside0 (Below w.heap.size w w41):=⟨by rw [← hq_];exact yhb⟩;clear HO0_2 HO387 BK381 BK382 HB hq_;have HO0_2:=n0_;have HO387:=n1_;have BK381:=n2_;have BK382:=n3_;have HB:=n4_;clear n0_ n1_ n2_ n3_ n4_));obtain ⟨_,_,_,_,_,_,_,_⟩:=yc4 BK381;obtain ⟨_,_,_,_,_,_,_,_⟩:=yc4 BK382))
  refine bodyPost_ret (results_ct rfl _ _ gb382 82 #[.int .u64 t383, .int .u32 t384, .slice Ao40 t385.length co40, .int .i64 t388] (0,0) _ rfl (ykp BK382) Try.underlying82 rfl (by kernel_rfl)) rfl ?_
  exact ⟨_,ye,yV0 HO387,yhb⟩
def coder_TakeNum.j0 : Nat→Int→Bool→Int→Int→List Int→Int→Option (Int × Int × List Int × Int × Int × Int)
 | 0,_,_,_,_,_,_=>none
 | k+1,x1,x21,x394000,x394001,x394002,x394003=>if x21=true then (some (x394000,x394001,x394002,x394003,0,1)) else ((coder_halves.f x1).bind fun bt401=>((coder_Get.f x394000 x394001 x394002 x394003 bt401.1).bind fun bt403=>((coder_Take.f k x394000 x394001 x394002 x394003 bt403.1 (wrap64 (bt403.1+1)) bt401.1).bind fun bt405=>(if bt401.2 > 1 then ((coder_Get.f bt405.1 bt405.2.1 bt405.2.2.1 bt405.2.2.2.1 bt401.2).bind fun bt412=>((coder_Take.f k bt405.1 bt405.2.1 bt405.2.2.1 bt405.2.2.2.1 bt412.1 (wrap64 (bt412.1+1)) bt401.2).bind fun bt414=>(some (bt414.1,bt414.2.1,bt414.2.2.1,bt414.2.2.2.1,mn (IntKind.u64.wrap ((IntKind.u64.wrap ((IntKind.u64.wrap (bt403.1)) * (IntKind.u64.wrap (bt401.2))))+(IntKind.u64.wrap (bt412.1)))) (IntKind.u64.wrap (x1 - 1)),0)))) else (some (bt405.1,bt405.2.1,bt405.2.2.1,bt405.2.2.2.1,mn (IntKind.u64.wrap (bt403.1)) (IntKind.u64.wrap (x1 - 1)),0))))))
def coder_TakeNum.f (k : Nat) (a0_0 : Int) (a0_1 : Int) (l0_2 : List Int) (a0_3 : Int) (a1 : Int) : Option (Int × Int × List Int × Int × Int × Int):=(coder_good.f a0_0 a0_1 l0_2 a0_3).bind fun bt395=>(if a1 < 1 then (coder_TakeNum.j0 k a1 true bt395.1 bt395.2.1 bt395.2.2.1 bt395.2.2.2) else (coder_TakeNum.j0 k a1 (decide (a1 > 4294967296)) bt395.1 bt395.2.1 bt395.2.2.1 bt395.2.2.2))
theorem coder_TakeNum.mono_l : ∀ k,(∀ y0 y1 y2 y3 y4 y5,LeO (coder_TakeNum.j0 k y0 y1 y2 y3 y4 y5) (coder_TakeNum.j0 (k+1) y0 y1 y2 y3 y4 y5))
 | 0=>fun _ _ _ _ _ _ r h=>by simp [coder_TakeNum.j0] at h
 | k+1=>by
  have ih0:=coder_TakeNum.mono_l k
  ·
   intro y0 y1 y2 y3 y4 y5
   unfold coder_TakeNum.j0
   repeat' with_reducible first|apply ih0|apply coder_Take.mono|apply yLr|apply yLn|apply yLi|apply yLb|intro _
theorem coder_TakeNum.mono : ∀ a0 a1 a2 a3 a4 k,LeO (coder_TakeNum.f k a0 a1 a2 a3 a4) (coder_TakeNum.f (k+1) a0 a1 a2 a3 a4):=by
 intro a0 a1 a2 a3 a4 k
 have ih0:=coder_TakeNum.mono_l k
 unfold coder_TakeNum.f
 repeat' with_reducible first|apply ih0|apply coder_Take.mono|apply yLr|apply yLn|apply yLi|apply yLb|intro _
set_option maxHeartbeats 8000000 in
set_option maxRecDepth 100000 in
theorem coder_TakeNum.calls (k : Nat) (a0_0 : Int) (a0_1 : Int) (P0_2_ : Nat→Prop) (A0_2 : Option Addr) (c0_2 : Nat) (l0_2 : List Int) (a0_3 : Int) (a1 : Int) (r1 : Int) (r2 : Int) (r3 : List Int) (r4 : Int) (r5 : Int) (r6 : Int) (w : World) (hs0_2 : Kd.V (Kd.int .u8) 5 w w.heap.size (fun k_=>P0_2_ k_) (.slice A0_2 l0_2.length c0_2) l0_2) (h : coder_TakeNum.f k a0_0 a0_1 l0_2 a0_3 a1=some (r1,r2,r3,r4,r5,r6)) :
  Calls Try.prog 53 #[.agg #[.int .u64 a0_0, .int .u32 a0_1, .slice A0_2 l0_2.length c0_2, .int .i64 a0_3], .int .u64 a1] w fun e w' => ∃ v2_ : Value,e=.returned (.tuple #[.agg #[.int .u64 r1, .int .u32 r2,v2_, .int .i64 r4], .int .u64 r5, .int .i64 r6])∧Kd.V (Kd.int .u8) 5 w' w.heap.size (fun k_=>(P0_2_ k_∨w.heap.size≤k_)) v2_ r3∧Below w.heap.size w w' := by
 have hu82:=Try.underlying82
 have HO0_2:=zm (show Kd.V (Kd.int .u8) 5 w w.heap.size (fun k_=>(P0_2_ k_∨w.heap.size≤k_)) (.slice A0_2 l0_2.length c0_2) l0_2 from zy hs0_2 (fun k_ hk => .inl hk))
 have HB:=zm (Below.refl w.heap.size w)
 have H : ((coder_good.f a0_0 a0_1 l0_2 a0_3).bind fun bt395=>(if a1 < 1 then (coder_TakeNum.j0 k a1 true bt395.1 bt395.2.1 bt395.2.2.1 bt395.2.2.2) else (coder_TakeNum.j0 k a1 (decide (a1 > 4294967296)) bt395.1 bt395.2.1 bt395.2.2.1 bt395.2.2.2)))=some (r1,r2,r3,r4,r5,r6):=h
 clear h
 obtain ⟨⟨t395,t396,t397,t400⟩,A3,H⟩:=ybi H
 try dsimp only at H
 have HC4:=zm H;clear H
 go_enter Try.func53,Try.ntmps53
 go_upto_region 2 with (first|((with_reducible refine gate_dst (N:=2) rfl ?_);refine ybx 2 #[.int .u64 a0_0, .int .u32 a0_1, .slice A0_2 l0_2.length c0_2, .int .i64 a0_3] 82 ?_;intro gb393 hg w5 hbox hb;replace HO0_2:=yVe HO0_2 hg hb;have BK393:=zm (hbox);have GW393:=ygw hg;have GE393:=ygw hg;replace HB:=ybs hb;clear hb hbox hg)|((with_reducible refine gate_dst (N:=4) rfl ?_);refine ybx 4 #[.int .u64 0, .int .u32 0, .slice none 0 0, .int .i64 0] 82 ?_;intro gb394 hg w6 hbox hb;replace HO0_2:=yVe HO0_2 hg hb;have BK394:=zm (hbox);have GW394:=ygw hg;have GE394:=ygw hg;replace HB:=ybs hb;have NB393_394:=ynl BK393 hg;have NB394_393:=yng BK393 hg;replace BK393:=ybb BK393 hb;clear hb hbox hg;have:=NB393_394.out;have:=NB394_393.out;obtain ⟨hcz8_0,hcz8_1,hcz8_2,hcz8_3,hfz8_0,hfz8_1,hfz8_2,hfz8_3⟩:=yc4 BK393)|((with_reducible refine gate_callee (f:=86) rfl ?_);refine ygl 15 Try.func86 #[.agg #[.int .u64 a0_0, .int .u32 a0_1, .slice A0_2 l0_2.length c0_2, .int .i64 a0_3]] ?_;(with_reducible refine (coder_good.calls a0_0 a0_1 (fun k_=>(((P0_2_ k_∨w.heap.size≤k_)∧k_≠gb393)∧k_≠gb394)) _ _ l0_2 a0_3 t395 t396 t397 t400 _ HO0_2.out A3.out).mono ?_);rintro e w9 ⟨v398,rfl,ho0,hb⟩;refine ⟨_,rfl, ?_⟩;replace HO0_2:=yVb HO0_2 hb;have HO399:=yho (fun k_=>(P0_2_ k_∨w.heap.size≤k_)∧k_≠gb393∧k_≠gb394) ho0 (fun k_ hk_=>⟨Or.elim hk_ (fun hs_=>hs_.1.1) (fun hn_=>(.inr (Nat.le_trans (zE yhb) hn_))),yoB BK393 hk_,yoB BK394 hk_⟩);replace BK393:=ybb BK393 hb;replace BK394:=ybb BK394 hb;replace HB:=ybs hb;(try clear hb);(try clear ho0);obtain ⟨hcz10_0,hcz10_1,hcz10_2,hcz10_3,hfz10_0,hfz10_1,hfz10_2,hfz10_3⟩:=yc4 BK393;obtain ⟨Ao11,co11,eo11⟩:=Kd.V_slice HO399.out;subst eo11))
 (try simp only [Act.put,List.setIfInBounds_toArray,List.set_cons_zero,List.set_cons_succ])
 go_cut [21] (fun v21 wc => ∃ (kq : Nat) (x21_3 : Bool),v21=.bool x21_3∧Aside0 (coder_TakeNum.j0 kq a1 x21_3 t395 t396 t397 t400=some (r1,r2,r3,r4,r5,r6))∧Aside0 (kq≤k)∧Aside0 (Kd.V (Kd.int .u8) 5 wc w.heap.size (fun k_=>(P0_2_ k_∨w.heap.size≤k_)∧k_≠gb393∧k_≠gb394) (.slice Ao11 t397.length co11) t397)∧Aside0 (wc.heap[gb393]? = some (.cells #[.int .u64 t395, .int .u32 t396,(.slice Ao11 t397.length co11), .int .i64 t400] 82 (0,0)))∧Aside0 (wc.heap[gb394]? = some (.cells #[.int .u64 0, .int .u32 0,(.slice none 0 0), .int .i64 0] 82 (0,0)))∧Aside0 (Below w.heap.size w wc))
 case first =>
  have H:=HC4.out;clear HC4
  by_cases c12 : a1 < 1
  ·
   rw [if_pos c12] at H
   have c12b0 : decide (a1 < 1)=true:=decide_eq_true c12
   clear c12
   (first|rw [c12b0]|(simp only [i64_w,i32_w];rw [c12b0])|skip)
   have H' := zm H
   clear H
   go_wp2
   go_meet
   case rel=>exact ⟨_,(true),yq,H',⟨yo⟩,⟨yV0 HO399⟩,⟨ykp BK393⟩,⟨yk BK394⟩,⟨yhb⟩⟩
  ·
   rw [if_neg c12] at H
   have c12b0 : decide (a1 < 1)=false:=decide_eq_false c12
   clear c12
   (first|rw [c12b0]|(simp only [i64_w,i32_w];rw [c12b0])|skip)
   have H' := zm H
   clear H
   go_wp2
   go_meet
   case rel=>exact ⟨_,(decide (a1 > 4294967296)),yq,H',⟨yo⟩,⟨yV0 HO399⟩,⟨ykp BK393⟩,⟨yk BK394⟩,⟨yhb⟩⟩
 case rest =>
  clear HC4
  try clear hcz10_0
  try clear hcz10_1
  try clear hcz10_2
  try clear hcz10_3
  try clear hcz8_0
  try clear hcz8_1
  try clear hcz8_2
  try clear hcz8_3
  try clear hfz10_0
  try clear hfz10_1
  try clear hfz10_2
  try clear hfz10_3
  try clear hfz8_0
  try clear hfz8_1
  try clear hfz8_2
  try clear hfz8_3
  obtain ⟨kq,x21_3,rfl,HA,HJ3,HO_394002,BK393,BK394,HB⟩:=hcut
  obtain ⟨kj3,rfl⟩:=ysu kq (fun h=>by subst h;exact absurd HA.out (by simp [coder_TakeNum.j0]))
  have H:=HA.out;clear HA
  simp only [coder_TakeNum.j0] at H
  by_cases c13 : x21_3=true
  ·
   subst c13
   rw [if_pos rfl] at H
   simp only [Option.some.injEq,Prod.mk.injEq] at H
   obtain ⟨rfl,rfl,rfl,rfl,rfl,rfl⟩:=H
   have:=NB393_394.out
   have:=NB394_393.out
   obtain ⟨_,_,_,_,_,_,_,_⟩:=yc4 BK393
   obtain ⟨_,_,_,_,_,_,_,_⟩:=yc4 BK394
   go_wp2
   refine bodyPost_ret (results_ctt rfl _ _ gb394 82 #[.int .u64 t395, .int .u32 t396, .slice Ao11 t397.length co11, .int .i64 t400] (0,0) _ rfl (ykp BK394) Try.underlying82 rfl (by kernel_rfl)) rfl ?_
   exact ⟨_,ye,yV0 HO_394002,yhb⟩
  ·
   replace c13:=Bool.eq_false_iff.mpr c13
   subst c13
   rw [ynf] at H
   obtain ⟨⟨t401,t402⟩,A17,H⟩:=ybi H
   try dsimp only at H
   obtain ⟨⟨t403,t404⟩,A18,H⟩:=ybi H
   try dsimp only at H
   obtain ⟨⟨t405,t406,t407,t410,t411⟩,A19,H⟩:=ybi H
   try dsimp only at H
   by_cases c20 : t402 > 1
   ·
    rw [if_pos c20] at H
    have c20b0 : decide (1 < t402)=true:=decide_eq_true c20
    clear c20
    obtain ⟨⟨t412,t413⟩,A21,H⟩:=ybi H
    try dsimp only at H
    obtain ⟨⟨t414,t415,t416,t419,t420⟩,A22,H⟩:=ybi H
    try dsimp only at H
    obtain ⟨ji23,hji23⟩ : ∃ j_ : Int,(mn (IntKind.u64.wrap ((IntKind.u64.wrap ((IntKind.u64.wrap (t403)) * (IntKind.u64.wrap (t402))))+(IntKind.u64.wrap (t412)))) (IntKind.u64.wrap (a1 - 1)))=j_:=⟨_,rfl⟩
    replace H : (some (t414,t415,t416,t419,ji23,0))=some (r1,r2,r3,r4,r5,r6):=by first|(rw [hji23] at H;exact H)|(simp only [hji23] at H ⊢; exact H)
    (try rw [hji23] at A17)
    (try rw [hji23] at A18)
    (try rw [hji23] at A19)
    (try rw [hji23] at A21)
    (try rw [hji23] at A22)
    have hji23_ : (if (IntKind.u64.wrap (a1 - 1)) < (IntKind.u64.wrap ((IntKind.u64.wrap ((IntKind.u64.wrap (t403)) * (IntKind.u64.wrap (t402))))+(IntKind.u64.wrap (t412)))) then (IntKind.u64.wrap (a1 - 1)) else (IntKind.u64.wrap ((IntKind.u64.wrap ((IntKind.u64.wrap (t403)) * (IntKind.u64.wrap (t402))))+(IntKind.u64.wrap (t412)))))=ji23:=hji23
    simp only [Option.some.injEq,Prod.mk.injEq] at H
    obtain ⟨rfl,rfl,rfl,rfl,rfl,rfl⟩:=H
    go_wp2_with (first|((with_reducible refine gate_callee (f:=76) rfl ?_);refine ygl 25 Try.func76 #[.int .u64 a1] ?_;(with_reducible refine (coder_halves.calls a1 t401 t402 _ A17.out).mono ?_);rintro e w' ⟨rfl,⟨nd,rfl⟩⟩;refine ⟨_,rfl, ?_⟩;(try (rw [drewN_self wc];generalize hq_ : World.drewN wc _=wc;have n0_ : Aside0 (Kd.V (Kd.int .u8) 5 wc w.heap.size (fun k_=>(P0_2_ k_∨w.heap.size≤k_)∧k_≠gb393∧k_≠gb394) (.slice Ao11 t397.length co11) t397):=⟨by rw [← hq_];exact (yr HO_394002)⟩;have n1_ : Aside0 (wc.heap[gb393]? = some (.cells #[.int .u64 t395, .int .u32 t396, .slice Ao11 t397.length co11, .int .i64 t400] 82 (0,0))):=⟨by rw [← hq_];exact (yk BK393)⟩;have n2_ : Aside0 (wc.heap[gb394]? = some (.cells #[.int .u64 0, .int .u32 0, .slice none 0 0, .int .i64 0] 82 (0,0))):=⟨by rw [← hq_];exact (yk BK394)⟩;have n3_ : Aside0 (Below w.heap.size w wc):=⟨by rw [← hq_];exact yhb⟩;clear HO_394002 BK393 BK394 HB hq_;have HO_394002:=n0_;have BK393:=n1_;have BK394:=n2_;have HB:=n3_;clear n0_ n1_ n2_ n3_));have:=NB393_394.out;have:=NB394_393.out;obtain ⟨_,_,_,_,_,_,_,_⟩:=yc4 BK393)|((with_reducible refine gate_callee (f:=50) rfl ?_);refine ygl 31 Try.func50 #[.agg #[.int .u64 t395, .int .u32 t396, .slice Ao11 t397.length co11, .int .i64 t400], .int .i64 t401] ?_;(with_reducible refine (coder_Get.calls t395 t396 _ _ t397 t400 t401 t403 t404 _ ?side1 ?side2 A18.out).mono ?_);(case side1=>exact yce (Kd.V_reads' HO_394002.out).2.2);(case side2=>exact (Kd.V_reads' HO_394002.out).2.1);rintro e w26 ⟨rfl,hb⟩;refine ⟨_,rfl, ?_⟩;replace HO_394002:=yVb HO_394002 hb;replace BK393:=ybb BK393 hb;replace BK394:=ybb BK394 hb;replace HB:=ybs hb;(try clear hb);obtain ⟨_,_,_,_,_,_,_,_⟩:=yc4 BK393)|((with_reducible refine gate_callee (f:=51) rfl ?_);refine ygl 40 Try.func51 #[.agg #[.int .u64 t395, .int .u32 t396, .slice Ao11 t397.length co11, .int .i64 t400], .int .i64 t403, .int .i64 (wrap64 (t403+1)), .int .i64 t401] ?_;(with_reducible refine (coder_Take.calls kj3 t395 t396 (fun k_=>((P0_2_ k_∨w.heap.size≤k_)∧(k_≠gb393∧k_≠gb394))) _ _ t397 t400 t403 (wrap64 (t403+1)) t401 t405 t406 t407 t410 t411 _ HO_394002.out A19.out).mono ?_);rintro e w28 ⟨v408,rfl,ho0,hb⟩;refine ⟨_,rfl, ?_⟩;replace HO_394002:=yVb HO_394002 hb;have HO409:=yho (fun k_=>(P0_2_ k_∨w.heap.size≤k_)∧k_≠gb393∧k_≠gb394) ho0 (fun k_ hk_=>⟨Or.elim hk_ (fun hs_=>hs_.1) (fun hn_=>(.inr (Nat.le_trans (zE yhb) hn_))),yoB BK393 hk_,yoB BK394 hk_⟩);replace BK393:=ybb BK393 hb;replace BK394:=ybb BK394 hb;replace HB:=ybs hb;(try clear hb);(try clear ho0);obtain ⟨_,_,_,_,_,_,_,_⟩:=yc4 BK393;obtain ⟨Ao30,co30,eo30⟩:=Kd.V_slice HO409.out;subst eo30)|((with_reducible refine gate_callee (f:=50) rfl ?_);refine ygl 50 Try.func50 #[.agg #[.int .u64 t405, .int .u32 t406, .slice Ao30 t407.length co30, .int .i64 t410], .int .i64 t402] ?_;(with_reducible refine (coder_Get.calls t405 t406 _ _ t407 t410 t402 t412 t413 _ ?side1 ?side2 A21.out).mono ?_);(case side1=>refine (Kd.V_reads' (e:=5) (base:=w.heap.size) (ok:=fun k_=>((P0_2_ k_∨w.heap.size≤k_)∧(k_≠gb393∧k_≠gb394))) (n:=t407.length) (c:=co30) ?_).2.2;exact (yV0 HO409));(case side2=>exact (Kd.V_reads' HO409.out).2.1);rintro e w31 ⟨rfl,hb⟩;refine ⟨_,rfl, ?_⟩;replace HO_394002:=zm (Kd.V_below (yV0 HO_394002) hb);replace HO409:=zm (Kd.V_below (yV0 HO409) hb);replace BK393:=zm (zF (g:=gb393) (o:=.cells #[.int .u64 t405, .int .u32 t406, .slice Ao30 t407.length co30, .int .i64 t410] 82 (0,0)) (ykp BK393) hb);replace BK394:=ybb BK394 hb;replace HB:=ybs hb;(try clear hb);obtain ⟨_,_,_,_,_,_,_,_⟩:=yc4 BK393)|((with_reducible refine gate_callee (f:=51) rfl ?_);refine ygl 59 Try.func51 #[.agg #[.int .u64 t405, .int .u32 t406, .slice Ao30 t407.length co30, .int .i64 t410], .int .i64 t412, .int .i64 (wrap64 (t412+1)), .int .i64 t402] ?_;(with_reducible refine (coder_Take.calls kj3 t405 t406 (fun k_=>((P0_2_ k_∨w.heap.size≤k_)∧(k_≠gb393∧k_≠gb394))) _ _ t407 t410 t412 (wrap64 (t412+1)) t402 t414 t415 t416 t419 t420 _ HO409.out A22.out).mono ?_);rintro e w33 ⟨v417,rfl,ho0,hb⟩;refine ⟨_,rfl, ?_⟩;replace HO_394002:=yVb HO_394002 hb;replace HO409:=yVb HO409 hb;have HO418:=yho (fun k_=>(P0_2_ k_∨w.heap.size≤k_)∧k_≠gb393∧k_≠gb394) ho0 (fun k_ hk_=>⟨Or.elim hk_ (fun hs_=>hs_.1) (fun hn_=>(.inr (Nat.le_trans (zE yhb) hn_))),yoB BK393 hk_,yoB BK394 hk_⟩);replace BK393:=ybb BK393 hb;replace BK394:=ybb BK394 hb;replace HB:=ybs hb;(try clear hb);(try clear ho0);obtain ⟨_,_,_,_,_,_,_,_⟩:=yc4 BK393;obtain ⟨Ao35,co35,eo35⟩:=Kd.V_slice HO418.out;subst eo35;obtain ⟨_,_,_,_,_,_,_,_⟩:=yc4 BK394))
    refine bodyPost_ret (results_ctt rfl _ _ gb394 82 #[.int .u64 t414, .int .u32 t415, .slice Ao35 t416.length co35, .int .i64 t419] (0,0) _ rfl (ykp BK394) Try.underlying82 rfl (by kernel_rfl)) rfl ?_
    exact ⟨_,by first|rfl|(simp [errW_none,errW_some] <;> rfl)|(simp only [← hji23];first|rfl|(simp [errW_none,errW_some] <;> rfl))|(simp [*,errW_none,errW_some] <;> rfl),yV0 HO418,yhb⟩
   ·
    rw [if_neg c20] at H
    have c20b0 : decide (1 < t402)=false:=decide_eq_false c20
    clear c20
    obtain ⟨ji37,hji37⟩ : ∃ j_ : Int,(mn (IntKind.u64.wrap (t403)) (IntKind.u64.wrap (a1 - 1)))=j_:=⟨_,rfl⟩
    replace H : (some (t405,t406,t407,t410,ji37,0))=some (r1,r2,r3,r4,r5,r6):=by first|(rw [hji37] at H;exact H)|(simp only [hji37] at H ⊢; exact H)
    (try rw [hji37] at A17)
    (try rw [hji37] at A18)
    (try rw [hji37] at A19)
    have hji37_ : (if (IntKind.u64.wrap (a1 - 1)) < (IntKind.u64.wrap (t403)) then (IntKind.u64.wrap (a1 - 1)) else (IntKind.u64.wrap (t403)))=ji37:=hji37
    simp only [Option.some.injEq,Prod.mk.injEq] at H
    obtain ⟨rfl,rfl,rfl,rfl,rfl,rfl⟩:=H
    go_wp2_with (first|((with_reducible refine gate_callee (f:=76) rfl ?_);refine ygl 25 Try.func76 #[.int .u64 a1] ?_;(with_reducible refine (coder_halves.calls a1 t401 t402 _ A17.out).mono ?_);rintro e w' ⟨rfl,⟨nd,rfl⟩⟩;refine ⟨_,rfl, ?_⟩;(try (rw [drewN_self wc];generalize hq_ : World.drewN wc _=wc;have n0_ : Aside0 (Kd.V (Kd.int .u8) 5 wc w.heap.size (fun k_=>(P0_2_ k_∨w.heap.size≤k_)∧k_≠gb393∧k_≠gb394) (.slice Ao11 t397.length co11) t397):=⟨by rw [← hq_];exact (yr HO_394002)⟩;have n1_ : Aside0 (wc.heap[gb393]? = some (.cells #[.int .u64 t395, .int .u32 t396, .slice Ao11 t397.length co11, .int .i64 t400] 82 (0,0))):=⟨by rw [← hq_];exact (yk BK393)⟩;have n2_ : Aside0 (wc.heap[gb394]? = some (.cells #[.int .u64 0, .int .u32 0, .slice none 0 0, .int .i64 0] 82 (0,0))):=⟨by rw [← hq_];exact (yk BK394)⟩;have n3_ : Aside0 (Below w.heap.size w wc):=⟨by rw [← hq_];exact yhb⟩;clear HO_394002 BK393 BK394 HB hq_;have HO_394002:=n0_;have BK393:=n1_;have BK394:=n2_;have HB:=n3_;clear n0_ n1_ n2_ n3_));have:=NB393_394.out;have:=NB394_393.out;obtain ⟨_,_,_,_,_,_,_,_⟩:=yc4 BK393)|((with_reducible refine gate_callee (f:=50) rfl ?_);refine ygl 31 Try.func50 #[.agg #[.int .u64 t395, .int .u32 t396, .slice Ao11 t397.length co11, .int .i64 t400], .int .i64 t401] ?_;(with_reducible refine (coder_Get.calls t395 t396 _ _ t397 t400 t401 t403 t404 _ ?side1 ?side2 A18.out).mono ?_);(case side1=>exact yce (Kd.V_reads' HO_394002.out).2.2);(case side2=>exact (Kd.V_reads' HO_394002.out).2.1);rintro e w40 ⟨rfl,hb⟩;refine ⟨_,rfl, ?_⟩;replace HO_394002:=yVb HO_394002 hb;replace BK393:=ybb BK393 hb;replace BK394:=ybb BK394 hb;replace HB:=ybs hb;(try clear hb);obtain ⟨_,_,_,_,_,_,_,_⟩:=yc4 BK393)|((with_reducible refine gate_callee (f:=51) rfl ?_);refine ygl 40 Try.func51 #[.agg #[.int .u64 t395, .int .u32 t396, .slice Ao11 t397.length co11, .int .i64 t400], .int .i64 t403, .int .i64 (wrap64 (t403+1)), .int .i64 t401] ?_;(with_reducible refine (coder_Take.calls kj3 t395 t396 (fun k_=>((P0_2_ k_∨w.heap.size≤k_)∧(k_≠gb393∧k_≠gb394))) _ _ t397 t400 t403 (wrap64 (t403+1)) t401 t405 t406 t407 t410 t411 _ HO_394002.out A19.out).mono ?_);rintro e w42 ⟨v408,rfl,ho0,hb⟩;refine ⟨_,rfl, ?_⟩;replace HO_394002:=yVb HO_394002 hb;have HO409:=yho (fun k_=>(P0_2_ k_∨w.heap.size≤k_)∧k_≠gb393∧k_≠gb394) ho0 (fun k_ hk_=>⟨Or.elim hk_ (fun hs_=>hs_.1) (fun hn_=>(.inr (Nat.le_trans (zE yhb) hn_))),yoB BK393 hk_,yoB BK394 hk_⟩);replace BK393:=ybb BK393 hb;replace BK394:=ybb BK394 hb;replace HB:=ybs hb;(try clear hb);(try clear ho0);obtain ⟨_,_,_,_,_,_,_,_⟩:=yc4 BK393;obtain ⟨Ao44,co44,eo44⟩:=Kd.V_slice HO409.out;subst eo44;obtain ⟨_,_,_,_,_,_,_,_⟩:=yc4 BK394))
    refine bodyPost_ret (results_ctt rfl _ _ gb394 82 #[.int .u64 t405, .int .u32 t406, .slice Ao44 t407.length co44, .int .i64 t410] (0,0) _ rfl (ykp BK394) Try.underlying82 rfl (by kernel_rfl)) rfl ?_
    exact ⟨_,by first|rfl|(simp [errW_none,errW_some] <;> rfl)|(simp only [← hji37];first|rfl|(simp [errW_none,errW_some] <;> rfl))|(simp [*,errW_none,errW_some] <;> rfl),yV0 HO409,yhb⟩
mutual
def comb_Vector.l0 : Nat→Int→Int→Int→List Int→Option (List Int × Int)
 | 0,_,_,_,_=>none
 | k+1,x0,x1,x2,x9=>if x0 > 0 then ((comb_table.f (wrap64 (x0 - 1)) x1).bind fun t488=>(if x2 ≥ t488 then ((comb_table.f (wrap64 (x0 - 1)) (wrap64 (x1 - 1))).bind fun t489=>(comb_Vector.l1 k x0 x1 (IntKind.u64.wrap (x2 - t488)) x9 1 t489)) else (if x9.length < 17592186044416 then (comb_Vector.l0 k (wrap64 (x0 - 1)) x1 x2 (x9 ++ [0])) else (none)))) else (some (x9,0))
def comb_Vector.l1 : Nat→Int→Int→Int→List Int→Int→Int→Option (List Int × Int)
 | 0,_,_,_,_,_,_=>none
 | k+1,x0,x1,x2,x9,x10,x12=>if x2 ≥ (IntKind.u64.wrap (2 * x12)) then ((comb_table.f (wrap64 (x0 - 1)) (wrap64 (x1 - (wrap64 (x10+1))))).bind fun t490=>(comb_Vector.l1 k x0 x1 (IntKind.u64.wrap (x2 - (IntKind.u64.wrap (2 * x12)))) x9 (wrap64 (x10+1)) t490)) else ((comb_table.f (wrap64 (x0 - 1)) (wrap64 (x1 - x10))).bind fun t491=>(if x2 ≥ t491 then (if x9.length < 17592186044416 then (comb_Vector.l0 k (wrap64 (x0 - 1)) (wrap64 (x1 - x10)) (IntKind.u64.wrap (x2 - t491)) (x9 ++ [wrap64 (-x10)])) else (none)) else (if x9.length < 17592186044416 then (comb_Vector.l0 k (wrap64 (x0 - 1)) (wrap64 (x1 - x10)) x2 (x9 ++ [x10])) else (none))))
end
def comb_Vector.f (k : Nat) (a0 : Int) (a1 : Int) (a2 : Int) : Option (List Int × Int):=(comb_fair.f a0 a1).bind fun t483=>(if t483=true then ((comb_table.f a0 a1).bind fun t487=>(if a2 ≥ t487 then (some (([] : List Int),5)) else (comb_Vector.l0 k a0 a1 a2 ([] : List Int)))) else (some (([] : List Int),1)))
theorem comb_Vector.mono_l : ∀ k,(∀ y0 y1 y2 y3,LeO (comb_Vector.l0 k y0 y1 y2 y3) (comb_Vector.l0 (k+1) y0 y1 y2 y3))∧(∀ y0 y1 y2 y3 y4 y5,LeO (comb_Vector.l1 k y0 y1 y2 y3 y4 y5) (comb_Vector.l1 (k+1) y0 y1 y2 y3 y4 y5))
 | 0=>⟨fun _ _ _ _ r h=>by simp [comb_Vector.l0] at h,fun _ _ _ _ _ _ r h=>by simp [comb_Vector.l1] at h⟩
 | k+1=>by
  obtain ⟨ih0,ih1⟩:=comb_Vector.mono_l k
  refine ⟨?_, ?_⟩
  ·
   intro y0 y1 y2 y3
   unfold comb_Vector.l0
   repeat' with_reducible first|apply ih0|apply ih1|apply yLr|apply yLn|apply yLi|apply yLb|intro _
  ·
   intro y0 y1 y2 y3 y4 y5
   unfold comb_Vector.l1
   repeat' with_reducible first|apply ih0|apply ih1|apply yLr|apply yLn|apply yLi|apply yLb|intro _
theorem comb_Vector.mono : ∀ a0 a1 a2 k,LeO (comb_Vector.f k a0 a1 a2) (comb_Vector.f (k+1) a0 a1 a2):=by
 intro a0 a1 a2 k
 obtain ⟨ih0,ih1⟩:=comb_Vector.mono_l k
 unfold comb_Vector.f
 repeat' with_reducible first|apply ih0|apply ih1|apply yLr|apply yLn|apply yLi|apply yLb|intro _
set_option maxHeartbeats 8000000 in
set_option maxRecDepth 100000 in
theorem comb_Vector.calls (k : Nat) (a0 : Int) (a1 : Int) (a2 : Int) (r1 : List Int) (r2 : Int) (w : World) (h : comb_Vector.f k a0 a1 a2=some (r1,r2)) :
  Calls Try.prog 54 #[.int .i64 a0, .int .i64 a1, .int .u64 a2] w fun e w' => ∃ v0_ : Value,e=.returned (.tuple #[v0_, .int .i64 r2])∧Kd.R (Kd.int .i64) 3 w' w.heap.size (fun _=>True) v0_ r1∧Below w.heap.size w w' := by
 have HB:=zm (Below.refl w.heap.size w)
 have H : ((comb_fair.f a0 a1).bind fun t483=>(if t483=true then ((comb_table.f a0 a1).bind fun t487=>(if a2 ≥ t487 then (some (([] : List Int),5)) else (comb_Vector.l0 k a0 a1 a2 ([] : List Int)))) else (some (([] : List Int),1))))=some (r1,r2):=h
 clear h
 obtain ⟨t483,A4,H⟩:=ybi H
 by_cases c5 : t483=true
 ·
  subst c5
  rw [if_pos rfl] at H
  obtain ⟨y484,hy484⟩ : ∃ y_ : List Int,y_=(([0] : List Int)):=⟨_,rfl⟩
  replace H : ((comb_table.f a0 a1).bind fun t487=>(if a2 ≥ t487 then (some (([] : List Int),5)) else (comb_Vector.l0 k a0 a1 a2 ([] : List Int))))=some (r1,r2):=yrw hy484 H
  have Ny484:=zm hy484;clear hy484
  obtain ⟨t487,A6,H⟩:=ybi H
  by_cases c7 : a2 ≥ t487
  ·
   rw [if_pos c7] at H
   have c7b0 : decide (t487≤a2)=true:=decide_eq_true c7
   clear c7
   simp only [Option.some.injEq,Prod.mk.injEq] at H
   obtain ⟨rfl,rfl⟩:=H
   go_enter Try.func54,Try.ntmps54
   obtain ⟨Z,hz,HZs⟩:=comb_table.zsize
   obtain ⟨ia0,ib0,ic0,id0⟩:=comb_table.inn A6.out
   go_wp2_with (first|((with_reducible refine gate_callee (f:=71) rfl ?_);refine ygl 16 Try.func71 #[.int .i64 a0, .int .i64 a1] ?_;(with_reducible refine (comb_fair.calls a0 a1 true _ A4.out).mono ?_);rintro e w' ⟨rfl,⟨nd,rfl⟩⟩;refine ⟨_,rfl, ?_⟩)|((with_reducible refine gate_callee (f:=72) rfl ?_);refine goesL_ (some 18) rfl rfl Try.func72 (by kernel_rfl) rfl #[] rfl (by first|rfl|simp) ?_;(with_reducible refine (comb_table.made _).mono ?_);rintro e w5 ⟨rfl,hb5⟩;refine ⟨_,rfl, ?_⟩;have hst:=run_storeCells_new (P:=Try.prog) w5 118 Z (ABl (comb_table.T 16)) comb_table.size16 HZs.out (ABl_one _);have n1_:=zm (ze (zJ yhb hb5) (.cells (ABl (comb_table.T 16)) 118));clear HB;have HB:=n1_;clear n1_;have hbn:=zm (blk_new w5 (.cells (ABl (comb_table.T 16)) 118));have hcl0:=comb_table.look hbn.out A6.out))
   go_ret2
   exact ⟨_,ye,yn,yhb⟩
  ·
   rw [if_neg c7] at H
   have c7b0 : decide (t487≤a2)=false:=decide_eq_false c7
   clear c7
   have H' := zm H
   clear H
   go_enter Try.func54,Try.ntmps54
   obtain ⟨Z,hz,HZs⟩:=comb_table.zsize
   obtain ⟨ia0,ib0,ic0,id0⟩:=comb_table.inn A6.out
   go_wp2_with (first|((with_reducible refine gate_callee (f:=71) rfl ?_);refine ygl 16 Try.func71 #[.int .i64 a0, .int .i64 a1] ?_;(with_reducible refine (comb_fair.calls a0 a1 true _ A4.out).mono ?_);rintro e w' ⟨rfl,⟨nd,rfl⟩⟩;refine ⟨_,rfl, ?_⟩)|((with_reducible refine gate_callee (f:=72) rfl ?_);refine goesL_ (some 18) rfl rfl Try.func72 (by kernel_rfl) rfl #[] rfl (by first|rfl|simp) ?_;(with_reducible refine (comb_table.made _).mono ?_);rintro e w5 ⟨rfl,hb5⟩;refine ⟨_,rfl, ?_⟩;have hst:=run_storeCells_new (P:=Try.prog) w5 118 Z (ABl (comb_table.T 16)) comb_table.size16 HZs.out (ABl_one _);have n1_:=zm (ze (zJ yhb hb5) (.cells (ABl (comb_table.T 16)) 118));clear HB;have HB:=n1_;clear n1_;have hbn:=zm (blk_new w5 (.cells (ABl (comb_table.T 16)) 118));have hcl0:=comb_table.look hbn.out A6.out))
   have hb0:=HB.out
   obtain ⟨W0,hW0⟩ : ∃ W0,W0=w5.alloc (.cells (ABl (comb_table.T 16)) 118):=⟨_,rfl⟩
   rw [← hW0] at hb0 hbn
   rw [← hW0]
   clear hW0 HB hst hz HZs;clear hcl0
   generalize w5.heap.size=B at hbn ⊢
   have HB:=zm (Below.refl W0.heap.size W0)
   go_loopg [0,1,2,9] k (fun kq v0 v1 v2 v9 w' => ∃ (x0_1 : Int) (x1_1 : Int) (x2_1 : Int) (x9_1 : List Int),v0=.int .i64 x0_1∧v1=.int .i64 x1_1∧v2=.int .u64 x2_1∧Aside0 (comb_Vector.l0 kq x0_1 x1_1 x2_1 x9_1=some (r1,r2))∧Aside0 (kq≤k)∧Aside0 (Kd.R (Kd.int .i64) 3 w' W0.heap.size (fun _=>True) v9 x9_1)∧Aside0 (Below W0.heap.size W0 w'))
   case atStart=>exact ⟨(a0),(a1),(a2),(([] : List Int)),yq,yq,yq,H',⟨Nat.le_refl _⟩,⟨yn⟩,⟨yhb⟩⟩
   case round =>
    clear H'
    try clear c7b0
    obtain ⟨x0_1,x1_1,x2_1,x9_1,rfl,rfl,rfl,HA,HK1,HO_9,HB⟩:=hrel
    obtain ⟨k1,rfl⟩:=ysu gk (fun h=>by subst h;exact absurd HA.out (by simp [comb_Vector.l0]))
    have H:=HA.out;clear HA
    simp only [comb_Vector.l0] at H
    by_cases c12 : x0_1 > 0
    ·
     rw [if_pos c12] at H
     have c12b0 : decide (0 < x0_1)=true:=decide_eq_true c12
     clear c12
     obtain ⟨t488,A13,H⟩:=ybi H
     by_cases c14 : x2_1 ≥ t488
     ·
      rw [if_pos c14] at H
      have c14b0 : decide (t488≤x2_1)=true:=decide_eq_true c14
      clear c14
      obtain ⟨t489,A15,H⟩:=ybi H
      have H' := zm H
      clear H
      obtain ⟨ia0,ib0,ic0,id0⟩:=comb_table.inn A13.out
      have hcl0:=(HB.out.cell (zb W0 _ (comb_table.look hbn.out A13.out))).trans (comb_table.look hbn.out A13.out)
      obtain ⟨ia1,ib1,ic1,id1⟩:=comb_table.inn A15.out
      have hcl1:=(HB.out.cell (zb W0 _ (comb_table.look hbn.out A15.out))).trans (comb_table.look hbn.out A15.out)
      go_wp2
      go_loopg [2,10,12] k1 (fun kq v2 v10 v12 w' => ∃ (x2_2 : Int) (x10_2 : Int) (x12_2 : Int),v2=.int .u64 x2_2∧v10=.int .i64 x10_2∧v12=.int .u64 x12_2∧Aside0 (comb_Vector.l1 kq x0_1 x1_1 x2_2 x9_1 x10_2 x12_2=some (r1,r2))∧Aside0 (kq≤k1)∧Aside0 (Kd.R (Kd.int .i64) 3 w' W0.heap.size (fun _=>True) u9 x9_1)∧Aside0 (Below W0.heap.size W0 w'))
      case atStart=>exact ⟨(IntKind.u64.wrap (x2_1 - t488)),(1),(t489),yq,yq,yq,H',⟨Nat.le_refl _⟩,⟨yr HO_9⟩,⟨yhb⟩⟩
      case round =>
       clear H'
       try clear c12b0
       try clear c14b0
       obtain ⟨x2_2,x10_2,x12_2,rfl,rfl,rfl,HA,HK2,HO_9,HB⟩:=hrel
       obtain ⟨k2,rfl⟩:=ysu gk (fun h=>by subst h;exact absurd HA.out (by simp [comb_Vector.l1]))
       have H:=HA.out;clear HA
       simp only [comb_Vector.l1] at H
       by_cases c16 : x2_2 ≥ (IntKind.u64.wrap (2 * x12_2))
       ·
        rw [if_pos c16] at H
        have c16b0 : decide ((IntKind.u64.wrap (2 * x12_2))≤x2_2)=true:=decide_eq_true c16
        clear c16
        obtain ⟨t490,A17,H⟩:=ybi H
        have H' := zm H
        clear H
        obtain ⟨ia2,ib2,ic2,id2⟩:=comb_table.inn A17.out
        have hcl2:=(HB.out.cell (zb W0 _ (comb_table.look hbn.out A17.out))).trans (comb_table.look hbn.out A17.out)
        go_wp2
        go_roundg k2
        case measure=>exact yom2 HK1 HK2
        case rel=>exact ⟨(IntKind.u64.wrap (x2_2 - (IntKind.u64.wrap (2 * x12_2)))),(wrap64 (x10_2+1)),(t490),yq,yq,yq,H',⟨yom2 HK1 HK2⟩,⟨yr HO_9⟩,⟨yhb⟩⟩
       ·
        rw [if_neg c16] at H
        have c16b0 : decide ((IntKind.u64.wrap (2 * x12_2))≤x2_2)=false:=decide_eq_false c16
        clear c16
        obtain ⟨t491,A18,H⟩:=ybi H
        by_cases c19 : x2_2 ≥ t491
        ·
         rw [if_pos c19] at H
         have c19b0 : decide (t491≤x2_2)=true:=decide_eq_true c19
         clear c19
         obtain ⟨c20,H⟩:=yif H
         have LMc20:=zm c20;clear c20
         obtain ⟨y492,hy492⟩ : ∃ y_ : List Int,y_=(x9_1 ++ [wrap64 (-x10_2)]):=⟨_,rfl⟩
         replace H : (comb_Vector.l0 k2 (wrap64 (x0_1 - 1)) (wrap64 (x1_1 - x10_2)) (IntKind.u64.wrap (x2_2 - t491)) y492)=some (r1,r2):=yrw hy492 H
         have Ny492:=zm hy492;clear hy492
         have H' := zm H
         clear H
         obtain ⟨ia3,ib3,ic3,id3⟩:=comb_table.inn A18.out
         have hcl3:=(HB.out.cell (zb W0 _ (comb_table.look hbn.out A18.out))).trans (comb_table.look hbn.out A18.out)
         go_wp2_with (first|((with_reducible refine gate_builtin (b:=.append) (xs := #[.tmp 85, .tmp 87]) rfl ?_);at_builtin;refine Kd.R_append (Kd.int .i64) (w0:=W0) W0.heap.size rfl (.tmp 85) (.tmp 87) 49 3 (.int .i64 0) 8 rfl Try.underlying49 info3 rfl (by decide) (by omega) u9 x9_1 (wrap64 (-x10_2)) [.int .i64 (wrap64 (-x10_2))] (fun _=>True) (fun _=>False) rfl rfl ?aP (fun _ hk=>hk.elim) ?aF ?aO ?aB ?aS ?aL ?_;(case aP=>exact rfl);(case aB=>exact yhb);(case aF=>exact (fun _ _=>trivial));(case aO=>exact (yr HO_9));(case aS=>exact (zE yhb));(case aL=>have:=LMc20.out;omega);intro v493 w21 ho hb hg hat;rw [← Ny492.out] at ho;replace HB:=zm (hb);have HO494:=zm (ho);clear HO_9;clear ho hb hg hat))
         go_roundg k2
         case measure=>exact yom2 HK1 HK2
         case rel=>exact ⟨(wrap64 (x0_1 - 1)),(wrap64 (x1_1 - x10_2)),(IntKind.u64.wrap (x2_2 - t491)),(y492),yq,yq,yq,H',⟨yom2 HK1 HK2⟩,⟨yr HO494⟩,⟨yhb⟩⟩
        ·
         rw [if_neg c19] at H
         have c19b0 : decide (t491≤x2_2)=false:=decide_eq_false c19
         clear c19
         obtain ⟨c22,H⟩:=yif H
         have LMc22:=zm c22;clear c22
         obtain ⟨y495,hy495⟩ : ∃ y_ : List Int,y_=(x9_1 ++ [x10_2]):=⟨_,rfl⟩
         replace H : (comb_Vector.l0 k2 (wrap64 (x0_1 - 1)) (wrap64 (x1_1 - x10_2)) x2_2 y495)=some (r1,r2):=yrw hy495 H
         have Ny495:=zm hy495;clear hy495
         have H' := zm H
         clear H
         obtain ⟨ia4,ib4,ic4,id4⟩:=comb_table.inn A18.out
         have hcl4:=(HB.out.cell (zb W0 _ (comb_table.look hbn.out A18.out))).trans (comb_table.look hbn.out A18.out)
         go_wp2_with (first|((with_reducible refine gate_builtin (b:=.append) (xs := #[.tmp 85, .tmp 87]) rfl ?_);at_builtin;refine Kd.R_append (Kd.int .i64) (w0:=W0) W0.heap.size rfl (.tmp 85) (.tmp 87) 49 3 (.int .i64 0) 8 rfl Try.underlying49 info3 rfl (by decide) (by omega) u9 x9_1 x10_2 [.int .i64 x10_2] (fun _=>True) (fun _=>False) rfl rfl ?aP (fun _ hk=>hk.elim) ?aF ?aO ?aB ?aS ?aL ?_;(case aP=>exact rfl);(case aB=>exact yhb);(case aF=>exact (fun _ _=>trivial));(case aO=>exact (yr HO_9));(case aS=>exact (zE yhb));(case aL=>have:=LMc22.out;omega);intro v496 w23 ho hb hg hat;rw [← Ny495.out] at ho;replace HB:=zm (hb);have HO497:=zm (ho);clear HO_9;clear ho hb hg hat))
         go_roundg k2
         case measure=>exact yom2 HK1 HK2
         case rel=>exact ⟨(wrap64 (x0_1 - 1)),(wrap64 (x1_1 - x10_2)),(x2_2),(y495),yq,yq,yq,H',⟨yom2 HK1 HK2⟩,⟨yr HO497⟩,⟨yhb⟩⟩
     ·
      rw [if_neg c14] at H
      have c14b0 : decide (t488≤x2_1)=false:=decide_eq_false c14
      clear c14
      obtain ⟨c24,H⟩:=yif H
      have LMc24:=zm c24;clear c24
      obtain ⟨y498,hy498⟩ : ∃ y_ : List Int,y_=(x9_1 ++ [0]):=⟨_,rfl⟩
      replace H : (comb_Vector.l0 k1 (wrap64 (x0_1 - 1)) x1_1 x2_1 y498)=some (r1,r2):=yrw hy498 H
      have Ny498:=zm hy498;clear hy498
      have H' := zm H
      clear H
      obtain ⟨ia5,ib5,ic5,id5⟩:=comb_table.inn A13.out
      have hcl5:=(HB.out.cell (zb W0 _ (comb_table.look hbn.out A13.out))).trans (comb_table.look hbn.out A13.out)
      go_wp2_with (first|((with_reducible refine gate_builtin (b:=.append) (xs := #[.tmp 85, .tmp 87]) rfl ?_);at_builtin;refine Kd.R_append (Kd.int .i64) (w0:=W0) W0.heap.size rfl (.tmp 85) (.tmp 87) 49 3 (.int .i64 0) 8 rfl Try.underlying49 info3 rfl (by decide) (by omega) u9 x9_1 0 [.int .i64 0] (fun _=>True) (fun _=>False) rfl rfl ?aP (fun _ hk=>hk.elim) ?aF ?aO ?aB ?aS ?aL ?_;(case aP=>exact rfl);(case aB=>exact yhb);(case aF=>exact (fun _ _=>trivial));(case aO=>exact (yr HO_9));(case aS=>exact (zE yhb));(case aL=>have:=LMc24.out;omega);intro v499 w25 ho hb hg hat;rw [← Ny498.out] at ho;replace HB:=zm (hb);have HO500:=zm (ho);clear HO_9;clear ho hb hg hat))
      go_roundg k1
      case measure=>exact yom1 HK1
      case rel=>exact ⟨(wrap64 (x0_1 - 1)),(x1_1),(x2_1),(y498),yq,yq,yq,H',⟨yom1 HK1⟩,⟨yr HO500⟩,⟨yhb⟩⟩
    ·
     rw [if_neg c12] at H
     have c12b0 : decide (0 < x0_1)=false:=decide_eq_false c12
     clear c12
     simp only [Option.some.injEq,Prod.mk.injEq] at H
     obtain ⟨rfl,rfl⟩:=H
     go_wp2
     go_ret2
     exact ⟨_,ye,Kd.R_lower (yr HO_9) (zE hb0),zJ hb0 yhb⟩
 ·
  replace c5:=Bool.eq_false_iff.mpr c5
  subst c5
  rw [ynf] at H
  simp only [Option.some.injEq,Prod.mk.injEq] at H
  obtain ⟨rfl,rfl⟩:=H
  go_enter Try.func54,Try.ntmps54
  go_wp2_with (first|((with_reducible refine gate_callee (f:=71) rfl ?_);refine ygl 16 Try.func71 #[.int .i64 a0, .int .i64 a1] ?_;(with_reducible refine (comb_fair.calls a0 a1 false _ A4.out).mono ?_);rintro e w' ⟨rfl,⟨nd,rfl⟩⟩;refine ⟨_,rfl, ?_⟩))
  go_ret2
  exact ⟨_,ye,yn,yhb⟩
def gain_take.f (k : Nat) (a0_0 : Int) (a0_1 : Int) (l0_2 : List Int) (a0_3 : Int) (a1 : Int) (a2 : Bool) : Option (Int × Int × List Int × Int × Int):=if a2=true then ((coder_TakeNum.f k a0_0 a0_1 l0_2 a0_3 45).bind fun bt423=>(some (bt423.1,bt423.2.1,bt423.2.2.1,bt423.2.2.2.1,wrap64 (bt423.2.2.2.2.1)))) else ((coder_Get.f a0_0 a0_1 l0_2 a0_3 8).bind fun bt432=>((coder_Take.f k a0_0 a0_1 l0_2 a0_3 bt432.1 (wrap64 (bt432.1+1)) 8).bind fun bt434=>(if bt432.1=7 then ((coder_TakeNum.f k bt434.1 bt434.2.1 bt434.2.2.1 bt434.2.2.2.1 45).bind fun bt441=>(some (bt441.1,bt441.2.1,bt441.2.2.1,bt441.2.2.2.1,wrap64 (bt441.2.2.2.2.1)))) else (some (bt434.1,bt434.2.1,bt434.2.2.1,bt434.2.2.2.1,mx 0 (mn (wrap64 ((wrap64 (a1+bt432.1)) - 3)) 44))))))
theorem gain_take.mono : ∀ a0 a1 a2 a3 a4 a5 k,LeO (gain_take.f k a0 a1 a2 a3 a4 a5) (gain_take.f (k+1) a0 a1 a2 a3 a4 a5):=by
 intro a0 a1 a2 a3 a4 a5 k
 unfold gain_take.f
 repeat' with_reducible first|apply coder_Take.mono|apply coder_TakeNum.mono|apply yLr|apply yLn|apply yLi|apply yLb|intro _
set_option maxHeartbeats 8000000 in
set_option maxRecDepth 100000 in
theorem gain_take.calls (k : Nat) (a0_0 : Int) (a0_1 : Int) (P0_2_ : Nat→Prop) (A0_2 : Option Addr) (c0_2 : Nat) (l0_2 : List Int) (a0_3 : Int) (a1 : Int) (a2 : Bool) (r1 : Int) (r2 : Int) (r3 : List Int) (r4 : Int) (r5 : Int) (w : World) (hs0_2 : Kd.V (Kd.int .u8) 5 w w.heap.size (fun k_=>P0_2_ k_) (.slice A0_2 l0_2.length c0_2) l0_2) (h : gain_take.f k a0_0 a0_1 l0_2 a0_3 a1 a2=some (r1,r2,r3,r4,r5)) :
  Calls Try.prog 88 #[.agg #[.int .u64 a0_0, .int .u32 a0_1, .slice A0_2 l0_2.length c0_2, .int .i64 a0_3], .int .i64 a1, .bool a2] w fun e w' => ∃ v2_ : Value,e=.returned (.tuple #[.agg #[.int .u64 r1, .int .u32 r2,v2_, .int .i64 r4], .int .i64 r5])∧Kd.V (Kd.int .u8) 5 w' w.heap.size (fun k_=>(P0_2_ k_∨w.heap.size≤k_)) v2_ r3∧Below w.heap.size w w' := by
 have hu82:=Try.underlying82
 have HO0_2:=zm (show Kd.V (Kd.int .u8) 5 w w.heap.size (fun k_=>(P0_2_ k_∨w.heap.size≤k_)) (.slice A0_2 l0_2.length c0_2) l0_2 from zy hs0_2 (fun k_ hk => .inl hk))
 have HB:=zm (Below.refl w.heap.size w)
 have H : (if a2=true then ((coder_TakeNum.f k a0_0 a0_1 l0_2 a0_3 45).bind fun bt423=>(some (bt423.1,bt423.2.1,bt423.2.2.1,bt423.2.2.2.1,wrap64 (bt423.2.2.2.2.1)))) else ((coder_Get.f a0_0 a0_1 l0_2 a0_3 8).bind fun bt432=>((coder_Take.f k a0_0 a0_1 l0_2 a0_3 bt432.1 (wrap64 (bt432.1+1)) 8).bind fun bt434=>(if bt432.1=7 then ((coder_TakeNum.f k bt434.1 bt434.2.1 bt434.2.2.1 bt434.2.2.2.1 45).bind fun bt441=>(some (bt441.1,bt441.2.1,bt441.2.2.1,bt441.2.2.2.1,wrap64 (bt441.2.2.2.2.1)))) else (some (bt434.1,bt434.2.1,bt434.2.2.1,bt434.2.2.2.1,mx 0 (mn (wrap64 ((wrap64 (a1+bt432.1)) - 3)) 44)))))))=some (r1,r2,r3,r4,r5):=h
 clear h
 by_cases c4 : a2=true
 ·
  subst c4
  rw [if_pos rfl] at H
  obtain ⟨⟨t423,t424,t425,t428,t429,t430⟩,A5,H⟩:=ybi H
  try dsimp only at H
  simp only [Option.some.injEq,Prod.mk.injEq] at H
  obtain ⟨rfl,rfl,rfl,rfl,rfl⟩:=H
  go_enter Try.func88,Try.ntmps88
  go_wp2_with (first|((with_reducible refine gate_dst (N:=3) rfl ?_);refine ybx 3 #[.int .u64 a0_0, .int .u32 a0_1, .slice A0_2 l0_2.length c0_2, .int .i64 a0_3] 82 ?_;intro gb421 hg w6 hbox hb;replace HO0_2:=yVe HO0_2 hg hb;have BK421:=zm (hbox);have GW421:=ygw hg;have GE421:=ygw hg;replace HB:=ybs hb;clear hb hbox hg)|((with_reducible refine gate_dst (N:=6) rfl ?_);refine ybx 6 #[.int .u64 0, .int .u32 0, .slice none 0 0, .int .i64 0] 82 ?_;intro gb422 hg w7 hbox hb;replace HO0_2:=yVe HO0_2 hg hb;have BK422:=zm (hbox);have GW422:=ygw hg;have GE422:=ygw hg;replace HB:=ybs hb;have NB421_422:=ynl BK421 hg;have NB422_421:=yng BK421 hg;replace BK421:=ybb BK421 hb;clear hb hbox hg;have:=NB421_422.out;have:=NB422_421.out;obtain ⟨_,_,_,_,_,_,_,_⟩:=yc4 BK421)|((with_reducible refine gate_callee (f:=53) rfl ?_);refine ygl 39 Try.func53 #[.agg #[.int .u64 a0_0, .int .u32 a0_1, .slice A0_2 l0_2.length c0_2, .int .i64 a0_3], .int .u64 45] ?_;(with_reducible refine (coder_TakeNum.calls k a0_0 a0_1 (fun k_=>(((P0_2_ k_∨w.heap.size≤k_)∧k_≠gb421)∧k_≠gb422)) _ _ l0_2 a0_3 45 t423 t424 t425 t428 t429 t430 _ HO0_2.out A5.out).mono ?_);rintro e w10 ⟨v426,rfl,ho0,hb⟩;refine ⟨_,rfl, ?_⟩;replace HO0_2:=yVb HO0_2 hb;have HO427:=yho (fun k_=>(P0_2_ k_∨w.heap.size≤k_)∧k_≠gb421∧k_≠gb422) ho0 (fun k_ hk_=>⟨Or.elim hk_ (fun hs_=>hs_.1.1) (fun hn_=>(.inr (Nat.le_trans (zE yhb) hn_))),yoB BK421 hk_,yoB BK422 hk_⟩);replace BK421:=ybb BK421 hb;replace BK422:=ybb BK422 hb;replace HB:=ybs hb;(try clear hb);(try clear ho0))|((with_reducible refine gate_dst (N:=10) rfl ?_);refine ybx 10 #[.int .u64 0, .int .u32 0, .slice none 0 0, .int .i64 0] 82 ?_;intro gb431 hg w11 hbox hb;replace HO0_2:=yVe HO0_2 hg hb;replace HO427:=yVe HO427 hg hb;have BK431:=zm (hbox);have GW431:=ygw hg;have GE431:=ygw hg;replace HB:=ybs hb;have NB421_431:=ynl BK421 hg;have NB431_421:=yng BK421 hg;replace BK421:=ybb BK421 hb;have NB422_431:=ynl BK422 hg;have NB431_422:=yng BK422 hg;replace BK422:=ybb BK422 hb;clear hb hbox hg;have:=NB431_421.out;have:=NB421_431.out;have:=NB431_422.out;have:=NB422_431.out;obtain ⟨_,_,_,_,_,_,_,_⟩:=yc4 BK431;obtain ⟨Ao15,co15,eo15⟩:=Kd.V_slice HO427.out;subst eo15;obtain ⟨_,_,_,_,_,_,_,_⟩:=yc4 BK422))
  refine bodyPost_ret (results_ct rfl _ _ gb422 82 #[.int .u64 t423, .int .u32 t424, .slice Ao15 t425.length co15, .int .i64 t428] (0,0) _ rfl (ykp BK422) Try.underlying82 rfl (by kernel_rfl)) rfl ?_
  exact ⟨_,ye,yV0 HO427,yhb⟩
 ·
  replace c4:=Bool.eq_false_iff.mpr c4
  subst c4
  rw [ynf] at H
  obtain ⟨⟨t432,t433⟩,A17,H⟩:=ybi H
  try dsimp only at H
  obtain ⟨⟨t434,t435,t436,t439,t440⟩,A18,H⟩:=ybi H
  try dsimp only at H
  by_cases c19 : t432=7
  ·
   rw [if_pos c19] at H
   have c19b0 : (t432 == 7)=true:=beq_iff_eq.mpr c19
   have c19b1 : (t432 != 7)=false:=bne_eq_false_iff_eq.mpr c19
   clear c19
   obtain ⟨⟨t441,t442,t443,t446,t447,t448⟩,A20,H⟩:=ybi H
   try dsimp only at H
   simp only [Option.some.injEq,Prod.mk.injEq] at H
   obtain ⟨rfl,rfl,rfl,rfl,rfl⟩:=H
   go_enter Try.func88,Try.ntmps88
   go_wp2_with (first|((with_reducible refine gate_dst (N:=3) rfl ?_);refine ybx 3 #[.int .u64 a0_0, .int .u32 a0_1, .slice A0_2 l0_2.length c0_2, .int .i64 a0_3] 82 ?_;intro gb421 hg w21 hbox hb;replace HO0_2:=yVe HO0_2 hg hb;have BK421:=zm (hbox);have GW421:=ygw hg;have GE421:=ygw hg;replace HB:=ybs hb;clear hb hbox hg)|((with_reducible refine gate_dst (N:=6) rfl ?_);refine ybx 6 #[.int .u64 0, .int .u32 0, .slice none 0 0, .int .i64 0] 82 ?_;intro gb422 hg w22 hbox hb;replace HO0_2:=yVe HO0_2 hg hb;have BK422:=zm (hbox);have GW422:=ygw hg;have GE422:=ygw hg;replace HB:=ybs hb;have NB421_422:=ynl BK421 hg;have NB422_421:=yng BK421 hg;replace BK421:=ybb BK421 hb;clear hb hbox hg;have:=NB421_422.out;have:=NB422_421.out;obtain ⟨_,_,_,_,_,_,_,_⟩:=yc4 BK421)|((with_reducible refine gate_callee (f:=50) rfl ?_);refine ygl 17 Try.func50 #[.agg #[.int .u64 a0_0, .int .u32 a0_1, .slice A0_2 l0_2.length c0_2, .int .i64 a0_3], .int .i64 8] ?_;(with_reducible refine (coder_Get.calls a0_0 a0_1 _ _ l0_2 a0_3 8 t432 t433 _ ?side1 ?side2 A17.out).mono ?_);(case side1=>exact yce (Kd.V_reads' HO0_2.out).2.2);(case side2=>exact (Kd.V_reads' HO0_2.out).2.1);rintro e w25 ⟨rfl,hb⟩;refine ⟨_,rfl, ?_⟩;replace HO0_2:=yVb HO0_2 hb;replace BK421:=ybb BK421 hb;replace BK422:=ybb BK422 hb;replace HB:=ybs hb;(try clear hb);obtain ⟨_,_,_,_,_,_,_,_⟩:=yc4 BK421)|((with_reducible refine gate_callee (f:=51) rfl ?_);refine ygl 25 Try.func51 #[.agg #[.int .u64 a0_0, .int .u32 a0_1, .slice A0_2 l0_2.length c0_2, .int .i64 a0_3], .int .i64 t432, .int .i64 (wrap64 (t432+1)), .int .i64 8] ?_;(with_reducible refine (coder_Take.calls k a0_0 a0_1 (fun k_=>(((P0_2_ k_∨w.heap.size≤k_)∧k_≠gb421)∧k_≠gb422)) _ _ l0_2 a0_3 t432 (wrap64 (t432+1)) 8 t434 t435 t436 t439 t440 _ HO0_2.out A18.out).mono ?_);rintro e w27 ⟨v437,rfl,ho0,hb⟩;refine ⟨_,rfl, ?_⟩;replace HO0_2:=yVb HO0_2 hb;have HO438:=yho (fun k_=>(P0_2_ k_∨w.heap.size≤k_)∧k_≠gb421∧k_≠gb422) ho0 (fun k_ hk_=>⟨Or.elim hk_ (fun hs_=>hs_.1.1) (fun hn_=>(.inr (Nat.le_trans (zE yhb) hn_))),yoB BK421 hk_,yoB BK422 hk_⟩);replace BK421:=ybb BK421 hb;replace BK422:=ybb BK422 hb;replace HB:=ybs hb;(try clear hb);(try clear ho0);obtain ⟨_,_,_,_,_,_,_,_⟩:=yc4 BK421;obtain ⟨Ao29,co29,eo29⟩:=Kd.V_slice HO438.out;subst eo29)|((with_reducible refine gate_store (t:=82) (p:=3) rfl ?_);refine store_event (t:=82) (p:=3) (v := ?vo_w30) (w1:=((((w27.setCell ⟨gb421,0,none⟩ (.int .u64 t434)).setCell ⟨gb421,1,none⟩ (.int .u32 t435)).setCell ⟨gb421,2,none⟩ (.slice Ao29 t436.length co29)).setCell ⟨gb421,3,none⟩ (.int .i64 t439))) ?hg ?ho ?hn ?hr ?_;(case ho=>rfl);(case hg=>rfl);(case hn=>rfl);(case hr=>first|(go_simp;done)|(go_simp;rfl));intro w30 hw;replace HO0_2 : Aside0 (Kd.V (Kd.int .u8) 5 w30 w.heap.size (fun k_=>(P0_2_ k_∨w.heap.size≤k_)∧k_≠gb421∧k_≠gb422) (.slice A0_2 l0_2.length c0_2) l0_2):=⟨(by rw [hw];exact (yV0 HO0_2))⟩;replace HO438 : Aside0 (Kd.V (Kd.int .u8) 5 w30 w.heap.size (fun k_=>(P0_2_ k_∨w.heap.size≤k_)∧k_≠gb421∧k_≠gb422) (.slice Ao29 t436.length co29) t436):=⟨(by rw [hw];exact (yV0 HO438))⟩;replace BK421 : Aside0 (w30.heap[gb421]? = some (.cells #[.int .u64 t434, .int .u32 t435, .slice Ao29 t436.length co29, .int .i64 t439] 82 (0,0))):=⟨(by rw [hw];exact (ykp BK421))⟩;replace BK422 : Aside0 (w30.heap[gb422]? = some (.cells #[.int .u64 0, .int .u32 0, .slice none 0 0, .int .i64 0] 82 (0,0))):=⟨(by rw [hw];exact (yk BK422))⟩;replace HB : Aside0 (Below w.heap.size w w30):=⟨(by rw [hw];exact yhb)⟩;clear hw;obtain ⟨_,_,_,_,_,_,_,_⟩:=yc4 BK421)|((with_reducible refine gate_callee (f:=53) rfl ?_);refine ygl 39 Try.func53 #[.agg #[.int .u64 t434, .int .u32 t435, .slice Ao29 t436.length co29, .int .i64 t439], .int .u64 45] ?_;(with_reducible refine (coder_TakeNum.calls k t434 t435 (fun k_=>((P0_2_ k_∨w.heap.size≤k_)∧(k_≠gb421∧k_≠gb422))) _ _ t436 t439 45 t441 t442 t443 t446 t447 t448 _ HO438.out A20.out).mono ?_);rintro e w32 ⟨v444,rfl,ho0,hb⟩;refine ⟨_,rfl, ?_⟩;replace HO0_2:=yVb HO0_2 hb;replace HO438:=yVb HO438 hb;have HO445:=yho (fun k_=>(P0_2_ k_∨w.heap.size≤k_)∧k_≠gb421∧k_≠gb422) ho0 (fun k_ hk_=>⟨Or.elim hk_ (fun hs_=>hs_.1) (fun hn_=>(.inr (Nat.le_trans (zE yhb) hn_))),yoB BK421 hk_,yoB BK422 hk_⟩);replace BK421:=ybb BK421 hb;replace BK422:=ybb BK422 hb;replace HB:=ybs hb;(try clear hb);(try clear ho0))|((with_reducible refine gate_dst (N:=10) rfl ?_);refine ybx 10 #[.int .u64 0, .int .u32 0, .slice none 0 0, .int .i64 0] 82 ?_;intro gb449 hg w33 hbox hb;replace HO0_2:=yVe HO0_2 hg hb;replace HO438:=yVe HO438 hg hb;replace HO445:=yVe HO445 hg hb;have BK449:=zm (hbox);have GW449:=ygw hg;have GE449:=ygw hg;replace HB:=ybs hb;have NB421_449:=ynl BK421 hg;have NB449_421:=yng BK421 hg;replace BK421:=ybb BK421 hb;have NB422_449:=ynl BK422 hg;have NB449_422:=yng BK422 hg;replace BK422:=ybb BK422 hb;clear hb hbox hg;have:=NB449_421.out;have:=NB421_449.out;have:=NB449_422.out;have:=NB422_449.out;obtain ⟨_,_,_,_,_,_,_,_⟩:=yc4 BK449;obtain ⟨Ao37,co37,eo37⟩:=Kd.V_slice HO445.out;subst eo37;obtain ⟨_,_,_,_,_,_,_,_⟩:=yc4 BK422))
   refine bodyPost_ret (results_ct rfl _ _ gb422 82 #[.int .u64 t441, .int .u32 t442, .slice Ao37 t443.length co37, .int .i64 t446] (0,0) _ rfl (ykp BK422) Try.underlying82 rfl (by kernel_rfl)) rfl ?_
   exact ⟨_,ye,yV0 HO445,yhb⟩
  ·
   rw [if_neg c19] at H
   have c19b0 : (t432 == 7)=false:=beq_eq_false_iff_ne.mpr c19
   have c19b1 : (t432 != 7)=true:=bne_iff_ne.mpr c19
   obtain ⟨ji39,hji39⟩ : ∃ j_ : Int,(mn (wrap64 ((wrap64 (a1+t432)) - 3)) 44)=j_:=⟨_,rfl⟩
   replace H : (some (t434,t435,t436,t439,mx 0 (ji39)))=some (r1,r2,r3,r4,r5):=by first|(rw [hji39] at H;exact H)|(simp only [hji39] at H ⊢; exact H)
   (try rw [hji39] at A17)
   (try rw [hji39] at A18)
   (try (have hji39h : ji39≤44:=by (rw [← hji39];unfold mn;(repeat' split) <;> omega)))
   (try (have hji39g : ji39≤64:=by omega))
   have hji39_ : (if 44 < (wrap64 ((wrap64 (a1+t432)) - 3)) then 44 else (wrap64 ((wrap64 (a1+t432)) - 3)))=ji39:=hji39
   obtain ⟨ji40,hji40⟩ : ∃ j_ : Int,(mx 0 (ji39))=j_:=⟨_,rfl⟩
   replace H : (some (t434,t435,t436,t439,ji40))=some (r1,r2,r3,r4,r5):=by first|(rw [hji40] at H;exact H)|(simp only [hji40] at H ⊢; exact H)
   (try rw [hji40] at A17)
   (try rw [hji40] at A18)
   have hji40_ : (if 0 < (ji39) then (ji39) else 0)=ji40:=hji40
   simp only [Option.some.injEq,Prod.mk.injEq] at H
   obtain ⟨rfl,rfl,rfl,rfl,rfl⟩:=H
   go_enter Try.func88,Try.ntmps88
   go_wp2_with (first|((with_reducible refine gate_dst (N:=3) rfl ?_);refine ybx 3 #[.int .u64 a0_0, .int .u32 a0_1, .slice A0_2 l0_2.length c0_2, .int .i64 a0_3] 82 ?_;intro gb421 hg w41 hbox hb;replace HO0_2:=yVe HO0_2 hg hb;have BK421:=zm (hbox);have GW421:=ygw hg;have GE421:=ygw hg;replace HB:=ybs hb;clear hb hbox hg)|((with_reducible refine gate_dst (N:=6) rfl ?_);refine ybx 6 #[.int .u64 0, .int .u32 0, .slice none 0 0, .int .i64 0] 82 ?_;intro gb422 hg w42 hbox hb;replace HO0_2:=yVe HO0_2 hg hb;have BK422:=zm (hbox);have GW422:=ygw hg;have GE422:=ygw hg;replace HB:=ybs hb;have NB421_422:=ynl BK421 hg;have NB422_421:=yng BK421 hg;replace BK421:=ybb BK421 hb;clear hb hbox hg;have:=NB421_422.out;have:=NB422_421.out;obtain ⟨_,_,_,_,_,_,_,_⟩:=yc4 BK421)|((with_reducible refine gate_callee (f:=50) rfl ?_);refine ygl 17 Try.func50 #[.agg #[.int .u64 a0_0, .int .u32 a0_1, .slice A0_2 l0_2.length c0_2, .int .i64 a0_3], .int .i64 8] ?_;(with_reducible refine (coder_Get.calls a0_0 a0_1 _ _ l0_2 a0_3 8 t432 t433 _ ?side1 ?side2 A17.out).mono ?_);(case side1=>exact yce (Kd.V_reads' HO0_2.out).2.2);(case side2=>exact (Kd.V_reads' HO0_2.out).2.1);rintro e w45 ⟨rfl,hb⟩;refine ⟨_,rfl, ?_⟩;replace HO0_2:=yVb HO0_2 hb;replace BK421:=ybb BK421 hb;replace BK422:=ybb BK422 hb;replace HB:=ybs hb;(try clear hb);obtain ⟨_,_,_,_,_,_,_,_⟩:=yc4 BK421)|((with_reducible refine gate_callee (f:=51) rfl ?_);refine ygl 25 Try.func51 #[.agg #[.int .u64 a0_0, .int .u32 a0_1, .slice A0_2 l0_2.length c0_2, .int .i64 a0_3], .int .i64 t432, .int .i64 (wrap64 (t432+1)), .int .i64 8] ?_;(with_reducible refine (coder_Take.calls k a0_0 a0_1 (fun k_=>(((P0_2_ k_∨w.heap.size≤k_)∧k_≠gb421)∧k_≠gb422)) _ _ l0_2 a0_3 t432 (wrap64 (t432+1)) 8 t434 t435 t436 t439 t440 _ HO0_2.out A18.out).mono ?_);rintro e w47 ⟨v437,rfl,ho0,hb⟩;refine ⟨_,rfl, ?_⟩;replace HO0_2:=yVb HO0_2 hb;have HO438:=yho (fun k_=>(P0_2_ k_∨w.heap.size≤k_)∧k_≠gb421∧k_≠gb422) ho0 (fun k_ hk_=>⟨Or.elim hk_ (fun hs_=>hs_.1.1) (fun hn_=>(.inr (Nat.le_trans (zE yhb) hn_))),yoB BK421 hk_,yoB BK422 hk_⟩);replace BK421:=ybb BK421 hb;replace BK422:=ybb BK422 hb;replace HB:=ybs hb;(try clear hb);(try clear ho0);obtain ⟨_,_,_,_,_,_,_,_⟩:=yc4 BK421;obtain ⟨Ao49,co49,eo49⟩:=Kd.V_slice HO438.out;subst eo49;obtain ⟨_,_,_,_,_,_,_,_⟩:=yc4 BK422))
   refine bodyPost_ret (results_ct rfl _ _ gb422 82 #[.int .u64 t434, .int .u32 t435, .slice Ao49 t436.length co49, .int .i64 t439] (0,0) _ rfl (ykp BK422) Try.underlying82 rfl (by kernel_rfl)) rfl ?_
   exact ⟨_,by first|rfl|(simp [errW_none,errW_some] <;> rfl)|(simp only [← hji39, ← hji40];first|rfl|(simp [errW_none,errW_some] <;> rfl))|(simp [*,errW_none,errW_some] <;> rfl),yV0 HO438,yhb⟩
mutual
def gain_Take.j0 : Nat→List Int→Bool→Bool→Int→Int→List Int→Int→Option (Int × Int × List Int × Int × List Int × Int)
 | 0,_,_,_,_,_,_,_=>none
 | k+1,x1,x2,x20,x451000,x451001,x451002,x451003=>if x20=true then ((coder_Take.f k x451000 x451001 x451002 x451003 0 1 1).bind fun bt453=>(some (bt453.1,bt453.2.1,bt453.2.2.1,bt453.2.2.2.1,([] : List Int),1))) else (gain_Take.l0 k x1 x2 ([] : List Int) 0 x451000 x451001 x451002 x451003)
def gain_Take.l0 : Nat→List Int→Bool→List Int→Int→Int→Int→List Int→Int→Option (Int × Int × List Int × Int × List Int × Int)
 | 0,_,_,_,_,_,_,_,_=>none
 | k+1,x1,x2,x9,x27,x451000,x451001,x451002,x451003=>if x27 < 5 then (if x2=true then ((gain_take.f k x451000 x451001 x451002 x451003 0 x2).bind fun bt460=>(if x9.length < 17592186044416 then (gain_Take.l0 k x1 x2 (x9 ++ [bt460.2.2.2.2]) (wrap64 (x27+1)) bt460.1 bt460.2.1 bt460.2.2.1 bt460.2.2.2.1) else (none))) else (if 0≤x27 then (if x27 < (x1.length : Int) then ((gain_take.f k x451000 x451001 x451002 x451003 (rd x1 x27) x2).bind fun bt472=>(if x9.length < 17592186044416 then (gain_Take.l0 k x1 x2 (x9 ++ [bt472.2.2.2.2]) (wrap64 (x27+1)) bt472.1 bt472.2.1 bt472.2.2.1 bt472.2.2.2.1) else (none))) else (none)) else (none))) else (some (x451000,x451001,x451002,x451003,x9,0))
end
def gain_Take.f (k : Nat) (a0_0 : Int) (a0_1 : Int) (l0_2 : List Int) (a0_3 : Int) (l1 : List Int) (a2 : Bool) : Option (Int × Int × List Int × Int × List Int × Int):=if a2=true then (gain_Take.j0 k l1 a2 false a0_0 a0_1 l0_2 a0_3) else ((gain_Right.f k l1).bind fun t452=>(gain_Take.j0 k l1 a2 (!t452) a0_0 a0_1 l0_2 a0_3))
theorem gain_Take.mono_l : ∀ k,(∀ y0 y1 y2 y3 y4 y5 y6,LeO (gain_Take.j0 k y0 y1 y2 y3 y4 y5 y6) (gain_Take.j0 (k+1) y0 y1 y2 y3 y4 y5 y6))∧(∀ y0 y1 y2 y3 y4 y5 y6 y7,LeO (gain_Take.l0 k y0 y1 y2 y3 y4 y5 y6 y7) (gain_Take.l0 (k+1) y0 y1 y2 y3 y4 y5 y6 y7))
 | 0=>⟨fun _ _ _ _ _ _ _ r h=>by simp [gain_Take.j0] at h,fun _ _ _ _ _ _ _ _ r h=>by simp [gain_Take.l0] at h⟩
 | k+1=>by
  obtain ⟨ih0,ih1⟩:=gain_Take.mono_l k
  refine ⟨?_, ?_⟩
  ·
   intro y0 y1 y2 y3 y4 y5 y6
   unfold gain_Take.j0
   repeat' with_reducible first|apply ih0|apply ih1|apply coder_Take.mono|apply gain_Right.mono|apply gain_take.mono|apply yLr|apply yLn|apply yLi|apply yLb|intro _
  ·
   intro y0 y1 y2 y3 y4 y5 y6 y7
   unfold gain_Take.l0
   repeat' with_reducible first|apply ih0|apply ih1|apply coder_Take.mono|apply gain_Right.mono|apply gain_take.mono|apply yLr|apply yLn|apply yLi|apply yLb|intro _
theorem gain_Take.mono : ∀ a0 a1 a2 a3 a4 a5 k,LeO (gain_Take.f k a0 a1 a2 a3 a4 a5) (gain_Take.f (k+1) a0 a1 a2 a3 a4 a5):=by
 intro a0 a1 a2 a3 a4 a5 k
 obtain ⟨ih0,ih1⟩:=gain_Take.mono_l k
 unfold gain_Take.f
 repeat' with_reducible first|apply ih0|apply ih1|apply coder_Take.mono|apply gain_Right.mono|apply gain_take.mono|apply yLr|apply yLn|apply yLi|apply yLb|intro _
set_option maxHeartbeats 8000000 in
set_option maxRecDepth 100000 in
theorem gain_Take.calls (k : Nat) (a0_0 : Int) (a0_1 : Int) (P0_2_ : Nat→Prop) (A0_2 : Option Addr) (c0_2 : Nat) (l0_2 : List Int) (a0_3 : Int) (A1 : Option Addr) (c1 : Nat) (l1 : List Int) (a2 : Bool) (r1 : Int) (r2 : Int) (r3 : List Int) (r4 : Int) (r5 : List Int) (r6 : Int) (w : World) (hs0_2 : Kd.V (Kd.int .u8) 5 w w.heap.size (fun k_=>P0_2_ k_) (.slice A0_2 l0_2.length c0_2) l0_2) (hr1 : Kd.C (Kd.int .i64) w A1 l1.length l1) (hc1 : l1.length≤c1) (h : gain_Take.f k a0_0 a0_1 l0_2 a0_3 l1 a2=some (r1,r2,r3,r4,r5,r6)) :
  Calls Try.prog 52 #[.agg #[.int .u64 a0_0, .int .u32 a0_1, .slice A0_2 l0_2.length c0_2, .int .i64 a0_3], .slice A1 l1.length c1, .bool a2] w fun e w' => ∃ v2_ v4_ : Value,e=.returned (.tuple #[.agg #[.int .u64 r1, .int .u32 r2,v2_, .int .i64 r4],v4_, .int .i64 r6])∧Kd.V (Kd.int .u8) 5 w' w.heap.size (fun k_=>(P0_2_ k_∨w.heap.size≤k_)∧some k_≠(v4_ : Value).ownBlock) v2_ r3∧Kd.R (Kd.int .i64) 3 w' w.heap.size (fun k_=>(w.heap.size≤k_)) v4_ r5∧Below w.heap.size w w' := by
 have hu82:=Try.underlying82
 have HO0_2:=zm (show Kd.V (Kd.int .u8) 5 w w.heap.size (fun k_=>(P0_2_ k_∨w.heap.size≤k_)) (.slice A0_2 l0_2.length c0_2) l0_2 from zy hs0_2 (fun k_ hk => .inl hk))
 have HR1:=zm hr1;have HC1:=zm hc1;clear hr1 hc1;have HB:=zm (Below.refl w.heap.size w)
 have H : (if a2=true then (gain_Take.j0 k l1 a2 false a0_0 a0_1 l0_2 a0_3) else ((gain_Right.f k l1).bind fun t452=>(gain_Take.j0 k l1 a2 (!t452) a0_0 a0_1 l0_2 a0_3)))=some (r1,r2,r3,r4,r5,r6):=h
 clear h;have HC4:=zm H;clear H
 go_enter Try.func52,Try.ntmps52
 go_upto_region 1 with (first|((with_reducible refine gate_dst (N:=3) rfl ?_);refine ybx 3 #[.int .u64 a0_0, .int .u32 a0_1, .slice A0_2 l0_2.length c0_2, .int .i64 a0_3] 82 ?_;intro gb450 hg w5 hbox hb;replace HO0_2:=yVe HO0_2 hg hb;have BK450:=zm (hbox);have GW450:=ygw hg;have GE450:=ygw hg;replace HB:=ybs hb;clear hb hbox hg)|((with_reducible refine gate_dst (N:=6) rfl ?_);refine ybx 6 #[.int .u64 0, .int .u32 0, .slice none 0 0, .int .i64 0] 82 ?_;intro gb451 hg w6 hbox hb;replace HO0_2:=yVe HO0_2 hg hb;have BK451:=zm (hbox);have GW451:=ygw hg;have GE451:=ygw hg;replace HB:=ybs hb;have NB450_451:=ynl BK450 hg;have NB451_450:=yng BK450 hg;replace BK450:=ybb BK450 hb;clear hb hbox hg))
 (try simp only [Act.put,List.setIfInBounds_toArray,List.set_cons_zero,List.set_cons_succ])
 go_cut [20] (fun v20 wc => ∃ (kq : Nat) (x20_3 : Bool),v20=.bool x20_3∧Aside0 (gain_Take.j0 kq l1 a2 x20_3 a0_0 a0_1 l0_2 a0_3=some (r1,r2,r3,r4,r5,r6))∧Aside0 (kq≤k)∧Aside0 (Kd.V (Kd.int .u8) 5 wc w.heap.size (fun k_=>(P0_2_ k_∨w.heap.size≤k_)∧k_≠gb450∧k_≠gb451) (.slice A0_2 l0_2.length c0_2) l0_2)∧Aside0 (wc.heap[gb450]? = some (.cells #[.int .u64 a0_0, .int .u32 a0_1,(.slice A0_2 l0_2.length c0_2), .int .i64 a0_3] 82 (0,0)))∧Aside0 (wc.heap[gb451]? = some (.cells #[.int .u64 0, .int .u32 0,(.slice none 0 0), .int .i64 0] 82 (0,0)))∧Aside0 (Below w.heap.size w wc))
 case first =>
  have H:=HC4.out;clear HC4
  by_cases c7 : a2=true
  ·
   subst c7
   rw [if_pos rfl] at H
   have H' := zm H
   clear H
   go_wp2
   go_meet
   case rel=>exact ⟨_,(false),yq,H',⟨yo⟩,⟨yV0 HO0_2⟩,⟨yk BK450⟩,⟨yk BK451⟩,⟨yhb⟩⟩
  ·
   replace c7:=Bool.eq_false_iff.mpr c7
   subst c7
   rw [ynf] at H
   obtain ⟨t452,A8,H⟩:=ybi H
   have H' := zm H
   clear H
   go_wp2_with (first|(go_at_call 62;(with_reducible refine (gain_Right.calls k _ _ l1 t452 _ ?side1 HC1.out A8.out).mono ?_);(case side1=>exact ycb HR1);rintro e w' ⟨rfl,⟨nd,rfl⟩⟩))
   go_meet
   case rel=>exact ⟨_,(!t452),yq,H',⟨yo⟩,⟨yV0 HO0_2⟩,⟨yk BK450⟩,⟨yk BK451⟩,⟨yhb⟩⟩
 case rest =>
  clear HC4
  try clear c1
  obtain ⟨kq,x20_3,rfl,HA,HJ3,HO_451002,BK450,BK451,HB⟩:=hcut
  obtain ⟨kj3,rfl⟩:=ysu kq (fun h=>by subst h;exact absurd HA.out (by simp [gain_Take.j0]))
  have H:=HA.out;clear HA
  simp only [gain_Take.j0] at H
  by_cases c9 : x20_3=true
  ·
   subst c9
   rw [if_pos rfl] at H
   obtain ⟨⟨t453,t454,t455,t458,t459⟩,A10,H⟩:=ybi H
   try dsimp only at H
   simp only [Option.some.injEq,Prod.mk.injEq] at H
   obtain ⟨rfl,rfl,rfl,rfl,rfl,rfl⟩:=H
   have:=NB450_451.out
   have:=NB451_450.out
   obtain ⟨hcz12_0,hcz12_1,hcz12_2,hcz12_3,hfz12_0,hfz12_1,hfz12_2,hfz12_3⟩:=yc4 BK450
   go_wp2_with (first|((with_reducible refine gate_callee (f:=51) rfl ?_);refine ygl 23 Try.func51 #[.agg #[.int .u64 a0_0, .int .u32 a0_1, .slice A0_2 l0_2.length c0_2, .int .i64 a0_3], .int .i64 0, .int .i64 1, .int .i64 1] ?_;(with_reducible refine (coder_Take.calls kj3 a0_0 a0_1 (fun k_=>((P0_2_ k_∨w.heap.size≤k_)∧(k_≠gb450∧k_≠gb451))) _ _ l0_2 a0_3 0 1 1 t453 t454 t455 t458 t459 _ HO_451002.out A10.out).mono ?_);rintro e w13 ⟨v456,rfl,ho0,hb⟩;refine ⟨_,rfl, ?_⟩;replace HO_451002:=yVb HO_451002 hb;have HO457:=yho (fun k_=>(P0_2_ k_∨w.heap.size≤k_)∧k_≠gb450∧k_≠gb451) ho0 (fun k_ hk_=>⟨Or.elim hk_ (fun hs_=>hs_.1) (fun hn_=>(.inr (Nat.le_trans (zE yhb) hn_))),yoB BK450 hk_,yoB BK451 hk_⟩);replace BK450:=ybb BK450 hb;replace BK451:=ybb BK451 hb;replace HB:=ybs hb;(try clear hb);(try clear ho0);obtain ⟨hcz14_0,hcz14_1,hcz14_2,hcz14_3,hfz14_0,hfz14_1,hfz14_2,hfz14_3⟩:=yc4 BK450;obtain ⟨Ao15,co15,eo15⟩:=Kd.V_slice HO457.out;subst eo15;obtain ⟨hcz16_0,hcz16_1,hcz16_2,hcz16_3,hfz16_0,hfz16_1,hfz16_2,hfz16_3⟩:=yc4 BK451))
   refine bodyPost_ret (results_ctt rfl _ _ gb451 82 #[.int .u64 t453, .int .u32 t454, .slice Ao15 t455.length co15, .int .i64 t458] (0,0) _ rfl (ykp BK451) Try.underlying82 rfl (by kernel_rfl)) rfl ?_
   exact ⟨_,_,ye,yV0 HO457,yn,yhb⟩
  ·
   replace c9:=Bool.eq_false_iff.mpr c9
   subst c9
   rw [ynf] at H
   have H' := zm H
   clear H
   go_wp2
   go_loopg [9,27] kj3 (fun kq v9 v27 w' => ∃ (x9_2 : List Int) (x27_2 : Int) (x451000_2 : Int) (x451001_2 : Int) (x451002_2 : List Int) (x451003_2 : Int) (u451002 : Value),v27=.int .i64 x27_2∧Aside0 (gain_Take.l0 kq l1 a2 x9_2 x27_2 x451000_2 x451001_2 x451002_2 x451003_2=some (r1,r2,r3,r4,r5,r6))∧Aside0 (kq≤kj3)∧Aside0 (Kd.R (Kd.int .i64) 3 w' w.heap.size (fun k_=>(w.heap.size≤k_)) v9 x9_2)∧Aside0 (Kd.V (Kd.int .u8) 5 w' w.heap.size (fun k_=>(P0_2_ k_∨w.heap.size≤k_)∧some k_≠(v9 : Value).ownBlock∧k_≠gb450∧k_≠gb451) u451002 x451002_2)∧Aside0 (w'.heap[gb450]? = some (.cells #[.int .u64 x451000_2, .int .u32 x451001_2,u451002, .int .i64 x451003_2] 82 (0,0)))∧Aside0 (w'.heap[gb451]? = some (.cells #[.int .u64 0, .int .u32 0,(.slice none 0 0), .int .i64 0] 82 (0,0)))∧Aside0 (Below w.heap.size w w'))
   case atStart=>exact ⟨(([] : List Int)),(0),(a0_0),(a0_1),(l0_2),(a0_3),(.slice A0_2 l0_2.length c0_2),yq,H',⟨Nat.le_refl _⟩,⟨yn⟩,⟨yV0 HO_451002⟩,⟨yk BK450⟩,⟨yk BK451⟩,⟨yhb⟩⟩
   case round =>
    clear H'
    try clear hcz12_0
    try clear hcz12_1
    try clear hcz12_2
    try clear hcz12_3
    try clear hcz14_0
    try clear hcz14_1
    try clear hcz14_2
    try clear hcz14_3
    try clear hcz16_0
    try clear hcz16_1
    try clear hcz16_2
    try clear hcz16_3
    try clear hfz12_0
    try clear hfz12_1
    try clear hfz12_2
    try clear hfz12_3
    try clear hfz14_0
    try clear hfz14_1
    try clear hfz14_2
    try clear hfz14_3
    try clear hfz16_0
    try clear hfz16_1
    try clear hfz16_2
    try clear hfz16_3
    obtain ⟨x9_2,x27_2,x451000_2,x451001_2,x451002_2,x451003_2,u451002,rfl,HA,HK2,HO_9,HO_451002,BK450,BK451,HB⟩:=hrel
    obtain ⟨k2,rfl⟩:=ysu gk (fun h=>by subst h;exact absurd HA.out (by simp [gain_Take.l0]))
    have H:=HA.out;clear HA
    simp only [gain_Take.l0] at H
    by_cases c17 : x27_2 < 5
    ·
     rw [if_pos c17] at H
     have c17b0 : decide (x27_2 < 5)=true:=decide_eq_true c17
     clear c17
     by_cases c18 : a2=true
     ·
      subst c18
      rw [if_pos rfl] at H
      obtain ⟨⟨t460,t461,t462,t465,t466⟩,A19,H⟩:=ybi H
      try dsimp only at H
      obtain ⟨c20,H⟩:=yif H
      have LMc20:=zm c20;clear c20
      obtain ⟨y468,hy468⟩ : ∃ y_ : List Int,y_=(x9_2 ++ [t466]):=⟨_,rfl⟩
      replace H : (gain_Take.l0 k2 l1 true y468 (wrap64 (x27_2+1)) t460 t461 t462 t465)=some (r1,r2,r3,r4,r5,r6):=yrw hy468 H
      have Ny468:=zm hy468;clear hy468
      have H' := zm H
      clear H
      have:=NB450_451.out
      have:=NB451_450.out
      obtain ⟨_,_,_,_,_,_,_,_⟩:=yc4 BK450
      obtain ⟨Ao23,co23,eo23⟩:=Kd.V_slice HO_451002.out
      subst eo23
      try go_wp2_with (first|((with_reducible refine gate_callee (f:=88) rfl ?_);refine ygl 40 Try.func88 #[.agg #[.int .u64 x451000_2, .int .u32 x451001_2, .slice Ao23 x451002_2.length co23, .int .i64 x451003_2], .int .i64 0, .bool true] ?_;(with_reducible refine (gain_take.calls k2 x451000_2 x451001_2 (fun k_=>((P0_2_ k_∨w.heap.size≤k_)∧(some k_≠(u9 : Value).ownBlock∧(k_≠gb450∧k_≠gb451)))) _ _ x451002_2 x451003_2 0 true t460 t461 t462 t465 t466 _ HO_451002.out A19.out).mono ?_);rintro e w24 ⟨v463,rfl,ho0,hb⟩;refine ⟨_,rfl, ?_⟩;replace HO_451002:=yVb HO_451002 hb;have HO464:=yho (fun k_=>(P0_2_ k_∨w.heap.size≤k_)∧some k_≠(u9 : Value).ownBlock∧k_≠gb450∧k_≠gb451) ho0 (fun k_ hk_=>⟨Or.elim hk_ (fun hs_=>hs_.1) (fun hn_=>(.inr (Nat.le_trans (zE yhb) hn_))),yoR HO_9 hk_,yoB BK450 hk_,yoB BK451 hk_⟩);replace HO_9:=yRb HO_9 hb;replace BK450:=ybb BK450 hb;replace BK451:=ybb BK451 hb;replace HB:=ybs hb;(try clear hb);(try clear ho0))|((with_reducible refine gate_dst (N:=12) rfl ?_);refine ybx 12 #[.int .u64 0, .int .u32 0, .slice none 0 0, .int .i64 0] 82 ?_;intro gb467 hg w25 hbox hb;replace HO_9:=yRb HO_9 hb;replace HO_451002:=yVe HO_451002 hg hb;replace HO464:=yVe HO464 hg hb;have BK467:=zm (hbox);have GW467:=ygw hg;have GE467:=ygw hg;replace HB:=ybs hb;have NB450_467:=ynl BK450 hg;have NB467_450:=yng BK450 hg;replace BK450:=ybb BK450 hb;have NB451_467:=ynl BK451 hg;have NB467_451:=yng BK451 hg;replace BK451:=ybb BK451 hb;clear hb hbox hg;have:=NB467_450.out;have:=NB450_467.out;have:=NB467_451.out;have:=NB451_467.out;obtain ⟨_,_,_,_,_,_,_,_⟩:=yc4 BK467;obtain ⟨Ao29,co29,eo29⟩:=Kd.V_slice HO464.out;subst eo29))
      obtain ⟨w30,hw_⟩ : ∃ x,x=((((w25.setCell ⟨gb467,0,none⟩ (.int .u64 t460)).setCell ⟨gb467,1,none⟩ (.int .u32 t461)).setCell ⟨gb467,2,none⟩ (.slice Ao29 t462.length co29)).setCell ⟨gb467,3,none⟩ (.int .i64 t465)):=⟨_,rfl⟩
      rw [← hw_]
      replace HO_9 : Aside0 (Kd.R (Kd.int .i64) 3 w30 w.heap.size (fun k_=>(w.heap.size≤k_)) u9 x9_2):=⟨by rw [hw_];exact (yR1 HO_9 BK467)⟩
      replace HO_451002 : Aside0 (Kd.V (Kd.int .u8) 5 w30 w.heap.size (fun k_=>(P0_2_ k_∨w.heap.size≤k_)∧some k_≠(u9 : Value).ownBlock∧k_≠gb450∧k_≠gb451∧k_≠gb467) (.slice Ao23 x451002_2.length co23) x451002_2):=⟨by rw [hw_];exact (yV0 HO_451002)⟩
      replace HO464 : Aside0 (Kd.V (Kd.int .u8) 5 w30 w.heap.size (fun k_=>(P0_2_ k_∨w.heap.size≤k_)∧some k_≠(u9 : Value).ownBlock∧k_≠gb450∧k_≠gb451∧k_≠gb467) (.slice Ao29 t462.length co29) t462):=⟨by rw [hw_];exact (yV0 HO464)⟩
      replace BK450 : Aside0 (w30.heap[gb450]? = some (.cells #[.int .u64 x451000_2, .int .u32 x451001_2, .slice Ao23 x451002_2.length co23, .int .i64 x451003_2] 82 (0,0))):=⟨by rw [hw_];exact (yk BK450)⟩
      replace BK451 : Aside0 (w30.heap[gb451]? = some (.cells #[.int .u64 0, .int .u32 0, .slice none 0 0, .int .i64 0] 82 (0,0))):=⟨by rw [hw_];exact (yk BK451)⟩
      replace BK467 : Aside0 (w30.heap[gb467]? = some (.cells #[.int .u64 t460, .int .u32 t461, .slice Ao29 t462.length co29, .int .i64 t465] 82 (0,0))):=⟨by rw [hw_];exact (ykp BK467)⟩
      replace HB : Aside0 (Below w.heap.size w w30):=⟨by rw [hw_];exact (yhb)⟩
      clear hw_
      replace HO_9:=zm (zq HO_9.out)
      replace HO_451002:=zm (zC HO_451002.out)
      replace HO464:=zm (zC HO464.out)
      replace BK450:=zm (zj BK450.out)
      replace BK451:=zm (zj BK451.out)
      replace BK467:=zm (zj BK467.out)
      replace HB:=zm (zf HB.out)
      refine start_ (n:=7) (S:=fun w' => w'.cell? ⟨gb467,0,none⟩=some (.int .u64 t460)∧w'.cell? ⟨gb467,1,none⟩=some (.int .u32 t461)∧w'.cell? ⟨gb467,2,none⟩=some (.slice Ao29 t462.length co29)∧w'.cell? ⟨gb467,3,none⟩=some (.int .i64 t465)) (ds := []) #[false,false,false,false,false,false,false] (by kernel_rfl) rfl rfl ⟨(zs BK467.out 0).trans rfl,(zs BK467.out 1).trans rfl,(zs BK467.out 2).trans rfl,(zs BK467.out 3).trans rfl⟩ (fun hHeld => ?_)
      generalize w30.drew=w31 at HO_9 HO_451002 HO464 BK450 BK451 BK467 HB hHeld ⊢
      refine pure_ (i:=1) (N:=some 44) (v := ?_) (a' := ?_) #[false,true,false,false,false,false,false] rfl rfl (by kernel_rfl) (fun _ _ _ h=>h) (Or.inl ⟨by rfl, ?_⟩) ?_ ?_
      rotate_left
      ·
       intro w'
       go_simp
       with_reducible rfl
      rotate_left
      ·
       simp only [Act.put,List.setIfInBounds_toArray,List.set_cons_zero,List.set_cons_succ,i64_w,i32_w]
       rfl
      refine pure_ (i:=2) (N:=some 45) (v := ?_) (a' := ?_) #[false,true,true,false,false,false,false] rfl rfl (by kernel_rfl) (fun _ _ _ h=>h) (Or.inl ⟨by rfl, ?_⟩) ?_ ?_
      rotate_left
      ·
       intro w'
       go_simp
       with_reducible rfl
      rotate_left
      ·
       simp only [Act.put,List.setIfInBounds_toArray,List.set_cons_zero,List.set_cons_succ,i64_w,i32_w]
       rfl
      refine take_ (i:=0) (N:=some 43) (v := ?_) (a' := ?_) #[true,true,true,false,false,false,false] rfl rfl (by kernel_rfl) (fun _ _ _ h=>h) (Or.inl ⟨by rfl, ?_⟩) hHeld ?_ ?_
      rotate_left
      ·
       rintro w' ⟨s0,s1,s2,s3⟩
       go_simp
       with_reducible rfl
      rotate_left
      ·
       simp only [Act.put,List.setIfInBounds_toArray,List.set_cons_zero,List.set_cons_succ,i64_w,i32_w]
       rfl
      refine one_ (i:=3) (N:=some 46) #[true,true,true,true,false,false,false] rfl rfl (by kernel_rfl) (by decide) (fun K hK => ?_)
      refine value_ (w1 := ?_) (v := ?_) (by rfl) rfl ?_ ?_
      rotate_left 2
      ·
       go_simp
       constructor
       ·
        rfl
       ·
        rfl
      refine hK.out _ _ ⟨(zs (zi BK467.out _) 0).trans rfl,(zs (zi BK467.out _) 1).trans rfl,(zs (zi BK467.out _) 2).trans rfl,(zs (zi BK467.out _) 3).trans rfl⟩ (fun hHeld => ?_)
      clear hK K
      refine ym (some 46) ?_
      refine one_ (i:=4) (N:=some 47) #[true,true,true,true,true,false,false] rfl rfl (by kernel_rfl) (by decide) (fun K hK => ?_)
      refine Kd.R_append_step (Kd.int .i64) (w0:=w) w.heap.size (by rfl) (.tmp 44) (.tmp 46) 49 3 (.int .i64 0) 8 rfl Try.underlying49 info3 rfl (by decide) (by omega) u9 x9_2 t466 [.int .i64 t466] (fun k_=>(w.heap.size≤k_)) (fun _=>False) rfl rfl ?aP (fun _ hk=>hk.elim) ?aF ?aO ?aB ?aS ?aL ?_
      (case aP=>exact rfl)
      (case aB=>exact yhb)
      (case aF=>exact (fun k_ hk=>(Nat.le_trans (zE yhb) hk)))
      (case aO=>exact (yr HO_9))
      (case aS=>exact (zE yhb))
      (case aL=>have:=LMc20.out;omega)
      intro v469 w32 ho hb hg hat
      rw [← Ny468.out] at ho
      replace HO_451002:=zm (Kd.V_afterv (ok:=(fun k_=>(P0_2_ k_∨w.heap.size≤k_)∧k_≠gb450∧k_≠gb451∧k_≠gb467)) (yV0 HO_451002) hg hat)
      replace BK450:=zm (blk_grown (yk BK450) hg (zu HO_9.out BK450.out (by decide)))
      replace BK451:=zm (blk_grown (yk BK451) hg (zu HO_9.out BK451.out (by decide)))
      replace HO464:=zm (Kd.V_afterv (ok:=(fun k_=>(P0_2_ k_∨w.heap.size≤k_)∧k_≠gb450∧k_≠gb451∧k_≠gb467)) (yV0 HO464) hg hat)
      replace BK467:=zm (blk_grown (yk BK467) hg (zu HO_9.out BK467.out (by decide)))
      replace HB:=zm (hb)
      have HO470:=zm (ho);clear HO_9;clear ho hb hg hat
      refine hK.out _ _ yH (fun hHeld => ?_)
      clear hK K
      refine ym (some 47) ?_
      refine one_ (i:=5) (N:=none) #[true,true,true,true,true,true,false] rfl rfl (by kernel_rfl) (by decide) (fun K hK => ?_)
      have hs33 : w32.cell? ⟨gb450,0,none⟩=some (.int .u64 x451000_2):=(zs BK450.out 0).trans rfl
      have hfs33:=zx BK450.out 0
      have:=NB451_450.out
      have:=NB467_450.out
      have:=NB450_451.out
      have:=NB450_467.out
      have hs34 : w32.cell? ⟨gb450,1,none⟩=some (.int .u32 x451001_2):=(zs BK450.out 1).trans rfl
      have hfs34:=zx BK450.out 1
      have:=NB451_450.out
      have:=NB467_450.out
      have:=NB450_451.out
      have:=NB450_467.out
      have hs35 : w32.cell? ⟨gb450,2,none⟩=some (.slice Ao23 x451002_2.length co23):=(zs BK450.out 2).trans rfl
      have hfs35:=zx BK450.out 2
      have:=NB451_450.out
      have:=NB467_450.out
      have:=NB450_451.out
      have:=NB450_467.out
      have hs36 : w32.cell? ⟨gb450,3,none⟩=some (.int .i64 x451003_2):=(zs BK450.out 3).trans rfl
      have hfs36:=zx BK450.out 3
      have:=NB451_450.out
      have:=NB467_450.out
      have:=NB450_451.out
      have:=NB450_467.out
      refine skip_ (w1 := ?_) (by rfl) rfl ?_ ?_
      rotate_left
      ·
       go_simp
       rfl
      refine hK.out _ _ yH (fun hHeld => ?_)
      clear hK K
      refine pure_ (i:=6) (N:=some 9) (v := ?_) (a' := ?_) #[true,true,true,true,true,true,true] rfl rfl (by kernel_rfl) (fun _ _ _ h=>h) (Or.inl ⟨by rfl, ?_⟩) ?_ ?_
      rotate_left
      ·
       intro w'
       go_simp
       with_reducible rfl
      rotate_left
      ·
       simp only [Act.put,List.setIfInBounds_toArray,List.set_cons_zero,List.set_cons_succ,i64_w,i32_w]
       rfl
      refine done_ (by kernel_rfl) ?_
      try go_wp2
      go_roundg k2
      case measure=>exact yom2 HJ3 HK2
      case rel=>exact ⟨(y468),(wrap64 (x27_2+1)),(t460),(t461),(t462),(t465),(.slice Ao29 t462.length co29),yq,H',⟨yom2 HJ3 HK2⟩,⟨yR1 HO470 BK450⟩,⟨yV0 HO464⟩,⟨ykp BK450⟩,⟨yk BK451⟩,⟨yhb⟩⟩
     ·
      replace c18:=Bool.eq_false_iff.mpr c18
      subst c18
      rw [ynf] at H
      obtain ⟨c37,H⟩:=yif H
      have c37b0 : decide (0≤x27_2)=true:=decide_eq_true c37
      clear c37
      obtain ⟨c38,H⟩:=yif H
      have c38b0 : decide (x27_2 < (l1.length : Int))=true:=decide_eq_true c38
      clear c38
      obtain ⟨⟨t472,t473,t474,t477,t478⟩,A39,H⟩:=ybi H
      try dsimp only at H
      obtain ⟨c40,H⟩:=yif H
      have LMc40:=zm c40;clear c40
      obtain ⟨y480,hy480⟩ : ∃ y_ : List Int,y_=(x9_2 ++ [t478]):=⟨_,rfl⟩
      replace H : (gain_Take.l0 k2 l1 false y480 (wrap64 (x27_2+1)) t472 t473 t474 t477)=some (r1,r2,r3,r4,r5,r6):=yrw hy480 H
      have Ny480:=zm hy480;clear hy480
      have H' := zm H
      clear H
      have p471 : 0≤(x27_2 : Int):=yt
      have q471 : x27_2 < (l1.length : Int):=yt
      obtain ⟨ad471,e471,hx471_0⟩:=Kd.at_int HR1.out x27_2 p471 q471
      cases e471
      replace hx471_0:=yhx HB hx471_0
      replace p471:=eq_true p471
      replace q471:=eq_true q471
      have:=NB450_451.out
      have:=NB451_450.out
      obtain ⟨_,_,_,_,_,_,_,_⟩:=yc4 BK450
      obtain ⟨Ao43,co43,eo43⟩:=Kd.V_slice HO_451002.out
      subst eo43
      try go_wp2_with (first|((with_reducible refine gate_callee (f:=88) rfl ?_);refine ygl 40 Try.func88 #[.agg #[.int .u64 x451000_2, .int .u32 x451001_2, .slice Ao43 x451002_2.length co43, .int .i64 x451003_2], .int .i64 (rd l1 x27_2), .bool false] ?_;(with_reducible refine (gain_take.calls k2 x451000_2 x451001_2 (fun k_=>((P0_2_ k_∨w.heap.size≤k_)∧(some k_≠(u9 : Value).ownBlock∧(k_≠gb450∧k_≠gb451)))) _ _ x451002_2 x451003_2 (rd l1 x27_2) false t472 t473 t474 t477 t478 _ HO_451002.out A39.out).mono ?_);rintro e w44 ⟨v475,rfl,ho0,hb⟩;refine ⟨_,rfl, ?_⟩;replace HO_451002:=yVb HO_451002 hb;have HO476:=yho (fun k_=>(P0_2_ k_∨w.heap.size≤k_)∧some k_≠(u9 : Value).ownBlock∧k_≠gb450∧k_≠gb451) ho0 (fun k_ hk_=>⟨Or.elim hk_ (fun hs_=>hs_.1) (fun hn_=>(.inr (Nat.le_trans (zE yhb) hn_))),yoR HO_9 hk_,yoB BK450 hk_,yoB BK451 hk_⟩);replace HO_9:=yRb HO_9 hb;replace BK450:=ybb BK450 hb;replace BK451:=ybb BK451 hb;replace HB:=ybs hb;(try clear hb);(try clear ho0))|((with_reducible refine gate_dst (N:=12) rfl ?_);refine ybx 12 #[.int .u64 0, .int .u32 0, .slice none 0 0, .int .i64 0] 82 ?_;intro gb479 hg w45 hbox hb;replace HO_9:=yRb HO_9 hb;replace HO_451002:=yVe HO_451002 hg hb;replace HO476:=yVe HO476 hg hb;have BK479:=zm (hbox);have GW479:=ygw hg;have GE479:=ygw hg;replace HB:=ybs hb;have NB450_479:=ynl BK450 hg;have NB479_450:=yng BK450 hg;replace BK450:=ybb BK450 hb;have NB451_479:=ynl BK451 hg;have NB479_451:=yng BK451 hg;replace BK451:=ybb BK451 hb;clear hb hbox hg;have:=NB479_450.out;have:=NB450_479.out;have:=NB479_451.out;have:=NB451_479.out;obtain ⟨_,_,_,_,_,_,_,_⟩:=yc4 BK479;obtain ⟨Ao49,co49,eo49⟩:=Kd.V_slice HO476.out;subst eo49))
      obtain ⟨w50,hw_⟩ : ∃ x,x=((((w45.setCell ⟨gb479,0,none⟩ (.int .u64 t472)).setCell ⟨gb479,1,none⟩ (.int .u32 t473)).setCell ⟨gb479,2,none⟩ (.slice Ao49 t474.length co49)).setCell ⟨gb479,3,none⟩ (.int .i64 t477)):=⟨_,rfl⟩
      rw [← hw_]
      replace HO_9 : Aside0 (Kd.R (Kd.int .i64) 3 w50 w.heap.size (fun k_=>(w.heap.size≤k_)) u9 x9_2):=⟨by rw [hw_];exact (yR1 HO_9 BK479)⟩
      replace HO_451002 : Aside0 (Kd.V (Kd.int .u8) 5 w50 w.heap.size (fun k_=>(P0_2_ k_∨w.heap.size≤k_)∧some k_≠(u9 : Value).ownBlock∧k_≠gb450∧k_≠gb451∧k_≠gb479) (.slice Ao43 x451002_2.length co43) x451002_2):=⟨by rw [hw_];exact (yV0 HO_451002)⟩
      replace HO476 : Aside0 (Kd.V (Kd.int .u8) 5 w50 w.heap.size (fun k_=>(P0_2_ k_∨w.heap.size≤k_)∧some k_≠(u9 : Value).ownBlock∧k_≠gb450∧k_≠gb451∧k_≠gb479) (.slice Ao49 t474.length co49) t474):=⟨by rw [hw_];exact (yV0 HO476)⟩
      replace BK450 : Aside0 (w50.heap[gb450]? = some (.cells #[.int .u64 x451000_2, .int .u32 x451001_2, .slice Ao43 x451002_2.length co43, .int .i64 x451003_2] 82 (0,0))):=⟨by rw [hw_];exact (yk BK450)⟩
      replace BK451 : Aside0 (w50.heap[gb451]? = some (.cells #[.int .u64 0, .int .u32 0, .slice none 0 0, .int .i64 0] 82 (0,0))):=⟨by rw [hw_];exact (yk BK451)⟩
      replace BK479 : Aside0 (w50.heap[gb479]? = some (.cells #[.int .u64 t472, .int .u32 t473, .slice Ao49 t474.length co49, .int .i64 t477] 82 (0,0))):=⟨by rw [hw_];exact (ykp BK479)⟩
      replace HB : Aside0 (Below w.heap.size w w50):=⟨by rw [hw_];exact (yhb)⟩
      clear hw_
      replace HO_9:=zm (zq HO_9.out)
      replace HO_451002:=zm (zC HO_451002.out)
      replace HO476:=zm (zC HO476.out)
      replace BK450:=zm (zj BK450.out)
      replace BK451:=zm (zj BK451.out)
      replace BK479:=zm (zj BK479.out)
      replace HB:=zm (zf HB.out)
      refine start_ (n:=7) (S:=fun w' => w'.cell? ⟨gb479,0,none⟩=some (.int .u64 t472)∧w'.cell? ⟨gb479,1,none⟩=some (.int .u32 t473)∧w'.cell? ⟨gb479,2,none⟩=some (.slice Ao49 t474.length co49)∧w'.cell? ⟨gb479,3,none⟩=some (.int .i64 t477)) (ds := []) #[false,false,false,false,false,false,false] (by kernel_rfl) rfl rfl ⟨(zs BK479.out 0).trans rfl,(zs BK479.out 1).trans rfl,(zs BK479.out 2).trans rfl,(zs BK479.out 3).trans rfl⟩ (fun hHeld => ?_)
      generalize w50.drew=w51 at HO_9 HO_451002 HO476 BK450 BK451 BK479 HB hHeld ⊢
      refine pure_ (i:=1) (N:=some 44) (v := ?_) (a' := ?_) #[false,true,false,false,false,false,false] rfl rfl (by kernel_rfl) (fun _ _ _ h=>h) (Or.inl ⟨by rfl, ?_⟩) ?_ ?_
      rotate_left
      ·
       intro w'
       go_simp
       with_reducible rfl
      rotate_left
      ·
       simp only [Act.put,List.setIfInBounds_toArray,List.set_cons_zero,List.set_cons_succ,i64_w,i32_w]
       rfl
      refine pure_ (i:=2) (N:=some 45) (v := ?_) (a' := ?_) #[false,true,true,false,false,false,false] rfl rfl (by kernel_rfl) (fun _ _ _ h=>h) (Or.inl ⟨by rfl, ?_⟩) ?_ ?_
      rotate_left
      ·
       intro w'
       go_simp
       with_reducible rfl
      rotate_left
      ·
       simp only [Act.put,List.setIfInBounds_toArray,List.set_cons_zero,List.set_cons_succ,i64_w,i32_w]
       rfl
      refine take_ (i:=0) (N:=some 43) (v := ?_) (a' := ?_) #[true,true,true,false,false,false,false] rfl rfl (by kernel_rfl) (fun _ _ _ h=>h) (Or.inl ⟨by rfl, ?_⟩) hHeld ?_ ?_
      rotate_left
      ·
       rintro w' ⟨s0,s1,s2,s3⟩
       go_simp
       with_reducible rfl
      rotate_left
      ·
       simp only [Act.put,List.setIfInBounds_toArray,List.set_cons_zero,List.set_cons_succ,i64_w,i32_w]
       rfl
      refine one_ (i:=3) (N:=some 46) #[true,true,true,true,false,false,false] rfl rfl (by kernel_rfl) (by decide) (fun K hK => ?_)
      refine value_ (w1 := ?_) (v := ?_) (by rfl) rfl ?_ ?_
      rotate_left 2
      ·
       go_simp
       constructor
       ·
        rfl
       ·
        rfl
      refine hK.out _ _ ⟨(zs (zi BK479.out _) 0).trans rfl,(zs (zi BK479.out _) 1).trans rfl,(zs (zi BK479.out _) 2).trans rfl,(zs (zi BK479.out _) 3).trans rfl⟩ (fun hHeld => ?_)
      clear hK K
      refine ym (some 46) ?_
      refine one_ (i:=4) (N:=some 47) #[true,true,true,true,true,false,false] rfl rfl (by kernel_rfl) (by decide) (fun K hK => ?_)
      refine Kd.R_append_step (Kd.int .i64) (w0:=w) w.heap.size (by rfl) (.tmp 44) (.tmp 46) 49 3 (.int .i64 0) 8 rfl Try.underlying49 info3 rfl (by decide) (by omega) u9 x9_2 t478 [.int .i64 t478] (fun k_=>(w.heap.size≤k_)) (fun _=>False) rfl rfl ?aP (fun _ hk=>hk.elim) ?aF ?aO ?aB ?aS ?aL ?_
      (case aP=>exact rfl)
      (case aB=>exact yhb)
      (case aF=>exact (fun k_ hk=>(Nat.le_trans (zE yhb) hk)))
      (case aO=>exact (yr HO_9))
      (case aS=>exact (zE yhb))
      (case aL=>have:=LMc40.out;omega)
      intro v481 w52 ho hb hg hat
      rw [← Ny480.out] at ho
      replace HO_451002:=zm (Kd.V_afterv (ok:=(fun k_=>(P0_2_ k_∨w.heap.size≤k_)∧k_≠gb450∧k_≠gb451∧k_≠gb479)) (yV0 HO_451002) hg hat)
      replace BK450:=zm (blk_grown (yk BK450) hg (zu HO_9.out BK450.out (by decide)))
      replace BK451:=zm (blk_grown (yk BK451) hg (zu HO_9.out BK451.out (by decide)))
      replace HO476:=zm (Kd.V_afterv (ok:=(fun k_=>(P0_2_ k_∨w.heap.size≤k_)∧k_≠gb450∧k_≠gb451∧k_≠gb479)) (yV0 HO476) hg hat)
      replace BK479:=zm (blk_grown (yk BK479) hg (zu HO_9.out BK479.out (by decide)))
      replace HB:=zm (hb)
      have HO482:=zm (ho);clear HO_9;clear ho hb hg hat
      refine hK.out _ _ yH (fun hHeld => ?_)
      clear hK K
      refine ym (some 47) ?_
      refine one_ (i:=5) (N:=none) #[true,true,true,true,true,true,false] rfl rfl (by kernel_rfl) (by decide) (fun K hK => ?_)
      have hs53 : w52.cell? ⟨gb450,0,none⟩=some (.int .u64 x451000_2):=(zs BK450.out 0).trans rfl
      have hfs53:=zx BK450.out 0
      have:=NB451_450.out
      have:=NB479_450.out
      have:=NB450_451.out
      have:=NB450_479.out
      have hs54 : w52.cell? ⟨gb450,1,none⟩=some (.int .u32 x451001_2):=(zs BK450.out 1).trans rfl
      have hfs54:=zx BK450.out 1
      have:=NB451_450.out
      have:=NB479_450.out
      have:=NB450_451.out
      have:=NB450_479.out
      have hs55 : w52.cell? ⟨gb450,2,none⟩=some (.slice Ao43 x451002_2.length co43):=(zs BK450.out 2).trans rfl
      have hfs55:=zx BK450.out 2
      have:=NB451_450.out
      have:=NB479_450.out
      have:=NB450_451.out
      have:=NB450_479.out
      have hs56 : w52.cell? ⟨gb450,3,none⟩=some (.int .i64 x451003_2):=(zs BK450.out 3).trans rfl
      have hfs56:=zx BK450.out 3
      have:=NB451_450.out
      have:=NB479_450.out
      have:=NB450_451.out
      have:=NB450_479.out
      refine skip_ (w1 := ?_) (by rfl) rfl ?_ ?_
      rotate_left
      ·
       go_simp
       rfl
      refine hK.out _ _ yH (fun hHeld => ?_)
      clear hK K
      refine pure_ (i:=6) (N:=some 9) (v := ?_) (a' := ?_) #[true,true,true,true,true,true,true] rfl rfl (by kernel_rfl) (fun _ _ _ h=>h) (Or.inl ⟨by rfl, ?_⟩) ?_ ?_
      rotate_left
      ·
       intro w'
       go_simp
       with_reducible rfl
      rotate_left
      ·
       simp only [Act.put,List.setIfInBounds_toArray,List.set_cons_zero,List.set_cons_succ,i64_w,i32_w]
       rfl
      refine done_ (by kernel_rfl) ?_
      try go_wp2
      go_roundg k2
      case measure=>exact yom2 HJ3 HK2
      case rel=>exact ⟨(y480),(wrap64 (x27_2+1)),(t472),(t473),(t474),(t477),(.slice Ao49 t474.length co49),yq,H',⟨yom2 HJ3 HK2⟩,⟨yR1 HO482 BK450⟩,⟨yV0 HO476⟩,⟨ykp BK450⟩,⟨yk BK451⟩,⟨yhb⟩⟩
    ·
     rw [if_neg c17] at H
     have c17b0 : decide (x27_2 < 5)=false:=decide_eq_false c17
     clear c17
     simp only [Option.some.injEq,Prod.mk.injEq] at H
     obtain ⟨rfl,rfl,rfl,rfl,rfl,rfl⟩:=H
     have:=NB450_451.out
     have:=NB451_450.out
     obtain ⟨_,_,_,_,_,_,_,_⟩:=yc4 BK450
     obtain ⟨_,_,_,_,_,_,_,_⟩:=yc4 BK451
     obtain ⟨Ao60,co60,eo60⟩:=Kd.V_slice HO_451002.out
     subst eo60
     go_wp2
     refine bodyPost_ret (results_ctt rfl _ _ gb451 82 #[.int .u64 x451000_2, .int .u32 x451001_2, .slice Ao60 x451002_2.length co60, .int .i64 x451003_2] (0,0) _ rfl (ykp BK451) Try.underlying82 rfl (by kernel_rfl)) rfl ?_
     exact ⟨_,_,ye,yV0 HO_451002,yR1 HO_9 BK451,yhb⟩
end Go.Proofs.Ytnmbndkojpjkmaa.Prt
