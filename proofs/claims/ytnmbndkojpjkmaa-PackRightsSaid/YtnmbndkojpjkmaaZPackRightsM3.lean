-- Functions of the program and of the document as plain Lean, each with the proof that the code comes to it. Written by a program of this session (wip/tools/myprint.py, pack.py) over the kit's printer; Lean checks it.
import Derived.Test.YtnmbndkojpjkmaaZPackRightsPrt0
import Derived.Test.YtnmbndkojpjkmaaZPackRightsM2
import Derived.Test.YtnmbndkojpjkmaaZPackRightsM1
import Derived.Test.YtnmbndkojpjkmaaZPackRightsSh
import Derived.Laws.CopyOwn
namespace Go.Proofs.Ytnmbndkojpjkmaa.Prt
open Go.RowKit Go.Proofs.YtnmbndkojpjkmaaW.PrintWords Go.Proofs.YtnmbndkojpjkmaaW.PrintLast Go.Proofs.YtnmbndkojpjkmaaW.PrintMore
attribute [local go_sem] max2_int min2_int max_two min_two max_three min_three max_four min_four   -- for this text's walks alone
set_option linter.unusedVariables false
set_option linter.unusedSimpArgs false


mutual
def gain_Put.j0 : Nat→List Int→List Int→Bool→Bool→Int→Int→List Int→Int→Int→List Int→Option (Int × Int × List Int × Int)
 | 0,_,_,_,_,_,_,_,_,_,_=>none
 | k+1,x1,x2,x3,x33,x267000,x267001,x267002,x275000,x275001,x275002=>if x33=true then (some (x275000,x275001,x275002,1)) else (gain_Put.l0 k x1 x2 x3 0 x275000 x275001 x275002 x267000 x267001 x267002)
def gain_Put.l0 : Nat→List Int→List Int→Bool→Int→Int→Int→List Int→Int→Int→List Int→Option (Int × Int × List Int × Int)
 | 0,_,_,_,_,_,_,_,_,_,_=>none
 | k+1,x1,x2,x3,x36,x275000,x275001,x275002,x278000,x278001,x278002=>if x36 < 5 then (if x3=true then (gain_Put.j2 k x1 x2 x3 x36 0 x36 x275000 x275001 x275002 x278000 x278001 x278002) else (if 0≤x36 then (if x36 < (x2.length : Int) then (gain_Put.j2 k x1 x2 x3 x36 (rd x2 x36) x36 x275000 x275001 x275002 x278000 x278001 x278002) else (none)) else (none))) else (some (x278000,x278001,x278002,0))
def gain_Put.j2 : Nat→List Int→List Int→Bool→Int→Int→Int→Int→Int→List Int→Int→Int→List Int→Option (Int × Int × List Int × Int)
 | 0,_,_,_,_,_,_,_,_,_,_,_,_=>none
 | k+1,x1,x2,x3,x13,x14,x36,x275000,x275001,x275002,x278000,x278001,x278002=>if 0≤x13 then (if x13 < (x1.length : Int) then ((gain_put.f k x278000 x278001 x278002 (rd x1 x13) x14 x3).bind fun bt280=>(if bt280.2.2.2=0 then (gain_Put.l0 k x1 x2 x3 (wrap64 (x36+1)) x275000 x275001 x275002 bt280.1 bt280.2.1 bt280.2.2.1) else (some (x275000,x275001,x275002,bt280.2.2.2)))) else (none)) else (none)
end
def gain_Put.f (k : Nat) (a0_0 : Int) (a0_1 : Int) (l0_2 : List Int) (l1 : List Int) (l2 : List Int) (a3 : Bool) : Option (Int × Int × List Int × Int):=(coder_Put.f k a0_0 a0_1 l0_2 0 1 0).bind fun bt268=>((gain_Right.f k l1).bind fun t275=>(if t275=true then (if a3=true then (gain_Put.j0 k l1 l2 a3 false a0_0 a0_1 l0_2 bt268.1 bt268.2.1 bt268.2.2.1) else ((gain_Right.f k l2).bind fun t276=>(gain_Put.j0 k l1 l2 a3 (!t276) a0_0 a0_1 l0_2 bt268.1 bt268.2.1 bt268.2.2.1))) else (gain_Put.j0 k l1 l2 a3 true a0_0 a0_1 l0_2 bt268.1 bt268.2.1 bt268.2.2.1)))
theorem gain_Put.mono_l : ∀ k,(∀ y0 y1 y2 y3 y4 y5 y6 y7 y8 y9,LeO (gain_Put.j0 k y0 y1 y2 y3 y4 y5 y6 y7 y8 y9) (gain_Put.j0 (k+1) y0 y1 y2 y3 y4 y5 y6 y7 y8 y9))∧(∀ y0 y1 y2 y3 y4 y5 y6 y7 y8 y9,LeO (gain_Put.l0 k y0 y1 y2 y3 y4 y5 y6 y7 y8 y9) (gain_Put.l0 (k+1) y0 y1 y2 y3 y4 y5 y6 y7 y8 y9))∧(∀ y0 y1 y2 y3 y4 y5 y6 y7 y8 y9 y10 y11,LeO (gain_Put.j2 k y0 y1 y2 y3 y4 y5 y6 y7 y8 y9 y10 y11) (gain_Put.j2 (k+1) y0 y1 y2 y3 y4 y5 y6 y7 y8 y9 y10 y11))
 | 0=>⟨fun _ _ _ _ _ _ _ _ _ _ r h=>by simp [gain_Put.j0] at h,fun _ _ _ _ _ _ _ _ _ _ r h=>by simp [gain_Put.l0] at h,fun _ _ _ _ _ _ _ _ _ _ _ _ r h=>by simp [gain_Put.j2] at h⟩
 | k+1=>by
  obtain ⟨ih0,ih1,ih2⟩:=gain_Put.mono_l k
  refine ⟨?_, ?_, ?_⟩
  ·
   intro y0 y1 y2 y3 y4 y5 y6 y7 y8 y9
   unfold gain_Put.j0
   repeat' with_reducible first|apply ih0|apply ih1|apply ih2|apply coder_Put.mono|apply gain_Right.mono|apply gain_put.mono|apply yLr|apply yLn|apply yLi|apply yLb|intro _
  ·
   intro y0 y1 y2 y3 y4 y5 y6 y7 y8 y9
   unfold gain_Put.l0
   repeat' with_reducible first|apply ih0|apply ih1|apply ih2|apply coder_Put.mono|apply gain_Right.mono|apply gain_put.mono|apply yLr|apply yLn|apply yLi|apply yLb|intro _
  ·
   intro y0 y1 y2 y3 y4 y5 y6 y7 y8 y9 y10 y11
   unfold gain_Put.j2
   repeat' with_reducible first|apply ih0|apply ih1|apply ih2|apply coder_Put.mono|apply gain_Right.mono|apply gain_put.mono|apply yLr|apply yLn|apply yLi|apply yLb|intro _
theorem gain_Put.mono : ∀ a0 a1 a2 a3 a4 a5 k,LeO (gain_Put.f k a0 a1 a2 a3 a4 a5) (gain_Put.f (k+1) a0 a1 a2 a3 a4 a5):=by
 intro a0 a1 a2 a3 a4 a5 k
 obtain ⟨ih0,ih1,ih2⟩:=gain_Put.mono_l k
 unfold gain_Put.f
 repeat' with_reducible first|apply ih0|apply ih1|apply ih2|apply coder_Put.mono|apply gain_Right.mono|apply gain_put.mono|apply yLr|apply yLn|apply yLi|apply yLb|intro _
def gain_Put.T11 : Bool × List (List Nat × List Nat):=(true, [([], []),([], []),([], []),([1,2], [1,2]),([3], [3]),([], []),([], []),([0,4,5,6], [0,4,5,6]),([7], [7]),([8], [8]),([8], [8]),([], []),([11,9,7,0,1,2,3,4,5,6,7,8,9,11], [9,11]),([10,12,0,1,2,3,4,5,6,7,8,9,10,11,12], [10])])
def gain_Put.B11 : List Nat := [0,0,0,6,14,0,0,127,255,511,511,0,3071,8191]
theorem gain_Put.tab11 : rtab .any (opsOf Try.f28 11)=gain_Put.T11:=by kernel_rfl
theorem gain_Put.bits11 : waitsOk gain_Put.T11.2 gain_Put.B11=true:=by kernel_rfl
set_option maxHeartbeats 8000000 in
set_option maxRecDepth 100000 in
theorem gain_Put.calls (k : Nat) (a0_0 : Int) (a0_1 : Int) (P0_2_ : Nat→Prop) (A0_2 : Option Addr) (c0_2 : Nat) (l0_2 : List Int) (A1 : Option Addr) (c1 : Nat) (l1 : List Int) (A2 : Option Addr) (c2 : Nat) (l2 : List Int) (a3 : Bool) (r1 : Int) (r2 : Int) (r3 : List Int) (r4 : Int) (w : World) (hs0_2 : Kd.V (Kd.int .u8) 5 w w.heap.size (fun k_=>P0_2_ k_) (.slice A0_2 l0_2.length c0_2) l0_2) (hr1 : Kd.C (Kd.int .i64) w A1 l1.length l1) (hc1 : l1.length≤c1) (hr2 : Kd.C (Kd.int .i64) w A2 l2.length l2) (hc2 : l2.length≤c2) (h : gain_Put.f k a0_0 a0_1 l0_2 l1 l2 a3=some (r1,r2,r3,r4)) :
  Calls Try.prog 28 #[.agg #[.int .u64 a0_0, .int .u32 a0_1, .slice A0_2 l0_2.length c0_2], .slice A1 l1.length c1, .slice A2 l2.length c2, .bool a3] w fun e w' => ∃ v2_ : Value,e=.returned (.tuple #[.agg #[.int .u64 r1, .int .u32 r2,v2_], .int .i64 r4])∧Kd.V (Kd.int .u8) 5 w' w.heap.size (fun k_=>(P0_2_ k_∨w.heap.size≤k_)) v2_ r3∧Below w.heap.size w w' := by
 have hu54:=Try.underlying54
 have HO0_2:=zm (show Kd.V (Kd.int .u8) 5 w w.heap.size (fun k_=>(P0_2_ k_∨w.heap.size≤k_)) (.slice A0_2 l0_2.length c0_2) l0_2 from zy hs0_2 (fun k_ hk => .inl hk))
 have HR1:=zm hr1;have HC1:=zm hc1;clear hr1 hc1;have HR2:=zm hr2;have HC2:=zm hc2;clear hr2 hc2;have HB:=zm (Below.refl w.heap.size w)
 have H : ((coder_Put.f k a0_0 a0_1 l0_2 0 1 0).bind fun bt268=>((gain_Right.f k l1).bind fun t275=>(if t275=true then (if a3=true then (gain_Put.j0 k l1 l2 a3 false a0_0 a0_1 l0_2 bt268.1 bt268.2.1 bt268.2.2.1) else ((gain_Right.f k l2).bind fun t276=>(gain_Put.j0 k l1 l2 a3 (!t276) a0_0 a0_1 l0_2 bt268.1 bt268.2.1 bt268.2.2.1))) else (gain_Put.j0 k l1 l2 a3 true a0_0 a0_1 l0_2 bt268.1 bt268.2.1 bt268.2.2.1))))=some (r1,r2,r3,r4):=h
 clear h
 obtain ⟨⟨t268,t269,t270,t273⟩,A5,H⟩:=ybi H
 try dsimp only at H
 have HC6:=zm H;clear H
 go_enter Try.func28,Try.ntmps28
 go_upto_region 2 with (first|((with_reducible refine gate_dst (N:=4) rfl ?_);refine ybx 4 #[.int .u64 a0_0, .int .u32 a0_1, .slice A0_2 l0_2.length c0_2] 54 ?_;intro gb266 hg w7 hbox hb;replace HO0_2:=yVe HO0_2 hg hb;have BK266:=zm (hbox);have GW266:=ygw hg;have GE266:=ygw hg;replace HB:=ybs hb;clear hb hbox hg)|((with_reducible refine gate_dst (N:=8) rfl ?_);refine ybx 8 #[.int .u64 0, .int .u32 0, .slice none 0 0] 54 ?_;intro gb267 hg w8 hbox hb;replace HO0_2:=yVe HO0_2 hg hb;have BK267:=zm (hbox);have GW267:=ygw hg;have GE267:=ygw hg;replace HB:=ybs hb;have NB266_267:=ynl BK266 hg;have NB267_266:=yng BK266 hg;replace BK266:=ybb BK266 hb;clear hb hbox hg;have:=NB266_267.out;have:=NB267_266.out;obtain ⟨hcz10_0,hcz10_1,hcz10_2,hfz10_0,hfz10_1,hfz10_2⟩:=yc3 BK266)|((with_reducible refine gate_callee (f:=26) rfl ?_);refine ygl 19 Try.func26 #[.agg #[.int .u64 a0_0, .int .u32 a0_1, .slice A0_2 l0_2.length c0_2], .int .i64 0, .int .i64 1, .int .i64 0] ?_;(with_reducible refine (coder_Put.calls k a0_0 a0_1 _ _ l0_2 0 1 0 t268 t269 t270 t273 _ ?side1 ?side2 A5.out).mono ?_);(case side1=>exact yce (Kd.V_reads' HO0_2.out).2.2);(case side2=>exact (Kd.V_reads' HO0_2.out).2.1);rintro e w11 ⟨v271,rfl,ho0,hb⟩;refine ⟨_,rfl, ?_⟩;replace HO0_2:=zm (Kd.V_elder' (yr HO0_2) (Kd.R_base ho0) hb);have HO272:=zm (Kd.R_lower (Kd.R_newM (M:=fun k_=>(w.heap.size≤k_)) ho0 (zE yhb) (fun k_ h_=>h_)) (zE yhb));replace BK266:=ybb BK266 hb;replace BK267:=ybb BK267 hb;replace HB:=ybs hb;(try clear hb);(try clear ho0))|((with_reducible refine gate_dst (N:=10) rfl ?_);refine ybx 10 #[.int .u64 0, .int .u32 0, .slice none 0 0] 54 ?_;intro gb274 hg w12 hbox hb;replace HO0_2:=yVe HO0_2 hg hb;replace HO272:=yRb HO272 hb;have BK274:=zm (hbox);have GW274:=ygw hg;have GE274:=ygw hg;replace HB:=ybs hb;have NB266_274:=ynl BK266 hg;have NB274_266:=yng BK266 hg;replace BK266:=ybb BK266 hb;have NB267_274:=ynl BK267 hg;have NB274_267:=yng BK267 hg;replace BK267:=ybb BK267 hb;clear hb hbox hg;have:=NB274_266.out;have:=NB266_274.out;have:=NB274_267.out;have:=NB267_274.out;obtain ⟨hcz15_0,hcz15_1,hcz15_2,hfz15_0,hfz15_1,hfz15_2⟩:=yc3 BK274;obtain ⟨Ao16,co16,eo16⟩:=Kd.R_slice HO272.out;subst eo16))
 (try simp only [Act.put,List.setIfInBounds_toArray,List.set_cons_zero,List.set_cons_succ])
 go_cut [33] (fun v33 wc => ∃ (kq : Nat) (x33_5 : Bool),v33=.bool x33_5∧Aside0 (gain_Put.j0 kq l1 l2 a3 x33_5 a0_0 a0_1 l0_2 t268 t269 t270=some (r1,r2,r3,r4))∧Aside0 (kq≤k)∧Aside0 (Kd.V (Kd.int .u8) 5 wc w.heap.size (fun k_=>(P0_2_ k_∨w.heap.size≤k_)∧some k_≠((.slice Ao16 t270.length co16) : Value).ownBlock∧k_≠gb266∧k_≠gb267∧k_≠gb274) (.slice A0_2 l0_2.length c0_2) l0_2)∧Aside0 (Kd.R (Kd.int .u8) 5 wc w.heap.size (fun k_=>(w.heap.size≤k_)) (.slice Ao16 t270.length co16) t270)∧Aside0 (wc.heap[gb266]? = some (.cells #[.int .u64 a0_0, .int .u32 a0_1,(.slice A0_2 l0_2.length c0_2)] 54 (0,0)))∧Aside0 (wc.heap[gb267]? = some (.cells #[.int .u64 0, .int .u32 0,(.slice none 0 0)] 54 (0,0)))∧Aside0 (wc.heap[gb274]? = some (.cells #[.int .u64 t268, .int .u32 t269,(.slice Ao16 t270.length co16)] 54 (0,0)))∧Aside0 (Below w.heap.size w wc))
 case first =>
  have H:=HC6.out;clear HC6
  obtain ⟨t275,A17,H⟩:=ybi H
  by_cases c18 : t275=true
  ·
   subst c18
   rw [if_pos rfl] at H
   by_cases c19 : a3=true
   ·
    subst c19
    rw [if_pos rfl] at H
    have H' := zm H
    clear H
    go_wp2_with (first|((with_reducible refine gate_callee (f:=62) rfl ?_);refine ygl 23 Try.func62 #[.slice A1 l1.length c1] ?_;(with_reducible refine (gain_Right.calls k _ _ l1 true _ ?side1 HC1.out A17.out).mono ?_);(case side1=>exact Kd.C_below HR1.out yhb);rintro e w' ⟨rfl,⟨nd,rfl⟩⟩;refine ⟨_,rfl, ?_⟩))
    go_meet
    case rel=>exact ⟨_,(false),yq,H',⟨yo⟩,⟨yV0 HO0_2⟩,⟨yR1 HO272 BK274⟩,⟨yk BK266⟩,⟨yk BK267⟩,⟨ykp BK274⟩,⟨yhb⟩⟩
   ·
    replace c19:=Bool.eq_false_iff.mpr c19
    subst c19
    rw [ynf] at H
    obtain ⟨t276,A20,H⟩:=ybi H
    have H' := zm H
    clear H
    go_wp2_with (first|((with_reducible refine gate_callee (f:=62) rfl ?_);refine ygl 23 Try.func62 #[.slice A1 l1.length c1] ?_;(with_reducible refine (gain_Right.calls k _ _ l1 true _ ?side1 HC1.out A17.out).mono ?_);(case side1=>exact Kd.C_below HR1.out yhb);rintro e w' ⟨rfl,⟨nd,rfl⟩⟩;refine ⟨_,rfl, ?_⟩)|(go_at_call 62;(with_reducible refine (gain_Right.calls k _ _ l2 t276 _ ?side1 HC2.out A20.out).mono ?_);(case side1=>exact Kd.C_below HR2.out yhb);rintro e w' ⟨rfl,⟨nd,rfl⟩⟩))
    go_meet
    case rel=>exact ⟨_,(!t276),yq,H',⟨yo⟩,⟨yV0 HO0_2⟩,⟨yR1 HO272 BK274⟩,⟨yk BK266⟩,⟨yk BK267⟩,⟨ykp BK274⟩,⟨yhb⟩⟩
  ·
   replace c18:=Bool.eq_false_iff.mpr c18
   subst c18
   rw [ynf] at H
   have H' := zm H
   clear H
   go_wp2_with (first|((with_reducible refine gate_callee (f:=62) rfl ?_);refine ygl 23 Try.func62 #[.slice A1 l1.length c1] ?_;(with_reducible refine (gain_Right.calls k _ _ l1 false _ ?side1 HC1.out A17.out).mono ?_);(case side1=>exact Kd.C_below HR1.out yhb);rintro e w' ⟨rfl,⟨nd,rfl⟩⟩;refine ⟨_,rfl, ?_⟩))
   go_meet
   case rel=>exact ⟨_,(true),yq,H',⟨yo⟩,⟨yV0 HO0_2⟩,⟨yR1 HO272 BK274⟩,⟨yk BK266⟩,⟨yk BK267⟩,⟨ykp BK274⟩,⟨yhb⟩⟩
 case rest =>
  clear HC6
  try clear c1
  try clear c2
  try clear hcz10_0
  try clear hcz10_1
  try clear hcz10_2
  try clear hcz15_0
  try clear hcz15_1
  try clear hcz15_2
  try clear hfz10_0
  try clear hfz10_1
  try clear hfz10_2
  try clear hfz15_0
  try clear hfz15_1
  try clear hfz15_2
  obtain ⟨kq,x33_5,rfl,HA,HJ5,HO_267002,HO_275002,BK266,BK267,BK274,HB⟩:=hcut
  obtain ⟨kj5,rfl⟩:=ysu kq (fun h=>by subst h;exact absurd HA.out (by simp [gain_Put.j0]))
  have H:=HA.out;clear HA
  simp only [gain_Put.j0] at H
  by_cases c21 : x33_5=true
  ·
   subst c21
   rw [if_pos rfl] at H
   simp only [Option.some.injEq,Prod.mk.injEq] at H
   obtain ⟨rfl,rfl,rfl,rfl⟩:=H
   have:=NB274_266.out
   have:=NB266_274.out
   have:=NB274_267.out
   have:=NB267_274.out
   obtain ⟨hcz24_0,hcz24_1,hcz24_2,hfz24_0,hfz24_1,hfz24_2⟩:=yc3 BK274
   have:=NB267_266.out
   have:=NB266_267.out
   obtain ⟨hcz26_0,hcz26_1,hcz26_2,hfz26_0,hfz26_1,hfz26_2⟩:=yc3 BK267
   go_wp2
   refine bodyPost_ret (results_ct rfl _ _ gb267 54 #[.int .u64 t268, .int .u32 t269, .slice Ao16 t270.length co16] (0,0) _ rfl (ykp BK267) Try.underlying54 rfl (by kernel_rfl)) rfl ?_
   exact ⟨_,ye,zy (Kd.R_V (by (with_reducible repeat (first|apply zo|apply zp|apply zq));exact zG (zH (p:=⟨gb267,2,none⟩) (zH (p:=⟨gb267,1,none⟩) (zH (p:=⟨gb267,0,none⟩) (Kd.R_types HO_275002.out BK267.out (by decide)) (fun _ hk=>hk.2) (.int .u64 t268)) (fun _ hk=>hk.2) (.int .u32 t269)) (fun _ hk=>hk.2) (.slice Ao16 t270.length co16)) (fun _ hk=>hk.1))) (fun k_ hk=>by first|exact ⟨(.inr (hk.1)),hk.2⟩|exact (.inr (hk))),yhb⟩
  ·
   replace c21:=Bool.eq_false_iff.mpr c21
   subst c21
   rw [ynf] at H
   have H' := zm H
   clear H
   have:=NB266_267.out
   have:=NB267_266.out
   have:=NB266_274.out
   have:=NB274_266.out
   obtain ⟨hcz29_0,hcz29_1,hcz29_2,hfz29_0,hfz29_1,hfz29_2⟩:=yc3 BK266
   go_wp2_with (first|((with_reducible refine gate_dst (N:=12) rfl ?_);refine ybx 12 #[.int .u64 0, .int .u32 0, .slice none 0 0] 54 ?_;intro gb277 hg w30 hbox hb;replace HO_267002:=yVe HO_267002 hg hb;replace HO_275002:=yRb HO_275002 hb;have BK277:=zm (hbox);have GW277:=ygw hg;have GE277:=ygw hg;replace HB:=ybs hb;have NB266_277:=ynl BK266 hg;have NB277_266:=yng BK266 hg;replace BK266:=ybb BK266 hb;have NB267_277:=ynl BK267 hg;have NB277_267:=yng BK267 hg;replace BK267:=ybb BK267 hb;have NB274_277:=ynl BK274 hg;have NB277_274:=yng BK274 hg;replace BK274:=ybb BK274 hb;clear hb hbox hg;have:=NB277_266.out;have:=NB266_277.out;have:=NB277_267.out;have:=NB267_277.out;have:=NB277_274.out;have:=NB274_277.out;obtain ⟨hcz34_0,hcz34_1,hcz34_2,hfz34_0,hfz34_1,hfz34_2⟩:=yc3 BK277))
   go_loopg [36] kj5 (fun kq v36 w' => ∃ (x36_2 : Int) (x268000_2 : Int) (x268001_2 : Int) (x278000_2 : Int) (x278001_2 : Int) (x278002_2 : List Int) (u278002 : Value),v36=.int .i64 x36_2∧Aside0 (gain_Put.l0 kq l1 l2 a3 x36_2 t268 t269 t270 x278000_2 x278001_2 x278002_2=some (r1,r2,r3,r4))∧Aside0 (kq≤kj5)∧Aside0 (Kd.V (Kd.int .u8) 5 w' w.heap.size (fun k_=>(P0_2_ k_∨w.heap.size≤k_)∧some k_≠((.slice Ao16 t270.length co16) : Value).ownBlock∧k_≠gb266∧k_≠gb267∧k_≠gb274∧k_≠gb277) (.slice A0_2 l0_2.length c0_2) l0_2)∧Aside0 (Kd.R (Kd.int .u8) 5 w' w.heap.size (fun k_=>(w.heap.size≤k_)) (.slice Ao16 t270.length co16) t270)∧Aside0 (Kd.V (Kd.int .u8) 5 w' w.heap.size (fun k_=>(P0_2_ k_∨w.heap.size≤k_)∧some k_≠((.slice Ao16 t270.length co16) : Value).ownBlock∧k_≠gb266∧k_≠gb267∧k_≠gb274∧k_≠gb277) u278002 x278002_2)∧Aside0 (w'.heap[gb266]? = some (.cells #[.int .u64 a0_0, .int .u32 a0_1,(.slice A0_2 l0_2.length c0_2)] 54 (0,0)))∧Aside0 (w'.heap[gb267]? = some (.cells #[.int .u64 x268000_2, .int .u32 x268001_2,(.slice none 0 0)] 54 (0,0)))∧Aside0 (w'.heap[gb274]? = some (.cells #[.int .u64 t268, .int .u32 t269,(.slice Ao16 t270.length co16)] 54 (0,0)))∧Aside0 (w'.heap[gb277]? = some (.cells #[.int .u64 x278000_2, .int .u32 x278001_2,u278002] 54 (0,0)))∧Aside0 (Below w.heap.size w w'))
   case atStart=>exact ⟨(0),(0),(0),(a0_0),(a0_1),(l0_2),(.slice A0_2 l0_2.length c0_2),yq,H',⟨Nat.le_refl _⟩,⟨yV0 HO_267002⟩,⟨yR1 HO_275002 BK277⟩,⟨yV0 HO_267002⟩,⟨yk BK266⟩,⟨yk BK267⟩,⟨yk BK274⟩,⟨ykp BK277⟩,⟨yhb⟩⟩
   case round =>
    clear H'
    try clear hcz24_0
    try clear hcz24_1
    try clear hcz24_2
    try clear hcz26_0
    try clear hcz26_1
    try clear hcz26_2
    try clear hcz29_0
    try clear hcz29_1
    try clear hcz29_2
    try clear hcz34_0
    try clear hcz34_1
    try clear hcz34_2
    try clear hfz24_0
    try clear hfz24_1
    try clear hfz24_2
    try clear hfz26_0
    try clear hfz26_1
    try clear hfz26_2
    try clear hfz29_0
    try clear hfz29_1
    try clear hfz29_2
    try clear hfz34_0
    try clear hfz34_1
    try clear hfz34_2
    obtain ⟨x36_2,x268000_2,x268001_2,x278000_2,x278001_2,x278002_2,u278002,rfl,HA,HK2,HO_267002,HO_275002,HO_278002,BK266,BK267,BK274,BK277,HB⟩:=hrel
    obtain ⟨k2,rfl⟩:=ysu gk (fun h=>by subst h;exact absurd HA.out (by simp [gain_Put.l0]))
    have H:=HA.out;clear HA
    simp only [gain_Put.l0] at H
    by_cases c35 : x36_2 < 5
    ·
     rw [if_pos c35] at H
     have c35b0 : decide (x36_2 < 5)=true:=decide_eq_true c35
     clear c35;have HC36:=zm H;clear H
     go_upto_if 40 with (fail)
     go_cut [14] (fun v14 wc => ∃ (kq : Nat) (x14_35 : Int),v14=.int .i64 x14_35∧Aside0 (gain_Put.j2 kq l1 l2 a3 x36_2 x14_35 x36_2 t268 t269 t270 x278000_2 x278001_2 x278002_2=some (r1,r2,r3,r4))∧Aside0 (kq≤k2)∧Aside0 (Kd.V (Kd.int .u8) 5 wc w.heap.size (fun k_=>(P0_2_ k_∨w.heap.size≤k_)∧some k_≠((.slice Ao16 t270.length co16) : Value).ownBlock∧k_≠gb266∧k_≠gb267∧k_≠gb274∧k_≠gb277) (.slice A0_2 l0_2.length c0_2) l0_2)∧Aside0 (Kd.R (Kd.int .u8) 5 wc w.heap.size (fun k_=>(w.heap.size≤k_)) (.slice Ao16 t270.length co16) t270)∧Aside0 (Kd.V (Kd.int .u8) 5 wc w.heap.size (fun k_=>(P0_2_ k_∨w.heap.size≤k_)∧some k_≠((.slice Ao16 t270.length co16) : Value).ownBlock∧k_≠gb266∧k_≠gb267∧k_≠gb274∧k_≠gb277) u278002 x278002_2)∧Aside0 (wc.heap[gb266]? = some (.cells #[.int .u64 a0_0, .int .u32 a0_1,(.slice A0_2 l0_2.length c0_2)] 54 (0,0)))∧Aside0 (wc.heap[gb267]? = some (.cells #[.int .u64 x268000_2, .int .u32 x268001_2,(.slice none 0 0)] 54 (0,0)))∧Aside0 (wc.heap[gb274]? = some (.cells #[.int .u64 t268, .int .u32 t269,(.slice Ao16 t270.length co16)] 54 (0,0)))∧Aside0 (wc.heap[gb277]? = some (.cells #[.int .u64 x278000_2, .int .u32 x278001_2,u278002] 54 (0,0)))∧Aside0 (Below w.heap.size w wc))
     case first =>
      have H:=HC36.out;clear HC36
      by_cases c37 : a3=true
      ·
       subst c37
       rw [if_pos rfl] at H
       have H' := zm H
       clear H
       go_wp2
       go_meet
       case rel=>exact ⟨_,(0),yq,H',⟨yom2 HJ5 HK2⟩,⟨yr HO_267002⟩,⟨yr HO_275002⟩,⟨yr HO_278002⟩,⟨yk BK266⟩,⟨yk BK267⟩,⟨yk BK274⟩,⟨yk BK277⟩,⟨yhb⟩⟩
      ·
       replace c37:=Bool.eq_false_iff.mpr c37
       subst c37
       rw [ynf] at H
       obtain ⟨c38,H⟩:=yif H
       have c38b0 : decide (0≤x36_2)=true:=decide_eq_true c38
       clear c38
       (first|rw [c38b0]|(simp only [i64_w,i32_w];rw [c38b0])|skip)
       obtain ⟨c39,H⟩:=yif H
       have c39b0 : decide (x36_2 < (l2.length : Int))=true:=decide_eq_true c39
       clear c39
       have H' := zm H
       clear H
       have p278 : 0≤(x36_2 : Int):=yt
       have q278 : x36_2 < (l2.length : Int):=yt
       obtain ⟨ad278,e278,hx278_0⟩:=Kd.at_int HR2.out x36_2 p278 q278
       cases e278
       replace hx278_0:=yhx HB hx278_0
       replace p278:=eq_true p278
       replace q278:=eq_true q278
       go_wp2
       go_meet
       case rel=>exact ⟨_,(rd l2 x36_2),yq,H',⟨yom2 HJ5 HK2⟩,⟨yr HO_267002⟩,⟨yr HO_275002⟩,⟨yr HO_278002⟩,⟨yk BK266⟩,⟨yk BK267⟩,⟨yk BK274⟩,⟨yk BK277⟩,⟨yhb⟩⟩
     case rest =>
      clear HC36
      try clear c35b0
      obtain ⟨kq,x14_35,rfl,HA,HJ35,HO_267002,HO_275002,HO_278002,BK266,BK267,BK274,BK277,HB⟩:=hcut
      obtain ⟨kj35,rfl⟩:=ysu kq (fun h=>by subst h;exact absurd HA.out (by simp [gain_Put.j2]))
      have H:=HA.out;clear HA
      simp only [gain_Put.j2] at H
      obtain ⟨c40,H⟩:=yif H
      have c40b0 : decide (0≤x36_2)=true:=decide_eq_true c40
      clear c40
      obtain ⟨c41,H⟩:=yif H
      have c41b0 : decide (x36_2 < (l1.length : Int))=true:=decide_eq_true c41
      clear c41
      obtain ⟨⟨t280,t281,t282,t285⟩,A42,H⟩:=ybi H
      try dsimp only at H
      by_cases c43 : t285=0
      ·
       rw [if_pos c43] at H
       have c43b0 : (t285 == 0)=true:=beq_iff_eq.mpr c43
       have c43b1 : (t285 != 0)=false:=bne_eq_false_iff_eq.mpr c43
       clear c43
       have H' := zm H
       clear H
       obtain ⟨Ao44,co44,eo44⟩:=Kd.V_slice HO_278002.out
       subst eo44
       try go_wp2
       replace HO_267002:=zm (zC HO_267002.out)
       replace HO_275002:=zm (zq HO_275002.out)
       replace HO_278002:=zm (zC HO_278002.out)
       replace BK266:=zm (zj BK266.out)
       replace BK267:=zm (zj BK267.out)
       replace BK274:=zm (zj BK274.out)
       replace BK277:=zm (zj BK277.out)
       replace HB:=zm (zf HB.out)
       have p279 : 0≤(x36_2 : Int):=yt
       have q279 : x36_2 < (l1.length : Int):=yt
       obtain ⟨ad279,e279,hx279_0⟩:=Kd.at_int HR1.out x36_2 p279 q279
       have hw279_0:=hx279_0
       cases e279
       replace hx279_0:=yhx HB hx279_0
       replace p279:=eq_true p279
       replace q279:=eq_true q279
       refine yst (fun w' => w'.cell? ⟨gb277,0,none⟩=some (.int .u64 x278000_2)∧w'.cell? ⟨gb277,1,none⟩=some (.int .u32 x278001_2)∧w'.cell? ⟨gb277,2,none⟩=some (.slice Ao44 x278002_2.length co44)∧w'.cell? (ad279.add (x36_2).toNat)=some (.int .i64 (rd l1 x36_2))) [] 14 gain_Put.tab11 gain_Put.bits11 (fun hHeld HT_ HW_ => ?_)
       generalize wc.drew=w45 at HO_267002 HO_275002 HO_278002 BK266 BK267 BK274 BK277 HB hx279_0 hHeld ⊢
       refine yp 1 47 HT_ ?_
       refine yp 2 48 HT_ ?_
       refine yp 3 49 HT_ ?_
       refine yp 5 51 HT_ ?_
       refine yp 6 52 HT_ ?_
       refine yl 0 46 HT_ HW_ hHeld ?_
       refine yl 4 50 HT_ HW_ hHeld ?_
       refine join_ (σ:=Value × Nat) 2 #[true,true,true,true,true,true,true,true,true,true,true,true,false,false] (fun s_ => [(53, .tuple #[.agg #[.int .u64 t280, .int .u32 t281,s_.1], .int .i64 t285]),(15, .pointer (some ⟨s_.2,0,none⟩)),(45, .tuple #[.agg #[.int .u64 t280, .int .u32 t281,s_.1], .int .i64 t285]),(54, .agg #[.int .u64 t280, .int .u32 t281,s_.1]),(55, .int .i64 t285)]) (fun s_ w' => (w'.cell? ⟨gb277,0,none⟩=some (.int .u64 x278000_2)∧w'.cell? ⟨gb277,1,none⟩=some (.int .u32 x278001_2)∧w'.cell? ⟨gb277,2,none⟩=some (.slice Ao44 x278002_2.length co44)∧w'.cell? (ad279.add (x36_2).toNat)=some (.int .i64 (rd l1 x36_2)))∧(Kd.R (Kd.int .u8) 5 w' w.heap.size (fun k_=>(w.heap.size≤k_)∧some k_≠(.slice Ao16 t270.length co16 : Value).ownBlock) s_.1 t282)∧(Kd.V (Kd.int .u8) 5 w' w.heap.size (fun k_=>(P0_2_ k_∨w.heap.size≤k_)∧some k_≠(s_.1 : Value).ownBlock∧some k_≠(.slice Ao16 t270.length co16 : Value).ownBlock∧k_≠gb266∧k_≠gb267∧k_≠gb274∧k_≠gb277∧k_≠s_.2) (.slice A0_2 l0_2.length c0_2) l0_2)∧(Kd.R (Kd.int .u8) 5 w' w.heap.size (fun k_=>(w.heap.size≤k_)∧some k_≠(s_.1 : Value).ownBlock) (.slice Ao16 t270.length co16) t270)∧(Kd.V (Kd.int .u8) 5 w' w.heap.size (fun k_=>(P0_2_ k_∨w.heap.size≤k_)∧some k_≠(s_.1 : Value).ownBlock∧some k_≠(.slice Ao16 t270.length co16 : Value).ownBlock∧k_≠gb266∧k_≠gb267∧k_≠gb274∧k_≠gb277∧k_≠s_.2) (.slice Ao44 x278002_2.length co44) x278002_2)∧(w'.heap[gb266]? = some (.cells #[.int .u64 a0_0, .int .u32 a0_1, .slice A0_2 l0_2.length c0_2] 54 (0,0)))∧(w'.heap[gb267]? = some (.cells #[.int .u64 x268000_2, .int .u32 x268001_2, .slice none 0 0] 54 (0,0)))∧(w'.heap[gb274]? = some (.cells #[.int .u64 t268, .int .u32 t269, .slice Ao16 t270.length co16] 54 (0,0)))∧(w'.heap[gb277]? = some (.cells #[.int .u64 x278000_2, .int .u32 x278001_2, .slice Ao44 x278002_2.length co44] 54 (0,0)))∧(w'.heap[s_.2]? = some (.cells #[.int .u64 0, .int .u32 0, .slice none 0 0] 54 (0,0)))∧(w.heap.size≤s_.2)∧(w.heap.size≤s_.2)∧(gb266≠s_.2)∧(s_.2≠gb266)∧(gb267≠s_.2)∧(s_.2≠gb267)∧(gb274≠s_.2)∧(s_.2≠gb274)∧(gb277≠s_.2)∧(s_.2≠gb277)∧(Below w.heap.size w w')) ?_ ?_
       rotate_left
       ·
        intro hCont
        refine two_ (i:=7) (j:=11) (Ni:=some 53) (Nj:=some 15) #[true,true,true,true,true,true,true,true,false,false,false,false,false,false] #[true,true,true,true,true,true,true,false,false,false,false,true,false,false] rfl rfl rfl rfl (two_of HT_.out (by kernel_rfl)) (by decide) (by decide) (fun K hK => ?_) (fun K hK => ?_)
        ·
         skip
         refine ygs Try.func67 #[.agg #[.int .u64 x278000_2, .int .u32 x278001_2, .slice Ao44 x278002_2.length co44], .int .i64 (rd l1 x36_2), .int .i64 x14_35, .bool a3] ?_
         with_reducible refine (gain_put.calls kj35 x278000_2 x278001_2 _ _ x278002_2 (rd l1 x36_2) x14_35 a3 t280 t281 t282 t285 _ ?side1 ?side2 A42.out).mono ?_
         (case side1=>exact yce (Kd.V_reads' HO_278002.out).2.2)
         (case side2=>exact (Kd.V_reads' HO_278002.out).2.1)
         rintro e w46 ⟨v283,rfl,ho0,hb⟩
         refine ⟨_,rfl, ?_⟩
         replace HO_267002:=zm (Kd.V_elder' (yr HO_267002) (Kd.R_base ho0) hb)
         replace HO_278002:=zm (Kd.V_elder' (yr HO_278002) (Kd.R_base ho0) hb)
         have HO284:=zm (Kd.R_lower (Kd.R_new' (Kd.R_newM (M:=fun k_=>(w.heap.size≤k_)) ho0 (zE yhb) (fun k_ h_=>h_)) (Kd.R_lt (yr HO_275002))) (zE yhb))
         replace HO_275002:=zm (Kd.R_elder' (yr HO_275002) (Kd.R_base ho0) hb)
         replace BK266:=ybb BK266 hb
         replace BK267:=ybb BK267 hb
         replace BK274:=ybb BK274 hb
         replace BK277:=ybb BK277 hb
         replace HB:=ybs hb
         (try clear hb)
         (try clear ho0)
         refine hK.out _ _ yH (fun hHeld => ?_)
         clear hK K
         refine ym (some 53) ?_
         refine yp 8 45 HT_ ?_
         refine yp 9 54 HT_ ?_
         refine yp 10 55 HT_ ?_
         refine yw 11 15 HT_ (fun K hK => ?_)
         refine box_step ?hg (N:=15) ?hd (cs := #[.int .u64 0, .int .u32 0, .slice none 0 0]) (t:=54) ?hr ?_;(case hd=>rfl);(case hg=>rfl);(case hr=>first|(go_simp;done)|(go_simp;rfl))
         intro gb286 hg w47 hbox hb
         replace HO_267002:=yVe HO_267002 hg hb
         replace HO_275002:=yRb HO_275002 hb
         replace HO_278002:=yVe HO_278002 hg hb
         replace HO284:=yRb HO284 hb
         have BK286:=zm (hbox)
         have GW286:=ygw hg
         have GE286:=ygw hg
         replace HB:=ybs hb
         have NB266_286:=ynl BK266 hg
         have NB286_266:=yng BK266 hg
         replace BK266:=ybb BK266 hb
         have NB267_286:=ynl BK267 hg
         have NB286_267:=yng BK267 hg
         replace BK267:=ybb BK267 hb
         have NB274_286:=ynl BK274 hg
         have NB286_274:=yng BK274 hg
         replace BK274:=ybb BK274 hb
         have NB277_286:=ynl BK277 hg
         have NB286_277:=yng BK277 hg
         replace BK277:=ybb BK277 hb
         clear hb hbox hg
         refine hK.out _ _ yH (fun hHeld => ?_)
         clear hK K
         refine ym (some 15) ?_
         exact norm_ (by simp only [putAll,Act.put,List.setIfInBounds_toArray,List.set_cons_zero,List.set_cons_succ]) (hCont (v283,gb286) _ ⟨hHeld,(yR0 HO284),(yV0 HO_267002),(yr HO_275002),(yV0 HO_278002),(yk BK266),(yk BK267),(yk BK274),(yk BK277),(yk BK286),GW286.out,GE286.out,NB266_286.out,NB286_266.out,NB267_286.out,NB286_267.out,NB274_286.out,NB286_274.out,NB277_286.out,NB286_277.out,yhb⟩)
        ·
         skip
         refine box_step ?hg (N:=15) ?hd (cs := #[.int .u64 0, .int .u32 0, .slice none 0 0]) (t:=54) ?hr ?_;(case hd=>rfl);(case hg=>rfl);(case hr=>first|(go_simp;done)|(go_simp;rfl))
         intro gb286 hg w46 hbox hb
         replace HO_267002:=yVe HO_267002 hg hb
         replace HO_275002:=yRb HO_275002 hb
         replace HO_278002:=yVe HO_278002 hg hb
         have BK286:=zm (hbox)
         have GW286:=ygw hg
         have GE286:=ygw hg
         replace HB:=ybs hb
         have NB266_286:=ynl BK266 hg
         have NB286_266:=yng BK266 hg
         replace BK266:=ybb BK266 hb
         have NB267_286:=ynl BK267 hg
         have NB286_267:=yng BK267 hg
         replace BK267:=ybb BK267 hb
         have NB274_286:=ynl BK274 hg
         have NB286_274:=yng BK274 hg
         replace BK274:=ybb BK274 hb
         have NB277_286:=ynl BK277 hg
         have NB286_277:=yng BK277 hg
         replace BK277:=ybb BK277 hb
         clear hb hbox hg
         refine hK.out _ _ yH (fun hHeld => ?_)
         clear hK K
         refine ym (some 15) ?_
         refine yw 7 53 HT_ (fun K hK => ?_)
         refine ygs Try.func67 #[.agg #[.int .u64 x278000_2, .int .u32 x278001_2, .slice Ao44 x278002_2.length co44], .int .i64 (rd l1 x36_2), .int .i64 x14_35, .bool a3] ?_
         with_reducible refine (gain_put.calls kj35 x278000_2 x278001_2 _ _ x278002_2 (rd l1 x36_2) x14_35 a3 t280 t281 t282 t285 _ ?side1 ?side2 A42.out).mono ?_
         (case side1=>exact yce (Kd.V_reads' HO_278002.out).2.2)
         (case side2=>exact (Kd.V_reads' HO_278002.out).2.1)
         rintro e w47 ⟨v283,rfl,ho0,hb⟩
         refine ⟨_,rfl, ?_⟩
         replace HO_267002:=zm (Kd.V_elder' (yr HO_267002) (Kd.R_base ho0) hb)
         replace HO_278002:=zm (Kd.V_elder' (yr HO_278002) (Kd.R_base ho0) hb)
         have HO284:=zm (Kd.R_lower (Kd.R_new' (Kd.R_newM (M:=fun k_=>(w.heap.size≤k_)) ho0 (zE yhb) (fun k_ h_=>h_)) (Kd.R_lt (yr HO_275002))) (zE yhb))
         replace HO_275002:=zm (Kd.R_elder' (yr HO_275002) (Kd.R_base ho0) hb)
         replace BK266:=ybb BK266 hb
         replace BK267:=ybb BK267 hb
         replace BK274:=ybb BK274 hb
         replace BK277:=ybb BK277 hb
         replace BK286:=ybb BK286 hb
         replace HB:=ybs hb
         (try clear hb)
         (try clear ho0)
         refine hK.out _ _ yH (fun hHeld => ?_)
         clear hK K
         refine ym (some 53) ?_
         refine yp 8 45 HT_ ?_
         refine yp 9 54 HT_ ?_
         refine yp 10 55 HT_ ?_
         exact norm_ (by simp only [putAll,Act.put,List.setIfInBounds_toArray,List.set_cons_zero,List.set_cons_succ]) (hCont (v283,gb286) _ ⟨hHeld,(yR0 HO284),(yV0 HO_267002),(yr HO_275002),(yV0 HO_278002),(yk BK266),(yk BK267),(yk BK274),(yk BK277),(yk BK286),GW286.out,GE286.out,NB266_286.out,NB286_266.out,NB267_286.out,NB286_267.out,NB274_286.out,NB286_274.out,NB277_286.out,NB286_277.out,yhb⟩)
       rintro ⟨v283,gb286⟩ w48 ⟨hS_,h0_,h1_,h2_,h3_,h4_,h5_,h6_,h7_,h8_,h9_,h10_,h11_,h12_,h13_,h14_,h15_,h16_,h17_,h18_,h19_⟩
       have n0_ : Aside0 (Kd.R (Kd.int .u8) 5 w48 w.heap.size (fun k_=>(w.heap.size≤k_)∧some k_≠(.slice Ao16 t270.length co16 : Value).ownBlock) v283 t282):=⟨h0_⟩
       have n1_ : Aside0 (Kd.V (Kd.int .u8) 5 w48 w.heap.size (fun k_=>(P0_2_ k_∨w.heap.size≤k_)∧some k_≠(v283 : Value).ownBlock∧some k_≠(.slice Ao16 t270.length co16 : Value).ownBlock∧k_≠gb266∧k_≠gb267∧k_≠gb274∧k_≠gb277∧k_≠gb286) (.slice A0_2 l0_2.length c0_2) l0_2):=⟨h1_⟩
       have n2_ : Aside0 (Kd.R (Kd.int .u8) 5 w48 w.heap.size (fun k_=>(w.heap.size≤k_)∧some k_≠(v283 : Value).ownBlock) (.slice Ao16 t270.length co16) t270):=⟨h2_⟩
       have n3_ : Aside0 (Kd.V (Kd.int .u8) 5 w48 w.heap.size (fun k_=>(P0_2_ k_∨w.heap.size≤k_)∧some k_≠(v283 : Value).ownBlock∧some k_≠(.slice Ao16 t270.length co16 : Value).ownBlock∧k_≠gb266∧k_≠gb267∧k_≠gb274∧k_≠gb277∧k_≠gb286) (.slice Ao44 x278002_2.length co44) x278002_2):=⟨h3_⟩
       have n4_ : Aside0 (w48.heap[gb266]? = some (.cells #[.int .u64 a0_0, .int .u32 a0_1, .slice A0_2 l0_2.length c0_2] 54 (0,0))):=⟨h4_⟩
       have n5_ : Aside0 (w48.heap[gb267]? = some (.cells #[.int .u64 x268000_2, .int .u32 x268001_2, .slice none 0 0] 54 (0,0))):=⟨h5_⟩
       have n6_ : Aside0 (w48.heap[gb274]? = some (.cells #[.int .u64 t268, .int .u32 t269, .slice Ao16 t270.length co16] 54 (0,0))):=⟨h6_⟩
       have n7_ : Aside0 (w48.heap[gb277]? = some (.cells #[.int .u64 x278000_2, .int .u32 x278001_2, .slice Ao44 x278002_2.length co44] 54 (0,0))):=⟨h7_⟩
       have n8_ : Aside0 (w48.heap[gb286]? = some (.cells #[.int .u64 0, .int .u32 0, .slice none 0 0] 54 (0,0))):=⟨h8_⟩
       have n9_ : Aside0 (w.heap.size≤gb286):=⟨h9_⟩
       have n10_ : Aside0 (w.heap.size≤gb286):=⟨h10_⟩
       have n11_ : Aside0 (gb266≠gb286):=⟨h11_⟩
       have n12_ : Aside0 (gb286≠gb266):=⟨h12_⟩
       have n13_ : Aside0 (gb267≠gb286):=⟨h13_⟩
       have n14_ : Aside0 (gb286≠gb267):=⟨h14_⟩
       have n15_ : Aside0 (gb274≠gb286):=⟨h15_⟩
       have n16_ : Aside0 (gb286≠gb274):=⟨h16_⟩
       have n17_ : Aside0 (gb277≠gb286):=⟨h17_⟩
       have n18_ : Aside0 (gb286≠gb277):=⟨h18_⟩
       have n19_ : Aside0 (Below w.heap.size w w48):=⟨h19_⟩
       clear HO_267002;clear HO_275002;clear HO_278002;clear BK266;clear BK267;clear BK274;clear BK277;clear HB;clear h0_ h1_ h2_ h3_ h4_ h5_ h6_ h7_ h8_ h9_ h10_ h11_ h12_ h13_ h14_ h15_ h16_ h17_ h18_ h19_;have HO284:=n0_;have HO_267002:=n1_;have HO_275002:=n2_;have HO_278002:=n3_;have BK266:=n4_;have BK267:=n5_;have BK274:=n6_;have BK277:=n7_;have BK286:=n8_;have GW286:=n9_;have GE286:=n10_;have NB266_286:=n11_;have NB286_266:=n12_;have NB267_286:=n13_;have NB286_267:=n14_;have NB274_286:=n15_;have NB286_274:=n16_;have NB277_286:=n17_;have NB286_277:=n18_;have HB:=n19_;clear n0_ n1_ n2_ n3_ n4_ n5_ n6_ n7_ n8_ n9_ n10_ n11_ n12_ n13_ n14_ n15_ n16_ n17_ n18_ n19_
       have hHeld : w48.cell? ⟨gb277,0,none⟩=some (.int .u64 x278000_2)∧w48.cell? ⟨gb277,1,none⟩=some (.int .u32 x278001_2)∧w48.cell? ⟨gb277,2,none⟩=some (.slice Ao44 x278002_2.length co44)∧w48.cell? (ad279.add (x36_2).toNat)=some (.int .i64 (rd l1 x36_2)):=hS_
       obtain ⟨Ao51,co51,eo51⟩:=Kd.R_slice HO284.out
       (first|subst eo51|(injection eo51 with f1_ f2_ f3_;have f4_:=f1_.symm;have f5_:=f3_.symm;clear f1_ f2_ f3_;subst f4_;subst f5_))
       refine norm_ (a' := ?_) ?_ ?_
       rotate_left
       ·
        simp only [putAll,Act.put,List.setIfInBounds_toArray,List.set_cons_zero,List.set_cons_succ]
        rfl
       refine yv 12 HT_ (fun K hK => ?_)
       have hs49 : w48.cell? ⟨gb286,0,none⟩=some (.int .u64 0):=(zs BK286.out 0).trans rfl
       have hfs49:=zx BK286.out 0
       have:=NB266_286.out
       have:=NB267_286.out
       have:=NB274_286.out
       have:=NB277_286.out
       have:=NB286_266.out
       have:=NB286_267.out
       have:=NB286_274.out
       have:=NB286_277.out
       have hs50 : w48.cell? ⟨gb286,1,none⟩=some (.int .u32 0):=(zs BK286.out 1).trans rfl
       have hfs50:=zx BK286.out 1
       have:=NB266_286.out
       have:=NB267_286.out
       have:=NB274_286.out
       have:=NB277_286.out
       have:=NB286_266.out
       have:=NB286_267.out
       have:=NB286_274.out
       have:=NB286_277.out
       have hs52 : w48.cell? ⟨gb286,2,none⟩=some (.slice none 0 0):=(zs BK286.out 2).trans rfl
       have hfs52:=zx BK286.out 2
       have:=NB266_286.out
       have:=NB267_286.out
       have:=NB274_286.out
       have:=NB277_286.out
       have:=NB286_266.out
       have:=NB286_267.out
       have:=NB286_274.out
       have:=NB286_277.out
       refine skip_ (w1 := ?_) (by rfl) rfl ?_ ?_
       rotate_left
       ·
        go_simp
        rfl
       refine hK.out _ _ ⟨((zr (p:=⟨gb286,_,none⟩) NB277_286.out _).trans (((zr (p:=⟨gb286,_,none⟩) NB277_286.out _).trans (((zr (p:=⟨gb286,_,none⟩) NB277_286.out _).trans (hHeld.1)))))),((zr (p:=⟨gb286,_,none⟩) NB277_286.out _).trans (((zr (p:=⟨gb286,_,none⟩) NB277_286.out _).trans (((zr (p:=⟨gb286,_,none⟩) NB277_286.out _).trans (hHeld.2.1)))))),((zr (p:=⟨gb286,_,none⟩) NB277_286.out _).trans (((zr (p:=⟨gb286,_,none⟩) NB277_286.out _).trans (((zr (p:=⟨gb286,_,none⟩) NB277_286.out _).trans (hHeld.2.2.1)))))),((zr (p:=⟨gb286,_,none⟩) (by first|exact zn (zl (by have:=zb _ _ hw279_0;first|rwa [za] at this|exact this) GW286.out)|(rw [za];exact zn (zl (by have:=zb _ _ hw279_0;first|rwa [za] at this|exact this) GW286.out))|(show (Addr.add _ _).block≠_;rw [za];exact zn (zl (by have:=zb _ _ hw279_0;first|rwa [za] at this|exact this) GW286.out))|(dsimp only;exact zn (zl (by have:=zb _ _ hw279_0;first|rwa [za] at this|exact this) GW286.out))) _).trans (((zr (p:=⟨gb286,_,none⟩) (by first|exact zn (zl (by have:=zb _ _ hw279_0;first|rwa [za] at this|exact this) GW286.out)|(rw [za];exact zn (zl (by have:=zb _ _ hw279_0;first|rwa [za] at this|exact this) GW286.out))|(show (Addr.add _ _).block≠_;rw [za];exact zn (zl (by have:=zb _ _ hw279_0;first|rwa [za] at this|exact this) GW286.out))|(dsimp only;exact zn (zl (by have:=zb _ _ hw279_0;first|rwa [za] at this|exact this) GW286.out))) _).trans (((zr (p:=⟨gb286,_,none⟩) (by first|exact zn (zl (by have:=zb _ _ hw279_0;first|rwa [za] at this|exact this) GW286.out)|(rw [za];exact zn (zl (by have:=zb _ _ hw279_0;first|rwa [za] at this|exact this) GW286.out))|(show (Addr.add _ _).block≠_;rw [za];exact zn (zl (by have:=zb _ _ hw279_0;first|rwa [za] at this|exact this) GW286.out))|(dsimp only;exact zn (zl (by have:=zb _ _ hw279_0;first|rwa [za] at this|exact this) GW286.out))) _).trans (hHeld.2.2.2))))))⟩ (fun hHeld => ?_)
       clear hK K
       refine yp 13 16 HT_ ?_
       refine done_ (done_of HT_.out (by kernel_rfl)) ?_
       have:=NB286_266.out
       have:=NB266_286.out
       have:=NB286_267.out
       have:=NB267_286.out
       have:=NB286_274.out
       have:=NB274_286.out
       have:=NB286_277.out
       have:=NB277_286.out
       obtain ⟨_,_,_,_,_,_⟩:=yc3 BK286
       have:=NB277_266.out
       have:=NB266_277.out
       have:=NB277_267.out
       have:=NB267_277.out
       have:=NB277_274.out
       have:=NB274_277.out
       obtain ⟨_,_,_,_,_,_⟩:=yc3 BK277
       try go_wp2
       go_roundg kj35
       case measure=>exact yom3 HJ5 HK2 HJ35
       case rel=>exact ⟨(wrap64 (x36_2+1)),(x268000_2),(x268001_2),(t280),(t281),(t282),(.slice Ao51 t282.length co51),yq,H',⟨yom3 HJ5 HK2 HJ35⟩,⟨yV0 HO_267002⟩,⟨yR2 HO_275002 BK286 BK277⟩,⟨zy (Kd.R_V (ok:=fun k_=>w.heap.size≤k_∧some k_≠((.slice Ao16 t270.length co16) : Value).ownBlock∧k_≠gb266∧k_≠gb267∧k_≠gb274∧k_≠gb277) (by (with_reducible repeat (first|apply zo|apply zp|apply zq));exact zG (zH (p:=⟨gb277,2,none⟩) (zH (p:=⟨gb277,1,none⟩) (zH (p:=⟨gb277,0,none⟩) (zH (p:=⟨gb286,2,none⟩) (zH (p:=⟨gb286,1,none⟩) (zH (p:=⟨gb286,0,none⟩) (Kd.R_types (Kd.R_types (Kd.R_types (Kd.R_types (Kd.R_types (Kd.R_types HO284.out BK266.out (by decide)) BK267.out (by decide)) BK274.out (by decide)) BK277.out (by decide)) BK286.out (by decide)) BK277.out (by decide)) (fun _ hk=>hk.1.2) (.int .u64 t280)) (fun _ hk=>hk.1.2) (.int .u32 t281)) (fun _ hk=>hk.1.2) (.slice Ao51 t282.length co51)) (fun _ hk=>hk.2) (.int .u64 t280)) (fun _ hk=>hk.2) (.int .u32 t281)) (fun _ hk=>hk.2) (.slice Ao51 t282.length co51)) (fun _ hk=>⟨hk.1.1.1.1.1.1.1,⟨hk.1.1.1.1.1.1.2,⟨hk.1.1.1.1.1.2,⟨hk.1.1.1.1.2,⟨hk.1.1.1.2,hk.1.1.2⟩⟩⟩⟩⟩))) (fun k_ hk=>by first|exact ⟨(.inr (hk.1)),hk.2⟩|exact (.inr (hk)))⟩,⟨yk BK266⟩,⟨yk BK267⟩,⟨yk BK274⟩,⟨ykp BK277⟩,⟨yhb⟩⟩
      ·
       rw [if_neg c43] at H
       have c43b0 : (t285 == 0)=false:=beq_eq_false_iff_ne.mpr c43
       have c43b1 : (t285 != 0)=true:=bne_iff_ne.mpr c43
       simp only [Option.some.injEq,Prod.mk.injEq] at H
       obtain ⟨rfl,rfl,rfl,rfl⟩:=H
       obtain ⟨Ao62,co62,eo62⟩:=Kd.V_slice HO_278002.out
       subst eo62
       try go_wp2
       replace HO_267002:=zm (zC HO_267002.out)
       replace HO_275002:=zm (zq HO_275002.out)
       replace HO_278002:=zm (zC HO_278002.out)
       replace BK266:=zm (zj BK266.out)
       replace BK267:=zm (zj BK267.out)
       replace BK274:=zm (zj BK274.out)
       replace BK277:=zm (zj BK277.out)
       replace HB:=zm (zf HB.out)
       have p279 : 0≤(x36_2 : Int):=yt
       have q279 : x36_2 < (l1.length : Int):=yt
       obtain ⟨ad279,e279,hx279_0⟩:=Kd.at_int HR1.out x36_2 p279 q279
       have hw279_0:=hx279_0
       cases e279
       replace hx279_0:=yhx HB hx279_0
       replace p279:=eq_true p279
       replace q279:=eq_true q279
       refine yst (fun w' => w'.cell? ⟨gb277,0,none⟩=some (.int .u64 x278000_2)∧w'.cell? ⟨gb277,1,none⟩=some (.int .u32 x278001_2)∧w'.cell? ⟨gb277,2,none⟩=some (.slice Ao62 x278002_2.length co62)∧w'.cell? (ad279.add (x36_2).toNat)=some (.int .i64 (rd l1 x36_2))) [] 14 gain_Put.tab11 gain_Put.bits11 (fun hHeld HT_ HW_ => ?_)
       generalize wc.drew=w63 at HO_267002 HO_275002 HO_278002 BK266 BK267 BK274 BK277 HB hx279_0 hHeld ⊢
       refine yp 1 47 HT_ ?_
       refine yp 2 48 HT_ ?_
       refine yp 3 49 HT_ ?_
       refine yp 5 51 HT_ ?_
       refine yp 6 52 HT_ ?_
       refine yl 0 46 HT_ HW_ hHeld ?_
       refine yl 4 50 HT_ HW_ hHeld ?_
       refine join_ (σ:=Value × Nat) 2 #[true,true,true,true,true,true,true,true,true,true,true,true,false,false] (fun s_ => [(53, .tuple #[.agg #[.int .u64 t280, .int .u32 t281,s_.1], .int .i64 t285]),(15, .pointer (some ⟨s_.2,0,none⟩)),(45, .tuple #[.agg #[.int .u64 t280, .int .u32 t281,s_.1], .int .i64 t285]),(54, .agg #[.int .u64 t280, .int .u32 t281,s_.1]),(55, .int .i64 t285)]) (fun s_ w' => (w'.cell? ⟨gb277,0,none⟩=some (.int .u64 x278000_2)∧w'.cell? ⟨gb277,1,none⟩=some (.int .u32 x278001_2)∧w'.cell? ⟨gb277,2,none⟩=some (.slice Ao62 x278002_2.length co62)∧w'.cell? (ad279.add (x36_2).toNat)=some (.int .i64 (rd l1 x36_2)))∧(Kd.R (Kd.int .u8) 5 w' w.heap.size (fun k_=>(w.heap.size≤k_)∧some k_≠(.slice Ao16 t270.length co16 : Value).ownBlock) s_.1 t282)∧(Kd.V (Kd.int .u8) 5 w' w.heap.size (fun k_=>(P0_2_ k_∨w.heap.size≤k_)∧some k_≠(s_.1 : Value).ownBlock∧some k_≠(.slice Ao16 t270.length co16 : Value).ownBlock∧k_≠gb266∧k_≠gb267∧k_≠gb274∧k_≠gb277∧k_≠s_.2) (.slice A0_2 l0_2.length c0_2) l0_2)∧(Kd.R (Kd.int .u8) 5 w' w.heap.size (fun k_=>(w.heap.size≤k_)∧some k_≠(s_.1 : Value).ownBlock) (.slice Ao16 t270.length co16) t270)∧(Kd.V (Kd.int .u8) 5 w' w.heap.size (fun k_=>(P0_2_ k_∨w.heap.size≤k_)∧some k_≠(s_.1 : Value).ownBlock∧some k_≠(.slice Ao16 t270.length co16 : Value).ownBlock∧k_≠gb266∧k_≠gb267∧k_≠gb274∧k_≠gb277∧k_≠s_.2) (.slice Ao62 x278002_2.length co62) x278002_2)∧(w'.heap[gb266]? = some (.cells #[.int .u64 a0_0, .int .u32 a0_1, .slice A0_2 l0_2.length c0_2] 54 (0,0)))∧(w'.heap[gb267]? = some (.cells #[.int .u64 x268000_2, .int .u32 x268001_2, .slice none 0 0] 54 (0,0)))∧(w'.heap[gb274]? = some (.cells #[.int .u64 t268, .int .u32 t269, .slice Ao16 t270.length co16] 54 (0,0)))∧(w'.heap[gb277]? = some (.cells #[.int .u64 x278000_2, .int .u32 x278001_2, .slice Ao62 x278002_2.length co62] 54 (0,0)))∧(w'.heap[s_.2]? = some (.cells #[.int .u64 0, .int .u32 0, .slice none 0 0] 54 (0,0)))∧(w.heap.size≤s_.2)∧(w.heap.size≤s_.2)∧(gb266≠s_.2)∧(s_.2≠gb266)∧(gb267≠s_.2)∧(s_.2≠gb267)∧(gb274≠s_.2)∧(s_.2≠gb274)∧(gb277≠s_.2)∧(s_.2≠gb277)∧(Below w.heap.size w w')) ?_ ?_
       rotate_left
       ·
        intro hCont
        refine two_ (i:=7) (j:=11) (Ni:=some 53) (Nj:=some 15) #[true,true,true,true,true,true,true,true,false,false,false,false,false,false] #[true,true,true,true,true,true,true,false,false,false,false,true,false,false] rfl rfl rfl rfl (two_of HT_.out (by kernel_rfl)) (by decide) (by decide) (fun K hK => ?_) (fun K hK => ?_)
        ·
         skip
         refine ygs Try.func67 #[.agg #[.int .u64 x278000_2, .int .u32 x278001_2, .slice Ao62 x278002_2.length co62], .int .i64 (rd l1 x36_2), .int .i64 x14_35, .bool a3] ?_
         with_reducible refine (gain_put.calls kj35 x278000_2 x278001_2 _ _ x278002_2 (rd l1 x36_2) x14_35 a3 t280 t281 t282 t285 _ ?side1 ?side2 A42.out).mono ?_
         (case side1=>exact yce (Kd.V_reads' HO_278002.out).2.2)
         (case side2=>exact (Kd.V_reads' HO_278002.out).2.1)
         rintro e w64 ⟨v283,rfl,ho0,hb⟩
         refine ⟨_,rfl, ?_⟩
         replace HO_267002:=zm (Kd.V_elder' (yr HO_267002) (Kd.R_base ho0) hb)
         replace HO_278002:=zm (Kd.V_elder' (yr HO_278002) (Kd.R_base ho0) hb)
         have HO284:=zm (Kd.R_lower (Kd.R_new' (Kd.R_newM (M:=fun k_=>(w.heap.size≤k_)) ho0 (zE yhb) (fun k_ h_=>h_)) (Kd.R_lt (yr HO_275002))) (zE yhb))
         replace HO_275002:=zm (Kd.R_elder' (yr HO_275002) (Kd.R_base ho0) hb)
         replace BK266:=ybb BK266 hb
         replace BK267:=ybb BK267 hb
         replace BK274:=ybb BK274 hb
         replace BK277:=ybb BK277 hb
         replace HB:=ybs hb
         (try clear hb)
         (try clear ho0)
         refine hK.out _ _ yH (fun hHeld => ?_)
         clear hK K
         refine ym (some 53) ?_
         refine yp 8 45 HT_ ?_
         refine yp 9 54 HT_ ?_
         refine yp 10 55 HT_ ?_
         refine yw 11 15 HT_ (fun K hK => ?_)
         refine box_step ?hg (N:=15) ?hd (cs := #[.int .u64 0, .int .u32 0, .slice none 0 0]) (t:=54) ?hr ?_;(case hd=>rfl);(case hg=>rfl);(case hr=>first|(go_simp;done)|(go_simp;rfl))
         intro gb286 hg w65 hbox hb
         replace HO_267002:=yVe HO_267002 hg hb
         replace HO_275002:=yRb HO_275002 hb
         replace HO_278002:=yVe HO_278002 hg hb
         replace HO284:=yRb HO284 hb
         have BK286:=zm (hbox)
         have GW286:=ygw hg
         have GE286:=ygw hg
         replace HB:=ybs hb
         have NB266_286:=ynl BK266 hg
         have NB286_266:=yng BK266 hg
         replace BK266:=ybb BK266 hb
         have NB267_286:=ynl BK267 hg
         have NB286_267:=yng BK267 hg
         replace BK267:=ybb BK267 hb
         have NB274_286:=ynl BK274 hg
         have NB286_274:=yng BK274 hg
         replace BK274:=ybb BK274 hb
         have NB277_286:=ynl BK277 hg
         have NB286_277:=yng BK277 hg
         replace BK277:=ybb BK277 hb
         clear hb hbox hg
         refine hK.out _ _ yH (fun hHeld => ?_)
         clear hK K
         refine ym (some 15) ?_
         exact norm_ (by simp only [putAll,Act.put,List.setIfInBounds_toArray,List.set_cons_zero,List.set_cons_succ]) (hCont (v283,gb286) _ ⟨hHeld,(yR0 HO284),(yV0 HO_267002),(yr HO_275002),(yV0 HO_278002),(yk BK266),(yk BK267),(yk BK274),(yk BK277),(yk BK286),GW286.out,GE286.out,NB266_286.out,NB286_266.out,NB267_286.out,NB286_267.out,NB274_286.out,NB286_274.out,NB277_286.out,NB286_277.out,yhb⟩)
        ·
         skip
         refine box_step ?hg (N:=15) ?hd (cs := #[.int .u64 0, .int .u32 0, .slice none 0 0]) (t:=54) ?hr ?_;(case hd=>rfl);(case hg=>rfl);(case hr=>first|(go_simp;done)|(go_simp;rfl))
         intro gb286 hg w64 hbox hb
         replace HO_267002:=yVe HO_267002 hg hb
         replace HO_275002:=yRb HO_275002 hb
         replace HO_278002:=yVe HO_278002 hg hb
         have BK286:=zm (hbox)
         have GW286:=ygw hg
         have GE286:=ygw hg
         replace HB:=ybs hb
         have NB266_286:=ynl BK266 hg
         have NB286_266:=yng BK266 hg
         replace BK266:=ybb BK266 hb
         have NB267_286:=ynl BK267 hg
         have NB286_267:=yng BK267 hg
         replace BK267:=ybb BK267 hb
         have NB274_286:=ynl BK274 hg
         have NB286_274:=yng BK274 hg
         replace BK274:=ybb BK274 hb
         have NB277_286:=ynl BK277 hg
         have NB286_277:=yng BK277 hg
         replace BK277:=ybb BK277 hb
         clear hb hbox hg
         refine hK.out _ _ yH (fun hHeld => ?_)
         clear hK K
         refine ym (some 15) ?_
         refine yw 7 53 HT_ (fun K hK => ?_)
         refine ygs Try.func67 #[.agg #[.int .u64 x278000_2, .int .u32 x278001_2, .slice Ao62 x278002_2.length co62], .int .i64 (rd l1 x36_2), .int .i64 x14_35, .bool a3] ?_
         with_reducible refine (gain_put.calls kj35 x278000_2 x278001_2 _ _ x278002_2 (rd l1 x36_2) x14_35 a3 t280 t281 t282 t285 _ ?side1 ?side2 A42.out).mono ?_
         (case side1=>exact yce (Kd.V_reads' HO_278002.out).2.2)
         (case side2=>exact (Kd.V_reads' HO_278002.out).2.1)
         rintro e w65 ⟨v283,rfl,ho0,hb⟩
         refine ⟨_,rfl, ?_⟩
         replace HO_267002:=zm (Kd.V_elder' (yr HO_267002) (Kd.R_base ho0) hb)
         replace HO_278002:=zm (Kd.V_elder' (yr HO_278002) (Kd.R_base ho0) hb)
         have HO284:=zm (Kd.R_lower (Kd.R_new' (Kd.R_newM (M:=fun k_=>(w.heap.size≤k_)) ho0 (zE yhb) (fun k_ h_=>h_)) (Kd.R_lt (yr HO_275002))) (zE yhb))
         replace HO_275002:=zm (Kd.R_elder' (yr HO_275002) (Kd.R_base ho0) hb)
         replace BK266:=ybb BK266 hb
         replace BK267:=ybb BK267 hb
         replace BK274:=ybb BK274 hb
         replace BK277:=ybb BK277 hb
         replace BK286:=ybb BK286 hb
         replace HB:=ybs hb
         (try clear hb)
         (try clear ho0)
         refine hK.out _ _ yH (fun hHeld => ?_)
         clear hK K
         refine ym (some 53) ?_
         refine yp 8 45 HT_ ?_
         refine yp 9 54 HT_ ?_
         refine yp 10 55 HT_ ?_
         exact norm_ (by simp only [putAll,Act.put,List.setIfInBounds_toArray,List.set_cons_zero,List.set_cons_succ]) (hCont (v283,gb286) _ ⟨hHeld,(yR0 HO284),(yV0 HO_267002),(yr HO_275002),(yV0 HO_278002),(yk BK266),(yk BK267),(yk BK274),(yk BK277),(yk BK286),GW286.out,GE286.out,NB266_286.out,NB286_266.out,NB267_286.out,NB286_267.out,NB274_286.out,NB286_274.out,NB277_286.out,NB286_277.out,yhb⟩)
       rintro ⟨v283,gb286⟩ w66 ⟨hS_,h0_,h1_,h2_,h3_,h4_,h5_,h6_,h7_,h8_,h9_,h10_,h11_,h12_,h13_,h14_,h15_,h16_,h17_,h18_,h19_⟩
       have n0_ : Aside0 (Kd.R (Kd.int .u8) 5 w66 w.heap.size (fun k_=>(w.heap.size≤k_)∧some k_≠(.slice Ao16 t270.length co16 : Value).ownBlock) v283 t282):=⟨h0_⟩
       have n1_ : Aside0 (Kd.V (Kd.int .u8) 5 w66 w.heap.size (fun k_=>(P0_2_ k_∨w.heap.size≤k_)∧some k_≠(v283 : Value).ownBlock∧some k_≠(.slice Ao16 t270.length co16 : Value).ownBlock∧k_≠gb266∧k_≠gb267∧k_≠gb274∧k_≠gb277∧k_≠gb286) (.slice A0_2 l0_2.length c0_2) l0_2):=⟨h1_⟩
       have n2_ : Aside0 (Kd.R (Kd.int .u8) 5 w66 w.heap.size (fun k_=>(w.heap.size≤k_)∧some k_≠(v283 : Value).ownBlock) (.slice Ao16 t270.length co16) t270):=⟨h2_⟩
       have n3_ : Aside0 (Kd.V (Kd.int .u8) 5 w66 w.heap.size (fun k_=>(P0_2_ k_∨w.heap.size≤k_)∧some k_≠(v283 : Value).ownBlock∧some k_≠(.slice Ao16 t270.length co16 : Value).ownBlock∧k_≠gb266∧k_≠gb267∧k_≠gb274∧k_≠gb277∧k_≠gb286) (.slice Ao62 x278002_2.length co62) x278002_2):=⟨h3_⟩
       have n4_ : Aside0 (w66.heap[gb266]? = some (.cells #[.int .u64 a0_0, .int .u32 a0_1, .slice A0_2 l0_2.length c0_2] 54 (0,0))):=⟨h4_⟩
       have n5_ : Aside0 (w66.heap[gb267]? = some (.cells #[.int .u64 x268000_2, .int .u32 x268001_2, .slice none 0 0] 54 (0,0))):=⟨h5_⟩
       have n6_ : Aside0 (w66.heap[gb274]? = some (.cells #[.int .u64 t268, .int .u32 t269, .slice Ao16 t270.length co16] 54 (0,0))):=⟨h6_⟩
       have n7_ : Aside0 (w66.heap[gb277]? = some (.cells #[.int .u64 x278000_2, .int .u32 x278001_2, .slice Ao62 x278002_2.length co62] 54 (0,0))):=⟨h7_⟩
       have n8_ : Aside0 (w66.heap[gb286]? = some (.cells #[.int .u64 0, .int .u32 0, .slice none 0 0] 54 (0,0))):=⟨h8_⟩
       have n9_ : Aside0 (w.heap.size≤gb286):=⟨h9_⟩
       have n10_ : Aside0 (w.heap.size≤gb286):=⟨h10_⟩
       have n11_ : Aside0 (gb266≠gb286):=⟨h11_⟩
       have n12_ : Aside0 (gb286≠gb266):=⟨h12_⟩
       have n13_ : Aside0 (gb267≠gb286):=⟨h13_⟩
       have n14_ : Aside0 (gb286≠gb267):=⟨h14_⟩
       have n15_ : Aside0 (gb274≠gb286):=⟨h15_⟩
       have n16_ : Aside0 (gb286≠gb274):=⟨h16_⟩
       have n17_ : Aside0 (gb277≠gb286):=⟨h17_⟩
       have n18_ : Aside0 (gb286≠gb277):=⟨h18_⟩
       have n19_ : Aside0 (Below w.heap.size w w66):=⟨h19_⟩
       clear HO_267002;clear HO_275002;clear HO_278002;clear BK266;clear BK267;clear BK274;clear BK277;clear HB;clear h0_ h1_ h2_ h3_ h4_ h5_ h6_ h7_ h8_ h9_ h10_ h11_ h12_ h13_ h14_ h15_ h16_ h17_ h18_ h19_;have HO284:=n0_;have HO_267002:=n1_;have HO_275002:=n2_;have HO_278002:=n3_;have BK266:=n4_;have BK267:=n5_;have BK274:=n6_;have BK277:=n7_;have BK286:=n8_;have GW286:=n9_;have GE286:=n10_;have NB266_286:=n11_;have NB286_266:=n12_;have NB267_286:=n13_;have NB286_267:=n14_;have NB274_286:=n15_;have NB286_274:=n16_;have NB277_286:=n17_;have NB286_277:=n18_;have HB:=n19_;clear n0_ n1_ n2_ n3_ n4_ n5_ n6_ n7_ n8_ n9_ n10_ n11_ n12_ n13_ n14_ n15_ n16_ n17_ n18_ n19_
       have hHeld : w66.cell? ⟨gb277,0,none⟩=some (.int .u64 x278000_2)∧w66.cell? ⟨gb277,1,none⟩=some (.int .u32 x278001_2)∧w66.cell? ⟨gb277,2,none⟩=some (.slice Ao62 x278002_2.length co62)∧w66.cell? (ad279.add (x36_2).toNat)=some (.int .i64 (rd l1 x36_2)):=hS_
       obtain ⟨Ao69,co69,eo69⟩:=Kd.R_slice HO284.out
       (first|subst eo69|(injection eo69 with f1_ f2_ f3_;have f4_:=f1_.symm;have f5_:=f3_.symm;clear f1_ f2_ f3_;subst f4_;subst f5_))
       refine norm_ (a' := ?_) ?_ ?_
       rotate_left
       ·
        simp only [putAll,Act.put,List.setIfInBounds_toArray,List.set_cons_zero,List.set_cons_succ]
        rfl
       refine yv 12 HT_ (fun K hK => ?_)
       have hs67 : w66.cell? ⟨gb286,0,none⟩=some (.int .u64 0):=(zs BK286.out 0).trans rfl
       have hfs67:=zx BK286.out 0
       have:=NB266_286.out
       have:=NB267_286.out
       have:=NB274_286.out
       have:=NB277_286.out
       have:=NB286_266.out
       have:=NB286_267.out
       have:=NB286_274.out
       have:=NB286_277.out
       have hs68 : w66.cell? ⟨gb286,1,none⟩=some (.int .u32 0):=(zs BK286.out 1).trans rfl
       have hfs68:=zx BK286.out 1
       have:=NB266_286.out
       have:=NB267_286.out
       have:=NB274_286.out
       have:=NB277_286.out
       have:=NB286_266.out
       have:=NB286_267.out
       have:=NB286_274.out
       have:=NB286_277.out
       have hs70 : w66.cell? ⟨gb286,2,none⟩=some (.slice none 0 0):=(zs BK286.out 2).trans rfl
       have hfs70:=zx BK286.out 2
       have:=NB266_286.out
       have:=NB267_286.out
       have:=NB274_286.out
       have:=NB277_286.out
       have:=NB286_266.out
       have:=NB286_267.out
       have:=NB286_274.out
       have:=NB286_277.out
       refine skip_ (w1 := ?_) (by rfl) rfl ?_ ?_
       rotate_left
       ·
        go_simp
        rfl
       refine hK.out _ _ ⟨((zr (p:=⟨gb286,_,none⟩) NB277_286.out _).trans (((zr (p:=⟨gb286,_,none⟩) NB277_286.out _).trans (((zr (p:=⟨gb286,_,none⟩) NB277_286.out _).trans (hHeld.1)))))),((zr (p:=⟨gb286,_,none⟩) NB277_286.out _).trans (((zr (p:=⟨gb286,_,none⟩) NB277_286.out _).trans (((zr (p:=⟨gb286,_,none⟩) NB277_286.out _).trans (hHeld.2.1)))))),((zr (p:=⟨gb286,_,none⟩) NB277_286.out _).trans (((zr (p:=⟨gb286,_,none⟩) NB277_286.out _).trans (((zr (p:=⟨gb286,_,none⟩) NB277_286.out _).trans (hHeld.2.2.1)))))),((zr (p:=⟨gb286,_,none⟩) (by first|exact zn (zl (by have:=zb _ _ hw279_0;first|rwa [za] at this|exact this) GW286.out)|(rw [za];exact zn (zl (by have:=zb _ _ hw279_0;first|rwa [za] at this|exact this) GW286.out))|(show (Addr.add _ _).block≠_;rw [za];exact zn (zl (by have:=zb _ _ hw279_0;first|rwa [za] at this|exact this) GW286.out))|(dsimp only;exact zn (zl (by have:=zb _ _ hw279_0;first|rwa [za] at this|exact this) GW286.out))) _).trans (((zr (p:=⟨gb286,_,none⟩) (by first|exact zn (zl (by have:=zb _ _ hw279_0;first|rwa [za] at this|exact this) GW286.out)|(rw [za];exact zn (zl (by have:=zb _ _ hw279_0;first|rwa [za] at this|exact this) GW286.out))|(show (Addr.add _ _).block≠_;rw [za];exact zn (zl (by have:=zb _ _ hw279_0;first|rwa [za] at this|exact this) GW286.out))|(dsimp only;exact zn (zl (by have:=zb _ _ hw279_0;first|rwa [za] at this|exact this) GW286.out))) _).trans (((zr (p:=⟨gb286,_,none⟩) (by first|exact zn (zl (by have:=zb _ _ hw279_0;first|rwa [za] at this|exact this) GW286.out)|(rw [za];exact zn (zl (by have:=zb _ _ hw279_0;first|rwa [za] at this|exact this) GW286.out))|(show (Addr.add _ _).block≠_;rw [za];exact zn (zl (by have:=zb _ _ hw279_0;first|rwa [za] at this|exact this) GW286.out))|(dsimp only;exact zn (zl (by have:=zb _ _ hw279_0;first|rwa [za] at this|exact this) GW286.out))) _).trans (hHeld.2.2.2))))))⟩ (fun hHeld => ?_)
       clear hK K
       refine yp 13 16 HT_ ?_
       refine done_ (done_of HT_.out (by kernel_rfl)) ?_
       have:=NB274_266.out
       have:=NB266_274.out
       have:=NB274_267.out
       have:=NB267_274.out
       have:=NB274_277.out
       have:=NB277_274.out
       have:=NB274_286.out
       have:=NB286_274.out
       obtain ⟨_,_,_,_,_,_⟩:=yc3 BK274
       have:=NB267_266.out
       have:=NB266_267.out
       have:=NB267_277.out
       have:=NB277_267.out
       have:=NB267_286.out
       have:=NB286_267.out
       obtain ⟨_,_,_,_,_,_⟩:=yc3 BK267
       try go_wp2
       refine bodyPost_ret (results_ct rfl _ _ gb267 54 #[.int .u64 t268, .int .u32 t269, .slice Ao16 t270.length co16] (0,0) _ rfl (ykp BK267) Try.underlying54 rfl (by kernel_rfl)) rfl ?_
       exact ⟨_,ye,zy (Kd.R_V (by (with_reducible repeat (first|apply zo|apply zp|apply zq));exact zG (zH (p:=⟨gb267,2,none⟩) (zH (p:=⟨gb267,1,none⟩) (zH (p:=⟨gb267,0,none⟩) (zH (p:=⟨gb286,2,none⟩) (zH (p:=⟨gb286,1,none⟩) (zH (p:=⟨gb286,0,none⟩) (Kd.R_types (Kd.R_types HO_275002.out BK286.out (by decide)) BK267.out (by decide)) (fun _ hk=>hk.1.2) (.int .u64 t280)) (fun _ hk=>hk.1.2) (.int .u32 t281)) (fun _ hk=>hk.1.2) (.slice Ao69 t282.length co69)) (fun _ hk=>hk.2) (.int .u64 t268)) (fun _ hk=>hk.2) (.int .u32 t269)) (fun _ hk=>hk.2) (.slice Ao16 t270.length co16)) (fun _ hk=>hk.1.1.1))) (fun k_ hk=>by first|exact ⟨(.inr (hk.1)),hk.2⟩|exact (.inr (hk))),yhb⟩
    ·
     rw [if_neg c35] at H
     have c35b0 : decide (x36_2 < 5)=false:=decide_eq_false c35
     clear c35
     simp only [Option.some.injEq,Prod.mk.injEq] at H
     obtain ⟨rfl,rfl,rfl,rfl⟩:=H
     have:=NB277_266.out
     have:=NB266_277.out
     have:=NB277_267.out
     have:=NB267_277.out
     have:=NB277_274.out
     have:=NB274_277.out
     obtain ⟨_,_,_,_,_,_⟩:=yc3 BK277
     have:=NB267_266.out
     have:=NB266_267.out
     have:=NB267_274.out
     have:=NB274_267.out
     obtain ⟨_,_,_,_,_,_⟩:=yc3 BK267
     obtain ⟨Ao87,co87,eo87⟩:=Kd.V_slice HO_278002.out
     subst eo87
     go_wp2
     refine bodyPost_ret (results_ct rfl _ _ gb267 54 #[.int .u64 x278000_2, .int .u32 x278001_2, .slice Ao87 x278002_2.length co87] (0,0) _ rfl (ykp BK267) Try.underlying54 rfl (by kernel_rfl)) rfl ?_
     exact ⟨_,ye,yV0 HO_278002,yhb⟩
/-- A row of scalars, as one block of cells. -/
theorem cpack_Write.intRow {k : IntKind} {e base : Nat} {ok : Nat→Prop} {w : World} {v : Value} {xs : List Int} (h : (Kd.int k).R e w base ok v xs) :
  (v=.slice none 0 0∧xs = [])∨∃ g cap cur,v=.slice (some ⟨g,0,none⟩) xs.length cap∧ok g∧base≤g∧w.heap[g]? = some (.cells cur e (0,0))∧xs.length≤cap∧cap≤maxLen∧cur.size=cap∧cur.toList.take xs.length=xs.map (Value.int k):=by
 obtain ⟨h0,inner,⟨h1,h2⟩,hr⟩:=h
 have hsz : (Kd.int k).sz=1:=rfl
 have hin : inner=xs.map (Value.int k):=by
  refine List.ext_getElem? fun j => ?_
  have hl : inner.length=xs.length:=by rw [h1,hsz,Nat.mul_one]
  rcases Nat.lt_or_ge j xs.length with hj|hj
  ·
   have:=hr.2 j _ (List.getElem?_eq_getElem hj)
   rw [hsz,Nat.mul_one] at this
   have h3 : (inner.drop j).take 1 = [Value.int k xs[j]]:=this
   have h4:=congrArg (fun l=>l[0]?) h3
   simp only [List.getElem?_take,List.getElem?_drop] at h4
   simp at h4
   simp [h4,hj]
  ·
   rw [List.getElem?_eq_none (by omega),List.getElem?_eq_none (by simp;omega)]
 rcases h2 with ⟨rfl,hn⟩ | ⟨g,cap,cur,rfl,hb,hh,hnc,hcm,hcs,ht⟩
 ·
  exact .inl ⟨rfl,List.eq_nil_of_length_eq_zero hn⟩
 ·
  rw [hsz,Nat.mul_one] at hcs ht
  exact .inr ⟨g,cap,cur,rfl,h0 g rfl,hb,hh,hnc,hcm,hcs,by rw [ht,hin]⟩
theorem cpack_Write.rowInt {k : IntKind} {e base : Nat} {ok : Nat→Prop} {w : World} {xs : List Int} {g cap : Nat} {cur : Array Value} (hg : ok g) (hb : base≤g) (hh : w.heap[g]? = some (.cells cur e (0,0))) (hn : xs.length≤cap) (hc : cap≤maxLen) (hs : cur.size=cap) (ht : cur.toList.take xs.length=xs.map (Value.int k)) :
  (Kd.int k).R e w base ok (.slice (some ⟨g,0,none⟩) xs.length cap) xs:=by
 have hsz : (Kd.int k).sz=1:=rfl
 refine ⟨fun q hq => ?_,xs.map (Value.int k),⟨by simp [hsz], .inr ⟨g,cap,cur,rfl,hb,hh,hn,hc,by rw [hsz,Nat.mul_one,hs],by rw [hsz,Nat.mul_one,ht]⟩⟩,by simp [hsz],fun j p hp => ?_⟩
 ·
  simp only [Value.ownBlock,Option.some.injEq] at hq;exact hq ▸ hg
 ·
  have : ((xs.map (Value.int k)).drop (j * 1)).take 1 = [Value.int k p]:=by
   rw [Nat.mul_one]
   obtain ⟨hj,hpj⟩:=List.getElem?_eq_some_iff.1 hp
   refine List.ext_getElem? fun i => ?_
   rcases i with _|i
   ·
    simp [List.getElem?_take,hp]
   ·
    simp [List.getElem?_take]
  exact this

theorem cpack_Write.copyRow {P : Program} {ops : Array Oper} {rest : List Oper} {o : Oper} {a : Act} {Q : Exit→Act→World→Prop} {k : IntKind} {w0 W : World} (base : Nat) (hgd : o.guard=none) (d s : Operand) (t e : TypeId)
  (ho : o.op=.call { callee:=.builtin .copy,args := #[d,s],argTypes := #[t,t] }) (ht : P.underlying t=some (.slice e)) {z : Value} {bytes : Nat} (hinfo : (P.info? e).map (fun i=>(i.zero,i.size,i.bytes))=some (some z,1,bytes))
  (v : Value) (xs ys : List Int) (A : Option Addr) (m c : Nat) (ok : Nat→Prop) (hd : a.eval d=v) (hs : a.eval s=.slice A m c)
  (HO : (Kd.int k).R e W base ok v xs) (HR : (Kd.int k).C W A m ys) (HB : Below base w0 W)
  (h : ∀ w1,(Kd.int k).R e w1 base ok v (ys.take xs.length ++ xs.drop ys.length)→Below base w0 w1→wpList P ops Q rest (a.put o.dst (goInt ((min m xs.length : Nat) : Int))) w1) :
  wpList P ops Q (o :: rest) a W:=by
 have hm : ys.length=m:=HR.1
 have hsz : (P.info? e).map (·.size)=some 1:=by
  obtain ⟨i0,hi,hz⟩:=Option.map_eq_some_iff.1 hinfo
  simp only [Prod.mk.injEq] at hz
  rw [hi,Option.map_some,hz.2.1]
 rcases cpack_Write.intRow HO with ⟨rfl,rfl⟩ | ⟨g,cap,cur,rfl,hok,hbg,hh,hnc,hcm,hcs,htk⟩
 ·
  refine wpList_copy_nothing hgd d s t t ho e ht hsz none A 0 0 m c hd hs (by simp) ?_
  have:=h W (by simpa using HO) HB
  simpa using this
 ·
  have hl : (ys.take xs.length).length=min m xs.length:=by simp [List.length_take,hm,Nat.min_comm]
  refine wpList_copy_splice hgd d s t t ho e ht hsz _ A xs.length cap m c hd hs g 0 cur.toList e (by simpa using hh) ((ys.take xs.length).map (Value.int k)) (by rw [List.length_map,hl]) (fun hp=>⟨rfl, ?_⟩) (by rw [List.length_map,hl];have : cur.toList.length=cap:=(by simpa using hcs);omega) (fun v hv=>by obtain ⟨x,_,rfl⟩:=List.mem_map.1 hv;rfl) base w0 HB hbg (fun w1 hg1 hb1 => ?_)
  ·
   rw [List.length_map,hl] at hp
   obtain ⟨ad,rfl,hc⟩:=HR.2.2 (by omega)
   refine ⟨ad,rfl,fun j v hj => ?_⟩
   rw [List.getElem?_map,List.getElem?_take] at hj
   split at hj
   ·
    rcases hy : ys[j]? with _|y
    ·
     rw [hy] at hj;simp at hj
    ·
     rw [hy] at hj
     simp only [Option.map_some,Option.some.injEq] at hj
     subst hj
     obtain ⟨cs,hcl,hcr,hcc⟩:=hc j y hy
     have hcr : cs = [Value.int k y]:=hcr
     subst hcr
     have:=hcc 0 _ rfl
     have h1 : (Kd.int k).sz=1:=rfl
     rwa [h1,Nat.mul_one,Nat.add_zero] at this
   ·
    simp at hj
  ·
   have hlen : (ys.take xs.length ++ xs.drop ys.length).length=xs.length:=by
    rw [List.length_append,List.length_drop,List.length_take];omega
   have hR : (Kd.int k).R e w1 base ok (.slice (some ⟨g,0,none⟩) (ys.take xs.length ++ xs.drop ys.length).length cap) (ys.take xs.length ++ xs.drop ys.length):=by
    refine cpack_Write.rowInt hok hbg hg1 (by omega) hcm ?_ ?_
    ·
     have:=length_splice cur.toList 0 ((ys.take xs.length).map (Value.int k)) (by rw [List.length_map,hl];have : cur.toList.length=cap:=(by simpa using hcs);omega)
     simp only [List.size_toArray,this]
     simpa using hcs
    ·
     rw [hlen]
     simp only [splice,List.take_zero,List.nil_append,List.length_map,Nat.zero_add,List.map_append]
     have hcur : cur.toList=xs.map (Value.int k) ++ cur.toList.drop xs.length:=by rw [← htk,List.take_append_drop]
     have h2 : (cur.toList.drop (ys.take xs.length).length)=(xs.drop (ys.take xs.length).length).map (Value.int k) ++ cur.toList.drop xs.length:=by
      conv=>lhs;rw [hcur]
      rw [List.drop_append_of_le_length (by rw [List.length_map,hl];omega),List.map_drop]
     rw [h2, ← List.append_assoc,List.take_append_of_le_length (by rw [List.length_append,List.length_map,List.length_map,List.length_drop];omega),List.take_of_length_le (by rw [List.length_append,List.length_map,List.length_map,List.length_drop];omega)]
     congr 2
     rcases Nat.le_total ys.length xs.length with h3|h3
     ·
      rw [List.length_take,Nat.min_eq_right h3]
     ·
      rw [List.length_take,Nat.min_eq_left h3,List.drop_eq_nil_of_le (Nat.le_refl _),List.drop_eq_nil_of_le h3]
   rw [hlen] at hR
   have:=h w1 hR hb1
   rwa [← hl, ← List.length_map (f:=Value.int k)] at this
mutual
def cpack_Write.j0 : Nat→Int→Int→List (List Int)→Bool→Bool→List (List Int)→List (List (List Int))→Option (List Int × Int)
 | 0,_,_,_,_,_,_,_=>none
 | k+1,x0,x1,x3,x41,x301000,x301001,x301002=>if x41=true then (some (([] : List Int),1)) else (if x301000=true then (cpack_Write.j1 k x0 x1 x3 1 x301000 x301001 x301002) else (cpack_Write.j1 k x0 x1 x3 0 x301000 x301001 x301002))
def cpack_Write.j1 : Nat→Int→Int→List (List Int)→Int→Bool→List (List Int)→List (List (List Int))→Option (List Int × Int)
 | 0,_,_,_,_,_,_,_=>none
 | k+1,x0,x1,x3,x10,x301000,x301001,x301002=>(coder_New.f).bind fun bt303=>((coder_Put.f k bt303.1 bt303.2.1 bt303.2.2 x10 (wrap64 (x10+1)) 2).bind fun bt308=>(cpack_Write.l0 k x0 x1 x3 x301001 (x301001.length : Int) 0 x301000 x301001 x301002 bt308.1 bt308.2.1 bt308.2.2.1))
def cpack_Write.l0 : Nat→Int→Int→List (List Int)→List (List Int)→Int→Int→Bool→List (List Int)→List (List (List Int))→Int→Int→List Int→Option (List Int × Int)
 | 0,_,_,_,_,_,_,_,_,_,_,_,_=>none
 | k+1,x0,x1,x3,x53,x54,x55,x301000,x301001,x301002,x315000,x315001,x315002=>if x55 < x54 then (if 0≤x55 then (if x55 < (x53.length : Int) then ((cpack_of.f x3 x55).bind fun t316=>((gain_Put.f k x315000 x315001 x315002 (rd_L1 x53 x55) t316 x301000).bind fun bt319=>(cpack_Write.l0 k x0 x1 x3 x53 x54 (wrap64 (x55+1)) x301000 x301001 x301002 bt319.1 bt319.2.1 bt319.2.2.1))) else (none)) else (none)) else ((alloc_Pulses.f k x0 x1 x301001).bind fun bt325=>(cpack_Write.l1 k x0 bt325.1 x301002 (x301002.length : Int) 0 x315000 x315001 x315002))
def cpack_Write.l1 : Nat→Int→List (List Int)→List (List (List Int))→Int→Int→Int→Int→List Int→Option (List Int × Int)
 | 0,_,_,_,_,_,_,_,_=>none
 | k+1,x0,x15,x81,x82,x83,x315000,x315001,x315002=>if x83 < x82 then (if 0≤x83 then (if x83 < (x81.length : Int) then (cpack_Write.l2 k x0 x15 x83 x81 x82 x83 (rd_L2 x81 x83) ((rd_L2 x81 x83).length : Int) 0 x315000 x315001 x315002) else (none)) else (none)) else (if 0≤x0 then (if (x0 : Int).toNat≤281474976710656 then ((some (List.replicate (x0 : Int).toNat 0 : List Int)).bind fun y329=>((coder_Finish.f x315000 x315001 x315002).bind fun t332=>(some ((t332.take y329.length ++ y329.drop t332.length),0)))) else (none)) else (none))
def cpack_Write.l2 : Nat→Int→List (List Int)→Int→List (List (List Int))→Int→Int→List (List Int)→Int→Int→Int→Int→List Int→Option (List Int × Int)
 | 0,_,_,_,_,_,_,_,_,_,_,_,_=>none
 | k+1,x0,x15,x17,x81,x82,x83,x88,x89,x90,x315000,x315001,x315002=>if x90 < x89 then (if 0≤x90 then (if x90 < (x88.length : Int) then (if 0≤x17 then (if x17 < (x15.length : Int) then (if x90 < ((rd_L1 x15 x17).length : Int) then (if (rd (rd_L1 x15 x17) x90)=0 then (cpack_Write.l2 k x0 x15 x17 x81 x82 x83 x88 x89 (wrap64 (x90+1)) x315000 x315001 x315002) else ((band_Width.f x90).bind fun t342=>((comb_Count.f t342 (rd (rd_L1 x15 x17) x90)).bind fun bt345=>((comb_Index.f k (rd_L1 x88 x90)).bind fun bt347=>((coder_PutNum.f k x315000 x315001 x315002 bt347.1 bt345.1).bind fun bt349=>(cpack_Write.l2 k x0 x15 x17 x81 x82 x83 x88 x89 (wrap64 (x90+1)) bt349.1 bt349.2.1 bt349.2.2.1)))))) else (none)) else (none)) else (none)) else (none)) else (none)) else (cpack_Write.l1 k x0 x15 x81 x82 (wrap64 (x83+1)) x315000 x315001 x315002)
end
def cpack_Write.f (k : Nat) (a0 : Int) (a1 : Int) (a2_0 : Bool) (l2_1 : List (List Int)) (l2_2 : List (List (List Int))) (l3 : List (List Int)) : Option (List Int × Int):=(cpack_Right.f k a0 a1 a2_0 l2_1 l2_2).bind fun t301=>(if t301=true then (if a2_0=true then (cpack_Write.j0 k a0 a1 l3 false a2_0 l2_1 l2_2) else ((cpack_gains.f k a1 l3).bind fun t302=>(cpack_Write.j0 k a0 a1 l3 (!t302) a2_0 l2_1 l2_2))) else (cpack_Write.j0 k a0 a1 l3 true a2_0 l2_1 l2_2))
theorem cpack_Write.mono_l : ∀ k,(∀ y0 y1 y2 y3 y4 y5 y6,LeO (cpack_Write.j0 k y0 y1 y2 y3 y4 y5 y6) (cpack_Write.j0 (k+1) y0 y1 y2 y3 y4 y5 y6))∧(∀ y0 y1 y2 y3 y4 y5 y6,LeO (cpack_Write.j1 k y0 y1 y2 y3 y4 y5 y6) (cpack_Write.j1 (k+1) y0 y1 y2 y3 y4 y5 y6))∧(∀ y0 y1 y2 y3 y4 y5 y6 y7 y8 y9 y10 y11,LeO (cpack_Write.l0 k y0 y1 y2 y3 y4 y5 y6 y7 y8 y9 y10 y11) (cpack_Write.l0 (k+1) y0 y1 y2 y3 y4 y5 y6 y7 y8 y9 y10 y11))∧(∀ y0 y1 y2 y3 y4 y5 y6 y7,LeO (cpack_Write.l1 k y0 y1 y2 y3 y4 y5 y6 y7) (cpack_Write.l1 (k+1) y0 y1 y2 y3 y4 y5 y6 y7))∧(∀ y0 y1 y2 y3 y4 y5 y6 y7 y8 y9 y10 y11,LeO (cpack_Write.l2 k y0 y1 y2 y3 y4 y5 y6 y7 y8 y9 y10 y11) (cpack_Write.l2 (k+1) y0 y1 y2 y3 y4 y5 y6 y7 y8 y9 y10 y11))
 | 0=>⟨fun _ _ _ _ _ _ _ r h=>by simp [cpack_Write.j0] at h,fun _ _ _ _ _ _ _ r h=>by simp [cpack_Write.j1] at h,fun _ _ _ _ _ _ _ _ _ _ _ _ r h=>by simp [cpack_Write.l0] at h,fun _ _ _ _ _ _ _ _ r h=>by simp [cpack_Write.l1] at h,fun _ _ _ _ _ _ _ _ _ _ _ _ r h=>by simp [cpack_Write.l2] at h⟩
 | k+1=>by
  obtain ⟨ih0,ih1,ih2,ih3,ih4⟩:=cpack_Write.mono_l k
  refine ⟨?_, ?_, ?_, ?_, ?_⟩
  ·
   intro y0 y1 y2 y3 y4 y5 y6
   unfold cpack_Write.j0
   repeat' with_reducible first|apply ih0|apply ih1|apply ih2|apply ih3|apply ih4|apply alloc_Pulses.mono|apply coder_Put.mono|apply coder_PutNum.mono|apply comb_Index.mono|apply cpack_Right.mono|apply cpack_gains.mono|apply gain_Put.mono|apply yLr|apply yLn|apply yLi|apply yLb|intro _
  ·
   intro y0 y1 y2 y3 y4 y5 y6
   unfold cpack_Write.j1
   repeat' with_reducible first|apply ih0|apply ih1|apply ih2|apply ih3|apply ih4|apply alloc_Pulses.mono|apply coder_Put.mono|apply coder_PutNum.mono|apply comb_Index.mono|apply cpack_Right.mono|apply cpack_gains.mono|apply gain_Put.mono|apply yLr|apply yLn|apply yLi|apply yLb|intro _
  ·
   intro y0 y1 y2 y3 y4 y5 y6 y7 y8 y9 y10 y11
   unfold cpack_Write.l0
   repeat' with_reducible first|apply ih0|apply ih1|apply ih2|apply ih3|apply ih4|apply alloc_Pulses.mono|apply coder_Put.mono|apply coder_PutNum.mono|apply comb_Index.mono|apply cpack_Right.mono|apply cpack_gains.mono|apply gain_Put.mono|apply yLr|apply yLn|apply yLi|apply yLb|intro _
  ·
   intro y0 y1 y2 y3 y4 y5 y6 y7
   unfold cpack_Write.l1
   repeat' with_reducible first|apply ih0|apply ih1|apply ih2|apply ih3|apply ih4|apply alloc_Pulses.mono|apply coder_Put.mono|apply coder_PutNum.mono|apply comb_Index.mono|apply cpack_Right.mono|apply cpack_gains.mono|apply gain_Put.mono|apply yLr|apply yLn|apply yLi|apply yLb|intro _
  ·
   intro y0 y1 y2 y3 y4 y5 y6 y7 y8 y9 y10 y11
   unfold cpack_Write.l2
   repeat' with_reducible first|apply ih0|apply ih1|apply ih2|apply ih3|apply ih4|apply alloc_Pulses.mono|apply coder_Put.mono|apply coder_PutNum.mono|apply comb_Index.mono|apply cpack_Right.mono|apply cpack_gains.mono|apply gain_Put.mono|apply yLr|apply yLn|apply yLi|apply yLb|intro _
theorem cpack_Write.mono : ∀ a0 a1 a2 a3 a4 a5 k,LeO (cpack_Write.f k a0 a1 a2 a3 a4 a5) (cpack_Write.f (k+1) a0 a1 a2 a3 a4 a5):=by
 intro a0 a1 a2 a3 a4 a5 k
 obtain ⟨ih0,ih1,ih2,ih3,ih4⟩:=cpack_Write.mono_l k
 unfold cpack_Write.f
 repeat' with_reducible first|apply ih0|apply ih1|apply ih2|apply ih3|apply ih4|apply alloc_Pulses.mono|apply coder_Put.mono|apply coder_PutNum.mono|apply comb_Index.mono|apply cpack_Right.mono|apply cpack_gains.mono|apply gain_Put.mono|apply yLr|apply yLn|apply yLi|apply yLb|intro _
def cpack_Write.T10 : Bool × List (List Nat × List Nat):=(true, [([], []),([], []),([], []),([], []),([2,3], [2,3]),([], []),([5], [5]),([0,1,4,6,4], [0,1,4,6]),([7], [7]),([8], [8]),([8], [8]),([9,7,0,1,2,3,4,5,6,7,8,9], [9])])
def cpack_Write.B10 : List Nat := [0,0,0,0,12,0,32,127,255,511,511,1023]
theorem cpack_Write.tab10 : rtab .any (opsOf Try.f12 10)=cpack_Write.T10:=by kernel_rfl
theorem cpack_Write.bits10 : waitsOk cpack_Write.T10.2 cpack_Write.B10=true:=by kernel_rfl
def cpack_Write.T20 : Bool × List (List Nat × List Nat):=(true, [([], []),([0], [0]),([], []),([], []),([2,3], [2,3]),([4], [4]),([], []),([5,6], [5,6]),([7], [7]),([1,8,1], [1,8]),([9], [9]),([10], [10]),([10], [10]),([11,9,0,1,2,3,4,5,6,7,8,9,10,11], [11]),([12,13,0,1,2,3,4,5,6,7,8,9,10,11,12,13], [12])])
def cpack_Write.B20 : List Nat := [0,1,0,0,12,28,0,124,252,511,1023,2047,2047,4095,16383]
theorem cpack_Write.tab20 : rtab .any (opsOf Try.f12 20)=cpack_Write.T20:=by kernel_rfl
theorem cpack_Write.bits20 : waitsOk cpack_Write.T20.2 cpack_Write.B20=true:=by kernel_rfl
set_option maxHeartbeats 8000000 in
set_option maxRecDepth 100000 in
theorem cpack_Write.calls (k : Nat) (a0 : Int) (a1 : Int) (a2_0 : Bool) (A2_1 : Option Addr) (c2_1 : Nat) (l2_1 : List (List Int)) (A2_2 : Option Addr) (c2_2 : Nat) (l2_2 : List (List (List Int))) (A3 : Option Addr) (c3 : Nat) (l3 : List (List Int)) (r1 : List Int) (r2 : Int) (w : World) (hr2_1 : Kd.C (Kd.slice 3 (Kd.int .i64)) w A2_1 l2_1.length l2_1) (hc2_1 : l2_1.length≤c2_1) (hr2_2 : Kd.C (Kd.slice 49 (Kd.slice 3 (Kd.int .i64))) w A2_2 l2_2.length l2_2) (hc2_2 : l2_2.length≤c2_2) (hr3 : Kd.C (Kd.slice 3 (Kd.int .i64)) w A3 l3.length l3) (hc3 : l3.length≤c3) (h : cpack_Write.f k a0 a1 a2_0 l2_1 l2_2 l3=some (r1,r2)) :
  Calls Try.prog 12 #[.int .i64 a0, .int .i64 a1, .agg #[.bool a2_0, .slice A2_1 l2_1.length c2_1, .slice A2_2 l2_2.length c2_2], .slice A3 l3.length c3] w fun e w' => ∃ v0_ : Value,e=.returned (.tuple #[v0_, .int .i64 r2])∧Kd.R (Kd.int .u8) 5 w' w.heap.size (fun _=>True) v0_ r1∧Below w.heap.size w w' := by
 have hu25:=Try.underlying25;have hu54:=Try.underlying54;have HR2_1:=zm hr2_1;have HC2_1:=zm hc2_1;clear hr2_1 hc2_1;have HR2_2:=zm hr2_2;have HC2_2:=zm hc2_2;clear hr2_2 hc2_2;have HR3:=zm hr3;have HC3:=zm hc3;clear hr3 hc3;have HB:=zm (Below.refl w.heap.size w)
 have H : ((cpack_Right.f k a0 a1 a2_0 l2_1 l2_2).bind fun t301=>(if t301=true then (if a2_0=true then (cpack_Write.j0 k a0 a1 l3 false a2_0 l2_1 l2_2) else ((cpack_gains.f k a1 l3).bind fun t302=>(cpack_Write.j0 k a0 a1 l3 (!t302) a2_0 l2_1 l2_2))) else (cpack_Write.j0 k a0 a1 l3 true a2_0 l2_1 l2_2)))=some (r1,r2):=h
 clear h;have HC5:=zm H;clear H
 go_enter Try.func12,Try.ntmps12
 go_upto_region 1 with (first|((with_reducible refine gate_dst (N:=6) rfl ?_);refine ybx 6 #[.bool a2_0, .slice A2_1 l2_1.length c2_1, .slice A2_2 l2_2.length c2_2] 25 ?_;intro gb300 hg w6 hbox hb;have BK300:=zm (hbox);have GW300:=ygw hg;have GE300:=ygw hg;replace HB:=ybs hb;clear hb hbox hg))
 (try simp only [Act.put,List.setIfInBounds_toArray,List.set_cons_zero,List.set_cons_succ])
 go_cut [41] (fun v41 wc => ∃ (kq : Nat) (x41_4 : Bool),v41=.bool x41_4∧Aside0 (cpack_Write.j0 kq a0 a1 l3 x41_4 a2_0 l2_1 l2_2=some (r1,r2))∧Aside0 (kq≤k)∧Aside0 (wc.heap[gb300]? = some (.cells #[.bool a2_0,(.slice A2_1 l2_1.length c2_1),(.slice A2_2 l2_2.length c2_2)] 25 (0,0)))∧Aside0 (Below w.heap.size w wc))
 case first =>
  have H:=HC5.out;clear HC5
  obtain ⟨t301,A7,H⟩:=ybi H
  by_cases c8 : t301=true
  ·
   subst c8
   rw [if_pos rfl] at H
   by_cases c9 : a2_0=true
   ·
    subst c9
    rw [if_pos rfl] at H
    have H' := zm H
    clear H
    obtain ⟨_,_,_,_,_,_⟩:=yc3 BK300
    go_wp2_with (first|((with_reducible refine gate_callee (f:=15) rfl ?_);refine ygl 29 Try.func15 #[.int .i64 a0, .int .i64 a1, .agg #[.bool true, .slice A2_1 l2_1.length c2_1, .slice A2_2 l2_2.length c2_2]] ?_;(with_reducible refine (cpack_Right.calls k a0 a1 true _ _ l2_1 _ _ l2_2 true _ ?side1 HC2_1.out ?side3 HC2_2.out A7.out).mono ?_);(case side1=>exact ycb HR2_1);(case side3=>exact ycb HR2_2);rintro e w11 ⟨rfl,hb⟩;refine ⟨_,rfl, ?_⟩;replace BK300:=ybb BK300 hb;replace HB:=ybs hb;(try clear hb);obtain ⟨_,_,_,_,_,_⟩:=yc3 BK300))
    go_meet
    case rel=>exact ⟨_,(false),yq,H',⟨yo⟩,⟨yk BK300⟩,⟨yhb⟩⟩
   ·
    replace c9:=Bool.eq_false_iff.mpr c9
    subst c9
    rw [ynf] at H
    obtain ⟨t302,A13,H⟩:=ybi H
    have H' := zm H
    clear H
    obtain ⟨_,_,_,_,_,_⟩:=yc3 BK300
    go_wp2_with (first|((with_reducible refine gate_callee (f:=15) rfl ?_);refine ygl 29 Try.func15 #[.int .i64 a0, .int .i64 a1, .agg #[.bool false, .slice A2_1 l2_1.length c2_1, .slice A2_2 l2_2.length c2_2]] ?_;(with_reducible refine (cpack_Right.calls k a0 a1 false _ _ l2_1 _ _ l2_2 true _ ?side1 HC2_1.out ?side3 HC2_2.out A7.out).mono ?_);(case side1=>exact ycb HR2_1);(case side3=>exact ycb HR2_2);rintro e w15 ⟨rfl,hb⟩;refine ⟨_,rfl, ?_⟩;replace BK300:=ybb BK300 hb;replace HB:=ybs hb;(try clear hb);obtain ⟨_,_,_,_,_,_⟩:=yc3 BK300)|(go_at_call 25;(with_reducible refine (cpack_gains.calls k a1 _ _ l3 t302 _ ?side1 HC3.out A13.out).mono ?_);(case side1=>exact ycb HR3);rintro e w' ⟨rfl,⟨nd,rfl⟩⟩))
    go_meet
    case rel=>exact ⟨_,(!t302),yq,H',⟨yo⟩,⟨yk BK300⟩,⟨yhb⟩⟩
  ·
   replace c8:=Bool.eq_false_iff.mpr c8
   subst c8
   rw [ynf] at H
   have H' := zm H
   clear H
   obtain ⟨_,_,_,_,_,_⟩:=yc3 BK300
   go_wp2_with (first|((with_reducible refine gate_callee (f:=15) rfl ?_);refine ygl 29 Try.func15 #[.int .i64 a0, .int .i64 a1, .agg #[.bool a2_0, .slice A2_1 l2_1.length c2_1, .slice A2_2 l2_2.length c2_2]] ?_;(with_reducible refine (cpack_Right.calls k a0 a1 a2_0 _ _ l2_1 _ _ l2_2 false _ ?side1 HC2_1.out ?side3 HC2_2.out A7.out).mono ?_);(case side1=>exact ycb HR2_1);(case side3=>exact ycb HR2_2);rintro e w18 ⟨rfl,hb⟩;refine ⟨_,rfl, ?_⟩;replace BK300:=ybb BK300 hb;replace HB:=ybs hb;(try clear hb)))
   go_meet
   case rel=>exact ⟨_,(true),yq,H',⟨yo⟩,⟨yk BK300⟩,⟨yhb⟩⟩
 case rest =>
  clear HC5
  try clear c3
  obtain ⟨kq,x41_4,rfl,HA,HJ4,BK300,HB⟩:=hcut
  obtain ⟨kj4,rfl⟩:=ysu kq (fun h=>by subst h;exact absurd HA.out (by simp [cpack_Write.j0]))
  have H:=HA.out;clear HA
  simp only [cpack_Write.j0] at H
  by_cases c19 : x41_4=true
  ·
   subst c19
   rw [if_pos rfl] at H
   simp only [Option.some.injEq,Prod.mk.injEq] at H
   obtain ⟨rfl,rfl⟩:=H
   go_wp2
   go_ret2
   exact ⟨_,ye,yn,yhb⟩
  ·
   replace c19:=Bool.eq_false_iff.mpr c19
   subst c19
   rw [ynf] at H
   have HC20:=zm H;clear H
   obtain ⟨hcz21_0,hcz21_1,hcz21_2,hfz21_0,hfz21_1,hfz21_2⟩:=yc3 BK300
   go_upto_if 43 with (fail)
   go_cut [10] (fun v10 wc => ∃ (kq : Nat) (x10_19 : Int),v10=.int .i64 x10_19∧Aside0 (cpack_Write.j1 kq a0 a1 l3 x10_19 a2_0 l2_1 l2_2=some (r1,r2))∧Aside0 (kq≤kj4)∧Aside0 (wc.heap[gb300]? = some (.cells #[.bool a2_0,(.slice A2_1 l2_1.length c2_1),(.slice A2_2 l2_2.length c2_2)] 25 (0,0)))∧Aside0 (Below w.heap.size w wc))
   case first =>
    have H:=HC20.out;clear HC20
    by_cases c22 : a2_0=true
    ·
     subst c22
     rw [if_pos rfl] at H
     have H' := zm H
     clear H
     go_wp2
     go_meet
     case rel=>exact ⟨_,(1),yq,H',⟨yom1 HJ4⟩,⟨yk BK300⟩,⟨yhb⟩⟩
    ·
     replace c22:=Bool.eq_false_iff.mpr c22
     subst c22
     rw [ynf] at H
     have H' := zm H
     clear H
     go_wp2
     go_meet
     case rel=>exact ⟨_,(0),yq,H',⟨yom1 HJ4⟩,⟨yk BK300⟩,⟨yhb⟩⟩
   case rest =>
    clear HC20
    try clear hcz21_0
    try clear hcz21_1
    try clear hcz21_2
    try clear hfz21_0
    try clear hfz21_1
    try clear hfz21_2
    obtain ⟨kq,x10_19,rfl,HA,HJ19,BK300,HB⟩:=hcut
    obtain ⟨kj19,rfl⟩:=ysu kq (fun h=>by subst h;exact absurd HA.out (by simp [cpack_Write.j1]))
    have H:=HA.out;clear HA
    simp only [cpack_Write.j1] at H
    obtain ⟨⟨t303,t304,t305⟩,A23,H⟩:=ybi H
    try dsimp only at H
    obtain ⟨⟨t308,t309,t310,t313⟩,A24,H⟩:=ybi H
    try dsimp only at H
    have H' := zm H
    clear H
    go_wp2_with (first|((with_reducible refine gate_callee (f:=27) rfl ?_);refine ygl 45 Try.func27 #[] ?_;(with_reducible refine (coder_New.calls  t303 t304 t305 _ A23.out).mono ?_);rintro e w25 ⟨v306,rfl,ho0,hb⟩;refine ⟨_,rfl, ?_⟩;have HO307:=zm (Kd.R_lower ho0 (zE yhb));replace BK300:=ybb BK300 hb;replace HB:=ybs hb;(try clear hb);(try clear ho0);obtain ⟨Ao26,co26,eo26⟩:=Kd.R_slice HO307.out;subst eo26)|((with_reducible refine gate_callee (f:=26) rfl ?_);refine ygl 49 Try.func26 #[.agg #[.int .u64 t303, .int .u32 t304, .slice Ao26 t305.length co26], .int .i64 x10_19, .int .i64 (wrap64 (x10_19+1)), .int .i64 2] ?_;(with_reducible refine (coder_Put.calls kj19 t303 t304 _ _ t305 x10_19 (wrap64 (x10_19+1)) 2 t308 t309 t310 t313 _ ?side1 ?side2 A24.out).mono ?_);(case side1=>exact yce (Kd.R_reads' HO307.out).2.2);(case side2=>exact (Kd.R_reads' HO307.out).2.1);rintro e w27 ⟨v311,rfl,ho0,hb⟩;refine ⟨_,rfl, ?_⟩;have HO312:=zm (Kd.R_lower (Kd.R_new' ho0 (Kd.R_lt (yr HO307))) (zE yhb));replace HO307:=zm (Kd.R_elder' (yr HO307) (Kd.R_base ho0) hb);replace BK300:=ybb BK300 hb;replace HB:=ybs hb;(try clear hb);(try clear ho0))|((with_reducible refine gate_dst (N:=11) rfl ?_);refine ybx 11 #[.int .u64 0, .int .u32 0, .slice none 0 0] 54 ?_;intro gb314 hg w28 hbox hb;replace HO307:=yRb HO307 hb;replace HO312:=yRb HO312 hb;have BK314:=zm (hbox);have GW314:=ygw hg;have GE314:=ygw hg;replace HB:=ybs hb;have NB300_314:=ynl BK300 hg;have NB314_300:=yng BK300 hg;replace BK300:=ybb BK300 hb;clear hb hbox hg;have:=NB314_300.out;have:=NB300_314.out;obtain ⟨hcz30_0,hcz30_1,hcz30_2,hfz30_0,hfz30_1,hfz30_2⟩:=yc3 BK314;obtain ⟨Ao31,co31,eo31⟩:=Kd.R_slice HO312.out;subst eo31;obtain ⟨hcz32_0,hcz32_1,hcz32_2,hfz32_0,hfz32_1,hfz32_2⟩:=yc3 BK300))
    go_loopg [55] kj19 (fun kq v55 w' => ∃ (x55_3 : Int) (x315000_3 : Int) (x315001_3 : Int) (x315002_3 : List Int) (u315002 : Value),v55=.int .i64 x55_3∧Aside0 (cpack_Write.l0 kq a0 a1 l3 l2_1 (l2_1.length : Int) x55_3 a2_0 l2_1 l2_2 x315000_3 x315001_3 x315002_3=some (r1,r2))∧Aside0 (kq≤kj19)∧Aside0 (Kd.V (Kd.int .u8) 5 w' w.heap.size (fun k_=>k_≠gb300∧k_≠gb314) u315002 x315002_3)∧Aside0 (w'.heap[gb300]? = some (.cells #[.bool a2_0,(.slice A2_1 l2_1.length c2_1),(.slice A2_2 l2_2.length c2_2)] 25 (0,0)))∧Aside0 (w'.heap[gb314]? = some (.cells #[.int .u64 x315000_3, .int .u32 x315001_3,u315002] 54 (0,0)))∧Aside0 (Below w.heap.size w w'))
    case atStart=>exact ⟨(0),(t308),(t309),(t310),(.slice Ao31 t310.length co31),yq,H',⟨Nat.le_refl _⟩,⟨Kd.R_V (by (with_reducible repeat (first|apply zo|apply zp|apply zq));exact zG (zH (p:=⟨gb314,2,none⟩) (zH (p:=⟨gb314,1,none⟩) (zH (p:=⟨gb314,0,none⟩) (Kd.R_types (Kd.R_types (Kd.R_types HO312.out BK300.out (by decide)) BK314.out (by decide)) BK314.out (by decide)) (fun _ hk=>hk.2) (.int .u64 t308)) (fun _ hk=>hk.2) (.int .u32 t309)) (fun _ hk=>hk.2) (.slice Ao31 t310.length co31)) (fun _ hk=>⟨hk.1.1.2,hk.1.2⟩))⟩,⟨yk BK300⟩,⟨ykp BK314⟩,⟨yhb⟩⟩
    case round =>
     clear H'
     try clear hcz30_0
     try clear hcz30_1
     try clear hcz30_2
     try clear hcz32_0
     try clear hcz32_1
     try clear hcz32_2
     try clear hfz30_0
     try clear hfz30_1
     try clear hfz30_2
     try clear hfz32_0
     try clear hfz32_1
     try clear hfz32_2
     obtain ⟨x55_3,x315000_3,x315001_3,x315002_3,u315002,rfl,HA,HK3,HO_315002,BK300,BK314,HB⟩:=hrel
     obtain ⟨k3,rfl⟩:=ysu gk (fun h=>by subst h;exact absurd HA.out (by simp [cpack_Write.l0]))
     have H:=HA.out;clear HA
     simp only [cpack_Write.l0] at H
     by_cases c33 : x55_3 < (l2_1.length : Int)
     ·
      rw [if_pos c33] at H
      have c33b0 : decide (x55_3 < (l2_1.length : Int))=true:=decide_eq_true c33
      clear c33
      obtain ⟨c34,H⟩:=yif H
      have c34b0 : decide (0≤x55_3)=true:=decide_eq_true c34
      clear c34
      obtain ⟨c35,H⟩:=yif H
      have c35b0 : decide (x55_3 < (l2_1.length : Int))=true:=decide_eq_true c35
      clear c35
      obtain ⟨t316,A36,H⟩:=ybi H
      obtain ⟨⟨t319,t320,t321,t324⟩,A37,H⟩:=ybi H
      try dsimp only at H
      have H' := zm H
      clear H
      have p315 : 0≤(x55_3 : Int):=yt
      have q315 : x55_3 < (l2_1.length : Int):=yt
      obtain ⟨ad315,A315_0,c315_0,e315,hx315_0,hl315_0,hi315_0⟩:=at_L1 HR2_1.out x55_3 p315 q315
      cases e315
      replace hx315_0:=yhx HB hx315_0
      have HR315_0:=zm hi315_0;have HC315_0:=zm hl315_0;clear hi315_0 hl315_0
      replace p315:=eq_true p315
      replace q315:=eq_true q315
      try go_wp2
      replace HO_315002:=zm (zC HO_315002.out)
      replace BK300:=zm (zj BK300.out)
      replace BK314:=zm (zj BK314.out)
      replace HB:=zm (zf HB.out)
      refine yst (fun w' => w'.cell? ⟨gb314,0,none⟩=some (.int .u64 x315000_3)∧w'.cell? ⟨gb314,1,none⟩=some (.int .u32 x315001_3)∧w'.cell? ⟨gb314,2,none⟩=some (u315002)∧w'.cell? ⟨gb300,0,none⟩=some (.bool a2_0)∧w'.cell? ⟨gb300,1,none⟩=some (.slice (some ad315) l2_1.length c2_1)∧w'.cell? ⟨gb300,2,none⟩=some (.slice A2_2 l2_2.length c2_2)) [11] 12 cpack_Write.tab10 cpack_Write.bits10 (fun hHeld HT_ HW_ => ?_)
      generalize wr.drew=w38 at HO_315002 BK300 BK314 HB hHeld ⊢
      refine yp 1 62 HT_ ?_
      refine yp 2 63 HT_ ?_
      refine yp 3 64 HT_ ?_
      refine yp 5 66 HT_ ?_
      refine yl 0 61 HT_ HW_ hHeld ?_
      refine yl 6 67 HT_ HW_ hHeld ?_
      refine yw 4 65 HT_ (fun K hK => ?_)
      refine ygs Try.func29 #[.slice A3 l3.length c3, .int .i64 x55_3] ?_
      with_reducible refine (cpack_of.calls (fun k_=>k_ < w.heap.size) _ _ l3 x55_3 t316 _ ?side1 A36.out).mono ?_
      (case side1=>exact Kd.V_mk HC3.out (Kd.F_below (Kd.C_F (Kd.heap_slice 3 (Kd.heap_int .i64)) HR3.out) yhb))
      rintro e w39 ⟨v317,rfl,ho0,hb⟩
      refine ⟨_,rfl, ?_⟩
      replace HO_315002:=yVb HO_315002 hb
      have HO318:=yho (fun k_=>k_≠gb300∧k_≠gb314) ho0 (fun k_ hk_=>⟨yoB BK300 hk_,yoB BK314 hk_⟩)
      replace BK300:=ybb BK300 hb
      replace BK314:=ybb BK314 hb
      replace HB:=ybs hb
      (try clear hb)
      (try clear ho0)
      obtain ⟨Ao40,co40,eo40⟩:=Kd.V_slice HO_315002.out
      (first|subst eo40|(injection eo40 with f1_ f2_ f3_;have f4_:=f1_.symm;have f5_:=f3_.symm;clear f1_ f2_ f3_;subst f4_;subst f5_))
      obtain ⟨Ao41,co41,eo41⟩:=Kd.V_slice HO318.out
      (first|subst eo41|(injection eo41 with f1_ f2_ f3_;have f4_:=f1_.symm;have f5_:=f3_.symm;clear f1_ f2_ f3_;subst f4_;subst f5_))
      refine hK.out _ _ yH (fun hHeld => ?_)
      clear hK K
      refine ym (some 65) ?_
      refine yw 7 68 HT_ (fun K hK => ?_)
      refine ygs Try.func28 #[.agg #[.int .u64 x315000_3, .int .u32 x315001_3, .slice Ao40 x315002_3.length co40], .slice A315_0 (rd_L1 l2_1 x55_3).length c315_0, .slice Ao41 t316.length co41, .bool a2_0] ?_
      with_reducible refine (gain_Put.calls k3 x315000_3 x315001_3 (fun k_=>(k_≠gb300∧k_≠gb314)) _ _ x315002_3 _ _ (rd_L1 l2_1 x55_3) _ _ t316 a2_0 t319 t320 t321 t324 _ ?side1 ?side2 ?side3 ?side4 ?side5 A37.out).mono ?_
      (case side1=>exact HO_315002.out)
      (case side2=>exact ycb HR315_0)
      (case side3=>exact HC315_0.out)
      (case side4=>exact yce (Kd.V_reads' HO318.out).2.2)
      (case side5=>exact (Kd.V_reads' HO318.out).2.1)
      rintro e w42 ⟨v322,rfl,ho0,hb⟩
      refine ⟨_,rfl, ?_⟩
      replace HO_315002:=yVb HO_315002 hb
      replace HO318:=yVb HO318 hb
      have HO323:=yho (fun k_=>k_≠gb300∧k_≠gb314) ho0 (fun k_ hk_=>⟨yoB BK300 hk_,yoB BK314 hk_⟩)
      replace BK300:=ybb BK300 hb
      replace BK314:=ybb BK314 hb
      replace HB:=ybs hb
      (try clear hb)
      (try clear ho0)
      obtain ⟨Ao45,co45,eo45⟩:=Kd.V_slice HO323.out
      (first|subst eo45|(injection eo45 with f1_ f2_ f3_;have f4_:=f1_.symm;have f5_:=f3_.symm;clear f1_ f2_ f3_;subst f4_;subst f5_))
      refine hK.out _ _ yH (fun hHeld => ?_)
      clear hK K
      refine ym (some 68) ?_
      refine yp 8 60 HT_ ?_
      refine yp 9 69 HT_ ?_
      refine yp 10 70 HT_ ?_
      refine last_ (i:=11) (N:=none) #[true,true,true,true,true,true,true,true,true,true,true,true] rfl rfl (one_of HT_.out (by kernel_rfl)) (by decide) (fun K hK => ?_)
      have hs43 : w42.cell? ⟨gb314,0,none⟩=some (.int .u64 x315000_3):=(zs BK314.out 0).trans rfl
      have hfs43:=zx BK314.out 0
      have:=NB300_314.out
      have:=NB314_300.out
      have hs44 : w42.cell? ⟨gb314,1,none⟩=some (.int .u32 x315001_3):=(zs BK314.out 1).trans rfl
      have hfs44:=zx BK314.out 1
      have:=NB300_314.out
      have:=NB314_300.out
      have hs46 : w42.cell? ⟨gb314,2,none⟩=some (.slice Ao40 x315002_3.length co40):=(zs BK314.out 2).trans rfl
      have hfs46:=zx BK314.out 2
      have:=NB300_314.out
      have:=NB314_300.out
      refine skip_ (w1 := ?_) (by rfl) rfl ?_ ?_
      rotate_left
      ·
       go_simp
       rfl
      refine hK.out _ _ ?_
      clear hK K
      refine done_ (done_of HT_.out (by kernel_rfl)) ?_
      try go_wp2
      go_roundg k3
      case measure=>exact yom3 HJ4 HJ19 HK3
      case rel=>exact ⟨(wrap64 (x55_3+1)),(t319),(t320),(t321),(.slice Ao45 t321.length co45),yq,H',⟨yom3 HJ4 HJ19 HK3⟩,⟨yV0 HO323⟩,⟨yk BK300⟩,⟨ykp BK314⟩,⟨yhb⟩⟩
     ·
      rw [if_neg c33] at H
      have c33b0 : decide (x55_3 < (l2_1.length : Int))=false:=decide_eq_false c33
      clear c33
      obtain ⟨⟨t325,t326⟩,A47,H⟩:=ybi H
      try dsimp only at H
      have H' := zm H
      clear H
      have:=NB300_314.out
      have:=NB314_300.out
      obtain ⟨hcz49_0,hcz49_1,hcz49_2,hfz49_0,hfz49_1,hfz49_2⟩:=yc3 BK300
      go_wp2_with (first|((with_reducible refine gate_callee (f:=30) rfl ?_);refine ygl 77 Try.func30 #[.int .i64 a0, .int .i64 a1, .slice A2_1 l2_1.length c2_1] ?_;(with_reducible refine (alloc_Pulses.calls k3 a0 a1 _ _ l2_1 t325 t326 _ ?side1 HC2_1.out A47.out).mono ?_);(case side1=>exact ycb HR2_1);rintro e w50 ⟨v327,rfl,ho0,hb⟩;refine ⟨_,rfl, ?_⟩;replace HO_315002:=zm (Kd.V_elder' (yr HO_315002) (Kd.S_base ho0) hb);have HO328:=zm (Kd.S_lower ho0 (zE yhb));replace BK300:=ybb BK300 hb;replace BK314:=ybb BK314 hb;replace HB:=ybs hb;(try clear hb);(try clear ho0);obtain ⟨hcz51_0,hcz51_1,hcz51_2,hfz51_0,hfz51_1,hfz51_2⟩:=yc3 BK300))
      go_loopg [83] k3 (fun kq v83 w' => ∃ (x83_4 : Int) (x315000_4 : Int) (x315001_4 : Int) (x315002_4 : List Int) (u315002 : Value),v83=.int .i64 x83_4∧Aside0 (cpack_Write.l1 kq a0 t325 l2_2 (l2_2.length : Int) x83_4 x315000_4 x315001_4 x315002_4=some (r1,r2))∧Aside0 (kq≤k3)∧Aside0 (Kd.S (Kd.slice 3 (Kd.int .i64)) 49 w' w.heap.size (fun _=>True) v327 t325)∧Aside0 (Kd.V (Kd.int .u8) 5 w' w.heap.size (fun k_=>some k_≠(v327 : Value).ownBlock∧k_≠gb300∧k_≠gb314) u315002 x315002_4)∧Aside0 (w'.heap[gb300]? = some (.cells #[.bool a2_0,(.slice A2_1 l2_1.length c2_1),(.slice A2_2 l2_2.length c2_2)] 25 (0,0)))∧Aside0 (w'.heap[gb314]? = some (.cells #[.int .u64 x315000_4, .int .u32 x315001_4,u315002] 54 (0,0)))∧Aside0 (Below w.heap.size w w'))
      case atStart=>exact ⟨(0),(x315000_3),(x315001_3),(x315002_3),(u315002),yq,H',⟨Nat.le_refl _⟩,⟨yr HO328⟩,⟨yV0 HO_315002⟩,⟨yk BK300⟩,⟨yk BK314⟩,⟨yhb⟩⟩
      case round =>
       clear H'
       try clear c3
       try clear c33b0
       try clear c34b0
       try clear c35b0
       try clear hcz49_0
       try clear hcz49_1
       try clear hcz49_2
       try clear hcz51_0
       try clear hcz51_1
       try clear hcz51_2
       try clear hfz49_0
       try clear hfz49_1
       try clear hfz49_2
       try clear hfz51_0
       try clear hfz51_1
       try clear hfz51_2
       try clear hx315_0
       try clear p315
       try clear q315
       obtain ⟨x83_4,x315000_4,x315001_4,x315002_4,u315002,rfl,HA,HK4,HO_15,HO_315002,BK300,BK314,HB⟩:=hrel
       obtain ⟨k4,rfl⟩:=ysu gk (fun h=>by subst h;exact absurd HA.out (by simp [cpack_Write.l1]))
       have H:=HA.out;clear HA
       simp only [cpack_Write.l1] at H
       by_cases c52 : x83_4 < (l2_2.length : Int)
       ·
        rw [if_pos c52] at H
        have c52b0 : decide (x83_4 < (l2_2.length : Int))=true:=decide_eq_true c52
        clear c52
        obtain ⟨c53,H⟩:=yif H
        have c53b0 : decide (0≤x83_4)=true:=decide_eq_true c53
        clear c53
        obtain ⟨c54,H⟩:=yif H
        have c54b0 : decide (x83_4 < (l2_2.length : Int))=true:=decide_eq_true c54
        clear c54
        have H' := zm H
        clear H
        have p338 : 0≤(x83_4 : Int):=yt
        have q338 : x83_4 < (l2_2.length : Int):=yt
        obtain ⟨ad338,A338_0,c338_0,e338,hx338_0,hl338_0,hi338_0⟩:=at_L2 HR2_2.out x83_4 p338 q338
        cases e338
        replace hx338_0:=yhx HB hx338_0
        have HR338_0:=zm hi338_0;have HC338_0:=zm hl338_0;clear hi338_0 hl338_0
        replace p338:=eq_true p338
        replace q338:=eq_true q338
        go_wp2
        go_loopg [90] k4 (fun kq v90 w' => ∃ (x90_5 : Int) (x315000_5 : Int) (x315001_5 : Int) (x315002_5 : List Int) (u315002 : Value),v90=.int .i64 x90_5∧Aside0 (cpack_Write.l2 kq a0 t325 x83_4 l2_2 (l2_2.length : Int) x83_4 (rd_L2 l2_2 x83_4) ((rd_L2 l2_2 x83_4).length : Int) x90_5 x315000_5 x315001_5 x315002_5=some (r1,r2))∧Aside0 (kq≤k4)∧Aside0 (Kd.S (Kd.slice 3 (Kd.int .i64)) 49 w' w.heap.size (fun _=>True) v327 t325)∧Aside0 (Kd.V (Kd.int .u8) 5 w' w.heap.size (fun k_=>some k_≠(v327 : Value).ownBlock∧k_≠gb300∧k_≠gb314) u315002 x315002_5)∧Aside0 (w'.heap[gb300]? = some (.cells #[.bool a2_0,(.slice A2_1 l2_1.length c2_1),(.slice (some ad338) l2_2.length c2_2)] 25 (0,0)))∧Aside0 (w'.heap[gb314]? = some (.cells #[.int .u64 x315000_5, .int .u32 x315001_5,u315002] 54 (0,0)))∧Aside0 (Below w.heap.size w w'))
        case atStart=>exact ⟨(0),(x315000_4),(x315001_4),(x315002_4),(u315002),yq,H',⟨Nat.le_refl _⟩,⟨yr HO_15⟩,⟨yr HO_315002⟩,⟨yk BK300⟩,⟨yk BK314⟩,⟨yhb⟩⟩
        case round =>
         clear H'
         try clear c52b0
         try clear c53b0
         try clear c54b0
         try clear hx338_0
         try clear p338
         try clear q338
         obtain ⟨x90_5,x315000_5,x315001_5,x315002_5,u315002,rfl,HA,HK5,HO_15,HO_315002,BK300,BK314,HB⟩:=hrel
         obtain ⟨k5,rfl⟩:=ysu gk (fun h=>by subst h;exact absurd HA.out (by simp [cpack_Write.l2]))
         have H:=HA.out;clear HA
         simp only [cpack_Write.l2] at H
         by_cases c55 : x90_5 < ((rd_L2 l2_2 x83_4).length : Int)
         ·
          rw [if_pos c55] at H
          have c55b0 : decide (x90_5 < ((rd_L2 l2_2 x83_4).length : Int))=true:=decide_eq_true c55
          clear c55
          obtain ⟨c56,H⟩:=yif H
          have c56b0 : decide (0≤x90_5)=true:=decide_eq_true c56
          clear c56
          obtain ⟨c57,H⟩:=yif H
          have c57b0 : decide (x90_5 < ((rd_L2 l2_2 x83_4).length : Int))=true:=decide_eq_true c57
          clear c57
          obtain ⟨c58,H⟩:=yif H
          have c58b0 : decide (0≤x83_4)=true:=decide_eq_true c58
          clear c58
          obtain ⟨c59,H⟩:=yif H
          have c59b0 : decide (x83_4 < (t325.length : Int))=true:=decide_eq_true c59
          clear c59
          obtain ⟨c60,H⟩:=yif H
          have c60b0 : decide (x90_5 < ((rd_L1 t325 x83_4).length : Int))=true:=decide_eq_true c60
          clear c60
          by_cases c61 : (rd (rd_L1 t325 x83_4) x90_5)=0
          ·
           rw [if_pos c61] at H
           have c61b0 : ((rd (rd_L1 t325 x83_4) x90_5) == 0)=true:=beq_iff_eq.mpr c61
           have c61b1 : ((rd (rd_L1 t325 x83_4) x90_5) != 0)=false:=bne_eq_false_iff_eq.mpr c61
           clear c61
           have H' := zm H
           clear H
           have p339 : 0≤(x90_5 : Int):=yt
           have q339 : x90_5 < ((rd_L2 l2_2 x83_4).length : Int):=yt
           obtain ⟨ad339,A339_0,c339_0,e339,hx339_0,hl339_0,hi339_0⟩:=at_L1 HR338_0.out x90_5 p339 q339
           cases e339
           replace hx339_0:=yhx HB hx339_0
           have HR339_0:=zm hi339_0;have HC339_0:=zm hl339_0;clear hi339_0 hl339_0
           replace p339:=eq_true p339
           replace q339:=eq_true q339
           obtain ⟨Ao62,co62,eo62⟩:=Kd.S_slice HO_15.out
           subst eo62
           have p340 : 0≤(x83_4 : Int):=yt
           have q340 : x83_4 < (t325.length : Int):=yt
           obtain ⟨ad340,A340_0,c340_0,e340,hx340_0,hl340_0,hi340_0⟩:=at_L1 (Kd.S_reads' HO_15.out).2.2 x83_4 p340 q340
           cases e340
           obtain ⟨ce340,hce340,hMe340,hcc340⟩:=Kd.S_get HO_15.out [] x83_4 p340 (by first|exact q340|exact yt|(have e_:=(Kd.S_reads' HO_15.out).1;omega))
           obtain ⟨ve340_0,rfl,ge340_0⟩:=hMe340
           have hv340_0:=hcc340 0 _ rfl
           rw [Nat.add_zero,show ((Kd.slice 3 (Kd.int .i64))).sz=1 from rfl,Nat.mul_one] at hv340_0
           replace hv340_0:=Option.some.inj (hv340_0.symm.trans hx340_0)
           rw [hv340_0] at ge340_0
           have HL340_0:=zm (show Kd.R (Kd.int .i64) 3 _ _ _ _ (rd_L1 t325 x83_4) from ge340_0)
           clear hv340_0 ge340_0;clear hcc340 hce340;have HR340_0:=zm hi340_0;have HC340_0:=zm hl340_0;clear hi340_0 hl340_0
           replace p340:=eq_true p340
           replace q340:=eq_true q340
           obtain ⟨ad341,e341,hx341_0,p341,q341⟩:=yai HR340_0 x90_5
           cases e341
           go_wp2
           go_roundg k5
           case measure=>exact yom5 HJ4 HJ19 HK3 HK4 HK5
           case rel=>exact ⟨(wrap64 (x90_5+1)),(x315000_5),(x315001_5),(x315002_5),(u315002),yq,H',⟨yom5 HJ4 HJ19 HK3 HK4 HK5⟩,⟨yr HO_15⟩,⟨yr HO_315002⟩,⟨yk BK300⟩,⟨yk BK314⟩,⟨yhb⟩⟩
          ·
           rw [if_neg c61] at H
           have c61b0 : ((rd (rd_L1 t325 x83_4) x90_5) == 0)=false:=beq_eq_false_iff_ne.mpr c61
           have c61b1 : ((rd (rd_L1 t325 x83_4) x90_5) != 0)=true:=bne_iff_ne.mpr c61
           obtain ⟨t342,A63,H⟩:=ybi H
           obtain ⟨⟨t345,t346⟩,A64,H⟩:=ybi H
           try dsimp only at H
           obtain ⟨⟨t347,t348⟩,A65,H⟩:=ybi H
           try dsimp only at H
           obtain ⟨⟨t349,t350,t351,t354⟩,A66,H⟩:=ybi H
           try dsimp only at H
           have H' := zm H
           clear H
           have p339 : 0≤(x90_5 : Int):=yt
           have q339 : x90_5 < ((rd_L2 l2_2 x83_4).length : Int):=yt
           obtain ⟨ad339,A339_0,c339_0,e339,hx339_0,hl339_0,hi339_0⟩:=at_L1 HR338_0.out x90_5 p339 q339
           cases e339
           replace hx339_0:=yhx HB hx339_0
           have HR339_0:=zm hi339_0;have HC339_0:=zm hl339_0;clear hi339_0 hl339_0
           replace p339:=eq_true p339
           replace q339:=eq_true q339
           obtain ⟨Ao67,co67,eo67⟩:=Kd.S_slice HO_15.out
           subst eo67
           have p340 : 0≤(x83_4 : Int):=yt
           have q340 : x83_4 < (t325.length : Int):=yt
           obtain ⟨ad340,A340_0,c340_0,e340,hx340_0,hl340_0,hi340_0⟩:=at_L1 (Kd.S_reads' HO_15.out).2.2 x83_4 p340 q340
           cases e340
           obtain ⟨ce340,hce340,hMe340,hcc340⟩:=Kd.S_get HO_15.out [] x83_4 p340 (by first|exact q340|exact yt|(have e_:=(Kd.S_reads' HO_15.out).1;omega))
           obtain ⟨ve340_0,rfl,ge340_0⟩:=hMe340
           have hv340_0:=hcc340 0 _ rfl
           rw [Nat.add_zero,show ((Kd.slice 3 (Kd.int .i64))).sz=1 from rfl,Nat.mul_one] at hv340_0
           replace hv340_0:=Option.some.inj (hv340_0.symm.trans hx340_0)
           rw [hv340_0] at ge340_0
           have HL340_0:=zm (show Kd.R (Kd.int .i64) 3 _ _ _ _ (rd_L1 t325 x83_4) from ge340_0)
           clear hv340_0 ge340_0;clear hcc340 hce340;have HR340_0:=zm hi340_0;have HC340_0:=zm hl340_0;clear hi340_0 hl340_0
           replace p340:=eq_true p340
           replace q340:=eq_true q340
           obtain ⟨ad341,e341,hx341_0,p341,q341⟩:=yai HR340_0 x90_5
           cases e341
           try go_wp2
           replace HO_15:=zm (Kd.S_drew HO_15.out)
           replace HO_315002:=zm (zC HO_315002.out)
           replace HL340_0:=zm (zq HL340_0.out)
           replace BK300:=zm (zj BK300.out)
           replace BK314:=zm (zj BK314.out)
           replace HR340_0:=zm (Kd.C_drew HR340_0.out)
           replace HB:=zm (zf HB.out)
           have p343 : 0≤(x83_4 : Int):=yt
           have q343 : x83_4 < (t325.length : Int):=yt
           obtain ⟨ad343,A343_0,c343_0,e343,hx343_0,hl343_0,hi343_0⟩:=at_L1 (Kd.S_reads' HO_15.out).2.2 x83_4 p343 q343
           obtain rfl : ad340=ad343:=(by injection e343)
           obtain ⟨ce343,hce343,hMe343,hcc343⟩:=Kd.S_get HO_15.out [] x83_4 p343 (by first|exact q343|exact yt|(have e_:=(Kd.S_reads' HO_15.out).1;omega))
           obtain ⟨ve343_0,rfl,ge343_0⟩:=hMe343
           have hv343_0:=hcc343 0 _ rfl
           rw [Nat.add_zero,show ((Kd.slice 3 (Kd.int .i64))).sz=1 from rfl,Nat.mul_one] at hv343_0
           replace hv343_0:=Option.some.inj (hv343_0.symm.trans hx343_0)
           rw [hv343_0] at ge343_0
           have HL343_0:=zm (show Kd.R (Kd.int .i64) 3 _ _ _ _ (rd_L1 t325 x83_4) from ge343_0)
           clear hv343_0 ge343_0;clear hcc343 hce343;have HR343_0:=zm hi343_0;have HC343_0:=zm hl343_0;clear hi343_0 hl343_0
           replace p343:=eq_true p343
           replace q343:=eq_true q343
           obtain ⟨ad344,e344,hx344_0,p344,q344⟩:=yai HR343_0 x90_5
           cases e344
           refine yst (fun w' => w'.cell? (ad340.add (x83_4).toNat)=some (.slice (some ad344) (rd_L1 t325 x83_4).length c343_0)∧w'.cell? (ad344.add (x90_5).toNat)=some (.int .i64 (rd (rd_L1 t325 x83_4) x90_5))) [] 15 cpack_Write.tab20 cpack_Write.bits20 (fun hHeld HT_ HW_ => ?_)
           generalize wr.drew=w68 at HO_15 HO_315002 HL340_0 BK300 BK314 HR340_0 HB HL343_0 HR343_0 hx343_0 hx344_0 hHeld ⊢
           refine yp 0 104 HT_ ?_
           refine yp 2 106 HT_ ?_
           refine yp 3 107 HT_ ?_
           refine yp 4 108 HT_ ?_
           refine yp 6 110 HT_ ?_
           refine yl 5 109 HT_ HW_ hHeld ?_
           refine yp 7 111 HT_ ?_
           refine yl 8 112 HT_ HW_ hHeld ?_
           refine yw 1 105 HT_ (fun K hK => ?_)
           refine ygs Try.func32 #[.int .i64 x90_5] ?_
           with_reducible refine (band_Width.calls x90_5 t342 _ A63.out).mono ?_
           rintro e w69 ⟨rfl,hb⟩
           have HS0_:=yhs hb hHeld.1
           have HS1_:=yhs hb hHeld.2
           refine ⟨_,rfl, ?_⟩
           replace HO_15:=ySb HO_15 hb
           replace HO_315002:=yVb HO_315002 hb
           replace HL340_0:=yRb HL340_0 hb
           replace HL343_0:=yRb HL343_0 hb
           replace BK300:=ybb BK300 hb
           replace BK314:=ybb BK314 hb
           replace HR340_0:=yCb HR340_0 hb
           replace HR343_0:=yCb HR343_0 hb
           replace HB:=ybs hb
           (try clear hb)
           refine hK.out _ _ yH (fun hHeld => ?_)
           clear hK K
           refine ym (some 105) ?_
           refine yw 9 113 HT_ (fun K hK => ?_)
           refine ygs Try.func31 #[.int .i64 t342, .int .i64 (rd (rd_L1 t325 x83_4) x90_5)] ?_
           with_reducible refine (comb_Count.calls t342 (rd (rd_L1 t325 x83_4) x90_5) t345 t346 _ A64.out).mono ?_
           rintro e w70 ⟨rfl,hb⟩
           have HS0_:=yhs hb hHeld.1
           have HS1_:=yhs hb hHeld.2
           refine ⟨_,rfl, ?_⟩
           replace HO_15:=ySb HO_15 hb
           replace HO_315002:=yVb HO_315002 hb
           replace HL340_0:=yRb HL340_0 hb
           replace HL343_0:=yRb HL343_0 hb
           replace BK300:=ybb BK300 hb
           replace BK314:=ybb BK314 hb
           replace HR340_0:=yCb HR340_0 hb
           replace HR343_0:=yCb HR343_0 hb
           replace HB:=ybs hb
           (try clear hb)
           refine hK.out _ _ yH (fun hHeld => ?_)
           clear hK K
           refine ym (some 113) ?_
           refine yp 10 103 HT_ ?_
           refine yp 11 114 HT_ ?_
           refine yp 12 115 HT_ ?_
           refine yp 13 21 HT_ ?_
           refine yp 14 22 HT_ ?_
           refine done_ (done_of HT_.out (by kernel_rfl)) ?_
           try go_wp2_with (first|((with_reducible refine gate_callee (f:=33) rfl ?_);refine ygl 118 Try.func33 #[.slice A339_0 (rd_L1 (rd_L2 l2_2 x83_4) x90_5).length c339_0] ?_;(with_reducible refine (comb_Index.calls k5 _ _ (rd_L1 (rd_L2 l2_2 x83_4) x90_5) t347 t348 _ ?side1 HC339_0.out A65.out).mono ?_);(case side1=>exact ycb HR339_0);rintro e w71 ⟨rfl,hb⟩;refine ⟨_,rfl, ?_⟩;replace HO_15:=ySb HO_15 hb;replace HO_315002:=yVb HO_315002 hb;replace HL340_0:=yRb HL340_0 hb;replace HL343_0:=yRb HL343_0 hb;replace BK300:=ybb BK300 hb;replace BK314:=ybb BK314 hb;replace HR340_0:=yCb HR340_0 hb;replace HR343_0:=yCb HR343_0 hb;replace HB:=ybs hb;(try clear hb);have:=NB314_300.out;have:=NB300_314.out;obtain ⟨_,_,_,_,_,_⟩:=yc3 BK314;obtain ⟨Ao74,co74,eo74⟩:=Kd.V_slice HO_315002.out;subst eo74)|((with_reducible refine gate_callee (f:=34) rfl ?_);refine ygl 125 Try.func34 #[.agg #[.int .u64 x315000_5, .int .u32 x315001_5, .slice Ao74 x315002_5.length co74], .int .u64 t347, .int .u64 t345] ?_;(with_reducible refine (coder_PutNum.calls k5 x315000_5 x315001_5 _ _ x315002_5 t347 t345 t349 t350 t351 t354 _ ?side1 ?side2 A66.out).mono ?_);(case side1=>exact yce (Kd.V_reads' HO_315002.out).2.2);(case side2=>exact (Kd.V_reads' HO_315002.out).2.1);rintro e w75 ⟨v352,rfl,ho0,hb⟩;refine ⟨_,rfl, ?_⟩;replace HO_15:=ySb HO_15 hb;replace HO_315002:=zm (Kd.V_elder' (yr HO_315002) (Kd.R_base ho0) hb);replace HL340_0:=yRb HL340_0 hb;replace HL343_0:=yRb HL343_0 hb;have HO353:=zm (Kd.R_lower ho0 (zE yhb));replace BK300:=ybb BK300 hb;replace BK314:=ybb BK314 hb;replace HR340_0:=yCb HR340_0 hb;replace HR343_0:=yCb HR343_0 hb;replace HB:=ybs hb;(try clear hb);(try clear ho0);obtain ⟨_,_,_,_,_,_⟩:=yc3 BK314;obtain ⟨Ao77,co77,eo77⟩:=Kd.R_slice HO353.out;subst eo77))
           go_roundg k5
           case measure=>exact yom5 HJ4 HJ19 HK3 HK4 HK5
           case rel=>exact ⟨(wrap64 (x90_5+1)),(t349),(t350),(t351),(.slice Ao77 t351.length co77),yq,H',⟨yom5 HJ4 HJ19 HK3 HK4 HK5⟩,⟨yS1 HO_15 BK314⟩,⟨Kd.R_V (by (with_reducible repeat (first|apply zo|apply zp|apply zq));exact zG (zH (p:=⟨gb314,2,none⟩) (zH (p:=⟨gb314,1,none⟩) (zH (p:=⟨gb314,0,none⟩) (Kd.R_types (Kd.R_types (Kd.R_types (Kd.R_apart' HO353.out (Kd.S_typed HO_15.out) (by decide)) BK300.out (by decide)) BK314.out (by decide)) BK314.out (by decide)) (fun _ hk=>hk.2) (.int .u64 t349)) (fun _ hk=>hk.2) (.int .u32 t350)) (fun _ hk=>hk.2) (.slice Ao77 t351.length co77)) (fun _ hk=>⟨hk.1.1.1.2,⟨hk.1.1.2,hk.1.2⟩⟩))⟩,⟨yk BK300⟩,⟨ykp BK314⟩,⟨yhb⟩⟩
         ·
          rw [if_neg c55] at H
          have c55b0 : decide (x90_5 < ((rd_L2 l2_2 x83_4).length : Int))=false:=decide_eq_false c55
          clear c55
          have H' := zm H
          clear H
          go_wp2
          go_roundg k5
          case measure=>exact yom5 HJ4 HJ19 HK3 HK4 HK5
          case rel=>exact ⟨(wrap64 (x83_4+1)),(x315000_5),(x315001_5),(x315002_5),(u315002),yq,H',⟨yom5 HJ4 HJ19 HK3 HK4 HK5⟩,⟨yr HO_15⟩,⟨yr HO_315002⟩,⟨yk BK300⟩,⟨yk BK314⟩,⟨yhb⟩⟩
       ·
        rw [if_neg c52] at H
        have c52b0 : decide (x83_4 < (l2_2.length : Int))=false:=decide_eq_false c52
        clear c52
        obtain ⟨c78,H⟩:=yif H
        have c78b0:=eq_true c78
        have c78b1 : decide (0≤a0)=true:=decide_eq_true c78
        clear c78
        obtain ⟨c79,H⟩:=yif H
        have c79b0:=eq_true c79
        have c79b1 : decide ((a0 : Int).toNat≤281474976710656)=true:=decide_eq_true c79
        clear c79
        obtain ⟨y329,hy329⟩ : ∃ y_ : List Int,y_=(List.replicate (a0 : Int).toNat 0):=⟨_,rfl⟩
        replace H : ((coder_Finish.f x315000_4 x315001_4 x315002_4).bind fun t332=>(some ((t332.take y329.length ++ y329.drop t332.length),0)))=some (r1,r2):=yrw hy329 H
        have Ny329:=zm hy329;clear hy329
        obtain ⟨t332,A80,H⟩:=ybi H
        by_cases c81 : True
        ·
         have _h:=c81;have LMc81:=zm c81;clear c81
         obtain ⟨y335,hy335⟩ : ∃ y_ : List Int,y_=(t332.take y329.length ++ y329.drop t332.length):=⟨_,rfl⟩
         replace H : (some (y335,0))=some (r1,r2):=yrw hy335 H
         have Ny335:=zm hy335;clear hy335
         simp only [Option.some.injEq,Prod.mk.injEq] at H
         obtain ⟨rfl,rfl⟩:=H
         go_wp2_with (first|((with_reducible refine gate_dst (N:=131) rfl ?_);refine Kd.R_make (Kd.int .u8) _ 5 rfl (N:=131) rfl 28 _ _ rfl a0 rfl rfl Try.underlying28 (.int .u8 0) 1 info5 rfl (by decide) (by omega) 0 (ok:=fun _=>True) (okp:=fun _=>True) rfl (fun _ hk=>hk) trivial (yt) (Nat.le_trans (Nat.mul_le_mul_right _ (yt : a0.toNat≤281474976710656)) (by omega)) (Below.refl _ _) (Nat.le_refl _) ?_;intro v330 w82 ho83 hb hg_ hnew_;clear hg_ hnew_;(first|rw [← Ny329.out] at ho83|(simp only [Int.reduceToNat] at ho83;rw [← Ny329.out] at ho83));replace HO_15:=ySb HO_15 hb;replace HO_315002:=zm (Kd.V_elder' (yr HO_315002) (Kd.R_base ho83) hb);have HO331:=zm (Kd.R_lower ho83 (zE yhb));replace BK300:=ybb BK300 hb;replace BK314:=ybb BK314 hb;replace HB:=ybs hb;clear hb ho83;have:=NB314_300.out;have:=NB300_314.out;obtain ⟨_,_,_,_,_,_⟩:=yc3 BK314;obtain ⟨Ao86,co86,eo86⟩:=Kd.V_slice HO_315002.out;subst eo86)|((with_reducible refine gate_callee (f:=35) rfl ?_);refine ygl 134 Try.func35 #[.agg #[.int .u64 x315000_4, .int .u32 x315001_4, .slice Ao86 x315002_4.length co86]] ?_;(with_reducible refine (coder_Finish.calls x315000_4 x315001_4 _ _ x315002_4 t332 _ ?side1 ?side2 A80.out).mono ?_);(case side1=>exact yce (Kd.V_reads' HO_315002.out).2.2);(case side2=>exact (Kd.V_reads' HO_315002.out).2.1);rintro e w87 ⟨v333,rfl,ho0,hb⟩;refine ⟨_,rfl, ?_⟩;replace HO_15:=ySb HO_15 hb;replace HO_315002:=zm (Kd.V_elder' (yr HO_315002) (Kd.R_base ho0) hb);have HO334:=zm (Kd.R_lower (Kd.R_new' ho0 (Kd.R_lt (yr HO331))) (zE yhb));replace HO331:=zm (Kd.R_elder' (yr HO331) (Kd.R_base ho0) hb);replace BK300:=ybb BK300 hb;replace BK314:=ybb BK314 hb;replace HB:=ybs hb;(try clear hb);(try clear ho0);obtain ⟨Ao89,co89,eo89⟩:=Kd.R_slice HO334.out;subst eo89)|((with_reducible refine gate_builtin (b:=.copy) (xs := #[.tmp 132, .tmp 134]) rfl ?_);refine cpack_Write.copyRow (k:=.u8) (w0:=w) w.heap.size rfl (.tmp 132) (.tmp 134) 28 5 rfl Try.underlying28 info5 v330 y329 t332 _ _ _ (fun _=>True) rfl rfl ?aO ?aR ?aB ?_;(case aO=>exact (yR0 HO331));(case aR=>exact yce (Kd.R_reads' HO334.out).2.2);(case aB=>exact yhb);intro w88 ho hb;rw [← Ny335.out] at ho;clear HB;have HO337:=zm ho;have HB:=zm hb;clear ho hb))
         go_ret2
         exact ⟨_,ye,yR0 HO337,yhb⟩
        ·
         exact absurd trivial c81
def psalteryref06_Same.l0 : Nat→List Int→List Int→Int→Option (Bool)
 | 0,_,_,_=>none
 | k+1,x0,x1,x5=>if x5 < (x0.length : Int) then (if 0≤x5 then (if x5 < (x1.length : Int) then (if (rd x0 x5)=(rd x1 x5) then (psalteryref06_Same.l0 k x0 x1 (wrap64 (x5+1))) else (some false)) else (none)) else (none)) else (some true)
def psalteryref06_Same.f (k : Nat) (l0 : List Int) (l1 : List Int) : Option (Bool):=if (l0.length : Int)=(l1.length : Int) then (psalteryref06_Same.l0 k l0 l1 0) else (some false)
theorem psalteryref06_Same.mono_l : ∀ k,(∀ y0 y1 y2,LeO (psalteryref06_Same.l0 k y0 y1 y2) (psalteryref06_Same.l0 (k+1) y0 y1 y2))
 | 0=>fun _ _ _ r h=>by simp [psalteryref06_Same.l0] at h
 | k+1=>by
  have ih0:=psalteryref06_Same.mono_l k
  ·
   intro y0 y1 y2
   unfold psalteryref06_Same.l0
   repeat' with_reducible first|apply ih0|apply yLr|apply yLn|apply yLi|apply yLb|intro _
theorem psalteryref06_Same.mono : ∀ a0 a1 k,LeO (psalteryref06_Same.f k a0 a1) (psalteryref06_Same.f (k+1) a0 a1):=by
 intro a0 a1 k
 have ih0:=psalteryref06_Same.mono_l k
 unfold psalteryref06_Same.f
 repeat' with_reducible first|apply ih0|apply yLr|apply yLn|apply yLi|apply yLb|intro _
set_option maxHeartbeats 8000000 in
set_option maxRecDepth 100000 in
theorem psalteryref06_Same.calls (k : Nat) (A0 : Option Addr) (c0 : Nat) (l0 : List Int) (A1 : Option Addr) (c1 : Nat) (l1 : List Int) (r : Bool) (w : World) (hr0 : Kd.C (Kd.int .i64) w A0 l0.length l0) (hc0 : l0.length≤c0) (hr1 : Kd.C (Kd.int .i64) w A1 l1.length l1) (hc1 : l1.length≤c1) (h : psalteryref06_Same.f k l0 l1=some r) :
  Calls Try.prog 61 #[.slice A0 l0.length c0, .slice A1 l1.length c1] w fun e w' => e=.returned (.bool r)∧Drawn0 w w' := by
 have HR0:=zm hr0;have HC0:=zm hc0;clear hr0 hc0;have HR1:=zm hr1;have HC1:=zm hc1;clear hr1 hc1
 have H : (if (l0.length : Int)=(l1.length : Int) then (psalteryref06_Same.l0 k l0 l1 0) else (some false))=some r:=h
 clear h
 by_cases c3 : (l0.length : Int)=(l1.length : Int)
 ·
  rw [if_pos c3] at H
  have c3b0 : ((l0.length : Int) == (l1.length : Int))=true:=beq_iff_eq.mpr c3
  have c3b1 : ((l0.length : Int) != (l1.length : Int))=false:=bne_eq_false_iff_eq.mpr c3
  have c3b2 : (l0.length == l1.length)=true:=by first|simpa using c3|(simp at c3 ⊢; omega)
  clear c3
  have H' := zm H
  clear H
  go_enter Try.func61,Try.ntmps61
  go_wp2
  repeat (go_quiet (fail);try go_wp2)
  go_loopg [5] k (fun kq v5 w' => ∃ (x5_1 : Int),v5=.int .i64 x5_1∧Aside0 (psalteryref06_Same.l0 kq l0 l1 x5_1=some r)∧Aside0 (kq≤k)∧Drawn0 w w')
  case atStart=>exact ⟨(0),yq,H',⟨Nat.le_refl _⟩,yd⟩
  case round =>
   clear H'
   try clear c1
   try clear c3b0
   try clear c3b1
   try clear c3b2
   obtain ⟨x5_1,rfl,HA,HK1,⟨m1,rfl⟩⟩:=hrel
   obtain ⟨k1,rfl⟩:=ysu gk (fun h=>by subst h;exact absurd HA.out (by simp [psalteryref06_Same.l0]))
   have H:=HA.out;clear HA
   simp only [psalteryref06_Same.l0] at H
   by_cases c4 : x5_1 < (l0.length : Int)
   ·
    rw [if_pos c4] at H
    have c4b0 : decide (x5_1 < (l0.length : Int))=true:=decide_eq_true c4
    clear c4
    obtain ⟨c5,H⟩:=yif H
    have c5b0 : decide (0≤x5_1)=true:=decide_eq_true c5
    clear c5
    obtain ⟨c6,H⟩:=yif H
    have c6b0 : decide (x5_1 < (l1.length : Int))=true:=decide_eq_true c6
    clear c6
    by_cases c7 : (rd l0 x5_1)=(rd l1 x5_1)
    ·
     rw [if_pos c7] at H
     have c7b0 : ((rd l0 x5_1) == (rd l1 x5_1))=true:=beq_iff_eq.mpr c7
     have c7b1 : ((rd l0 x5_1) != (rd l1 x5_1))=false:=bne_eq_false_iff_eq.mpr c7
     clear c7
     have H' := zm H
     clear H
     obtain ⟨ad578,e578,hx578_0,p578,q578⟩:=yai HR0 x5_1
     cases e578
     obtain ⟨ad579,e579,hx579_0,p579,q579⟩:=yai HR1 x5_1
     cases e579
     go_wp2
     repeat (go_quiet (fail);try go_wp2)
     go_roundg k1
     case measure=>exact yom1 HK1
     case rel=>exact ⟨(wrap64 (x5_1+1)),yq,H',⟨yom1 HK1⟩,yd⟩
    ·
     rw [if_neg c7] at H
     have c7b0 : ((rd l0 x5_1) == (rd l1 x5_1))=false:=beq_eq_false_iff_ne.mpr c7
     have c7b1 : ((rd l0 x5_1) != (rd l1 x5_1))=true:=bne_iff_ne.mpr c7
     obtain rfl:=Option.some.inj H
     obtain ⟨ad578,e578,hx578_0,p578,q578⟩:=yai HR0 x5_1
     cases e578
     obtain ⟨ad579,e579,hx579_0,p579,q579⟩:=yai HR1 x5_1
     cases e579
     go_wp2
     repeat (go_quiet (fail);try go_wp2)
     go_ret
     exact ⟨yq,yd⟩
   ·
    rw [if_neg c4] at H
    have c4b0 : decide (x5_1 < (l0.length : Int))=false:=decide_eq_false c4
    clear c4
    obtain rfl:=Option.some.inj H
    go_wp2
    repeat (go_quiet (fail);try go_wp2)
    go_ret
    exact ⟨yq,yd⟩
 ·
  rw [if_neg c3] at H
  have c3b0 : ((l0.length : Int) == (l1.length : Int))=false:=beq_eq_false_iff_ne.mpr c3
  have c3b1 : ((l0.length : Int) != (l1.length : Int))=true:=bne_iff_ne.mpr c3
  have c3b2 : (l0.length == l1.length)=false:=by first|simpa using c3|(simp at c3 ⊢; omega)
  obtain rfl:=Option.some.inj H
  go_enter Try.func61,Try.ntmps61
  go_wp2
  repeat (go_quiet (fail);try go_wp2)
  go_ret
  exact ⟨yq,yd⟩
def psalteryref12_Same.l0 : Nat→List (List Int)→List (List Int)→Int→Option (Bool)
 | 0,_,_,_=>none
 | k+1,x0,x1,x5=>if x5 < (x0.length : Int) then (if 0≤x5 then (if x5 < (x1.length : Int) then ((psalteryref06_Same.f k (rd_L1 x0 x5) (rd_L1 x1 x5)).bind fun t582=>(if t582=true then (psalteryref12_Same.l0 k x0 x1 (wrap64 (x5+1))) else (some false))) else (none)) else (none)) else (some true)
def psalteryref12_Same.f (k : Nat) (l0 : List (List Int)) (l1 : List (List Int)) : Option (Bool):=if (l0.length : Int)=(l1.length : Int) then (psalteryref12_Same.l0 k l0 l1 0) else (some false)
theorem psalteryref12_Same.mono_l : ∀ k,(∀ y0 y1 y2,LeO (psalteryref12_Same.l0 k y0 y1 y2) (psalteryref12_Same.l0 (k+1) y0 y1 y2))
 | 0=>fun _ _ _ r h=>by simp [psalteryref12_Same.l0] at h
 | k+1=>by
  have ih0:=psalteryref12_Same.mono_l k
  ·
   intro y0 y1 y2
   unfold psalteryref12_Same.l0
   repeat' with_reducible first|apply ih0|apply psalteryref06_Same.mono|apply yLr|apply yLn|apply yLi|apply yLb|intro _
theorem psalteryref12_Same.mono : ∀ a0 a1 k,LeO (psalteryref12_Same.f k a0 a1) (psalteryref12_Same.f (k+1) a0 a1):=by
 intro a0 a1 k
 have ih0:=psalteryref12_Same.mono_l k
 unfold psalteryref12_Same.f
 repeat' with_reducible first|apply ih0|apply psalteryref06_Same.mono|apply yLr|apply yLn|apply yLi|apply yLb|intro _
set_option maxHeartbeats 8000000 in
set_option maxRecDepth 100000 in
theorem psalteryref12_Same.calls (k : Nat) (A0 : Option Addr) (c0 : Nat) (l0 : List (List Int)) (A1 : Option Addr) (c1 : Nat) (l1 : List (List Int)) (r : Bool) (w : World) (hr0 : Kd.C (Kd.slice 3 (Kd.int .i64)) w A0 l0.length l0) (hc0 : l0.length≤c0) (hr1 : Kd.C (Kd.slice 3 (Kd.int .i64)) w A1 l1.length l1) (hc1 : l1.length≤c1) (h : psalteryref12_Same.f k l0 l1=some r) :
  Calls Try.prog 24 #[.slice A0 l0.length c0, .slice A1 l1.length c1] w fun e w' => e=.returned (.bool r)∧Drawn0 w w' := by
 have HR0:=zm hr0;have HC0:=zm hc0;clear hr0 hc0;have HR1:=zm hr1;have HC1:=zm hc1;clear hr1 hc1
 have H : (if (l0.length : Int)=(l1.length : Int) then (psalteryref12_Same.l0 k l0 l1 0) else (some false))=some r:=h
 clear h
 by_cases c3 : (l0.length : Int)=(l1.length : Int)
 ·
  rw [if_pos c3] at H
  have c3b0 : ((l0.length : Int) == (l1.length : Int))=true:=beq_iff_eq.mpr c3
  have c3b1 : ((l0.length : Int) != (l1.length : Int))=false:=bne_eq_false_iff_eq.mpr c3
  have c3b2 : (l0.length == l1.length)=true:=by first|simpa using c3|(simp at c3 ⊢; omega)
  clear c3
  have H' := zm H
  clear H
  go_enter Try.func24,Try.ntmps24
  go_wp2
  repeat (go_quiet (fail);try go_wp2)
  go_loopg [5] k (fun kq v5 w' => ∃ (x5_1 : Int),v5=.int .i64 x5_1∧Aside0 (psalteryref12_Same.l0 kq l0 l1 x5_1=some r)∧Aside0 (kq≤k)∧Drawn0 w w')
  case atStart=>exact ⟨(0),yq,H',⟨Nat.le_refl _⟩,yd⟩
  case round =>
   clear H'
   try clear c1
   try clear c3b0
   try clear c3b1
   try clear c3b2
   obtain ⟨x5_1,rfl,HA,HK1,⟨m1,rfl⟩⟩:=hrel
   obtain ⟨k1,rfl⟩:=ysu gk (fun h=>by subst h;exact absurd HA.out (by simp [psalteryref12_Same.l0]))
   have H:=HA.out;clear HA
   simp only [psalteryref12_Same.l0] at H
   by_cases c4 : x5_1 < (l0.length : Int)
   ·
    rw [if_pos c4] at H
    have c4b0 : decide (x5_1 < (l0.length : Int))=true:=decide_eq_true c4
    clear c4
    obtain ⟨c5,H⟩:=yif H
    have c5b0 : decide (0≤x5_1)=true:=decide_eq_true c5
    clear c5
    obtain ⟨c6,H⟩:=yif H
    have c6b0 : decide (x5_1 < (l1.length : Int))=true:=decide_eq_true c6
    clear c6
    obtain ⟨t582,A7,H⟩:=ybi H
    by_cases c8 : t582=true
    ·
     subst c8
     rw [if_pos rfl] at H
     have H' := zm H
     clear H
     have p580 : 0≤(x5_1 : Int):=yt
     have q580 : x5_1 < (l0.length : Int):=yt
     obtain ⟨ad580,A580_0,c580_0,e580,hx580_0,hl580_0,hi580_0⟩:=at_L1 HR0.out x5_1 p580 q580
     cases e580
     have HR580_0:=zm hi580_0;have HC580_0:=zm hl580_0;clear hi580_0 hl580_0
     replace p580:=eq_true p580
     replace q580:=eq_true q580
     have p581 : 0≤(x5_1 : Int):=yt
     have q581 : x5_1 < (l1.length : Int):=yt
     obtain ⟨ad581,A581_0,c581_0,e581,hx581_0,hl581_0,hi581_0⟩:=at_L1 HR1.out x5_1 p581 q581
     cases e581
     have HR581_0:=zm hi581_0;have HC581_0:=zm hl581_0;clear hi581_0 hl581_0
     replace p581:=eq_true p581
     replace q581:=eq_true q581
     go_wp2_with (first|(go_at_call 61;(with_reducible refine (psalteryref06_Same.calls k1 _ _ (rd_L1 l0 x5_1) _ _ (rd_L1 l1 x5_1) true _ ?side1 HC580_0.out ?side3 HC581_0.out A7.out).mono ?_);(case side1=>exact yce HR580_0.out);(case side3=>exact yce HR581_0.out);rintro e w' ⟨rfl,⟨nd,rfl⟩⟩;(try exact yww)))
     repeat (go_quiet (first|(go_at_call 61;(with_reducible refine (psalteryref06_Same.calls k1 _ _ (rd_L1 l0 x5_1) _ _ (rd_L1 l1 x5_1) true _ ?side1 HC580_0.out ?side3 HC581_0.out A7.out).mono ?_);(case side1=>exact yce HR580_0.out);(case side3=>exact yce HR581_0.out);rintro e w' ⟨rfl,⟨nd,rfl⟩⟩;(try exact yww)));try go_wp2_with (first|(go_at_call 61;(with_reducible refine (psalteryref06_Same.calls k1 _ _ (rd_L1 l0 x5_1) _ _ (rd_L1 l1 x5_1) true _ ?side1 HC580_0.out ?side3 HC581_0.out A7.out).mono ?_);(case side1=>exact yce HR580_0.out);(case side3=>exact yce HR581_0.out);rintro e w' ⟨rfl,⟨nd,rfl⟩⟩;(try exact yww))))
     go_roundg k1
     case measure=>exact yom1 HK1
     case rel=>exact ⟨(wrap64 (x5_1+1)),yq,H',⟨yom1 HK1⟩,yd⟩
    ·
     replace c8:=Bool.eq_false_iff.mpr c8
     subst c8
     rw [ynf] at H
     obtain rfl:=Option.some.inj H
     have p580 : 0≤(x5_1 : Int):=yt
     have q580 : x5_1 < (l0.length : Int):=yt
     obtain ⟨ad580,A580_0,c580_0,e580,hx580_0,hl580_0,hi580_0⟩:=at_L1 HR0.out x5_1 p580 q580
     cases e580
     have HR580_0:=zm hi580_0;have HC580_0:=zm hl580_0;clear hi580_0 hl580_0
     replace p580:=eq_true p580
     replace q580:=eq_true q580
     have p581 : 0≤(x5_1 : Int):=yt
     have q581 : x5_1 < (l1.length : Int):=yt
     obtain ⟨ad581,A581_0,c581_0,e581,hx581_0,hl581_0,hi581_0⟩:=at_L1 HR1.out x5_1 p581 q581
     cases e581
     have HR581_0:=zm hi581_0;have HC581_0:=zm hl581_0;clear hi581_0 hl581_0
     replace p581:=eq_true p581
     replace q581:=eq_true q581
     go_wp2_with (first|(go_at_call 61;(with_reducible refine (psalteryref06_Same.calls k1 _ _ (rd_L1 l0 x5_1) _ _ (rd_L1 l1 x5_1) false _ ?side1 HC580_0.out ?side3 HC581_0.out A7.out).mono ?_);(case side1=>exact yce HR580_0.out);(case side3=>exact yce HR581_0.out);rintro e w' ⟨rfl,⟨nd,rfl⟩⟩;(try exact yww)))
     repeat (go_quiet (first|(go_at_call 61;(with_reducible refine (psalteryref06_Same.calls k1 _ _ (rd_L1 l0 x5_1) _ _ (rd_L1 l1 x5_1) false _ ?side1 HC580_0.out ?side3 HC581_0.out A7.out).mono ?_);(case side1=>exact yce HR580_0.out);(case side3=>exact yce HR581_0.out);rintro e w' ⟨rfl,⟨nd,rfl⟩⟩;(try exact yww)));try go_wp2_with (first|(go_at_call 61;(with_reducible refine (psalteryref06_Same.calls k1 _ _ (rd_L1 l0 x5_1) _ _ (rd_L1 l1 x5_1) false _ ?side1 HC580_0.out ?side3 HC581_0.out A7.out).mono ?_);(case side1=>exact yce HR580_0.out);(case side3=>exact yce HR581_0.out);rintro e w' ⟨rfl,⟨nd,rfl⟩⟩;(try exact yww))))
     go_ret
     exact ⟨yq,yd⟩
   ·
    rw [if_neg c4] at H
    have c4b0 : decide (x5_1 < (l0.length : Int))=false:=decide_eq_false c4
    clear c4
    obtain rfl:=Option.some.inj H
    go_wp2
    repeat (go_quiet (fail);try go_wp2)
    go_ret
    exact ⟨yq,yd⟩
 ·
  rw [if_neg c3] at H
  have c3b0 : ((l0.length : Int) == (l1.length : Int))=false:=beq_eq_false_iff_ne.mpr c3
  have c3b1 : ((l0.length : Int) != (l1.length : Int))=true:=bne_iff_ne.mpr c3
  have c3b2 : (l0.length == l1.length)=false:=by first|simpa using c3|(simp at c3 ⊢; omega)
  obtain rfl:=Option.some.inj H
  go_enter Try.func24,Try.ntmps24
  go_wp2
  repeat (go_quiet (fail);try go_wp2)
  go_ret
  exact ⟨yq,yd⟩
mutual
def psalteryref13_Same.j0 : Nat→Bool→Bool→List (List Int)→List (List (List Int))→Bool→List (List Int)→List (List (List Int))→Option (Bool)
 | 0,_,_,_,_,_,_,_=>none
 | k+1,x27,x584000,x584001,x584002,x585000,x585001,x585002=>if x27=true then (some false) else (psalteryref13_Same.l0 k 0 x584000 x584001 x584002 x585000 x585001 x585002)
def psalteryref13_Same.l0 : Nat→Int→Bool→List (List Int)→List (List (List Int))→Bool→List (List Int)→List (List (List Int))→Option (Bool)
 | 0,_,_,_,_,_,_,_=>none
 | k+1,x5,x584000,x584001,x584002,x585000,x585001,x585002=>if x5 < (x584002.length : Int) then (if 0≤x5 then (if x5 < (x585002.length : Int) then ((psalteryref12_Same.f k (rd_L2 x584002 x5) (rd_L2 x585002 x5)).bind fun t588=>(if t588=true then (psalteryref13_Same.l0 k (wrap64 (x5+1)) x584000 x584001 x584002 x585000 x585001 x585002) else (some false))) else (none)) else (none)) else (some true)
end
def psalteryref13_Same.f (k : Nat) (a0_0 : Bool) (l0_1 : List (List Int)) (l0_2 : List (List (List Int))) (a1_0 : Bool) (l1_1 : List (List Int)) (l1_2 : List (List (List Int))) : Option (Bool):=if (a0_0 != a1_0)=true then (psalteryref13_Same.j0 k true a0_0 l0_1 l0_2 a1_0 l1_1 l1_2) else ((psalteryref12_Same.f k l0_1 l1_1).bind fun t585=>(if t585=true then (psalteryref13_Same.j0 k ((l0_2.length : Int) != (l1_2.length : Int)) a0_0 l0_1 l0_2 a1_0 l1_1 l1_2) else (psalteryref13_Same.j0 k true a0_0 l0_1 l0_2 a1_0 l1_1 l1_2)))
theorem psalteryref13_Same.mono_l : ∀ k,(∀ y0 y1 y2 y3 y4 y5 y6,LeO (psalteryref13_Same.j0 k y0 y1 y2 y3 y4 y5 y6) (psalteryref13_Same.j0 (k+1) y0 y1 y2 y3 y4 y5 y6))∧(∀ y0 y1 y2 y3 y4 y5 y6,LeO (psalteryref13_Same.l0 k y0 y1 y2 y3 y4 y5 y6) (psalteryref13_Same.l0 (k+1) y0 y1 y2 y3 y4 y5 y6))
 | 0=>⟨fun _ _ _ _ _ _ _ r h=>by simp [psalteryref13_Same.j0] at h,fun _ _ _ _ _ _ _ r h=>by simp [psalteryref13_Same.l0] at h⟩
 | k+1=>by
  obtain ⟨ih0,ih1⟩:=psalteryref13_Same.mono_l k
  refine ⟨?_, ?_⟩
  ·
   intro y0 y1 y2 y3 y4 y5 y6
   unfold psalteryref13_Same.j0
   repeat' with_reducible first|apply ih0|apply ih1|apply psalteryref12_Same.mono|apply yLr|apply yLn|apply yLi|apply yLb|intro _
  ·
   intro y0 y1 y2 y3 y4 y5 y6
   unfold psalteryref13_Same.l0
   repeat' with_reducible first|apply ih0|apply ih1|apply psalteryref12_Same.mono|apply yLr|apply yLn|apply yLi|apply yLb|intro _
theorem psalteryref13_Same.mono : ∀ a0 a1 a2 a3 a4 a5 k,LeO (psalteryref13_Same.f k a0 a1 a2 a3 a4 a5) (psalteryref13_Same.f (k+1) a0 a1 a2 a3 a4 a5):=by
 intro a0 a1 a2 a3 a4 a5 k
 obtain ⟨ih0,ih1⟩:=psalteryref13_Same.mono_l k
 unfold psalteryref13_Same.f
 repeat' with_reducible first|apply ih0|apply ih1|apply psalteryref12_Same.mono|apply yLr|apply yLn|apply yLi|apply yLb|intro _
set_option maxHeartbeats 8000000 in
set_option maxRecDepth 100000 in
theorem psalteryref13_Same.calls (k : Nat) (a0_0 : Bool) (A0_1 : Option Addr) (c0_1 : Nat) (l0_1 : List (List Int)) (A0_2 : Option Addr) (c0_2 : Nat) (l0_2 : List (List (List Int))) (a1_0 : Bool) (A1_1 : Option Addr) (c1_1 : Nat) (l1_1 : List (List Int)) (A1_2 : Option Addr) (c1_2 : Nat) (l1_2 : List (List (List Int))) (r : Bool) (w : World) (hr0_1 : Kd.C (Kd.slice 3 (Kd.int .i64)) w A0_1 l0_1.length l0_1) (hc0_1 : l0_1.length≤c0_1) (hr0_2 : Kd.C (Kd.slice 49 (Kd.slice 3 (Kd.int .i64))) w A0_2 l0_2.length l0_2) (hc0_2 : l0_2.length≤c0_2) (hr1_1 : Kd.C (Kd.slice 3 (Kd.int .i64)) w A1_1 l1_1.length l1_1) (hc1_1 : l1_1.length≤c1_1) (hr1_2 : Kd.C (Kd.slice 49 (Kd.slice 3 (Kd.int .i64))) w A1_2 l1_2.length l1_2) (hc1_2 : l1_2.length≤c1_2) (h : psalteryref13_Same.f k a0_0 l0_1 l0_2 a1_0 l1_1 l1_2=some r) :
  Calls Try.prog 22 #[.agg #[.bool a0_0, .slice A0_1 l0_1.length c0_1, .slice A0_2 l0_2.length c0_2], .agg #[.bool a1_0, .slice A1_1 l1_1.length c1_1, .slice A1_2 l1_2.length c1_2]] w fun e w' => e=.returned (.bool r)∧Below w.heap.size w w' := by
 have hu33:=Try.underlying33;have HR0_1:=zm hr0_1;have HC0_1:=zm hc0_1;clear hr0_1 hc0_1;have HR0_2:=zm hr0_2;have HC0_2:=zm hc0_2;clear hr0_2 hc0_2;have HR1_1:=zm hr1_1;have HC1_1:=zm hc1_1;clear hr1_1 hc1_1;have HR1_2:=zm hr1_2;have HC1_2:=zm hc1_2;clear hr1_2 hc1_2;have HB:=zm (Below.refl w.heap.size w)
 have H : (if (a0_0 != a1_0)=true then (psalteryref13_Same.j0 k true a0_0 l0_1 l0_2 a1_0 l1_1 l1_2) else ((psalteryref12_Same.f k l0_1 l1_1).bind fun t585=>(if t585=true then (psalteryref13_Same.j0 k ((l0_2.length : Int) != (l1_2.length : Int)) a0_0 l0_1 l0_2 a1_0 l1_1 l1_2) else (psalteryref13_Same.j0 k true a0_0 l0_1 l0_2 a1_0 l1_1 l1_2))))=some r:=h
 clear h;have HC3:=zm H;clear H
 go_enter Try.func22,Try.ntmps22
 go_upto_region 1 with (first|((with_reducible refine gate_dst (N:=2) rfl ?_);(try (refine gate_guard (by rfl) ?_;dsimp only));refine ybx 2 #[.bool a0_0, .slice A0_1 l0_1.length c0_1, .slice A0_2 l0_2.length c0_2] 33 ?_;intro gb583 hg w4 hbox hb;have BK583:=zm (hbox);have GW583:=ygw hg;have GE583:=ygw hg;replace HB:=ybs hb;clear hb hbox hg)|((with_reducible refine gate_dst (N:=3) rfl ?_);(try (refine gate_guard (by rfl) ?_;dsimp only));refine ybx 3 #[.bool a1_0, .slice A1_1 l1_1.length c1_1, .slice A1_2 l1_2.length c1_2] 33 ?_;intro gb584 hg w5 hbox hb;have BK584:=zm (hbox);have GW584:=ygw hg;have GE584:=ygw hg;replace HB:=ybs hb;have NB583_584:=ynl BK583 hg;have NB584_583:=yng BK583 hg;replace BK583:=ybb BK583 hb;clear hb hbox hg))
 repeat (go_quiet (first|((with_reducible refine gate_dst (N:=2) rfl ?_);(try (refine gate_guard (by rfl) ?_;dsimp only));refine ybx 2 #[.bool a0_0, .slice A0_1 l0_1.length c0_1, .slice A0_2 l0_2.length c0_2] 33 ?_;intro gb583 hg w4 hbox hb;have BK583:=zm (hbox);have GW583:=ygw hg;have GE583:=ygw hg;replace HB:=ybs hb;clear hb hbox hg)|((with_reducible refine gate_dst (N:=3) rfl ?_);(try (refine gate_guard (by rfl) ?_;dsimp only));refine ybx 3 #[.bool a1_0, .slice A1_1 l1_1.length c1_1, .slice A1_2 l1_2.length c1_2] 33 ?_;intro gb584 hg w5 hbox hb;have BK584:=zm (hbox);have GW584:=ygw hg;have GE584:=ygw hg;replace HB:=ybs hb;have NB583_584:=ynl BK583 hg;have NB584_583:=yng BK583 hg;replace BK583:=ybb BK583 hb;clear hb hbox hg));go_upto_region 1 with (first|((with_reducible refine gate_dst (N:=2) rfl ?_);(try (refine gate_guard (by rfl) ?_;dsimp only));refine ybx 2 #[.bool a0_0, .slice A0_1 l0_1.length c0_1, .slice A0_2 l0_2.length c0_2] 33 ?_;intro gb583 hg w4 hbox hb;have BK583:=zm (hbox);have GW583:=ygw hg;have GE583:=ygw hg;replace HB:=ybs hb;clear hb hbox hg)|((with_reducible refine gate_dst (N:=3) rfl ?_);(try (refine gate_guard (by rfl) ?_;dsimp only));refine ybx 3 #[.bool a1_0, .slice A1_1 l1_1.length c1_1, .slice A1_2 l1_2.length c1_2] 33 ?_;intro gb584 hg w5 hbox hb;have BK584:=zm (hbox);have GW584:=ygw hg;have GE584:=ygw hg;replace HB:=ybs hb;have NB583_584:=ynl BK583 hg;have NB584_583:=yng BK583 hg;replace BK583:=ybb BK583 hb;clear hb hbox hg)))
 (try simp only [Act.put,List.setIfInBounds_toArray,List.set_cons_zero,List.set_cons_succ])
 go_cut [27] (fun v27 wc => ∃ (kq : Nat) (x27_2 : Bool),v27=.bool x27_2∧Aside0 (psalteryref13_Same.j0 kq x27_2 a0_0 l0_1 l0_2 a1_0 l1_1 l1_2=some r)∧Aside0 (kq≤k)∧Aside0 (wc.heap[gb583]? = some (.cells #[.bool a0_0,(.slice A0_1 l0_1.length c0_1),(.slice A0_2 l0_2.length c0_2)] 33 (0,0)))∧Aside0 (wc.heap[gb584]? = some (.cells #[.bool a1_0,(.slice A1_1 l1_1.length c1_1),(.slice A1_2 l1_2.length c1_2)] 33 (0,0)))∧Aside0 (Below w.heap.size w wc))
 case first =>
  have H:=HC3.out;clear HC3
  by_cases c6 : (a0_0 != a1_0)=true
  ·
   rw [if_pos c6] at H
   have c6b0 : (a0_0 != a1_0)=true:=c6
   (try (have c6b1 : decide (a0_0=a1_0)=false:=by simpa using c6))
   (try (have c6b2 : (a0_0 == a1_0)=false:=by simpa using c6))
   (try (have c6b3 : ¬ (a0_0=a1_0):=by simpa using c6))
   clear c6
   (first|rw [c6b0]|(simp only [i64_w,i32_w];rw [c6b0])|skip)
   have H' := zm H
   clear H
   have:=NB583_584.out
   have:=NB584_583.out
   obtain ⟨_,_,_,_,_,_⟩:=yc3 BK583
   obtain ⟨_,_,_,_,_,_⟩:=yc3 BK584
   go_wp2
   repeat (go_quiet (fail);try go_wp2)
   go_meet
   case rel=>exact ⟨_,(true),yq,H',⟨yo⟩,⟨yk BK583⟩,⟨yk BK584⟩,⟨yhb⟩⟩
  ·
   rw [if_neg c6] at H
   have c6b0 : (a0_0 != a1_0)=false:=by simpa using c6
   (try (have c6b1 : decide (a0_0=a1_0)=true:=by simpa using c6))
   (try (have c6b2 : (a0_0 == a1_0)=true:=by simpa using c6))
   clear c6
   (first|rw [c6b0]|(simp only [i64_w,i32_w];rw [c6b0])|skip)
   obtain ⟨t585,A10,H⟩:=ybi H
   by_cases c11 : t585=true
   ·
    subst c11
    rw [if_pos rfl] at H
    have H' := zm H
    clear H
    have:=NB583_584.out
    have:=NB584_583.out
    obtain ⟨_,_,_,_,_,_⟩:=yc3 BK583
    obtain ⟨_,_,_,_,_,_⟩:=yc3 BK584
    go_wp2_with (first|(go_at_call 24;(with_reducible refine (psalteryref12_Same.calls k _ _ l0_1 _ _ l1_1 true _ ?side1 HC0_1.out ?side3 HC1_1.out A10.out).mono ?_);(case side1=>exact ycb HR0_1);(case side3=>exact ycb HR1_1);rintro e w' ⟨rfl,⟨nd,rfl⟩⟩;(try exact yww)))
    repeat (go_quiet (first|(go_at_call 24;(with_reducible refine (psalteryref12_Same.calls k _ _ l0_1 _ _ l1_1 true _ ?side1 HC0_1.out ?side3 HC1_1.out A10.out).mono ?_);(case side1=>exact ycb HR0_1);(case side3=>exact ycb HR1_1);rintro e w' ⟨rfl,⟨nd,rfl⟩⟩;(try exact yww)));try go_wp2_with (first|(go_at_call 24;(with_reducible refine (psalteryref12_Same.calls k _ _ l0_1 _ _ l1_1 true _ ?side1 HC0_1.out ?side3 HC1_1.out A10.out).mono ?_);(case side1=>exact ycb HR0_1);(case side3=>exact ycb HR1_1);rintro e w' ⟨rfl,⟨nd,rfl⟩⟩;(try exact yww))))
    go_meet
    case rel=>exact ⟨_,(((l0_2.length : Int) != (l1_2.length : Int))),yq,H',⟨yo⟩,⟨yk BK583⟩,⟨yk BK584⟩,⟨yhb⟩⟩
   ·
    replace c11:=Bool.eq_false_iff.mpr c11
    subst c11
    rw [ynf] at H
    have H' := zm H
    clear H
    have:=NB583_584.out
    have:=NB584_583.out
    obtain ⟨_,_,_,_,_,_⟩:=yc3 BK583
    obtain ⟨_,_,_,_,_,_⟩:=yc3 BK584
    go_wp2_with (first|(go_at_call 24;(with_reducible refine (psalteryref12_Same.calls k _ _ l0_1 _ _ l1_1 false _ ?side1 HC0_1.out ?side3 HC1_1.out A10.out).mono ?_);(case side1=>exact ycb HR0_1);(case side3=>exact ycb HR1_1);rintro e w' ⟨rfl,⟨nd,rfl⟩⟩;(try exact yww)))
    repeat (go_quiet (first|(go_at_call 24;(with_reducible refine (psalteryref12_Same.calls k _ _ l0_1 _ _ l1_1 false _ ?side1 HC0_1.out ?side3 HC1_1.out A10.out).mono ?_);(case side1=>exact ycb HR0_1);(case side3=>exact ycb HR1_1);rintro e w' ⟨rfl,⟨nd,rfl⟩⟩;(try exact yww)));try go_wp2_with (first|(go_at_call 24;(with_reducible refine (psalteryref12_Same.calls k _ _ l0_1 _ _ l1_1 false _ ?side1 HC0_1.out ?side3 HC1_1.out A10.out).mono ?_);(case side1=>exact ycb HR0_1);(case side3=>exact ycb HR1_1);rintro e w' ⟨rfl,⟨nd,rfl⟩⟩;(try exact yww))))
    go_meet
    case rel=>exact ⟨_,(true),yq,H',⟨yo⟩,⟨yk BK583⟩,⟨yk BK584⟩,⟨yhb⟩⟩
 case rest =>
  clear HC3
  obtain ⟨kq,x27_2,rfl,HA,HJ2,BK583,BK584,HB⟩:=hcut
  obtain ⟨kj2,rfl⟩:=ysu kq (fun h=>by subst h;exact absurd HA.out (by simp [psalteryref13_Same.j0]))
  have H:=HA.out;clear HA
  simp only [psalteryref13_Same.j0] at H
  by_cases c18 : x27_2=true
  ·
   subst c18
   rw [if_pos rfl] at H
   obtain rfl:=Option.some.inj H
   go_wp2
   repeat (go_quiet (fail);try go_wp2)
   go_ret
   exact ⟨ye,yhb⟩
  ·
   replace c18:=Bool.eq_false_iff.mpr c18
   subst c18
   rw [ynf] at H
   have H' := zm H
   clear H
   go_wp2
   repeat (go_quiet (fail);try go_wp2)
   go_loopg [5] kj2 (fun kq v5 w' => ∃ (x5_2 : Int),v5=.int .i64 x5_2∧Aside0 (psalteryref13_Same.l0 kq x5_2 a0_0 l0_1 l0_2 a1_0 l1_1 l1_2=some r)∧Aside0 (kq≤kj2)∧Aside0 (w'.heap[gb583]? = some (.cells #[.bool a0_0,(.slice A0_1 l0_1.length c0_1),(.slice A0_2 l0_2.length c0_2)] 33 (0,0)))∧Aside0 (w'.heap[gb584]? = some (.cells #[.bool a1_0,(.slice A1_1 l1_1.length c1_1),(.slice A1_2 l1_2.length c1_2)] 33 (0,0)))∧Aside0 (Below w.heap.size w w'))
   case atStart=>exact ⟨(0),yq,H',⟨Nat.le_refl _⟩,⟨yk BK583⟩,⟨yk BK584⟩,⟨yhb⟩⟩
   case round =>
    clear H'
    obtain ⟨x5_2,rfl,HA,HK2,BK583,BK584,HB⟩:=hrel
    obtain ⟨k2,rfl⟩:=ysu gk (fun h=>by subst h;exact absurd HA.out (by simp [psalteryref13_Same.l0]))
    have H:=HA.out;clear HA
    simp only [psalteryref13_Same.l0] at H
    by_cases c19 : x5_2 < (l0_2.length : Int)
    ·
     rw [if_pos c19] at H
     have c19b0 : decide (x5_2 < (l0_2.length : Int))=true:=decide_eq_true c19
     clear c19
     obtain ⟨c20,H⟩:=yif H
     have c20b0 : decide (0≤x5_2)=true:=decide_eq_true c20
     clear c20
     obtain ⟨c21,H⟩:=yif H
     have c21b0 : decide (x5_2 < (l1_2.length : Int))=true:=decide_eq_true c21
     clear c21
     obtain ⟨t588,A22,H⟩:=ybi H
     by_cases c23 : t588=true
     ·
      subst c23
      rw [if_pos rfl] at H
      have H' := zm H
      clear H
      have:=NB583_584.out
      have:=NB584_583.out
      obtain ⟨_,_,_,_,_,_⟩:=yc3 BK583
      have p586 : 0≤(x5_2 : Int):=yt
      have q586 : x5_2 < (l0_2.length : Int):=yt
      obtain ⟨ad586,A586_0,c586_0,e586,hx586_0,hl586_0,hi586_0⟩:=at_L2 HR0_2.out x5_2 p586 q586
      cases e586
      replace hx586_0:=yhx HB hx586_0
      have HR586_0:=zm hi586_0;have HC586_0:=zm hl586_0;clear hi586_0 hl586_0
      replace p586:=eq_true p586
      replace q586:=eq_true q586
      obtain ⟨_,_,_,_,_,_⟩:=yc3 BK584
      have p587 : 0≤(x5_2 : Int):=yt
      have q587 : x5_2 < (l1_2.length : Int):=yt
      obtain ⟨ad587,A587_0,c587_0,e587,hx587_0,hl587_0,hi587_0⟩:=at_L2 HR1_2.out x5_2 p587 q587
      cases e587
      replace hx587_0:=yhx HB hx587_0
      have HR587_0:=zm hi587_0;have HC587_0:=zm hl587_0;clear hi587_0 hl587_0
      replace p587:=eq_true p587
      replace q587:=eq_true q587
      go_wp2_with (first|(go_at_call 24;(with_reducible refine (psalteryref12_Same.calls k2 _ _ (rd_L2 l0_2 x5_2) _ _ (rd_L2 l1_2 x5_2) true _ ?side1 HC586_0.out ?side3 HC587_0.out A22.out).mono ?_);(case side1=>exact ycb HR586_0);(case side3=>exact ycb HR587_0);rintro e w' ⟨rfl,⟨nd,rfl⟩⟩;(try exact yww)))
      repeat (go_quiet (first|(go_at_call 24;(with_reducible refine (psalteryref12_Same.calls k2 _ _ (rd_L2 l0_2 x5_2) _ _ (rd_L2 l1_2 x5_2) true _ ?side1 HC586_0.out ?side3 HC587_0.out A22.out).mono ?_);(case side1=>exact ycb HR586_0);(case side3=>exact ycb HR587_0);rintro e w' ⟨rfl,⟨nd,rfl⟩⟩;(try exact yww)));try go_wp2_with (first|(go_at_call 24;(with_reducible refine (psalteryref12_Same.calls k2 _ _ (rd_L2 l0_2 x5_2) _ _ (rd_L2 l1_2 x5_2) true _ ?side1 HC586_0.out ?side3 HC587_0.out A22.out).mono ?_);(case side1=>exact ycb HR586_0);(case side3=>exact ycb HR587_0);rintro e w' ⟨rfl,⟨nd,rfl⟩⟩;(try exact yww))))
      go_roundg k2
      case measure=>exact yom2 HJ2 HK2
      case rel=>exact ⟨(wrap64 (x5_2+1)),yq,H',⟨yom2 HJ2 HK2⟩,⟨yk BK583⟩,⟨yk BK584⟩,⟨yhb⟩⟩
     ·
      replace c23:=Bool.eq_false_iff.mpr c23
      subst c23
      rw [ynf] at H
      obtain rfl:=Option.some.inj H
      have:=NB583_584.out
      have:=NB584_583.out
      obtain ⟨_,_,_,_,_,_⟩:=yc3 BK583
      have p586 : 0≤(x5_2 : Int):=yt
      have q586 : x5_2 < (l0_2.length : Int):=yt
      obtain ⟨ad586,A586_0,c586_0,e586,hx586_0,hl586_0,hi586_0⟩:=at_L2 HR0_2.out x5_2 p586 q586
      cases e586
      replace hx586_0:=yhx HB hx586_0
      have HR586_0:=zm hi586_0;have HC586_0:=zm hl586_0;clear hi586_0 hl586_0
      replace p586:=eq_true p586
      replace q586:=eq_true q586
      obtain ⟨_,_,_,_,_,_⟩:=yc3 BK584
      have p587 : 0≤(x5_2 : Int):=yt
      have q587 : x5_2 < (l1_2.length : Int):=yt
      obtain ⟨ad587,A587_0,c587_0,e587,hx587_0,hl587_0,hi587_0⟩:=at_L2 HR1_2.out x5_2 p587 q587
      cases e587
      replace hx587_0:=yhx HB hx587_0
      have HR587_0:=zm hi587_0;have HC587_0:=zm hl587_0;clear hi587_0 hl587_0
      replace p587:=eq_true p587
      replace q587:=eq_true q587
      go_wp2_with (first|(go_at_call 24;(with_reducible refine (psalteryref12_Same.calls k2 _ _ (rd_L2 l0_2 x5_2) _ _ (rd_L2 l1_2 x5_2) false _ ?side1 HC586_0.out ?side3 HC587_0.out A22.out).mono ?_);(case side1=>exact ycb HR586_0);(case side3=>exact ycb HR587_0);rintro e w' ⟨rfl,⟨nd,rfl⟩⟩;(try exact yww)))
      repeat (go_quiet (first|(go_at_call 24;(with_reducible refine (psalteryref12_Same.calls k2 _ _ (rd_L2 l0_2 x5_2) _ _ (rd_L2 l1_2 x5_2) false _ ?side1 HC586_0.out ?side3 HC587_0.out A22.out).mono ?_);(case side1=>exact ycb HR586_0);(case side3=>exact ycb HR587_0);rintro e w' ⟨rfl,⟨nd,rfl⟩⟩;(try exact yww)));try go_wp2_with (first|(go_at_call 24;(with_reducible refine (psalteryref12_Same.calls k2 _ _ (rd_L2 l0_2 x5_2) _ _ (rd_L2 l1_2 x5_2) false _ ?side1 HC586_0.out ?side3 HC587_0.out A22.out).mono ?_);(case side1=>exact ycb HR586_0);(case side3=>exact ycb HR587_0);rintro e w' ⟨rfl,⟨nd,rfl⟩⟩;(try exact yww))))
      go_ret
      exact ⟨ye,yhb⟩
    ·
     rw [if_neg c19] at H
     have c19b0 : decide (x5_2 < (l0_2.length : Int))=false:=decide_eq_false c19
     clear c19
     obtain rfl:=Option.some.inj H
     have:=NB583_584.out
     have:=NB584_583.out
     obtain ⟨_,_,_,_,_,_⟩:=yc3 BK583
     go_wp2
     repeat (go_quiet (fail);try go_wp2)
     go_ret
     exact ⟨ye,yhb⟩
def psalterylaw13_knows.f (k : Nat)  : Option (Bool):=(some (([(([0,0,0,0,0] : List Int))] : List (List Int)) : List (List Int))).bind fun y592=>((some (([(([(([0] : List Int)),(([0] : List Int)),(([0,0] : List Int)),(([0,0,0,0] : List Int)),(([0,0,0,0,0,0,0,0] : List Int))] : List (List Int)))] : List (List (List Int))) : List (List (List Int)))).bind fun y613=>((cpack_Write.f k 11 1 true y592 y613 ([] : List (List Int))).bind fun bt617=>((cpack_Read.f k 11 1 bt617.1 ([] : List (List Int))).bind fun bt621=>((cpack_Read.f k 11 1 (List.replicate 11 0) (([(([9,2,3,4,5] : List Int))] : List (List Int)))).bind fun bt639=>(if (bt617.1.length : Int)=11 then (if bt617.2=0 then ((psalterylaw13_As.f bt621.1 bt621.2.1 bt621.2.2.1).bind fun bt648=>((psalterylaw13_As.f true y592 y613).bind fun bt655=>((psalteryref13_Same.f k bt648.1 bt648.2.1 bt648.2.2 bt655.1 bt655.2.1 bt655.2.2).bind fun t662=>(if t662=true then (if bt621.2.2.2=0 then (if bt639.1=true then (none) else ((psalteryref12_Same.f k bt639.2.1 (([(([6,0,0,1,2] : List Int))] : List (List Int)))).bind fun t669=>(if t669=true then (if bt639.2.2.2=0 then ((cpack_Right.f k 11 1 true y592 y613).bind fun t670=>(some t670)) else (none)) else (none)))) else (none)) else (none))))) else (none)) else (none))))))
theorem psalterylaw13_knows.mono : ∀ k,LeO (psalterylaw13_knows.f k ) (psalterylaw13_knows.f (k+1) ):=by
 intro  k
 unfold psalterylaw13_knows.f
 repeat' with_reducible first|apply cpack_Read.mono|apply cpack_Right.mono|apply cpack_Write.mono|apply psalteryref12_Same.mono|apply psalteryref13_Same.mono|apply yLr|apply yLn|apply yLi|apply yLb|intro _
def psalterylaw13_knows.T5 : Bool × List (List Nat × List Nat):=(true, [([], []),([0], [0]),([1], [1]),([2], [2]),([3], [3]),([4,3], [3,4]),([3,5], [3,5]),([6,3], [6]),([7], [7]),([8,7,7], [7,8]),([7], [7]),([10,9,7], [7,10]),([9,11,11,7], [7,9,11]),([7,12], [7,12]),([13,12], [13]),([14], [14]),([15,14], [14,15]),([14,16], [14,16]),([17,14], [17]),([18], [18]),([19,18], [18,19]),([20,18], [18,20]),([18,21], [18,21]),([22,18], [22]),([23], [23]),([24,23], [23,24]),([23], [23]),([26,23], [23,26]),([25,27,23,23], [23,25,27]),([23,28], [23,28]),([29,28], [29]),([30], [30]),([31,30], [30,31]),([30,32], [30,32]),([33,30], [33]),([34], [34]),([35,34,34], [34,35]),([34,36], [34,36]),([37,36,0,1,2,3,4,5,6,7,8,9,10,11,12,13,14,15,16,17,18,19,20,21,22,23,24,25,26,27,28,29,30,31,32,33,34,35,36,37], [37])])
def psalterylaw13_knows.B5 : List Nat := [0,1,3,7,15,31,63,127,255,511,255,2047,4095,8191,16383,32767,65535,131071,262143,524287,1048575,2097151,4194303,8388607,16777215,33554431,16777215,83886079,268435455,536870911,1073741823,2147483647,4294967295,8589934591,17179869183,34359738367,68719476735,137438953471,274877906943]
theorem psalterylaw13_knows.tab5 : rtab .any (opsOf Try.f11 5)=psalterylaw13_knows.T5:=by kernel_rfl
theorem psalterylaw13_knows.bits5 : waitsOk psalterylaw13_knows.T5.2 psalterylaw13_knows.B5=true:=by kernel_rfl
set_option maxHeartbeats 8000000 in
set_option maxRecDepth 100000 in
theorem psalterylaw13_knows.calls (k : Nat)  (r : Bool) (w : World) (h : psalterylaw13_knows.f k  = some r) :
  Calls Try.prog 11 #[] w fun e w' => e=.returned (.bool r)∧Below w.heap.size w w' := by
 have hu25:=Try.underlying25;have HB:=zm (Below.refl w.heap.size w)
 have H : ((some (([(([0,0,0,0,0] : List Int))] : List (List Int)) : List (List Int))).bind fun y592=>((some (([(([(([0] : List Int)),(([0] : List Int)),(([0,0] : List Int)),(([0,0,0,0] : List Int)),(([0,0,0,0,0,0,0,0] : List Int))] : List (List Int)))] : List (List (List Int))) : List (List (List Int)))).bind fun y613=>((cpack_Write.f k 11 1 true y592 y613 ([] : List (List Int))).bind fun bt617=>((cpack_Read.f k 11 1 bt617.1 ([] : List (List Int))).bind fun bt621=>((cpack_Read.f k 11 1 (List.replicate 11 0) (([(([9,2,3,4,5] : List Int))] : List (List Int)))).bind fun bt639=>(if (bt617.1.length : Int)=11 then (if bt617.2=0 then ((psalterylaw13_As.f bt621.1 bt621.2.1 bt621.2.2.1).bind fun bt648=>((psalterylaw13_As.f true y592 y613).bind fun bt655=>((psalteryref13_Same.f k bt648.1 bt648.2.1 bt648.2.2 bt655.1 bt655.2.1 bt655.2.2).bind fun t662=>(if t662=true then (if bt621.2.2.2=0 then (if bt639.1=true then (none) else ((psalteryref12_Same.f k bt639.2.1 (([(([6,0,0,1,2] : List Int))] : List (List Int)))).bind fun t669=>(if t669=true then (if bt639.2.2.2=0 then ((cpack_Right.f k 11 1 true y592 y613).bind fun t670=>(some t670)) else (none)) else (none)))) else (none)) else (none))))) else (none)) else (none)))))))=some r:=h
 clear h
 obtain ⟨y589,hy589⟩ : ∃ y_ : List Int,y_=(([0,0,0,0,0] : List Int)):=⟨_,rfl⟩
 replace H : ((some (([y589] : List (List Int)) : List (List Int))).bind fun y592=>((some (([(([(([0] : List Int)),(([0] : List Int)),(([0,0] : List Int)),(([0,0,0,0] : List Int)),(([0,0,0,0,0,0,0,0] : List Int))] : List (List Int)))] : List (List (List Int))) : List (List (List Int)))).bind fun y613=>((cpack_Write.f k 11 1 true y592 y613 ([] : List (List Int))).bind fun bt617=>((cpack_Read.f k 11 1 bt617.1 ([] : List (List Int))).bind fun bt621=>((cpack_Read.f k 11 1 (List.replicate 11 0) (([(([9,2,3,4,5] : List Int))] : List (List Int)))).bind fun bt639=>(if (bt617.1.length : Int)=11 then (if bt617.2=0 then ((psalterylaw13_As.f bt621.1 bt621.2.1 bt621.2.2.1).bind fun bt648=>((psalterylaw13_As.f true y592 y613).bind fun bt655=>((psalteryref13_Same.f k bt648.1 bt648.2.1 bt648.2.2 bt655.1 bt655.2.1 bt655.2.2).bind fun t662=>(if t662=true then (if bt621.2.2.2=0 then (if bt639.1=true then (none) else ((psalteryref12_Same.f k bt639.2.1 (([(([6,0,0,1,2] : List Int))] : List (List Int)))).bind fun t669=>(if t669=true then (if bt639.2.2.2=0 then ((cpack_Right.f k 11 1 true y592 y613).bind fun t670=>(some t670)) else (none)) else (none)))) else (none)) else (none))))) else (none)) else (none)))))))=some r:=yrw hy589 H
 have Ny589:=zm hy589;clear hy589
 obtain ⟨y592,hy592⟩ : ∃ y_ : List (List Int),y_=(([y589] : List (List Int))):=⟨_,rfl⟩
 replace H : ((some (([(([(([0] : List Int)),(([0] : List Int)),(([0,0] : List Int)),(([0,0,0,0] : List Int)),(([0,0,0,0,0,0,0,0] : List Int))] : List (List Int)))] : List (List (List Int))) : List (List (List Int)))).bind fun y613=>((cpack_Write.f k 11 1 true y592 y613 ([] : List (List Int))).bind fun bt617=>((cpack_Read.f k 11 1 bt617.1 ([] : List (List Int))).bind fun bt621=>((cpack_Read.f k 11 1 (List.replicate 11 0) (([(([9,2,3,4,5] : List Int))] : List (List Int)))).bind fun bt639=>(if (bt617.1.length : Int)=11 then (if bt617.2=0 then ((psalterylaw13_As.f bt621.1 bt621.2.1 bt621.2.2.1).bind fun bt648=>((psalterylaw13_As.f true y592 y613).bind fun bt655=>((psalteryref13_Same.f k bt648.1 bt648.2.1 bt648.2.2 bt655.1 bt655.2.1 bt655.2.2).bind fun t662=>(if t662=true then (if bt621.2.2.2=0 then (if bt639.1=true then (none) else ((psalteryref12_Same.f k bt639.2.1 (([(([6,0,0,1,2] : List Int))] : List (List Int)))).bind fun t669=>(if t669=true then (if bt639.2.2.2=0 then ((cpack_Right.f k 11 1 true y592 y613).bind fun t670=>(some t670)) else (none)) else (none)))) else (none)) else (none))))) else (none)) else (none))))))=some r:=yrw hy592 H
 have Ny592:=zm hy592;clear hy592
 obtain ⟨y595,hy595⟩ : ∃ y_ : List Int,y_=(([0] : List Int)):=⟨_,rfl⟩
 replace H : ((some (([(([y595,(([0] : List Int)),(([0,0] : List Int)),(([0,0,0,0] : List Int)),(([0,0,0,0,0,0,0,0] : List Int))] : List (List Int)))] : List (List (List Int))) : List (List (List Int)))).bind fun y613=>((cpack_Write.f k 11 1 true y592 y613 ([] : List (List Int))).bind fun bt617=>((cpack_Read.f k 11 1 bt617.1 ([] : List (List Int))).bind fun bt621=>((cpack_Read.f k 11 1 (List.replicate 11 0) (([(([9,2,3,4,5] : List Int))] : List (List Int)))).bind fun bt639=>(if (bt617.1.length : Int)=11 then (if bt617.2=0 then ((psalterylaw13_As.f bt621.1 bt621.2.1 bt621.2.2.1).bind fun bt648=>((psalterylaw13_As.f true y592 y613).bind fun bt655=>((psalteryref13_Same.f k bt648.1 bt648.2.1 bt648.2.2 bt655.1 bt655.2.1 bt655.2.2).bind fun t662=>(if t662=true then (if bt621.2.2.2=0 then (if bt639.1=true then (none) else ((psalteryref12_Same.f k bt639.2.1 (([(([6,0,0,1,2] : List Int))] : List (List Int)))).bind fun t669=>(if t669=true then (if bt639.2.2.2=0 then ((cpack_Right.f k 11 1 true y592 y613).bind fun t670=>(some t670)) else (none)) else (none)))) else (none)) else (none))))) else (none)) else (none))))))=some r:=yrw hy595 H
 have Ny595:=zm hy595;clear hy595
 obtain ⟨y598,hy598⟩ : ∃ y_ : List Int,y_=(([0] : List Int)):=⟨_,rfl⟩
 replace H : ((some (([(([y595,y598,(([0,0] : List Int)),(([0,0,0,0] : List Int)),(([0,0,0,0,0,0,0,0] : List Int))] : List (List Int)))] : List (List (List Int))) : List (List (List Int)))).bind fun y613=>((cpack_Write.f k 11 1 true y592 y613 ([] : List (List Int))).bind fun bt617=>((cpack_Read.f k 11 1 bt617.1 ([] : List (List Int))).bind fun bt621=>((cpack_Read.f k 11 1 (List.replicate 11 0) (([(([9,2,3,4,5] : List Int))] : List (List Int)))).bind fun bt639=>(if (bt617.1.length : Int)=11 then (if bt617.2=0 then ((psalterylaw13_As.f bt621.1 bt621.2.1 bt621.2.2.1).bind fun bt648=>((psalterylaw13_As.f true y592 y613).bind fun bt655=>((psalteryref13_Same.f k bt648.1 bt648.2.1 bt648.2.2 bt655.1 bt655.2.1 bt655.2.2).bind fun t662=>(if t662=true then (if bt621.2.2.2=0 then (if bt639.1=true then (none) else ((psalteryref12_Same.f k bt639.2.1 (([(([6,0,0,1,2] : List Int))] : List (List Int)))).bind fun t669=>(if t669=true then (if bt639.2.2.2=0 then ((cpack_Right.f k 11 1 true y592 y613).bind fun t670=>(some t670)) else (none)) else (none)))) else (none)) else (none))))) else (none)) else (none))))))=some r:=yrw hy598 H
 have Ny598:=zm hy598;clear hy598
 obtain ⟨y601,hy601⟩ : ∃ y_ : List Int,y_=(([0,0] : List Int)):=⟨_,rfl⟩
 replace H : ((some (([(([y595,y598,y601,(([0,0,0,0] : List Int)),(([0,0,0,0,0,0,0,0] : List Int))] : List (List Int)))] : List (List (List Int))) : List (List (List Int)))).bind fun y613=>((cpack_Write.f k 11 1 true y592 y613 ([] : List (List Int))).bind fun bt617=>((cpack_Read.f k 11 1 bt617.1 ([] : List (List Int))).bind fun bt621=>((cpack_Read.f k 11 1 (List.replicate 11 0) (([(([9,2,3,4,5] : List Int))] : List (List Int)))).bind fun bt639=>(if (bt617.1.length : Int)=11 then (if bt617.2=0 then ((psalterylaw13_As.f bt621.1 bt621.2.1 bt621.2.2.1).bind fun bt648=>((psalterylaw13_As.f true y592 y613).bind fun bt655=>((psalteryref13_Same.f k bt648.1 bt648.2.1 bt648.2.2 bt655.1 bt655.2.1 bt655.2.2).bind fun t662=>(if t662=true then (if bt621.2.2.2=0 then (if bt639.1=true then (none) else ((psalteryref12_Same.f k bt639.2.1 (([(([6,0,0,1,2] : List Int))] : List (List Int)))).bind fun t669=>(if t669=true then (if bt639.2.2.2=0 then ((cpack_Right.f k 11 1 true y592 y613).bind fun t670=>(some t670)) else (none)) else (none)))) else (none)) else (none))))) else (none)) else (none))))))=some r:=yrw hy601 H
 have Ny601:=zm hy601;clear hy601
 obtain ⟨y604,hy604⟩ : ∃ y_ : List Int,y_=(([0,0,0,0] : List Int)):=⟨_,rfl⟩
 replace H : ((some (([(([y595,y598,y601,y604,(([0,0,0,0,0,0,0,0] : List Int))] : List (List Int)))] : List (List (List Int))) : List (List (List Int)))).bind fun y613=>((cpack_Write.f k 11 1 true y592 y613 ([] : List (List Int))).bind fun bt617=>((cpack_Read.f k 11 1 bt617.1 ([] : List (List Int))).bind fun bt621=>((cpack_Read.f k 11 1 (List.replicate 11 0) (([(([9,2,3,4,5] : List Int))] : List (List Int)))).bind fun bt639=>(if (bt617.1.length : Int)=11 then (if bt617.2=0 then ((psalterylaw13_As.f bt621.1 bt621.2.1 bt621.2.2.1).bind fun bt648=>((psalterylaw13_As.f true y592 y613).bind fun bt655=>((psalteryref13_Same.f k bt648.1 bt648.2.1 bt648.2.2 bt655.1 bt655.2.1 bt655.2.2).bind fun t662=>(if t662=true then (if bt621.2.2.2=0 then (if bt639.1=true then (none) else ((psalteryref12_Same.f k bt639.2.1 (([(([6,0,0,1,2] : List Int))] : List (List Int)))).bind fun t669=>(if t669=true then (if bt639.2.2.2=0 then ((cpack_Right.f k 11 1 true y592 y613).bind fun t670=>(some t670)) else (none)) else (none)))) else (none)) else (none))))) else (none)) else (none))))))=some r:=yrw hy604 H
 have Ny604:=zm hy604;clear hy604
 obtain ⟨y607,hy607⟩ : ∃ y_ : List Int,y_=(([0,0,0,0,0,0,0,0] : List Int)):=⟨_,rfl⟩
 replace H : ((some (([(([y595,y598,y601,y604,y607] : List (List Int)))] : List (List (List Int))) : List (List (List Int)))).bind fun y613=>((cpack_Write.f k 11 1 true y592 y613 ([] : List (List Int))).bind fun bt617=>((cpack_Read.f k 11 1 bt617.1 ([] : List (List Int))).bind fun bt621=>((cpack_Read.f k 11 1 (List.replicate 11 0) (([(([9,2,3,4,5] : List Int))] : List (List Int)))).bind fun bt639=>(if (bt617.1.length : Int)=11 then (if bt617.2=0 then ((psalterylaw13_As.f bt621.1 bt621.2.1 bt621.2.2.1).bind fun bt648=>((psalterylaw13_As.f true y592 y613).bind fun bt655=>((psalteryref13_Same.f k bt648.1 bt648.2.1 bt648.2.2 bt655.1 bt655.2.1 bt655.2.2).bind fun t662=>(if t662=true then (if bt621.2.2.2=0 then (if bt639.1=true then (none) else ((psalteryref12_Same.f k bt639.2.1 (([(([6,0,0,1,2] : List Int))] : List (List Int)))).bind fun t669=>(if t669=true then (if bt639.2.2.2=0 then ((cpack_Right.f k 11 1 true y592 y613).bind fun t670=>(some t670)) else (none)) else (none)))) else (none)) else (none))))) else (none)) else (none))))))=some r:=yrw hy607 H
 have Ny607:=zm hy607;clear hy607
 obtain ⟨y610,hy610⟩ : ∃ y_ : List (List Int),y_=(([y595,y598,y601,y604,y607] : List (List Int))):=⟨_,rfl⟩
 replace H : ((some (([y610] : List (List (List Int))) : List (List (List Int)))).bind fun y613=>((cpack_Write.f k 11 1 true y592 y613 ([] : List (List Int))).bind fun bt617=>((cpack_Read.f k 11 1 bt617.1 ([] : List (List Int))).bind fun bt621=>((cpack_Read.f k 11 1 (List.replicate 11 0) (([(([9,2,3,4,5] : List Int))] : List (List Int)))).bind fun bt639=>(if (bt617.1.length : Int)=11 then (if bt617.2=0 then ((psalterylaw13_As.f bt621.1 bt621.2.1 bt621.2.2.1).bind fun bt648=>((psalterylaw13_As.f true y592 y613).bind fun bt655=>((psalteryref13_Same.f k bt648.1 bt648.2.1 bt648.2.2 bt655.1 bt655.2.1 bt655.2.2).bind fun t662=>(if t662=true then (if bt621.2.2.2=0 then (if bt639.1=true then (none) else ((psalteryref12_Same.f k bt639.2.1 (([(([6,0,0,1,2] : List Int))] : List (List Int)))).bind fun t669=>(if t669=true then (if bt639.2.2.2=0 then ((cpack_Right.f k 11 1 true y592 y613).bind fun t670=>(some t670)) else (none)) else (none)))) else (none)) else (none))))) else (none)) else (none))))))=some r:=yrw hy610 H
 have Ny610:=zm hy610;clear hy610
 obtain ⟨y613,hy613⟩ : ∃ y_ : List (List (List Int)),y_=(([y610] : List (List (List Int)))):=⟨_,rfl⟩
 replace H : ((cpack_Write.f k 11 1 true y592 y613 ([] : List (List Int))).bind fun bt617=>((cpack_Read.f k 11 1 bt617.1 ([] : List (List Int))).bind fun bt621=>((cpack_Read.f k 11 1 (List.replicate 11 0) (([(([9,2,3,4,5] : List Int))] : List (List Int)))).bind fun bt639=>(if (bt617.1.length : Int)=11 then (if bt617.2=0 then ((psalterylaw13_As.f bt621.1 bt621.2.1 bt621.2.2.1).bind fun bt648=>((psalterylaw13_As.f true y592 y613).bind fun bt655=>((psalteryref13_Same.f k bt648.1 bt648.2.1 bt648.2.2 bt655.1 bt655.2.1 bt655.2.2).bind fun t662=>(if t662=true then (if bt621.2.2.2=0 then (if bt639.1=true then (none) else ((psalteryref12_Same.f k bt639.2.1 (([(([6,0,0,1,2] : List Int))] : List (List Int)))).bind fun t669=>(if t669=true then (if bt639.2.2.2=0 then ((cpack_Right.f k 11 1 true y592 y613).bind fun t670=>(some t670)) else (none)) else (none)))) else (none)) else (none))))) else (none)) else (none)))))=some r:=yrw hy613 H
 have Ny613:=zm hy613;clear hy613
 obtain ⟨⟨t617,t620⟩,A1,H⟩:=ybi H
 try dsimp only at H
 obtain ⟨⟨t621,t622,t625,t628⟩,A2,H⟩:=ybi H
 try dsimp only at H
 obtain ⟨y630,hy630⟩ : ∃ y_ : List Int,y_=(List.replicate 11 0):=⟨_,rfl⟩
 replace H : ((cpack_Read.f k 11 1 y630 (([(([9,2,3,4,5] : List Int))] : List (List Int)))).bind fun bt639=>(if (t617.length : Int)=11 then (if t620=0 then ((psalterylaw13_As.f t621 t622 t625).bind fun bt648=>((psalterylaw13_As.f true y592 y613).bind fun bt655=>((psalteryref13_Same.f k bt648.1 bt648.2.1 bt648.2.2 bt655.1 bt655.2.1 bt655.2.2).bind fun t662=>(if t662=true then (if t628=0 then (if bt639.1=true then (none) else ((psalteryref12_Same.f k bt639.2.1 (([(([6,0,0,1,2] : List Int))] : List (List Int)))).bind fun t669=>(if t669=true then (if bt639.2.2.2=0 then ((cpack_Right.f k 11 1 true y592 y613).bind fun t670=>(some t670)) else (none)) else (none)))) else (none)) else (none))))) else (none)) else (none)))=some r:=yrw hy630 H
 have Ny630:=zm hy630;clear hy630
 obtain ⟨y633,hy633⟩ : ∃ y_ : List Int,y_=(([9,2,3,4,5] : List Int)):=⟨_,rfl⟩
 replace H : ((cpack_Read.f k 11 1 y630 (([y633] : List (List Int)))).bind fun bt639=>(if (t617.length : Int)=11 then (if t620=0 then ((psalterylaw13_As.f t621 t622 t625).bind fun bt648=>((psalterylaw13_As.f true y592 y613).bind fun bt655=>((psalteryref13_Same.f k bt648.1 bt648.2.1 bt648.2.2 bt655.1 bt655.2.1 bt655.2.2).bind fun t662=>(if t662=true then (if t628=0 then (if bt639.1=true then (none) else ((psalteryref12_Same.f k bt639.2.1 (([(([6,0,0,1,2] : List Int))] : List (List Int)))).bind fun t669=>(if t669=true then (if bt639.2.2.2=0 then ((cpack_Right.f k 11 1 true y592 y613).bind fun t670=>(some t670)) else (none)) else (none)))) else (none)) else (none))))) else (none)) else (none)))=some r:=yrw hy633 H
 have Ny633:=zm hy633;clear hy633
 obtain ⟨y636,hy636⟩ : ∃ y_ : List (List Int),y_=(([y633] : List (List Int))):=⟨_,rfl⟩
 replace H : ((cpack_Read.f k 11 1 y630 y636).bind fun bt639=>(if (t617.length : Int)=11 then (if t620=0 then ((psalterylaw13_As.f t621 t622 t625).bind fun bt648=>((psalterylaw13_As.f true y592 y613).bind fun bt655=>((psalteryref13_Same.f k bt648.1 bt648.2.1 bt648.2.2 bt655.1 bt655.2.1 bt655.2.2).bind fun t662=>(if t662=true then (if t628=0 then (if bt639.1=true then (none) else ((psalteryref12_Same.f k bt639.2.1 (([(([6,0,0,1,2] : List Int))] : List (List Int)))).bind fun t669=>(if t669=true then (if bt639.2.2.2=0 then ((cpack_Right.f k 11 1 true y592 y613).bind fun t670=>(some t670)) else (none)) else (none)))) else (none)) else (none))))) else (none)) else (none)))=some r:=yrw hy636 H
 have Ny636:=zm hy636;clear hy636
 obtain ⟨⟨t639,t640,t643,t646⟩,A3,H⟩:=ybi H
 try dsimp only at H
 by_cases c4 : (t617.length : Int)=11
 ·
  rw [if_pos c4] at H
  have c4b0 : ((t617.length : Int) == 11)=true:=beq_iff_eq.mpr c4
  have c4b1 : ((t617.length : Int) != 11)=false:=bne_eq_false_iff_eq.mpr c4
  clear c4
  by_cases c5 : t620=0
  ·
   rw [if_pos c5] at H
   have c5b0 : (t620 == 0)=true:=beq_iff_eq.mpr c5
   have c5b1 : (t620 != 0)=false:=bne_eq_false_iff_eq.mpr c5
   clear c5
   obtain ⟨⟨t648,t649,t652⟩,A6,H⟩:=ybi H
   try dsimp only at H
   obtain ⟨⟨t655,t656,t659⟩,A7,H⟩:=ybi H
   try dsimp only at H
   obtain ⟨t662,A8,H⟩:=ybi H
   obtain ⟨c9,H⟩:=yif H
   subst c9
   by_cases c10 : t628=0
   ·
    rw [if_pos c10] at H
    have c10b0 : (t628 == 0)=true:=beq_iff_eq.mpr c10
    have c10b1 : (t628 != 0)=false:=bne_eq_false_iff_eq.mpr c10
    clear c10
    obtain ⟨c11,H⟩:=yie H
    replace c11:=Bool.eq_false_iff.mpr c11
    subst c11
    obtain ⟨y663,hy663⟩ : ∃ y_ : List Int,y_=(([6,0,0,1,2] : List Int)):=⟨_,rfl⟩
    replace H : ((psalteryref12_Same.f k t640 (([y663] : List (List Int)))).bind fun t669=>(if t669=true then (if t646=0 then ((cpack_Right.f k 11 1 true y592 y613).bind fun t670=>(some t670)) else (none)) else (none)))=some r:=yrw hy663 H
    have Ny663:=zm hy663;clear hy663
    obtain ⟨y666,hy666⟩ : ∃ y_ : List (List Int),y_=(([y663] : List (List Int))):=⟨_,rfl⟩
    replace H : ((psalteryref12_Same.f k t640 y666).bind fun t669=>(if t669=true then (if t646=0 then ((cpack_Right.f k 11 1 true y592 y613).bind fun t670=>(some t670)) else (none)) else (none)))=some r:=yrw hy666 H
    have Ny666:=zm hy666;clear hy666
    obtain ⟨t669,A12,H⟩:=ybi H
    obtain ⟨c13,H⟩:=yif H
    subst c13
    by_cases c14 : t646=0
    ·
     rw [if_pos c14] at H
     have c14b0 : (t646 == 0)=true:=beq_iff_eq.mpr c14
     have c14b1 : (t646 != 0)=false:=bne_eq_false_iff_eq.mpr c14
     clear c14
     obtain ⟨t670,A15,H⟩:=ybi H
     obtain rfl:=Option.some.inj H
     go_enter Try.func11,Try.ntmps11
     try go_wp2_with (first|((with_reducible refine gate_dst (N:=8) rfl ?_);(try (refine gate_guard (by rfl) ?_;dsimp only));refine Kd.R_lit (Kd.int .i64) _ 3 ?hg (N:=8) ?hd (xs:=([0,0,0,0,0] : List Int)) (inner := [.int .i64 0, .int .i64 0, .int .i64 0, .int .i64 0, .int .i64 0]) (ok:=fun _=>True) (okp:=fun _=>True) ?hr ?hp (fun _ hk=>hk) trivial (Below.refl _ _) (Nat.le_refl _) (by simp) ?_;(case hd=>rfl);(case hg=>rfl);(case hr=>first|(go_simp;done)|(go_simp;rfl));(case hp=>exact (Reps.one (show Kd.M (Kd.int .i64) _ _ _ 0 [.int .i64 0] from rfl) (Reps.one (show Kd.M (Kd.int .i64) _ _ _ 0 [.int .i64 0] from rfl) (Reps.one (show Kd.M (Kd.int .i64) _ _ _ 0 [.int .i64 0] from rfl) (Reps.one (show Kd.M (Kd.int .i64) _ _ _ 0 [.int .i64 0] from rfl) (Reps.one (show Kd.M (Kd.int .i64) _ _ _ 0 [.int .i64 0] from rfl) (Reps.none _ _)))))));intro v590 w16 ho17 hb hg_ hnew_;clear hg_ hnew_;(first|rw [← Ny589.out] at ho17|(simp only [Int.reduceToNat] at ho17;rw [← Ny589.out] at ho17)|rw [show (List.replicate (Int.toNat 11) (0 : Int))=y589 from Ny589.out.symm] at ho17);have HO591:=zm (Kd.R_lower ho17 (zE yhb));replace HB:=ybs hb;clear hb ho17;obtain ⟨Ao18,co18,eo18⟩:=Kd.R_slice HO591.out;subst eo18)|((with_reducible refine gate_dst (N:=9) rfl ?_);(try (refine gate_guard (by rfl) ?_;dsimp only));refine Kd.N_lit (Kd.slice 3 (Kd.int .i64)) _ 49 ?hg (N' := 9) ?hd (xs:=([y589] : List (List Int))) (inner := [.slice Ao18 y589.length co18]) (ok:=(fun _=>True)) (okp:=(fun _=>True)) ?hr ?hp (fun _ hk=>hk) ((show ∀ k_,w16.heap.size≤k_→(fun _=>True) k_ from fun k_ hk=>trivial) _ (Nat.le_refl _)) (Below.refl _ _) (Nat.le_refl _) (by simp) ?_;(case hd=>rfl);(case hg=>rfl);(case hr=>first|(go_simp;done)|(go_simp;rfl));(case hp=>exact (Reps.one (show Kd.FK (Kd.slice 3 (Kd.int .i64)) _ _ y589 [.slice Ao18 y589.length co18] from (Kd.FK_slice_mk (Kd.R_reads' (zG (ok' := (fun _=>True)) (HO591.out) (fun k_ hk=>trivial))).2.1 (Kd.R_F (zG (ok' := (fun _=>True)) (HO591.out) (fun k_ hk=>trivial))))) (Reps.none _ _)));intro v593 w19 ho20 hb hg_ hnew_;clear hg_ hnew_;(first|rw [← Ny592.out] at ho20|(simp only [Int.reduceToNat] at ho20;rw [← Ny592.out] at ho20)|rw [show (List.replicate (Int.toNat 11) (0 : Int))=y592 from Ny592.out.symm] at ho20);have HO594:=zm (Kd.N_lower ho20 (zE yhb));replace HB:=ybs hb;clear HO591;clear hb ho20)|((with_reducible refine gate_dst (N:=10) rfl ?_);(try (refine gate_guard (by rfl) ?_;dsimp only));refine Kd.R_lit (Kd.int .i64) _ 3 ?hg (N:=10) ?hd (xs:=([0] : List Int)) (inner := [.int .i64 0]) (ok:=fun _=>True) (okp:=fun _=>True) ?hr ?hp (fun _ hk=>hk) trivial (Below.refl _ _) (Nat.le_refl _) (by simp) ?_;(case hd=>rfl);(case hg=>rfl);(case hr=>first|(go_simp;done)|(go_simp;rfl));(case hp=>exact (Reps.one (show Kd.M (Kd.int .i64) _ _ _ 0 [.int .i64 0] from rfl) (Reps.none _ _)));intro v596 w21 ho22 hb hg_ hnew_;clear hg_ hnew_;(first|rw [← Ny595.out] at ho22|(simp only [Int.reduceToNat] at ho22;rw [← Ny595.out] at ho22)|rw [show (List.replicate (Int.toNat 11) (0 : Int))=y595 from Ny595.out.symm] at ho22);replace HO594:=zm (Kd.N_elder' (yr HO594) (Kd.R_base ho22) hb);have HO597:=zm (Kd.R_lower ho22 (zE yhb));replace HB:=ybs hb;clear hb ho22)|((with_reducible refine gate_dst (N:=11) rfl ?_);(try (refine gate_guard (by rfl) ?_;dsimp only));refine Kd.R_lit (Kd.int .i64) _ 3 ?hg (N:=11) ?hd (xs:=([0] : List Int)) (inner := [.int .i64 0]) (ok:=fun _=>True) (okp:=fun _=>True) ?hr ?hp (fun _ hk=>hk) trivial (Below.refl _ _) (Nat.le_refl _) (by simp) ?_;(case hd=>rfl);(case hg=>rfl);(case hr=>first|(go_simp;done)|(go_simp;rfl));(case hp=>exact (Reps.one (show Kd.M (Kd.int .i64) _ _ _ 0 [.int .i64 0] from rfl) (Reps.none _ _)));intro v599 w23 ho24 hb hg_ hnew_;clear hg_ hnew_;(first|rw [← Ny598.out] at ho24|(simp only [Int.reduceToNat] at ho24;rw [← Ny598.out] at ho24)|rw [show (List.replicate (Int.toNat 11) (0 : Int))=y598 from Ny598.out.symm] at ho24);replace HO594:=zm (Kd.N_elder' (yr HO594) (Kd.R_base ho24) hb);have HO600:=zm (Kd.R_lower (Kd.R_new' ho24 (Kd.R_lt (yr HO597))) (zE yhb));replace HO597:=zm (Kd.R_elder' (yr HO597) (Kd.R_base ho24) hb);replace HB:=ybs hb;clear hb ho24)|((with_reducible refine gate_dst (N:=12) rfl ?_);(try (refine gate_guard (by rfl) ?_;dsimp only));refine Kd.R_lit (Kd.int .i64) _ 3 ?hg (N:=12) ?hd (xs:=([0,0] : List Int)) (inner := [.int .i64 0, .int .i64 0]) (ok:=fun _=>True) (okp:=fun _=>True) ?hr ?hp (fun _ hk=>hk) trivial (Below.refl _ _) (Nat.le_refl _) (by simp) ?_;(case hd=>rfl);(case hg=>rfl);(case hr=>first|(go_simp;done)|(go_simp;rfl));(case hp=>exact (Reps.one (show Kd.M (Kd.int .i64) _ _ _ 0 [.int .i64 0] from rfl) (Reps.one (show Kd.M (Kd.int .i64) _ _ _ 0 [.int .i64 0] from rfl) (Reps.none _ _))));intro v602 w25 ho26 hb hg_ hnew_;clear hg_ hnew_;(first|rw [← Ny601.out] at ho26|(simp only [Int.reduceToNat] at ho26;rw [← Ny601.out] at ho26)|rw [show (List.replicate (Int.toNat 11) (0 : Int))=y601 from Ny601.out.symm] at ho26);replace HO594:=zm (Kd.N_elder' (yr HO594) (Kd.R_base ho26) hb);have HO603:=zm (Kd.R_lower (Kd.R_new' (Kd.R_new' ho26 (Kd.R_lt (yr HO597))) (Kd.R_lt (yr HO600))) (zE yhb));replace HO597:=zm (Kd.R_elder' (yr HO597) (Kd.R_base ho26) hb);replace HO600:=zm (Kd.R_elder' (yr HO600) (Kd.R_base ho26) hb);replace HB:=ybs hb;clear hb ho26)|((with_reducible refine gate_dst (N:=13) rfl ?_);(try (refine gate_guard (by rfl) ?_;dsimp only));refine Kd.R_lit (Kd.int .i64) _ 3 ?hg (N:=13) ?hd (xs:=([0,0,0,0] : List Int)) (inner := [.int .i64 0, .int .i64 0, .int .i64 0, .int .i64 0]) (ok:=fun _=>True) (okp:=fun _=>True) ?hr ?hp (fun _ hk=>hk) trivial (Below.refl _ _) (Nat.le_refl _) (by simp) ?_;(case hd=>rfl);(case hg=>rfl);(case hr=>first|(go_simp;done)|(go_simp;rfl));(case hp=>exact (Reps.one (show Kd.M (Kd.int .i64) _ _ _ 0 [.int .i64 0] from rfl) (Reps.one (show Kd.M (Kd.int .i64) _ _ _ 0 [.int .i64 0] from rfl) (Reps.one (show Kd.M (Kd.int .i64) _ _ _ 0 [.int .i64 0] from rfl) (Reps.one (show Kd.M (Kd.int .i64) _ _ _ 0 [.int .i64 0] from rfl) (Reps.none _ _))))));intro v605 w27 ho28 hb hg_ hnew_;clear hg_ hnew_;(first|rw [← Ny604.out] at ho28|(simp only [Int.reduceToNat] at ho28;rw [← Ny604.out] at ho28)|rw [show (List.replicate (Int.toNat 11) (0 : Int))=y604 from Ny604.out.symm] at ho28);replace HO594:=zm (Kd.N_elder' (yr HO594) (Kd.R_base ho28) hb);have HO606:=zm (Kd.R_lower (Kd.R_new' (Kd.R_new' (Kd.R_new' ho28 (Kd.R_lt (yr HO597))) (Kd.R_lt (yr HO600))) (Kd.R_lt (yr HO603))) (zE yhb));replace HO597:=zm (Kd.R_elder' (yr HO597) (Kd.R_base ho28) hb);replace HO600:=zm (Kd.R_elder' (yr HO600) (Kd.R_base ho28) hb);replace HO603:=zm (Kd.R_elder' (yr HO603) (Kd.R_base ho28) hb);replace HB:=ybs hb;clear hb ho28)|((with_reducible refine gate_dst (N:=14) rfl ?_);(try (refine gate_guard (by rfl) ?_;dsimp only));refine Kd.R_lit (Kd.int .i64) _ 3 ?hg (N:=14) ?hd (xs:=([0,0,0,0,0,0,0,0] : List Int)) (inner := [.int .i64 0, .int .i64 0, .int .i64 0, .int .i64 0, .int .i64 0, .int .i64 0, .int .i64 0, .int .i64 0]) (ok:=fun _=>True) (okp:=fun _=>True) ?hr ?hp (fun _ hk=>hk) trivial (Below.refl _ _) (Nat.le_refl _) (by simp) ?_;(case hd=>rfl);(case hg=>rfl);(case hr=>first|(go_simp;done)|(go_simp;rfl));(case hp=>exact (Reps.one (show Kd.M (Kd.int .i64) _ _ _ 0 [.int .i64 0] from rfl) (Reps.one (show Kd.M (Kd.int .i64) _ _ _ 0 [.int .i64 0] from rfl) (Reps.one (show Kd.M (Kd.int .i64) _ _ _ 0 [.int .i64 0] from rfl) (Reps.one (show Kd.M (Kd.int .i64) _ _ _ 0 [.int .i64 0] from rfl) (Reps.one (show Kd.M (Kd.int .i64) _ _ _ 0 [.int .i64 0] from rfl) (Reps.one (show Kd.M (Kd.int .i64) _ _ _ 0 [.int .i64 0] from rfl) (Reps.one (show Kd.M (Kd.int .i64) _ _ _ 0 [.int .i64 0] from rfl) (Reps.one (show Kd.M (Kd.int .i64) _ _ _ 0 [.int .i64 0] from rfl) (Reps.none _ _))))))))));intro v608 w29 ho30 hb hg_ hnew_;clear hg_ hnew_;(first|rw [← Ny607.out] at ho30|(simp only [Int.reduceToNat] at ho30;rw [← Ny607.out] at ho30)|rw [show (List.replicate (Int.toNat 11) (0 : Int))=y607 from Ny607.out.symm] at ho30);replace HO594:=zm (Kd.N_elder' (yr HO594) (Kd.R_base ho30) hb);have HO609:=zm (Kd.R_lower (Kd.R_new' (Kd.R_new' (Kd.R_new' (Kd.R_new' ho30 (Kd.R_lt (yr HO597))) (Kd.R_lt (yr HO600))) (Kd.R_lt (yr HO603))) (Kd.R_lt (yr HO606))) (zE yhb));replace HO597:=zm (Kd.R_elder' (yr HO597) (Kd.R_base ho30) hb);replace HO600:=zm (Kd.R_elder' (yr HO600) (Kd.R_base ho30) hb);replace HO603:=zm (Kd.R_elder' (yr HO603) (Kd.R_base ho30) hb);replace HO606:=zm (Kd.R_elder' (yr HO606) (Kd.R_base ho30) hb);replace HB:=ybs hb;clear hb ho30;obtain ⟨Ao31,co31,eo31⟩:=Kd.R_slice HO597.out;subst eo31;obtain ⟨Ao32,co32,eo32⟩:=Kd.R_slice HO600.out;subst eo32;obtain ⟨Ao33,co33,eo33⟩:=Kd.R_slice HO603.out;subst eo33;obtain ⟨Ao34,co34,eo34⟩:=Kd.R_slice HO606.out;subst eo34;obtain ⟨Ao35,co35,eo35⟩:=Kd.R_slice HO609.out;subst eo35)|((with_reducible refine gate_dst (N:=15) rfl ?_);(try (refine gate_guard (by rfl) ?_;dsimp only));refine Kd.N_lit (Kd.slice 3 (Kd.int .i64)) _ 49 ?hg (N' := 15) ?hd (xs:=([y595,y598,y601,y604,y607] : List (List Int))) (inner := [.slice Ao31 y595.length co31, .slice Ao32 y598.length co32, .slice Ao33 y601.length co33, .slice Ao34 y604.length co34, .slice Ao35 y607.length co35]) (ok:=(fun k_=>some k_≠(v593 : Value).ownBlock)) (okp:=(fun k_=>some k_≠(v593 : Value).ownBlock)) ?hr ?hp (fun _ hk=>hk) ((show ∀ k_,w29.heap.size≤k_→(fun k_=>some k_≠(v593 : Value).ownBlock) k_ from fun k_ hk=>Kd.fresh' (Kd.N_lt (yr HO594)) k_ hk) _ (Nat.le_refl _)) (Below.refl _ _) (Nat.le_refl _) (by simp) ?_;(case hd=>rfl);(case hg=>rfl);(case hr=>first|(go_simp;done)|(go_simp;rfl));(case hp=>exact (Reps.one (show Kd.FK (Kd.slice 3 (Kd.int .i64)) _ _ y595 [.slice Ao31 y595.length co31] from (Kd.FK_slice_mk (Kd.R_reads' (zG (ok' := (fun k_=>some k_≠(v593 : Value).ownBlock)) (Kd.R_apart' (HO597.out) (Kd.N_typed HO594.out) (by decide)) (fun k_ hk=>hk.2))).2.1 (Kd.R_F (zG (ok' := (fun k_=>some k_≠(v593 : Value).ownBlock)) (Kd.R_apart' (HO597.out) (Kd.N_typed HO594.out) (by decide)) (fun k_ hk=>hk.2))))) (Reps.one (show Kd.FK (Kd.slice 3 (Kd.int .i64)) _ _ y598 [.slice Ao32 y598.length co32] from (Kd.FK_slice_mk (Kd.R_reads' (zG (ok' := (fun k_=>some k_≠(v593 : Value).ownBlock)) (Kd.R_apart' (HO600.out) (Kd.N_typed HO594.out) (by decide)) (fun k_ hk=>hk.2))).2.1 (Kd.R_F (zG (ok' := (fun k_=>some k_≠(v593 : Value).ownBlock)) (Kd.R_apart' (HO600.out) (Kd.N_typed HO594.out) (by decide)) (fun k_ hk=>hk.2))))) (Reps.one (show Kd.FK (Kd.slice 3 (Kd.int .i64)) _ _ y601 [.slice Ao33 y601.length co33] from (Kd.FK_slice_mk (Kd.R_reads' (zG (ok' := (fun k_=>some k_≠(v593 : Value).ownBlock)) (Kd.R_apart' (HO603.out) (Kd.N_typed HO594.out) (by decide)) (fun k_ hk=>hk.2))).2.1 (Kd.R_F (zG (ok' := (fun k_=>some k_≠(v593 : Value).ownBlock)) (Kd.R_apart' (HO603.out) (Kd.N_typed HO594.out) (by decide)) (fun k_ hk=>hk.2))))) (Reps.one (show Kd.FK (Kd.slice 3 (Kd.int .i64)) _ _ y604 [.slice Ao34 y604.length co34] from (Kd.FK_slice_mk (Kd.R_reads' (zG (ok' := (fun k_=>some k_≠(v593 : Value).ownBlock)) (Kd.R_apart' (HO606.out) (Kd.N_typed HO594.out) (by decide)) (fun k_ hk=>hk.2))).2.1 (Kd.R_F (zG (ok' := (fun k_=>some k_≠(v593 : Value).ownBlock)) (Kd.R_apart' (HO606.out) (Kd.N_typed HO594.out) (by decide)) (fun k_ hk=>hk.2))))) (Reps.one (show Kd.FK (Kd.slice 3 (Kd.int .i64)) _ _ y607 [.slice Ao35 y607.length co35] from (Kd.FK_slice_mk (Kd.R_reads' (zG (ok' := (fun k_=>some k_≠(v593 : Value).ownBlock)) (Kd.R_apart' (HO609.out) (Kd.N_typed HO594.out) (by decide)) (fun k_ hk=>hk.2))).2.1 (Kd.R_F (zG (ok' := (fun k_=>some k_≠(v593 : Value).ownBlock)) (Kd.R_apart' (HO609.out) (Kd.N_typed HO594.out) (by decide)) (fun k_ hk=>hk.2))))) (Reps.none _ _)))))));intro v611 w36 ho37 hb hg_ hnew_;clear hg_ hnew_;(first|rw [← Ny610.out] at ho37|(simp only [Int.reduceToNat] at ho37;rw [← Ny610.out] at ho37)|rw [show (List.replicate (Int.toNat 11) (0 : Int))=y610 from Ny610.out.symm] at ho37);replace HO594:=zm (Kd.N_elder' (yr HO594) (Kd.N_base ho37) hb);have HO612:=zm (Kd.N_lower ho37 (zE yhb));replace HB:=ybs hb;clear HO597;clear HO600;clear HO603;clear HO606;clear HO609;clear hb ho37;obtain ⟨Ao38,co38,eo38⟩:=Kd.N_slice HO612.out;subst eo38)|((with_reducible refine gate_dst (N:=16) rfl ?_);(try (refine gate_guard (by rfl) ?_;dsimp only));refine Kd.N_lit (Kd.slice 49 (Kd.slice 3 (Kd.int .i64))) _ 22 ?hg (N' := 16) ?hd (xs:=([y610] : List (List (List Int)))) (inner := [.slice Ao38 y610.length co38]) (ok:=(fun k_=>some k_≠(v593 : Value).ownBlock)) (okp:=(fun k_=>some k_≠(v593 : Value).ownBlock)) ?hr ?hp (fun _ hk=>hk) ((show ∀ k_,w36.heap.size≤k_→(fun k_=>some k_≠(v593 : Value).ownBlock) k_ from fun k_ hk=>Kd.fresh' (Kd.N_lt (yr HO594)) k_ hk) _ (Nat.le_refl _)) (Below.refl _ _) (Nat.le_refl _) (by simp) ?_;(case hd=>rfl);(case hg=>rfl);(case hr=>first|(go_simp;done)|(go_simp;rfl));(case hp=>exact (Reps.one (show Kd.FK (Kd.slice 49 (Kd.slice 3 (Kd.int .i64))) _ _ y610 [.slice Ao38 y610.length co38] from (Kd.FK_slice_mk (Kd.N_reads' (Kd.N_mono (ok' := (fun k_=>some k_≠(v593 : Value).ownBlock)) (HO612.out) (fun k_ hk=>hk))).2.1 (Kd.N_F (Kd.N_mono (ok' := (fun k_=>some k_≠(v593 : Value).ownBlock)) (HO612.out) (fun k_ hk=>hk))))) (Reps.none _ _)));intro v614 w39 ho40 hb hg_ hnew_;clear hg_ hnew_;(first|rw [← Ny613.out] at ho40|(simp only [Int.reduceToNat] at ho40;rw [← Ny613.out] at ho40)|rw [show (List.replicate (Int.toNat 11) (0 : Int))=y613 from Ny613.out.symm] at ho40);replace HO594:=zm (Kd.N_elder' (yr HO594) (Kd.N_base ho40) hb);have HO615:=zm (Kd.N_lower ho40 (zE yhb));replace HB:=ybs hb;clear HO612;clear hb ho40;obtain ⟨Ao41,co41,eo41⟩:=Kd.N_slice HO615.out;subst eo41;obtain ⟨Ao42,co42,eo42⟩:=Kd.N_slice HO594.out;subst eo42)|((with_reducible refine gate_dst (N:=1) rfl ?_);(try (refine gate_guard (by rfl) ?_;dsimp only));refine ybx 1 #[.bool false, .slice none 0 0, .slice none 0 0] 25 ?_;intro gb616 hg w43 hbox hb;replace HO594:=zm (Kd.N_below (Kd.N_elderB (yr HO594) gb616 (Nat.le_of_eq hg.symm)) hb);replace HO615:=zm (Kd.N_below (Kd.N_elderB (yr HO615) gb616 (Nat.le_of_eq hg.symm)) hb);have BK616:=zm (hbox);have GW616:=ygw hg;have GE616:=ygw hg;replace HB:=ybs hb;clear hb hbox hg;obtain ⟨_,_,_,_,_,_⟩:=yc3 BK616)|((with_reducible refine gate_callee (f:=12) rfl ?_);refine ygl 20 Try.func12 #[.int .i64 11, .int .i64 1, .agg #[.bool true, .slice Ao42 y592.length co42, .slice Ao41 y613.length co41], .slice none 0 0] ?_;(refine (cpack_Write.calls k 11 1 true _ _ y592 _ _ y613 _ _ ([] : List (List Int)) t617 t620 _ ?side1 ?side2 ?side3 ?side4 ?side5 ?side6 A1.out).mono ?_);(case side1=>refine (Kd.N_reads' (e:=49) (base:=w.heap.size) (ok:=fun k_=>(some k_≠(.slice Ao41 y613.length co41 : Value).ownBlock∧k_≠gb616)) (n:=y592.length) (c:=co42) ?_).2.2;refine' Kd.N_mono ?own_ ?hk_;(case own_=>exact (yN0 HO594));(case hk_=>exact fun k_ hk_=>⟨hk_.1.2,hk_.2⟩));(case side2=>exact (Kd.N_reads' HO594.out).2.1);(case side3=>refine (Kd.N_reads' (e:=22) (base:=w.heap.size) (ok:=fun k_=>(some k_≠(.slice Ao42 y592.length co42 : Value).ownBlock∧k_≠gb616)) (n:=y613.length) (c:=co41) ?_).2.2;exact (yN0 HO615));(case side4=>exact (Kd.N_reads' HO615.out).2.1);(case side5=>exact Kd.C_nil _ _);(case side6=>exact Nat.le_refl _);rintro e w45 ⟨v618,rfl,ho0,hb⟩;refine ⟨_,rfl, ?_⟩;replace HO594:=zm (Kd.N_elder' (yN0 HO594) (Kd.R_base ho0) hb);replace HO615:=zm (Kd.N_elder' (yN0 HO615) (Kd.R_base ho0) hb);have HO619:=zm (Kd.R_lower ho0 (zE yhb));replace BK616:=zm (zF (g:=gb616) (o:=.cells #[.bool true, .slice Ao42 y592.length co42, .slice Ao41 y613.length co41] 25 (0,0)) (ykp BK616) hb);replace HB:=ybs hb;(try clear hb);(try clear ho0);obtain ⟨Ao46,co46,eo46⟩:=Kd.R_slice HO619.out;subst eo46)|((with_reducible refine gate_callee (f:=20) rfl ?_);refine ygl 25 Try.func20 #[.int .i64 11, .int .i64 1, .slice Ao46 t617.length co46, .slice none 0 0] ?_;(refine (cpack_Read.calls k 11 1 _ _ t617 _ _ ([] : List (List Int)) t621 t622 t625 t628 _ ?side1 ?side2 ?side3 ?side4 A2.out).mono ?_);(case side1=>exact yce (Kd.R_reads' HO619.out).2.2);(case side2=>exact (Kd.R_reads' HO619.out).2.1);(case side3=>exact Kd.C_nil _ _);(case side4=>exact Nat.le_refl _);rintro e w47 ⟨v623,v626,rfl,ho0,ho1,hb⟩;refine ⟨_,rfl, ?_⟩;have HO624:=zm (Kd.N_lower (Kd.N_mono (ok' := fun k_=>some k_≠(v626 : Value).ownBlock∧some k_≠(.slice Ao42 y592.length co42 : Value).ownBlock∧some k_≠(.slice Ao41 y613.length co41 : Value).ownBlock∧some k_≠(.slice Ao46 t617.length co46 : Value).ownBlock∧k_≠gb616) (Kd.S_N (Kd.S_bound (Kd.S_apart' ho0 (Kd.R_typed ho1) (by decide)))) (fun k_ hk_=>⟨hk_.1.2,(Kd.fresh' (Kd.N_lt (yr HO594)) k_ hk_.2.1),(Kd.fresh' (Kd.N_lt (yr HO615)) k_ hk_.2.1),(Kd.fresh' (Kd.R_lt (yr HO619)) k_ hk_.2.1),(Kd.freshB (yk BK616) k_ hk_.2.1)⟩)) (zE yhb));have HO627:=zm (Kd.N_lower (Kd.N_mono (ok' := fun k_=>some k_≠(v623 : Value).ownBlock∧some k_≠(.slice Ao42 y592.length co42 : Value).ownBlock∧some k_≠(.slice Ao41 y613.length co41 : Value).ownBlock∧some k_≠(.slice Ao46 t617.length co46 : Value).ownBlock∧k_≠gb616) (Kd.R_N (Kd.R_bound ho1)) (fun k_ hk_=>⟨hk_.1,(Kd.fresh' (Kd.N_lt (yr HO594)) k_ hk_.2.1),(Kd.fresh' (Kd.N_lt (yr HO615)) k_ hk_.2.1),(Kd.fresh' (Kd.R_lt (yr HO619)) k_ hk_.2.1),(Kd.freshB (yk BK616) k_ hk_.2.1)⟩)) (zE yhb));replace HO594:=zm (Kd.N_mono (Kd.N_told (Kd.N_told (Kd.N_old (yr HO594) hb) (Kd.S_base ho0)) (Kd.R_base ho1)) (fun _ h_=>h_.1));replace HO615:=zm (Kd.N_mono (Kd.N_told (Kd.N_told (Kd.N_old (yr HO615) hb) (Kd.S_base ho0)) (Kd.R_base ho1)) (fun _ h_=>h_.1));replace HO619:=yRb HO619 hb;replace BK616:=ybb BK616 hb;replace HB:=ybs hb;(try clear hb);(try clear ho0);(try clear ho1))|((with_reducible refine gate_dst (N:=4) rfl ?_);(try (refine gate_guard (by rfl) ?_;dsimp only));refine ybx 4 #[.bool false, .slice none 0 0, .slice none 0 0] 25 ?_;intro gb629 hg w48 hbox hb;replace HO594:=zm (Kd.N_below (Kd.N_elderB (yr HO594) gb629 (Nat.le_of_eq hg.symm)) hb);replace HO615:=zm (Kd.N_below (Kd.N_elderB (yr HO615) gb629 (Nat.le_of_eq hg.symm)) hb);replace HO619:=yRb HO619 hb;replace HO624:=zm (Kd.N_below (Kd.N_elderB (yr HO624) gb629 (Nat.le_of_eq hg.symm)) hb);replace HO627:=zm (Kd.N_below (Kd.N_elderB (yr HO627) gb629 (Nat.le_of_eq hg.symm)) hb);have BK629:=zm (hbox);have GW629:=ygw hg;have GE629:=ygw hg;replace HB:=ybs hb;have NB616_629:=ynl BK616 hg;have NB629_616:=yng BK616 hg;replace BK616:=ybb BK616 hb;clear hb hbox hg;have:=NB629_616.out;have:=NB616_629.out;obtain ⟨_,_,_,_,_,_⟩:=yc3 BK629;obtain ⟨Ao51,co51,eo51⟩:=Kd.N_slice HO624.out;subst eo51;obtain ⟨Ao52,co52,eo52⟩:=Kd.N_slice HO627.out;subst eo52)|((with_reducible refine gate_dst (N:=29) rfl ?_);(try (refine gate_guard (by rfl) ?_;dsimp only));refine Kd.R_make (Kd.int .u8) _ 5 rfl (N:=29) rfl 28 _ _ rfl 11 rfl rfl Try.underlying28 (.int .u8 0) 1 info5 rfl (by decide) (by omega) 0 (ok:=fun _=>True) (okp:=fun _=>True) rfl (fun _ hk=>hk) trivial (by omega) (by omega) (Below.refl _ _) (Nat.le_refl _) ?_;intro v631 w53 ho54 hb hg_ hnew_;clear hg_ hnew_;(first|rw [← Ny630.out] at ho54|(simp only [Int.reduceToNat] at ho54;rw [← Ny630.out] at ho54)|rw [show (List.replicate (Int.toNat 11) (0 : Int))=y630 from Ny630.out.symm] at ho54);replace HO594:=zm (Kd.N_elder' (yN0 HO594) (Kd.R_base ho54) hb);replace HO615:=zm (Kd.N_elder' (yN0 HO615) (Kd.R_base ho54) hb);replace HO624:=zm (Kd.N_elder' (yN0 HO624) (Kd.R_base ho54) hb);replace HO627:=zm (Kd.N_elder' (yN0 HO627) (Kd.R_base ho54) hb);have HO632:=zm (Kd.R_lower (Kd.R_new' ho54 (Kd.R_lt (yR1 HO619 BK629))) (zE yhb));replace HO619:=zm (Kd.R_elder' (yR1 HO619 BK629) (Kd.R_base ho54) hb);replace BK616:=ybb BK616 hb;replace BK629:=zm (zF (g:=gb629) (o:=.cells #[.bool t621, .slice Ao51 t622.length co51, .slice Ao52 t625.length co52] 25 (0,0)) (ykp BK629) hb);replace HB:=ybs hb;clear hb ho54)|((with_reducible refine gate_dst (N:=30) rfl ?_);(try (refine gate_guard (by rfl) ?_;dsimp only));refine Kd.R_lit (Kd.int .i64) _ 3 ?hg (N:=30) ?hd (xs:=([9,2,3,4,5] : List Int)) (inner := [.int .i64 9, .int .i64 2, .int .i64 3, .int .i64 4, .int .i64 5]) (ok:=fun _=>True) (okp:=fun _=>True) ?hr ?hp (fun _ hk=>hk) trivial (Below.refl _ _) (Nat.le_refl _) (by simp) ?_;(case hd=>rfl);(case hg=>rfl);(case hr=>first|(go_simp;done)|(go_simp;rfl));(case hp=>exact (Reps.one (show Kd.M (Kd.int .i64) _ _ _ 9 [.int .i64 9] from rfl) (Reps.one (show Kd.M (Kd.int .i64) _ _ _ 2 [.int .i64 2] from rfl) (Reps.one (show Kd.M (Kd.int .i64) _ _ _ 3 [.int .i64 3] from rfl) (Reps.one (show Kd.M (Kd.int .i64) _ _ _ 4 [.int .i64 4] from rfl) (Reps.one (show Kd.M (Kd.int .i64) _ _ _ 5 [.int .i64 5] from rfl) (Reps.none _ _)))))));intro v634 w55 ho56 hb hg_ hnew_;clear hg_ hnew_;(first|rw [← Ny633.out] at ho56|(simp only [Int.reduceToNat] at ho56;rw [← Ny633.out] at ho56)|rw [show (List.replicate (Int.toNat 11) (0 : Int))=y633 from Ny633.out.symm] at ho56);replace HO594:=zm (Kd.N_elder' (yr HO594) (Kd.R_base ho56) hb);replace HO615:=zm (Kd.N_elder' (yr HO615) (Kd.R_base ho56) hb);replace HO619:=yRb HO619 hb;replace HO624:=zm (Kd.N_elder' (yr HO624) (Kd.R_base ho56) hb);replace HO627:=zm (Kd.N_elder' (yr HO627) (Kd.R_base ho56) hb);replace HO632:=yRb HO632 hb;have HO635:=zm (Kd.R_lower ho56 (zE yhb));replace BK616:=ybb BK616 hb;replace BK629:=ybb BK629 hb;replace HB:=ybs hb;clear hb ho56;obtain ⟨Ao57,co57,eo57⟩:=Kd.R_slice HO635.out;subst eo57)|((with_reducible refine gate_dst (N:=31) rfl ?_);(try (refine gate_guard (by rfl) ?_;dsimp only));refine Kd.N_lit (Kd.slice 3 (Kd.int .i64)) _ 49 ?hg (N' := 31) ?hd (xs:=([y633] : List (List Int))) (inner := [.slice Ao57 y633.length co57]) (ok:=(fun k_=>some k_≠(.slice Ao42 y592.length co42 : Value).ownBlock∧some k_≠(.slice Ao41 y613.length co41 : Value).ownBlock∧some k_≠(.slice Ao46 t617.length co46 : Value).ownBlock∧some k_≠(.slice Ao51 t622.length co51 : Value).ownBlock∧some k_≠(.slice Ao52 t625.length co52 : Value).ownBlock∧some k_≠(v631 : Value).ownBlock∧k_≠gb616∧k_≠gb629)) (okp:=(fun k_=>some k_≠(.slice Ao42 y592.length co42 : Value).ownBlock∧some k_≠(.slice Ao41 y613.length co41 : Value).ownBlock∧some k_≠(.slice Ao46 t617.length co46 : Value).ownBlock∧some k_≠(.slice Ao51 t622.length co51 : Value).ownBlock∧some k_≠(.slice Ao52 t625.length co52 : Value).ownBlock∧some k_≠(v631 : Value).ownBlock∧k_≠gb616∧k_≠gb629)) ?hr ?hp (fun _ hk=>hk) ((show ∀ k_,w55.heap.size≤k_→(fun k_=>some k_≠(.slice Ao42 y592.length co42 : Value).ownBlock∧some k_≠(.slice Ao41 y613.length co41 : Value).ownBlock∧some k_≠(.slice Ao46 t617.length co46 : Value).ownBlock∧some k_≠(.slice Ao51 t622.length co51 : Value).ownBlock∧some k_≠(.slice Ao52 t625.length co52 : Value).ownBlock∧some k_≠(v631 : Value).ownBlock∧k_≠gb616∧k_≠gb629) k_ from fun k_ hk=>⟨Kd.fresh' (Kd.N_lt (yr HO594)) k_ hk,Kd.fresh' (Kd.N_lt (yr HO615)) k_ hk,Kd.fresh' (Kd.R_lt (yr HO619)) k_ hk,Kd.fresh' (Kd.N_lt (yr HO624)) k_ hk,Kd.fresh' (Kd.N_lt (yr HO627)) k_ hk,Kd.fresh' (Kd.R_lt (yr HO632)) k_ hk,Kd.freshB (yk BK616) k_ hk,Kd.freshB (yk BK629) k_ hk⟩) _ (Nat.le_refl _)) (Below.refl _ _) (Nat.le_refl _) (by simp) ?_;(case hd=>rfl);(case hg=>rfl);(case hr=>first|(go_simp;done)|(go_simp;rfl));(case hp=>exact (Reps.one (show Kd.FK (Kd.slice 3 (Kd.int .i64)) _ _ y633 [.slice Ao57 y633.length co57] from (Kd.FK_slice_mk (Kd.R_reads' (zG (ok' := (fun k_=>some k_≠(.slice Ao42 y592.length co42 : Value).ownBlock∧some k_≠(.slice Ao41 y613.length co41 : Value).ownBlock∧some k_≠(.slice Ao46 t617.length co46 : Value).ownBlock∧some k_≠(.slice Ao51 t622.length co51 : Value).ownBlock∧some k_≠(.slice Ao52 t625.length co52 : Value).ownBlock∧some k_≠(v631 : Value).ownBlock∧k_≠gb616∧k_≠gb629)) (Kd.R_types (Kd.R_types (Kd.R_apart' (Kd.R_apart' (Kd.R_apart' (Kd.R_apart' (Kd.R_apart' (Kd.R_apart' (HO635.out) (Kd.N_typed HO594.out) (by decide)) (Kd.N_typed HO615.out) (by decide)) (Kd.R_typed HO619.out) (by decide)) (Kd.N_typed HO624.out) (by decide)) (Kd.N_typed HO627.out) (by decide)) (Kd.R_typed HO632.out) (by decide)) BK616.out (by decide)) BK629.out (by decide)) (fun k_ hk=>⟨hk.1.1.1.1.1.1.1.2,⟨hk.1.1.1.1.1.1.2,⟨hk.1.1.1.1.1.2,⟨hk.1.1.1.1.2,⟨hk.1.1.1.2,⟨hk.1.1.2,⟨hk.1.2,hk.2⟩⟩⟩⟩⟩⟩⟩))).2.1 (Kd.R_F (zG (ok' := (fun k_=>some k_≠(.slice Ao42 y592.length co42 : Value).ownBlock∧some k_≠(.slice Ao41 y613.length co41 : Value).ownBlock∧some k_≠(.slice Ao46 t617.length co46 : Value).ownBlock∧some k_≠(.slice Ao51 t622.length co51 : Value).ownBlock∧some k_≠(.slice Ao52 t625.length co52 : Value).ownBlock∧some k_≠(v631 : Value).ownBlock∧k_≠gb616∧k_≠gb629)) (Kd.R_types (Kd.R_types (Kd.R_apart' (Kd.R_apart' (Kd.R_apart' (Kd.R_apart' (Kd.R_apart' (Kd.R_apart' (HO635.out) (Kd.N_typed HO594.out) (by decide)) (Kd.N_typed HO615.out) (by decide)) (Kd.R_typed HO619.out) (by decide)) (Kd.N_typed HO624.out) (by decide)) (Kd.N_typed HO627.out) (by decide)) (Kd.R_typed HO632.out) (by decide)) BK616.out (by decide)) BK629.out (by decide)) (fun k_ hk=>⟨hk.1.1.1.1.1.1.1.2,⟨hk.1.1.1.1.1.1.2,⟨hk.1.1.1.1.1.2,⟨hk.1.1.1.1.2,⟨hk.1.1.1.2,⟨hk.1.1.2,⟨hk.1.2,hk.2⟩⟩⟩⟩⟩⟩⟩))))) (Reps.none _ _)));intro v637 w58 ho59 hb hg_ hnew_;clear hg_ hnew_;(first|rw [← Ny636.out] at ho59|(simp only [Int.reduceToNat] at ho59;rw [← Ny636.out] at ho59)|rw [show (List.replicate (Int.toNat 11) (0 : Int))=y636 from Ny636.out.symm] at ho59);replace HO594:=zm (Kd.N_elder' (yr HO594) (Kd.N_base ho59) hb);replace HO615:=zm (Kd.N_elder' (yr HO615) (Kd.N_base ho59) hb);replace HO619:=yRb HO619 hb;replace HO624:=zm (Kd.N_elder' (yr HO624) (Kd.N_base ho59) hb);replace HO627:=zm (Kd.N_elder' (yr HO627) (Kd.N_base ho59) hb);replace HO632:=yRb HO632 hb;have HO638:=zm (Kd.N_lower ho59 (zE yhb));replace BK616:=ybb BK616 hb;replace BK629:=ybb BK629 hb;replace HB:=ybs hb;clear HO635;clear hb ho59;obtain ⟨Ao60,co60,eo60⟩:=Kd.R_slice HO632.out;subst eo60;obtain ⟨Ao61,co61,eo61⟩:=Kd.N_slice HO638.out;subst eo61)|((with_reducible refine gate_callee (f:=20) rfl ?_);refine ygl 32 Try.func20 #[.int .i64 11, .int .i64 1, .slice Ao60 y630.length co60, .slice Ao61 y636.length co61] ?_;(with_reducible refine (cpack_Read.calls k 11 1 _ _ y630 _ _ y636 false t640 t643 t646 _ ?side1 ?side2 ?side3 ?side4 A3.out).mono ?_);(case side1=>exact yce (Kd.R_reads' HO632.out).2.2);(case side2=>exact (Kd.R_reads' HO632.out).2.1);(case side3=>exact yce (Kd.N_reads' HO638.out).2.2);(case side4=>exact (Kd.N_reads' HO638.out).2.1);rintro e w62 ⟨v641,v644,rfl,ho0,ho1,hb⟩;refine ⟨_,rfl, ?_⟩;have HO642:=zm (Kd.N_lower (Kd.N_mono (ok' := fun k_=>some k_≠(v644 : Value).ownBlock∧some k_≠(.slice Ao42 y592.length co42 : Value).ownBlock∧some k_≠(.slice Ao41 y613.length co41 : Value).ownBlock∧some k_≠(.slice Ao46 t617.length co46 : Value).ownBlock∧some k_≠(.slice Ao51 t622.length co51 : Value).ownBlock∧some k_≠(.slice Ao52 t625.length co52 : Value).ownBlock∧some k_≠(.slice Ao60 y630.length co60 : Value).ownBlock∧some k_≠(.slice Ao61 y636.length co61 : Value).ownBlock∧k_≠gb616∧k_≠gb629) (Kd.S_N (Kd.S_bound (Kd.S_apart' ho0 (Kd.R_typed ho1) (by decide)))) (fun k_ hk_=>⟨hk_.1.2,(Kd.fresh' (Kd.N_lt (yr HO594)) k_ hk_.2.1),(Kd.fresh' (Kd.N_lt (yr HO615)) k_ hk_.2.1),(Kd.fresh' (Kd.R_lt (yr HO619)) k_ hk_.2.1),(Kd.fresh' (Kd.N_lt (yr HO624)) k_ hk_.2.1),(Kd.fresh' (Kd.N_lt (yr HO627)) k_ hk_.2.1),(Kd.fresh' (Kd.R_lt (yr HO632)) k_ hk_.2.1),(Kd.fresh' (Kd.N_lt (yr HO638)) k_ hk_.2.1),(Kd.freshB (yk BK616) k_ hk_.2.1),(Kd.freshB (yk BK629) k_ hk_.2.1)⟩)) (zE yhb));have HO645:=zm (Kd.N_lower (Kd.N_mono (ok' := fun k_=>some k_≠(v641 : Value).ownBlock∧some k_≠(.slice Ao42 y592.length co42 : Value).ownBlock∧some k_≠(.slice Ao41 y613.length co41 : Value).ownBlock∧some k_≠(.slice Ao46 t617.length co46 : Value).ownBlock∧some k_≠(.slice Ao51 t622.length co51 : Value).ownBlock∧some k_≠(.slice Ao52 t625.length co52 : Value).ownBlock∧some k_≠(.slice Ao60 y630.length co60 : Value).ownBlock∧some k_≠(.slice Ao61 y636.length co61 : Value).ownBlock∧k_≠gb616∧k_≠gb629) (Kd.R_N (Kd.R_bound ho1)) (fun k_ hk_=>⟨hk_.1,(Kd.fresh' (Kd.N_lt (yr HO594)) k_ hk_.2.1),(Kd.fresh' (Kd.N_lt (yr HO615)) k_ hk_.2.1),(Kd.fresh' (Kd.R_lt (yr HO619)) k_ hk_.2.1),(Kd.fresh' (Kd.N_lt (yr HO624)) k_ hk_.2.1),(Kd.fresh' (Kd.N_lt (yr HO627)) k_ hk_.2.1),(Kd.fresh' (Kd.R_lt (yr HO632)) k_ hk_.2.1),(Kd.fresh' (Kd.N_lt (yr HO638)) k_ hk_.2.1),(Kd.freshB (yk BK616) k_ hk_.2.1),(Kd.freshB (yk BK629) k_ hk_.2.1)⟩)) (zE yhb));replace HO594:=zm (Kd.N_mono (Kd.N_told (Kd.N_told (Kd.N_old (yr HO594) hb) (Kd.S_base ho0)) (Kd.R_base ho1)) (fun _ h_=>h_.1));replace HO615:=zm (Kd.N_mono (Kd.N_told (Kd.N_told (Kd.N_old (yr HO615) hb) (Kd.S_base ho0)) (Kd.R_base ho1)) (fun _ h_=>h_.1));replace HO619:=yRb HO619 hb;replace HO624:=zm (Kd.N_mono (Kd.N_told (Kd.N_told (Kd.N_old (yr HO624) hb) (Kd.S_base ho0)) (Kd.R_base ho1)) (fun _ h_=>h_.1));replace HO627:=zm (Kd.N_mono (Kd.N_told (Kd.N_told (Kd.N_old (yr HO627) hb) (Kd.S_base ho0)) (Kd.R_base ho1)) (fun _ h_=>h_.1));replace HO632:=yRb HO632 hb;replace HO638:=zm (Kd.N_mono (Kd.N_told (Kd.N_told (Kd.N_old (yr HO638) hb) (Kd.S_base ho0)) (Kd.R_base ho1)) (fun _ h_=>h_.1));replace BK616:=ybb BK616 hb;replace BK629:=ybb BK629 hb;replace HB:=ybs hb;(try clear hb);(try clear ho0);(try clear ho1))|((with_reducible refine gate_dst (N:=6) rfl ?_);(try (refine gate_guard (by rfl) ?_;dsimp only));refine ybx 6 #[.bool false, .slice none 0 0, .slice none 0 0] 25 ?_;intro gb647 hg w63 hbox hb;replace HO594:=zm (Kd.N_below (Kd.N_elderB (yr HO594) gb647 (Nat.le_of_eq hg.symm)) hb);replace HO615:=zm (Kd.N_below (Kd.N_elderB (yr HO615) gb647 (Nat.le_of_eq hg.symm)) hb);replace HO619:=yRb HO619 hb;replace HO624:=zm (Kd.N_below (Kd.N_elderB (yr HO624) gb647 (Nat.le_of_eq hg.symm)) hb);replace HO627:=zm (Kd.N_below (Kd.N_elderB (yr HO627) gb647 (Nat.le_of_eq hg.symm)) hb);replace HO632:=yRb HO632 hb;replace HO638:=zm (Kd.N_below (Kd.N_elderB (yr HO638) gb647 (Nat.le_of_eq hg.symm)) hb);replace HO642:=zm (Kd.N_below (Kd.N_elderB (yr HO642) gb647 (Nat.le_of_eq hg.symm)) hb);replace HO645:=zm (Kd.N_below (Kd.N_elderB (yr HO645) gb647 (Nat.le_of_eq hg.symm)) hb);have BK647:=zm (hbox);have GW647:=ygw hg;have GE647:=ygw hg;replace HB:=ybs hb;have NB616_647:=ynl BK616 hg;have NB647_616:=yng BK616 hg;replace BK616:=ybb BK616 hb;have NB629_647:=ynl BK629 hg;have NB647_629:=yng BK629 hg;replace BK629:=ybb BK629 hb;clear hb hbox hg;have:=NB647_616.out;have:=NB616_647.out;have:=NB647_629.out;have:=NB629_647.out;obtain ⟨_,_,_,_,_,_⟩:=yc3 BK647;obtain ⟨Ao67,co67,eo67⟩:=Kd.N_slice HO642.out;subst eo67;obtain ⟨Ao68,co68,eo68⟩:=Kd.N_slice HO645.out;subst eo68))
     obtain ⟨w69,hw_⟩ : ∃ x,x=(((w63.setCell ⟨gb647,0,none⟩ (.bool false)).setCell ⟨gb647,1,none⟩ (.slice Ao67 t640.length co67)).setCell ⟨gb647,2,none⟩ (.slice Ao68 t643.length co68)):=⟨_,rfl⟩
     rw [← hw_]
     replace HO594 : Aside0 (Kd.N (Kd.slice 3 (Kd.int .i64)) 49 w69 w.heap.size (fun k_=>some k_≠(.slice Ao41 y613.length co41 : Value).ownBlock∧some k_≠(.slice Ao46 t617.length co46 : Value).ownBlock∧some k_≠(.slice Ao51 t622.length co51 : Value).ownBlock∧some k_≠(.slice Ao52 t625.length co52 : Value).ownBlock∧some k_≠(.slice Ao60 y630.length co60 : Value).ownBlock∧some k_≠(.slice Ao61 y636.length co61 : Value).ownBlock∧some k_≠(.slice Ao67 t640.length co67 : Value).ownBlock∧some k_≠(.slice Ao68 t643.length co68 : Value).ownBlock∧k_≠gb616∧k_≠gb629∧k_≠gb647) (.slice Ao42 y592.length co42) y592):=⟨by rw [hw_];exact (yN0 HO594)⟩
     replace HO615 : Aside0 (Kd.N (Kd.slice 49 (Kd.slice 3 (Kd.int .i64))) 22 w69 w.heap.size (fun k_=>some k_≠(.slice Ao42 y592.length co42 : Value).ownBlock∧some k_≠(.slice Ao46 t617.length co46 : Value).ownBlock∧some k_≠(.slice Ao51 t622.length co51 : Value).ownBlock∧some k_≠(.slice Ao52 t625.length co52 : Value).ownBlock∧some k_≠(.slice Ao60 y630.length co60 : Value).ownBlock∧some k_≠(.slice Ao61 y636.length co61 : Value).ownBlock∧some k_≠(.slice Ao67 t640.length co67 : Value).ownBlock∧some k_≠(.slice Ao68 t643.length co68 : Value).ownBlock∧k_≠gb616∧k_≠gb629∧k_≠gb647) (.slice Ao41 y613.length co41) y613):=⟨by rw [hw_];exact (yN0 HO615)⟩
     replace HO619 : Aside0 (Kd.R (Kd.int .u8) 5 w69 w.heap.size (fun k_=>some k_≠(.slice Ao60 y630.length co60 : Value).ownBlock) (.slice Ao46 t617.length co46) t617):=⟨by rw [hw_];exact (yR1 HO619 BK647)⟩
     replace HO624 : Aside0 (Kd.N (Kd.slice 3 (Kd.int .i64)) 49 w69 w.heap.size (fun k_=>some k_≠(.slice Ao42 y592.length co42 : Value).ownBlock∧some k_≠(.slice Ao41 y613.length co41 : Value).ownBlock∧some k_≠(.slice Ao46 t617.length co46 : Value).ownBlock∧some k_≠(.slice Ao52 t625.length co52 : Value).ownBlock∧some k_≠(.slice Ao60 y630.length co60 : Value).ownBlock∧some k_≠(.slice Ao61 y636.length co61 : Value).ownBlock∧some k_≠(.slice Ao67 t640.length co67 : Value).ownBlock∧some k_≠(.slice Ao68 t643.length co68 : Value).ownBlock∧k_≠gb616∧k_≠gb629∧k_≠gb647) (.slice Ao51 t622.length co51) t622):=⟨by rw [hw_];exact (yN0 HO624)⟩
     replace HO627 : Aside0 (Kd.N (Kd.slice 49 (Kd.slice 3 (Kd.int .i64))) 22 w69 w.heap.size (fun k_=>some k_≠(.slice Ao42 y592.length co42 : Value).ownBlock∧some k_≠(.slice Ao41 y613.length co41 : Value).ownBlock∧some k_≠(.slice Ao46 t617.length co46 : Value).ownBlock∧some k_≠(.slice Ao51 t622.length co51 : Value).ownBlock∧some k_≠(.slice Ao60 y630.length co60 : Value).ownBlock∧some k_≠(.slice Ao61 y636.length co61 : Value).ownBlock∧some k_≠(.slice Ao67 t640.length co67 : Value).ownBlock∧some k_≠(.slice Ao68 t643.length co68 : Value).ownBlock∧k_≠gb616∧k_≠gb629∧k_≠gb647) (.slice Ao52 t625.length co52) t625):=⟨by rw [hw_];exact (yN0 HO627)⟩
     replace HO632 : Aside0 (Kd.R (Kd.int .u8) 5 w69 w.heap.size (fun k_=>some k_≠(.slice Ao46 t617.length co46 : Value).ownBlock) (.slice Ao60 y630.length co60) y630):=⟨by rw [hw_];exact (yR1 HO632 BK647)⟩
     replace HO638 : Aside0 (Kd.N (Kd.slice 3 (Kd.int .i64)) 49 w69 w.heap.size (fun k_=>some k_≠(.slice Ao42 y592.length co42 : Value).ownBlock∧some k_≠(.slice Ao41 y613.length co41 : Value).ownBlock∧some k_≠(.slice Ao46 t617.length co46 : Value).ownBlock∧some k_≠(.slice Ao51 t622.length co51 : Value).ownBlock∧some k_≠(.slice Ao52 t625.length co52 : Value).ownBlock∧some k_≠(.slice Ao60 y630.length co60 : Value).ownBlock∧some k_≠(.slice Ao67 t640.length co67 : Value).ownBlock∧some k_≠(.slice Ao68 t643.length co68 : Value).ownBlock∧k_≠gb616∧k_≠gb629∧k_≠gb647) (.slice Ao61 y636.length co61) y636):=⟨by rw [hw_];exact (yN0 HO638)⟩
     replace HO642 : Aside0 (Kd.N (Kd.slice 3 (Kd.int .i64)) 49 w69 w.heap.size (fun k_=>some k_≠(.slice Ao42 y592.length co42 : Value).ownBlock∧some k_≠(.slice Ao41 y613.length co41 : Value).ownBlock∧some k_≠(.slice Ao46 t617.length co46 : Value).ownBlock∧some k_≠(.slice Ao51 t622.length co51 : Value).ownBlock∧some k_≠(.slice Ao52 t625.length co52 : Value).ownBlock∧some k_≠(.slice Ao60 y630.length co60 : Value).ownBlock∧some k_≠(.slice Ao61 y636.length co61 : Value).ownBlock∧some k_≠(.slice Ao68 t643.length co68 : Value).ownBlock∧k_≠gb616∧k_≠gb629∧k_≠gb647) (.slice Ao67 t640.length co67) t640):=⟨by rw [hw_];exact (yN0 HO642)⟩
     replace HO645 : Aside0 (Kd.N (Kd.slice 49 (Kd.slice 3 (Kd.int .i64))) 22 w69 w.heap.size (fun k_=>some k_≠(.slice Ao42 y592.length co42 : Value).ownBlock∧some k_≠(.slice Ao41 y613.length co41 : Value).ownBlock∧some k_≠(.slice Ao46 t617.length co46 : Value).ownBlock∧some k_≠(.slice Ao51 t622.length co51 : Value).ownBlock∧some k_≠(.slice Ao52 t625.length co52 : Value).ownBlock∧some k_≠(.slice Ao60 y630.length co60 : Value).ownBlock∧some k_≠(.slice Ao61 y636.length co61 : Value).ownBlock∧some k_≠(.slice Ao67 t640.length co67 : Value).ownBlock∧k_≠gb616∧k_≠gb629∧k_≠gb647) (.slice Ao68 t643.length co68) t643):=⟨by rw [hw_];exact (yN0 HO645)⟩
     replace BK616 : Aside0 (w69.heap[gb616]? = some (.cells #[.bool true, .slice Ao42 y592.length co42, .slice Ao41 y613.length co41] 25 (0,0))):=⟨by rw [hw_];exact (yk BK616)⟩
     replace BK629 : Aside0 (w69.heap[gb629]? = some (.cells #[.bool t621, .slice Ao51 t622.length co51, .slice Ao52 t625.length co52] 25 (0,0))):=⟨by rw [hw_];exact (yk BK629)⟩
     replace BK647 : Aside0 (w69.heap[gb647]? = some (.cells #[.bool false, .slice Ao67 t640.length co67, .slice Ao68 t643.length co68] 25 (0,0))):=⟨by rw [hw_];exact (ykp BK647)⟩
     replace HB : Aside0 (Below w.heap.size w w69):=⟨by rw [hw_];exact (yhb)⟩
     clear hw_
     replace HO594:=zm (Kd.N_drew HO594.out)
     replace HO615:=zm (Kd.N_drew HO615.out)
     replace HO619:=zm (zq HO619.out)
     replace HO624:=zm (Kd.N_drew HO624.out)
     replace HO627:=zm (Kd.N_drew HO627.out)
     replace HO632:=zm (zq HO632.out)
     replace HO638:=zm (Kd.N_drew HO638.out)
     replace HO642:=zm (Kd.N_drew HO642.out)
     replace HO645:=zm (Kd.N_drew HO645.out)
     replace BK616:=zm (zj BK616.out)
     replace BK629:=zm (zj BK629.out)
     replace BK647:=zm (zj BK647.out)
     replace HB:=zm (zf HB.out)
     refine yst (fun w' => w'.cell? ⟨gb629,0,none⟩=some (.bool t621)∧w'.cell? ⟨gb629,1,none⟩=some (.slice Ao51 t622.length co51)∧w'.cell? ⟨gb629,2,none⟩=some (.slice Ao52 t625.length co52)∧w'.cell? ⟨gb616,0,none⟩=some (.bool true)∧w'.cell? ⟨gb616,1,none⟩=some (.slice Ao42 y592.length co42)∧w'.cell? ⟨gb616,2,none⟩=some (.slice Ao41 y613.length co41)∧w'.cell? ⟨gb647,0,none⟩=some (.bool false)∧w'.cell? ⟨gb647,1,none⟩=some (.slice Ao67 t640.length co67)∧w'.cell? ⟨gb647,2,none⟩=some (.slice Ao68 t643.length co68)) [] 39 psalterylaw13_knows.tab5 psalterylaw13_knows.bits5 (fun hHeld HT_ HW_ => ?_)
     generalize w69.drew=w70 at HO594 HO615 HO619 HO624 HO627 HO632 HO638 HO642 HO645 BK616 BK629 BK647 HB hHeld ⊢
     refine yp 0 35 HT_ ?_
     refine yp 1 36 HT_ ?_
     refine yp 2 37 HT_ ?_
     refine yp 3 38 HT_ ?_
     refine yp 4 39 HT_ ?_
     refine yp 5 40 HT_ ?_
     refine yp 6 41 HT_ ?_
     refine yp 7 42 HT_ ?_
     refine yl 8 43 HT_ HW_ hHeld ?_
     refine yl 10 45 HT_ HW_ hHeld ?_
     refine yw 9 44 HT_ (fun K hK => ?_)
     refine ygs Try.func14 #[.agg #[.bool t621, .slice Ao51 t622.length co51, .slice Ao52 t625.length co52]] ?_
     with_reducible refine (psalterylaw13_As.calls t621 (fun k_=>(some k_≠(.slice Ao42 y592.length co42 : Value).ownBlock∧(some k_≠(.slice Ao41 y613.length co41 : Value).ownBlock∧(some k_≠(.slice Ao46 t617.length co46 : Value).ownBlock∧(some k_≠(.slice Ao52 t625.length co52 : Value).ownBlock∧(some k_≠(.slice Ao60 y630.length co60 : Value).ownBlock∧(some k_≠(.slice Ao61 y636.length co61 : Value).ownBlock∧(some k_≠(.slice Ao67 t640.length co67 : Value).ownBlock∧(some k_≠(.slice Ao68 t643.length co68 : Value).ownBlock∧(k_≠gb616∧(k_≠gb629∧k_≠gb647))))))))))) _ _ t622 (fun k_=>(some k_≠(.slice Ao42 y592.length co42 : Value).ownBlock∧(some k_≠(.slice Ao41 y613.length co41 : Value).ownBlock∧(some k_≠(.slice Ao46 t617.length co46 : Value).ownBlock∧(some k_≠(.slice Ao51 t622.length co51 : Value).ownBlock∧(some k_≠(.slice Ao60 y630.length co60 : Value).ownBlock∧(some k_≠(.slice Ao61 y636.length co61 : Value).ownBlock∧(some k_≠(.slice Ao67 t640.length co67 : Value).ownBlock∧(some k_≠(.slice Ao68 t643.length co68 : Value).ownBlock∧(k_≠gb616∧(k_≠gb629∧k_≠gb647))))))))))) _ _ t625 t648 t649 t652 _ ?side1 ?side2 A6.out).mono ?_
     (case side1=>exact Kd.N_V (HO624.out))
     (case side2=>exact Kd.N_V (HO627.out))
     rintro e w71 ⟨v650,v653,rfl,ho0,ho1,hb⟩
     refine ⟨_,rfl, ?_⟩
     replace HO624:=yNb HO624 hb
     replace HO627:=yNb HO627 hb
     have HO651:=yho (fun k_=>some k_≠(.slice Ao42 y592.length co42 : Value).ownBlock∧some k_≠(.slice Ao41 y613.length co41 : Value).ownBlock∧some k_≠(.slice Ao46 t617.length co46 : Value).ownBlock∧some k_≠(.slice Ao60 y630.length co60 : Value).ownBlock∧some k_≠(.slice Ao61 y636.length co61 : Value).ownBlock∧some k_≠(.slice Ao67 t640.length co67 : Value).ownBlock∧some k_≠(.slice Ao68 t643.length co68 : Value).ownBlock∧k_≠gb616∧k_≠gb629∧k_≠gb647) ho0 (fun k_ hk_=>⟨yoN HO594 hk_,yoN HO615 hk_,yoR HO619 hk_,yoR HO632 hk_,yoN HO638 hk_,yoN HO642 hk_,yoN HO645 hk_,yoB BK616 hk_,yoB BK629 hk_,yoB BK647 hk_⟩)
     have HO654:=yho (fun k_=>some k_≠(.slice Ao42 y592.length co42 : Value).ownBlock∧some k_≠(.slice Ao41 y613.length co41 : Value).ownBlock∧some k_≠(.slice Ao46 t617.length co46 : Value).ownBlock∧some k_≠(.slice Ao60 y630.length co60 : Value).ownBlock∧some k_≠(.slice Ao61 y636.length co61 : Value).ownBlock∧some k_≠(.slice Ao67 t640.length co67 : Value).ownBlock∧some k_≠(.slice Ao68 t643.length co68 : Value).ownBlock∧k_≠gb616∧k_≠gb629∧k_≠gb647) ho1 (fun k_ hk_=>⟨yoN HO594 hk_,yoN HO615 hk_,yoR HO619 hk_,yoR HO632 hk_,yoN HO638 hk_,yoN HO642 hk_,yoN HO645 hk_,yoB BK616 hk_,yoB BK629 hk_,yoB BK647 hk_⟩)
     replace HO594:=yNb HO594 hb
     replace HO615:=yNb HO615 hb
     replace HO619:=yRb HO619 hb
     replace HO632:=yRb HO632 hb
     replace HO638:=yNb HO638 hb
     replace HO642:=yNb HO642 hb
     replace HO645:=yNb HO645 hb
     replace BK616:=ybb BK616 hb
     replace BK629:=ybb BK629 hb
     replace BK647:=ybb BK647 hb
     replace HB:=ybs hb
     (try clear hb)
     (try clear ho0)
     (try clear ho1)
     refine hK.out _ _ yH (fun hHeld => ?_)
     clear hK K
     refine ym (some 44) ?_
     refine yw 11 46 HT_ (fun K hK => ?_)
     refine ygs Try.func14 #[.agg #[.bool true, .slice Ao42 y592.length co42, .slice Ao41 y613.length co41]] ?_
     with_reducible refine (psalterylaw13_As.calls true (fun k_=>(some k_≠(.slice Ao41 y613.length co41 : Value).ownBlock∧(some k_≠(.slice Ao46 t617.length co46 : Value).ownBlock∧(some k_≠(.slice Ao51 t622.length co51 : Value).ownBlock∧(some k_≠(.slice Ao52 t625.length co52 : Value).ownBlock∧(some k_≠(.slice Ao60 y630.length co60 : Value).ownBlock∧(some k_≠(.slice Ao61 y636.length co61 : Value).ownBlock∧(some k_≠(.slice Ao67 t640.length co67 : Value).ownBlock∧(some k_≠(.slice Ao68 t643.length co68 : Value).ownBlock∧(k_≠gb616∧(k_≠gb629∧k_≠gb647))))))))))) _ _ y592 (fun k_=>(some k_≠(.slice Ao42 y592.length co42 : Value).ownBlock∧(some k_≠(.slice Ao46 t617.length co46 : Value).ownBlock∧(some k_≠(.slice Ao51 t622.length co51 : Value).ownBlock∧(some k_≠(.slice Ao52 t625.length co52 : Value).ownBlock∧(some k_≠(.slice Ao60 y630.length co60 : Value).ownBlock∧(some k_≠(.slice Ao61 y636.length co61 : Value).ownBlock∧(some k_≠(.slice Ao67 t640.length co67 : Value).ownBlock∧(some k_≠(.slice Ao68 t643.length co68 : Value).ownBlock∧(k_≠gb616∧(k_≠gb629∧k_≠gb647))))))))))) _ _ y613 t655 t656 t659 _ ?side1 ?side2 A7.out).mono ?_
     (case side1=>exact Kd.N_V (HO594.out))
     (case side2=>exact Kd.N_V (HO615.out))
     rintro e w72 ⟨v657,v660,rfl,ho0,ho1,hb⟩
     refine ⟨_,rfl, ?_⟩
     replace HO594:=yNb HO594 hb
     replace HO615:=yNb HO615 hb
     replace HO651:=yVb HO651 hb
     replace HO654:=yVb HO654 hb
     have HO658:=yho (fun k_=>some k_≠(.slice Ao46 t617.length co46 : Value).ownBlock∧some k_≠(.slice Ao51 t622.length co51 : Value).ownBlock∧some k_≠(.slice Ao52 t625.length co52 : Value).ownBlock∧some k_≠(.slice Ao60 y630.length co60 : Value).ownBlock∧some k_≠(.slice Ao61 y636.length co61 : Value).ownBlock∧some k_≠(.slice Ao67 t640.length co67 : Value).ownBlock∧some k_≠(.slice Ao68 t643.length co68 : Value).ownBlock∧k_≠gb616∧k_≠gb629∧k_≠gb647) ho0 (fun k_ hk_=>⟨yoR HO619 hk_,yoN HO624 hk_,yoN HO627 hk_,yoR HO632 hk_,yoN HO638 hk_,yoN HO642 hk_,yoN HO645 hk_,yoB BK616 hk_,yoB BK629 hk_,yoB BK647 hk_⟩)
     have HO661:=yho (fun k_=>some k_≠(.slice Ao46 t617.length co46 : Value).ownBlock∧some k_≠(.slice Ao51 t622.length co51 : Value).ownBlock∧some k_≠(.slice Ao52 t625.length co52 : Value).ownBlock∧some k_≠(.slice Ao60 y630.length co60 : Value).ownBlock∧some k_≠(.slice Ao61 y636.length co61 : Value).ownBlock∧some k_≠(.slice Ao67 t640.length co67 : Value).ownBlock∧some k_≠(.slice Ao68 t643.length co68 : Value).ownBlock∧k_≠gb616∧k_≠gb629∧k_≠gb647) ho1 (fun k_ hk_=>⟨yoR HO619 hk_,yoN HO624 hk_,yoN HO627 hk_,yoR HO632 hk_,yoN HO638 hk_,yoN HO642 hk_,yoN HO645 hk_,yoB BK616 hk_,yoB BK629 hk_,yoB BK647 hk_⟩)
     replace HO619:=yRb HO619 hb
     replace HO624:=yNb HO624 hb
     replace HO627:=yNb HO627 hb
     replace HO632:=yRb HO632 hb
     replace HO638:=yNb HO638 hb
     replace HO642:=yNb HO642 hb
     replace HO645:=yNb HO645 hb
     replace BK616:=ybb BK616 hb
     replace BK629:=ybb BK629 hb
     replace BK647:=ybb BK647 hb
     replace HB:=ybs hb
     (try clear hb)
     (try clear ho0)
     (try clear ho1)
     obtain ⟨Ao73,co73,eo73⟩:=Kd.V_slice HO651.out
     (first|subst eo73|(injection eo73 with f1_ f2_ f3_;have f4_:=f1_.symm;have f5_:=f3_.symm;clear f1_ f2_ f3_;subst f4_;subst f5_))
     obtain ⟨Ao74,co74,eo74⟩:=Kd.V_slice HO654.out
     (first|subst eo74|(injection eo74 with f1_ f2_ f3_;have f4_:=f1_.symm;have f5_:=f3_.symm;clear f1_ f2_ f3_;subst f4_;subst f5_))
     obtain ⟨Ao75,co75,eo75⟩:=Kd.V_slice HO658.out
     (first|subst eo75|(injection eo75 with f1_ f2_ f3_;have f4_:=f1_.symm;have f5_:=f3_.symm;clear f1_ f2_ f3_;subst f4_;subst f5_))
     obtain ⟨Ao76,co76,eo76⟩:=Kd.V_slice HO661.out
     (first|subst eo76|(injection eo76 with f1_ f2_ f3_;have f4_:=f1_.symm;have f5_:=f3_.symm;clear f1_ f2_ f3_;subst f4_;subst f5_))
     refine hK.out _ _ yH (fun hHeld => ?_)
     clear hK K
     refine ym (some 46) ?_
     refine yw 12 47 HT_ (fun K hK => ?_)
     refine ygs Try.func22 #[.agg #[.bool t648, .slice Ao73 t649.length co73, .slice Ao74 t652.length co74], .agg #[.bool t655, .slice Ao75 t656.length co75, .slice Ao76 t659.length co76]] ?_
     with_reducible refine (psalteryref13_Same.calls k t648 _ _ t649 _ _ t652 t655 _ _ t656 _ _ t659 true _ ?side1 ?side2 ?side3 ?side4 ?side5 ?side6 ?side7 ?side8 A8.out).mono ?_
     (case side1=>exact yce (Kd.V_reads' HO651.out).2.2)
     (case side2=>exact (Kd.V_reads' HO651.out).2.1)
     (case side3=>exact yce (Kd.V_reads' HO654.out).2.2)
     (case side4=>exact (Kd.V_reads' HO654.out).2.1)
     (case side5=>exact yce (Kd.V_reads' HO658.out).2.2)
     (case side6=>exact (Kd.V_reads' HO658.out).2.1)
     (case side7=>exact yce (Kd.V_reads' HO661.out).2.2)
     (case side8=>exact (Kd.V_reads' HO661.out).2.1)
     rintro e w77 ⟨rfl,hb⟩
     refine ⟨_,rfl, ?_⟩
     replace HO594:=yNb HO594 hb
     replace HO615:=yNb HO615 hb
     replace HO619:=yRb HO619 hb
     replace HO624:=yNb HO624 hb
     replace HO627:=yNb HO627 hb
     replace HO632:=yRb HO632 hb
     replace HO638:=yNb HO638 hb
     replace HO642:=yNb HO642 hb
     replace HO645:=yNb HO645 hb
     replace HO651:=yVb HO651 hb
     replace HO654:=yVb HO654 hb
     replace HO658:=yVb HO658 hb
     replace HO661:=yVb HO661 hb
     replace BK616:=ybb BK616 hb
     replace BK629:=ybb BK629 hb
     replace BK647:=ybb BK647 hb
     replace HB:=ybs hb
     (try clear hb)
     refine hK.out _ _ yH (fun hHeld => ?_)
     clear hK K
     refine ym (some 47) ?_
     refine yp 13 48 HT_ ?_
     refine yp 14 49 HT_ ?_
     refine yp 15 50 HT_ ?_
     refine yp 16 51 HT_ ?_
     refine yp 17 52 HT_ ?_
     refine yp 18 53 HT_ ?_
     refine yp 19 54 HT_ ?_
     refine yl 20 55 HT_ HW_ hHeld ?_
     refine yp 21 56 HT_ ?_
     refine yp 22 57 HT_ ?_
     refine yp 23 58 HT_ ?_
     refine yp 24 59 HT_ ?_
     refine yl 25 60 HT_ HW_ hHeld ?_
     refine yw 26 61 HT_ (fun K hK => ?_)
     refine Kd.R_lit_step (Kd.int .i64) _ 3 ?hg (N:=61) ?hd (xs:=([6,0,0,1,2] : List Int)) (inner := [.int .i64 6, .int .i64 0, .int .i64 0, .int .i64 1, .int .i64 2]) (ok:=fun _=>True) (okp:=fun _=>True) ?hr ?hp (fun _ hk=>hk) trivial (Below.refl _ _) (Nat.le_refl _) (by simp) ?_;(case hd=>rfl);(case hg=>rfl);(case hr=>first|(go_simp;done)|(go_simp;rfl));(case hp=>exact (Reps.one (show Kd.M (Kd.int .i64) _ _ _ 6 [.int .i64 6] from rfl) (Reps.one (show Kd.M (Kd.int .i64) _ _ _ 0 [.int .i64 0] from rfl) (Reps.one (show Kd.M (Kd.int .i64) _ _ _ 0 [.int .i64 0] from rfl) (Reps.one (show Kd.M (Kd.int .i64) _ _ _ 1 [.int .i64 1] from rfl) (Reps.one (show Kd.M (Kd.int .i64) _ _ _ 2 [.int .i64 2] from rfl) (Reps.none _ _)))))))
     intro v664 w78 ho79 hb hg_ hnew_
     clear hg_ hnew_
     (first|rw [← Ny663.out] at ho79|(simp only [Int.reduceToNat] at ho79;rw [← Ny663.out] at ho79)|rw [show (List.replicate (Int.toNat 11) (0 : Int))=y663 from Ny663.out.symm] at ho79)
     replace HO594:=zm (Kd.N_elder' (yr HO594) (Kd.R_base ho79) hb)
     replace HO615:=zm (Kd.N_elder' (yr HO615) (Kd.R_base ho79) hb)
     replace HO619:=yRb HO619 hb
     replace HO624:=zm (Kd.N_elder' (yr HO624) (Kd.R_base ho79) hb)
     replace HO627:=zm (Kd.N_elder' (yr HO627) (Kd.R_base ho79) hb)
     replace HO632:=yRb HO632 hb
     replace HO638:=zm (Kd.N_elder' (yr HO638) (Kd.R_base ho79) hb)
     replace HO642:=zm (Kd.N_elder' (yr HO642) (Kd.R_base ho79) hb)
     replace HO645:=zm (Kd.N_elder' (yr HO645) (Kd.R_base ho79) hb)
     replace HO651:=zm (Kd.V_elder' (yr HO651) (Kd.R_base ho79) hb)
     replace HO654:=zm (Kd.V_elder' (yr HO654) (Kd.R_base ho79) hb)
     replace HO658:=zm (Kd.V_elder' (yr HO658) (Kd.R_base ho79) hb)
     replace HO661:=zm (Kd.V_elder' (yr HO661) (Kd.R_base ho79) hb)
     have HO665:=zm (Kd.R_lower ho79 (zE yhb))
     replace BK616:=ybb BK616 hb
     replace BK629:=ybb BK629 hb
     replace BK647:=ybb BK647 hb
     replace HB:=ybs hb
     clear hb ho79
     obtain ⟨Ao80,co80,eo80⟩:=Kd.R_slice HO665.out
     (first|subst eo80|(injection eo80 with f1_ f2_ f3_;have f4_:=f1_.symm;have f5_:=f3_.symm;clear f1_ f2_ f3_;subst f4_;subst f5_))
     refine hK.out _ _ yH (fun hHeld => ?_)
     clear hK K
     refine ym (some 61) ?_
     refine yw 27 62 HT_ (fun K hK => ?_)
     refine Kd.N_lit_step (Kd.slice 3 (Kd.int .i64)) _ 49 ?hg (N' := 62) ?hd (xs:=([y663] : List (List Int))) (inner := [.slice Ao80 y663.length co80]) (ok:=(fun k_=>some k_≠(.slice Ao42 y592.length co42 : Value).ownBlock∧some k_≠(.slice Ao41 y613.length co41 : Value).ownBlock∧some k_≠(.slice Ao46 t617.length co46 : Value).ownBlock∧some k_≠(.slice Ao51 t622.length co51 : Value).ownBlock∧some k_≠(.slice Ao52 t625.length co52 : Value).ownBlock∧some k_≠(.slice Ao60 y630.length co60 : Value).ownBlock∧some k_≠(.slice Ao61 y636.length co61 : Value).ownBlock∧some k_≠(.slice Ao67 t640.length co67 : Value).ownBlock∧some k_≠(.slice Ao68 t643.length co68 : Value).ownBlock∧k_≠gb616∧k_≠gb629∧k_≠gb647)) (okp:=(fun k_=>some k_≠(.slice Ao42 y592.length co42 : Value).ownBlock∧some k_≠(.slice Ao41 y613.length co41 : Value).ownBlock∧some k_≠(.slice Ao46 t617.length co46 : Value).ownBlock∧some k_≠(.slice Ao51 t622.length co51 : Value).ownBlock∧some k_≠(.slice Ao52 t625.length co52 : Value).ownBlock∧some k_≠(.slice Ao60 y630.length co60 : Value).ownBlock∧some k_≠(.slice Ao61 y636.length co61 : Value).ownBlock∧some k_≠(.slice Ao67 t640.length co67 : Value).ownBlock∧some k_≠(.slice Ao68 t643.length co68 : Value).ownBlock∧k_≠gb616∧k_≠gb629∧k_≠gb647)) ?hr ?hp (fun _ hk=>hk) ((show ∀ k_,w78.heap.size≤k_→(fun k_=>some k_≠(.slice Ao42 y592.length co42 : Value).ownBlock∧some k_≠(.slice Ao41 y613.length co41 : Value).ownBlock∧some k_≠(.slice Ao46 t617.length co46 : Value).ownBlock∧some k_≠(.slice Ao51 t622.length co51 : Value).ownBlock∧some k_≠(.slice Ao52 t625.length co52 : Value).ownBlock∧some k_≠(.slice Ao60 y630.length co60 : Value).ownBlock∧some k_≠(.slice Ao61 y636.length co61 : Value).ownBlock∧some k_≠(.slice Ao67 t640.length co67 : Value).ownBlock∧some k_≠(.slice Ao68 t643.length co68 : Value).ownBlock∧k_≠gb616∧k_≠gb629∧k_≠gb647) k_ from fun k_ hk=>⟨Kd.fresh' (Kd.N_lt (yr HO594)) k_ hk,Kd.fresh' (Kd.N_lt (yr HO615)) k_ hk,Kd.fresh' (Kd.R_lt (yr HO619)) k_ hk,Kd.fresh' (Kd.N_lt (yr HO624)) k_ hk,Kd.fresh' (Kd.N_lt (yr HO627)) k_ hk,Kd.fresh' (Kd.R_lt (yr HO632)) k_ hk,Kd.fresh' (Kd.N_lt (yr HO638)) k_ hk,Kd.fresh' (Kd.N_lt (yr HO642)) k_ hk,Kd.fresh' (Kd.N_lt (yr HO645)) k_ hk,Kd.freshB (yk BK616) k_ hk,Kd.freshB (yk BK629) k_ hk,Kd.freshB (yk BK647) k_ hk⟩) _ (Nat.le_refl _)) (Below.refl _ _) (Nat.le_refl _) (by simp) ?_;(case hd=>rfl);(case hg=>rfl);(case hr=>first|(go_simp;done)|(go_simp;rfl));(case hp=>exact (Reps.one (show Kd.FK (Kd.slice 3 (Kd.int .i64)) _ _ y663 [.slice Ao80 y663.length co80] from (Kd.FK_slice_mk (Kd.R_reads' (zG (ok' := (fun k_=>some k_≠(.slice Ao42 y592.length co42 : Value).ownBlock∧some k_≠(.slice Ao41 y613.length co41 : Value).ownBlock∧some k_≠(.slice Ao46 t617.length co46 : Value).ownBlock∧some k_≠(.slice Ao51 t622.length co51 : Value).ownBlock∧some k_≠(.slice Ao52 t625.length co52 : Value).ownBlock∧some k_≠(.slice Ao60 y630.length co60 : Value).ownBlock∧some k_≠(.slice Ao61 y636.length co61 : Value).ownBlock∧some k_≠(.slice Ao67 t640.length co67 : Value).ownBlock∧some k_≠(.slice Ao68 t643.length co68 : Value).ownBlock∧k_≠gb616∧k_≠gb629∧k_≠gb647)) (Kd.R_types (Kd.R_types (Kd.R_types (Kd.R_apart' (Kd.R_apart' (Kd.R_apart' (Kd.R_apart' (Kd.R_apart' (Kd.R_apart' (Kd.R_apart' (Kd.R_apart' (Kd.R_apart' (HO665.out) (Kd.N_typed HO594.out) (by decide)) (Kd.N_typed HO615.out) (by decide)) (Kd.R_typed HO619.out) (by decide)) (Kd.N_typed HO624.out) (by decide)) (Kd.N_typed HO627.out) (by decide)) (Kd.R_typed HO632.out) (by decide)) (Kd.N_typed HO638.out) (by decide)) (Kd.N_typed HO642.out) (by decide)) (Kd.N_typed HO645.out) (by decide)) BK616.out (by decide)) BK629.out (by decide)) BK647.out (by decide)) (fun k_ hk=>⟨hk.1.1.1.1.1.1.1.1.1.1.1.2,⟨hk.1.1.1.1.1.1.1.1.1.1.2,⟨hk.1.1.1.1.1.1.1.1.1.2,⟨hk.1.1.1.1.1.1.1.1.2,⟨hk.1.1.1.1.1.1.1.2,⟨hk.1.1.1.1.1.1.2,⟨hk.1.1.1.1.1.2,⟨hk.1.1.1.1.2,⟨hk.1.1.1.2,⟨hk.1.1.2,⟨hk.1.2,hk.2⟩⟩⟩⟩⟩⟩⟩⟩⟩⟩⟩))).2.1 (Kd.R_F (zG (ok' := (fun k_=>some k_≠(.slice Ao42 y592.length co42 : Value).ownBlock∧some k_≠(.slice Ao41 y613.length co41 : Value).ownBlock∧some k_≠(.slice Ao46 t617.length co46 : Value).ownBlock∧some k_≠(.slice Ao51 t622.length co51 : Value).ownBlock∧some k_≠(.slice Ao52 t625.length co52 : Value).ownBlock∧some k_≠(.slice Ao60 y630.length co60 : Value).ownBlock∧some k_≠(.slice Ao61 y636.length co61 : Value).ownBlock∧some k_≠(.slice Ao67 t640.length co67 : Value).ownBlock∧some k_≠(.slice Ao68 t643.length co68 : Value).ownBlock∧k_≠gb616∧k_≠gb629∧k_≠gb647)) (Kd.R_types (Kd.R_types (Kd.R_types (Kd.R_apart' (Kd.R_apart' (Kd.R_apart' (Kd.R_apart' (Kd.R_apart' (Kd.R_apart' (Kd.R_apart' (Kd.R_apart' (Kd.R_apart' (HO665.out) (Kd.N_typed HO594.out) (by decide)) (Kd.N_typed HO615.out) (by decide)) (Kd.R_typed HO619.out) (by decide)) (Kd.N_typed HO624.out) (by decide)) (Kd.N_typed HO627.out) (by decide)) (Kd.R_typed HO632.out) (by decide)) (Kd.N_typed HO638.out) (by decide)) (Kd.N_typed HO642.out) (by decide)) (Kd.N_typed HO645.out) (by decide)) BK616.out (by decide)) BK629.out (by decide)) BK647.out (by decide)) (fun k_ hk=>⟨hk.1.1.1.1.1.1.1.1.1.1.1.2,⟨hk.1.1.1.1.1.1.1.1.1.1.2,⟨hk.1.1.1.1.1.1.1.1.1.2,⟨hk.1.1.1.1.1.1.1.1.2,⟨hk.1.1.1.1.1.1.1.2,⟨hk.1.1.1.1.1.1.2,⟨hk.1.1.1.1.1.2,⟨hk.1.1.1.1.2,⟨hk.1.1.1.2,⟨hk.1.1.2,⟨hk.1.2,hk.2⟩⟩⟩⟩⟩⟩⟩⟩⟩⟩⟩))))) (Reps.none _ _)))
     intro v667 w81 ho82 hb hg_ hnew_
     clear hg_ hnew_
     (first|rw [← Ny666.out] at ho82|(simp only [Int.reduceToNat] at ho82;rw [← Ny666.out] at ho82)|rw [show (List.replicate (Int.toNat 11) (0 : Int))=y666 from Ny666.out.symm] at ho82)
     replace HO594:=zm (Kd.N_elder' (yr HO594) (Kd.N_base ho82) hb)
     replace HO615:=zm (Kd.N_elder' (yr HO615) (Kd.N_base ho82) hb)
     replace HO619:=yRb HO619 hb
     replace HO624:=zm (Kd.N_elder' (yr HO624) (Kd.N_base ho82) hb)
     replace HO627:=zm (Kd.N_elder' (yr HO627) (Kd.N_base ho82) hb)
     replace HO632:=yRb HO632 hb
     replace HO638:=zm (Kd.N_elder' (yr HO638) (Kd.N_base ho82) hb)
     replace HO642:=zm (Kd.N_elder' (yr HO642) (Kd.N_base ho82) hb)
     replace HO645:=zm (Kd.N_elder' (yr HO645) (Kd.N_base ho82) hb)
     replace HO651:=zm (Kd.V_elder' (yr HO651) (Kd.N_base ho82) hb)
     replace HO654:=zm (Kd.V_elder' (yr HO654) (Kd.N_base ho82) hb)
     replace HO658:=zm (Kd.V_elder' (yr HO658) (Kd.N_base ho82) hb)
     replace HO661:=zm (Kd.V_elder' (yr HO661) (Kd.N_base ho82) hb)
     have HO668:=zm (Kd.N_lower ho82 (zE yhb))
     replace BK616:=ybb BK616 hb
     replace BK629:=ybb BK629 hb
     replace BK647:=ybb BK647 hb
     replace HB:=ybs hb
     clear HO665;clear hb ho82
     obtain ⟨Ao83,co83,eo83⟩:=Kd.N_slice HO668.out
     (first|subst eo83|(injection eo83 with f1_ f2_ f3_;have f4_:=f1_.symm;have f5_:=f3_.symm;clear f1_ f2_ f3_;subst f4_;subst f5_))
     refine hK.out _ _ yH (fun hHeld => ?_)
     clear hK K
     refine ym (some 62) ?_
     refine yw 28 63 HT_ (fun K hK => ?_)
     refine ygs Try.func24 #[.slice Ao67 t640.length co67, .slice Ao83 y666.length co83] ?_
     with_reducible refine (psalteryref12_Same.calls k _ _ t640 _ _ y666 true _ ?side1 ?side2 ?side3 ?side4 A12.out).mono ?_
     (case side1=>exact yce (Kd.N_reads' HO642.out).2.2)
     (case side2=>exact (Kd.N_reads' HO642.out).2.1)
     (case side3=>exact yce (Kd.N_reads' HO668.out).2.2)
     (case side4=>exact (Kd.N_reads' HO668.out).2.1)
     rintro e w' ⟨rfl,⟨nd,rfl⟩⟩
     refine ⟨_,rfl, ?_⟩
     refine hK.out _ _ yH (fun hHeld => ?_)
     clear hK K
     refine ym (some 63) ?_
     refine yp 29 64 HT_ ?_
     refine yp 30 65 HT_ ?_
     refine yp 31 66 HT_ ?_
     refine yp 32 67 HT_ ?_
     refine yp 33 68 HT_ ?_
     refine yp 34 69 HT_ ?_
     refine yl 35 70 HT_ HW_ hHeld ?_
     refine yw 36 71 HT_ (fun K hK => ?_)
     refine ygs Try.func15 #[.int .i64 11, .int .i64 1, .agg #[.bool true, .slice Ao42 y592.length co42, .slice Ao41 y613.length co41]] ?_
     with_reducible refine (cpack_Right.calls k 11 1 true _ _ y592 _ _ y613 t670 _ ?side1 ?side2 ?side3 ?side4 A15.out).mono ?_
     (case side1=>exact yce (Kd.N_reads' HO594.out).2.2)
     (case side2=>exact (Kd.N_reads' HO594.out).2.1)
     (case side3=>exact yce (Kd.N_reads' HO615.out).2.2)
     (case side4=>exact (Kd.N_reads' HO615.out).2.1)
     rintro e w84 ⟨rfl,hb⟩
     refine ⟨_,rfl, ?_⟩
     replace HO594:=yNb HO594 hb
     replace HO615:=yNb HO615 hb
     replace HO619:=yRb HO619 hb
     replace HO624:=yNb HO624 hb
     replace HO627:=yNb HO627 hb
     replace HO632:=yRb HO632 hb
     replace HO638:=yNb HO638 hb
     replace HO642:=yNb HO642 hb
     replace HO645:=yNb HO645 hb
     replace HO651:=yVb HO651 hb
     replace HO654:=yVb HO654 hb
     replace HO658:=yVb HO658 hb
     replace HO661:=yVb HO661 hb
     replace HO668:=yNb HO668 hb
     replace BK616:=ybb BK616 hb
     replace BK629:=ybb BK629 hb
     replace BK647:=ybb BK647 hb
     replace HB:=ybs hb
     (try clear hb)
     refine hK.out _ _ yH (fun hHeld => ?_)
     clear hK K
     refine ym (some 71) ?_
     refine yp 37 72 HT_ ?_
     refine yp 38 0 HT_ ?_
     refine done_ (done_of HT_.out (by kernel_rfl)) ?_
     try go_wp2
     go_ret
     exact ⟨ye,yhb⟩
    ·
     rw [if_neg c14] at H
     have c14b0 : (t646 == 0)=false:=beq_eq_false_iff_ne.mpr c14
     have c14b1 : (t646 != 0)=true:=bne_iff_ne.mpr c14
     exact absurd H (by simp)
   ·
    rw [if_neg c10] at H
    have c10b0 : (t628 == 0)=false:=beq_eq_false_iff_ne.mpr c10
    have c10b1 : (t628 != 0)=true:=bne_iff_ne.mpr c10
    exact absurd H (by simp)
  ·
   rw [if_neg c5] at H
   have c5b0 : (t620 == 0)=false:=beq_eq_false_iff_ne.mpr c5
   have c5b1 : (t620 != 0)=true:=bne_iff_ne.mpr c5
   exact absurd H (by simp)
 ·
  rw [if_neg c4] at H
  have c4b0 : ((t617.length : Int) == 11)=false:=beq_eq_false_iff_ne.mpr c4
  have c4b1 : ((t617.length : Int) != 11)=true:=bne_iff_ne.mpr c4
  exact absurd H (by simp)
def psalteryref06_Size.l0 : Nat→Int→Int→Option (Int)
 | 0,_,_=>none
 | k+1,x0,x3=>if x3≤12 then (if x0=x3 then (some x3) else (if x0=(wrap64 (-x3)) then (some x3) else (psalteryref06_Size.l0 k x0 (wrap64 (x3+1))))) else (some 13)
def psalteryref06_Size.f (k : Nat) (a0 : Int) : Option (Int):=psalteryref06_Size.l0 k a0 0
theorem psalteryref06_Size.mono_l : ∀ k,(∀ y0 y1,LeO (psalteryref06_Size.l0 k y0 y1) (psalteryref06_Size.l0 (k+1) y0 y1))
 | 0=>fun _ _ r h=>by simp [psalteryref06_Size.l0] at h
 | k+1=>by
  have ih0:=psalteryref06_Size.mono_l k
  ·
   intro y0 y1
   unfold psalteryref06_Size.l0
   repeat' with_reducible first|apply ih0|apply yLr|apply yLn|apply yLi|apply yLb|intro _
theorem psalteryref06_Size.mono : ∀ a0 k,LeO (psalteryref06_Size.f k a0) (psalteryref06_Size.f (k+1) a0):=by
 intro a0 k
 have ih0:=psalteryref06_Size.mono_l k
 unfold psalteryref06_Size.f
 repeat' with_reducible first|apply ih0|apply yLr|apply yLn|apply yLi|apply yLb|intro _
set_option maxHeartbeats 8000000 in
set_option maxRecDepth 100000 in
theorem psalteryref06_Size.calls (k : Nat) (a0 : Int) (r : Int) (w : World) (h : psalteryref06_Size.f k a0=some r) :
  Calls Try.prog 80 #[.int .i64 a0] w fun e w' => e=.returned (.int .i64 r)∧Drawn0 w w' := by
 have H : (psalteryref06_Size.l0 k a0 0)=some r:=h
 clear h
 have H' := zm H
 clear H
 go_enter Try.func80,Try.ntmps80
 go_wp2
 go_loopg [3] k (fun kq v3 w' => ∃ (x3_1 : Int),v3=.int .i64 x3_1∧Aside0 (psalteryref06_Size.l0 kq a0 x3_1=some r)∧Aside0 (kq≤k)∧Drawn0 w w')
 case atStart=>exact ⟨(0),yq,H',⟨Nat.le_refl _⟩,yd⟩
 case round =>
  clear H'
  obtain ⟨x3_1,rfl,HA,HK1,⟨m1,rfl⟩⟩:=hrel
  obtain ⟨k1,rfl⟩:=ysu gk (fun h=>by subst h;exact absurd HA.out (by simp [psalteryref06_Size.l0]))
  have H:=HA.out;clear HA
  simp only [psalteryref06_Size.l0] at H
  by_cases c2 : x3_1≤12
  ·
   rw [if_pos c2] at H
   have c2b0 : decide (x3_1≤12)=true:=decide_eq_true c2
   clear c2
   by_cases c3 : a0=x3_1
   ·
    rw [if_pos c3] at H
    have c3b0 : (a0 == x3_1)=true:=beq_iff_eq.mpr c3
    have c3b1 : (a0 != x3_1)=false:=bne_eq_false_iff_eq.mpr c3
    clear c3
    obtain rfl:=Option.some.inj H
    go_wp2
    go_ret
    exact ⟨yq,yd⟩
   ·
    rw [if_neg c3] at H
    have c3b0 : (a0 == x3_1)=false:=beq_eq_false_iff_ne.mpr c3
    have c3b1 : (a0 != x3_1)=true:=bne_iff_ne.mpr c3
    by_cases c4 : a0=(wrap64 (-x3_1))
    ·
     rw [if_pos c4] at H
     have c4b0 : (a0 == (wrap64 (-x3_1)))=true:=beq_iff_eq.mpr c4
     have c4b1 : (a0 != (wrap64 (-x3_1)))=false:=bne_eq_false_iff_eq.mpr c4
     clear c4
     obtain rfl:=Option.some.inj H
     go_wp2
     go_ret
     exact ⟨yq,yd⟩
    ·
     rw [if_neg c4] at H
     have c4b0 : (a0 == (wrap64 (-x3_1)))=false:=beq_eq_false_iff_ne.mpr c4
     have c4b1 : (a0 != (wrap64 (-x3_1)))=true:=bne_iff_ne.mpr c4
     have H' := zm H
     clear H
     go_wp2
     go_roundg k1
     case measure=>exact yom1 HK1
     case rel=>exact ⟨(wrap64 (x3_1+1)),yq,H',⟨yom1 HK1⟩,yd⟩
  ·
   rw [if_neg c2] at H
   have c2b0 : decide (x3_1≤12)=false:=decide_eq_false c2
   clear c2
   obtain rfl:=Option.some.inj H
   go_wp2
   go_ret
   exact ⟨yq,yd⟩
def psalteryref06_Pulses.l0 : Nat→List Int→Int→Int→Option (Int)
 | 0,_,_,_=>none
 | k+1,x0,x3,x4=>if x4 < (x0.length : Int) then (if 0≤x4 then ((psalteryref06_Size.f k (rd x0 x4)).bind fun t676=>(psalteryref06_Pulses.l0 k x0 (wrap64 (x3+t676)) (wrap64 (x4+1)))) else (none)) else (some x3)
def psalteryref06_Pulses.f (k : Nat) (l0 : List Int) : Option (Int):=psalteryref06_Pulses.l0 k l0 0 0
theorem psalteryref06_Pulses.mono_l : ∀ k,(∀ y0 y1 y2,LeO (psalteryref06_Pulses.l0 k y0 y1 y2) (psalteryref06_Pulses.l0 (k+1) y0 y1 y2))
 | 0=>fun _ _ _ r h=>by simp [psalteryref06_Pulses.l0] at h
 | k+1=>by
  have ih0:=psalteryref06_Pulses.mono_l k
  ·
   intro y0 y1 y2
   unfold psalteryref06_Pulses.l0
   repeat' with_reducible first|apply ih0|apply psalteryref06_Size.mono|apply yLr|apply yLn|apply yLi|apply yLb|intro _
theorem psalteryref06_Pulses.mono : ∀ a0 k,LeO (psalteryref06_Pulses.f k a0) (psalteryref06_Pulses.f (k+1) a0):=by
 intro a0 k
 have ih0:=psalteryref06_Pulses.mono_l k
 unfold psalteryref06_Pulses.f
 repeat' with_reducible first|apply ih0|apply psalteryref06_Size.mono|apply yLr|apply yLn|apply yLi|apply yLb|intro _
set_option maxHeartbeats 8000000 in
set_option maxRecDepth 100000 in
theorem psalteryref06_Pulses.calls (k : Nat) (A0 : Option Addr) (c0 : Nat) (l0 : List Int) (r : Int) (w : World) (hr0 : Kd.C (Kd.int .i64) w A0 l0.length l0) (hc0 : l0.length≤c0) (h : psalteryref06_Pulses.f k l0=some r) :
  Calls Try.prog 40 #[.slice A0 l0.length c0] w fun e w' => e=.returned (.int .i64 r)∧Drawn0 w w' := by
 have HR0:=zm hr0;have HC0:=zm hc0;clear hr0 hc0
 have H : (psalteryref06_Pulses.l0 k l0 0 0)=some r:=h
 clear h
 have H' := zm H
 clear H
 go_enter Try.func40,Try.ntmps40
 go_wp2
 go_loopg [3,4] k (fun kq v3 v4 w' => ∃ (x3_1 : Int) (x4_1 : Int),v3=.int .i64 x3_1∧v4=.int .i64 x4_1∧Aside0 (psalteryref06_Pulses.l0 kq l0 x3_1 x4_1=some r)∧Aside0 (kq≤k)∧Drawn0 w w')
 case atStart=>exact ⟨(0),(0),yq,yq,H',⟨Nat.le_refl _⟩,yd⟩
 case round =>
  clear H'
  obtain ⟨x3_1,x4_1,rfl,rfl,HA,HK1,⟨m1,rfl⟩⟩:=hrel
  obtain ⟨k1,rfl⟩:=ysu gk (fun h=>by subst h;exact absurd HA.out (by simp [psalteryref06_Pulses.l0]))
  have H:=HA.out;clear HA
  simp only [psalteryref06_Pulses.l0] at H
  by_cases c2 : x4_1 < (l0.length : Int)
  ·
   rw [if_pos c2] at H
   have c2b0 : decide (x4_1 < (l0.length : Int))=true:=decide_eq_true c2
   clear c2
   obtain ⟨c3,H⟩:=yif H
   have c3b0 : decide (0≤x4_1)=true:=decide_eq_true c3
   clear c3
   obtain ⟨t676,A4,H⟩:=ybi H
   have H' := zm H
   clear H
   obtain ⟨ad675,e675,hx675_0,p675,q675⟩:=yai HR0 x4_1
   cases e675
   go_wp2_with (first|((with_reducible refine gate_callee (f:=80) rfl ?_);refine ygl 16 Try.func80 #[.int .i64 (rd l0 x4_1)] ?_;(with_reducible refine (psalteryref06_Size.calls k1 (rd l0 x4_1) t676 _ A4.out).mono ?_);rintro e w' ⟨rfl,⟨nd,rfl⟩⟩;refine ⟨_,rfl, ?_⟩))
   go_roundg k1
   case measure=>exact yom1 HK1
   case rel=>exact ⟨(wrap64 (x3_1+t676)),(wrap64 (x4_1+1)),yq,yq,H',⟨yom1 HK1⟩,yd⟩
  ·
   rw [if_neg c2] at H
   have c2b0 : decide (x4_1 < (l0.length : Int))=false:=decide_eq_false c2
   clear c2
   obtain rfl:=Option.some.inj H
   go_wp2
   go_ret
   exact ⟨yq,yd⟩
def psalteryref10_Width.j0 : Nat→Int→Bool→Option (Int)
 | 0,_,_=>none
 | k+1,x3,x4=>if x4=true then (some 1) else (if x3=2 then (some 2) else (if x3=3 then (some 4) else (if x3=4 then (some 8) else (some 0))))
def psalteryref10_Width.f (k : Nat) (a0 : Int) : Option (Int):=if a0=0 then (psalteryref10_Width.j0 k a0 (a0 == 0)) else (psalteryref10_Width.j0 k a0 (a0 == 1))
theorem psalteryref10_Width.mono_l : ∀ k,(∀ y0 y1,LeO (psalteryref10_Width.j0 k y0 y1) (psalteryref10_Width.j0 (k+1) y0 y1))
 | 0=>fun _ _ r h=>by simp [psalteryref10_Width.j0] at h
 | k+1=>by
  have ih0:=psalteryref10_Width.mono_l k
  ·
   intro y0 y1
   unfold psalteryref10_Width.j0
   repeat' with_reducible first|apply ih0|apply yLr|apply yLn|apply yLi|apply yLb|intro _
theorem psalteryref10_Width.mono : ∀ a0 k,LeO (psalteryref10_Width.f k a0) (psalteryref10_Width.f (k+1) a0):=by
 intro a0 k
 have ih0:=psalteryref10_Width.mono_l k
 unfold psalteryref10_Width.f
 repeat' with_reducible first|apply ih0|apply yLr|apply yLn|apply yLi|apply yLb|intro _
set_option maxHeartbeats 8000000 in
set_option maxRecDepth 100000 in
theorem psalteryref10_Width.calls (k : Nat) (a0 : Int) (r : Int) (w : World) (h : psalteryref10_Width.f k a0=some r) :
  Calls Try.prog 46 #[.int .i64 a0] w fun e w' => e=.returned (.int .i64 r)∧Drawn0 w w' := by
 have H : (if a0=0 then (psalteryref10_Width.j0 k a0 (a0 == 0)) else (psalteryref10_Width.j0 k a0 (a0 == 1)))=some r:=h
 clear h;have HC2:=zm H;clear H
 go_enter Try.func46,Try.ntmps46
 go_upto_if 4 with (fail)
 go_cut [4] (fun v4 wc => ∃ (kq : Nat) (x4_1 : Bool),v4=.bool x4_1∧Aside0 (psalteryref10_Width.j0 kq a0 x4_1=some r)∧Aside0 (kq≤k)∧Drawn0 w wc)
 case first =>
  have H:=HC2.out;clear HC2
  by_cases c3 : a0=0
  ·
   rw [if_pos c3] at H
   have c3b0 : (a0 == 0)=true:=beq_iff_eq.mpr c3
   have c3b1 : (a0 != 0)=false:=bne_eq_false_iff_eq.mpr c3
   clear c3
   (first|rw [c3b0]|(simp only [i64_w,i32_w];rw [c3b0])|skip)
   have H' := zm H
   clear H
   go_wp2
   go_meet
   case rel=>exact ⟨_,((a0 == 0)),yq,H',⟨yo⟩,yd⟩
  ·
   rw [if_neg c3] at H
   have c3b0 : (a0 == 0)=false:=beq_eq_false_iff_ne.mpr c3
   have c3b1 : (a0 != 0)=true:=bne_iff_ne.mpr c3
   (first|rw [c3b0]|(simp only [i64_w,i32_w];rw [c3b0])|skip)
   have H' := zm H
   clear H
   go_wp2
   go_meet
   case rel=>exact ⟨_,((a0 == 1)),yq,H',⟨yo⟩,yd⟩
 case rest =>
  clear HC2
  obtain ⟨kq,x4_1,rfl,HA,HJ1,⟨mc1,rfl⟩⟩:=hcut
  obtain ⟨kj1,rfl⟩:=ysu kq (fun h=>by subst h;exact absurd HA.out (by simp [psalteryref10_Width.j0]))
  have H:=HA.out;clear HA
  simp only [psalteryref10_Width.j0] at H
  by_cases c4 : x4_1=true
  ·
   subst c4
   rw [if_pos rfl] at H
   obtain rfl:=Option.some.inj H
   go_wp2
   go_ret
   exact ⟨yq,yd⟩
  ·
   replace c4:=Bool.eq_false_iff.mpr c4
   subst c4
   rw [ynf] at H
   by_cases c5 : a0=2
   ·
    rw [if_pos c5] at H
    have c5b0 : (a0 == 2)=true:=beq_iff_eq.mpr c5
    have c5b1 : (a0 != 2)=false:=bne_eq_false_iff_eq.mpr c5
    clear c5
    obtain rfl:=Option.some.inj H
    go_wp2
    go_ret
    exact ⟨yq,yd⟩
   ·
    rw [if_neg c5] at H
    have c5b0 : (a0 == 2)=false:=beq_eq_false_iff_ne.mpr c5
    have c5b1 : (a0 != 2)=true:=bne_iff_ne.mpr c5
    by_cases c6 : a0=3
    ·
     rw [if_pos c6] at H
     have c6b0 : (a0 == 3)=true:=beq_iff_eq.mpr c6
     have c6b1 : (a0 != 3)=false:=bne_eq_false_iff_eq.mpr c6
     clear c6
     obtain rfl:=Option.some.inj H
     go_wp2
     go_ret
     exact ⟨yq,yd⟩
    ·
     rw [if_neg c6] at H
     have c6b0 : (a0 == 3)=false:=beq_eq_false_iff_ne.mpr c6
     have c6b1 : (a0 != 3)=true:=bne_iff_ne.mpr c6
     by_cases c7 : a0=4
     ·
      rw [if_pos c7] at H
      have c7b0 : (a0 == 4)=true:=beq_iff_eq.mpr c7
      have c7b1 : (a0 != 4)=false:=bne_eq_false_iff_eq.mpr c7
      clear c7
      obtain rfl:=Option.some.inj H
      go_wp2
      go_ret
      exact ⟨yq,yd⟩
     ·
      rw [if_neg c7] at H
      have c7b0 : (a0 == 4)=false:=beq_eq_false_iff_ne.mpr c7
      have c7b1 : (a0 != 4)=true:=bne_iff_ne.mpr c7
      obtain rfl:=Option.some.inj H
      go_wp2
      go_ret
      exact ⟨yq,yd⟩
def psalteryref11_Right.l0 : Nat→List Int→Bool→Int→Option (Bool)
 | 0,_,_,_=>none
 | k+1,x0,x3,x4=>if x4 < (x0.length : Int) then (if x3=true then (if 0≤x4 then (if (rd x0 x4) ≥ 0 then (psalteryref11_Right.l0 k x0 (decide ((rd x0 x4)≤44)) (wrap64 (x4+1))) else (psalteryref11_Right.l0 k x0 false (wrap64 (x4+1)))) else (none)) else (psalteryref11_Right.l0 k x0 false (wrap64 (x4+1)))) else (some x3)
def psalteryref11_Right.f (k : Nat) (l0 : List Int) : Option (Bool):=psalteryref11_Right.l0 k l0 ((l0.length : Int) == 5) 0
theorem psalteryref11_Right.mono_l : ∀ k,(∀ y0 y1 y2,LeO (psalteryref11_Right.l0 k y0 y1 y2) (psalteryref11_Right.l0 (k+1) y0 y1 y2))
 | 0=>fun _ _ _ r h=>by simp [psalteryref11_Right.l0] at h
 | k+1=>by
  have ih0:=psalteryref11_Right.mono_l k
  ·
   intro y0 y1 y2
   unfold psalteryref11_Right.l0
   repeat' with_reducible first|apply ih0|apply yLr|apply yLn|apply yLi|apply yLb|intro _
theorem psalteryref11_Right.mono : ∀ a0 k,LeO (psalteryref11_Right.f k a0) (psalteryref11_Right.f (k+1) a0):=by
 intro a0 k
 have ih0:=psalteryref11_Right.mono_l k
 unfold psalteryref11_Right.f
 repeat' with_reducible first|apply ih0|apply yLr|apply yLn|apply yLi|apply yLb|intro _
set_option maxHeartbeats 8000000 in
set_option maxRecDepth 100000 in
theorem psalteryref11_Right.calls (k : Nat) (A0 : Option Addr) (c0 : Nat) (l0 : List Int) (r : Bool) (w : World) (hr0 : Kd.C (Kd.int .i64) w A0 l0.length l0) (hc0 : l0.length≤c0) (h : psalteryref11_Right.f k l0=some r) :
  Calls Try.prog 47 #[.slice A0 l0.length c0] w fun e w' => e=.returned (.bool r)∧Drawn0 w w' := by
 have HR0:=zm hr0;have HC0:=zm hc0;clear hr0 hc0
 have H : (psalteryref11_Right.l0 k l0 ((l0.length : Int) == 5) 0)=some r:=h
 clear h
 have H' := zm H
 clear H
 go_enter Try.func47,Try.ntmps47
 go_wp2
 go_loopg [3,4] k (fun kq v3 v4 w' => ∃ (x3_1 : Bool) (x4_1 : Int),v3=.bool x3_1∧v4=.int .i64 x4_1∧Aside0 (psalteryref11_Right.l0 kq l0 x3_1 x4_1=some r)∧Aside0 (kq≤k)∧Drawn0 w w')
 case atStart=>exact ⟨(((l0.length : Int) == 5)),(0),yq,yq,H',⟨Nat.le_refl _⟩,yd⟩
 case round =>
  clear H'
  obtain ⟨x3_1,x4_1,rfl,rfl,HA,HK1,⟨m1,rfl⟩⟩:=hrel
  obtain ⟨k1,rfl⟩:=ysu gk (fun h=>by subst h;exact absurd HA.out (by simp [psalteryref11_Right.l0]))
  have H:=HA.out;clear HA
  simp only [psalteryref11_Right.l0] at H
  by_cases c2 : x4_1 < (l0.length : Int)
  ·
   rw [if_pos c2] at H
   have c2b0 : decide (x4_1 < (l0.length : Int))=true:=decide_eq_true c2
   clear c2
   by_cases c3 : x3_1=true
   ·
    subst c3
    rw [if_pos rfl] at H
    obtain ⟨c4,H⟩:=yif H
    have c4b0 : decide (0≤x4_1)=true:=decide_eq_true c4
    clear c4
    by_cases c5 : (rd l0 x4_1) ≥ 0
    ·
     rw [if_pos c5] at H
     have c5b0 : decide (0≤(rd l0 x4_1))=true:=decide_eq_true c5
     clear c5
     have H' := zm H
     clear H
     obtain ⟨ad671,e671,hx671_0,p671,q671⟩:=yai HR0 x4_1
     cases e671
     have p672 : 0≤(x4_1 : Int):=yt
     have q672 : x4_1 < (l0.length : Int):=yt
     obtain ⟨ad672,e672,hx672_0⟩:=Kd.at_int HR0.out x4_1 p672 q672
     obtain rfl : ad671=ad672:=(by injection e672)
     replace p672:=eq_true p672
     replace q672:=eq_true q672
     go_wp2
     go_roundg k1
     case measure=>exact yom1 HK1
     case rel=>exact ⟨(decide ((rd l0 x4_1)≤44)),(wrap64 (x4_1+1)),yq,yq,H',⟨yom1 HK1⟩,yd⟩
    ·
     rw [if_neg c5] at H
     have c5b0 : decide (0≤(rd l0 x4_1))=false:=decide_eq_false c5
     clear c5
     have H' := zm H
     clear H
     obtain ⟨ad671,e671,hx671_0,p671,q671⟩:=yai HR0 x4_1
     cases e671
     go_wp2
     go_roundg k1
     case measure=>exact yom1 HK1
     case rel=>exact ⟨(false),(wrap64 (x4_1+1)),yq,yq,H',⟨yom1 HK1⟩,yd⟩
   ·
    replace c3:=Bool.eq_false_iff.mpr c3
    subst c3
    rw [ynf] at H
    have H' := zm H
    clear H
    go_wp2
    go_roundg k1
    case measure=>exact yom1 HK1
    case rel=>exact ⟨(false),(wrap64 (x4_1+1)),yq,yq,H',⟨yom1 HK1⟩,yd⟩
  ·
   rw [if_neg c2] at H
   have c2b0 : decide (x4_1 < (l0.length : Int))=false:=decide_eq_false c2
   clear c2
   obtain rfl:=Option.some.inj H
   go_wp2
   go_ret
   exact ⟨yq,yd⟩
def psalteryref12_Fair.l0 : Nat→List (List Int)→Int→Option (Bool)
 | 0,_,_=>none
 | k+1,x1,x5=>if x5 < (x1.length : Int) then (if 0≤x5 then ((psalteryref11_Right.f k (rd_L1 x1 x5)).bind fun t674=>(if t674=true then (psalteryref12_Fair.l0 k x1 (wrap64 (x5+1))) else (some false))) else (none)) else (some true)
def psalteryref12_Fair.f (k : Nat) (a0 : Int) (l1 : List (List Int)) : Option (Bool):=if (l1.length : Int)=a0 then (psalteryref12_Fair.l0 k l1 0) else (some false)
theorem psalteryref12_Fair.mono_l : ∀ k,(∀ y0 y1,LeO (psalteryref12_Fair.l0 k y0 y1) (psalteryref12_Fair.l0 (k+1) y0 y1))
 | 0=>fun _ _ r h=>by simp [psalteryref12_Fair.l0] at h
 | k+1=>by
  have ih0:=psalteryref12_Fair.mono_l k
  ·
   intro y0 y1
   unfold psalteryref12_Fair.l0
   repeat' with_reducible first|apply ih0|apply psalteryref11_Right.mono|apply yLr|apply yLn|apply yLi|apply yLb|intro _
theorem psalteryref12_Fair.mono : ∀ a0 a1 k,LeO (psalteryref12_Fair.f k a0 a1) (psalteryref12_Fair.f (k+1) a0 a1):=by
 intro a0 a1 k
 have ih0:=psalteryref12_Fair.mono_l k
 unfold psalteryref12_Fair.f
 repeat' with_reducible first|apply ih0|apply psalteryref11_Right.mono|apply yLr|apply yLn|apply yLi|apply yLb|intro _
set_option maxHeartbeats 8000000 in
set_option maxRecDepth 100000 in
theorem psalteryref12_Fair.calls (k : Nat) (a0 : Int) (A1 : Option Addr) (c1 : Nat) (l1 : List (List Int)) (r : Bool) (w : World) (hr1 : Kd.C (Kd.slice 3 (Kd.int .i64)) w A1 l1.length l1) (hc1 : l1.length≤c1) (h : psalteryref12_Fair.f k a0 l1=some r) :
  Calls Try.prog 17 #[.int .i64 a0, .slice A1 l1.length c1] w fun e w' => e=.returned (.bool r)∧Drawn0 w w' := by
 have HR1:=zm hr1;have HC1:=zm hc1;clear hr1 hc1
 have H : (if (l1.length : Int)=a0 then (psalteryref12_Fair.l0 k l1 0) else (some false))=some r:=h
 clear h
 by_cases c3 : (l1.length : Int)=a0
 ·
  rw [if_pos c3] at H
  have c3b0 : ((l1.length : Int) == a0)=true:=beq_iff_eq.mpr c3
  have c3b1 : ((l1.length : Int) != a0)=false:=bne_eq_false_iff_eq.mpr c3
  clear c3
  have H' := zm H
  clear H
  go_enter Try.func17,Try.ntmps17
  go_wp2
  go_loopg [5] k (fun kq v5 w' => ∃ (x5_1 : Int),v5=.int .i64 x5_1∧Aside0 (psalteryref12_Fair.l0 kq l1 x5_1=some r)∧Aside0 (kq≤k)∧Drawn0 w w')
  case atStart=>exact ⟨(0),yq,H',⟨Nat.le_refl _⟩,yd⟩
  case round =>
   clear H'
   try clear c1
   try clear c3b0
   try clear c3b1
   obtain ⟨x5_1,rfl,HA,HK1,⟨m1,rfl⟩⟩:=hrel
   obtain ⟨k1,rfl⟩:=ysu gk (fun h=>by subst h;exact absurd HA.out (by simp [psalteryref12_Fair.l0]))
   have H:=HA.out;clear HA
   simp only [psalteryref12_Fair.l0] at H
   by_cases c4 : x5_1 < (l1.length : Int)
   ·
    rw [if_pos c4] at H
    have c4b0 : decide (x5_1 < (l1.length : Int))=true:=decide_eq_true c4
    clear c4
    obtain ⟨c5,H⟩:=yif H
    have c5b0 : decide (0≤x5_1)=true:=decide_eq_true c5
    clear c5
    obtain ⟨t674,A6,H⟩:=ybi H
    by_cases c7 : t674=true
    ·
     subst c7
     rw [if_pos rfl] at H
     have H' := zm H
     clear H
     have p673 : 0≤(x5_1 : Int):=yt
     have q673 : x5_1 < (l1.length : Int):=yt
     obtain ⟨ad673,A673_0,c673_0,e673,hx673_0,hl673_0,hi673_0⟩:=at_L1 HR1.out x5_1 p673 q673
     cases e673
     have HR673_0:=zm hi673_0;have HC673_0:=zm hl673_0;clear hi673_0 hl673_0
     replace p673:=eq_true p673
     replace q673:=eq_true q673
     go_wp2_with (first|((with_reducible refine gate_callee (f:=47) rfl ?_);refine ygl 20 Try.func47 #[.slice A673_0 (rd_L1 l1 x5_1).length c673_0] ?_;(with_reducible refine (psalteryref11_Right.calls k1 _ _ (rd_L1 l1 x5_1) true _ ?side1 HC673_0.out A6.out).mono ?_);(case side1=>exact yce HR673_0.out);rintro e w' ⟨rfl,⟨nd,rfl⟩⟩;refine ⟨_,rfl, ?_⟩))
     go_roundg k1
     case measure=>exact yom1 HK1
     case rel=>exact ⟨(wrap64 (x5_1+1)),yq,H',⟨yom1 HK1⟩,yd⟩
    ·
     replace c7:=Bool.eq_false_iff.mpr c7
     subst c7
     rw [ynf] at H
     obtain rfl:=Option.some.inj H
     have p673 : 0≤(x5_1 : Int):=yt
     have q673 : x5_1 < (l1.length : Int):=yt
     obtain ⟨ad673,A673_0,c673_0,e673,hx673_0,hl673_0,hi673_0⟩:=at_L1 HR1.out x5_1 p673 q673
     cases e673
     have HR673_0:=zm hi673_0;have HC673_0:=zm hl673_0;clear hi673_0 hl673_0
     replace p673:=eq_true p673
     replace q673:=eq_true q673
     go_wp2_with (first|((with_reducible refine gate_callee (f:=47) rfl ?_);refine ygl 20 Try.func47 #[.slice A673_0 (rd_L1 l1 x5_1).length c673_0] ?_;(with_reducible refine (psalteryref11_Right.calls k1 _ _ (rd_L1 l1 x5_1) false _ ?side1 HC673_0.out A6.out).mono ?_);(case side1=>exact yce HR673_0.out);rintro e w' ⟨rfl,⟨nd,rfl⟩⟩;refine ⟨_,rfl, ?_⟩))
     go_ret
     exact ⟨yq,yd⟩
   ·
    rw [if_neg c4] at H
    have c4b0 : decide (x5_1 < (l1.length : Int))=false:=decide_eq_false c4
    clear c4
    obtain rfl:=Option.some.inj H
    go_wp2
    go_ret
    exact ⟨yq,yd⟩
 ·
  rw [if_neg c3] at H
  have c3b0 : ((l1.length : Int) == a0)=false:=beq_eq_false_iff_ne.mpr c3
  have c3b1 : ((l1.length : Int) != a0)=true:=bne_iff_ne.mpr c3
  obtain rfl:=Option.some.inj H
  go_enter Try.func17,Try.ntmps17
  go_wp2
  go_ret
  exact ⟨yq,yd⟩
def psalteryref12_More.f (l0 : List Int) (a1 : Int) : Option (List Int):=(some (([] : List Int) : List Int)).bind fun y677=>(if y677.length+l0.length < 17592186044416 then ((some (y677 ++ l0 : List Int)).bind fun y680=>(if 0≤a1 then (if a1 < (y680.length : Int) then (some (y680.set (a1 : Int).toNat (wrap64 ((rd y680 a1)+1)))) else (none)) else (none))) else (none))
set_option maxHeartbeats 8000000 in
set_option maxRecDepth 100000 in
theorem psalteryref12_More.calls (A0 : Option Addr) (c0 : Nat) (l0 : List Int) (a1 : Int) (r : List Int) (w : World) (hr0 : Kd.C (Kd.int .i64) w A0 l0.length l0) (hc0 : l0.length≤c0) (h : psalteryref12_More.f l0 a1=some r) :
  Calls Try.prog 96 #[.slice A0 l0.length c0, .int .i64 a1] w fun e w' => ∃ v0_ : Value,e=.returned (v0_)∧Kd.R (Kd.int .i64) 3 w' w.heap.size (fun _=>True) v0_ r∧Below w.heap.size w w' := by
 have HR0:=zm hr0;have HC0:=zm hc0;clear hr0 hc0;have HB:=zm (Below.refl w.heap.size w)
 have H : ((some (([] : List Int) : List Int)).bind fun y677=>(if y677.length+l0.length < 17592186044416 then ((some (y677 ++ l0 : List Int)).bind fun y680=>(if 0≤a1 then (if a1 < (y680.length : Int) then (some (y680.set (a1 : Int).toNat (wrap64 ((rd y680 a1)+1)))) else (none)) else (none))) else (none)))=some r:=h
 clear h
 obtain ⟨y677,hy677⟩ : ∃ y_ : List Int,y_=(([] : List Int)):=⟨_,rfl⟩
 replace H : (if y677.length+l0.length < 17592186044416 then ((some (y677 ++ l0 : List Int)).bind fun y680=>(if 0≤a1 then (if a1 < (y680.length : Int) then (some (y680.set (a1 : Int).toNat (wrap64 ((rd y680 a1)+1)))) else (none)) else (none))) else (none))=some r:=yrw hy677 H
 have Ny677:=zm hy677;clear hy677
 obtain ⟨c3,H⟩:=yif H
 have LMc3:=zm c3;clear c3
 obtain ⟨y680,hy680⟩ : ∃ y_ : List Int,y_=(y677 ++ l0):=⟨_,rfl⟩
 replace H : (if 0≤a1 then (if a1 < (y680.length : Int) then (some (y680.set (a1 : Int).toNat (wrap64 ((rd y680 a1)+1)))) else (none)) else (none))=some r:=yrw hy680 H
 have Ny680:=zm hy680;clear hy680
 obtain ⟨c4,H⟩:=yif H
 have c4b0 : decide (0≤a1)=true:=decide_eq_true c4
 clear c4
 obtain ⟨c5,H⟩:=yif H
 have c5b0 : decide (a1 < (y680.length : Int))=true:=decide_eq_true c5
 clear c5
 obtain ⟨y684,hy684⟩ : ∃ y_ : List Int,y_=(y680.set (a1 : Int).toNat (wrap64 ((rd y680 a1)+1))):=⟨_,rfl⟩
 replace H : (some y684)=some r:=yrw hy684 H
 have Ny684:=zm hy684;clear hy684
 obtain rfl:=Option.some.inj H
 go_enter Try.func96,Try.ntmps96
 go_wp2_with (first|((with_reducible refine gate_dst (N:=6) rfl ?_);refine Kd.R_lit (Kd.int .i64) _ 3 ?hg (N:=6) ?hd (xs:=([] : List Int)) (inner := []) (ok:=fun _=>True) (okp:=fun _=>True) ?hr ?hp (fun _ hk=>hk) trivial (Below.refl _ _) (Nat.le_refl _) (by simp) ?_;(case hd=>rfl);(case hg=>rfl);(case hr=>first|(go_simp;done)|(go_simp;rfl));(case hp=>exact (Reps.none _ _));intro v678 w7 ho8 hb hg_ hnew_;clear hg_ hnew_;(first|rw [← Ny677.out] at ho8|(simp only [Int.reduceToNat] at ho8;rw [← Ny677.out] at ho8));have HO679:=zm (Kd.R_lower ho8 (zE yhb));replace HB:=ybs hb;clear hb ho8)|((with_reducible refine gate_builtin (b:=.append) (xs := #[.tmp 6, .tmp 7]) rfl ?_);at_builtin;refine Kd.R_append_rows (Kd.int .i64) (w0:=w) w.heap.size rfl (.tmp 6) (.tmp 7) 49 3 (.int .i64 0) 8 rfl Try.underlying49 info3 rfl (by decide) (by omega) v678 y677 l0 _ _ _ (fun _=>True) (fun _=>False) rfl rfl ?aO ?aR (fun _ _ h=>h) (fun _ h=>h.elim) ?aF ?aB ?aS ?aL ?_;(case aR=>exact ycb HR0);(case aB=>exact yhb);(case aF=>exact (fun _ _=>trivial));(case aO=>exact (yr HO679));(case aS=>exact (zE yhb));(case aL=>have:=LMc3.out;omega);intro v681 w9 ho hb hg hat;rw [← Ny680.out] at ho;replace HB:=zm (hb);have HO682:=zm (ho);clear HO679;clear ho hb hg hat;obtain ⟨Ao10,co10,eo10⟩:=Kd.R_slice HO682.out;subst eo10;have p683 : 0≤(a1 : Int):=yt;have q683 : a1 < (y680.length : Int):=yt;obtain ⟨ad683,e683,hx683_0⟩:=Kd.at_int (Kd.R_reads' HO682.out).2.2 a1 p683 q683;cases e683;replace p683:=eq_true p683;replace q683:=eq_true q683;have p6 : 0≤(a1 : Int):=yt;have q6 : (a1 : Int) < ((y680.length : Int) : Int):=yt;obtain ⟨go6,co6,eo6,gb6,gl6,cl6,HG6⟩:=Kd.R_form HO682.out (by omega);(first|cases eo6|(injection eo6 with ea_ en_ ec_;(first|subst ea_|(injection ea_ with ea_;subst ea_));subst ec_;clear en_));have GB6:=zm gb6;have GG6:=zm HG6;clear gb6 gl6 HG6;(first|simp only [add_plain] at hx683_0|skip);obtain ⟨hx6_0,hf6_0⟩:=Kd.R_celln 0 HO682.out (a1 : Int) p6 q6;replace p6:=eq_true p6;replace q6:=eq_true q6;obtain ⟨hy11_,hz11_⟩:=Kd.R_celln 0 HO682.out (a1 : Int) (yt) (yt);have HP11:=Kd.R_putg HO682.out (a1 : Int) (wrap64 ((rd y680 a1)+1)))|((with_reducible refine gate_store (t:=3) (p:=16) rfl ?_);refine store_event (t:=3) (p:=16) (v := ?vo_w12) (w1:=(w9.setCell ⟨go6,(a1 : Int).toNat,none⟩ (.int .i64 (wrap64 ((rd y680 a1)+1))))) ?hg ?ho ?hn ?hr ?_;(case ho=>rfl);(case hg=>rfl);(case hn=>rfl);(case hr=>first|(go_simp;done)|(go_simp;rfl));intro w12 hw;have hg : w9.grownBy w12 (some go6):=(by rw [hw];exact HP11.2);have hp_ : Kd.R (Kd.int .i64) 3 w12 w.heap.size (fun _=>True) (.slice (some ⟨go6,0,none⟩) y680.length co10) y684:=(by rw [hw,Ny684.out];exact HP11.1);clear HP11;replace HO682:=zm (hp_);replace HB:=zm ((by rw [hw];exact zk (HB.out) GB6.out : Below w.heap.size w w12));clear hg hw hp_))
 go_ret
 exact ⟨_,ye,yr HO682,yhb⟩
def psalteryref03_Log2.f : Nat→Int→Option (Int)
 | 0,_=>none
 | k+1,a0=>if a0=0 then (some (-1)) else ((psalteryref03_Log2.f k (IntKind.u64.wrap (Int.tdiv a0 2))).bind fun t700=>(some (wrap64 (1+t700))))
theorem psalteryref03_Log2.mono_l : ∀ k,(∀ y0,LeO (psalteryref03_Log2.f k y0) (psalteryref03_Log2.f (k+1) y0))
 | 0=>fun _ r h=>by simp [psalteryref03_Log2.f] at h
 | k+1=>by
  have ih0:=psalteryref03_Log2.mono_l k
  ·
   intro y0
   unfold psalteryref03_Log2.f
   repeat' with_reducible first|apply ih0|apply yLr|apply yLn|apply yLi|apply yLb|intro _
theorem psalteryref03_Log2.mono : ∀ a0 k,LeO (psalteryref03_Log2.f k a0) (psalteryref03_Log2.f (k+1) a0):=by
 intro a0 k
 have ih0:=psalteryref03_Log2.mono_l k
 exact ih0 a0
set_option maxHeartbeats 8000000 in
set_option maxRecDepth 100000 in
theorem psalteryref03_Log2.calls (k : Nat) : ∀ (a0 : Int) (r : Int) (w : World) (h : psalteryref03_Log2.f k a0=some r),
  Calls Try.prog 102 #[.int .u64 a0] w fun e w' => e=.returned (.int .i64 r)∧Drawn0 w w' := by
 induction k using Nat.strongRecOn with
 | _ k ih =>
 intro a0 r w h
 cases k with
 | zero=>exact absurd h (by simp [psalteryref03_Log2.f])
 | succ k =>
 simp only [psalteryref03_Log2.f] at h
 have H : (if a0=0 then (some (-1)) else ((psalteryref03_Log2.f k (IntKind.u64.wrap (Int.tdiv a0 2))).bind fun t700=>(some (wrap64 (1+t700)))))=some r:=h
 clear h
 by_cases c2 : a0=0
 ·
  rw [if_pos c2] at H
  have c2b0 : (a0 == 0)=true:=beq_iff_eq.mpr c2
  have c2b1 : (a0 != 0)=false:=bne_eq_false_iff_eq.mpr c2
  clear c2
  obtain rfl:=Option.some.inj H
  go_enter Try.func102,Try.ntmps102
  go_wp2
  go_ret
  exact ⟨yq,yd⟩
 ·
  rw [if_neg c2] at H
  have c2b0 : (a0 == 0)=false:=beq_eq_false_iff_ne.mpr c2
  have c2b1 : (a0 != 0)=true:=bne_iff_ne.mpr c2
  obtain ⟨t700,A3,H⟩:=ybi H
  obtain rfl:=Option.some.inj H
  go_enter Try.func102,Try.ntmps102
  go_wp2_with (first|((with_reducible refine gate_callee (f:=102) rfl ?_);refine ygl 7 Try.func102 #[.int .u64 (IntKind.u64.wrap (Int.tdiv a0 2))] ?_;(with_reducible refine (ih k (by omega) (IntKind.u64.wrap (Int.tdiv a0 2)) t700 _ A3.out).mono ?_);rintro e w' ⟨rfl,⟨nd,rfl⟩⟩;refine ⟨_,rfl, ?_⟩))
  go_ret
  exact ⟨yq,yd⟩
mutual
def psalteryref06_Row.l0 : Nat→Int→List Int→Int→Option (List Int)
 | 0,_,_,_=>none
 | k+1,x0,x3,x4=>if x4≤12 then (if x4=0 then (if x3.length < 17592186044416 then (psalteryref06_Row.l0 k x0 (x3 ++ [1]) (wrap64 (x4+1))) else (none)) else (if x3.length < 17592186044416 then (psalteryref06_Row.l0 k x0 (x3 ++ [0]) (wrap64 (x4+1))) else (none))) else (psalteryref06_Row.l1 k x0 x3 0)
def psalteryref06_Row.l1 : Nat→Int→List Int→Int→Option (List Int)
 | 0,_,_,_=>none
 | k+1,x0,x3,x5=>if x5 < x0 then (psalteryref06_Row.l2 k x0 x3 x5 ([] : List Int) 0) else (some x3)
def psalteryref06_Row.l2 : Nat→Int→List Int→Int→List Int→Int→Option (List Int)
 | 0,_,_,_,_,_=>none
 | k+1,x0,x3,x5,x6,x7=>if x7≤12 then (if 0≤x7 then (if x7 < (x3.length : Int) then (psalteryref06_Row.l3 k x0 x3 x5 x6 x7 (rd x3 x7) 1) else (none)) else (none)) else (psalteryref06_Row.l1 k x0 x6 (wrap64 (x5+1)))
def psalteryref06_Row.l3 : Nat→Int→List Int→Int→List Int→Int→Int→Int→Option (List Int)
 | 0,_,_,_,_,_,_,_=>none
 | k+1,x0,x3,x5,x6,x7,x8,x9=>if x9≤x7 then (if 0≤(wrap64 (x7 - x9)) then (if (wrap64 (x7 - x9)) < (x3.length : Int) then (psalteryref06_Row.l3 k x0 x3 x5 x6 x7 (IntKind.u64.wrap (x8+(IntKind.u64.wrap (2 * (rd x3 (wrap64 (x7 - x9))))))) (wrap64 (x9+1))) else (none)) else (none)) else (if x6.length < 17592186044416 then (psalteryref06_Row.l2 k x0 x3 x5 (x6 ++ [x8]) (wrap64 (x7+1))) else (none))
end
def psalteryref06_Row.f (k : Nat) (a0 : Int) : Option (List Int):=psalteryref06_Row.l0 k a0 ([] : List Int) 0
theorem psalteryref06_Row.mono_l : ∀ k,(∀ y0 y1 y2,LeO (psalteryref06_Row.l0 k y0 y1 y2) (psalteryref06_Row.l0 (k+1) y0 y1 y2))∧(∀ y0 y1 y2,LeO (psalteryref06_Row.l1 k y0 y1 y2) (psalteryref06_Row.l1 (k+1) y0 y1 y2))∧(∀ y0 y1 y2 y3 y4,LeO (psalteryref06_Row.l2 k y0 y1 y2 y3 y4) (psalteryref06_Row.l2 (k+1) y0 y1 y2 y3 y4))∧(∀ y0 y1 y2 y3 y4 y5 y6,LeO (psalteryref06_Row.l3 k y0 y1 y2 y3 y4 y5 y6) (psalteryref06_Row.l3 (k+1) y0 y1 y2 y3 y4 y5 y6))
 | 0=>⟨fun _ _ _ r h=>by simp [psalteryref06_Row.l0] at h,fun _ _ _ r h=>by simp [psalteryref06_Row.l1] at h,fun _ _ _ _ _ r h=>by simp [psalteryref06_Row.l2] at h,fun _ _ _ _ _ _ _ r h=>by simp [psalteryref06_Row.l3] at h⟩
 | k+1=>by
  obtain ⟨ih0,ih1,ih2,ih3⟩:=psalteryref06_Row.mono_l k
  refine ⟨?_, ?_, ?_, ?_⟩
  ·
   intro y0 y1 y2
   unfold psalteryref06_Row.l0
   repeat' with_reducible first|apply ih0|apply ih1|apply ih2|apply ih3|apply yLr|apply yLn|apply yLi|apply yLb|intro _
  ·
   intro y0 y1 y2
   unfold psalteryref06_Row.l1
   repeat' with_reducible first|apply ih0|apply ih1|apply ih2|apply ih3|apply yLr|apply yLn|apply yLi|apply yLb|intro _
  ·
   intro y0 y1 y2 y3 y4
   unfold psalteryref06_Row.l2
   repeat' with_reducible first|apply ih0|apply ih1|apply ih2|apply ih3|apply yLr|apply yLn|apply yLi|apply yLb|intro _
  ·
   intro y0 y1 y2 y3 y4 y5 y6
   unfold psalteryref06_Row.l3
   repeat' with_reducible first|apply ih0|apply ih1|apply ih2|apply ih3|apply yLr|apply yLn|apply yLi|apply yLb|intro _
theorem psalteryref06_Row.mono : ∀ a0 k,LeO (psalteryref06_Row.f k a0) (psalteryref06_Row.f (k+1) a0):=by
 intro a0 k
 obtain ⟨ih0,ih1,ih2,ih3⟩:=psalteryref06_Row.mono_l k
 unfold psalteryref06_Row.f
 repeat' with_reducible first|apply ih0|apply ih1|apply ih2|apply ih3|apply yLr|apply yLn|apply yLi|apply yLb|intro _
set_option maxHeartbeats 8000000 in
set_option maxRecDepth 100000 in
theorem psalteryref06_Row.calls (k : Nat) (a0 : Int) (r : List Int) (w : World) (h : psalteryref06_Row.f k a0=some r) :
  Calls Try.prog 81 #[.int .i64 a0] w fun e w' => ∃ v0_ : Value,e=.returned (v0_)∧Kd.R (Kd.int .u64) 51 w' w.heap.size (fun _=>True) v0_ r∧Below w.heap.size w w' := by
 have HB:=zm (Below.refl w.heap.size w)
 have H : (psalteryref06_Row.l0 k a0 ([] : List Int) 0)=some r:=h
 clear h
 have H' := zm H
 clear H
 go_enter Try.func81,Try.ntmps81
 go_wp2
 go_loopg [3,4] k (fun kq v3 v4 w' => ∃ (x3_1 : List Int) (x4_1 : Int),v4=.int .i64 x4_1∧Aside0 (psalteryref06_Row.l0 kq a0 x3_1 x4_1=some r)∧Aside0 (kq≤k)∧Aside0 (Kd.R (Kd.int .u64) 51 w' w.heap.size (fun _=>True) v3 x3_1)∧Aside0 (Below w.heap.size w w'))
 case atStart=>exact ⟨(([] : List Int)),(0),yq,H',⟨Nat.le_refl _⟩,⟨yn⟩,⟨yhb⟩⟩
 case round =>
  clear H'
  obtain ⟨x3_1,x4_1,rfl,HA,HK1,HO_3,HB⟩:=hrel
  obtain ⟨k1,rfl⟩:=ysu gk (fun h=>by subst h;exact absurd HA.out (by simp [psalteryref06_Row.l0]))
  have H:=HA.out;clear HA
  simp only [psalteryref06_Row.l0] at H
  by_cases c2 : x4_1≤12
  ·
   rw [if_pos c2] at H
   have c2b0 : decide (x4_1≤12)=true:=decide_eq_true c2
   clear c2
   by_cases c3 : x4_1=0
   ·
    rw [if_pos c3] at H
    have c3b0 : (x4_1 == 0)=true:=beq_iff_eq.mpr c3
    have c3b1 : (x4_1 != 0)=false:=bne_eq_false_iff_eq.mpr c3
    clear c3
    obtain ⟨c4,H⟩:=yif H
    have LMc4:=zm c4;clear c4
    obtain ⟨y685,hy685⟩ : ∃ y_ : List Int,y_=(x3_1 ++ [1]):=⟨_,rfl⟩
    replace H : (psalteryref06_Row.l0 k1 a0 y685 (wrap64 (x4_1+1)))=some r:=yrw hy685 H
    have Ny685:=zm hy685;clear hy685
    have H' := zm H
    clear H
    go_wp2_with (first|((with_reducible refine gate_builtin (b:=.append) (xs := #[.tmp 16, .tmp 17]) rfl ?_);at_builtin;refine Kd.R_append (Kd.int .u64) (w0:=w) w.heap.size rfl (.tmp 16) (.tmp 17) 126 51 (.int .u64 0) 8 rfl Try.underlying126 info51 rfl (by decide) (by omega) u3 x3_1 1 [.int .u64 1] (fun _=>True) (fun _=>False) rfl rfl ?aP (fun _ hk=>hk.elim) ?aF ?aO ?aB ?aS ?aL ?_;(case aP=>exact rfl);(case aB=>exact yhb);(case aF=>exact (fun _ _=>trivial));(case aO=>exact (yr HO_3));(case aS=>exact (zE yhb));(case aL=>have:=LMc4.out;omega);intro v686 w5 ho hb hg hat;rw [← Ny685.out] at ho;replace HB:=zm (hb);have HO687:=zm (ho);clear HO_3;clear ho hb hg hat))
    go_roundg k1
    case measure=>exact yom1 HK1
    case rel=>exact ⟨(y685),(wrap64 (x4_1+1)),yq,H',⟨yom1 HK1⟩,⟨yr HO687⟩,⟨yhb⟩⟩
   ·
    rw [if_neg c3] at H
    have c3b0 : (x4_1 == 0)=false:=beq_eq_false_iff_ne.mpr c3
    have c3b1 : (x4_1 != 0)=true:=bne_iff_ne.mpr c3
    obtain ⟨c6,H⟩:=yif H
    have LMc6:=zm c6;clear c6
    obtain ⟨y688,hy688⟩ : ∃ y_ : List Int,y_=(x3_1 ++ [0]):=⟨_,rfl⟩
    replace H : (psalteryref06_Row.l0 k1 a0 y688 (wrap64 (x4_1+1)))=some r:=yrw hy688 H
    have Ny688:=zm hy688;clear hy688
    have H' := zm H
    clear H
    go_wp2_with (first|((with_reducible refine gate_builtin (b:=.append) (xs := #[.tmp 19, .tmp 20]) rfl ?_);at_builtin;refine Kd.R_append (Kd.int .u64) (w0:=w) w.heap.size rfl (.tmp 19) (.tmp 20) 126 51 (.int .u64 0) 8 rfl Try.underlying126 info51 rfl (by decide) (by omega) u3 x3_1 0 [.int .u64 0] (fun _=>True) (fun _=>False) rfl rfl ?aP (fun _ hk=>hk.elim) ?aF ?aO ?aB ?aS ?aL ?_;(case aP=>exact rfl);(case aB=>exact yhb);(case aF=>exact (fun _ _=>trivial));(case aO=>exact (yr HO_3));(case aS=>exact (zE yhb));(case aL=>have:=LMc6.out;omega);intro v689 w7 ho hb hg hat;rw [← Ny688.out] at ho;replace HB:=zm (hb);have HO690:=zm (ho);clear HO_3;clear ho hb hg hat))
    go_roundg k1
    case measure=>exact yom1 HK1
    case rel=>exact ⟨(y688),(wrap64 (x4_1+1)),yq,H',⟨yom1 HK1⟩,⟨yr HO690⟩,⟨yhb⟩⟩
  ·
   rw [if_neg c2] at H
   have c2b0 : decide (x4_1≤12)=false:=decide_eq_false c2
   clear c2
   have H' := zm H
   clear H
   go_wp2
   go_loopg [3,5] k1 (fun kq v3 v5 w' => ∃ (x3_2 : List Int) (x5_2 : Int),v5=.int .i64 x5_2∧Aside0 (psalteryref06_Row.l1 kq a0 x3_2 x5_2=some r)∧Aside0 (kq≤k1)∧Aside0 (Kd.R (Kd.int .u64) 51 w' w.heap.size (fun _=>True) v3 x3_2)∧Aside0 (Below w.heap.size w w'))
   case atStart=>exact ⟨(x3_1),(0),yq,H',⟨Nat.le_refl _⟩,⟨yr HO_3⟩,⟨yhb⟩⟩
   case round =>
    clear H'
    try clear c2b0
    try clear c3
    obtain ⟨x3_2,x5_2,rfl,HA,HK2,HO_3,HB⟩:=hrel
    obtain ⟨k2,rfl⟩:=ysu gk (fun h=>by subst h;exact absurd HA.out (by simp [psalteryref06_Row.l1]))
    have H:=HA.out;clear HA
    simp only [psalteryref06_Row.l1] at H
    by_cases c8 : x5_2 < a0
    ·
     rw [if_pos c8] at H
     have c8b0 : decide (x5_2 < a0)=true:=decide_eq_true c8
     clear c8
     have H' := zm H
     clear H
     go_wp2
     go_loopg [6,7] k2 (fun kq v6 v7 w' => ∃ (x6_3 : List Int) (x7_3 : Int),v7=.int .i64 x7_3∧Aside0 (psalteryref06_Row.l2 kq a0 x3_2 x5_2 x6_3 x7_3=some r)∧Aside0 (kq≤k2)∧Aside0 (Kd.R (Kd.int .u64) 51 w' w.heap.size (fun k_=>some k_≠(v6 : Value).ownBlock) u3 x3_2)∧Aside0 (Kd.R (Kd.int .u64) 51 w' w.heap.size (fun k_=>some k_≠(u3 : Value).ownBlock) v6 x6_3)∧Aside0 (Below w.heap.size w w'))
     case atStart=>exact ⟨(([] : List Int)),(0),yq,H',⟨Nat.le_refl _⟩,⟨yR0 HO_3⟩,⟨yn⟩,⟨yhb⟩⟩
     case round =>
      clear H'
      try clear c8b0
      obtain ⟨x6_3,x7_3,rfl,HA,HK3,HO_3,HO_6,HB⟩:=hrel
      obtain ⟨k3,rfl⟩:=ysu gk (fun h=>by subst h;exact absurd HA.out (by simp [psalteryref06_Row.l2]))
      have H:=HA.out;clear HA
      simp only [psalteryref06_Row.l2] at H
      by_cases c9 : x7_3≤12
      ·
       rw [if_pos c9] at H
       have c9b0 : decide (x7_3≤12)=true:=decide_eq_true c9
       clear c9
       obtain ⟨c10,H⟩:=yif H
       have c10b0 : decide (0≤x7_3)=true:=decide_eq_true c10
       clear c10
       obtain ⟨c11,H⟩:=yif H
       have c11b0 : decide (x7_3 < (x3_2.length : Int))=true:=decide_eq_true c11
       clear c11
       have H' := zm H
       clear H
       obtain ⟨Ao12,co12,eo12⟩:=Kd.R_slice HO_3.out
       subst eo12
       have p691 : 0≤(x7_3 : Int):=yt
       have q691 : x7_3 < (x3_2.length : Int):=yt
       obtain ⟨ad691,e691,hx691_0⟩:=Kd.at_int (Kd.R_reads' HO_3.out).2.2 x7_3 p691 q691
       cases e691
       replace p691:=eq_true p691
       replace q691:=eq_true q691
       go_wp2
       go_loopg [8,9] k3 (fun kq v8 v9 w' => ∃ (x8_4 : Int) (x9_4 : Int),v8=.int .u64 x8_4∧v9=.int .i64 x9_4∧Aside0 (psalteryref06_Row.l3 kq a0 x3_2 x5_2 x6_3 x7_3 x8_4 x9_4=some r)∧Aside0 (kq≤k3)∧Aside0 (Kd.R (Kd.int .u64) 51 w' w.heap.size (fun k_=>some k_≠(u6 : Value).ownBlock) (.slice (some ad691) x3_2.length co12) x3_2)∧Aside0 (Kd.R (Kd.int .u64) 51 w' w.heap.size (fun k_=>some k_≠((.slice (some ad691) x3_2.length co12) : Value).ownBlock) u6 x6_3)∧Aside0 (Below w.heap.size w w'))
       case atStart=>exact ⟨(rd x3_2 x7_3),(1),yq,yq,H',⟨Nat.le_refl _⟩,⟨yr HO_3⟩,⟨yr HO_6⟩,⟨yhb⟩⟩
       case round =>
        clear H'
        try clear c9b0
        try clear c10b0
        try clear c11b0
        try clear hx691_0
        try clear p691
        try clear q691
        obtain ⟨x8_4,x9_4,rfl,rfl,HA,HK4,HO_3,HO_6,HB⟩:=hrel
        obtain ⟨k4,rfl⟩:=ysu gk (fun h=>by subst h;exact absurd HA.out (by simp [psalteryref06_Row.l3]))
        have H:=HA.out;clear HA
        simp only [psalteryref06_Row.l3] at H
        by_cases c13 : x9_4≤x7_3
        ·
         rw [if_pos c13] at H
         have c13b0 : decide (x9_4≤x7_3)=true:=decide_eq_true c13
         clear c13
         obtain ⟨ji14,hji14⟩ : ∃ j_ : Int,(wrap64 (x7_3 - x9_4))=j_:=⟨_,rfl⟩
         replace H : (if 0≤(ji14) then (if (ji14) < (x3_2.length : Int) then (psalteryref06_Row.l3 k4 a0 x3_2 x5_2 x6_3 x7_3 (IntKind.u64.wrap (x8_4+(IntKind.u64.wrap (2 * (rd x3_2 (ji14)))))) (wrap64 (x9_4+1))) else (none)) else (none))=some r:=by first|(rw [hji14] at H;exact H)|(simp only [hji14] at H ⊢; exact H)
         have hji14w : (IntKind.i64.wrap (x7_3 - x9_4))=ji14:=(i64_w _).trans hji14
         obtain ⟨c15,H⟩:=yif H
         have c15b0 : decide (0≤(ji14))=true:=decide_eq_true c15
         clear c15
         obtain ⟨c16,H⟩:=yif H
         have c16b0 : decide ((ji14) < (x3_2.length : Int))=true:=decide_eq_true c16
         clear c16
         have H' := zm H
         clear H
         have p692 : 0≤((ji14) : Int):=yt
         have q692 : (ji14) < (x3_2.length : Int):=yt
         obtain ⟨ad692,e692,hx692_0⟩:=Kd.at_int (Kd.R_reads' HO_3.out).2.2 (ji14) p692 q692
         obtain rfl : ad691=ad692:=(by injection e692)
         replace p692:=eq_true p692
         replace q692:=eq_true q692
         go_wp2
         go_roundg k4
         case measure=>exact yom4 HK1 HK2 HK3 HK4
         case rel=>exact ⟨(IntKind.u64.wrap (x8_4+(IntKind.u64.wrap (2 * (rd x3_2 (ji14)))))),(wrap64 (x9_4+1)),(by first|rfl|(simp;done)|(simp only [← hji14] <;> (first|rfl|simp))|(simp [*];done)),yq,H',⟨yom4 HK1 HK2 HK3 HK4⟩,⟨yr HO_3⟩,⟨yr HO_6⟩,⟨yhb⟩⟩
        ·
         rw [if_neg c13] at H
         have c13b0 : decide (x9_4≤x7_3)=false:=decide_eq_false c13
         clear c13
         obtain ⟨c17,H⟩:=yif H
         have LMc17:=zm c17;clear c17
         obtain ⟨y693,hy693⟩ : ∃ y_ : List Int,y_=(x6_3 ++ [x8_4]):=⟨_,rfl⟩
         replace H : (psalteryref06_Row.l2 k4 a0 x3_2 x5_2 y693 (wrap64 (x7_3+1)))=some r:=yrw hy693 H
         have Ny693:=zm hy693;clear hy693
         have H' := zm H
         clear H
         go_wp2_with (first|((with_reducible refine gate_builtin (b:=.append) (xs := #[.tmp 49, .tmp 51]) rfl ?_);at_builtin;refine Kd.R_append (Kd.int .u64) (w0:=w) w.heap.size rfl (.tmp 49) (.tmp 51) 126 51 (.int .u64 0) 8 rfl Try.underlying126 info51 rfl (by decide) (by omega) u6 x6_3 x8_4 [.int .u64 x8_4] (fun k_=>some k_≠(.slice (some ad691) x3_2.length co12 : Value).ownBlock) (fun _=>False) rfl rfl ?aP (fun _ hk=>hk.elim) ?aF ?aO ?aB ?aS ?aL ?_;(case aP=>exact rfl);(case aB=>exact yhb);(case aF=>exact (fun k_ hk=>Kd.fresh' (Kd.R_lt (yr HO_3)) k_ hk));(case aO=>exact (yr HO_6));(case aS=>exact (zE yhb));(case aL=>have:=LMc17.out;omega);intro v694 w18 ho hb hg hat;rw [← Ny693.out] at ho;replace HO_3:=zm (Kd.R_after (ok:=(fun _=>True)) (yR0 HO_3) hg hat);replace HB:=zm (hb);have HO695:=zm (ho);clear HO_6;clear ho hb hg hat))
         go_roundg k4
         case measure=>exact yom4 HK1 HK2 HK3 HK4
         case rel=>exact ⟨(y693),(wrap64 (x7_3+1)),yq,H',⟨yom4 HK1 HK2 HK3 HK4⟩,⟨yR0 HO_3⟩,⟨yr HO695⟩,⟨yhb⟩⟩
      ·
       rw [if_neg c9] at H
       have c9b0 : decide (x7_3≤12)=false:=decide_eq_false c9
       clear c9
       have H' := zm H
       clear H
       go_wp2
       go_roundg k3
       case measure=>exact yom3 HK1 HK2 HK3
       case rel=>exact ⟨(x6_3),(wrap64 (x5_2+1)),yq,H',⟨yom3 HK1 HK2 HK3⟩,⟨yR0 HO_6⟩,⟨yhb⟩⟩
    ·
     rw [if_neg c8] at H
     have c8b0 : decide (x5_2 < a0)=false:=decide_eq_false c8
     clear c8
     obtain rfl:=Option.some.inj H
     go_wp2
     go_ret
     exact ⟨_,ye,yr HO_3,yhb⟩
def psalteryref06_Count.f (k : Nat) (a0 : Int) (a1 : Int) : Option (Int):=(psalteryref06_Row.f k a0).bind fun t696=>(if 0≤a1 then (if a1 < (t696.length : Int) then (some (rd t696 a1)) else (none)) else (none))
theorem psalteryref06_Count.mono : ∀ a0 a1 k,LeO (psalteryref06_Count.f k a0 a1) (psalteryref06_Count.f (k+1) a0 a1):=by
 intro a0 a1 k
 unfold psalteryref06_Count.f
 repeat' with_reducible first|apply psalteryref06_Row.mono|apply yLr|apply yLn|apply yLi|apply yLb|intro _
set_option maxHeartbeats 8000000 in
set_option maxRecDepth 100000 in
theorem psalteryref06_Count.calls (k : Nat) (a0 : Int) (a1 : Int) (r : Int) (w : World) (h : psalteryref06_Count.f k a0 a1=some r) :
  Calls Try.prog 43 #[.int .i64 a0, .int .i64 a1] w fun e w' => e=.returned (.int .u64 r)∧Below w.heap.size w w' := by
 have HB:=zm (Below.refl w.heap.size w)
 have H : ((psalteryref06_Row.f k a0).bind fun t696=>(if 0≤a1 then (if a1 < (t696.length : Int) then (some (rd t696 a1)) else (none)) else (none)))=some r:=h
 clear h
 obtain ⟨t696,A3,H⟩:=ybi H
 obtain ⟨c4,H⟩:=yif H
 have c4b0 : decide (0≤a1)=true:=decide_eq_true c4
 clear c4
 obtain ⟨c5,H⟩:=yif H
 have c5b0 : decide (a1 < (t696.length : Int))=true:=decide_eq_true c5
 clear c5
 obtain rfl:=Option.some.inj H
 go_enter Try.func43,Try.ntmps43
 go_wp2_with (first|((with_reducible refine gate_callee (f:=81) rfl ?_);refine ygl 6 Try.func81 #[.int .i64 a0] ?_;(with_reducible refine (psalteryref06_Row.calls k a0 t696 _ A3.out).mono ?_);rintro e w6 ⟨v697,rfl,ho0,hb⟩;refine ⟨_,rfl, ?_⟩;have HO698:=zm (Kd.R_lower ho0 (zE yhb));replace HB:=ybs hb;(try clear hb);(try clear ho0);obtain ⟨Ao7,co7,eo7⟩:=Kd.R_slice HO698.out;subst eo7;have p699 : 0≤(a1 : Int):=yt;have q699 : a1 < (t696.length : Int):=yt;obtain ⟨ad699,e699,hx699_0⟩:=Kd.at_int (Kd.R_reads' HO698.out).2.2 a1 p699 q699;cases e699;replace p699:=eq_true p699;replace q699:=eq_true q699))
 go_ret
 exact ⟨ye,yhb⟩
def psalteryref06_Cost.f (k : Nat) (a0 : Int) (a1 : Int) : Option (Int):=(psalteryref06_Count.f k a0 a1).bind fun t701=>(if (IntKind.u64.wrap (t701 - 1)) < 65536 then ((psalteryref03_Log2.f k (IntKind.u64.wrap (t701 - 1))).bind fun t702=>(some (wrap64 (1+t702)))) else ((psalteryref03_Log2.f k (IntKind.u64.wrap (Int.tdiv (IntKind.u64.wrap (t701 - 1)) 65536))).bind fun t703=>(some (wrap64 (17+t703)))))
theorem psalteryref06_Cost.mono : ∀ a0 a1 k,LeO (psalteryref06_Cost.f k a0 a1) (psalteryref06_Cost.f (k+1) a0 a1):=by
 intro a0 a1 k
 unfold psalteryref06_Cost.f
 repeat' with_reducible first|apply psalteryref03_Log2.mono|apply psalteryref06_Count.mono|apply yLr|apply yLn|apply yLi|apply yLb|intro _
set_option maxHeartbeats 8000000 in
set_option maxRecDepth 100000 in
theorem psalteryref06_Cost.calls (k : Nat) (a0 : Int) (a1 : Int) (r : Int) (w : World) (h : psalteryref06_Cost.f k a0 a1=some r) :
  Calls Try.prog 101 #[.int .i64 a0, .int .i64 a1] w fun e w' => e=.returned (.int .i64 r)∧Below w.heap.size w w' := by
 have HB:=zm (Below.refl w.heap.size w)
 have H : ((psalteryref06_Count.f k a0 a1).bind fun t701=>(if (IntKind.u64.wrap (t701 - 1)) < 65536 then ((psalteryref03_Log2.f k (IntKind.u64.wrap (t701 - 1))).bind fun t702=>(some (wrap64 (1+t702)))) else ((psalteryref03_Log2.f k (IntKind.u64.wrap (Int.tdiv (IntKind.u64.wrap (t701 - 1)) 65536))).bind fun t703=>(some (wrap64 (17+t703))))))=some r:=h
 clear h
 obtain ⟨t701,A3,H⟩:=ybi H
 by_cases c4 : (IntKind.u64.wrap (t701 - 1)) < 65536
 ·
  rw [if_pos c4] at H
  have c4b0 : decide ((IntKind.u64.wrap (t701 - 1)) < 65536)=true:=decide_eq_true c4
  clear c4
  obtain ⟨t702,A5,H⟩:=ybi H
  obtain rfl:=Option.some.inj H
  go_enter Try.func101,Try.ntmps101
  go_wp2_with (first|((with_reducible refine gate_callee (f:=43) rfl ?_);refine ygl 8 Try.func43 #[.int .i64 a0, .int .i64 a1] ?_;(with_reducible refine (psalteryref06_Count.calls k a0 a1 t701 _ A3.out).mono ?_);rintro e w6 ⟨rfl,hb⟩;refine ⟨_,rfl, ?_⟩;replace HB:=ybs hb;(try clear hb))|((with_reducible refine gate_callee (f:=102) rfl ?_);refine ygl 13 Try.func102 #[.int .u64 (IntKind.u64.wrap (t701 - 1))] ?_;(with_reducible refine (psalteryref03_Log2.calls k (IntKind.u64.wrap (t701 - 1)) t702 _ A5.out).mono ?_);rintro e w' ⟨rfl,⟨nd,rfl⟩⟩;refine ⟨_,rfl, ?_⟩))
  go_ret
  exact ⟨ye,yhb⟩
 ·
  rw [if_neg c4] at H
  have c4b0 : decide ((IntKind.u64.wrap (t701 - 1)) < 65536)=false:=decide_eq_false c4
  clear c4
  obtain ⟨t703,A7,H⟩:=ybi H
  obtain rfl:=Option.some.inj H
  go_enter Try.func101,Try.ntmps101
  go_wp2_with (first|((with_reducible refine gate_callee (f:=43) rfl ?_);refine ygl 8 Try.func43 #[.int .i64 a0, .int .i64 a1] ?_;(with_reducible refine (psalteryref06_Count.calls k a0 a1 t701 _ A3.out).mono ?_);rintro e w8 ⟨rfl,hb⟩;refine ⟨_,rfl, ?_⟩;replace HB:=ybs hb;(try clear hb))|((with_reducible refine gate_callee (f:=102) rfl ?_);refine ygl 17 Try.func102 #[.int .u64 (IntKind.u64.wrap (Int.tdiv (IntKind.u64.wrap (t701 - 1)) 65536))] ?_;(with_reducible refine (psalteryref03_Log2.calls k (IntKind.u64.wrap (Int.tdiv (IntKind.u64.wrap (t701 - 1)) 65536)) t703 _ A7.out).mono ?_);rintro e w' ⟨rfl,⟨nd,rfl⟩⟩;refine ⟨_,rfl, ?_⟩))
  go_ret
  exact ⟨ye,yhb⟩
end Go.Proofs.Ytnmbndkojpjkmaa.Prt
