-- Functions of the program and of the document as plain Lean, each with the proof that the code comes to it. Written by a program of this session (wip/tools/myprint.py, pack.py) over the kit's printer; Lean checks it.
import Derived.Test.YtifkhfnmbiefaaaZToneEncodesPrt0
import Derived.Test.YtifkhfnmbiefaaaZToneEncodesM1
import Derived.Test.YtifkhfnmbiefaaaZToneEncodesSh
namespace Go.Proofs.Ytifkhfnmbiefaaa.Prt
open Go.RowKit Go.Proofs.YtifkhfnmbiefaaaW.PrintWords Go.Proofs.YtifkhfnmbiefaaaW.PrintLast Go.Proofs.YtifkhfnmbiefaaaW.PrintMore
attribute [local go_sem] max2_int min2_int max_two min_two max_three min_three max_four min_four   -- for this text's walks alone
set_option linter.unusedVariables false
set_option linter.unusedSimpArgs false


mutual
def ccodec_Encode.l0 : Nat→Int→Int→List (List Int)→Int→Int→List (List Int)→Bool→List (List Int)→Option (Bool × (List (List Int)) × (List (List (List Int))) × Int)
 | 0,_,_,_,_,_,_,_,_=>none
 | k+1,x0,x1,x35,x36,x37,x238000,x241000,x241001=>if x37 < x36 then (if 0≤x37 then (if x37 < (x35.length : Int) then ((band_Gains.f k (rd_L1 x35 x37)).bind fun bt242=>(if x241001.length < 5864062014805 then (ccodec_Encode.l0 k x0 x1 x35 x36 (wrap64 (x37+1)) x238000 x241000 (x241001 ++ [bt242.1])) else (none))) else (none)) else (none)) else ((alloc_Pulses.f k x0 x1 x241001).bind fun bt249=>(ccodec_Encode.l1 k bt249.1 x238000 (x238000.length : Int) 0 x241000 x241001 ([] : List (List (List Int)))))
def ccodec_Encode.l1 : Nat→List (List Int)→List (List Int)→Int→Int→Bool→List (List Int)→List (List (List Int))→Option (Bool × (List (List Int)) × (List (List (List Int))) × Int)
 | 0,_,_,_,_,_,_,_=>none
 | k+1,x15,x62,x63,x64,x241000,x241001,x241002=>if x64 < x63 then (if 0≤x64 then (if x64 < (x62.length : Int) then ((band_Split.f k (rd_L1 x62 x64)).bind fun bt254=>(ccodec_Encode.l2 k x15 x64 ([] : List (List Int)) x62 x63 x64 bt254.1 (bt254.1.length : Int) 0 x241000 x241001 x241002)) else (none)) else (none)) else (some (x241000,x241001,x241002,0))
def ccodec_Encode.l2 : Nat→List (List Int)→Int→List (List Int)→List (List Int)→Int→Int→List (List Int)→Int→Int→Bool→List (List Int)→List (List (List Int))→Option (Bool × (List (List Int)) × (List (List (List Int))) × Int)
 | 0,_,_,_,_,_,_,_,_,_,_,_,_=>none
 | k+1,x15,x17,x21,x62,x63,x64,x74,x75,x76,x241000,x241001,x241002=>if x76 < x75 then (if 0≤x76 then (if x76 < (x74.length : Int) then (if 0≤x17 then (if x17 < (x15.length : Int) then (if x76 < ((rd_L2 x15 x17).length : Int) then ((pvq_Search.f k (rd_L1 x74 x76) (rd (rd_L2 x15 x17) x76)).bind fun bt261=>(if x21.length < 5864062014805 then (ccodec_Encode.l2 k x15 x17 (x21 ++ [bt261.1]) x62 x63 x64 x74 x75 (wrap64 (x76+1)) x241000 x241001 x241002) else (none))) else (none)) else (none)) else (none)) else (none)) else (none)) else (if x241002.length < 5864062014805 then (ccodec_Encode.l1 k x15 x62 x63 (wrap64 (x64+1)) x241000 x241001 (x241002 ++ [x21])) else (none))
end
def ccodec_Encode.f (k : Nat) (a0 : Int) (a1 : Int) (l2_0 : List (List Int)) (a3 : Bool) : Option (Bool × (List (List Int)) × (List (List (List Int))) × Int):=(ccodec_Right.f k a0 a1 l2_0).bind fun t239=>(if t239=true then (ccodec_Encode.l0 k a0 a1 l2_0 (l2_0.length : Int) 0 l2_0 a3 ([] : List (List Int))) else (some (false,([] : List (List Int)),([] : List (List (List Int))),1)))
theorem ccodec_Encode.mono_l : ∀ k,(∀ y0 y1 y2 y3 y4 y5 y6 y7,LeO (ccodec_Encode.l0 k y0 y1 y2 y3 y4 y5 y6 y7) (ccodec_Encode.l0 (k+1) y0 y1 y2 y3 y4 y5 y6 y7))∧(∀ y0 y1 y2 y3 y4 y5 y6,LeO (ccodec_Encode.l1 k y0 y1 y2 y3 y4 y5 y6) (ccodec_Encode.l1 (k+1) y0 y1 y2 y3 y4 y5 y6))∧(∀ y0 y1 y2 y3 y4 y5 y6 y7 y8 y9 y10 y11,LeO (ccodec_Encode.l2 k y0 y1 y2 y3 y4 y5 y6 y7 y8 y9 y10 y11) (ccodec_Encode.l2 (k+1) y0 y1 y2 y3 y4 y5 y6 y7 y8 y9 y10 y11))
 | 0=>⟨fun _ _ _ _ _ _ _ _ r h=>by simp [ccodec_Encode.l0] at h,fun _ _ _ _ _ _ _ r h=>by simp [ccodec_Encode.l1] at h,fun _ _ _ _ _ _ _ _ _ _ _ _ r h=>by simp [ccodec_Encode.l2] at h⟩
 | k+1=>by
  obtain ⟨ih0,ih1,ih2⟩:=ccodec_Encode.mono_l k
  refine ⟨?_, ?_, ?_⟩
  ·
   intro y0 y1 y2 y3 y4 y5 y6 y7
   unfold ccodec_Encode.l0
   repeat' with_reducible first|apply ih0|apply ih1|apply ih2|apply alloc_Pulses.mono|apply band_Gains.mono|apply band_Split.mono|apply ccodec_Right.mono|apply pvq_Search.mono|apply yLr|apply yLn|apply yLi|apply yLb|intro _
  ·
   intro y0 y1 y2 y3 y4 y5 y6
   unfold ccodec_Encode.l1
   repeat' with_reducible first|apply ih0|apply ih1|apply ih2|apply alloc_Pulses.mono|apply band_Gains.mono|apply band_Split.mono|apply ccodec_Right.mono|apply pvq_Search.mono|apply yLr|apply yLn|apply yLi|apply yLb|intro _
  ·
   intro y0 y1 y2 y3 y4 y5 y6 y7 y8 y9 y10 y11
   unfold ccodec_Encode.l2
   repeat' with_reducible first|apply ih0|apply ih1|apply ih2|apply alloc_Pulses.mono|apply band_Gains.mono|apply band_Split.mono|apply ccodec_Right.mono|apply pvq_Search.mono|apply yLr|apply yLn|apply yLi|apply yLb|intro _
theorem ccodec_Encode.mono : ∀ a0 a1 a2 a3 k,LeO (ccodec_Encode.f k a0 a1 a2 a3) (ccodec_Encode.f (k+1) a0 a1 a2 a3):=by
 intro a0 a1 a2 a3 k
 obtain ⟨ih0,ih1,ih2⟩:=ccodec_Encode.mono_l k
 unfold ccodec_Encode.f
 repeat' with_reducible first|apply ih0|apply ih1|apply ih2|apply alloc_Pulses.mono|apply band_Gains.mono|apply band_Split.mono|apply ccodec_Right.mono|apply pvq_Search.mono|apply yLr|apply yLn|apply yLi|apply yLb|intro _
set_option maxHeartbeats 8000000 in
set_option maxRecDepth 100000 in
theorem ccodec_Encode.calls (k : Nat) (a0 : Int) (a1 : Int) (A2_0 : Option Addr) (c2_0 : Nat) (l2_0 : List (List Int)) (a3 : Bool) (r1 : Bool) (r2 : List (List Int)) (r3 : List (List (List Int))) (r4 : Int) (w : World) (hr2_0 : Kd.C (Kd.slice 2 (Kd.int .i64)) w A2_0 l2_0.length l2_0) (hc2_0 : l2_0.length≤c2_0) (h : ccodec_Encode.f k a0 a1 l2_0 a3=some (r1,r2,r3,r4)) :
  Calls Try.prog 13 #[.int .i64 a0, .int .i64 a1, .agg #[.slice A2_0 l2_0.length c2_0], .bool a3] w fun e w' => ∃ v1_ v2_ : Value,e=.returned (.tuple #[.agg #[.bool r1,v1_,v2_], .int .i64 r4])∧Kd.N (Kd.slice 3 (Kd.int .i64)) 55 w' w.heap.size (fun k_=>(w.heap.size≤k_)∧some k_≠(v2_ : Value).ownBlock) v1_ r2∧Kd.N (Kd.slice 55 (Kd.slice 3 (Kd.int .i64))) 25 w' w.heap.size (fun k_=>(w.heap.size≤k_)∧some k_≠(v1_ : Value).ownBlock) v2_ r3∧Below w.heap.size w w' := by
 have hu24:=Try.underlying24;have hu31:=Try.underlying31;have HR2_0:=zm hr2_0;have HC2_0:=zm hc2_0;clear hr2_0 hc2_0;have HB:=zm (Below.refl w.heap.size w)
 have H : ((ccodec_Right.f k a0 a1 l2_0).bind fun t239=>(if t239=true then (ccodec_Encode.l0 k a0 a1 l2_0 (l2_0.length : Int) 0 l2_0 a3 ([] : List (List Int))) else (some (false,([] : List (List Int)),([] : List (List (List Int))),1))))=some (r1,r2,r3,r4):=h
 clear h
 replace H:=ybi H;obtain ⟨t239,A5,H⟩:=H
 by_cases c6 : t239=true
 ·
  subst c6
  rw [if_pos rfl] at H
  have H' := zm H
  clear H
  go_enter Try.func13,Try.ntmps13
  go_wp2_with (first|((with_reducible refine gate_dst (N:=6) rfl ?_);refine ybx 6 #[.slice A2_0 l2_0.length c2_0] 24 ?_;intro gb237 hg w7 hbox hb;have BK237:=zm (hbox);have GW237:=ygw hg;have GE237:=ygw hg;replace HB:=ybs hb;clear hb hbox hg)|((with_reducible refine gate_dst (N:=8) rfl ?_);refine ybx 8 #[.bool false, .slice none 0 0, .slice none 0 0] 31 ?_;intro gb238 hg w8 hbox hb;have BK238:=zm (hbox);have GW238:=ygw hg;have GE238:=ygw hg;replace HB:=ybs hb;have NB237_238:=ynl BK237 hg;have NB238_237:=yng BK237 hg;replace BK237:=ybb BK237 hb;clear hb hbox hg;have:=NB237_238.out;have:=NB238_237.out;obtain ⟨hcz10_0,hfz10_0⟩:=yc1 BK237)|((with_reducible refine gate_callee (f:=20) rfl ?_);refine ygl 29 Try.func20 #[.int .i64 a0, .int .i64 a1, .agg #[.slice A2_0 l2_0.length c2_0]] ?_;(with_reducible refine (ccodec_Right.calls k a0 a1 _ _ l2_0 true _ ?side1 HC2_0.out A5.out).mono ?_);(case side1=>exact ycb HR2_0);rintro e w11 ⟨rfl,hb⟩;refine ⟨_,rfl, ?_⟩;replace BK237:=ybb BK237 hb;replace BK238:=ybb BK238 hb;replace HB:=ybs hb;(try clear hb))|((with_reducible refine gate_dst (N:=10) rfl ?_);refine ybx 10 #[.bool false, .slice none 0 0, .slice none 0 0] 31 ?_;intro gb240 hg w12 hbox hb;have BK240:=zm (hbox);have GW240:=ygw hg;have GE240:=ygw hg;replace HB:=ybs hb;have NB237_240:=ynl BK237 hg;have NB240_237:=yng BK237 hg;replace BK237:=ybb BK237 hb;have NB238_240:=ynl BK238 hg;have NB240_238:=yng BK238 hg;replace BK238:=ybb BK238 hb;clear hb hbox hg;have:=NB240_237.out;have:=NB237_240.out;have:=NB240_238.out;have:=NB238_240.out;obtain ⟨hcz15_0,hcz15_1,hcz15_2,hfz15_0,hfz15_1,hfz15_2⟩:=yc3 BK240;obtain ⟨hcz16_0,hfz16_0⟩:=yc1 BK237))
  go_loopg [37] k (fun kq v37 w' => ∃ (x37_1 : Int) (x241001_1 : List (List Int)) (u241001 : Value),v37=.int .i64 x37_1∧Aside0 (ccodec_Encode.l0 kq a0 a1 l2_0 (l2_0.length : Int) x37_1 l2_0 a3 x241001_1=some (r1,r2,r3,r4))∧Aside0 (kq≤k)∧Aside0 (Kd.N (Kd.slice 3 (Kd.int .i64)) 55 w' w.heap.size (fun k_=>(w.heap.size≤k_)∧k_≠gb237∧k_≠gb238∧k_≠gb240) u241001 x241001_1)∧Aside0 (w'.heap[gb237]? = some (.cells #[(.slice A2_0 l2_0.length c2_0)] 24 (0,0)))∧Aside0 (w'.heap[gb238]? = some (.cells #[.bool false,(.slice none 0 0),(.slice none 0 0)] 31 (0,0)))∧Aside0 (w'.heap[gb240]? = some (.cells #[.bool a3,u241001,(.slice none 0 0)] 31 (0,0)))∧Aside0 (Below w.heap.size w w'))
  case atStart=>exact ⟨(0),(([] : List (List Int))),(.slice none 0 0),yq,H',⟨Nat.le_refl _⟩,⟨yn⟩,⟨yk BK237⟩,⟨yk BK238⟩,⟨ykp BK240⟩,⟨yhb⟩⟩
  case round =>
   clear H'
   try clear hcz10_0
   try clear hcz15_0
   try clear hcz15_1
   try clear hcz15_2
   try clear hcz16_0
   try clear hfz10_0
   try clear hfz15_0
   try clear hfz15_1
   try clear hfz15_2
   try clear hfz16_0
   obtain ⟨x37_1,x241001_1,u241001,rfl,HA,HK1,HO_241001,BK237,BK238,BK240,HB⟩:=hrel
   obtain ⟨k1,rfl⟩:=ysu gk (fun h=>by subst h;exact absurd HA.out (by simp [ccodec_Encode.l0]))
   have H:=HA.out;clear HA
   simp only [ccodec_Encode.l0] at H
   by_cases c17 : x37_1 < (l2_0.length : Int)
   ·
    rw [if_pos c17] at H
    have c17b0 : decide (x37_1 < (l2_0.length : Int))=true:=decide_eq_true c17
    clear c17
    replace H:=yif H;obtain ⟨c18,H⟩:=H
    have c18b0 : decide (0≤x37_1)=true:=decide_eq_true c18
    clear c18
    replace H:=yif H;obtain ⟨c19,H⟩:=H
    have c19b0 : decide (x37_1 < (l2_0.length : Int))=true:=decide_eq_true c19
    clear c19
    replace H:=ybi H;obtain ⟨⟨t242,t243⟩,A20,H⟩:=H
    try dsimp only at H
    replace H:=yif H;obtain ⟨c21,H⟩:=H
    have LMc21:=zm c21;clear c21
    obtain ⟨y246,hy246⟩ : ∃ y_ : List (List Int),y_=(x241001_1 ++ [t242]):=⟨_,rfl⟩
    replace H : (ccodec_Encode.l0 k1 a0 a1 l2_0 (l2_0.length : Int) (wrap64 (x37_1+1)) l2_0 a3 y246)=some (r1,r2,r3,r4):=yrw hy246 H
    have Ny246:=zm hy246;clear hy246
    have H' := zm H
    clear H
    have p241 : 0≤(x37_1 : Int):=yt
    have q241 : x37_1 < (l2_0.length : Int):=yt
    obtain ⟨ad241,A241_0,c241_0,e241,hx241_0,hl241_0,hi241_0⟩:=at_L1 HR2_0.out x37_1 p241 q241
    cases e241
    replace hx241_0:=yhx HB hx241_0
    have HR241_0:=zm hi241_0;have HC241_0:=zm hl241_0;clear hi241_0 hl241_0
    replace p241:=eq_true p241
    replace q241:=eq_true q241
    go_wp2_with (first|((with_reducible refine gate_callee (f:=36) rfl ?_);refine ygl 43 Try.func36 #[.slice A241_0 (rd_L1 l2_0 x37_1).length c241_0] ?_;(with_reducible refine (band_Gains.calls k1 _ _ (rd_L1 l2_0 x37_1) t242 t243 _ ?side1 HC241_0.out A20.out).mono ?_);(case side1=>exact ycb HR241_0);rintro e w22 ⟨v244,rfl,ho0,hb⟩;refine ⟨_,rfl, ?_⟩;replace HO_241001:=zm (Kd.N_elder' (yr HO_241001) (Kd.R_base ho0) hb);have HO245:=zm (Kd.R_lower (Kd.R_newM (M:=fun k_=>(w.heap.size≤k_)) ho0 (zE yhb) (fun k_ h_=>h_)) (zE yhb));replace BK237:=ybb BK237 hb;replace BK238:=ybb BK238 hb;replace BK240:=ybb BK240 hb;replace HB:=ybs hb;(try clear hb);(try clear ho0);have:=NB240_237.out;have:=NB237_240.out;have:=NB240_238.out;have:=NB238_240.out;obtain ⟨hcz25_0,hcz25_1,hcz25_2,hfz25_0,hfz25_1,hfz25_2⟩:=yc3 BK240;obtain ⟨Ao27,co27,eo27⟩:=Kd.R_slice HO245.out;subst eo27)|((with_reducible refine gate_builtin (b:=.append) (xs := #[.tmp 47, .tmp 49]) rfl ?_);at_builtin;refine Kd.N_append (Kd.slice 3 (Kd.int .i64)) (w0:=w) w.heap.size rfl (.tmp 47) (.tmp 49) 25 55 (.slice none 0 0) 24 rfl Try.underlying25 info55 rfl (by decide) (by omega) u241001 x241001_1 t242 [.slice Ao27 t242.length co27] (fun k_=>(w.heap.size≤k_)∧k_≠gb237∧k_≠gb238∧k_≠gb240) (fun k_=>((fun k_=>(w.heap.size≤k_)∧k_≠gb237∧k_≠gb238∧k_≠gb240)) k_∧some k_≠(u241001 : Value).ownBlock) rfl rfl ?aP (fun _ hk=>hk) ?aF ?aO ?aB ?aS ?aL ?_;(case aP=>exact (Kd.FK_slice_mk (Kd.R_reads' (zG (ok' := (fun k_=>((fun k_=>(w.heap.size≤k_)∧k_≠gb237∧k_≠gb238∧k_≠gb240)) k_∧some k_≠(u241001 : Value).ownBlock)) (Kd.R_types (Kd.R_types (Kd.R_types (Kd.R_apart' (HO245.out) (Kd.N_typed HO_241001.out) (by decide)) BK237.out (by decide)) BK238.out (by decide)) BK240.out (by decide)) (fun k_ hk=>⟨⟨hk.1.1.1.1.1,⟨hk.1.1.2,⟨hk.1.2,hk.2⟩⟩⟩,hk.1.1.1.2⟩))).2.1 (Kd.R_F (zG (ok' := (fun k_=>((fun k_=>(w.heap.size≤k_)∧k_≠gb237∧k_≠gb238∧k_≠gb240)) k_∧some k_≠(u241001 : Value).ownBlock)) (Kd.R_types (Kd.R_types (Kd.R_types (Kd.R_apart' (HO245.out) (Kd.N_typed HO_241001.out) (by decide)) BK237.out (by decide)) BK238.out (by decide)) BK240.out (by decide)) (fun k_ hk=>⟨⟨hk.1.1.1.1.1,⟨hk.1.1.2,⟨hk.1.2,hk.2⟩⟩⟩,hk.1.1.1.2⟩)))));(case aB=>exact yhb);(case aF=>exact (fun k_ hk=>⟨(Nat.le_trans (zE yhb) hk),Kd.freshB (yk BK237) k_ hk,Kd.freshB (yk BK238) k_ hk,Kd.freshB (yk BK240) k_ hk⟩));(case aO=>exact (yN0 HO_241001));(case aS=>exact (zE yhb));(case aL=>have:=LMc21.out;omega);intro v247 w26 ho hb hg hat;rw [← Ny246.out] at ho;replace BK237:=zm (blk_grown (yk BK237) hg (Kd.N_ne HO_241001.out BK237.out (by decide)));replace BK238:=zm (blk_grown (yk BK238) hg (Kd.N_ne HO_241001.out BK238.out (by decide)));replace BK240:=zm (blk_grown (yk BK240) hg (Kd.N_ne HO_241001.out BK240.out (by decide)));replace HB:=zm (hb);have HO248:=zm (ho);clear HO_241001;clear HO245;clear ho hb hg hat;obtain ⟨Ao28,co28,eo28⟩:=Kd.N_slice HO248.out;subst eo28;obtain ⟨hcz29_0,hcz29_1,hcz29_2,hfz29_0,hfz29_1,hfz29_2⟩:=yc3 BK240))
    go_roundg k1
    case measure=>exact yom1 HK1
    case rel=>exact ⟨(wrap64 (x37_1+1)),(y246),(.slice Ao28 y246.length co28),yq,H',⟨yom1 HK1⟩,⟨yN0 HO248⟩,⟨yk BK237⟩,⟨yk BK238⟩,⟨ykp BK240⟩,⟨yhb⟩⟩
   ·
    rw [if_neg c17] at H
    have c17b0 : decide (x37_1 < (l2_0.length : Int))=false:=decide_eq_false c17
    clear c17
    replace H:=ybi H;obtain ⟨⟨t249,t250⟩,A30,H⟩:=H
    try dsimp only at H
    have H' := zm H
    clear H
    have:=NB240_237.out
    have:=NB237_240.out
    have:=NB240_238.out
    have:=NB238_240.out
    obtain ⟨hcz33_0,hcz33_1,hcz33_2,hfz33_0,hfz33_1,hfz33_2⟩:=yc3 BK240
    obtain ⟨Ao34,co34,eo34⟩:=Kd.N_slice HO_241001.out
    subst eo34
    go_wp2_with (first|((with_reducible refine gate_callee (f:=37) rfl ?_);refine ygl 58 Try.func37 #[.int .i64 a0, .int .i64 a1, .slice Ao34 x241001_1.length co34] ?_;(with_reducible refine (alloc_Pulses.calls k1 a0 a1 _ _ x241001_1 t249 t250 _ ?side1 ?side2 A30.out).mono ?_);(case side1=>exact yce (Kd.N_reads' HO_241001.out).2.2);(case side2=>exact (Kd.N_reads' HO_241001.out).2.1);rintro e w35 ⟨v251,rfl,ho0,hb⟩;refine ⟨_,rfl, ?_⟩;have HO252:=zm (Kd.N_lower (Kd.N_mono (ok' := fun k_=>(w.heap.size≤k_)∧some k_≠(.slice Ao34 x241001_1.length co34 : Value).ownBlock∧k_≠gb237∧k_≠gb238∧k_≠gb240) (Kd.S_N (Kd.S_bound ho0)) (fun k_ hk_=>⟨(Nat.le_trans (zE yhb) hk_.2.1),(Kd.fresh' (Kd.N_lt (yr HO_241001)) k_ hk_.2.1),(Kd.freshB (yk BK237) k_ hk_.2.1),(Kd.freshB (yk BK238) k_ hk_.2.1),(Kd.freshB (yk BK240) k_ hk_.2.1)⟩)) (zE yhb));replace HO_241001:=zm (Kd.N_elder' (yr HO_241001) (Kd.S_base ho0) hb);replace BK237:=ybb BK237 hb;replace BK238:=ybb BK238 hb;replace BK240:=ybb BK240 hb;replace HB:=ybs hb;(try clear hb);(try clear ho0);have:=NB237_238.out;have:=NB238_237.out;obtain ⟨hcz37_0,hfz37_0⟩:=yc1 BK237))
    go_loopg [64] k1 (fun kq v64 w' => ∃ (x64_2 : Int) (x241002_2 : List (List (List Int))) (u241002 : Value),v64=.int .i64 x64_2∧Aside0 (ccodec_Encode.l1 kq t249 l2_0 (l2_0.length : Int) x64_2 a3 x241001_1 x241002_2=some (r1,r2,r3,r4))∧Aside0 (kq≤k1)∧Aside0 (Kd.N (Kd.slice 3 (Kd.int .i64)) 55 w' w.heap.size (fun k_=>(w.heap.size≤k_)∧some k_≠((.slice Ao34 x241001_1.length co34) : Value).ownBlock∧some k_≠(u241002 : Value).ownBlock∧k_≠gb237∧k_≠gb238∧k_≠gb240) v251 t249)∧Aside0 (Kd.N (Kd.slice 3 (Kd.int .i64)) 55 w' w.heap.size (fun k_=>(w.heap.size≤k_)∧some k_≠(v251 : Value).ownBlock∧some k_≠(u241002 : Value).ownBlock∧k_≠gb237∧k_≠gb238∧k_≠gb240) (.slice Ao34 x241001_1.length co34) x241001_1)∧Aside0 (Kd.N (Kd.slice 55 (Kd.slice 3 (Kd.int .i64))) 25 w' w.heap.size (fun k_=>(w.heap.size≤k_)∧some k_≠(v251 : Value).ownBlock∧some k_≠((.slice Ao34 x241001_1.length co34) : Value).ownBlock∧k_≠gb237∧k_≠gb238∧k_≠gb240) u241002 x241002_2)∧Aside0 (w'.heap[gb237]? = some (.cells #[(.slice A2_0 l2_0.length c2_0)] 24 (0,0)))∧Aside0 (w'.heap[gb238]? = some (.cells #[.bool false,(.slice none 0 0),(.slice none 0 0)] 31 (0,0)))∧Aside0 (w'.heap[gb240]? = some (.cells #[.bool a3,(.slice Ao34 x241001_1.length co34),u241002] 31 (0,0)))∧Aside0 (Below w.heap.size w w'))
    case atStart=>exact ⟨(0),(([] : List (List (List Int)))),(.slice none 0 0),yq,H',⟨Nat.le_refl _⟩,⟨yN0 HO252⟩,⟨yN0 HO_241001⟩,⟨yn⟩,⟨yk BK237⟩,⟨yk BK238⟩,⟨yk BK240⟩,⟨yhb⟩⟩
    case round =>
     clear H'
     try clear c17b0
     try clear c18b0
     try clear c19b0
     try clear hcz25_0
     try clear hcz25_1
     try clear hcz25_2
     try clear hcz29_0
     try clear hcz29_1
     try clear hcz29_2
     try clear hcz33_0
     try clear hcz33_1
     try clear hcz33_2
     try clear hcz37_0
     try clear hfz25_0
     try clear hfz25_1
     try clear hfz25_2
     try clear hfz29_0
     try clear hfz29_1
     try clear hfz29_2
     try clear hfz33_0
     try clear hfz33_1
     try clear hfz33_2
     try clear hfz37_0
     try clear hx241_0
     try clear p241
     try clear q241
     obtain ⟨x64_2,x241002_2,u241002,rfl,HA,HK2,HO_15,HO_241001,HO_241002,BK237,BK238,BK240,HB⟩:=hrel
     obtain ⟨k2,rfl⟩:=ysu gk (fun h=>by subst h;exact absurd HA.out (by simp [ccodec_Encode.l1]))
     have H:=HA.out;clear HA
     simp only [ccodec_Encode.l1] at H
     by_cases c38 : x64_2 < (l2_0.length : Int)
     ·
      rw [if_pos c38] at H
      have c38b0 : decide (x64_2 < (l2_0.length : Int))=true:=decide_eq_true c38
      clear c38
      replace H:=yif H;obtain ⟨c39,H⟩:=H
      have c39b0 : decide (0≤x64_2)=true:=decide_eq_true c39
      clear c39
      replace H:=yif H;obtain ⟨c40,H⟩:=H
      have c40b0 : decide (x64_2 < (l2_0.length : Int))=true:=decide_eq_true c40
      clear c40
      replace H:=ybi H;obtain ⟨⟨t254,t257⟩,A41,H⟩:=H
      try dsimp only at H
      have H' := zm H
      clear H
      have p253 : 0≤(x64_2 : Int):=yt
      have q253 : x64_2 < (l2_0.length : Int):=yt
      obtain ⟨ad253,A253_0,c253_0,e253,hx253_0,hl253_0,hi253_0⟩:=at_L1 HR2_0.out x64_2 p253 q253
      cases e253
      replace hx253_0:=yhx HB hx253_0
      have HR253_0:=zm hi253_0;have HC253_0:=zm hl253_0;clear hi253_0 hl253_0
      replace p253:=eq_true p253
      replace q253:=eq_true q253
      go_wp2_with (first|((with_reducible refine gate_callee (f:=38) rfl ?_);refine ygl 71 Try.func38 #[.slice A253_0 (rd_L1 l2_0 x64_2).length c253_0] ?_;(with_reducible refine (band_Split.calls k2 _ _ (rd_L1 l2_0 x64_2) t254 t257 _ ?side1 HC253_0.out A41.out).mono ?_);(case side1=>exact ycb HR253_0);rintro e w42 ⟨v255,rfl,ho0,hb⟩;refine ⟨_,rfl, ?_⟩;have HO256:=zm (Kd.N_lower (Kd.N_mono (ok' := fun k_=>(w.heap.size≤k_)∧some k_≠(v251 : Value).ownBlock∧some k_≠(.slice Ao34 x241001_1.length co34 : Value).ownBlock∧some k_≠(u241002 : Value).ownBlock∧k_≠gb237∧k_≠gb238∧k_≠gb240) ho0 (fun k_ hk_=>⟨(Nat.le_trans (zE yhb) hk_),(Kd.fresh' (Kd.N_lt (yr HO_15)) k_ hk_),(Kd.fresh' (Kd.N_lt (yr HO_241001)) k_ hk_),(Kd.fresh' (Kd.N_lt (yr HO_241002)) k_ hk_),(Kd.freshB (yk BK237) k_ hk_),(Kd.freshB (yk BK238) k_ hk_),(Kd.freshB (yk BK240) k_ hk_)⟩)) (zE yhb));replace HO_15:=zm (Kd.N_elder' (yr HO_15) (Kd.N_base ho0) hb);replace HO_241001:=zm (Kd.N_elder' (yr HO_241001) (Kd.N_base ho0) hb);replace HO_241002:=zm (Kd.N_elder' (yr HO_241002) (Kd.N_base ho0) hb);replace BK237:=ybb BK237 hb;replace BK238:=ybb BK238 hb;replace BK240:=ybb BK240 hb;replace HB:=ybs hb;(try clear hb);(try clear ho0);obtain ⟨Ao43,co43,eo43⟩:=Kd.N_slice HO256.out;subst eo43))
      go_loopg [21,76] k2 (fun kq v21 v76 w' => ∃ (x21_3 : List (List Int)) (x76_3 : Int),v76=.int .i64 x76_3∧Aside0 (ccodec_Encode.l2 kq t249 x64_2 x21_3 l2_0 (l2_0.length : Int) x64_2 t254 (t254.length : Int) x76_3 a3 x241001_1 x241002_2=some (r1,r2,r3,r4))∧Aside0 (kq≤k2)∧Aside0 (Kd.N (Kd.slice 3 (Kd.int .i64)) 55 w' w.heap.size (fun k_=>(w.heap.size≤k_)∧some k_≠(v21 : Value).ownBlock∧some k_≠((.slice Ao43 t254.length co43) : Value).ownBlock∧some k_≠((.slice Ao34 x241001_1.length co34) : Value).ownBlock∧some k_≠(u241002 : Value).ownBlock∧k_≠gb237∧k_≠gb238∧k_≠gb240) v251 t249)∧Aside0 (Kd.N (Kd.slice 3 (Kd.int .i64)) 55 w' w.heap.size (fun k_=>(w.heap.size≤k_)∧some k_≠(v251 : Value).ownBlock∧some k_≠((.slice Ao43 t254.length co43) : Value).ownBlock∧some k_≠((.slice Ao34 x241001_1.length co34) : Value).ownBlock∧some k_≠(u241002 : Value).ownBlock∧k_≠gb237∧k_≠gb238∧k_≠gb240) v21 x21_3)∧Aside0 (Kd.N (Kd.slice 2 (Kd.int .i64)) 53 w' w.heap.size (fun k_=>(w.heap.size≤k_)∧some k_≠(v251 : Value).ownBlock∧some k_≠(v21 : Value).ownBlock∧some k_≠((.slice Ao34 x241001_1.length co34) : Value).ownBlock∧some k_≠(u241002 : Value).ownBlock∧k_≠gb237∧k_≠gb238∧k_≠gb240) (.slice Ao43 t254.length co43) t254)∧Aside0 (Kd.N (Kd.slice 3 (Kd.int .i64)) 55 w' w.heap.size (fun k_=>(w.heap.size≤k_)∧some k_≠(v251 : Value).ownBlock∧some k_≠(v21 : Value).ownBlock∧some k_≠((.slice Ao43 t254.length co43) : Value).ownBlock∧some k_≠(u241002 : Value).ownBlock∧k_≠gb237∧k_≠gb238∧k_≠gb240) (.slice Ao34 x241001_1.length co34) x241001_1)∧Aside0 (Kd.N (Kd.slice 55 (Kd.slice 3 (Kd.int .i64))) 25 w' w.heap.size (fun k_=>(w.heap.size≤k_)∧some k_≠(v251 : Value).ownBlock∧some k_≠(v21 : Value).ownBlock∧some k_≠((.slice Ao43 t254.length co43) : Value).ownBlock∧some k_≠((.slice Ao34 x241001_1.length co34) : Value).ownBlock∧k_≠gb237∧k_≠gb238∧k_≠gb240) u241002 x241002_2)∧Aside0 (w'.heap[gb237]? = some (.cells #[(.slice (some ad253) l2_0.length c2_0)] 24 (0,0)))∧Aside0 (w'.heap[gb238]? = some (.cells #[.bool false,(.slice none 0 0),(.slice none 0 0)] 31 (0,0)))∧Aside0 (w'.heap[gb240]? = some (.cells #[.bool a3,(.slice Ao34 x241001_1.length co34),u241002] 31 (0,0)))∧Aside0 (Below w.heap.size w w'))
      case atStart=>exact ⟨(([] : List (List Int))),(0),yq,H',⟨Nat.le_refl _⟩,⟨yN0 HO_15⟩,⟨yn⟩,⟨yN0 HO256⟩,⟨yN0 HO_241001⟩,⟨yN0 HO_241002⟩,⟨yk BK237⟩,⟨yk BK238⟩,⟨yk BK240⟩,⟨yhb⟩⟩
      case round =>
       clear H'
       try clear c38b0
       try clear c39b0
       try clear c40b0
       try clear hx253_0
       try clear p253
       try clear q253
       obtain ⟨x21_3,x76_3,rfl,HA,HK3,HO_15,HO_21,HO_74,HO_241001,HO_241002,BK237,BK238,BK240,HB⟩:=hrel
       obtain ⟨k3,rfl⟩:=ysu gk (fun h=>by subst h;exact absurd HA.out (by simp [ccodec_Encode.l2]))
       have H:=HA.out;clear HA
       simp only [ccodec_Encode.l2] at H
       by_cases c44 : x76_3 < (t254.length : Int)
       ·
        rw [if_pos c44] at H
        have c44b0 : decide (x76_3 < (t254.length : Int))=true:=decide_eq_true c44
        clear c44
        replace H:=yif H;obtain ⟨c45,H⟩:=H
        have c45b0 : decide (0≤x76_3)=true:=decide_eq_true c45
        clear c45
        replace H:=yif H;obtain ⟨c46,H⟩:=H
        have c46b0 : decide (x76_3 < (t254.length : Int))=true:=decide_eq_true c46
        clear c46
        replace H:=yif H;obtain ⟨c47,H⟩:=H
        have c47b0 : decide (0≤x64_2)=true:=decide_eq_true c47
        clear c47
        replace H:=yif H;obtain ⟨c48,H⟩:=H
        have c48b0 : decide (x64_2 < (t249.length : Int))=true:=decide_eq_true c48
        clear c48
        replace H:=yif H;obtain ⟨c49,H⟩:=H
        have c49b0 : decide (x76_3 < ((rd_L2 t249 x64_2).length : Int))=true:=decide_eq_true c49
        clear c49
        replace H:=ybi H;obtain ⟨⟨t261,t262⟩,A50,H⟩:=H
        try dsimp only at H
        replace H:=yif H;obtain ⟨c51,H⟩:=H
        have LMc51:=zm c51;clear c51
        obtain ⟨y265,hy265⟩ : ∃ y_ : List (List Int),y_=(x21_3 ++ [t261]):=⟨_,rfl⟩
        replace H : (ccodec_Encode.l2 k3 t249 x64_2 y265 l2_0 (l2_0.length : Int) x64_2 t254 (t254.length : Int) (wrap64 (x76_3+1)) a3 x241001_1 x241002_2)=some (r1,r2,r3,r4):=yrw hy265 H
        have Ny265:=zm hy265;clear hy265
        have H' := zm H
        clear H
        have p258 : 0≤(x76_3 : Int):=yt
        have q258 : x76_3 < (t254.length : Int):=yt
        obtain ⟨ad258,A258_0,c258_0,e258,hx258_0,hl258_0,hi258_0⟩:=at_L1 (Kd.N_reads' HO_74.out).2.2 x76_3 p258 q258
        cases e258
        obtain ⟨ce258,hce258,hMe258,hcc258⟩:=Kd.N_get HO_74.out [] x76_3 p258 (by first|exact q258|exact yt|(have e_:=(Kd.N_reads' HO_74.out).1;omega))
        obtain ⟨ua258_0,uc258_0,rfl,ul258_0,ge258_0⟩:=Kd.FK_slice_open hMe258
        have hv258_0:=hcc258 0 _ rfl
        rw [Nat.add_zero,show ((Kd.slice 2 (Kd.int .i64))).sz=1 from rfl,Nat.mul_one] at hv258_0
        replace hv258_0:=Option.some.inj (hv258_0.symm.trans hx258_0)
        injection hv258_0 with hva_ hvn_ hvc_
        rw [hva_] at ge258_0
        rw [hvc_] at ul258_0
        have HL258_0:=zm (show Kd.V (Kd.int .i64) 2 _ w.heap.size _ _ (rd_L1 t254 x76_3) from Kd.V_mk ul258_0 ge258_0)
        clear hva_ hvn_ hvc_ ge258_0 ul258_0;clear hcc258 hce258;have HR258_0:=zm hi258_0;have HC258_0:=zm hl258_0;clear hi258_0 hl258_0
        replace p258:=eq_true p258
        replace q258:=eq_true q258
        obtain ⟨Ao52,co52,eo52⟩:=Kd.N_slice HO_15.out
        subst eo52
        have p259 : 0≤(x64_2 : Int):=yt
        have q259 : x64_2 < (t249.length : Int):=yt
        obtain ⟨ad259,A259_0,c259_0,e259,hx259_0,hl259_0,hi259_0⟩:=at_L2 (Kd.N_reads' HO_15.out).2.2 x64_2 p259 q259
        cases e259
        obtain ⟨ce259,hce259,hMe259,hcc259⟩:=Kd.N_get HO_15.out [] x64_2 p259 (by first|exact q259|exact yt|(have e_:=(Kd.N_reads' HO_15.out).1;omega))
        obtain ⟨ua259_0,uc259_0,rfl,ul259_0,ge259_0⟩:=Kd.FK_slice_open hMe259
        have hv259_0:=hcc259 0 _ rfl
        rw [Nat.add_zero,show ((Kd.slice 3 (Kd.int .i64))).sz=1 from rfl,Nat.mul_one] at hv259_0
        replace hv259_0:=Option.some.inj (hv259_0.symm.trans hx259_0)
        injection hv259_0 with hva_ hvn_ hvc_
        rw [hva_] at ge259_0
        rw [hvc_] at ul259_0
        have HL259_0:=zm (show Kd.V (Kd.int .i64) 3 _ w.heap.size _ _ (rd_L2 t249 x64_2) from Kd.V_mk ul259_0 ge259_0)
        clear hva_ hvn_ hvc_ ge259_0 ul259_0;clear hcc259 hce259;have HR259_0:=zm hi259_0;have HC259_0:=zm hl259_0;clear hi259_0 hl259_0
        replace p259:=eq_true p259
        replace q259:=eq_true q259
        obtain ⟨ad260,e260,hx260_0,p260,q260⟩:=yai HR259_0 x76_3
        cases e260
        go_wp2_with (first|((with_reducible refine gate_callee (f:=39) rfl ?_);refine ygl 90 Try.func39 #[.slice A258_0 (rd_L1 t254 x76_3).length c258_0, .int .i64 (rd (rd_L2 t249 x64_2) x76_3)] ?_;(with_reducible refine (pvq_Search.calls k3 _ _ (rd_L1 t254 x76_3) (rd (rd_L2 t249 x64_2) x76_3) t261 t262 _ ?side1 HC258_0.out A50.out).mono ?_);(case side1=>exact yce (yrc HR258_0));rintro e w53 ⟨v263,rfl,ho0,hb⟩;refine ⟨_,rfl, ?_⟩;replace HO_15:=zm (Kd.N_elder' (yr HO_15) (Kd.R_base ho0) hb);replace HO_21:=zm (Kd.N_elder' (yr HO_21) (Kd.R_base ho0) hb);replace HO_74:=zm (Kd.N_elder' (yr HO_74) (Kd.R_base ho0) hb);replace HO_241001:=zm (Kd.N_elder' (yr HO_241001) (Kd.R_base ho0) hb);replace HO_241002:=zm (Kd.N_elder' (yr HO_241002) (Kd.R_base ho0) hb);replace HL258_0:=zm (Kd.V_elder' (yr HL258_0) (Kd.R_base ho0) hb);replace HL259_0:=zm (Kd.V_elder' (yr HL259_0) (Kd.R_base ho0) hb);have HO264:=zm (Kd.R_lower (Kd.R_newM (M:=fun k_=>(w.heap.size≤k_)) ho0 (zE yhb) (fun k_ h_=>h_)) (zE yhb));replace BK237:=ybb BK237 hb;replace BK238:=ybb BK238 hb;replace BK240:=ybb BK240 hb;replace HR258_0:=yCb HR258_0 hb;replace HR259_0:=yCb HR259_0 hb;replace HB:=ybs hb;(try clear hb);(try clear ho0);obtain ⟨Ao55,co55,eo55⟩:=Kd.R_slice HO264.out;subst eo55)|((with_reducible refine gate_builtin (b:=.append) (xs := #[.tmp 93, .tmp 95]) rfl ?_);at_builtin;refine Kd.N_append (Kd.slice 3 (Kd.int .i64)) (w0:=w) w.heap.size rfl (.tmp 93) (.tmp 95) 25 55 (.slice none 0 0) 24 rfl Try.underlying25 info55 rfl (by decide) (by omega) u21 x21_3 t261 [.slice Ao55 t261.length co55] (fun k_=>(w.heap.size≤k_)∧some k_≠(.slice (some ad259) t249.length co52 : Value).ownBlock∧some k_≠(.slice (some ad258) t254.length co43 : Value).ownBlock∧some k_≠(.slice Ao34 x241001_1.length co34 : Value).ownBlock∧some k_≠(u241002 : Value).ownBlock∧k_≠gb237∧k_≠gb238∧k_≠gb240) (fun k_=>((fun k_=>(w.heap.size≤k_)∧some k_≠(.slice (some ad259) t249.length co52 : Value).ownBlock∧some k_≠(.slice (some ad258) t254.length co43 : Value).ownBlock∧some k_≠(.slice Ao34 x241001_1.length co34 : Value).ownBlock∧some k_≠(u241002 : Value).ownBlock∧k_≠gb237∧k_≠gb238∧k_≠gb240)) k_∧some k_≠(u21 : Value).ownBlock) rfl rfl ?aP (fun _ hk=>hk) ?aF ?aO ?aB ?aS ?aL ?_;(case aP=>exact (Kd.FK_slice_mk (Kd.R_reads' (zG (ok' := (fun k_=>((fun k_=>(w.heap.size≤k_)∧some k_≠(.slice (some ad259) t249.length co52 : Value).ownBlock∧some k_≠(.slice (some ad258) t254.length co43 : Value).ownBlock∧some k_≠(.slice Ao34 x241001_1.length co34 : Value).ownBlock∧some k_≠(u241002 : Value).ownBlock∧k_≠gb237∧k_≠gb238∧k_≠gb240)) k_∧some k_≠(u21 : Value).ownBlock)) (Kd.R_types (Kd.R_types (Kd.R_types (Kd.R_apart' (Kd.R_apart' (Kd.R_apart' (Kd.R_apart' (Kd.R_apart' (HO264.out) (Kd.N_typed HO_15.out) (by decide)) (Kd.N_typed HO_74.out) (by decide)) (Kd.N_typed HO_241001.out) (by decide)) (Kd.N_typed HO_241002.out) (by decide)) (Kd.N_typed HO_21.out) (by decide)) BK237.out (by decide)) BK238.out (by decide)) BK240.out (by decide)) (fun k_ hk=>⟨⟨hk.1.1.1.1.1.1.1.1.1,⟨hk.1.1.1.1.1.1.1.2,⟨hk.1.1.1.1.1.1.2,⟨hk.1.1.1.1.1.2,⟨hk.1.1.1.1.2,⟨hk.1.1.2,⟨hk.1.2,hk.2⟩⟩⟩⟩⟩⟩⟩,hk.1.1.1.2⟩))).2.1 (Kd.R_F (zG (ok' := (fun k_=>((fun k_=>(w.heap.size≤k_)∧some k_≠(.slice (some ad259) t249.length co52 : Value).ownBlock∧some k_≠(.slice (some ad258) t254.length co43 : Value).ownBlock∧some k_≠(.slice Ao34 x241001_1.length co34 : Value).ownBlock∧some k_≠(u241002 : Value).ownBlock∧k_≠gb237∧k_≠gb238∧k_≠gb240)) k_∧some k_≠(u21 : Value).ownBlock)) (Kd.R_types (Kd.R_types (Kd.R_types (Kd.R_apart' (Kd.R_apart' (Kd.R_apart' (Kd.R_apart' (Kd.R_apart' (HO264.out) (Kd.N_typed HO_15.out) (by decide)) (Kd.N_typed HO_74.out) (by decide)) (Kd.N_typed HO_241001.out) (by decide)) (Kd.N_typed HO_241002.out) (by decide)) (Kd.N_typed HO_21.out) (by decide)) BK237.out (by decide)) BK238.out (by decide)) BK240.out (by decide)) (fun k_ hk=>⟨⟨hk.1.1.1.1.1.1.1.1.1,⟨hk.1.1.1.1.1.1.1.2,⟨hk.1.1.1.1.1.1.2,⟨hk.1.1.1.1.1.2,⟨hk.1.1.1.1.2,⟨hk.1.1.2,⟨hk.1.2,hk.2⟩⟩⟩⟩⟩⟩⟩,hk.1.1.1.2⟩)))));(case aB=>exact yhb);(case aF=>exact (fun k_ hk=>⟨(Nat.le_trans (zE yhb) hk),Kd.fresh' (Kd.N_lt (yr HO_15)) k_ hk,Kd.fresh' (Kd.N_lt (yr HO_74)) k_ hk,Kd.fresh' (Kd.N_lt (yr HO_241001)) k_ hk,Kd.fresh' (Kd.N_lt (yr HO_241002)) k_ hk,Kd.freshB (yk BK237) k_ hk,Kd.freshB (yk BK238) k_ hk,Kd.freshB (yk BK240) k_ hk⟩));(case aO=>exact (yN0 HO_21));(case aS=>exact (zE yhb));(case aL=>have:=LMc51.out;omega);intro v266 w54 ho hb hg hat;rw [← Ny265.out] at ho;replace HO_15:=zm (Kd.N_afterv (ok:=(fun k_=>(w.heap.size≤k_)∧some k_≠(.slice (some ad258) t254.length co43 : Value).ownBlock∧some k_≠(.slice Ao34 x241001_1.length co34 : Value).ownBlock∧some k_≠(u241002 : Value).ownBlock∧some k_≠(.slice Ao55 t261.length co55 : Value).ownBlock∧k_≠gb237∧k_≠gb238∧k_≠gb240)) (yN0 HO_15) hg hat);replace HO_74:=zm (Kd.N_afterv (ok:=(fun k_=>(w.heap.size≤k_)∧some k_≠(.slice (some ad259) t249.length co52 : Value).ownBlock∧some k_≠(.slice Ao34 x241001_1.length co34 : Value).ownBlock∧some k_≠(u241002 : Value).ownBlock∧some k_≠(.slice Ao55 t261.length co55 : Value).ownBlock∧k_≠gb237∧k_≠gb238∧k_≠gb240)) (yN0 HO_74) hg hat);replace HO_241001:=zm (Kd.N_afterv (ok:=(fun k_=>(w.heap.size≤k_)∧some k_≠(.slice (some ad259) t249.length co52 : Value).ownBlock∧some k_≠(.slice (some ad258) t254.length co43 : Value).ownBlock∧some k_≠(u241002 : Value).ownBlock∧some k_≠(.slice Ao55 t261.length co55 : Value).ownBlock∧k_≠gb237∧k_≠gb238∧k_≠gb240)) (yN0 HO_241001) hg hat);replace HO_241002:=zm (Kd.N_afterv (ok:=(fun k_=>(w.heap.size≤k_)∧some k_≠(.slice (some ad259) t249.length co52 : Value).ownBlock∧some k_≠(.slice (some ad258) t254.length co43 : Value).ownBlock∧some k_≠(.slice Ao34 x241001_1.length co34 : Value).ownBlock∧some k_≠(.slice Ao55 t261.length co55 : Value).ownBlock∧k_≠gb237∧k_≠gb238∧k_≠gb240)) (yN0 HO_241002) hg hat);replace BK237:=zm (blk_grown (yk BK237) hg (Kd.N_ne HO_21.out BK237.out (by decide)));replace BK238:=zm (blk_grown (yk BK238) hg (Kd.N_ne HO_21.out BK238.out (by decide)));replace BK240:=zm (blk_grown (yk BK240) hg (Kd.N_ne HO_21.out BK240.out (by decide)));replace HL258_0:=zm (Kd.V_afterv (ok:=(fun k_=>(w.heap.size≤k_)∧some k_≠(.slice (some ad259) t249.length co52 : Value).ownBlock∧some k_≠(.slice (some ad258) t254.length co43 : Value).ownBlock∧some k_≠(.slice Ao34 x241001_1.length co34 : Value).ownBlock∧some k_≠(u241002 : Value).ownBlock∧some k_≠(.slice Ao55 t261.length co55 : Value).ownBlock∧k_≠gb237∧k_≠gb238∧k_≠gb240)) (yV0 HL258_0) hg hat);replace HL259_0:=zm (Kd.V_afterv (ok:=(fun k_=>(w.heap.size≤k_)∧some k_≠(.slice (some ad259) t249.length co52 : Value).ownBlock∧some k_≠(.slice (some ad258) t254.length co43 : Value).ownBlock∧some k_≠(.slice Ao34 x241001_1.length co34 : Value).ownBlock∧some k_≠(u241002 : Value).ownBlock∧some k_≠(.slice Ao55 t261.length co55 : Value).ownBlock∧k_≠gb237∧k_≠gb238∧k_≠gb240)) (yV0 HL259_0) hg hat);replace HB:=zm (hb);have HO267:=zm (ho);clear HO_21;clear HO264;clear ho hb hg hat))
        go_roundg k3
        case measure=>exact yom3 HK1 HK2 HK3
        case rel=>exact ⟨(y265),(wrap64 (x76_3+1)),yq,H',⟨yom3 HK1 HK2 HK3⟩,⟨yN0 HO_15⟩,⟨yr HO267⟩,⟨yN0 HO_74⟩,⟨yN0 HO_241001⟩,⟨yN0 HO_241002⟩,⟨yk BK237⟩,⟨yk BK238⟩,⟨yk BK240⟩,⟨yhb⟩⟩
       ·
        rw [if_neg c44] at H
        have c44b0 : decide (x76_3 < (t254.length : Int))=false:=decide_eq_false c44
        clear c44
        replace H:=yif H;obtain ⟨c56,H⟩:=H
        have LMc56:=zm c56;clear c56
        obtain ⟨y268,hy268⟩ : ∃ y_ : List (List (List Int)),y_=(x241002_2 ++ [x21_3]):=⟨_,rfl⟩
        replace H : (ccodec_Encode.l1 k3 t249 l2_0 (l2_0.length : Int) (wrap64 (x64_2+1)) a3 x241001_1 y268)=some (r1,r2,r3,r4):=yrw hy268 H
        have Ny268:=zm hy268;clear hy268
        have H' := zm H
        clear H
        have:=NB240_237.out
        have:=NB237_240.out
        have:=NB240_238.out
        have:=NB238_240.out
        obtain ⟨_,_,_,_,_,_⟩:=yc3 BK240
        obtain ⟨Ao61,co61,eo61⟩:=Kd.N_slice HO_21.out
        subst eo61
        go_wp2_with (first|((with_reducible refine gate_builtin (b:=.append) (xs := #[.tmp 99, .tmp 101]) rfl ?_);at_builtin;refine Kd.N_append (Kd.slice 55 (Kd.slice 3 (Kd.int .i64))) (w0:=w) w.heap.size rfl (.tmp 99) (.tmp 101) 29 25 (.slice none 0 0) 24 rfl Try.underlying29 info25 rfl (by decide) (by omega) u241002 x241002_2 x21_3 [.slice Ao61 x21_3.length co61] (fun k_=>(w.heap.size≤k_)∧some k_≠(v251 : Value).ownBlock∧some k_≠(.slice Ao43 t254.length co43 : Value).ownBlock∧some k_≠(.slice Ao34 x241001_1.length co34 : Value).ownBlock∧k_≠gb237∧k_≠gb238∧k_≠gb240) (fun k_=>((fun k_=>(w.heap.size≤k_)∧some k_≠(v251 : Value).ownBlock∧some k_≠(.slice Ao43 t254.length co43 : Value).ownBlock∧some k_≠(.slice Ao34 x241001_1.length co34 : Value).ownBlock∧k_≠gb237∧k_≠gb238∧k_≠gb240)) k_∧some k_≠(u241002 : Value).ownBlock) rfl rfl ?aP (fun _ hk=>hk) ?aF ?aO ?aB ?aS ?aL ?_;(case aP=>exact (Kd.FK_slice_mk (Kd.N_reads' (Kd.N_mono (ok' := (fun k_=>((fun k_=>(w.heap.size≤k_)∧some k_≠(v251 : Value).ownBlock∧some k_≠(.slice Ao43 t254.length co43 : Value).ownBlock∧some k_≠(.slice Ao34 x241001_1.length co34 : Value).ownBlock∧k_≠gb237∧k_≠gb238∧k_≠gb240)) k_∧some k_≠(u241002 : Value).ownBlock)) (HO_21.out) (fun k_ hk=>⟨⟨hk.1,⟨hk.2.1,⟨hk.2.2.1,⟨hk.2.2.2.1,⟨hk.2.2.2.2.2.1,⟨hk.2.2.2.2.2.2.1,hk.2.2.2.2.2.2.2⟩⟩⟩⟩⟩⟩,hk.2.2.2.2.1⟩))).2.1 (Kd.N_F (Kd.N_mono (ok' := (fun k_=>((fun k_=>(w.heap.size≤k_)∧some k_≠(v251 : Value).ownBlock∧some k_≠(.slice Ao43 t254.length co43 : Value).ownBlock∧some k_≠(.slice Ao34 x241001_1.length co34 : Value).ownBlock∧k_≠gb237∧k_≠gb238∧k_≠gb240)) k_∧some k_≠(u241002 : Value).ownBlock)) (HO_21.out) (fun k_ hk=>⟨⟨hk.1,⟨hk.2.1,⟨hk.2.2.1,⟨hk.2.2.2.1,⟨hk.2.2.2.2.2.1,⟨hk.2.2.2.2.2.2.1,hk.2.2.2.2.2.2.2⟩⟩⟩⟩⟩⟩,hk.2.2.2.2.1⟩)))));(case aB=>exact yhb);(case aF=>exact (fun k_ hk=>⟨(Nat.le_trans (zE yhb) hk),Kd.fresh' (Kd.N_lt (yr HO_15)) k_ hk,Kd.fresh' (Kd.N_lt (yr HO_74)) k_ hk,Kd.fresh' (Kd.N_lt (yr HO_241001)) k_ hk,Kd.freshB (yk BK237) k_ hk,Kd.freshB (yk BK238) k_ hk,Kd.freshB (yk BK240) k_ hk⟩));(case aO=>exact (yN0 HO_241002));(case aS=>exact (zE yhb));(case aL=>have:=LMc56.out;omega);intro v269 w60 ho hb hg hat;rw [← Ny268.out] at ho;replace HO_15:=zm (Kd.N_afterv (ok:=(fun k_=>(w.heap.size≤k_)∧some k_≠(.slice Ao61 x21_3.length co61 : Value).ownBlock∧some k_≠(.slice Ao43 t254.length co43 : Value).ownBlock∧some k_≠(.slice Ao34 x241001_1.length co34 : Value).ownBlock∧k_≠gb237∧k_≠gb238∧k_≠gb240)) (yN0 HO_15) hg hat);replace HO_74:=zm (Kd.N_afterv (ok:=(fun k_=>(w.heap.size≤k_)∧some k_≠(v251 : Value).ownBlock∧some k_≠(.slice Ao61 x21_3.length co61 : Value).ownBlock∧some k_≠(.slice Ao34 x241001_1.length co34 : Value).ownBlock∧k_≠gb237∧k_≠gb238∧k_≠gb240)) (yN0 HO_74) hg hat);replace HO_241001:=zm (Kd.N_afterv (ok:=(fun k_=>(w.heap.size≤k_)∧some k_≠(v251 : Value).ownBlock∧some k_≠(.slice Ao61 x21_3.length co61 : Value).ownBlock∧some k_≠(.slice Ao43 t254.length co43 : Value).ownBlock∧k_≠gb237∧k_≠gb238∧k_≠gb240)) (yN0 HO_241001) hg hat);replace BK237:=zm (blk_grown (yk BK237) hg (Kd.N_ne HO_241002.out BK237.out (by decide)));replace BK238:=zm (blk_grown (yk BK238) hg (Kd.N_ne HO_241002.out BK238.out (by decide)));replace BK240:=zm (blk_grown (yk BK240) hg (Kd.N_ne HO_241002.out BK240.out (by decide)));replace HB:=zm (hb);have HO270:=zm (ho);clear HO_241002;clear HO_21;clear ho hb hg hat;obtain ⟨Ao62,co62,eo62⟩:=Kd.N_slice HO270.out;subst eo62;obtain ⟨_,_,_,_,_,_⟩:=yc3 BK240))
        go_roundg k3
        case measure=>exact yom3 HK1 HK2 HK3
        case rel=>exact ⟨(wrap64 (x64_2+1)),(y268),(.slice Ao62 y268.length co62),yq,H',⟨yom3 HK1 HK2 HK3⟩,⟨yN0 HO_15⟩,⟨yN0 HO_241001⟩,⟨yN0 HO270⟩,⟨yk BK237⟩,⟨yk BK238⟩,⟨ykp BK240⟩,⟨yhb⟩⟩
     ·
      rw [if_neg c38] at H
      have c38b0 : decide (x64_2 < (l2_0.length : Int))=false:=decide_eq_false c38
      clear c38
      simp only [Option.some.injEq,Prod.mk.injEq] at H
      obtain ⟨rfl,rfl,rfl,rfl⟩:=H
      have:=NB240_237.out
      have:=NB237_240.out
      have:=NB240_238.out
      have:=NB238_240.out
      obtain ⟨_,_,_,_,_,_⟩:=yc3 BK240
      have:=NB238_237.out
      have:=NB237_238.out
      obtain ⟨_,_,_,_,_,_⟩:=yc3 BK238
      obtain ⟨Ao69,co69,eo69⟩:=Kd.N_slice HO_241002.out
      subst eo69
      go_wp2
      refine bodyPost_ret (results_ct rfl _ _ gb238 31 #[.bool a3, .slice Ao34 x241001_1.length co34, .slice Ao69 x241002_2.length co69] (0,0) _ rfl (ykp BK238) Try.underlying31 rfl (by kernel_rfl)) rfl ?_
      exact ⟨_,_,ye,yN0 HO_241001,yN0 HO_241002,yhb⟩
 ·
  replace c6:=Bool.eq_false_iff.mpr c6
  subst c6
  rw [ynf] at H
  simp only [Option.some.injEq,Prod.mk.injEq] at H
  obtain ⟨rfl,rfl,rfl,rfl⟩:=H
  go_enter Try.func13,Try.ntmps13
  go_wp2_with (first|((with_reducible refine gate_dst (N:=6) rfl ?_);refine ybx 6 #[.slice A2_0 l2_0.length c2_0] 24 ?_;intro gb237 hg w70 hbox hb;have BK237:=zm (hbox);have GW237:=ygw hg;have GE237:=ygw hg;replace HB:=ybs hb;clear hb hbox hg)|((with_reducible refine gate_dst (N:=8) rfl ?_);refine ybx 8 #[.bool false, .slice none 0 0, .slice none 0 0] 31 ?_;intro gb238 hg w71 hbox hb;have BK238:=zm (hbox);have GW238:=ygw hg;have GE238:=ygw hg;replace HB:=ybs hb;have NB237_238:=ynl BK237 hg;have NB238_237:=yng BK237 hg;replace BK237:=ybb BK237 hb;clear hb hbox hg;have:=NB237_238.out;have:=NB238_237.out;obtain ⟨_,_⟩:=yc1 BK237)|((with_reducible refine gate_callee (f:=20) rfl ?_);refine ygl 29 Try.func20 #[.int .i64 a0, .int .i64 a1, .agg #[.slice A2_0 l2_0.length c2_0]] ?_;(with_reducible refine (ccodec_Right.calls k a0 a1 _ _ l2_0 false _ ?side1 HC2_0.out A5.out).mono ?_);(case side1=>exact ycb HR2_0);rintro e w74 ⟨rfl,hb⟩;refine ⟨_,rfl, ?_⟩;replace BK237:=ybb BK237 hb;replace BK238:=ybb BK238 hb;replace HB:=ybs hb;(try clear hb);obtain ⟨_,_,_,_,_,_⟩:=yc3 BK238))
  refine bodyPost_ret (results_ct rfl _ _ gb238 31 #[.bool false, .slice none 0 0, .slice none 0 0] (0,0) _ rfl (ykp BK238) Try.underlying31 rfl (by kernel_rfl)) rfl ?_
  exact ⟨_,_,ye,yn,yn,yhb⟩
def psalterylaw13_As.f (a0_0 : Bool) (l0_1 : List (List Int)) (l0_2 : List (List (List Int))) : Option (Bool × (List (List Int)) × (List (List (List Int)))):=some (a0_0,l0_1,l0_2)
set_option maxHeartbeats 8000000 in
set_option maxRecDepth 100000 in
theorem psalterylaw13_As.calls (a0_0 : Bool) (P0_1_ : Nat→Prop) (A0_1 : Option Addr) (c0_1 : Nat) (l0_1 : List (List Int)) (P0_2_ : Nat→Prop) (A0_2 : Option Addr) (c0_2 : Nat) (l0_2 : List (List (List Int))) (r1 : Bool) (r2 : List (List Int)) (r3 : List (List (List Int))) (w : World) (hs0_1 : Kd.V (Kd.slice 3 (Kd.int .i64)) 55 w w.heap.size (fun k_=>P0_1_ k_) (.slice A0_1 l0_1.length c0_1) l0_1) (hs0_2 : Kd.V (Kd.slice 55 (Kd.slice 3 (Kd.int .i64))) 25 w w.heap.size (fun k_=>P0_2_ k_) (.slice A0_2 l0_2.length c0_2) l0_2) (h : psalterylaw13_As.f a0_0 l0_1 l0_2=some (r1,r2,r3)) :
  Calls Try.prog 19 #[.agg #[.bool a0_0, .slice A0_1 l0_1.length c0_1, .slice A0_2 l0_2.length c0_2]] w fun e w' => ∃ v1_ v2_ : Value,e=.returned (.agg #[.bool r1,v1_,v2_])∧Kd.V (Kd.slice 3 (Kd.int .i64)) 55 w' w.heap.size (fun k_=>((P0_1_ k_∨P0_2_ k_)∨w.heap.size≤k_)) v1_ r2∧Kd.V (Kd.slice 55 (Kd.slice 3 (Kd.int .i64))) 25 w' w.heap.size (fun k_=>((P0_1_ k_∨P0_2_ k_)∨w.heap.size≤k_)) v2_ r3∧Below w.heap.size w w' := by
 have hu31:=Try.underlying31;have hu42:=Try.underlying42
 have HO0_1:=zm (show Kd.V (Kd.slice 3 (Kd.int .i64)) 55 w w.heap.size (fun k_=>((P0_1_ k_∨P0_2_ k_)∨w.heap.size≤k_)) (.slice A0_1 l0_1.length c0_1) l0_1 from zy hs0_1 (fun k_ hk => .inl (.inl hk)))
 have HO0_2:=zm (show Kd.V (Kd.slice 55 (Kd.slice 3 (Kd.int .i64))) 25 w w.heap.size (fun k_=>((P0_1_ k_∨P0_2_ k_)∨w.heap.size≤k_)) (.slice A0_2 l0_2.length c0_2) l0_2 from zy hs0_2 (fun k_ hk => .inl (.inr hk)))
 have HB:=zm (Below.refl w.heap.size w)
 have H : (some (a0_0,l0_1,l0_2))=some (r1,r2,r3):=h
 clear h
 simp only [Option.some.injEq,Prod.mk.injEq] at H
 obtain ⟨rfl,rfl,rfl⟩:=H
 go_enter Try.func19,Try.ntmps19
 go_wp2_with (first|((with_reducible refine gate_dst (N:=1) rfl ?_);refine ybx 1 #[.bool a0_0, .slice A0_1 l0_1.length c0_1, .slice A0_2 l0_2.length c0_2] 31 ?_;intro gb394 hg w2 hbox hb;replace HO0_1:=yVe HO0_1 hg hb;replace HO0_2:=yVe HO0_2 hg hb;have BK394:=zm (hbox);have GW394:=ygw hg;have GE394:=ygw hg;replace HB:=ybs hb;clear hb hbox hg)|((with_reducible refine gate_dst (N:=2) rfl ?_);refine ybx 2 #[.bool false, .slice none 0 0, .slice none 0 0] 42 ?_;intro gb395 hg w3 hbox hb;replace HO0_1:=yVe HO0_1 hg hb;replace HO0_2:=yVe HO0_2 hg hb;have BK395:=zm (hbox);have GW395:=ygw hg;have GE395:=ygw hg;replace HB:=ybs hb;have NB394_395:=ynl BK394 hg;have NB395_394:=yng BK394 hg;replace BK394:=ybb BK394 hb;clear hb hbox hg;have:=NB394_395.out;have:=NB395_394.out;obtain ⟨_,_,_,_,_,_⟩:=yc3 BK394;obtain ⟨_,_,_,_,_,_⟩:=yc3 BK395))
 refine bodyPost_ret (results_cell_row rfl _ _ gb395 42 #[.bool a0_0, .slice A0_1 l0_1.length c0_1, .slice A0_2 l0_2.length c0_2] (0,0) _ rfl (ykp BK395) Try.underlying42 rfl (by kernel_rfl)) rfl ?_
 exact ⟨_,_,ye,yV0 HO0_1,yV0 HO0_2,yhb⟩
def psalterylaw23_great.l0 : Nat→Int→List (List Int)→Option (Bool)
 | 0,_,_=>none
 | k+1,x3,x102000=>if x3 < (x102000.length : Int) then (if 0≤x3 then (if ((rd_L1 x102000 x3).length : Int) > 100 then (some true) else (psalterylaw23_great.l0 k (wrap64 (x3+1)) x102000)) else (none)) else (some (decide ((x102000.length : Int) > 10)))
def psalterylaw23_great.f (k : Nat) (l0_0 : List (List Int)) : Option (Bool):=psalterylaw23_great.l0 k 0 l0_0
theorem psalterylaw23_great.mono_l : ∀ k,(∀ y0 y1,LeO (psalterylaw23_great.l0 k y0 y1) (psalterylaw23_great.l0 (k+1) y0 y1))
 | 0=>fun _ _ r h=>by simp [psalterylaw23_great.l0] at h
 | k+1=>by
  have ih0:=psalterylaw23_great.mono_l k
  ·
   intro y0 y1
   unfold psalterylaw23_great.l0
   repeat' with_reducible first|apply ih0|apply yLr|apply yLn|apply yLi|apply yLb|intro _
theorem psalterylaw23_great.mono : ∀ a0 k,LeO (psalterylaw23_great.f k a0) (psalterylaw23_great.f (k+1) a0):=by
 intro a0 k
 have ih0:=psalterylaw23_great.mono_l k
 unfold psalterylaw23_great.f
 repeat' with_reducible first|apply ih0|apply yLr|apply yLn|apply yLi|apply yLb|intro _
set_option maxHeartbeats 8000000 in
set_option maxRecDepth 100000 in
theorem psalterylaw23_great.calls (k : Nat) (A0_0 : Option Addr) (c0_0 : Nat) (l0_0 : List (List Int)) (r : Bool) (w : World) (hr0_0 : Kd.C (Kd.slice 2 (Kd.int .i64)) w A0_0 l0_0.length l0_0) (hc0_0 : l0_0.length≤c0_0) (h : psalterylaw23_great.f k l0_0=some r) :
  Calls Try.prog 10 #[.agg #[.slice A0_0 l0_0.length c0_0]] w fun e w' => e=.returned (.bool r)∧Below w.heap.size w w' := by
 have hu24:=Try.underlying24;have HR0_0:=zm hr0_0;have HC0_0:=zm hc0_0;clear hr0_0 hc0_0;have HB:=zm (Below.refl w.heap.size w)
 have H : (psalterylaw23_great.l0 k 0 l0_0)=some r:=h
 clear h
 have H' := zm H
 clear H
 go_enter Try.func10,Try.ntmps10
 go_wp2_with (first|((with_reducible refine gate_dst (N:=1) rfl ?_);refine ybx 1 #[.slice A0_0 l0_0.length c0_0] 24 ?_;intro gb101 hg w2 hbox hb;have BK101:=zm (hbox);have GW101:=ygw hg;have GE101:=ygw hg;replace HB:=ybs hb;clear hb hbox hg))
 go_loopg [3] k (fun kq v3 w' => ∃ (x3_1 : Int),v3=.int .i64 x3_1∧Aside0 (psalterylaw23_great.l0 kq x3_1 l0_0=some r)∧Aside0 (kq≤k)∧Aside0 (w'.heap[gb101]? = some (.cells #[(.slice A0_0 l0_0.length c0_0)] 24 (0,0)))∧Aside0 (Below w.heap.size w w'))
 case atStart=>exact ⟨(0),yq,H',⟨Nat.le_refl _⟩,⟨yk BK101⟩,⟨yhb⟩⟩
 case round =>
  clear H'
  obtain ⟨x3_1,rfl,HA,HK1,BK101,HB⟩:=hrel
  obtain ⟨k1,rfl⟩:=ysu gk (fun h=>by subst h;exact absurd HA.out (by simp [psalterylaw23_great.l0]))
  have H:=HA.out;clear HA
  simp only [psalterylaw23_great.l0] at H
  by_cases c3 : x3_1 < (l0_0.length : Int)
  ·
   rw [if_pos c3] at H
   have c3b0 : decide (x3_1 < (l0_0.length : Int))=true:=decide_eq_true c3
   clear c3
   replace H:=yif H;obtain ⟨c4,H⟩:=H
   have c4b0 : decide (0≤x3_1)=true:=decide_eq_true c4
   clear c4
   by_cases c5 : ((rd_L1 l0_0 x3_1).length : Int) > 100
   ·
    rw [if_pos c5] at H
    have c5b0 : decide (100 < ((rd_L1 l0_0 x3_1).length : Int))=true:=decide_eq_true c5
    have c5b1 : decide (100 < (rd_L1 l0_0 x3_1).length)=true:=decide_eq_true (by omega)
    clear c5
    obtain rfl:=Option.some.inj H
    obtain ⟨_,_⟩:=yc1 BK101
    have p102 : 0≤(x3_1 : Int):=yt
    have q102 : x3_1 < (l0_0.length : Int):=yt
    obtain ⟨ad102,A102_0,c102_0,e102,hx102_0,hl102_0,hi102_0⟩:=at_L1 HR0_0.out x3_1 p102 q102
    cases e102
    replace hx102_0:=yhx HB hx102_0
    have HR102_0:=zm hi102_0;have HC102_0:=zm hl102_0;clear hi102_0 hl102_0
    replace p102:=eq_true p102
    replace q102:=eq_true q102
    go_wp2
    go_ret
    exact ⟨ye,yhb⟩
   ·
    rw [if_neg c5] at H
    have c5b0 : decide (100 < ((rd_L1 l0_0 x3_1).length : Int))=false:=decide_eq_false c5
    have c5b1 : decide (100 < (rd_L1 l0_0 x3_1).length)=false:=decide_eq_false (by omega)
    clear c5
    have H' := zm H
    clear H
    obtain ⟨_,_⟩:=yc1 BK101
    have p102 : 0≤(x3_1 : Int):=yt
    have q102 : x3_1 < (l0_0.length : Int):=yt
    obtain ⟨ad102,A102_0,c102_0,e102,hx102_0,hl102_0,hi102_0⟩:=at_L1 HR0_0.out x3_1 p102 q102
    cases e102
    replace hx102_0:=yhx HB hx102_0
    have HR102_0:=zm hi102_0;have HC102_0:=zm hl102_0;clear hi102_0 hl102_0
    replace p102:=eq_true p102
    replace q102:=eq_true q102
    go_wp2
    go_roundg k1
    case measure=>exact yom1 HK1
    case rel=>exact ⟨(wrap64 (x3_1+1)),yq,H',⟨yom1 HK1⟩,⟨yk BK101⟩,⟨yhb⟩⟩
  ·
   rw [if_neg c3] at H
   have c3b0 : decide (x3_1 < (l0_0.length : Int))=false:=decide_eq_false c3
   clear c3
   obtain rfl:=Option.some.inj H
   obtain ⟨_,_⟩:=yc1 BK101
   go_wp2
   go_ret
   exact ⟨ye,yhb⟩
def num_Sqrt.l0 : Nat→Int→Int→Int→Option (Int)
 | 0,_,_,_=>none
 | k+1,x0,x3,x4=>if x4 > 0 then (if (Go.bits .or .u64 x3 x4)=0 then (none) else (if (Go.bits .or .u64 x3 x4)≤(IntKind.u64.wrap (Int.tdiv x0 (Go.bits .or .u64 x3 x4))) then (num_Sqrt.l0 k x0 (Go.bits .or .u64 x3 x4) (x4 / 2)) else (num_Sqrt.l0 k x0 x3 (x4 / 2)))) else (some x3)
def num_Sqrt.f (k : Nat) (a0 : Int) : Option (Int):=num_Sqrt.l0 k a0 0 2147483648
theorem num_Sqrt.mono_l : ∀ k,(∀ y0 y1 y2,LeO (num_Sqrt.l0 k y0 y1 y2) (num_Sqrt.l0 (k+1) y0 y1 y2))
 | 0=>fun _ _ _ r h=>by simp [num_Sqrt.l0] at h
 | k+1=>by
  have ih0:=num_Sqrt.mono_l k
  ·
   intro y0 y1 y2
   unfold num_Sqrt.l0
   repeat' with_reducible first|apply ih0|apply yLr|apply yLn|apply yLi|apply yLb|intro _
theorem num_Sqrt.mono : ∀ a0 k,LeO (num_Sqrt.f k a0) (num_Sqrt.f (k+1) a0):=by
 intro a0 k
 have ih0:=num_Sqrt.mono_l k
 unfold num_Sqrt.f
 repeat' with_reducible first|apply ih0|apply yLr|apply yLn|apply yLi|apply yLb|intro _
set_option maxHeartbeats 8000000 in
set_option maxRecDepth 100000 in
theorem num_Sqrt.calls (k : Nat) (a0 : Int) (r : Int) (w : World) (h : num_Sqrt.f k a0=some r) :
  Calls Try.prog 106 #[.int .u64 a0] w fun e w' => e=.returned (.int .u64 r)∧Drawn0 w w' := by
 have H : (num_Sqrt.l0 k a0 0 2147483648)=some r:=h
 clear h
 have H' := zm H
 clear H
 go_enter Try.func106,Try.ntmps106
 go_wp2
 go_loopg [3,4] k (fun kq v3 v4 w' => ∃ (x3_1 : Int) (x4_1 : Int),v3=.int .u64 x3_1∧v4=.int .u64 x4_1∧Aside0 (num_Sqrt.l0 kq a0 x3_1 x4_1=some r)∧Aside0 (kq≤k)∧Drawn0 w w')
 case atStart=>exact ⟨(0),(2147483648),yq,yq,H',⟨Nat.le_refl _⟩,yd⟩
 case round =>
  clear H'
  obtain ⟨x3_1,x4_1,rfl,rfl,HA,HK1,⟨m1,rfl⟩⟩:=hrel
  obtain ⟨k1,rfl⟩:=ysu gk (fun h=>by subst h;exact absurd HA.out (by simp [num_Sqrt.l0]))
  have H:=HA.out;clear HA
  simp only [num_Sqrt.l0] at H
  by_cases c2 : x4_1 > 0
  ·
   rw [if_pos c2] at H
   have c2b0 : decide (0 < x4_1)=true:=decide_eq_true c2
   clear c2
   replace H:=yie H;obtain ⟨c3,H⟩:=H
   have c3b0 : ((Go.bits .or .u64 x3_1 x4_1) == 0)=false:=beq_eq_false_iff_ne.mpr c3
   have c3b1 : ((Go.bits .or .u64 x3_1 x4_1) != 0)=true:=bne_iff_ne.mpr c3
   by_cases c4 : (Go.bits .or .u64 x3_1 x4_1)≤(IntKind.u64.wrap (Int.tdiv a0 (Go.bits .or .u64 x3_1 x4_1)))
   ·
    rw [if_pos c4] at H
    have c4b0 : decide ((Go.bits .or .u64 x3_1 x4_1)≤(IntKind.u64.wrap (Int.tdiv a0 (Go.bits .or .u64 x3_1 x4_1))))=true:=decide_eq_true c4
    clear c4
    have H' := zm H
    clear H
    go_wp2
    go_roundg k1
    case measure=>exact yom1 HK1
    case rel=>exact ⟨(Go.bits .or .u64 x3_1 x4_1),(x4_1 / 2),yq,yq,H',⟨yom1 HK1⟩,yd⟩
   ·
    rw [if_neg c4] at H
    have c4b0 : decide ((Go.bits .or .u64 x3_1 x4_1)≤(IntKind.u64.wrap (Int.tdiv a0 (Go.bits .or .u64 x3_1 x4_1))))=false:=decide_eq_false c4
    clear c4
    have H' := zm H
    clear H
    go_wp2
    go_roundg k1
    case measure=>exact yom1 HK1
    case rel=>exact ⟨(x3_1),(x4_1 / 2),yq,yq,H',⟨yom1 HK1⟩,yd⟩
  ·
   rw [if_neg c2] at H
   have c2b0 : decide (0 < x4_1)=false:=decide_eq_false c2
   clear c2
   obtain rfl:=Option.some.inj H
   go_wp2
   go_ret
   exact ⟨yq,yd⟩
def band_Value.f (k : Nat) (a0 : Int) : Option (Int):=if a0 < 1 then (some 0) else (if a0 > 44 then (some 0) else (if 0≤(wrap64 (a0 - 1)) then ((num_Sqrt.f k (shl .u64 1 (wrap64 (a0 - 1)))).bind fun t295=>(some (wrap64 (t295)))) else (none)))
theorem band_Value.mono : ∀ a0 k,LeO (band_Value.f k a0) (band_Value.f (k+1) a0):=by
 intro a0 k
 unfold band_Value.f
 repeat' with_reducible first|apply num_Sqrt.mono|apply yLr|apply yLn|apply yLi|apply yLb|intro _
set_option maxHeartbeats 8000000 in
set_option maxRecDepth 100000 in
theorem band_Value.calls (k : Nat) (a0 : Int) (r : Int) (w : World) (h : band_Value.f k a0=some r) :
  Calls Try.prog 102 #[.int .i64 a0] w fun e w' => e=.returned (.int .i64 r)∧Drawn0 w w' := by
 have H : (if a0 < 1 then (some 0) else (if a0 > 44 then (some 0) else (if 0≤(wrap64 (a0 - 1)) then ((num_Sqrt.f k (shl .u64 1 (wrap64 (a0 - 1)))).bind fun t295=>(some (wrap64 (t295)))) else (none))))=some r:=h
 clear h
 by_cases c2 : a0 < 1
 ·
  rw [if_pos c2] at H
  have c2b0 : decide (a0 < 1)=true:=decide_eq_true c2
  clear c2
  obtain rfl:=Option.some.inj H
  go_enter Try.func102,Try.ntmps102
  go_wp2
  go_ret
  exact ⟨yq,yd⟩
 ·
  rw [if_neg c2] at H
  have c2b0 : decide (a0 < 1)=false:=decide_eq_false c2
  clear c2
  by_cases c3 : a0 > 44
  ·
   rw [if_pos c3] at H
   have c3b0 : decide (44 < a0)=true:=decide_eq_true c3
   clear c3
   obtain rfl:=Option.some.inj H
   go_enter Try.func102,Try.ntmps102
   go_wp2
   go_ret
   exact ⟨yq,yd⟩
  ·
   rw [if_neg c3] at H
   have c3b0 : decide (44 < a0)=false:=decide_eq_false c3
   clear c3
   obtain ⟨ji4,hji4⟩ : ∃ j_ : Int,(wrap64 (a0 - 1))=j_:=⟨_,rfl⟩
   replace H : (if 0≤(ji4) then ((num_Sqrt.f k (shl .u64 1 (ji4))).bind fun t295=>(some (wrap64 (t295)))) else (none))=some r:=by first|(rw [hji4] at H;exact H)|(simp only [hji4] at H ⊢; exact H)
   have hji4w : (IntKind.i64.wrap (a0 - 1))=ji4:=(i64_w _).trans hji4
   replace H:=yif H;obtain ⟨c5,H⟩:=H
   have c5b0:=eq_true c5
   have c5b1 : decide (0≤(ji4))=true:=decide_eq_true c5
   clear c5
   obtain ⟨ji6,hji6⟩ : ∃ j_ : Int,(shl .u64 1 (ji4))=j_:=⟨_,rfl⟩
   replace H : ((num_Sqrt.f k (ji6)).bind fun t295=>(some (wrap64 (t295))))=some r:=by first|(rw [hji6] at H;exact H)|(simp only [hji6] at H ⊢; exact H)
   have hji6_ : (IntKind.u64.wrap (1 * 2 ^ min (ji4).toNat 64))=ji6:=hji6
   have hji6z : (ji4)≤64→(IntKind.u64.wrap (1 * 2 ^ (ji4).toNat))=ji6:=shl_small hji6
   have hji6u : (IntKind.u64.wrap (2 ^ min (ji4).toNat 64))=ji6:=by have h_:=hji6_;rw [Int.one_mul] at h_;exact h_
   have hji6v : (ji4)≤64→(IntKind.u64.wrap (2 ^ (ji4).toNat))=ji6:=fun hle_=>by have h_:=hji6z hle_;rw [Int.one_mul] at h_;exact h_
   replace H:=ybi H;obtain ⟨t295,A7,H⟩:=H
   obtain rfl:=Option.some.inj H
   go_enter Try.func102,Try.ntmps102
   go_wp2_with (first|((with_reducible refine gate_callee (f:=106) rfl ?_);refine goesL_ (some 12) rfl rfl Try.func106 (by kernel_rfl) rfl #[.int .u64 ji6] rfl (by (try simp only [List.map_toArray,List.map_cons,List.map_nil]);first|done|(simp only [hji6];rfl)|rfl|(simp only [List.length_drop,List.length_take];rfl)) ?_;(with_reducible refine (num_Sqrt.calls k ji6 t295 _ A7.out).mono ?_);rintro e w' ⟨rfl,⟨nd,rfl⟩⟩;refine ⟨_,rfl, ?_⟩))
   go_ret
   exact ⟨by first|rfl|(simp;done)|(simp only [← hji4, ← hji6] <;> (first|rfl|simp))|(simp [*];done),yd⟩
def ccodec_loud.l0 : Nat→List Int→Int→Int→Option (Bool)
 | 0,_,_,_=>none
 | k+1,x5,x6,x7=>if x7 < x6 then (if 0≤x7 then (if x7 < (x5.length : Int) then (if (rd x5 x7)=0 then (ccodec_loud.l0 k x5 x6 (wrap64 (x7+1))) else (some true)) else (none)) else (none)) else (some false)
def ccodec_loud.f (k : Nat) (l0 : List Int) : Option (Bool):=ccodec_loud.l0 k l0 (l0.length : Int) 0
theorem ccodec_loud.mono_l : ∀ k,(∀ y0 y1 y2,LeO (ccodec_loud.l0 k y0 y1 y2) (ccodec_loud.l0 (k+1) y0 y1 y2))
 | 0=>fun _ _ _ r h=>by simp [ccodec_loud.l0] at h
 | k+1=>by
  have ih0:=ccodec_loud.mono_l k
  ·
   intro y0 y1 y2
   unfold ccodec_loud.l0
   repeat' with_reducible first|apply ih0|apply yLr|apply yLn|apply yLi|apply yLb|intro _
theorem ccodec_loud.mono : ∀ a0 k,LeO (ccodec_loud.f k a0) (ccodec_loud.f (k+1) a0):=by
 intro a0 k
 have ih0:=ccodec_loud.mono_l k
 unfold ccodec_loud.f
 repeat' with_reducible first|apply ih0|apply yLr|apply yLn|apply yLi|apply yLb|intro _
set_option maxHeartbeats 8000000 in
set_option maxRecDepth 100000 in
theorem ccodec_loud.calls (k : Nat) (A0 : Option Addr) (c0 : Nat) (l0 : List Int) (r : Bool) (w : World) (hr0 : Kd.C (Kd.int .i64) w A0 l0.length l0) (hc0 : l0.length≤c0) (h : ccodec_loud.f k l0=some r) :
  Calls Try.prog 103 #[.slice A0 l0.length c0] w fun e w' => e=.returned (.bool r)∧Drawn0 w w' := by
 have HR0:=zm hr0;have HC0:=zm hc0;clear hr0 hc0
 have H : (ccodec_loud.l0 k l0 (l0.length : Int) 0)=some r:=h
 clear h
 have H' := zm H
 clear H
 go_enter Try.func103,Try.ntmps103
 go_wp2
 go_loopg [7] k (fun kq v7 w' => ∃ (x7_1 : Int),v7=.int .i64 x7_1∧Aside0 (ccodec_loud.l0 kq l0 (l0.length : Int) x7_1=some r)∧Aside0 (kq≤k)∧Drawn0 w w')
 case atStart=>exact ⟨(0),yq,H',⟨Nat.le_refl _⟩,yd⟩
 case round =>
  clear H'
  obtain ⟨x7_1,rfl,HA,HK1,⟨m1,rfl⟩⟩:=hrel
  obtain ⟨k1,rfl⟩:=ysu gk (fun h=>by subst h;exact absurd HA.out (by simp [ccodec_loud.l0]))
  have H:=HA.out;clear HA
  simp only [ccodec_loud.l0] at H
  by_cases c2 : x7_1 < (l0.length : Int)
  ·
   rw [if_pos c2] at H
   have c2b0 : decide (x7_1 < (l0.length : Int))=true:=decide_eq_true c2
   clear c2
   replace H:=yif H;obtain ⟨c3,H⟩:=H
   have c3b0 : decide (0≤x7_1)=true:=decide_eq_true c3
   clear c3
   replace H:=yif H;obtain ⟨c4,H⟩:=H
   have c4b0 : decide (x7_1 < (l0.length : Int))=true:=decide_eq_true c4
   clear c4
   by_cases c5 : (rd l0 x7_1)=0
   ·
    rw [if_pos c5] at H
    have c5b0 : ((rd l0 x7_1) == 0)=true:=beq_iff_eq.mpr c5
    have c5b1 : ((rd l0 x7_1) != 0)=false:=bne_eq_false_iff_eq.mpr c5
    clear c5
    have H' := zm H
    clear H
    obtain ⟨ad296,e296,hx296_0,p296,q296⟩:=yai HR0 x7_1
    cases e296
    go_wp2
    go_roundg k1
    case measure=>exact yom1 HK1
    case rel=>exact ⟨(wrap64 (x7_1+1)),yq,H',⟨yom1 HK1⟩,yd⟩
   ·
    rw [if_neg c5] at H
    have c5b0 : ((rd l0 x7_1) == 0)=false:=beq_eq_false_iff_ne.mpr c5
    have c5b1 : ((rd l0 x7_1) != 0)=true:=bne_iff_ne.mpr c5
    obtain rfl:=Option.some.inj H
    obtain ⟨ad296,e296,hx296_0,p296,q296⟩:=yai HR0 x7_1
    cases e296
    go_wp2
    go_ret
    exact ⟨yq,yd⟩
  ·
   rw [if_neg c2] at H
   have c2b0 : decide (x7_1 < (l0.length : Int))=false:=decide_eq_false c2
   clear c2
   obtain rfl:=Option.some.inj H
   go_wp2
   go_ret
   exact ⟨yq,yd⟩
def num_size.f (a0 : Int) : Option (Int):=if a0 < 0 then (some (IntKind.u64.wrap (-(IntKind.u64.wrap (a0))))) else (some (IntKind.u64.wrap (a0)))
set_option maxHeartbeats 8000000 in
set_option maxRecDepth 100000 in
theorem num_size.calls (a0 : Int) (r : Int) (w : World) (h : num_size.f a0=some r) :
  Calls Try.prog 120 #[.int .i64 a0] w fun e w' => e=.returned (.int .u64 r)∧Drawn0 w w' := by
 have H : (if a0 < 0 then (some (IntKind.u64.wrap (-(IntKind.u64.wrap (a0))))) else (some (IntKind.u64.wrap (a0))))=some r:=h
 clear h
 by_cases c2 : a0 < 0
 ·
  rw [if_pos c2] at H
  have c2b0 : decide (a0 < 0)=true:=decide_eq_true c2
  clear c2
  obtain rfl:=Option.some.inj H
  go_enter Try.func120,Try.ntmps120
  go_wp2
  go_ret
  exact ⟨yq,yd⟩
 ·
  rw [if_neg c2] at H
  have c2b0 : decide (a0 < 0)=false:=decide_eq_false c2
  clear c2
  obtain rfl:=Option.some.inj H
  go_enter Try.func120,Try.ntmps120
  go_wp2
  go_ret
  exact ⟨yq,yd⟩
def num_Div.f (a0 : Int) (a1 : Int) : Option (Int × Int):=if a1 < 1 then (some (0,1)) else ((num_size.f a0).bind fun t297=>(if (IntKind.u64.wrap (a1))=0 then (none) else (if (Int.tmod t297 (IntKind.u64.wrap (a1))) ≥ (IntKind.u64.wrap ((IntKind.u64.wrap (a1)) - (Int.tmod t297 (IntKind.u64.wrap (a1))))) then (if a0 < 0 then (some (wrap64 (IntKind.u64.wrap (-(IntKind.u64.wrap ((IntKind.u64.wrap (Int.tdiv t297 (IntKind.u64.wrap (a1))))+1)))),0)) else (some (wrap64 (IntKind.u64.wrap ((IntKind.u64.wrap (Int.tdiv t297 (IntKind.u64.wrap (a1))))+1)),0))) else (if a0 < 0 then (some (wrap64 (IntKind.u64.wrap (-(IntKind.u64.wrap (Int.tdiv t297 (IntKind.u64.wrap (a1)))))),0)) else (some (wrap64 (IntKind.u64.wrap (Int.tdiv t297 (IntKind.u64.wrap (a1)))),0))))))
set_option maxHeartbeats 8000000 in
set_option maxRecDepth 100000 in
theorem num_Div.calls (a0 : Int) (a1 : Int) (r1 : Int) (r2 : Int) (w : World) (h : num_Div.f a0 a1=some (r1,r2)) :
  Calls Try.prog 105 #[.int .i64 a0, .int .i64 a1] w fun e w' => e=.returned (.tuple #[.int .i64 r1, .int .i64 r2])∧Drawn0 w w' := by
 have H : (if a1 < 1 then (some (0,1)) else ((num_size.f a0).bind fun t297=>(if (IntKind.u64.wrap (a1))=0 then (none) else (if (Int.tmod t297 (IntKind.u64.wrap (a1))) ≥ (IntKind.u64.wrap ((IntKind.u64.wrap (a1)) - (Int.tmod t297 (IntKind.u64.wrap (a1))))) then (if a0 < 0 then (some (wrap64 (IntKind.u64.wrap (-(IntKind.u64.wrap ((IntKind.u64.wrap (Int.tdiv t297 (IntKind.u64.wrap (a1))))+1)))),0)) else (some (wrap64 (IntKind.u64.wrap ((IntKind.u64.wrap (Int.tdiv t297 (IntKind.u64.wrap (a1))))+1)),0))) else (if a0 < 0 then (some (wrap64 (IntKind.u64.wrap (-(IntKind.u64.wrap (Int.tdiv t297 (IntKind.u64.wrap (a1)))))),0)) else (some (wrap64 (IntKind.u64.wrap (Int.tdiv t297 (IntKind.u64.wrap (a1)))),0)))))))=some (r1,r2):=h
 clear h
 by_cases c3 : a1 < 1
 ·
  rw [if_pos c3] at H
  have c3b0 : decide (a1 < 1)=true:=decide_eq_true c3
  clear c3
  simp only [Option.some.injEq,Prod.mk.injEq] at H
  obtain ⟨rfl,rfl⟩:=H
  go_enter Try.func105,Try.ntmps105
  go_wp2
  repeat (go_quiet (fail);try go_wp2)
  go_ret2
  exact ⟨yq,yd⟩
 ·
  rw [if_neg c3] at H
  have c3b0 : decide (a1 < 1)=false:=decide_eq_false c3
  clear c3
  replace H:=ybi H;obtain ⟨t297,A4,H⟩:=H
  replace H:=yie H;obtain ⟨c5,H⟩:=H
  have c5b0 : ((IntKind.u64.wrap (a1)) == 0)=false:=beq_eq_false_iff_ne.mpr c5
  have c5b1 : ((IntKind.u64.wrap (a1)) != 0)=true:=bne_iff_ne.mpr c5
  by_cases c6 : (Int.tmod t297 (IntKind.u64.wrap (a1))) ≥ (IntKind.u64.wrap ((IntKind.u64.wrap (a1)) - (Int.tmod t297 (IntKind.u64.wrap (a1)))))
  ·
   rw [if_pos c6] at H
   have c6b0 : decide ((IntKind.u64.wrap ((IntKind.u64.wrap (a1)) - (Int.tmod t297 (IntKind.u64.wrap (a1)))))≤(Int.tmod t297 (IntKind.u64.wrap (a1))))=true:=decide_eq_true c6
   clear c6
   by_cases c7 : a0 < 0
   ·
    rw [if_pos c7] at H
    have c7b0 : decide (a0 < 0)=true:=decide_eq_true c7
    clear c7
    simp only [Option.some.injEq,Prod.mk.injEq] at H
    obtain ⟨rfl,rfl⟩:=H
    go_enter Try.func105,Try.ntmps105
    go_wp2_with (first|(go_at_call 120;(with_reducible refine (num_size.calls a0 t297 _ A4.out).mono ?_);rintro e w' ⟨rfl,⟨nd,rfl⟩⟩;(try exact yww)))
    repeat (go_quiet (first|(go_at_call 120;(with_reducible refine (num_size.calls a0 t297 _ A4.out).mono ?_);rintro e w' ⟨rfl,⟨nd,rfl⟩⟩;(try exact yww)));try go_wp2_with (first|(go_at_call 120;(with_reducible refine (num_size.calls a0 t297 _ A4.out).mono ?_);rintro e w' ⟨rfl,⟨nd,rfl⟩⟩;(try exact yww))))
    go_ret2
    exact ⟨yq,yd⟩
   ·
    rw [if_neg c7] at H
    have c7b0 : decide (a0 < 0)=false:=decide_eq_false c7
    clear c7
    simp only [Option.some.injEq,Prod.mk.injEq] at H
    obtain ⟨rfl,rfl⟩:=H
    go_enter Try.func105,Try.ntmps105
    go_wp2_with (first|(go_at_call 120;(with_reducible refine (num_size.calls a0 t297 _ A4.out).mono ?_);rintro e w' ⟨rfl,⟨nd,rfl⟩⟩;(try exact yww)))
    repeat (go_quiet (first|(go_at_call 120;(with_reducible refine (num_size.calls a0 t297 _ A4.out).mono ?_);rintro e w' ⟨rfl,⟨nd,rfl⟩⟩;(try exact yww)));try go_wp2_with (first|(go_at_call 120;(with_reducible refine (num_size.calls a0 t297 _ A4.out).mono ?_);rintro e w' ⟨rfl,⟨nd,rfl⟩⟩;(try exact yww))))
    go_ret2
    exact ⟨yq,yd⟩
  ·
   rw [if_neg c6] at H
   have c6b0 : decide ((IntKind.u64.wrap ((IntKind.u64.wrap (a1)) - (Int.tmod t297 (IntKind.u64.wrap (a1)))))≤(Int.tmod t297 (IntKind.u64.wrap (a1))))=false:=decide_eq_false c6
   clear c6
   by_cases c8 : a0 < 0
   ·
    rw [if_pos c8] at H
    have c8b0 : decide (a0 < 0)=true:=decide_eq_true c8
    clear c8
    simp only [Option.some.injEq,Prod.mk.injEq] at H
    obtain ⟨rfl,rfl⟩:=H
    go_enter Try.func105,Try.ntmps105
    go_wp2_with (first|(go_at_call 120;(with_reducible refine (num_size.calls a0 t297 _ A4.out).mono ?_);rintro e w' ⟨rfl,⟨nd,rfl⟩⟩;(try exact yww)))
    repeat (go_quiet (first|(go_at_call 120;(with_reducible refine (num_size.calls a0 t297 _ A4.out).mono ?_);rintro e w' ⟨rfl,⟨nd,rfl⟩⟩;(try exact yww)));try go_wp2_with (first|(go_at_call 120;(with_reducible refine (num_size.calls a0 t297 _ A4.out).mono ?_);rintro e w' ⟨rfl,⟨nd,rfl⟩⟩;(try exact yww))))
    go_ret2
    exact ⟨yq,yd⟩
   ·
    rw [if_neg c8] at H
    have c8b0 : decide (a0 < 0)=false:=decide_eq_false c8
    clear c8
    simp only [Option.some.injEq,Prod.mk.injEq] at H
    obtain ⟨rfl,rfl⟩:=H
    go_enter Try.func105,Try.ntmps105
    go_wp2_with (first|(go_at_call 120;(with_reducible refine (num_size.calls a0 t297 _ A4.out).mono ?_);rintro e w' ⟨rfl,⟨nd,rfl⟩⟩;(try exact yww)))
    repeat (go_quiet (first|(go_at_call 120;(with_reducible refine (num_size.calls a0 t297 _ A4.out).mono ?_);rintro e w' ⟨rfl,⟨nd,rfl⟩⟩;(try exact yww)));try go_wp2_with (first|(go_at_call 120;(with_reducible refine (num_size.calls a0 t297 _ A4.out).mono ?_);rintro e w' ⟨rfl,⟨nd,rfl⟩⟩;(try exact yww))))
    go_ret2
    exact ⟨yq,yd⟩
def comb_size.f (a0 : Int) : Option (Int):=if a0 < (-12) then (some 13) else (if a0 > 12 then (some 13) else (some (mx a0 (wrap64 (-a0)))))
set_option maxHeartbeats 8000000 in
set_option maxRecDepth 100000 in
theorem comb_size.calls (a0 : Int) (r : Int) (w : World) (h : comb_size.f a0=some r) :
  Calls Try.prog 91 #[.int .i64 a0] w fun e w' => e=.returned (.int .i64 r)∧Below w.heap.size w w' := by
 have HB:=zm (Below.refl w.heap.size w)
 have H : (if a0 < (-12) then (some 13) else (if a0 > 12 then (some 13) else (some (mx a0 (wrap64 (-a0))))))=some r:=h
 clear h
 by_cases c2 : a0 < (-12)
 ·
  rw [if_pos c2] at H
  have c2b0 : decide (a0 < (-12))=true:=decide_eq_true c2
  clear c2
  obtain rfl:=Option.some.inj H
  go_enter Try.func91,Try.ntmps91
  go_wp2
  go_ret
  exact ⟨ye,yhb⟩
 ·
  rw [if_neg c2] at H
  have c2b0 : decide (a0 < (-12))=false:=decide_eq_false c2
  clear c2
  by_cases c3 : a0 > 12
  ·
   rw [if_pos c3] at H
   have c3b0 : decide (12 < a0)=true:=decide_eq_true c3
   clear c3
   obtain rfl:=Option.some.inj H
   go_enter Try.func91,Try.ntmps91
   go_wp2
   go_ret
   exact ⟨ye,yhb⟩
  ·
   rw [if_neg c3] at H
   have c3b0 : decide (12 < a0)=false:=decide_eq_false c3
   clear c3
   obtain ⟨ji4,hji4⟩ : ∃ j_ : Int,(mx a0 (wrap64 (-a0)))=j_:=⟨_,rfl⟩
   replace H : (some ji4)=some r:=by first|(rw [hji4] at H;exact H)|(simp only [hji4] at H ⊢; exact H)
   have hji4_ : (if a0 < (wrap64 (-a0)) then (wrap64 (-a0)) else a0)=ji4:=hji4
   obtain rfl:=Option.some.inj H
   go_enter Try.func91,Try.ntmps91
   go_wp2
   go_ret
   exact ⟨by first|rfl|(simp [errW_none,errW_some] <;> rfl)|(simp only [← hji4];first|rfl|(simp [errW_none,errW_some] <;> rfl))|(simp [*,errW_none,errW_some] <;> rfl),yhb⟩
mutual
def comb_Index.j0 : Nat→List Int→Bool→Option (Int × Int)
 | 0,_,_=>none
 | k+1,x0,x21=>if x21=true then (some (0,1)) else (comb_Index.l0 k x0 0 x0 (x0.length : Int) 0)
def comb_Index.l0 : Nat→List Int→Int→List Int→Int→Int→Option (Int × Int)
 | 0,_,_,_,_,_=>none
 | k+1,x0,x4,x22,x23,x24=>if x24 < x23 then (if 0≤x24 then (if x24 < (x22.length : Int) then ((comb_size.f (rd x22 x24)).bind fun t272=>(comb_Index.l0 k x0 (wrap64 (x4+t272)) x22 x23 (wrap64 (x24+1)))) else (none)) else (none)) else (if x4 > 12 then (some (0,1)) else (comb_Index.l1 k x0 x4 0 x0 (x0.length : Int) 0))
def comb_Index.l1 : Nat→List Int→Int→Int→List Int→Int→Int→Option (Int × Int)
 | 0,_,_,_,_,_,_=>none
 | k+1,x0,x4,x8,x36,x37,x38=>if x38 < x37 then (if 0≤x38 then (if x38 < (x36.length : Int) then ((comb_size.f (rd x36 x38)).bind fun t277=>(if t277 > 0 then ((comb_table.f (wrap64 ((wrap64 ((x0.length : Int) - x38)) - 1)) x4).bind fun t278=>(comb_Index.j3 k x0 x4 (IntKind.u64.wrap (x8+t278)) (rd x36 x38) (wrap64 ((wrap64 ((x0.length : Int) - x38)) - 1)) t277 x36 x37 x38)) else (comb_Index.j3 k x0 x4 x8 (rd x36 x38) (wrap64 ((wrap64 ((x0.length : Int) - x38)) - 1)) t277 x36 x37 x38))) else (none)) else (none)) else (some (x8,0))
def comb_Index.j3 : Nat→List Int→Int→Int→Int→Int→Int→List Int→Int→Int→Option (Int × Int)
 | 0,_,_,_,_,_,_,_,_,_=>none
 | k+1,x0,x4,x8,x10,x11,x12,x36,x37,x38=>comb_Index.l2 k x0 x4 x8 x10 x11 x12 1 x36 x37 x38
def comb_Index.l2 : Nat→List Int→Int→Int→Int→Int→Int→Int→List Int→Int→Int→Option (Int × Int)
 | 0,_,_,_,_,_,_,_,_,_,_=>none
 | k+1,x0,x4,x8,x10,x11,x12,x13,x36,x37,x38=>if x13 < x12 then ((comb_table.f x11 (wrap64 (x4 - x13))).bind fun t279=>(comb_Index.l2 k x0 x4 (IntKind.u64.wrap (x8+(IntKind.u64.wrap (2 * t279)))) x10 x11 x12 (wrap64 (x13+1)) x36 x37 x38)) else (if x10 < 0 then ((comb_table.f x11 (wrap64 (x4 - x12))).bind fun t280=>(comb_Index.l1 k x0 (wrap64 (x4 - x12)) (IntKind.u64.wrap (x8+t280)) x36 x37 (wrap64 (x38+1)))) else (comb_Index.l1 k x0 (wrap64 (x4 - x12)) x8 x36 x37 (wrap64 (x38+1))))
end
def comb_Index.f (k : Nat) (l0 : List Int) : Option (Int × Int):=if (l0.length : Int) < 1 then (comb_Index.j0 k l0 true) else (comb_Index.j0 k l0 (decide ((l0.length : Int) > 16)))
theorem comb_Index.mono_l : ∀ k,(∀ y0 y1,LeO (comb_Index.j0 k y0 y1) (comb_Index.j0 (k+1) y0 y1))∧(∀ y0 y1 y2 y3 y4,LeO (comb_Index.l0 k y0 y1 y2 y3 y4) (comb_Index.l0 (k+1) y0 y1 y2 y3 y4))∧(∀ y0 y1 y2 y3 y4 y5,LeO (comb_Index.l1 k y0 y1 y2 y3 y4 y5) (comb_Index.l1 (k+1) y0 y1 y2 y3 y4 y5))∧(∀ y0 y1 y2 y3 y4 y5 y6 y7 y8,LeO (comb_Index.j3 k y0 y1 y2 y3 y4 y5 y6 y7 y8) (comb_Index.j3 (k+1) y0 y1 y2 y3 y4 y5 y6 y7 y8))∧(∀ y0 y1 y2 y3 y4 y5 y6 y7 y8 y9,LeO (comb_Index.l2 k y0 y1 y2 y3 y4 y5 y6 y7 y8 y9) (comb_Index.l2 (k+1) y0 y1 y2 y3 y4 y5 y6 y7 y8 y9))
 | 0=>⟨fun _ _ r h=>by simp [comb_Index.j0] at h,fun _ _ _ _ _ r h=>by simp [comb_Index.l0] at h,fun _ _ _ _ _ _ r h=>by simp [comb_Index.l1] at h,fun _ _ _ _ _ _ _ _ _ r h=>by simp [comb_Index.j3] at h,fun _ _ _ _ _ _ _ _ _ _ r h=>by simp [comb_Index.l2] at h⟩
 | k+1=>by
  obtain ⟨ih0,ih1,ih2,ih3,ih4⟩:=comb_Index.mono_l k
  refine ⟨?_, ?_, ?_, ?_, ?_⟩
  ·
   intro y0 y1
   unfold comb_Index.j0
   repeat' with_reducible first|apply ih0|apply ih1|apply ih2|apply ih3|apply ih4|apply yLr|apply yLn|apply yLi|apply yLb|intro _
  ·
   intro y0 y1 y2 y3 y4
   unfold comb_Index.l0
   repeat' with_reducible first|apply ih0|apply ih1|apply ih2|apply ih3|apply ih4|apply yLr|apply yLn|apply yLi|apply yLb|intro _
  ·
   intro y0 y1 y2 y3 y4 y5
   unfold comb_Index.l1
   repeat' with_reducible first|apply ih0|apply ih1|apply ih2|apply ih3|apply ih4|apply yLr|apply yLn|apply yLi|apply yLb|intro _
  ·
   intro y0 y1 y2 y3 y4 y5 y6 y7 y8
   unfold comb_Index.j3
   repeat' with_reducible first|apply ih0|apply ih1|apply ih2|apply ih3|apply ih4|apply yLr|apply yLn|apply yLi|apply yLb|intro _
  ·
   intro y0 y1 y2 y3 y4 y5 y6 y7 y8 y9
   unfold comb_Index.l2
   repeat' with_reducible first|apply ih0|apply ih1|apply ih2|apply ih3|apply ih4|apply yLr|apply yLn|apply yLi|apply yLb|intro _
theorem comb_Index.mono : ∀ a0 k,LeO (comb_Index.f k a0) (comb_Index.f (k+1) a0):=by
 intro a0 k
 obtain ⟨ih0,ih1,ih2,ih3,ih4⟩:=comb_Index.mono_l k
 unfold comb_Index.f
 repeat' with_reducible first|apply ih0|apply ih1|apply ih2|apply ih3|apply ih4|apply yLr|apply yLn|apply yLi|apply yLb|intro _
set_option maxHeartbeats 8000000 in
set_option maxRecDepth 100000 in
theorem comb_Index.calls (k : Nat) (A0 : Option Addr) (c0 : Nat) (l0 : List Int) (r1 : Int) (r2 : Int) (w : World) (hr0 : Kd.C (Kd.int .i64) w A0 l0.length l0) (hc0 : l0.length≤c0) (h : comb_Index.f k l0=some (r1,r2)) :
  Calls Try.prog 49 #[.slice A0 l0.length c0] w fun e w' => e=.returned (.tuple #[.int .u64 r1, .int .i64 r2])∧Below w.heap.size w w' := by
 have HR0:=zm hr0;have HC0:=zm hc0;clear hr0 hc0;have HB:=zm (Below.refl w.heap.size w)
 have H : (if (l0.length : Int) < 1 then (comb_Index.j0 k l0 true) else (comb_Index.j0 k l0 (decide ((l0.length : Int) > 16))))=some (r1,r2):=h
 clear h;have HC2:=zm H;clear H
 go_enter Try.func49,Try.ntmps49
 go_upto_region 1 with (fail)
 go_cut [21] (fun v21 wc => ∃ (kq : Nat) (x21_1 : Bool),v21=.bool x21_1∧Aside0 (comb_Index.j0 kq l0 x21_1=some (r1,r2))∧Aside0 (kq≤k)∧Aside0 (Below w.heap.size w wc))
 case first =>
  have H:=HC2.out;clear HC2
  by_cases c3 : (l0.length : Int) < 1
  ·
   rw [if_pos c3] at H
   have c3b0 : decide ((l0.length : Int) < 1)=true:=decide_eq_true c3
   have c3b1 : decide (l0.length < 1)=true:=decide_eq_true (by omega)
   clear c3
   (first|rw [c3b0]|(simp only [i64_w,i32_w];rw [c3b0])|skip)
   have H' := zm H
   clear H
   go_wp2
   go_meet
   case rel=>exact ⟨_,(true),yq,H',⟨yo⟩,⟨yhb⟩⟩
  ·
   rw [if_neg c3] at H
   have c3b0 : decide ((l0.length : Int) < 1)=false:=decide_eq_false c3
   have c3b1 : decide (l0.length < 1)=false:=decide_eq_false (by omega)
   clear c3
   (first|rw [c3b0]|(simp only [i64_w,i32_w];rw [c3b0])|skip)
   have H' := zm H
   clear H
   go_wp2
   go_meet
   case rel=>exact ⟨_,(decide ((l0.length : Int) > 16)),yq,H',⟨yo⟩,⟨yhb⟩⟩
 case rest =>
  clear HC2
  obtain ⟨kq,x21_1,rfl,HA,HJ1,HB⟩:=hcut
  obtain ⟨kj1,rfl⟩:=ysu kq (fun h=>by subst h;exact absurd HA.out (by simp [comb_Index.j0]))
  have H:=HA.out;clear HA
  simp only [comb_Index.j0] at H
  by_cases c4 : x21_1=true
  ·
   subst c4
   rw [if_pos rfl] at H
   simp only [Option.some.injEq,Prod.mk.injEq] at H
   obtain ⟨rfl,rfl⟩:=H
   go_wp2
   go_ret2
   exact ⟨ye,yhb⟩
  ·
   replace c4:=Bool.eq_false_iff.mpr c4
   subst c4
   rw [ynf] at H
   have H' := zm H
   clear H
   go_wp2
   go_loopg [4,24] kj1 (fun kq v4 v24 w' => ∃ (x4_2 : Int) (x24_2 : Int),v4=.int .i64 x4_2∧v24=.int .i64 x24_2∧Aside0 (comb_Index.l0 kq l0 x4_2 l0 (l0.length : Int) x24_2=some (r1,r2))∧Aside0 (kq≤kj1)∧Aside0 (Below w.heap.size w w'))
   case atStart=>exact ⟨(0),(0),yq,yq,H',⟨Nat.le_refl _⟩,⟨yhb⟩⟩
   case round =>
    clear H'
    obtain ⟨x4_2,x24_2,rfl,rfl,HA,HK2,HB⟩:=hrel
    obtain ⟨k2,rfl⟩:=ysu gk (fun h=>by subst h;exact absurd HA.out (by simp [comb_Index.l0]))
    have H:=HA.out;clear HA
    simp only [comb_Index.l0] at H
    by_cases c5 : x24_2 < (l0.length : Int)
    ·
     rw [if_pos c5] at H
     have c5b0 : decide (x24_2 < (l0.length : Int))=true:=decide_eq_true c5
     clear c5
     replace H:=yif H;obtain ⟨c6,H⟩:=H
     have c6b0 : decide (0≤x24_2)=true:=decide_eq_true c6
     clear c6
     replace H:=yif H;obtain ⟨c7,H⟩:=H
     have c7b0 : decide (x24_2 < (l0.length : Int))=true:=decide_eq_true c7
     clear c7
     replace H:=ybi H;obtain ⟨t272,A8,H⟩:=H
     have H' := zm H
     clear H
     have p271 : 0≤(x24_2 : Int):=yt
     have q271 : x24_2 < (l0.length : Int):=yt
     obtain ⟨ad271,e271,hx271_0⟩:=Kd.at_int HR0.out x24_2 p271 q271
     cases e271
     replace hx271_0:=yhx HB hx271_0
     replace p271:=eq_true p271
     replace q271:=eq_true q271
     go_wp2_with (first|((with_reducible refine gate_callee (f:=91) rfl ?_);refine ygl 30 Try.func91 #[.int .i64 (rd l0 x24_2)] ?_;(with_reducible refine (comb_size.calls (rd l0 x24_2) t272 _ A8.out).mono ?_);rintro e w9 ⟨rfl,hb⟩;refine ⟨_,rfl, ?_⟩;replace HB:=ybs hb;(try clear hb)))
     go_roundg k2
     case measure=>exact yom2 HJ1 HK2
     case rel=>exact ⟨(wrap64 (x4_2+t272)),(wrap64 (x24_2+1)),yq,yq,H',⟨yom2 HJ1 HK2⟩,⟨yhb⟩⟩
    ·
     rw [if_neg c5] at H
     have c5b0 : decide (x24_2 < (l0.length : Int))=false:=decide_eq_false c5
     clear c5
     by_cases c10 : x4_2 > 12
     ·
      rw [if_pos c10] at H
      have c10b0 : decide (12 < x4_2)=true:=decide_eq_true c10
      clear c10
      simp only [Option.some.injEq,Prod.mk.injEq] at H
      obtain ⟨rfl,rfl⟩:=H
      go_wp2
      go_ret2
      exact ⟨ye,yhb⟩
     ·
      rw [if_neg c10] at H
      have c10b0 : decide (12 < x4_2)=false:=decide_eq_false c10
      clear c10
      obtain ⟨y273,hy273⟩ : ∃ y_ : List Int,y_=(([0] : List Int)):=⟨_,rfl⟩
      replace H : (comb_Index.l1 k2 l0 x4_2 0 l0 (l0.length : Int) 0)=some (r1,r2):=yrw hy273 H
      have Ny273:=zm hy273;clear hy273
      have H' := zm H
      clear H
      obtain ⟨Z,hz,HZs⟩:=comb_table.zsize
      go_wp2_with (first|((with_reducible refine gate_callee (f:=89) rfl ?_);refine goesL_ (some 35) rfl rfl Try.func89 (by kernel_rfl) rfl #[] rfl (by first|rfl|simp) ?_;(with_reducible refine (comb_table.made _).mono ?_);rintro e w5 ⟨rfl,hb5⟩;refine ⟨_,rfl, ?_⟩;have hst:=run_storeCells_new (P:=Try.prog) w5 130 Z (ABl (comb_table.T 16)) comb_table.size16 HZs.out (ABl_one _);have n1_:=zm (ze (zJ yhb hb5) (.cells (ABl (comb_table.T 16)) 130));clear HB;have HB:=n1_;clear n1_;have hbn:=zm (blk_new w5 (.cells (ABl (comb_table.T 16)) 130))))
      have hb0:=HB.out
      obtain ⟨W0,hW0⟩ : ∃ W0,W0=w5.alloc (.cells (ABl (comb_table.T 16)) 130):=⟨_,rfl⟩
      rw [← hW0] at hb0 hbn
      rw [← hW0]
      clear hW0 HB hst hz HZs
      generalize w5.heap.size=B at hbn ⊢
      replace HR0:=zm (Kd.C_below HR0.out hb0)
      have HB:=zm (Below.refl W0.heap.size W0)
      go_loopg [4,8,38] k2 (fun kq v4 v8 v38 w' => ∃ (x4_3 : Int) (x8_3 : Int) (x38_3 : Int),v4=.int .i64 x4_3∧v8=.int .u64 x8_3∧v38=.int .i64 x38_3∧Aside0 (comb_Index.l1 kq l0 x4_3 x8_3 l0 (l0.length : Int) x38_3=some (r1,r2))∧Aside0 (kq≤k2)∧Aside0 (Below W0.heap.size W0 w'))
      case atStart=>exact ⟨(x4_2),(0),(0),yq,yq,yq,H',⟨Nat.le_refl _⟩,⟨yhb⟩⟩
      case round =>
       clear H'
       try clear c5b0
       try clear c6b0
       try clear c7b0
       try clear c10b0
       try clear hx271_0
       try clear p271
       try clear q271
       obtain ⟨x4_3,x8_3,x38_3,rfl,rfl,rfl,HA,HK3,HB⟩:=hrel
       obtain ⟨k3,rfl⟩:=ysu gk (fun h=>by subst h;exact absurd HA.out (by simp [comb_Index.l1]))
       have H:=HA.out;clear HA
       simp only [comb_Index.l1] at H
       by_cases c13 : x38_3 < (l0.length : Int)
       ·
        rw [if_pos c13] at H
        have c13b0 : decide (x38_3 < (l0.length : Int))=true:=decide_eq_true c13
        clear c13
        replace H:=yif H;obtain ⟨c14,H⟩:=H
        have c14b0 : decide (0≤x38_3)=true:=decide_eq_true c14
        clear c14
        replace H:=yif H;obtain ⟨c15,H⟩:=H
        have c15b0 : decide (x38_3 < (l0.length : Int))=true:=decide_eq_true c15
        clear c15
        replace H:=ybi H;obtain ⟨t277,A16,H⟩:=H
        have HC17:=zm H;clear H
        have p276 : 0≤(x38_3 : Int):=yt
        have q276 : x38_3 < (l0.length : Int):=yt
        obtain ⟨ad276,e276,hx276_0⟩:=Kd.at_int HR0.out x38_3 p276 q276
        cases e276
        replace hx276_0:=(HB.out.cell (zb W0 _ hx276_0)).trans hx276_0
        replace p276:=eq_true p276
        replace q276:=eq_true q276
        go_upto_if 51 with (first|((with_reducible refine gate_callee (f:=91) rfl ?_);refine ygl 49 Try.func91 #[.int .i64 (rd l0 x38_3)] ?_;(with_reducible refine (comb_size.calls (rd l0 x38_3) t277 _ A16.out).mono ?_);rintro e w18 ⟨rfl,hb⟩;refine ⟨_,rfl, ?_⟩;replace HB:=ybs hb;(try clear hb)))
        (try simp only [Act.put,List.setIfInBounds_toArray,List.set_cons_zero,List.set_cons_succ])
        go_cut [8] (fun v8 wc => ∃ (kq : Nat) (x8_16 : Int),v8=.int .u64 x8_16∧Aside0 (comb_Index.j3 kq l0 x4_3 x8_16 (rd l0 x38_3) (wrap64 ((wrap64 ((l0.length : Int) - x38_3)) - 1)) t277 l0 (l0.length : Int) x38_3=some (r1,r2))∧Aside0 (kq≤k3)∧Aside0 (Below W0.heap.size W0 wc))
        case first =>
         have H:=HC17.out;clear HC17
         by_cases c19 : t277 > 0
         ·
          rw [if_pos c19] at H
          have c19b0 : decide (0 < t277)=true:=decide_eq_true c19
          clear c19
          (first|rw [c19b0]|(simp only [i64_w,i32_w];rw [c19b0])|skip)
          replace H:=ybi H;obtain ⟨t278,A20,H⟩:=H
          have H' := zm H
          clear H
          obtain ⟨ia0,ib0,ic0,id0⟩:=comb_table.inn A20.out
          have hcl0:=(HB.out.cell (zb W0 _ (comb_table.look hbn.out A20.out))).trans (comb_table.look hbn.out A20.out)
          go_wp2
          go_meet
          case rel=>exact ⟨_,(IntKind.u64.wrap (x8_3+t278)),yq,H',⟨yom3 HJ1 HK2 HK3⟩,⟨yhb⟩⟩
         ·
          rw [if_neg c19] at H
          have c19b0 : decide (0 < t277)=false:=decide_eq_false c19
          clear c19
          (first|rw [c19b0]|(simp only [i64_w,i32_w];rw [c19b0])|skip)
          have H' := zm H
          clear H
          go_wp2
          go_meet
          case rel=>exact ⟨_,(x8_3),yq,H',⟨yom3 HJ1 HK2 HK3⟩,⟨yhb⟩⟩
        case rest =>
         clear HC17
         try clear c13b0
         try clear c14b0
         try clear c15b0
         try clear hx276_0
         try clear p276
         try clear q276
         obtain ⟨kq,x8_16,rfl,HA,HJ16,HB⟩:=hcut
         obtain ⟨kj16,rfl⟩:=ysu kq (fun h=>by subst h;exact absurd HA.out (by simp [comb_Index.j3]))
         have H:=HA.out;clear HA
         simp only [comb_Index.j3] at H
         have H' := zm H
         clear H
         go_wp2
         go_loopg [8,13] kj16 (fun kq v8 v13 w' => ∃ (x8_5 : Int) (x13_5 : Int),v8=.int .u64 x8_5∧v13=.int .i64 x13_5∧Aside0 (comb_Index.l2 kq l0 x4_3 x8_5 (rd l0 x38_3) (wrap64 ((wrap64 ((l0.length : Int) - x38_3)) - 1)) t277 x13_5 l0 (l0.length : Int) x38_3=some (r1,r2))∧Aside0 (kq≤kj16)∧Aside0 (Below W0.heap.size W0 w'))
         case atStart=>exact ⟨(x8_16),(1),yq,yq,H',⟨Nat.le_refl _⟩,⟨yhb⟩⟩
         case round =>
          clear H'
          obtain ⟨x8_5,x13_5,rfl,rfl,HA,HK5,HB⟩:=hrel
          obtain ⟨k5,rfl⟩:=ysu gk (fun h=>by subst h;exact absurd HA.out (by simp [comb_Index.l2]))
          have H:=HA.out;clear HA
          simp only [comb_Index.l2] at H
          by_cases c21 : x13_5 < t277
          ·
           rw [if_pos c21] at H
           have c21b0 : decide (x13_5 < t277)=true:=decide_eq_true c21
           clear c21
           replace H:=ybi H;obtain ⟨t279,A22,H⟩:=H
           have H' := zm H
           clear H
           obtain ⟨ia1,ib1,ic1,id1⟩:=comb_table.inn A22.out
           have hcl1:=(HB.out.cell (zb W0 _ (comb_table.look hbn.out A22.out))).trans (comb_table.look hbn.out A22.out)
           go_wp2
           go_roundg k5
           case measure=>exact yom5 HJ1 HK2 HK3 HJ16 HK5
           case rel=>exact ⟨(IntKind.u64.wrap (x8_5+(IntKind.u64.wrap (2 * t279)))),(wrap64 (x13_5+1)),yq,yq,H',⟨yom5 HJ1 HK2 HK3 HJ16 HK5⟩,⟨yhb⟩⟩
          ·
           rw [if_neg c21] at H
           have c21b0 : decide (x13_5 < t277)=false:=decide_eq_false c21
           clear c21
           by_cases c23 : (rd l0 x38_3) < 0
           ·
            rw [if_pos c23] at H
            have c23b0 : decide ((rd l0 x38_3) < 0)=true:=decide_eq_true c23
            clear c23
            replace H:=ybi H;obtain ⟨t280,A24,H⟩:=H
            have H' := zm H
            clear H
            obtain ⟨ia2,ib2,ic2,id2⟩:=comb_table.inn A24.out
            have hcl2:=(HB.out.cell (zb W0 _ (comb_table.look hbn.out A24.out))).trans (comb_table.look hbn.out A24.out)
            go_wp2
            go_roundg k5
            case measure=>exact yom5 HJ1 HK2 HK3 HJ16 HK5
            case rel=>exact ⟨(wrap64 (x4_3 - t277)),(IntKind.u64.wrap (x8_5+t280)),(wrap64 (x38_3+1)),yq,yq,yq,H',⟨yom5 HJ1 HK2 HK3 HJ16 HK5⟩,⟨yhb⟩⟩
           ·
            rw [if_neg c23] at H
            have c23b0 : decide ((rd l0 x38_3) < 0)=false:=decide_eq_false c23
            clear c23
            have H' := zm H
            clear H
            go_wp2
            go_roundg k5
            case measure=>exact yom5 HJ1 HK2 HK3 HJ16 HK5
            case rel=>exact ⟨(wrap64 (x4_3 - t277)),(x8_5),(wrap64 (x38_3+1)),yq,yq,yq,H',⟨yom5 HJ1 HK2 HK3 HJ16 HK5⟩,⟨yhb⟩⟩
       ·
        rw [if_neg c13] at H
        have c13b0 : decide (x38_3 < (l0.length : Int))=false:=decide_eq_false c13
        clear c13
        simp only [Option.some.injEq,Prod.mk.injEq] at H
        obtain ⟨rfl,rfl⟩:=H
        go_wp2
        go_ret2
        exact ⟨ye,zJ hb0 yhb⟩
mutual
def pvq_Shape.j0 : Nat→List Int→Int→Bool→Option (List Int × Int)
 | 0,_,_,_=>none
 | k+1,x0,x1,x29=>if x29=true then (some (([] : List Int),1)) else (pvq_Shape.l0 k x0 x1 0 x0 (x0.length : Int) 0)
def pvq_Shape.l0 : Nat→List Int→Int→Int→List Int→Int→Int→Option (List Int × Int)
 | 0,_,_,_,_,_,_=>none
 | k+1,x0,x1,x8,x30,x31,x32=>if x32 < x31 then (if 0≤x32 then (if x32 < (x30.length : Int) then (pvq_Shape.l0 k x0 x1 (IntKind.u64.wrap (x8+(IntKind.u64.wrap (wrap64 ((rd x30 x32) * (rd x30 x32)))))) x30 x31 (wrap64 (x32+1))) else (none)) else (none)) else (if 0≤(x0.length : Int) then (if ((x0.length : Int) : Int).toNat≤35184372088832 then ((some (List.replicate ((x0.length : Int) : Int).toNat 0 : List Int)).bind fun y301=>(if x8=0 then (some (y301,0)) else ((num_Sqrt.f k (IntKind.u64.wrap ((IntKind.u64.wrap (x8 * 256)) * 256))).bind fun t304=>(pvq_Shape.l1 k x1 y301 (wrap64 (t304)) x0 (x0.length : Int) 0)))) else (none)) else (none))
def pvq_Shape.l1 : Nat→Int→List Int→Int→List Int→Int→Int→Option (List Int × Int)
 | 0,_,_,_,_,_,_=>none
 | k+1,x1,x11,x12,x54,x55,x56=>if x56 < x55 then (if 0≤x56 then (if x56 < (x54.length : Int) then ((num_Div.f (wrap64 ((wrap64 ((rd x54 x56) * x1)) * 256)) x12).bind fun bt306=>(if x56 < (x11.length : Int) then (pvq_Shape.l1 k x1 (x11.set (x56 : Int).toNat bt306.1) x12 x54 x55 (wrap64 (x56+1))) else (none))) else (none)) else (none)) else (some (x11,0))
end
def pvq_Shape.f (k : Nat) (l0 : List Int) (a1 : Int) : Option (List Int × Int):=(comb_Index.f k l0).bind fun bt298=>(if bt298.2=0 then (if a1 < 0 then (pvq_Shape.j0 k l0 a1 true) else (pvq_Shape.j0 k l0 a1 (decide (a1 > 4194304)))) else (pvq_Shape.j0 k l0 a1 true))
theorem pvq_Shape.mono_l : ∀ k,(∀ y0 y1 y2,LeO (pvq_Shape.j0 k y0 y1 y2) (pvq_Shape.j0 (k+1) y0 y1 y2))∧(∀ y0 y1 y2 y3 y4 y5,LeO (pvq_Shape.l0 k y0 y1 y2 y3 y4 y5) (pvq_Shape.l0 (k+1) y0 y1 y2 y3 y4 y5))∧(∀ y0 y1 y2 y3 y4 y5,LeO (pvq_Shape.l1 k y0 y1 y2 y3 y4 y5) (pvq_Shape.l1 (k+1) y0 y1 y2 y3 y4 y5))
 | 0=>⟨fun _ _ _ r h=>by simp [pvq_Shape.j0] at h,fun _ _ _ _ _ _ r h=>by simp [pvq_Shape.l0] at h,fun _ _ _ _ _ _ r h=>by simp [pvq_Shape.l1] at h⟩
 | k+1=>by
  obtain ⟨ih0,ih1,ih2⟩:=pvq_Shape.mono_l k
  refine ⟨?_, ?_, ?_⟩
  ·
   intro y0 y1 y2
   unfold pvq_Shape.j0
   repeat' with_reducible first|apply ih0|apply ih1|apply ih2|apply comb_Index.mono|apply num_Sqrt.mono|apply yLr|apply yLn|apply yLi|apply yLb|intro _
  ·
   intro y0 y1 y2 y3 y4 y5
   unfold pvq_Shape.l0
   repeat' with_reducible first|apply ih0|apply ih1|apply ih2|apply comb_Index.mono|apply num_Sqrt.mono|apply yLr|apply yLn|apply yLi|apply yLb|intro _
  ·
   intro y0 y1 y2 y3 y4 y5
   unfold pvq_Shape.l1
   repeat' with_reducible first|apply ih0|apply ih1|apply ih2|apply comb_Index.mono|apply num_Sqrt.mono|apply yLr|apply yLn|apply yLi|apply yLb|intro _
theorem pvq_Shape.mono : ∀ a0 a1 k,LeO (pvq_Shape.f k a0 a1) (pvq_Shape.f (k+1) a0 a1):=by
 intro a0 a1 k
 obtain ⟨ih0,ih1,ih2⟩:=pvq_Shape.mono_l k
 unfold pvq_Shape.f
 repeat' with_reducible first|apply ih0|apply ih1|apply ih2|apply comb_Index.mono|apply num_Sqrt.mono|apply yLr|apply yLn|apply yLi|apply yLb|intro _
set_option maxHeartbeats 8000000 in
set_option maxRecDepth 100000 in
theorem pvq_Shape.calls (k : Nat) (A0 : Option Addr) (c0 : Nat) (l0 : List Int) (a1 : Int) (r1 : List Int) (r2 : Int) (w : World) (hr0 : Kd.C (Kd.int .i64) w A0 l0.length l0) (hc0 : l0.length≤c0) (h : pvq_Shape.f k l0 a1=some (r1,r2)) :
  Calls Try.prog 104 #[.slice A0 l0.length c0, .int .i64 a1] w fun e w' => ∃ v0_ : Value,e=.returned (.tuple #[v0_, .int .i64 r2])∧Kd.R (Kd.int .i64) 2 w' w.heap.size (fun _=>True) v0_ r1∧Below w.heap.size w w' := by
 have HR0:=zm hr0;have HC0:=zm hc0;clear hr0 hc0;have HB:=zm (Below.refl w.heap.size w)
 have H : ((comb_Index.f k l0).bind fun bt298=>(if bt298.2=0 then (if a1 < 0 then (pvq_Shape.j0 k l0 a1 true) else (pvq_Shape.j0 k l0 a1 (decide (a1 > 4194304)))) else (pvq_Shape.j0 k l0 a1 true)))=some (r1,r2):=h
 clear h
 replace H:=ybi H;obtain ⟨⟨t298,t299⟩,A3,H⟩:=H
 try dsimp only at H
 have HC4:=zm H;clear H
 go_enter Try.func104,Try.ntmps104
 go_upto_region 2 with (first|((with_reducible refine gate_callee (f:=49) rfl ?_);refine ygl 17 Try.func49 #[.slice A0 l0.length c0] ?_;(with_reducible refine (comb_Index.calls k _ _ l0 t298 t299 _ ?side1 HC0.out A3.out).mono ?_);(case side1=>exact yce HR0.out);rintro e w5 ⟨rfl,hb⟩;refine ⟨_,rfl, ?_⟩;replace HB:=ybs hb;(try clear hb)))
 (try simp only [Act.put,List.setIfInBounds_toArray,List.set_cons_zero,List.set_cons_succ])
 go_cut [29] (fun v29 wc => ∃ (kq : Nat) (x29_3 : Bool),v29=.bool x29_3∧Aside0 (pvq_Shape.j0 kq l0 a1 x29_3=some (r1,r2))∧Aside0 (kq≤k)∧Aside0 (Below w.heap.size w wc))
 case first =>
  have H:=HC4.out;clear HC4
  by_cases c6 : t299=0
  ·
   rw [if_pos c6] at H
   have c6b0 : (t299 == 0)=true:=beq_iff_eq.mpr c6
   have c6b1 : (t299 != 0)=false:=bne_eq_false_iff_eq.mpr c6
   clear c6
   (first|rw [c6b0]|(simp only [i64_w,i32_w];rw [c6b0])|skip)
   by_cases c7 : a1 < 0
   ·
    rw [if_pos c7] at H
    have c7b0 : decide (a1 < 0)=true:=decide_eq_true c7
    clear c7
    have H' := zm H
    clear H
    go_wp2
    go_meet
    case rel=>exact ⟨_,(true),yq,H',⟨yo⟩,⟨yhb⟩⟩
   ·
    rw [if_neg c7] at H
    have c7b0 : decide (a1 < 0)=false:=decide_eq_false c7
    clear c7
    have H' := zm H
    clear H
    go_wp2
    go_meet
    case rel=>exact ⟨_,(decide (a1 > 4194304)),yq,H',⟨yo⟩,⟨yhb⟩⟩
  ·
   rw [if_neg c6] at H
   have c6b0 : (t299 == 0)=false:=beq_eq_false_iff_ne.mpr c6
   have c6b1 : (t299 != 0)=true:=bne_iff_ne.mpr c6
   (first|rw [c6b0]|(simp only [i64_w,i32_w];rw [c6b0])|skip)
   have H' := zm H
   clear H
   go_wp2
   go_meet
   case rel=>exact ⟨_,(true),yq,H',⟨yo⟩,⟨yhb⟩⟩
 case rest =>
  clear HC4
  obtain ⟨kq,x29_3,rfl,HA,HJ3,HB⟩:=hcut
  obtain ⟨kj3,rfl⟩:=ysu kq (fun h=>by subst h;exact absurd HA.out (by simp [pvq_Shape.j0]))
  have H:=HA.out;clear HA
  simp only [pvq_Shape.j0] at H
  by_cases c8 : x29_3=true
  ·
   subst c8
   rw [if_pos rfl] at H
   simp only [Option.some.injEq,Prod.mk.injEq] at H
   obtain ⟨rfl,rfl⟩:=H
   go_wp2
   go_ret2
   exact ⟨_,ye,yn,yhb⟩
  ·
   replace c8:=Bool.eq_false_iff.mpr c8
   subst c8
   rw [ynf] at H
   have H' := zm H
   clear H
   go_wp2
   go_loopg [8,32] kj3 (fun kq v8 v32 w' => ∃ (x8_2 : Int) (x32_2 : Int),v8=.int .u64 x8_2∧v32=.int .i64 x32_2∧Aside0 (pvq_Shape.l0 kq l0 a1 x8_2 l0 (l0.length : Int) x32_2=some (r1,r2))∧Aside0 (kq≤kj3)∧Aside0 (Below w.heap.size w w'))
   case atStart=>exact ⟨(0),(0),yq,yq,H',⟨Nat.le_refl _⟩,⟨yhb⟩⟩
   case round =>
    clear H'
    obtain ⟨x8_2,x32_2,rfl,rfl,HA,HK2,HB⟩:=hrel
    obtain ⟨k2,rfl⟩:=ysu gk (fun h=>by subst h;exact absurd HA.out (by simp [pvq_Shape.l0]))
    have H:=HA.out;clear HA
    simp only [pvq_Shape.l0] at H
    by_cases c9 : x32_2 < (l0.length : Int)
    ·
     rw [if_pos c9] at H
     have c9b0 : decide (x32_2 < (l0.length : Int))=true:=decide_eq_true c9
     clear c9
     replace H:=yif H;obtain ⟨c10,H⟩:=H
     have c10b0 : decide (0≤x32_2)=true:=decide_eq_true c10
     clear c10
     replace H:=yif H;obtain ⟨c11,H⟩:=H
     have c11b0 : decide (x32_2 < (l0.length : Int))=true:=decide_eq_true c11
     clear c11
     have H' := zm H
     clear H
     have p300 : 0≤(x32_2 : Int):=yt
     have q300 : x32_2 < (l0.length : Int):=yt
     obtain ⟨ad300,e300,hx300_0⟩:=Kd.at_int HR0.out x32_2 p300 q300
     cases e300
     replace hx300_0:=yhx HB hx300_0
     replace p300:=eq_true p300
     replace q300:=eq_true q300
     go_wp2
     go_roundg k2
     case measure=>exact yom2 HJ3 HK2
     case rel=>exact ⟨(IntKind.u64.wrap (x8_2+(IntKind.u64.wrap (wrap64 ((rd l0 x32_2) * (rd l0 x32_2)))))),(wrap64 (x32_2+1)),yq,yq,H',⟨yom2 HJ3 HK2⟩,⟨yhb⟩⟩
    ·
     rw [if_neg c9] at H
     have c9b0 : decide (x32_2 < (l0.length : Int))=false:=decide_eq_false c9
     clear c9
     replace H:=yif H;obtain ⟨c12,H⟩:=H
     have c12b0:=eq_true c12
     have c12b1 : decide (0≤(l0.length : Int))=true:=decide_eq_true c12
     clear c12
     replace H:=yif H;obtain ⟨c13,H⟩:=H
     have c13b0:=eq_true c13
     have c13b1 : decide (((l0.length : Int) : Int).toNat≤35184372088832)=true:=decide_eq_true c13
     clear c13
     obtain ⟨y301,hy301⟩ : ∃ y_ : List Int,y_=(List.replicate ((l0.length : Int) : Int).toNat 0):=⟨_,rfl⟩
     replace H : (if x8_2=0 then (some (y301,0)) else ((num_Sqrt.f k2 (IntKind.u64.wrap ((IntKind.u64.wrap (x8_2 * 256)) * 256))).bind fun t304=>(pvq_Shape.l1 k2 a1 y301 (wrap64 (t304)) l0 (l0.length : Int) 0)))=some (r1,r2):=yrw hy301 H
     have Ny301:=zm hy301;clear hy301
     by_cases c14 : x8_2=0
     ·
      rw [if_pos c14] at H
      have c14b0 : (x8_2 == 0)=true:=beq_iff_eq.mpr c14
      have c14b1 : (x8_2 != 0)=false:=bne_eq_false_iff_eq.mpr c14
      clear c14
      simp only [Option.some.injEq,Prod.mk.injEq] at H
      obtain ⟨rfl,rfl⟩:=H
      go_wp2_with (first|((with_reducible refine gate_dst (N:=45) rfl ?_);refine Kd.R_make (Kd.int .i64) _ 2 rfl (N:=45) rfl 53 _ _ rfl (l0.length : Int) rfl rfl Try.underlying53 (.int .i64 0) 8 info2 rfl (by decide) (by omega) 0 (ok:=fun _=>True) (okp:=fun _=>True) rfl (fun _ hk=>hk) trivial (yt) (Nat.le_trans (Nat.mul_le_mul_right _ (yt : (l0.length : Int).toNat≤35184372088832)) (by omega)) (Below.refl _ _) (Nat.le_refl _) ?_;intro v302 w15 ho16 hb hg_ hnew_;clear hg_ hnew_;(first|rw [← Ny301.out] at ho16|(simp only [Int.reduceToNat] at ho16;rw [← Ny301.out] at ho16));have HO303:=zm (Kd.R_lower ho16 (zE yhb));replace HB:=ybs hb;clear hb ho16))
      go_ret2
      exact ⟨_,ye,yr HO303,yhb⟩
     ·
      rw [if_neg c14] at H
      have c14b0 : (x8_2 == 0)=false:=beq_eq_false_iff_ne.mpr c14
      have c14b1 : (x8_2 != 0)=true:=bne_iff_ne.mpr c14
      replace H:=ybi H;obtain ⟨t304,A17,H⟩:=H
      have H' := zm H
      clear H
      go_wp2_with (first|((with_reducible refine gate_dst (N:=45) rfl ?_);refine Kd.R_make (Kd.int .i64) _ 2 rfl (N:=45) rfl 53 _ _ rfl (l0.length : Int) rfl rfl Try.underlying53 (.int .i64 0) 8 info2 rfl (by decide) (by omega) 0 (ok:=fun _=>True) (okp:=fun _=>True) rfl (fun _ hk=>hk) trivial (yt) (Nat.le_trans (Nat.mul_le_mul_right _ (yt : (l0.length : Int).toNat≤35184372088832)) (by omega)) (Below.refl _ _) (Nat.le_refl _) ?_;intro v302 w18 ho19 hb hg_ hnew_;clear hg_ hnew_;(first|rw [← Ny301.out] at ho19|(simp only [Int.reduceToNat] at ho19;rw [← Ny301.out] at ho19));have HO303:=zm (Kd.R_lower ho19 (zE yhb));replace HB:=ybs hb;clear hb ho19)|((with_reducible refine gate_callee (f:=106) rfl ?_);refine ygl 52 Try.func106 #[.int .u64 (IntKind.u64.wrap ((IntKind.u64.wrap (x8_2 * 256)) * 256))] ?_;(with_reducible refine (num_Sqrt.calls k2 (IntKind.u64.wrap ((IntKind.u64.wrap (x8_2 * 256)) * 256)) t304 _ A17.out).mono ?_);rintro e w' ⟨rfl,⟨nd,rfl⟩⟩;refine ⟨_,rfl, ?_⟩))
      go_loopg [56] k2 (fun kq v56 w' => ∃ (x11_3 : List Int) (x56_3 : Int),v56=.int .i64 x56_3∧Aside0 (pvq_Shape.l1 kq a1 x11_3 (wrap64 (t304)) l0 (l0.length : Int) x56_3=some (r1,r2))∧Aside0 (kq≤k2)∧Aside0 (Kd.R (Kd.int .i64) 2 w' w.heap.size (fun _=>True) v302 x11_3)∧Aside0 (Below w.heap.size w w'))
      case atStart=>exact ⟨(y301),(0),yq,H',⟨Nat.le_refl _⟩,⟨yr HO303⟩,⟨yhb⟩⟩
      case round =>
       clear H'
       try clear c9b0
       try clear c10b0
       try clear c11b0
       try clear c12b0
       try clear c12b1
       try clear c13b0
       try clear c13b1
       try clear c14
       try clear c14b0
       try clear c14b1
       try clear hx300_0
       try clear p300
       try clear q300
       obtain ⟨x11_3,x56_3,rfl,HA,HK3,HO_11,HB⟩:=hrel
       obtain ⟨k3,rfl⟩:=ysu gk (fun h=>by subst h;exact absurd HA.out (by simp [pvq_Shape.l1]))
       have H:=HA.out;clear HA
       simp only [pvq_Shape.l1] at H
       by_cases c20 : x56_3 < (l0.length : Int)
       ·
        rw [if_pos c20] at H
        have c20b0 : decide (x56_3 < (l0.length : Int))=true:=decide_eq_true c20
        clear c20
        replace H:=yif H;obtain ⟨c21,H⟩:=H
        have c21b0 : decide (0≤x56_3)=true:=decide_eq_true c21
        clear c21
        replace H:=yif H;obtain ⟨c22,H⟩:=H
        have c22b0 : decide (x56_3 < (l0.length : Int))=true:=decide_eq_true c22
        clear c22
        replace H:=ybi H;obtain ⟨⟨t306,t307⟩,A23,H⟩:=H
        try dsimp only at H
        replace H:=yif H;obtain ⟨c24,H⟩:=H
        have c24b0 : decide (x56_3 < (x11_3.length : Int))=true:=decide_eq_true c24
        clear c24
        obtain ⟨y308,hy308⟩ : ∃ y_ : List Int,y_=(x11_3.set (x56_3 : Int).toNat t306):=⟨_,rfl⟩
        replace H : (pvq_Shape.l1 k3 a1 y308 (wrap64 (t304)) l0 (l0.length : Int) (wrap64 (x56_3+1)))=some (r1,r2):=yrw hy308 H
        have Ny308:=zm hy308;clear hy308
        have H' := zm H
        clear H
        have p305 : 0≤(x56_3 : Int):=yt
        have q305 : x56_3 < (l0.length : Int):=yt
        obtain ⟨ad305,e305,hx305_0⟩:=Kd.at_int HR0.out x56_3 p305 q305
        cases e305
        replace hx305_0:=yhx HB hx305_0
        replace p305:=eq_true p305
        replace q305:=eq_true q305
        go_wp2_with (first|((with_reducible refine gate_callee (f:=105) rfl ?_);refine ygl 69 Try.func105 #[.int .i64 (wrap64 ((wrap64 ((rd l0 x56_3) * a1)) * 256)), .int .i64 (wrap64 (t304))] ?_;(with_reducible refine (num_Div.calls (wrap64 ((wrap64 ((rd l0 x56_3) * a1)) * 256)) (wrap64 (t304)) t306 t307 _ A23.out).mono ?_);rintro e w' ⟨rfl,⟨nd,rfl⟩⟩;refine ⟨_,rfl, ?_⟩;(try (rw [drewN_self wr];generalize hq_ : World.drewN wr _=wr;have n0_ : Aside0 (Kd.R (Kd.int .i64) 2 wr w.heap.size (fun _=>True) v302 x11_3):=⟨by rw [← hq_];exact (yr HO_11)⟩;have n1_ : Aside0 (Below w.heap.size w wr):=⟨by rw [← hq_];exact yhb⟩;clear HO_11 HB hq_;have HO_11:=n0_;have HB:=n1_;clear n0_ n1_));have p25 : 0≤(x56_3 : Int):=yt;have q25 : (x56_3 : Int) < ((x11_3.length : Int) : Int):=yt;obtain ⟨go25,co25,eo25,gb25,gl25,cl25,HG25⟩:=Kd.R_form HO_11.out (by omega);(first|cases eo25|(injection eo25 with ea_ en_ ec_;(first|subst ea_|(injection ea_ with ea_;subst ea_));subst ec_;clear en_));have GB25:=zm gb25;have GG25:=zm HG25;clear gb25 gl25 HG25;obtain ⟨hx25_0,hf25_0⟩:=Kd.R_celln 0 HO_11.out (x56_3 : Int) p25 q25;replace p25:=eq_true p25;replace q25:=eq_true q25;obtain ⟨hy26_,hz26_⟩:=Kd.R_celln 0 HO_11.out (x56_3 : Int) (yt) (yt);have HP26:=Kd.R_putg HO_11.out (x56_3 : Int) t306)|((with_reducible refine gate_store (t:=2) (p:=72) rfl ?_);refine store_event (t:=2) (p:=72) (v := ?vo_w27) (w1:=(wr.setCell ⟨go25,(x56_3 : Int).toNat,none⟩ (.int .i64 t306))) ?hg ?ho ?hn ?hr ?_;(case ho=>rfl);(case hg=>rfl);(case hn=>rfl);(case hr=>first|(go_simp;done)|(go_simp;rfl));intro w27 hw;have hg : wr.grownBy w27 (some go25):=(by rw [hw];exact HP26.2);have hp_ : Kd.R (Kd.int .i64) 2 w27 w.heap.size (fun _=>True) (.slice (some ⟨go25,0,none⟩) x11_3.length co25) y308:=(by rw [hw,Ny308.out];exact HP26.1);clear HP26;replace HO_11:=zm (hp_);replace HB:=zm ((by rw [hw];exact zk (HB.out) GB25.out : Below w.heap.size w w27));clear hg hw hp_))
        go_roundg k3
        case measure=>exact yom3 HJ3 HK2 HK3
        case rel=>exact ⟨(y308),(wrap64 (x56_3+1)),yq,H',⟨yom3 HJ3 HK2 HK3⟩,⟨yr HO_11⟩,⟨yhb⟩⟩
       ·
        rw [if_neg c20] at H
        have c20b0 : decide (x56_3 < (l0.length : Int))=false:=decide_eq_false c20
        clear c20
        simp only [Option.some.injEq,Prod.mk.injEq] at H
        obtain ⟨rfl,rfl⟩:=H
        go_wp2
        go_ret2
        exact ⟨_,ye,yr HO_11,yhb⟩
mutual
def ccodec_next.j2 : Nat→List Int→Option (List Int)
 | 0,_=>none
 | k+1,x6=>ccodec_next.l1 k x6 (x6.length : Int) 0
def ccodec_next.l1 : Nat→List Int→Int→Int→Option (List Int)
 | 0,_,_,_=>none
 | k+1,x6,x72,x73=>if x73 < x72 then (if 0≤x73 then (if x73 < (x6.length : Int) then ((num_Clamp.f (rd x6 x73) (-1048576) 1048576).bind fun t325=>(ccodec_next.l1 k (x6.set (x73 : Int).toNat t325) x72 (wrap64 (x73+1)))) else (none)) else (none)) else (some x6)
def ccodec_next.j0 : Nat→List Int→List Int→List Int→Int→Bool→Option (List Int)
 | 0,_,_,_,_,_=>none
 | k+1,x0,x2,x6,x7,x27=>if x27=true then ((num_Sqrt.f k (IntKind.u64.wrap ((IntKind.u64.wrap ((IntKind.u64.wrap ((x0.length : Int))) * 256)) * 256))).bind fun t318=>((num_Div.f (wrap64 (x7 * 256)) (wrap64 (t318))).bind fun bt319=>(ccodec_next.l0 k x2 x6 bt319.1 (x6.length : Int) 0))) else (ccodec_next.j2 k x6)
def ccodec_next.l0 : Nat→List Int→List Int→Int→Int→Int→Option (List Int)
 | 0,_,_,_,_,_=>none
 | k+1,x2,x6,x8,x49,x50=>if x50 < x49 then (if 0≤x50 then (if x50 < (x6.length : Int) then ((some (x6.set (x50 : Int).toNat x8 : List Int)).bind fun y321=>(if (x2.length : Int)=0 then (none) else (if 0≤(Int.tmod x50 (x2.length : Int)) then (if (Int.tmod x50 (x2.length : Int)) < (x2.length : Int) then (if (rd x2 (Int.tmod x50 (x2.length : Int))) < 0 then (ccodec_next.l0 k x2 (y321.set (x50 : Int).toNat (wrap64 (-x8))) x8 x49 (wrap64 (x50+1))) else (ccodec_next.l0 k x2 y321 x8 x49 (wrap64 (x50+1)))) else (none)) else (none)))) else (none)) else (none)) else (ccodec_next.j2 k x6)
end
def ccodec_next.f (k : Nat) (l0 : List Int) (a1 : Int) (l2 : List Int) : Option (List Int):=if 0≤(l0.length : Int) then (if ((l0.length : Int) : Int).toNat≤35184372088832 then ((some (List.replicate ((l0.length : Int) : Int).toNat 0 : List Int)).bind fun y309=>((band_Value.f k a1).bind fun t312=>((ccodec_loud.f k l0).bind fun t313=>(if t313=true then ((pvq_Shape.f k l0 t312).bind fun bt314=>(ccodec_next.j2 k bt314.1)) else (if t312 > 0 then (ccodec_next.j0 k l0 l2 y309 t312 (decide ((l2.length : Int) > 0))) else (ccodec_next.j0 k l0 l2 y309 t312 false)))))) else (none)) else (none)
theorem ccodec_next.mono_l : ∀ k,(∀ y0,LeO (ccodec_next.j2 k y0) (ccodec_next.j2 (k+1) y0))∧(∀ y0 y1 y2,LeO (ccodec_next.l1 k y0 y1 y2) (ccodec_next.l1 (k+1) y0 y1 y2))∧(∀ y0 y1 y2 y3 y4,LeO (ccodec_next.j0 k y0 y1 y2 y3 y4) (ccodec_next.j0 (k+1) y0 y1 y2 y3 y4))∧(∀ y0 y1 y2 y3 y4,LeO (ccodec_next.l0 k y0 y1 y2 y3 y4) (ccodec_next.l0 (k+1) y0 y1 y2 y3 y4))
 | 0=>⟨fun _ r h=>by simp [ccodec_next.j2] at h,fun _ _ _ r h=>by simp [ccodec_next.l1] at h,fun _ _ _ _ _ r h=>by simp [ccodec_next.j0] at h,fun _ _ _ _ _ r h=>by simp [ccodec_next.l0] at h⟩
 | k+1=>by
  obtain ⟨ih0,ih1,ih2,ih3⟩:=ccodec_next.mono_l k
  refine ⟨?_, ?_, ?_, ?_⟩
  ·
   intro y0
   unfold ccodec_next.j2
   repeat' with_reducible first|apply ih0|apply ih1|apply ih2|apply ih3|apply band_Value.mono|apply ccodec_loud.mono|apply num_Sqrt.mono|apply pvq_Shape.mono|apply yLr|apply yLn|apply yLi|apply yLb|intro _
  ·
   intro y0 y1 y2
   unfold ccodec_next.l1
   repeat' with_reducible first|apply ih0|apply ih1|apply ih2|apply ih3|apply band_Value.mono|apply ccodec_loud.mono|apply num_Sqrt.mono|apply pvq_Shape.mono|apply yLr|apply yLn|apply yLi|apply yLb|intro _
  ·
   intro y0 y1 y2 y3 y4
   unfold ccodec_next.j0
   repeat' with_reducible first|apply ih0|apply ih1|apply ih2|apply ih3|apply band_Value.mono|apply ccodec_loud.mono|apply num_Sqrt.mono|apply pvq_Shape.mono|apply yLr|apply yLn|apply yLi|apply yLb|intro _
  ·
   intro y0 y1 y2 y3 y4
   unfold ccodec_next.l0
   repeat' with_reducible first|apply ih0|apply ih1|apply ih2|apply ih3|apply band_Value.mono|apply ccodec_loud.mono|apply num_Sqrt.mono|apply pvq_Shape.mono|apply yLr|apply yLn|apply yLi|apply yLb|intro _
theorem ccodec_next.mono : ∀ a0 a1 a2 k,LeO (ccodec_next.f k a0 a1 a2) (ccodec_next.f (k+1) a0 a1 a2):=by
 intro a0 a1 a2 k
 obtain ⟨ih0,ih1,ih2,ih3⟩:=ccodec_next.mono_l k
 unfold ccodec_next.f
 repeat' with_reducible first|apply ih0|apply ih1|apply ih2|apply ih3|apply band_Value.mono|apply ccodec_loud.mono|apply num_Sqrt.mono|apply pvq_Shape.mono|apply yLr|apply yLn|apply yLi|apply yLb|intro _
set_option maxHeartbeats 8000000 in
set_option maxRecDepth 100000 in
theorem ccodec_next.calls (k : Nat) (B : Nat) (A0 : Option Addr) (c0 : Nat) (l0 : List Int) (a1 : Int) (A2 : Option Addr) (c2 : Nat) (l2 : List Int) (r : List Int) (w : World) (hr0 : Kd.C (Kd.int .i64) w A0 l0.length l0) (hc0 : l0.length≤c0) (hr2 : Kd.C (Kd.int .i64) w A2 l2.length l2) (hc2 : l2.length≤c2) (hs : w.heap[B]? = some (.cells #[.slice A2 l2.length c2] 53 (0,0))) (h : ccodec_next.f k l0 a1 l2=some r) :
  Calls Try.prog 101 #[.slice A0 l0.length c0, .int .i64 a1, .pointer (some ⟨B,0,none⟩)] w fun e w' => ∃ v0_ : Value,e=.returned (v0_)∧Kd.R (Kd.int .i64) 2 w' w.heap.size (fun _=>True) v0_ r∧Kept w w' (fun k_=>k_=B)∧Below B w w'∧w'.heap[B]? = some (.cells #[v0_] 53 (0,0)):=by
 have HCL : Aside0 (w.cell? ⟨B,0,none⟩=some (.slice A2 l2.length c2)):=⟨(zs hs 0).trans rfl⟩
 have HS:=zm hs;clear hs;have HR0:=zm hr0;have HC0:=zm hc0;clear hr0 hc0;have HR2:=zm hr2;have HC2:=zm hc2;clear hr2 hc2;have HB:=zm (Below.refl w.heap.size w)
 have H : (if 0≤(l0.length : Int) then (if ((l0.length : Int) : Int).toNat≤35184372088832 then ((some (List.replicate ((l0.length : Int) : Int).toNat 0 : List Int)).bind fun y309=>((band_Value.f k a1).bind fun t312=>((ccodec_loud.f k l0).bind fun t313=>(if t313=true then ((pvq_Shape.f k l0 t312).bind fun bt314=>(ccodec_next.j2 k bt314.1)) else (if t312 > 0 then (ccodec_next.j0 k l0 l2 y309 t312 (decide ((l2.length : Int) > 0))) else (ccodec_next.j0 k l0 l2 y309 t312 false)))))) else (none)) else (none))=some r:=h
 clear h
 replace H:=yif H;obtain ⟨c4,H⟩:=H
 have c4b0:=eq_true c4
 have c4b1 : decide (0≤(l0.length : Int))=true:=decide_eq_true c4
 clear c4
 replace H:=yif H;obtain ⟨c5,H⟩:=H
 have c5b0:=eq_true c5
 have c5b1 : decide (((l0.length : Int) : Int).toNat≤35184372088832)=true:=decide_eq_true c5
 clear c5
 obtain ⟨y309,hy309⟩ : ∃ y_ : List Int,y_=(List.replicate ((l0.length : Int) : Int).toNat 0):=⟨_,rfl⟩
 replace H : ((band_Value.f k a1).bind fun t312=>((ccodec_loud.f k l0).bind fun t313=>(if t313=true then ((pvq_Shape.f k l0 t312).bind fun bt314=>(ccodec_next.j2 k bt314.1)) else (if t312 > 0 then (ccodec_next.j0 k l0 l2 y309 t312 (decide ((l2.length : Int) > 0))) else (ccodec_next.j0 k l0 l2 y309 t312 false)))))=some r:=yrw hy309 H
 have Ny309:=zm hy309;clear hy309
 replace H:=ybi H;obtain ⟨t312,A6,H⟩:=H
 have HC7:=zm H;clear H
 go_enter Try.func101,Try.ntmps101
 go_upto_block 0 with (first|((with_reducible refine gate_dst (N:=15) rfl ?_);(try (refine gate_guard (by rfl) ?_;dsimp only));refine Kd.R_make (Kd.int .i64) _ 2 rfl (N:=15) rfl 53 _ _ rfl (l0.length : Int) rfl rfl Try.underlying53 (.int .i64 0) 8 info2 rfl (by decide) (by omega) 0 (ok:=fun _=>True) (okp:=fun _=>True) rfl (fun _ hk=>hk) trivial (yt) (Nat.le_trans (Nat.mul_le_mul_right _ (yt : (l0.length : Int).toNat≤35184372088832)) (by omega)) (Below.refl _ _) (Nat.le_refl _) ?_;intro v310 w8 ho9 hb hg_ hnew_;clear hg_ hnew_;(first|rw [← Ny309.out] at ho9|(simp only [Int.reduceToNat] at ho9;rw [← Ny309.out] at ho9));have HO311:=zm (Kd.R_lower ho9 (zE yhb));replace HB:=ybs hb;clear hb ho9)|(go_at_call 102;(with_reducible refine (band_Value.calls k a1 t312 _ A6.out).mono ?_);rintro e w' ⟨rfl,⟨nd,rfl⟩⟩;(try exact yww)))
 repeat (go_quiet (first|((with_reducible refine gate_dst (N:=15) rfl ?_);(try (refine gate_guard (by rfl) ?_;dsimp only));refine Kd.R_make (Kd.int .i64) _ 2 rfl (N:=15) rfl 53 _ _ rfl (l0.length : Int) rfl rfl Try.underlying53 (.int .i64 0) 8 info2 rfl (by decide) (by omega) 0 (ok:=fun _=>True) (okp:=fun _=>True) rfl (fun _ hk=>hk) trivial (yt) (Nat.le_trans (Nat.mul_le_mul_right _ (yt : (l0.length : Int).toNat≤35184372088832)) (by omega)) (Below.refl _ _) (Nat.le_refl _) ?_;intro v310 w8 ho9 hb hg_ hnew_;clear hg_ hnew_;(first|rw [← Ny309.out] at ho9|(simp only [Int.reduceToNat] at ho9;rw [← Ny309.out] at ho9));have HO311:=zm (Kd.R_lower ho9 (zE yhb));replace HB:=ybs hb;clear hb ho9)|(go_at_call 102;(with_reducible refine (band_Value.calls k a1 t312 _ A6.out).mono ?_);rintro e w' ⟨rfl,⟨nd,rfl⟩⟩;(try exact yww)));go_upto_block 0 with (first|((with_reducible refine gate_dst (N:=15) rfl ?_);(try (refine gate_guard (by rfl) ?_;dsimp only));refine Kd.R_make (Kd.int .i64) _ 2 rfl (N:=15) rfl 53 _ _ rfl (l0.length : Int) rfl rfl Try.underlying53 (.int .i64 0) 8 info2 rfl (by decide) (by omega) 0 (ok:=fun _=>True) (okp:=fun _=>True) rfl (fun _ hk=>hk) trivial (yt) (Nat.le_trans (Nat.mul_le_mul_right _ (yt : (l0.length : Int).toNat≤35184372088832)) (by omega)) (Below.refl _ _) (Nat.le_refl _) ?_;intro v310 w8 ho9 hb hg_ hnew_;clear hg_ hnew_;(first|rw [← Ny309.out] at ho9|(simp only [Int.reduceToNat] at ho9;rw [← Ny309.out] at ho9));have HO311:=zm (Kd.R_lower ho9 (zE yhb));replace HB:=ybs hb;clear hb ho9)|(go_at_call 102;(with_reducible refine (band_Value.calls k a1 t312 _ A6.out).mono ?_);rintro e w' ⟨rfl,⟨nd,rfl⟩⟩;(try exact yww))))
 (try simp only [Act.put,List.setIfInBounds_toArray,List.set_cons_zero,List.set_cons_succ])
 go_cut [6] (fun v6 wc => ∃ (kq : Nat) (x6_6 : List Int),Aside0 (ccodec_next.j2 kq x6_6=some r)∧Aside0 (kq≤k)∧Aside0 (Kd.R (Kd.int .i64) 2 wc w.heap.size (fun _=>True) v6 x6_6)∧Aside0 (Below w.heap.size w wc))
 case first =>
  have H:=HC7.out;clear HC7
  replace H:=ybi H;obtain ⟨t313,A10,H⟩:=H
  by_cases c11 : t313=true
  ·
   subst c11
   rw [if_pos rfl] at H
   replace H:=ybi H;obtain ⟨⟨t314,t315⟩,A12,H⟩:=H
   try dsimp only at H
   have H' := zm H
   clear H
   go_wp2_with (first|(go_at_call 103;(with_reducible refine (ccodec_loud.calls k _ _ l0 true _ ?side1 HC0.out A10.out).mono ?_);(case side1=>exact ycb HR0);rintro e w' ⟨rfl,⟨nd,rfl⟩⟩;(try exact yww))|(go_at_call 104;(with_reducible refine (pvq_Shape.calls k _ _ l0 t312 t314 t315 _ ?side1 HC0.out A12.out).mono ?_);(case side1=>exact ycb HR0);rintro e w13 ⟨v316,rfl,ho0,hb⟩;have HO317:=zm (Kd.R_lower (Kd.R_new' ho0 (Kd.R_lt (yr HO311))) (zE yhb));replace HO311:=zm (Kd.R_elder' (yr HO311) (Kd.R_base ho0) hb);replace HB:=ybs hb;(try clear hb);(try clear ho0)))
   repeat (go_quiet (first|(go_at_call 103;(with_reducible refine (ccodec_loud.calls k _ _ l0 true _ ?side1 HC0.out A10.out).mono ?_);(case side1=>exact ycb HR0);rintro e w' ⟨rfl,⟨nd,rfl⟩⟩;(try exact yww))|(go_at_call 104;(with_reducible refine (pvq_Shape.calls k _ _ l0 t312 t314 t315 _ ?side1 HC0.out A12.out).mono ?_);(case side1=>exact ycb HR0);rintro e w13 ⟨v316,rfl,ho0,hb⟩;have HO317:=zm (Kd.R_lower (Kd.R_new' ho0 (Kd.R_lt (yr HO311))) (zE yhb));replace HO311:=zm (Kd.R_elder' (yr HO311) (Kd.R_base ho0) hb);replace HB:=ybs hb;(try clear hb);(try clear ho0)));try go_wp2_with (first|(go_at_call 103;(with_reducible refine (ccodec_loud.calls k _ _ l0 true _ ?side1 HC0.out A10.out).mono ?_);(case side1=>exact ycb HR0);rintro e w' ⟨rfl,⟨nd,rfl⟩⟩;(try exact yww))|(go_at_call 104;(with_reducible refine (pvq_Shape.calls k _ _ l0 t312 t314 t315 _ ?side1 HC0.out A12.out).mono ?_);(case side1=>exact ycb HR0);rintro e w13 ⟨v316,rfl,ho0,hb⟩;have HO317:=zm (Kd.R_lower (Kd.R_new' ho0 (Kd.R_lt (yr HO311))) (zE yhb));replace HO311:=zm (Kd.R_elder' (yr HO311) (Kd.R_base ho0) hb);replace HB:=ybs hb;(try clear hb);(try clear ho0))))
   go_meet
   case rel=>exact ⟨_,(t314),H',⟨yo⟩,⟨yR0 HO317⟩,⟨yhb⟩⟩
  ·
   replace c11:=Bool.eq_false_iff.mpr c11
   subst c11
   rw [ynf] at H
   have HC14:=zm H;clear H
   go_upto_region 5 with (first|(go_at_call 103;(with_reducible refine (ccodec_loud.calls k _ _ l0 false _ ?side1 HC0.out A10.out).mono ?_);(case side1=>exact ycb HR0);rintro e w' ⟨rfl,⟨nd,rfl⟩⟩;(try exact yww)))
   repeat (go_quiet (first|(go_at_call 103;(with_reducible refine (ccodec_loud.calls k _ _ l0 false _ ?side1 HC0.out A10.out).mono ?_);(case side1=>exact ycb HR0);rintro e w' ⟨rfl,⟨nd,rfl⟩⟩;(try exact yww)));go_upto_region 5 with (first|(go_at_call 103;(with_reducible refine (ccodec_loud.calls k _ _ l0 false _ ?side1 HC0.out A10.out).mono ?_);(case side1=>exact ycb HR0);rintro e w' ⟨rfl,⟨nd,rfl⟩⟩;(try exact yww))))
   (try simp only [Act.put,List.setIfInBounds_toArray,List.set_cons_zero,List.set_cons_succ])
   go_cut [27] (fun v27 wc => ∃ (kq : Nat) (x27_13 : Bool),v27=.bool x27_13∧Aside0 (ccodec_next.j0 kq l0 l2 y309 t312 x27_13=some r)∧Aside0 (kq≤k)∧Aside0 (Kd.R (Kd.int .i64) 2 wc w.heap.size (fun _=>True) v310 y309)∧Aside0 (Below w.heap.size w wc))
   case first =>
    have H:=HC14.out;clear HC14
    by_cases c15 : t312 > 0
    ·
     rw [if_pos c15] at H
     have c15b0 : decide (0 < t312)=true:=decide_eq_true c15
     clear c15
     (first|rw [c15b0]|(simp only [i64_w,i32_w];rw [c15b0])|skip)
     have H' := zm H
     clear H
     have hcl:=(HB.out.cell (zb w _ HCL.out)).trans HCL.out
     go_wp2
     repeat (go_quiet (fail);try go_wp2)
     go_meet
     case rel=>exact ⟨_,(decide ((l2.length : Int) > 0)),yq,H',⟨yo⟩,⟨yr HO311⟩,⟨yhb⟩⟩
    ·
     rw [if_neg c15] at H
     have c15b0 : decide (0 < t312)=false:=decide_eq_false c15
     clear c15
     (first|rw [c15b0]|(simp only [i64_w,i32_w];rw [c15b0])|skip)
     have H' := zm H
     clear H
     have hcl:=(HB.out.cell (zb w _ HCL.out)).trans HCL.out
     go_wp2
     repeat (go_quiet (fail);try go_wp2)
     go_meet
     case rel=>exact ⟨_,(false),yq,H',⟨yo⟩,⟨yr HO311⟩,⟨yhb⟩⟩
   case rest =>
    clear HC14
    try clear c2
    try clear c4b0
    try clear c4b1
    try clear c5b0
    try clear c5b1
    obtain ⟨kq,x27_13,rfl,HA,HJ13,HO_6,HB⟩:=hcut
    obtain ⟨kj13,rfl⟩:=ysu kq (fun h=>by subst h;exact absurd HA.out (by simp [ccodec_next.j0]))
    have H:=HA.out;clear HA
    simp only [ccodec_next.j0] at H
    by_cases c16 : x27_13=true
    ·
     subst c16
     rw [if_pos rfl] at H
     replace H:=ybi H;obtain ⟨t318,A17,H⟩:=H
     replace H:=ybi H;obtain ⟨⟨t319,t320⟩,A18,H⟩:=H
     try dsimp only at H
     have H' := zm H
     clear H
     go_wp2_with (first|(go_at_call 106;(with_reducible refine (num_Sqrt.calls kj13 (IntKind.u64.wrap ((IntKind.u64.wrap ((IntKind.u64.wrap ((l0.length : Int))) * 256)) * 256)) t318 _ A17.out).mono ?_);rintro e w' ⟨rfl,⟨nd,rfl⟩⟩;(try exact yww))|(go_at_call 105;(with_reducible refine (num_Div.calls (wrap64 (t312 * 256)) (wrap64 (t318)) t319 t320 _ A18.out).mono ?_);rintro e w' ⟨rfl,⟨nd,rfl⟩⟩;(try exact yww);obtain ⟨Ao19,co19,eo19⟩:=Kd.R_slice HO_6.out;subst eo19))
     repeat (go_quiet (first|(go_at_call 106;(with_reducible refine (num_Sqrt.calls kj13 (IntKind.u64.wrap ((IntKind.u64.wrap ((IntKind.u64.wrap ((l0.length : Int))) * 256)) * 256)) t318 _ A17.out).mono ?_);rintro e w' ⟨rfl,⟨nd,rfl⟩⟩;(try exact yww))|(go_at_call 105;(with_reducible refine (num_Div.calls (wrap64 (t312 * 256)) (wrap64 (t318)) t319 t320 _ A18.out).mono ?_);rintro e w' ⟨rfl,⟨nd,rfl⟩⟩;(try exact yww);obtain ⟨Ao19,co19,eo19⟩:=Kd.R_slice HO_6.out;subst eo19));try go_wp2_with (first|(go_at_call 106;(with_reducible refine (num_Sqrt.calls kj13 (IntKind.u64.wrap ((IntKind.u64.wrap ((IntKind.u64.wrap ((l0.length : Int))) * 256)) * 256)) t318 _ A17.out).mono ?_);rintro e w' ⟨rfl,⟨nd,rfl⟩⟩;(try exact yww))|(go_at_call 105;(with_reducible refine (num_Div.calls (wrap64 (t312 * 256)) (wrap64 (t318)) t319 t320 _ A18.out).mono ?_);rintro e w' ⟨rfl,⟨nd,rfl⟩⟩;(try exact yww);obtain ⟨Ao19,co19,eo19⟩:=Kd.R_slice HO_6.out;subst eo19)))
     go_loopg [50] kj13 (fun kq v50 w' => ∃ (x6_2 : List Int) (x50_2 : Int),v50=.int .i64 x50_2∧Aside0 (ccodec_next.l0 kq l2 x6_2 t319 (y309.length : Int) x50_2=some r)∧Aside0 (kq≤kj13)∧Aside0 (Kd.R (Kd.int .i64) 2 w' w.heap.size (fun _=>True) (.slice Ao19 y309.length co19) x6_2)∧Aside0 (Below w.heap.size w w'))
     case atStart=>exact ⟨(y309),(0),yq,H',⟨Nat.le_refl _⟩,⟨yr HO_6⟩,⟨yhb⟩⟩
     case round =>
      clear H'
      obtain ⟨x6_2,x50_2,rfl,HA,HK2,HO_6,HB⟩:=hrel
      have hl6_2:=(Kd.R_reads' HO_6.out).1
      rw [hl6_2] at HO_6
      (try simp only [hl6_2])
      obtain ⟨k2,rfl⟩:=ysu gk (fun h=>by subst h;exact absurd HA.out (by simp [ccodec_next.l0]))
      have H:=HA.out;clear HA
      simp only [ccodec_next.l0] at H
      by_cases c20 : x50_2 < (y309.length : Int)
      ·
       rw [if_pos c20] at H
       have c20b0 : decide (x50_2 < (y309.length : Int))=true:=decide_eq_true c20
       clear c20
       replace H:=yif H;obtain ⟨c21,H⟩:=H
       have c21b0 : decide (0≤x50_2)=true:=decide_eq_true c21
       clear c21
       replace H:=yif H;obtain ⟨c22,H⟩:=H
       have c22b0 : decide (x50_2 < (x6_2.length : Int))=true:=decide_eq_true c22
       clear c22
       obtain ⟨y321,hy321⟩ : ∃ y_ : List Int,y_=(x6_2.set (x50_2 : Int).toNat t319):=⟨_,rfl⟩
       replace H : (if (l2.length : Int)=0 then (none) else (if 0≤(Int.tmod x50_2 (l2.length : Int)) then (if (Int.tmod x50_2 (l2.length : Int)) < (l2.length : Int) then (if (rd l2 (Int.tmod x50_2 (l2.length : Int))) < 0 then (ccodec_next.l0 k2 l2 (y321.set (x50_2 : Int).toNat (wrap64 (-t319))) t319 (y309.length : Int) (wrap64 (x50_2+1))) else (ccodec_next.l0 k2 l2 y321 t319 (y309.length : Int) (wrap64 (x50_2+1)))) else (none)) else (none)))=some r:=yrw hy321 H
       have Ny321:=zm hy321;clear hy321
       replace H:=yie H;obtain ⟨c24,H⟩:=H
       have c24b0 : ((l2.length : Int) == 0)=false:=beq_eq_false_iff_ne.mpr c24
       have c24b1 : ((l2.length : Int) != 0)=true:=bne_iff_ne.mpr c24
       have c24b2 : ¬ (l2 = []):=fun h_=>c24 (by rw [h_];rfl)
       obtain ⟨ji25,hji25⟩ : ∃ j_ : Int,(Int.tmod x50_2 (l2.length : Int))=j_:=⟨_,rfl⟩
       replace H : (if 0≤(ji25) then (if (ji25) < (l2.length : Int) then (if (rd l2 (ji25)) < 0 then (ccodec_next.l0 k2 l2 (y321.set (x50_2 : Int).toNat (wrap64 (-t319))) t319 (y309.length : Int) (wrap64 (x50_2+1))) else (ccodec_next.l0 k2 l2 y321 t319 (y309.length : Int) (wrap64 (x50_2+1)))) else (none)) else (none))=some r:=by first|(rw [hji25] at H;exact H)|(simp only [hji25] at H ⊢; exact H)
       replace H:=yif H;obtain ⟨c26,H⟩:=H
       have c26b0 : decide (0≤(ji25))=true:=decide_eq_true c26
       clear c26
       replace H:=yif H;obtain ⟨c27,H⟩:=H
       have c27b0 : decide ((ji25) < (l2.length : Int))=true:=decide_eq_true c27
       clear c27
       by_cases c28 : (rd l2 (ji25)) < 0
       ·
        rw [if_pos c28] at H
        have c28b0 : decide ((rd l2 (ji25)) < 0)=true:=decide_eq_true c28
        clear c28
        obtain ⟨y323,hy323⟩ : ∃ y_ : List Int,y_=(y321.set (x50_2 : Int).toNat (wrap64 (-t319))):=⟨_,rfl⟩
        replace H : (ccodec_next.l0 k2 l2 y323 t319 (y309.length : Int) (wrap64 (x50_2+1)))=some r:=yrw hy323 H
        have Ny323:=zm hy323;clear hy323
        have H' := zm H
        clear H
        have p23 : 0≤(x50_2 : Int):=yt
        have q23 : (x50_2 : Int) < ((x6_2.length : Int) : Int):=yt
        obtain ⟨go23,co23,eo23,gb23,gl23,cl23,HG23⟩:=Kd.R_form HO_6.out (by omega)
        (first|cases eo23|(injection eo23 with ea_ en_ ec_;(first|subst ea_|(injection ea_ with ea_;subst ea_));subst ec_;clear en_))
        have GB23:=zm gb23;have GG23:=zm HG23;clear gb23 gl23 HG23
        obtain ⟨hx23_0,hf23_0⟩:=Kd.R_celln 0 HO_6.out (x50_2 : Int) p23 q23
        replace p23:=eq_true p23
        replace q23:=eq_true q23
        have HP30:=Kd.R_putg HO_6.out (x50_2 : Int) t319
        go_wp2_with (first|((with_reducible refine gate_store (t:=2) (p:=56) rfl ?_);(try (rw [drewN_self wr];generalize hq_ : World.drewN wr _=wr;have n0_:=zm (Kd.R_at hq_ HO_6.out);have n1_:=zm (below_at hq_ HB.out);clear hq_ HO_6 HB;have HO_6:=n0_;have HB:=n1_;clear n0_ n1_;(try (have HP30:=Kd.R_putg HO_6.out (x50_2 : Int) t319))));refine store_event (t:=2) (p:=56) (v := ?vo_w31) (w1:=(wr.setCell ⟨go23,(x50_2 : Int).toNat,none⟩ (.int .i64 t319))) ?hg ?ho ?hn ?hr ?_;(case ho=>rfl);(case hg=>rfl);(case hn=>rfl);(case hr=>first|(go_simp;done)|(go_simp;rfl));intro w31 hw;have hg : wr.grownBy w31 (some go23):=(by rw [hw];exact HP30.2);have hp_ : Kd.R (Kd.int .i64) 2 w31 w.heap.size (fun _=>True) (.slice (some ⟨go23,0,none⟩) x6_2.length co19) y321:=(by rw [hw,Ny321.out];exact HP30.1);clear HP30;replace HO_6:=zm (hp_);replace HB:=zm ((by rw [hw];exact zk (HB.out) GB23.out : Below w.heap.size w w31));clear hg hw hp_;have hcl:=(HB.out.cell (zb w _ HCL.out)).trans HCL.out;have p322 : 0≤((ji25) : Int):=yt;have q322 : (ji25) < (l2.length : Int):=yt;obtain ⟨ad322,e322,hx322_0⟩:=Kd.at_int HR2.out (ji25) p322 q322;cases e322;replace hx322_0:=yhx HB hx322_0;replace p322:=eq_true p322;replace q322:=eq_true q322;have p29 : 0≤(x50_2 : Int):=yt;have q29 : (x50_2 : Int) < ((x6_2.length : Int) : Int):=yt;obtain ⟨hx29_0,hf29_0⟩:=Kd.R_celln 0 HO_6.out (x50_2 : Int) p29 q29;replace p29:=eq_true p29;replace q29:=eq_true q29;obtain ⟨hy32_,hz32_⟩:=Kd.R_celln 0 HO_6.out (x50_2 : Int) (yt) (yt);have HP32:=Kd.R_putg HO_6.out (x50_2 : Int) (wrap64 (-t319)))|((with_reducible refine gate_store (t:=2) (p:=69) rfl ?_);(try (rw [drewN_self w31];generalize hq_ : World.drewN w31 _=w31;have n0_:=zm (Kd.R_at hq_ HO_6.out);have n1_:=zm (below_at hq_ HB.out);clear hq_ HO_6 HB;have HO_6:=n0_;have HB:=n1_;clear n0_ n1_;(try (obtain ⟨hy32_,hz32_⟩:=Kd.R_celln 0 HO_6.out (x50_2 : Int) (yt) (yt)));(try (have HP32:=Kd.R_putg HO_6.out (x50_2 : Int) (wrap64 (-t319))))));refine store_event (t:=2) (p:=69) (v := ?vo_w33) (w1:=(w31.setCell ⟨go23,(x50_2 : Int).toNat,none⟩ (.int .i64 (wrap64 (-t319))))) ?hg ?ho ?hn ?hr ?_;(case ho=>rfl);(case hg=>rfl);(case hn=>rfl);(case hr=>first|(go_simp;done)|(go_simp;rfl));intro w33 hw;have hg : w31.grownBy w33 (some go23):=(by rw [hw];exact HP32.2);have hp_ : Kd.R (Kd.int .i64) 2 w33 w.heap.size (fun _=>True) (.slice (some ⟨go23,0,none⟩) x6_2.length co19) y323:=(by rw [hw,Ny323.out];exact HP32.1);clear HP32;replace HO_6:=zm (hp_);replace HB:=zm ((by rw [hw];exact zk (HB.out) GB23.out : Below w.heap.size w w33));clear hg hw hp_))
        repeat (go_quiet (first|((with_reducible refine gate_store (t:=2) (p:=56) rfl ?_);(try (rw [drewN_self wr];generalize hq_ : World.drewN wr _=wr;have n0_:=zm (Kd.R_at hq_ HO_6.out);have n1_:=zm (below_at hq_ HB.out);clear hq_ HO_6 HB;have HO_6:=n0_;have HB:=n1_;clear n0_ n1_;(try (have HP30:=Kd.R_putg HO_6.out (x50_2 : Int) t319))));refine store_event (t:=2) (p:=56) (v := ?vo_w31) (w1:=(wr.setCell ⟨go23,(x50_2 : Int).toNat,none⟩ (.int .i64 t319))) ?hg ?ho ?hn ?hr ?_;(case ho=>rfl);(case hg=>rfl);(case hn=>rfl);(case hr=>first|(go_simp;done)|(go_simp;rfl));intro w31 hw;have hg : wr.grownBy w31 (some go23):=(by rw [hw];exact HP30.2);have hp_ : Kd.R (Kd.int .i64) 2 w31 w.heap.size (fun _=>True) (.slice (some ⟨go23,0,none⟩) x6_2.length co19) y321:=(by rw [hw,Ny321.out];exact HP30.1);clear HP30;replace HO_6:=zm (hp_);replace HB:=zm ((by rw [hw];exact zk (HB.out) GB23.out : Below w.heap.size w w31));clear hg hw hp_;have hcl:=(HB.out.cell (zb w _ HCL.out)).trans HCL.out;have p322 : 0≤((ji25) : Int):=yt;have q322 : (ji25) < (l2.length : Int):=yt;obtain ⟨ad322,e322,hx322_0⟩:=Kd.at_int HR2.out (ji25) p322 q322;cases e322;replace hx322_0:=yhx HB hx322_0;replace p322:=eq_true p322;replace q322:=eq_true q322;have p29 : 0≤(x50_2 : Int):=yt;have q29 : (x50_2 : Int) < ((x6_2.length : Int) : Int):=yt;obtain ⟨hx29_0,hf29_0⟩:=Kd.R_celln 0 HO_6.out (x50_2 : Int) p29 q29;replace p29:=eq_true p29;replace q29:=eq_true q29;obtain ⟨hy32_,hz32_⟩:=Kd.R_celln 0 HO_6.out (x50_2 : Int) (yt) (yt);have HP32:=Kd.R_putg HO_6.out (x50_2 : Int) (wrap64 (-t319)))|((with_reducible refine gate_store (t:=2) (p:=69) rfl ?_);(try (rw [drewN_self w31];generalize hq_ : World.drewN w31 _=w31;have n0_:=zm (Kd.R_at hq_ HO_6.out);have n1_:=zm (below_at hq_ HB.out);clear hq_ HO_6 HB;have HO_6:=n0_;have HB:=n1_;clear n0_ n1_;(try (obtain ⟨hy32_,hz32_⟩:=Kd.R_celln 0 HO_6.out (x50_2 : Int) (yt) (yt)));(try (have HP32:=Kd.R_putg HO_6.out (x50_2 : Int) (wrap64 (-t319))))));refine store_event (t:=2) (p:=69) (v := ?vo_w33) (w1:=(w31.setCell ⟨go23,(x50_2 : Int).toNat,none⟩ (.int .i64 (wrap64 (-t319))))) ?hg ?ho ?hn ?hr ?_;(case ho=>rfl);(case hg=>rfl);(case hn=>rfl);(case hr=>first|(go_simp;done)|(go_simp;rfl));intro w33 hw;have hg : w31.grownBy w33 (some go23):=(by rw [hw];exact HP32.2);have hp_ : Kd.R (Kd.int .i64) 2 w33 w.heap.size (fun _=>True) (.slice (some ⟨go23,0,none⟩) x6_2.length co19) y323:=(by rw [hw,Ny323.out];exact HP32.1);clear HP32;replace HO_6:=zm (hp_);replace HB:=zm ((by rw [hw];exact zk (HB.out) GB23.out : Below w.heap.size w w33));clear hg hw hp_));try go_wp2_with (first|((with_reducible refine gate_store (t:=2) (p:=56) rfl ?_);(try (rw [drewN_self wr];generalize hq_ : World.drewN wr _=wr;have n0_:=zm (Kd.R_at hq_ HO_6.out);have n1_:=zm (below_at hq_ HB.out);clear hq_ HO_6 HB;have HO_6:=n0_;have HB:=n1_;clear n0_ n1_;(try (have HP30:=Kd.R_putg HO_6.out (x50_2 : Int) t319))));refine store_event (t:=2) (p:=56) (v := ?vo_w31) (w1:=(wr.setCell ⟨go23,(x50_2 : Int).toNat,none⟩ (.int .i64 t319))) ?hg ?ho ?hn ?hr ?_;(case ho=>rfl);(case hg=>rfl);(case hn=>rfl);(case hr=>first|(go_simp;done)|(go_simp;rfl));intro w31 hw;have hg : wr.grownBy w31 (some go23):=(by rw [hw];exact HP30.2);have hp_ : Kd.R (Kd.int .i64) 2 w31 w.heap.size (fun _=>True) (.slice (some ⟨go23,0,none⟩) x6_2.length co19) y321:=(by rw [hw,Ny321.out];exact HP30.1);clear HP30;replace HO_6:=zm (hp_);replace HB:=zm ((by rw [hw];exact zk (HB.out) GB23.out : Below w.heap.size w w31));clear hg hw hp_;have hcl:=(HB.out.cell (zb w _ HCL.out)).trans HCL.out;have p322 : 0≤((ji25) : Int):=yt;have q322 : (ji25) < (l2.length : Int):=yt;obtain ⟨ad322,e322,hx322_0⟩:=Kd.at_int HR2.out (ji25) p322 q322;cases e322;replace hx322_0:=yhx HB hx322_0;replace p322:=eq_true p322;replace q322:=eq_true q322;have p29 : 0≤(x50_2 : Int):=yt;have q29 : (x50_2 : Int) < ((x6_2.length : Int) : Int):=yt;obtain ⟨hx29_0,hf29_0⟩:=Kd.R_celln 0 HO_6.out (x50_2 : Int) p29 q29;replace p29:=eq_true p29;replace q29:=eq_true q29;obtain ⟨hy32_,hz32_⟩:=Kd.R_celln 0 HO_6.out (x50_2 : Int) (yt) (yt);have HP32:=Kd.R_putg HO_6.out (x50_2 : Int) (wrap64 (-t319)))|((with_reducible refine gate_store (t:=2) (p:=69) rfl ?_);(try (rw [drewN_self w31];generalize hq_ : World.drewN w31 _=w31;have n0_:=zm (Kd.R_at hq_ HO_6.out);have n1_:=zm (below_at hq_ HB.out);clear hq_ HO_6 HB;have HO_6:=n0_;have HB:=n1_;clear n0_ n1_;(try (obtain ⟨hy32_,hz32_⟩:=Kd.R_celln 0 HO_6.out (x50_2 : Int) (yt) (yt)));(try (have HP32:=Kd.R_putg HO_6.out (x50_2 : Int) (wrap64 (-t319))))));refine store_event (t:=2) (p:=69) (v := ?vo_w33) (w1:=(w31.setCell ⟨go23,(x50_2 : Int).toNat,none⟩ (.int .i64 (wrap64 (-t319))))) ?hg ?ho ?hn ?hr ?_;(case ho=>rfl);(case hg=>rfl);(case hn=>rfl);(case hr=>first|(go_simp;done)|(go_simp;rfl));intro w33 hw;have hg : w31.grownBy w33 (some go23):=(by rw [hw];exact HP32.2);have hp_ : Kd.R (Kd.int .i64) 2 w33 w.heap.size (fun _=>True) (.slice (some ⟨go23,0,none⟩) x6_2.length co19) y323:=(by rw [hw,Ny323.out];exact HP32.1);clear HP32;replace HO_6:=zm (hp_);replace HB:=zm ((by rw [hw];exact zk (HB.out) GB23.out : Below w.heap.size w w33));clear hg hw hp_)))
        (try simp only [← hl6_2])
        go_roundg k2
        case measure=>exact yom2 HJ13 HK2
        case rel=>exact ⟨(y323),(wrap64 (x50_2+1)),yq,H',⟨yom2 HJ13 HK2⟩,⟨by (try simp only [hl6_2]);(with_reducible repeat (first|apply zo|apply zp|apply zq));exact HO_6.out⟩,⟨yhb⟩⟩
       ·
        rw [if_neg c28] at H
        have c28b0 : decide ((rd l2 (ji25)) < 0)=false:=decide_eq_false c28
        clear c28
        have H' := zm H
        clear H
        have p23 : 0≤(x50_2 : Int):=yt
        have q23 : (x50_2 : Int) < ((x6_2.length : Int) : Int):=yt
        obtain ⟨go23,co23,eo23,gb23,gl23,cl23,HG23⟩:=Kd.R_form HO_6.out (by omega)
        (first|cases eo23|(injection eo23 with ea_ en_ ec_;(first|subst ea_|(injection ea_ with ea_;subst ea_));subst ec_;clear en_))
        have GB23:=zm gb23;have GG23:=zm HG23;clear gb23 gl23 HG23
        obtain ⟨hx23_0,hf23_0⟩:=Kd.R_celln 0 HO_6.out (x50_2 : Int) p23 q23
        replace p23:=eq_true p23
        replace q23:=eq_true q23
        have HP34:=Kd.R_putg HO_6.out (x50_2 : Int) t319
        go_wp2_with (first|((with_reducible refine gate_store (t:=2) (p:=56) rfl ?_);(try (rw [drewN_self wr];generalize hq_ : World.drewN wr _=wr;have n0_:=zm (Kd.R_at hq_ HO_6.out);have n1_:=zm (below_at hq_ HB.out);clear hq_ HO_6 HB;have HO_6:=n0_;have HB:=n1_;clear n0_ n1_;(try (have HP34:=Kd.R_putg HO_6.out (x50_2 : Int) t319))));refine store_event (t:=2) (p:=56) (v := ?vo_w35) (w1:=(wr.setCell ⟨go23,(x50_2 : Int).toNat,none⟩ (.int .i64 t319))) ?hg ?ho ?hn ?hr ?_;(case ho=>rfl);(case hg=>rfl);(case hn=>rfl);(case hr=>first|(go_simp;done)|(go_simp;rfl));intro w35 hw;have hg : wr.grownBy w35 (some go23):=(by rw [hw];exact HP34.2);have hp_ : Kd.R (Kd.int .i64) 2 w35 w.heap.size (fun _=>True) (.slice (some ⟨go23,0,none⟩) x6_2.length co19) y321:=(by rw [hw,Ny321.out];exact HP34.1);clear HP34;replace HO_6:=zm (hp_);replace HB:=zm ((by rw [hw];exact zk (HB.out) GB23.out : Below w.heap.size w w35));clear hg hw hp_;have hcl:=(HB.out.cell (zb w _ HCL.out)).trans HCL.out;have p322 : 0≤((ji25) : Int):=yt;have q322 : (ji25) < (l2.length : Int):=yt;obtain ⟨ad322,e322,hx322_0⟩:=Kd.at_int HR2.out (ji25) p322 q322;cases e322;replace hx322_0:=yhx HB hx322_0;replace p322:=eq_true p322;replace q322:=eq_true q322))
        repeat (go_quiet (first|((with_reducible refine gate_store (t:=2) (p:=56) rfl ?_);(try (rw [drewN_self wr];generalize hq_ : World.drewN wr _=wr;have n0_:=zm (Kd.R_at hq_ HO_6.out);have n1_:=zm (below_at hq_ HB.out);clear hq_ HO_6 HB;have HO_6:=n0_;have HB:=n1_;clear n0_ n1_;(try (have HP34:=Kd.R_putg HO_6.out (x50_2 : Int) t319))));refine store_event (t:=2) (p:=56) (v := ?vo_w35) (w1:=(wr.setCell ⟨go23,(x50_2 : Int).toNat,none⟩ (.int .i64 t319))) ?hg ?ho ?hn ?hr ?_;(case ho=>rfl);(case hg=>rfl);(case hn=>rfl);(case hr=>first|(go_simp;done)|(go_simp;rfl));intro w35 hw;have hg : wr.grownBy w35 (some go23):=(by rw [hw];exact HP34.2);have hp_ : Kd.R (Kd.int .i64) 2 w35 w.heap.size (fun _=>True) (.slice (some ⟨go23,0,none⟩) x6_2.length co19) y321:=(by rw [hw,Ny321.out];exact HP34.1);clear HP34;replace HO_6:=zm (hp_);replace HB:=zm ((by rw [hw];exact zk (HB.out) GB23.out : Below w.heap.size w w35));clear hg hw hp_;have hcl:=(HB.out.cell (zb w _ HCL.out)).trans HCL.out;have p322 : 0≤((ji25) : Int):=yt;have q322 : (ji25) < (l2.length : Int):=yt;obtain ⟨ad322,e322,hx322_0⟩:=Kd.at_int HR2.out (ji25) p322 q322;cases e322;replace hx322_0:=yhx HB hx322_0;replace p322:=eq_true p322;replace q322:=eq_true q322));try go_wp2_with (first|((with_reducible refine gate_store (t:=2) (p:=56) rfl ?_);(try (rw [drewN_self wr];generalize hq_ : World.drewN wr _=wr;have n0_:=zm (Kd.R_at hq_ HO_6.out);have n1_:=zm (below_at hq_ HB.out);clear hq_ HO_6 HB;have HO_6:=n0_;have HB:=n1_;clear n0_ n1_;(try (have HP34:=Kd.R_putg HO_6.out (x50_2 : Int) t319))));refine store_event (t:=2) (p:=56) (v := ?vo_w35) (w1:=(wr.setCell ⟨go23,(x50_2 : Int).toNat,none⟩ (.int .i64 t319))) ?hg ?ho ?hn ?hr ?_;(case ho=>rfl);(case hg=>rfl);(case hn=>rfl);(case hr=>first|(go_simp;done)|(go_simp;rfl));intro w35 hw;have hg : wr.grownBy w35 (some go23):=(by rw [hw];exact HP34.2);have hp_ : Kd.R (Kd.int .i64) 2 w35 w.heap.size (fun _=>True) (.slice (some ⟨go23,0,none⟩) x6_2.length co19) y321:=(by rw [hw,Ny321.out];exact HP34.1);clear HP34;replace HO_6:=zm (hp_);replace HB:=zm ((by rw [hw];exact zk (HB.out) GB23.out : Below w.heap.size w w35));clear hg hw hp_;have hcl:=(HB.out.cell (zb w _ HCL.out)).trans HCL.out;have p322 : 0≤((ji25) : Int):=yt;have q322 : (ji25) < (l2.length : Int):=yt;obtain ⟨ad322,e322,hx322_0⟩:=Kd.at_int HR2.out (ji25) p322 q322;cases e322;replace hx322_0:=yhx HB hx322_0;replace p322:=eq_true p322;replace q322:=eq_true q322)))
        (try simp only [← hl6_2])
        go_roundg k2
        case measure=>exact yom2 HJ13 HK2
        case rel=>exact ⟨(y321),(wrap64 (x50_2+1)),yq,H',⟨yom2 HJ13 HK2⟩,⟨by (try simp only [hl6_2]);(with_reducible repeat (first|apply zo|apply zp|apply zq));exact HO_6.out⟩,⟨yhb⟩⟩
      ·
       rw [if_neg c20] at H
       have c20b0 : decide (x50_2 < (y309.length : Int))=false:=decide_eq_false c20
       have c20x0 : decide (x50_2 < (x6_2.length : Int))=false:=by rw [← hl6_2];exact c20b0
       clear c20
       have H' := zm H
       clear H
       go_wp2
       repeat (go_quiet (fail);try go_wp2)
       (try simp only [← hl6_2])
       go_meet
       case rel=>exact ⟨_,(x6_2),H',⟨yom2 HJ13 HK2⟩,⟨by (try simp only [hl6_2]);(with_reducible repeat (first|apply zo|apply zp|apply zq));exact HO_6.out⟩,⟨yhb⟩⟩
    ·
     replace c16:=Bool.eq_false_iff.mpr c16
     subst c16
     rw [ynf] at H
     have H' := zm H
     clear H
     go_wp2
     repeat (go_quiet (fail);try go_wp2)
     go_meet
     case rel=>exact ⟨_,(y309),H',⟨yom1 HJ13⟩,⟨yr HO_6⟩,⟨yhb⟩⟩
 case rest =>
  clear HC7
  try clear c2
  try clear c4b0
  try clear c4b1
  try clear c5b0
  try clear c5b1
  obtain ⟨kq,x6_6,HA,HJ6,HO_6,HB⟩:=hcut
  obtain ⟨kj6,rfl⟩:=ysu kq (fun h=>by subst h;exact absurd HA.out (by simp [ccodec_next.j2]))
  have H:=HA.out;clear HA
  simp only [ccodec_next.j2] at H
  have H' := zm H
  clear H
  obtain ⟨Ao36,co36,eo36⟩:=Kd.R_slice HO_6.out
  subst eo36
  go_wp2
  repeat (go_quiet (fail);try go_wp2)
  go_loopg [73] kj6 (fun kq v73 w' => ∃ (x6_2 : List Int) (x73_2 : Int),v73=.int .i64 x73_2∧Aside0 (ccodec_next.l1 kq x6_2 (x6_6.length : Int) x73_2=some r)∧Aside0 (kq≤kj6)∧Aside0 (Kd.R (Kd.int .i64) 2 w' w.heap.size (fun _=>True) (.slice Ao36 x6_6.length co36) x6_2)∧Aside0 (Below w.heap.size w w'))
  case atStart=>exact ⟨(x6_6),(0),yq,H',⟨Nat.le_refl _⟩,⟨yr HO_6⟩,⟨yhb⟩⟩
  case round =>
   clear H'
   obtain ⟨x6_2,x73_2,rfl,HA,HK2,HO_6,HB⟩:=hrel
   have hl6_2:=(Kd.R_reads' HO_6.out).1
   rw [hl6_2] at HO_6
   (try simp only [hl6_2])
   obtain ⟨k2,rfl⟩:=ysu gk (fun h=>by subst h;exact absurd HA.out (by simp [ccodec_next.l1]))
   have H:=HA.out;clear HA
   simp only [ccodec_next.l1] at H
   by_cases c37 : x73_2 < (x6_6.length : Int)
   ·
    rw [if_pos c37] at H
    have c37b0 : decide (x73_2 < (x6_6.length : Int))=true:=decide_eq_true c37
    clear c37
    replace H:=yif H;obtain ⟨c38,H⟩:=H
    have c38b0 : decide (0≤x73_2)=true:=decide_eq_true c38
    clear c38
    replace H:=yif H;obtain ⟨c39,H⟩:=H
    have c39b0 : decide (x73_2 < (x6_2.length : Int))=true:=decide_eq_true c39
    clear c39
    replace H:=ybi H;obtain ⟨t325,A40,H⟩:=H
    obtain ⟨y326,hy326⟩ : ∃ y_ : List Int,y_=(x6_2.set (x73_2 : Int).toNat t325):=⟨_,rfl⟩
    replace H : (ccodec_next.l1 k2 y326 (x6_6.length : Int) (wrap64 (x73_2+1)))=some r:=yrw hy326 H
    have Ny326:=zm hy326;clear hy326
    have H' := zm H
    clear H
    have p324 : 0≤(x73_2 : Int):=yt
    have q324 : x73_2 < (x6_2.length : Int):=yt
    obtain ⟨ad324,e324,hx324_0⟩:=Kd.at_int (Kd.R_reads' HO_6.out).2.2 x73_2 p324 q324
    cases e324
    replace p324:=eq_true p324
    replace q324:=eq_true q324
    go_wp2_with (first|(go_at_call 95;(with_reducible refine (num_Clamp.calls (rd x6_2 x73_2) (-1048576) 1048576 t325 _ A40.out).mono ?_);rintro e w' ⟨rfl,⟨nd,rfl⟩⟩;(try exact yww);have p41 : 0≤(x73_2 : Int):=yt;have q41 : (x73_2 : Int) < ((x6_2.length : Int) : Int):=yt;obtain ⟨go41,co41,eo41,gb41,gl41,cl41,HG41⟩:=Kd.R_form HO_6.out (by omega);(first|cases eo41|(injection eo41 with ea_ en_ ec_;(first|subst ea_|(injection ea_ with ea_;subst ea_));subst ec_;clear en_));have GB41:=zm gb41;have GG41:=zm HG41;clear gb41 gl41 HG41;(first|simp only [add_plain] at hx324_0|skip);obtain ⟨hx41_0,hf41_0⟩:=Kd.R_celln 0 HO_6.out (x73_2 : Int) p41 q41;replace p41:=eq_true p41;replace q41:=eq_true q41;obtain ⟨hy42_,hz42_⟩:=Kd.R_celln 0 HO_6.out (x73_2 : Int) (yt) (yt);have HP42:=Kd.R_putg HO_6.out (x73_2 : Int) t325)|((with_reducible refine gate_store (t:=2) (p:=82) rfl ?_);(try (rw [drewN_self wr];generalize hq_ : World.drewN wr _=wr;have n0_:=zm (Kd.R_at hq_ HO_6.out);have n1_:=zm (below_at hq_ HB.out);clear hq_ HO_6 HB;have HO_6:=n0_;have HB:=n1_;clear n0_ n1_;(try (obtain ⟨hy42_,hz42_⟩:=Kd.R_celln 0 HO_6.out (x73_2 : Int) (yt) (yt)));(try (have HP42:=Kd.R_putg HO_6.out (x73_2 : Int) t325))));refine store_event (t:=2) (p:=82) (v := ?vo_w43) (w1:=(wr.setCell ⟨go41,(x73_2 : Int).toNat,none⟩ (.int .i64 t325))) ?hg ?ho ?hn ?hr ?_;(case ho=>rfl);(case hg=>rfl);(case hn=>rfl);(case hr=>first|(go_simp;done)|(go_simp;rfl));intro w43 hw;have hg : wr.grownBy w43 (some go41):=(by rw [hw];exact HP42.2);have hp_ : Kd.R (Kd.int .i64) 2 w43 w.heap.size (fun _=>True) (.slice (some ⟨go41,0,none⟩) x6_2.length co36) y326:=(by rw [hw,Ny326.out];exact HP42.1);clear HP42;replace HO_6:=zm (hp_);replace HB:=zm ((by rw [hw];exact zk (HB.out) GB41.out : Below w.heap.size w w43));clear hg hw hp_))
    repeat (go_quiet (first|(go_at_call 95;(with_reducible refine (num_Clamp.calls (rd x6_2 x73_2) (-1048576) 1048576 t325 _ A40.out).mono ?_);rintro e w' ⟨rfl,⟨nd,rfl⟩⟩;(try exact yww);have p41 : 0≤(x73_2 : Int):=yt;have q41 : (x73_2 : Int) < ((x6_2.length : Int) : Int):=yt;obtain ⟨go41,co41,eo41,gb41,gl41,cl41,HG41⟩:=Kd.R_form HO_6.out (by omega);(first|cases eo41|(injection eo41 with ea_ en_ ec_;(first|subst ea_|(injection ea_ with ea_;subst ea_));subst ec_;clear en_));have GB41:=zm gb41;have GG41:=zm HG41;clear gb41 gl41 HG41;(first|simp only [add_plain] at hx324_0|skip);obtain ⟨hx41_0,hf41_0⟩:=Kd.R_celln 0 HO_6.out (x73_2 : Int) p41 q41;replace p41:=eq_true p41;replace q41:=eq_true q41;obtain ⟨hy42_,hz42_⟩:=Kd.R_celln 0 HO_6.out (x73_2 : Int) (yt) (yt);have HP42:=Kd.R_putg HO_6.out (x73_2 : Int) t325)|((with_reducible refine gate_store (t:=2) (p:=82) rfl ?_);(try (rw [drewN_self wr];generalize hq_ : World.drewN wr _=wr;have n0_:=zm (Kd.R_at hq_ HO_6.out);have n1_:=zm (below_at hq_ HB.out);clear hq_ HO_6 HB;have HO_6:=n0_;have HB:=n1_;clear n0_ n1_;(try (obtain ⟨hy42_,hz42_⟩:=Kd.R_celln 0 HO_6.out (x73_2 : Int) (yt) (yt)));(try (have HP42:=Kd.R_putg HO_6.out (x73_2 : Int) t325))));refine store_event (t:=2) (p:=82) (v := ?vo_w43) (w1:=(wr.setCell ⟨go41,(x73_2 : Int).toNat,none⟩ (.int .i64 t325))) ?hg ?ho ?hn ?hr ?_;(case ho=>rfl);(case hg=>rfl);(case hn=>rfl);(case hr=>first|(go_simp;done)|(go_simp;rfl));intro w43 hw;have hg : wr.grownBy w43 (some go41):=(by rw [hw];exact HP42.2);have hp_ : Kd.R (Kd.int .i64) 2 w43 w.heap.size (fun _=>True) (.slice (some ⟨go41,0,none⟩) x6_2.length co36) y326:=(by rw [hw,Ny326.out];exact HP42.1);clear HP42;replace HO_6:=zm (hp_);replace HB:=zm ((by rw [hw];exact zk (HB.out) GB41.out : Below w.heap.size w w43));clear hg hw hp_));try go_wp2_with (first|(go_at_call 95;(with_reducible refine (num_Clamp.calls (rd x6_2 x73_2) (-1048576) 1048576 t325 _ A40.out).mono ?_);rintro e w' ⟨rfl,⟨nd,rfl⟩⟩;(try exact yww);have p41 : 0≤(x73_2 : Int):=yt;have q41 : (x73_2 : Int) < ((x6_2.length : Int) : Int):=yt;obtain ⟨go41,co41,eo41,gb41,gl41,cl41,HG41⟩:=Kd.R_form HO_6.out (by omega);(first|cases eo41|(injection eo41 with ea_ en_ ec_;(first|subst ea_|(injection ea_ with ea_;subst ea_));subst ec_;clear en_));have GB41:=zm gb41;have GG41:=zm HG41;clear gb41 gl41 HG41;(first|simp only [add_plain] at hx324_0|skip);obtain ⟨hx41_0,hf41_0⟩:=Kd.R_celln 0 HO_6.out (x73_2 : Int) p41 q41;replace p41:=eq_true p41;replace q41:=eq_true q41;obtain ⟨hy42_,hz42_⟩:=Kd.R_celln 0 HO_6.out (x73_2 : Int) (yt) (yt);have HP42:=Kd.R_putg HO_6.out (x73_2 : Int) t325)|((with_reducible refine gate_store (t:=2) (p:=82) rfl ?_);(try (rw [drewN_self wr];generalize hq_ : World.drewN wr _=wr;have n0_:=zm (Kd.R_at hq_ HO_6.out);have n1_:=zm (below_at hq_ HB.out);clear hq_ HO_6 HB;have HO_6:=n0_;have HB:=n1_;clear n0_ n1_;(try (obtain ⟨hy42_,hz42_⟩:=Kd.R_celln 0 HO_6.out (x73_2 : Int) (yt) (yt)));(try (have HP42:=Kd.R_putg HO_6.out (x73_2 : Int) t325))));refine store_event (t:=2) (p:=82) (v := ?vo_w43) (w1:=(wr.setCell ⟨go41,(x73_2 : Int).toNat,none⟩ (.int .i64 t325))) ?hg ?ho ?hn ?hr ?_;(case ho=>rfl);(case hg=>rfl);(case hn=>rfl);(case hr=>first|(go_simp;done)|(go_simp;rfl));intro w43 hw;have hg : wr.grownBy w43 (some go41):=(by rw [hw];exact HP42.2);have hp_ : Kd.R (Kd.int .i64) 2 w43 w.heap.size (fun _=>True) (.slice (some ⟨go41,0,none⟩) x6_2.length co36) y326:=(by rw [hw,Ny326.out];exact HP42.1);clear HP42;replace HO_6:=zm (hp_);replace HB:=zm ((by rw [hw];exact zk (HB.out) GB41.out : Below w.heap.size w w43));clear hg hw hp_)))
    (try simp only [← hl6_2])
    go_roundg k2
    case measure=>exact yom2 HJ6 HK2
    case rel=>exact ⟨(y326),(wrap64 (x73_2+1)),yq,H',⟨yom2 HJ6 HK2⟩,⟨by (try simp only [hl6_2]);(with_reducible repeat (first|apply zo|apply zp|apply zq));exact HO_6.out⟩,⟨yhb⟩⟩
   ·
    rw [if_neg c37] at H
    have c37b0 : decide (x73_2 < (x6_6.length : Int))=false:=decide_eq_false c37
    have c37x0 : decide (x73_2 < (x6_2.length : Int))=false:=by rw [← hl6_2];exact c37b0
    clear c37
    obtain rfl:=Option.some.inj H
    have hcl:=(HB.out.cell (zb w _ HCL.out)).trans HCL.out
    have hfz:=zx (zF HS.out HB.out) 0
    go_wp2
    repeat (go_quiet (fail);try go_wp2)
    go_ret
    exact ⟨_,ye,zG (zH (zG (Kd.R_bound HO_6.out) (fun k_ hk=>hk.2.1)) (p:=⟨B,0,none⟩) (fun k_ hk e_=>by rw [e_] at hk;exact Nat.lt_irrefl _ (zl (zD HS.out) hk)) _) (fun _ _=>trivial),Kept.setCell (Kept.of_below HB.out (fun k_=>k_=B)) (.inl rfl) _,Below.setCell (Below.mono HB.out (Nat.le_of_lt (zD HS.out))) (Nat.le_refl _) _,blk_set (zF HS.out HB.out) 0 _⟩
mutual
def cpack_pulses.j0 : Nat→List Int→Int→Bool→Option (Bool)
 | 0,_,_,_=>none
 | k+1,x0,x2,x23=>if x23=true then (some false) else (cpack_pulses.l0 k x2 x0 (x0.length : Int) 0)
def cpack_pulses.l0 : Nat→Int→List Int→Int→Int→Option (Bool)
 | 0,_,_,_,_=>none
 | k+1,x2,x24,x25,x26=>if x26 < x25 then (if 0≤x26 then (if x26 < (x24.length : Int) then (cpack_pulses.l0 k (wrap64 (x2 - (mx (rd x24 x26) (wrap64 (-(rd x24 x26)))))) x24 x25 (wrap64 (x26+1))) else (none)) else (none)) else (some (x2 == 0))
end
def cpack_pulses.f (k : Nat) (l0 : List Int) (a1 : Int) (a2 : Int) : Option (Bool):=(comb_Index.f k l0).bind fun bt281=>(if bt281.2=0 then (cpack_pulses.j0 k l0 a2 ((l0.length : Int) != a1)) else (cpack_pulses.j0 k l0 a2 true))
theorem cpack_pulses.mono_l : ∀ k,(∀ y0 y1 y2,LeO (cpack_pulses.j0 k y0 y1 y2) (cpack_pulses.j0 (k+1) y0 y1 y2))∧(∀ y0 y1 y2 y3,LeO (cpack_pulses.l0 k y0 y1 y2 y3) (cpack_pulses.l0 (k+1) y0 y1 y2 y3))
 | 0=>⟨fun _ _ _ r h=>by simp [cpack_pulses.j0] at h,fun _ _ _ _ r h=>by simp [cpack_pulses.l0] at h⟩
 | k+1=>by
  obtain ⟨ih0,ih1⟩:=cpack_pulses.mono_l k
  refine ⟨?_, ?_⟩
  ·
   intro y0 y1 y2
   unfold cpack_pulses.j0
   repeat' with_reducible first|apply ih0|apply ih1|apply comb_Index.mono|apply yLr|apply yLn|apply yLi|apply yLb|intro _
  ·
   intro y0 y1 y2 y3
   unfold cpack_pulses.l0
   repeat' with_reducible first|apply ih0|apply ih1|apply comb_Index.mono|apply yLr|apply yLn|apply yLi|apply yLb|intro _
theorem cpack_pulses.mono : ∀ a0 a1 a2 k,LeO (cpack_pulses.f k a0 a1 a2) (cpack_pulses.f (k+1) a0 a1 a2):=by
 intro a0 a1 a2 k
 obtain ⟨ih0,ih1⟩:=cpack_pulses.mono_l k
 unfold cpack_pulses.f
 repeat' with_reducible first|apply ih0|apply ih1|apply comb_Index.mono|apply yLr|apply yLn|apply yLi|apply yLb|intro _
set_option maxHeartbeats 8000000 in
set_option maxRecDepth 100000 in
theorem cpack_pulses.calls (k : Nat) (A0 : Option Addr) (c0 : Nat) (l0 : List Int) (a1 : Int) (a2 : Int) (r : Bool) (w : World) (hr0 : Kd.C (Kd.int .i64) w A0 l0.length l0) (hc0 : l0.length≤c0) (h : cpack_pulses.f k l0 a1 a2=some r) :
  Calls Try.prog 59 #[.slice A0 l0.length c0, .int .i64 a1, .int .i64 a2] w fun e w' => e=.returned (.bool r)∧Below w.heap.size w w' := by
 have HR0:=zm hr0;have HC0:=zm hc0;clear hr0 hc0;have HB:=zm (Below.refl w.heap.size w)
 have H : ((comb_Index.f k l0).bind fun bt281=>(if bt281.2=0 then (cpack_pulses.j0 k l0 a2 ((l0.length : Int) != a1)) else (cpack_pulses.j0 k l0 a2 true)))=some r:=h
 clear h
 replace H:=ybi H;obtain ⟨⟨t281,t282⟩,A4,H⟩:=H
 try dsimp only at H
 have HC5:=zm H;clear H
 go_enter Try.func59,Try.ntmps59
 go_upto_region 2 with (first|((with_reducible refine gate_callee (f:=49) rfl ?_);refine ygl 13 Try.func49 #[.slice A0 l0.length c0] ?_;(with_reducible refine (comb_Index.calls k _ _ l0 t281 t282 _ ?side1 HC0.out A4.out).mono ?_);(case side1=>exact yce HR0.out);rintro e w6 ⟨rfl,hb⟩;refine ⟨_,rfl, ?_⟩;replace HB:=ybs hb;(try clear hb)))
 (try simp only [Act.put,List.setIfInBounds_toArray,List.set_cons_zero,List.set_cons_succ])
 go_cut [23] (fun v23 wc => ∃ (kq : Nat) (x23_4 : Bool),v23=.bool x23_4∧Aside0 (cpack_pulses.j0 kq l0 a2 x23_4=some r)∧Aside0 (kq≤k)∧Aside0 (Below w.heap.size w wc))
 case first =>
  have H:=HC5.out;clear HC5
  by_cases c7 : t282=0
  ·
   rw [if_pos c7] at H
   have c7b0 : (t282 == 0)=true:=beq_iff_eq.mpr c7
   have c7b1 : (t282 != 0)=false:=bne_eq_false_iff_eq.mpr c7
   clear c7
   (first|rw [c7b0]|(simp only [i64_w,i32_w];rw [c7b0])|skip)
   have H' := zm H
   clear H
   go_wp2
   go_meet
   case rel=>exact ⟨_,(((l0.length : Int) != a1)),yq,H',⟨yo⟩,⟨yhb⟩⟩
  ·
   rw [if_neg c7] at H
   have c7b0 : (t282 == 0)=false:=beq_eq_false_iff_ne.mpr c7
   have c7b1 : (t282 != 0)=true:=bne_iff_ne.mpr c7
   (first|rw [c7b0]|(simp only [i64_w,i32_w];rw [c7b0])|skip)
   have H' := zm H
   clear H
   go_wp2
   go_meet
   case rel=>exact ⟨_,(true),yq,H',⟨yo⟩,⟨yhb⟩⟩
 case rest =>
  clear HC5
  obtain ⟨kq,x23_4,rfl,HA,HJ4,HB⟩:=hcut
  obtain ⟨kj4,rfl⟩:=ysu kq (fun h=>by subst h;exact absurd HA.out (by simp [cpack_pulses.j0]))
  have H:=HA.out;clear HA
  simp only [cpack_pulses.j0] at H
  by_cases c8 : x23_4=true
  ·
   subst c8
   rw [if_pos rfl] at H
   obtain rfl:=Option.some.inj H
   go_wp2
   go_ret
   exact ⟨ye,yhb⟩
  ·
   replace c8:=Bool.eq_false_iff.mpr c8
   subst c8
   rw [ynf] at H
   have H' := zm H
   clear H
   go_wp2
   go_loopg [2,26] kj4 (fun kq v2 v26 w' => ∃ (x2_2 : Int) (x26_2 : Int),v2=.int .i64 x2_2∧v26=.int .i64 x26_2∧Aside0 (cpack_pulses.l0 kq x2_2 l0 (l0.length : Int) x26_2=some r)∧Aside0 (kq≤kj4)∧Aside0 (Below w.heap.size w w'))
   case atStart=>exact ⟨(a2),(0),yq,yq,H',⟨Nat.le_refl _⟩,⟨yhb⟩⟩
   case round =>
    clear H'
    obtain ⟨x2_2,x26_2,rfl,rfl,HA,HK2,HB⟩:=hrel
    obtain ⟨k2,rfl⟩:=ysu gk (fun h=>by subst h;exact absurd HA.out (by simp [cpack_pulses.l0]))
    have H:=HA.out;clear HA
    simp only [cpack_pulses.l0] at H
    by_cases c9 : x26_2 < (l0.length : Int)
    ·
     rw [if_pos c9] at H
     have c9b0 : decide (x26_2 < (l0.length : Int))=true:=decide_eq_true c9
     clear c9
     replace H:=yif H;obtain ⟨c10,H⟩:=H
     have c10b0 : decide (0≤x26_2)=true:=decide_eq_true c10
     clear c10
     replace H:=yif H;obtain ⟨c11,H⟩:=H
     have c11b0 : decide (x26_2 < (l0.length : Int))=true:=decide_eq_true c11
     clear c11
     obtain ⟨ji12,hji12⟩ : ∃ j_ : Int,(mx (rd l0 x26_2) (wrap64 (-(rd l0 x26_2))))=j_:=⟨_,rfl⟩
     replace H : (cpack_pulses.l0 k2 (wrap64 (x2_2 - (ji12))) l0 (l0.length : Int) (wrap64 (x26_2+1)))=some r:=by first|(rw [hji12] at H;exact H)|(simp only [hji12] at H ⊢; exact H)
     have hji12_ : (if (rd l0 x26_2) < (wrap64 (-(rd l0 x26_2))) then (wrap64 (-(rd l0 x26_2))) else (rd l0 x26_2))=ji12:=hji12
     have H' := zm H
     clear H
     have p283 : 0≤(x26_2 : Int):=yt
     have q283 : x26_2 < (l0.length : Int):=yt
     obtain ⟨ad283,e283,hx283_0⟩:=Kd.at_int HR0.out x26_2 p283 q283
     cases e283
     replace hx283_0:=yhx HB hx283_0
     replace p283:=eq_true p283
     replace q283:=eq_true q283
     go_wp2
     go_roundg k2
     case measure=>exact yom2 HJ4 HK2
     case rel=>exact ⟨(wrap64 (x2_2 - (ji12))),(wrap64 (x26_2+1)),(by first|rfl|(simp;done)|(simp only [← hji12] <;> (first|rfl|simp))|(simp [*];done)),yq,H',⟨yom2 HJ4 HK2⟩,⟨yhb⟩⟩
    ·
     rw [if_neg c9] at H
     have c9b0 : decide (x26_2 < (l0.length : Int))=false:=decide_eq_false c9
     clear c9
     obtain rfl:=Option.some.inj H
     go_wp2
     go_ret
     exact ⟨ye,yhb⟩
mutual
def cpack_Right.j0 : Nat→List (List Int)→Bool→Bool→List (List Int)→List (List (List Int))→Option (Bool)
 | 0,_,_,_,_,_=>none
 | k+1,x7,x29,x285000,x285001,x285002=>if x29=true then (some false) else (cpack_Right.l0 k x7 x285002 (x285002.length : Int) 0)
def cpack_Right.l0 : Nat→List (List Int)→List (List (List Int))→Int→Int→Option (Bool)
 | 0,_,_,_,_=>none
 | k+1,x7,x31,x32,x33=>if x33 < x32 then (if 0≤x33 then (if x33 < (x31.length : Int) then (if ((rd_L4 x31 x33).length : Int)=5 then (cpack_Right.l1 k x7 x33 x31 x32 x33 (rd_L4 x31 x33) ((rd_L4 x31 x33).length : Int) 0) else (some false)) else (none)) else (none)) else (some true)
def cpack_Right.l1 : Nat→List (List Int)→Int→List (List (List Int))→Int→Int→List (List Int)→Int→Int→Option (Bool)
 | 0,_,_,_,_,_,_,_,_=>none
 | k+1,x7,x9,x31,x32,x33,x41,x42,x43=>if x43 < x42 then (if 0≤x43 then (if x43 < (x41.length : Int) then ((band_Width.f x43).bind fun t291=>(if 0≤x9 then (if x9 < (x7.length : Int) then (if x43 < ((rd_L2 x7 x9).length : Int) then ((cpack_pulses.f k (rd_L2 x41 x43) t291 (rd (rd_L2 x7 x9) x43)).bind fun t294=>(if t294=true then (cpack_Right.l1 k x7 x9 x31 x32 x33 x41 x42 (wrap64 (x43+1))) else (some false))) else (none)) else (none)) else (none))) else (none)) else (none)) else (cpack_Right.l0 k x7 x31 x32 (wrap64 (x33+1)))
end
def cpack_Right.f (k : Nat) (a0 : Int) (a1 : Int) (a2_0 : Bool) (l2_1 : List (List Int)) (l2_2 : List (List (List Int))) : Option (Bool):=(alloc_Pulses.f k a0 a1 l2_1).bind fun bt285=>(if bt285.2=0 then (cpack_Right.j0 k bt285.1 ((l2_2.length : Int) != a1) a2_0 l2_1 l2_2) else (cpack_Right.j0 k bt285.1 true a2_0 l2_1 l2_2))
theorem cpack_Right.mono_l : ∀ k,(∀ y0 y1 y2 y3 y4,LeO (cpack_Right.j0 k y0 y1 y2 y3 y4) (cpack_Right.j0 (k+1) y0 y1 y2 y3 y4))∧(∀ y0 y1 y2 y3,LeO (cpack_Right.l0 k y0 y1 y2 y3) (cpack_Right.l0 (k+1) y0 y1 y2 y3))∧(∀ y0 y1 y2 y3 y4 y5 y6 y7,LeO (cpack_Right.l1 k y0 y1 y2 y3 y4 y5 y6 y7) (cpack_Right.l1 (k+1) y0 y1 y2 y3 y4 y5 y6 y7))
 | 0=>⟨fun _ _ _ _ _ r h=>by simp [cpack_Right.j0] at h,fun _ _ _ _ r h=>by simp [cpack_Right.l0] at h,fun _ _ _ _ _ _ _ _ r h=>by simp [cpack_Right.l1] at h⟩
 | k+1=>by
  obtain ⟨ih0,ih1,ih2⟩:=cpack_Right.mono_l k
  refine ⟨?_, ?_, ?_⟩
  ·
   intro y0 y1 y2 y3 y4
   unfold cpack_Right.j0
   repeat' with_reducible first|apply ih0|apply ih1|apply ih2|apply alloc_Pulses.mono|apply cpack_pulses.mono|apply yLr|apply yLn|apply yLi|apply yLb|intro _
  ·
   intro y0 y1 y2 y3
   unfold cpack_Right.l0
   repeat' with_reducible first|apply ih0|apply ih1|apply ih2|apply alloc_Pulses.mono|apply cpack_pulses.mono|apply yLr|apply yLn|apply yLi|apply yLb|intro _
  ·
   intro y0 y1 y2 y3 y4 y5 y6 y7
   unfold cpack_Right.l1
   repeat' with_reducible first|apply ih0|apply ih1|apply ih2|apply alloc_Pulses.mono|apply cpack_pulses.mono|apply yLr|apply yLn|apply yLi|apply yLb|intro _
theorem cpack_Right.mono : ∀ a0 a1 a2 a3 a4 k,LeO (cpack_Right.f k a0 a1 a2 a3 a4) (cpack_Right.f (k+1) a0 a1 a2 a3 a4):=by
 intro a0 a1 a2 a3 a4 k
 obtain ⟨ih0,ih1,ih2⟩:=cpack_Right.mono_l k
 unfold cpack_Right.f
 repeat' with_reducible first|apply ih0|apply ih1|apply ih2|apply alloc_Pulses.mono|apply cpack_pulses.mono|apply yLr|apply yLn|apply yLi|apply yLb|intro _
def cpack_Right.T12 : Bool × List (List Nat × List Nat):=(true, [([], []),([], []),([1], [1]),([], []),([], []),([3,4], [3,4]),([5], [5]),([], []),([6,7], [6,7]),([8], [8]),([0,2,9,2], [0,2,9]),([10], [10])])
def cpack_Right.B12 : List Nat := [0,0,2,0,0,24,56,0,248,504,1023,2047]
theorem cpack_Right.tab12 : rtab .any (opsOf Try.f17 12)=cpack_Right.T12:=by kernel_rfl
theorem cpack_Right.bits12 : waitsOk cpack_Right.T12.2 cpack_Right.B12=true:=by kernel_rfl
set_option maxHeartbeats 8000000 in
set_option maxRecDepth 100000 in
theorem cpack_Right.calls (k : Nat) (a0 : Int) (a1 : Int) (a2_0 : Bool) (A2_1 : Option Addr) (c2_1 : Nat) (l2_1 : List (List Int)) (A2_2 : Option Addr) (c2_2 : Nat) (l2_2 : List (List (List Int))) (r : Bool) (w : World) (hr2_1 : Kd.C (Kd.slice 3 (Kd.int .i64)) w A2_1 l2_1.length l2_1) (hc2_1 : l2_1.length≤c2_1) (hr2_2 : Kd.C (Kd.slice 55 (Kd.slice 3 (Kd.int .i64))) w A2_2 l2_2.length l2_2) (hc2_2 : l2_2.length≤c2_2) (h : cpack_Right.f k a0 a1 a2_0 l2_1 l2_2=some r) :
  Calls Try.prog 17 #[.int .i64 a0, .int .i64 a1, .agg #[.bool a2_0, .slice A2_1 l2_1.length c2_1, .slice A2_2 l2_2.length c2_2]] w fun e w' => e=.returned (.bool r)∧Below w.heap.size w w' := by
 have hu31:=Try.underlying31;have HR2_1:=zm hr2_1;have HC2_1:=zm hc2_1;clear hr2_1 hc2_1;have HR2_2:=zm hr2_2;have HC2_2:=zm hc2_2;clear hr2_2 hc2_2;have HB:=zm (Below.refl w.heap.size w)
 have H : ((alloc_Pulses.f k a0 a1 l2_1).bind fun bt285=>(if bt285.2=0 then (cpack_Right.j0 k bt285.1 ((l2_2.length : Int) != a1) a2_0 l2_1 l2_2) else (cpack_Right.j0 k bt285.1 true a2_0 l2_1 l2_2)))=some r:=h
 clear h
 replace H:=ybi H;obtain ⟨⟨t285,t286⟩,A4,H⟩:=H
 try dsimp only at H
 have HC5:=zm H;clear H
 go_enter Try.func17,Try.ntmps17
 go_upto_region 2 with (first|((with_reducible refine gate_dst (N:=5) rfl ?_);(try (refine gate_guard (by rfl) ?_;dsimp only));refine ybx 5 #[.bool a2_0, .slice A2_1 l2_1.length c2_1, .slice A2_2 l2_2.length c2_2] 31 ?_;intro gb284 hg w6 hbox hb;have BK284:=zm (hbox);have GW284:=ygw hg;have GE284:=ygw hg;replace HB:=ybs hb;clear hb hbox hg;obtain ⟨hcz7_0,hcz7_1,hcz7_2,hfz7_0,hfz7_1,hfz7_2⟩:=yc3 BK284)|((with_reducible refine gate_callee (f:=37) rfl ?_);refine ygl 18 Try.func37 #[.int .i64 a0, .int .i64 a1, .slice A2_1 l2_1.length c2_1] ?_;(with_reducible refine (alloc_Pulses.calls k a0 a1 _ _ l2_1 t285 t286 _ ?side1 HC2_1.out A4.out).mono ?_);(case side1=>exact ycb HR2_1);rintro e w8 ⟨v287,rfl,ho0,hb⟩;refine ⟨_,rfl, ?_⟩;have HO288:=zm (Kd.S_lower ho0 (zE yhb));replace BK284:=ybb BK284 hb;replace HB:=ybs hb;(try clear hb);(try clear ho0)))
 (try simp only [Act.put,List.setIfInBounds_toArray,List.set_cons_zero,List.set_cons_succ])
 go_cut [29] (fun v29 wc => ∃ (kq : Nat) (x29_4 : Bool),v29=.bool x29_4∧Aside0 (cpack_Right.j0 kq t285 x29_4 a2_0 l2_1 l2_2=some r)∧Aside0 (kq≤k)∧Aside0 (Kd.S (Kd.slice 3 (Kd.int .i64)) 55 wc w.heap.size (fun _=>True) v287 t285)∧Aside0 (wc.heap[gb284]? = some (.cells #[.bool a2_0,(.slice A2_1 l2_1.length c2_1),(.slice A2_2 l2_2.length c2_2)] 31 (0,0)))∧Aside0 (Below w.heap.size w wc))
 case first =>
  have H:=HC5.out;clear HC5
  by_cases c9 : t286=0
  ·
   rw [if_pos c9] at H
   have c9b0 : (t286 == 0)=true:=beq_iff_eq.mpr c9
   have c9b1 : (t286 != 0)=false:=bne_eq_false_iff_eq.mpr c9
   clear c9
   (first|rw [c9b0]|(simp only [i64_w,i32_w];rw [c9b0])|skip)
   have H' := zm H
   clear H
   obtain ⟨_,_,_,_,_,_⟩:=yc3 BK284
   go_wp2
   go_meet
   case rel=>exact ⟨_,(((l2_2.length : Int) != a1)),yq,H',⟨yo⟩,⟨yr HO288⟩,⟨yk BK284⟩,⟨yhb⟩⟩
  ·
   rw [if_neg c9] at H
   have c9b0 : (t286 == 0)=false:=beq_eq_false_iff_ne.mpr c9
   have c9b1 : (t286 != 0)=true:=bne_iff_ne.mpr c9
   (first|rw [c9b0]|(simp only [i64_w,i32_w];rw [c9b0])|skip)
   have H' := zm H
   clear H
   go_wp2
   go_meet
   case rel=>exact ⟨_,(true),yq,H',⟨yo⟩,⟨yr HO288⟩,⟨yk BK284⟩,⟨yhb⟩⟩
 case rest =>
  clear HC5
  try clear hcz7_0
  try clear hcz7_1
  try clear hcz7_2
  try clear hfz7_0
  try clear hfz7_1
  try clear hfz7_2
  obtain ⟨kq,x29_4,rfl,HA,HJ4,HO_7,BK284,HB⟩:=hcut
  obtain ⟨kj4,rfl⟩:=ysu kq (fun h=>by subst h;exact absurd HA.out (by simp [cpack_Right.j0]))
  have H:=HA.out;clear HA
  simp only [cpack_Right.j0] at H
  by_cases c11 : x29_4=true
  ·
   subst c11
   rw [if_pos rfl] at H
   obtain rfl:=Option.some.inj H
   go_wp2
   go_ret
   exact ⟨ye,yhb⟩
  ·
   replace c11:=Bool.eq_false_iff.mpr c11
   subst c11
   rw [ynf] at H
   have H' := zm H
   clear H
   obtain ⟨hcz12_0,hcz12_1,hcz12_2,hfz12_0,hfz12_1,hfz12_2⟩:=yc3 BK284
   go_wp2
   go_loopg [33] kj4 (fun kq v33 w' => ∃ (x33_2 : Int),v33=.int .i64 x33_2∧Aside0 (cpack_Right.l0 kq t285 l2_2 (l2_2.length : Int) x33_2=some r)∧Aside0 (kq≤kj4)∧Aside0 (Kd.S (Kd.slice 3 (Kd.int .i64)) 55 w' w.heap.size (fun _=>True) v287 t285)∧Aside0 (w'.heap[gb284]? = some (.cells #[.bool a2_0,(.slice A2_1 l2_1.length c2_1),(.slice A2_2 l2_2.length c2_2)] 31 (0,0)))∧Aside0 (Below w.heap.size w w'))
   case atStart=>exact ⟨(0),yq,H',⟨Nat.le_refl _⟩,⟨yr HO_7⟩,⟨yk BK284⟩,⟨yhb⟩⟩
   case round =>
    clear H'
    try clear hcz12_0
    try clear hcz12_1
    try clear hcz12_2
    try clear hfz12_0
    try clear hfz12_1
    try clear hfz12_2
    obtain ⟨x33_2,rfl,HA,HK2,HO_7,BK284,HB⟩:=hrel
    obtain ⟨k2,rfl⟩:=ysu gk (fun h=>by subst h;exact absurd HA.out (by simp [cpack_Right.l0]))
    have H:=HA.out;clear HA
    simp only [cpack_Right.l0] at H
    by_cases c13 : x33_2 < (l2_2.length : Int)
    ·
     rw [if_pos c13] at H
     have c13b0 : decide (x33_2 < (l2_2.length : Int))=true:=decide_eq_true c13
     clear c13
     replace H:=yif H;obtain ⟨c14,H⟩:=H
     have c14b0 : decide (0≤x33_2)=true:=decide_eq_true c14
     clear c14
     replace H:=yif H;obtain ⟨c15,H⟩:=H
     have c15b0 : decide (x33_2 < (l2_2.length : Int))=true:=decide_eq_true c15
     clear c15
     by_cases c16 : ((rd_L4 l2_2 x33_2).length : Int)=5
     ·
      rw [if_pos c16] at H
      have c16b0 : (((rd_L4 l2_2 x33_2).length : Int) == 5)=true:=beq_iff_eq.mpr c16
      have c16b1 : (((rd_L4 l2_2 x33_2).length : Int) != 5)=false:=bne_eq_false_iff_eq.mpr c16
      clear c16
      have H' := zm H
      clear H
      have p289 : 0≤(x33_2 : Int):=yt
      have q289 : x33_2 < (l2_2.length : Int):=yt
      obtain ⟨ad289,A289_0,c289_0,e289,hx289_0,hl289_0,hi289_0⟩:=at_L4 HR2_2.out x33_2 p289 q289
      cases e289
      replace hx289_0:=yhx HB hx289_0
      have HR289_0:=zm hi289_0;have HC289_0:=zm hl289_0;clear hi289_0 hl289_0
      replace p289:=eq_true p289
      replace q289:=eq_true q289
      go_wp2
      go_loopg [43] k2 (fun kq v43 w' => ∃ (x43_3 : Int),v43=.int .i64 x43_3∧Aside0 (cpack_Right.l1 kq t285 x33_2 l2_2 (l2_2.length : Int) x33_2 (rd_L4 l2_2 x33_2) ((rd_L4 l2_2 x33_2).length : Int) x43_3=some r)∧Aside0 (kq≤k2)∧Aside0 (Kd.S (Kd.slice 3 (Kd.int .i64)) 55 w' w.heap.size (fun _=>True) v287 t285)∧Aside0 (w'.heap[gb284]? = some (.cells #[.bool a2_0,(.slice A2_1 l2_1.length c2_1),(.slice (some ad289) l2_2.length c2_2)] 31 (0,0)))∧Aside0 (Below w.heap.size w w'))
      case atStart=>exact ⟨(0),yq,H',⟨Nat.le_refl _⟩,⟨yr HO_7⟩,⟨yk BK284⟩,⟨yhb⟩⟩
      case round =>
       clear H'
       try clear c13b0
       try clear c14b0
       try clear c15b0
       try clear c16b0
       try clear c16b1
       try clear hx289_0
       try clear p289
       try clear q289
       obtain ⟨x43_3,rfl,HA,HK3,HO_7,BK284,HB⟩:=hrel
       obtain ⟨k3,rfl⟩:=ysu gk (fun h=>by subst h;exact absurd HA.out (by simp [cpack_Right.l1]))
       have H:=HA.out;clear HA
       simp only [cpack_Right.l1] at H
       by_cases c17 : x43_3 < ((rd_L4 l2_2 x33_2).length : Int)
       ·
        rw [if_pos c17] at H
        have c17b0 : decide (x43_3 < ((rd_L4 l2_2 x33_2).length : Int))=true:=decide_eq_true c17
        clear c17
        replace H:=yif H;obtain ⟨c18,H⟩:=H
        have c18b0 : decide (0≤x43_3)=true:=decide_eq_true c18
        clear c18
        replace H:=yif H;obtain ⟨c19,H⟩:=H
        have c19b0 : decide (x43_3 < ((rd_L4 l2_2 x33_2).length : Int))=true:=decide_eq_true c19
        clear c19
        replace H:=ybi H;obtain ⟨t291,A20,H⟩:=H
        replace H:=yif H;obtain ⟨c21,H⟩:=H
        have c21b0 : decide (0≤x33_2)=true:=decide_eq_true c21
        clear c21
        replace H:=yif H;obtain ⟨c22,H⟩:=H
        have c22b0 : decide (x33_2 < (t285.length : Int))=true:=decide_eq_true c22
        clear c22
        replace H:=yif H;obtain ⟨c23,H⟩:=H
        have c23b0 : decide (x43_3 < ((rd_L2 t285 x33_2).length : Int))=true:=decide_eq_true c23
        clear c23
        replace H:=ybi H;obtain ⟨t294,A24,H⟩:=H
        by_cases c25 : t294=true
        ·
         subst c25
         rw [if_pos rfl] at H
         have H' := zm H
         clear H
         have p290 : 0≤(x43_3 : Int):=yt
         have q290 : x43_3 < ((rd_L4 l2_2 x33_2).length : Int):=yt
         obtain ⟨ad290,A290_0,c290_0,e290,hx290_0,hl290_0,hi290_0⟩:=at_L2 HR289_0.out x43_3 p290 q290
         cases e290
         replace hx290_0:=yhx HB hx290_0
         have HR290_0:=zm hi290_0;have HC290_0:=zm hl290_0;clear hi290_0 hl290_0
         replace p290:=eq_true p290
         replace q290:=eq_true q290
         try go_wp2
         replace HO_7:=zm (Kd.S_drew HO_7.out)
         replace BK284:=zm (zj BK284.out)
         replace HB:=zm (zf HB.out)
         obtain ⟨Ao27,co27,eo27⟩:=Kd.S_slice HO_7.out
         (first|subst eo27|(injection eo27 with f1_ f2_ f3_;have f4_:=f1_.symm;have f5_:=f3_.symm;clear f1_ f2_ f3_;subst f4_;subst f5_))
         have p292 : 0≤(x33_2 : Int):=yt
         have q292 : x33_2 < (t285.length : Int):=yt
         obtain ⟨ad292,A292_0,c292_0,e292,hx292_0,hl292_0,hi292_0⟩:=at_L2 (Kd.S_reads' HO_7.out).2.2 x33_2 p292 q292
         cases e292
         obtain ⟨ce292,hce292,hMe292,hcc292⟩:=Kd.S_get HO_7.out [] x33_2 p292 (by first|exact q292|exact yt|(have e_:=(Kd.S_reads' HO_7.out).1;omega))
         obtain ⟨ve292_0,rfl,ge292_0⟩:=hMe292
         have hv292_0:=hcc292 0 _ rfl
         rw [Nat.add_zero,show ((Kd.slice 3 (Kd.int .i64))).sz=1 from rfl,Nat.mul_one] at hv292_0
         replace hv292_0:=Option.some.inj (hv292_0.symm.trans hx292_0)
         rw [hv292_0] at ge292_0
         have HL292_0:=zm (show Kd.R (Kd.int .i64) 3 _ _ _ _ (rd_L2 t285 x33_2) from ge292_0)
         clear hv292_0 ge292_0;clear hcc292 hce292;have HR292_0:=zm hi292_0;have HC292_0:=zm hl292_0;clear hi292_0 hl292_0
         replace p292:=eq_true p292
         replace q292:=eq_true q292
         obtain ⟨ad293,e293,hx293_0,p293,q293⟩:=yai HR292_0 x43_3
         cases e293
         refine yst (fun w' => w'.cell? (ad292.add (x33_2).toNat)=some (.slice (some ad293) (rd_L2 t285 x33_2).length c292_0)∧w'.cell? (ad293.add (x43_3).toNat)=some (.int .i64 (rd (rd_L2 t285 x33_2) x43_3))) [] 12 cpack_Right.tab12 cpack_Right.bits12 (fun hHeld HT_ HW_ => ?_)
         generalize wr.drew=w26 at HO_7 BK284 HB HL292_0 HR292_0 hx292_0 hx293_0 hHeld ⊢
         refine yp 0 48 HT_ ?_
         refine yp 1 49 HT_ ?_
         refine yp 3 51 HT_ ?_
         refine yp 4 52 HT_ ?_
         refine yp 5 53 HT_ ?_
         refine yp 7 55 HT_ ?_
         refine yl 6 54 HT_ HW_ hHeld ?_
         refine yp 8 56 HT_ ?_
         refine yl 9 57 HT_ HW_ hHeld ?_
         refine yw 2 50 HT_ (fun K hK => ?_)
         refine ygs Try.func48 #[.int .i64 x43_3] ?_
         with_reducible refine (band_Width.calls x43_3 t291 _ A20.out).mono ?_
         rintro e w28 ⟨rfl,hb⟩
         have HS0_:=yhs hb hHeld.1
         have HS1_:=yhs hb hHeld.2
         refine ⟨_,rfl, ?_⟩
         replace HO_7:=ySb HO_7 hb
         replace HL292_0:=yRb HL292_0 hb
         replace BK284:=ybb BK284 hb
         replace HR292_0:=yCb HR292_0 hb
         replace HB:=ybs hb
         (try clear hb)
         refine hK.out _ _ yH (fun hHeld => ?_)
         clear hK K
         refine ym (some 50) ?_
         refine yw 10 58 HT_ (fun K hK => ?_)
         refine ygs Try.func59 #[.slice A290_0 (rd_L2 (rd_L4 l2_2 x33_2) x43_3).length c290_0, .int .i64 t291, .int .i64 (rd (rd_L2 t285 x33_2) x43_3)] ?_
         with_reducible refine (cpack_pulses.calls k3 _ _ (rd_L2 (rd_L4 l2_2 x33_2) x43_3) t291 (rd (rd_L2 t285 x33_2) x43_3) true _ ?side1 ?side2 A24.out).mono ?_
         (case side1=>exact ycb HR290_0)
         (case side2=>exact HC290_0.out)
         rintro e w29 ⟨rfl,hb⟩
         have HS0_:=yhs hb hHeld.1
         have HS1_:=yhs hb hHeld.2
         refine ⟨_,rfl, ?_⟩
         replace HO_7:=ySb HO_7 hb
         replace HL292_0:=yRb HL292_0 hb
         replace BK284:=ybb BK284 hb
         replace HR292_0:=yCb HR292_0 hb
         replace HB:=ybs hb
         (try clear hb)
         refine hK.out _ _ yH (fun hHeld => ?_)
         clear hK K
         refine ym (some 58) ?_
         refine yp 11 59 HT_ ?_
         refine done_ (done_of HT_.out (by kernel_rfl)) ?_
         try go_wp2
         go_roundg k3
         case measure=>exact yom3 HJ4 HK2 HK3
         case rel=>exact ⟨(wrap64 (x43_3+1)),yq,H',⟨yom3 HJ4 HK2 HK3⟩,⟨yr HO_7⟩,⟨yk BK284⟩,⟨yhb⟩⟩
        ·
         replace c25:=Bool.eq_false_iff.mpr c25
         subst c25
         rw [ynf] at H
         obtain rfl:=Option.some.inj H
         have p290 : 0≤(x43_3 : Int):=yt
         have q290 : x43_3 < ((rd_L4 l2_2 x33_2).length : Int):=yt
         obtain ⟨ad290,A290_0,c290_0,e290,hx290_0,hl290_0,hi290_0⟩:=at_L2 HR289_0.out x43_3 p290 q290
         cases e290
         replace hx290_0:=yhx HB hx290_0
         have HR290_0:=zm hi290_0;have HC290_0:=zm hl290_0;clear hi290_0 hl290_0
         replace p290:=eq_true p290
         replace q290:=eq_true q290
         try go_wp2
         replace HO_7:=zm (Kd.S_drew HO_7.out)
         replace BK284:=zm (zj BK284.out)
         replace HB:=zm (zf HB.out)
         obtain ⟨Ao31,co31,eo31⟩:=Kd.S_slice HO_7.out
         (first|subst eo31|(injection eo31 with f1_ f2_ f3_;have f4_:=f1_.symm;have f5_:=f3_.symm;clear f1_ f2_ f3_;subst f4_;subst f5_))
         have p292 : 0≤(x33_2 : Int):=yt
         have q292 : x33_2 < (t285.length : Int):=yt
         obtain ⟨ad292,A292_0,c292_0,e292,hx292_0,hl292_0,hi292_0⟩:=at_L2 (Kd.S_reads' HO_7.out).2.2 x33_2 p292 q292
         cases e292
         obtain ⟨ce292,hce292,hMe292,hcc292⟩:=Kd.S_get HO_7.out [] x33_2 p292 (by first|exact q292|exact yt|(have e_:=(Kd.S_reads' HO_7.out).1;omega))
         obtain ⟨ve292_0,rfl,ge292_0⟩:=hMe292
         have hv292_0:=hcc292 0 _ rfl
         rw [Nat.add_zero,show ((Kd.slice 3 (Kd.int .i64))).sz=1 from rfl,Nat.mul_one] at hv292_0
         replace hv292_0:=Option.some.inj (hv292_0.symm.trans hx292_0)
         rw [hv292_0] at ge292_0
         have HL292_0:=zm (show Kd.R (Kd.int .i64) 3 _ _ _ _ (rd_L2 t285 x33_2) from ge292_0)
         clear hv292_0 ge292_0;clear hcc292 hce292;have HR292_0:=zm hi292_0;have HC292_0:=zm hl292_0;clear hi292_0 hl292_0
         replace p292:=eq_true p292
         replace q292:=eq_true q292
         obtain ⟨ad293,e293,hx293_0,p293,q293⟩:=yai HR292_0 x43_3
         cases e293
         refine yst (fun w' => w'.cell? (ad292.add (x33_2).toNat)=some (.slice (some ad293) (rd_L2 t285 x33_2).length c292_0)∧w'.cell? (ad293.add (x43_3).toNat)=some (.int .i64 (rd (rd_L2 t285 x33_2) x43_3))) [] 12 cpack_Right.tab12 cpack_Right.bits12 (fun hHeld HT_ HW_ => ?_)
         generalize wr.drew=w30 at HO_7 BK284 HB HL292_0 HR292_0 hx292_0 hx293_0 hHeld ⊢
         refine yp 0 48 HT_ ?_
         refine yp 1 49 HT_ ?_
         refine yp 3 51 HT_ ?_
         refine yp 4 52 HT_ ?_
         refine yp 5 53 HT_ ?_
         refine yp 7 55 HT_ ?_
         refine yl 6 54 HT_ HW_ hHeld ?_
         refine yp 8 56 HT_ ?_
         refine yl 9 57 HT_ HW_ hHeld ?_
         refine yw 2 50 HT_ (fun K hK => ?_)
         refine ygs Try.func48 #[.int .i64 x43_3] ?_
         with_reducible refine (band_Width.calls x43_3 t291 _ A20.out).mono ?_
         rintro e w32 ⟨rfl,hb⟩
         have HS0_:=yhs hb hHeld.1
         have HS1_:=yhs hb hHeld.2
         refine ⟨_,rfl, ?_⟩
         replace HO_7:=ySb HO_7 hb
         replace HL292_0:=yRb HL292_0 hb
         replace BK284:=ybb BK284 hb
         replace HR292_0:=yCb HR292_0 hb
         replace HB:=ybs hb
         (try clear hb)
         refine hK.out _ _ yH (fun hHeld => ?_)
         clear hK K
         refine ym (some 50) ?_
         refine yw 10 58 HT_ (fun K hK => ?_)
         refine ygs Try.func59 #[.slice A290_0 (rd_L2 (rd_L4 l2_2 x33_2) x43_3).length c290_0, .int .i64 t291, .int .i64 (rd (rd_L2 t285 x33_2) x43_3)] ?_
         with_reducible refine (cpack_pulses.calls k3 _ _ (rd_L2 (rd_L4 l2_2 x33_2) x43_3) t291 (rd (rd_L2 t285 x33_2) x43_3) false _ ?side1 ?side2 A24.out).mono ?_
         (case side1=>exact ycb HR290_0)
         (case side2=>exact HC290_0.out)
         rintro e w33 ⟨rfl,hb⟩
         have HS0_:=yhs hb hHeld.1
         have HS1_:=yhs hb hHeld.2
         refine ⟨_,rfl, ?_⟩
         replace HO_7:=ySb HO_7 hb
         replace HL292_0:=yRb HL292_0 hb
         replace BK284:=ybb BK284 hb
         replace HR292_0:=yCb HR292_0 hb
         replace HB:=ybs hb
         (try clear hb)
         refine hK.out _ _ yH (fun hHeld => ?_)
         clear hK K
         refine ym (some 58) ?_
         refine yp 11 59 HT_ ?_
         refine done_ (done_of HT_.out (by kernel_rfl)) ?_
         try go_wp2
         go_ret
         exact ⟨ye,yhb⟩
       ·
        rw [if_neg c17] at H
        have c17b0 : decide (x43_3 < ((rd_L4 l2_2 x33_2).length : Int))=false:=decide_eq_false c17
        clear c17
        have H' := zm H
        clear H
        go_wp2
        go_roundg k3
        case measure=>exact yom3 HJ4 HK2 HK3
        case rel=>exact ⟨(wrap64 (x33_2+1)),yq,H',⟨yom3 HJ4 HK2 HK3⟩,⟨yr HO_7⟩,⟨yk BK284⟩,⟨yhb⟩⟩
     ·
      rw [if_neg c16] at H
      have c16b0 : (((rd_L4 l2_2 x33_2).length : Int) == 5)=false:=beq_eq_false_iff_ne.mpr c16
      have c16b1 : (((rd_L4 l2_2 x33_2).length : Int) != 5)=true:=bne_iff_ne.mpr c16
      obtain rfl:=Option.some.inj H
      have p289 : 0≤(x33_2 : Int):=yt
      have q289 : x33_2 < (l2_2.length : Int):=yt
      obtain ⟨ad289,A289_0,c289_0,e289,hx289_0,hl289_0,hi289_0⟩:=at_L4 HR2_2.out x33_2 p289 q289
      cases e289
      replace hx289_0:=yhx HB hx289_0
      have HR289_0:=zm hi289_0;have HC289_0:=zm hl289_0;clear hi289_0 hl289_0
      replace p289:=eq_true p289
      replace q289:=eq_true q289
      go_wp2
      go_ret
      exact ⟨ye,yhb⟩
    ·
     rw [if_neg c13] at H
     have c13b0 : decide (x33_2 < (l2_2.length : Int))=false:=decide_eq_false c13
     clear c13
     obtain rfl:=Option.some.inj H
     go_wp2
     go_ret
     exact ⟨ye,yhb⟩
mutual
def ccodec_Decode.l0 : Nat→List (List (List Int))→Int→Int→Bool→List (List Int)→List (List (List Int))→List (List Int)→Option ((List (List Int)) × Int)
 | 0,_,_,_,_,_,_,_=>none
 | k+1,x22,x23,x24,x328000,x328001,x328002,x331000=>if x24 < x23 then (if 0≤x24 then (if x24 < (x22.length : Int) then (ccodec_Decode.l1 k x24 ([] : List Int) ([] : List Int) x22 x23 x24 (rd_L4 x22 x24) ((rd_L4 x22 x24).length : Int) 0 x328000 x328001 x328002 x331000) else (none)) else (none)) else (some (x331000,0))
def ccodec_Decode.l1 : Nat→Int→List Int→List Int→List (List (List Int))→Int→Int→List (List Int)→Int→Int→Bool→List (List Int)→List (List (List Int))→List (List Int)→Option ((List (List Int)) × Int)
 | 0,_,_,_,_,_,_,_,_,_,_,_,_,_=>none
 | k+1,x9,x11,x12,x22,x23,x24,x30,x31,x32,x328000,x328001,x328002,x331000=>if x32 < x31 then (if 0≤x32 then (if x32 < (x30.length : Int) then (if 0≤x9 then (if x9 < (x328001.length : Int) then (if x32 < ((rd_L2 x328001 x9).length : Int) then ((ccodec_next.f k (rd_L2 x30 x32) (rd (rd_L2 x328001 x9) x32) x11).bind fun t335=>(if x12.length+t335.length < 17592186044416 then (ccodec_Decode.l1 k x9 t335 (x12 ++ t335) x22 x23 x24 x30 x31 (wrap64 (x32+1)) x328000 x328001 x328002 x331000) else (none))) else (none)) else (none)) else (none)) else (none)) else (none)) else (if x331000.length < 5864062014805 then (ccodec_Decode.l0 k x22 x23 (wrap64 (x24+1)) x328000 x328001 x328002 (x331000 ++ [x12])) else (none))
end
def ccodec_Decode.f (k : Nat) (a0 : Int) (a1 : Int) (a2_0 : Bool) (l2_1 : List (List Int)) (l2_2 : List (List (List Int))) : Option ((List (List Int)) × Int):=(cpack_Right.f k a0 a1 a2_0 l2_1 l2_2).bind fun t329=>(if t329=true then (ccodec_Decode.l0 k l2_2 (l2_2.length : Int) 0 a2_0 l2_1 l2_2 ([] : List (List Int))) else (some (([] : List (List Int)),1)))
theorem ccodec_Decode.mono_l : ∀ k,(∀ y0 y1 y2 y3 y4 y5 y6,LeO (ccodec_Decode.l0 k y0 y1 y2 y3 y4 y5 y6) (ccodec_Decode.l0 (k+1) y0 y1 y2 y3 y4 y5 y6))∧(∀ y0 y1 y2 y3 y4 y5 y6 y7 y8 y9 y10 y11 y12,LeO (ccodec_Decode.l1 k y0 y1 y2 y3 y4 y5 y6 y7 y8 y9 y10 y11 y12) (ccodec_Decode.l1 (k+1) y0 y1 y2 y3 y4 y5 y6 y7 y8 y9 y10 y11 y12))
 | 0=>⟨fun _ _ _ _ _ _ _ r h=>by simp [ccodec_Decode.l0] at h,fun _ _ _ _ _ _ _ _ _ _ _ _ _ r h=>by simp [ccodec_Decode.l1] at h⟩
 | k+1=>by
  obtain ⟨ih0,ih1⟩:=ccodec_Decode.mono_l k
  refine ⟨?_, ?_⟩
  ·
   intro y0 y1 y2 y3 y4 y5 y6
   unfold ccodec_Decode.l0
   repeat' with_reducible first|apply ih0|apply ih1|apply ccodec_next.mono|apply cpack_Right.mono|apply yLr|apply yLn|apply yLi|apply yLb|intro _
  ·
   intro y0 y1 y2 y3 y4 y5 y6 y7 y8 y9 y10 y11 y12
   unfold ccodec_Decode.l1
   repeat' with_reducible first|apply ih0|apply ih1|apply ccodec_next.mono|apply cpack_Right.mono|apply yLr|apply yLn|apply yLi|apply yLb|intro _
theorem ccodec_Decode.mono : ∀ a0 a1 a2 a3 a4 k,LeO (ccodec_Decode.f k a0 a1 a2 a3 a4) (ccodec_Decode.f (k+1) a0 a1 a2 a3 a4):=by
 intro a0 a1 a2 a3 a4 k
 obtain ⟨ih0,ih1⟩:=ccodec_Decode.mono_l k
 unfold ccodec_Decode.f
 repeat' with_reducible first|apply ih0|apply ih1|apply ccodec_next.mono|apply cpack_Right.mono|apply yLr|apply yLn|apply yLi|apply yLb|intro _
/-- The closure, made: its variable is a block of its own. -/
theorem ccodec_bands.calls (w : World) : Calls Try.prog 64 #[] w fun e w' => ∃ B,e=.returned (.func (.func 101) #[] #[.pointer (some ⟨B,0,none⟩)])∧w.heap.size≤B∧w'.heap[B]? = some (.cells #[.slice none 0 0] 53 (0,0))∧Below w.heap.size w w' := by
 have hmf : ∀ (fn : Fn) (first cap : Array Value) (w : World),(Instr.makeFunc fn first cap).run Try.prog w=.ok (.func fn first cap) w:=fun _ _ _ _=>rfl
 go_enter Try.func64,Try.ntmps64
 go_wp2_with (first|((with_reducible refine gate_dst (N:=1) rfl ?_);refine ybx 1 #[.slice none 0 0] 53 ?_;intro gb hg w5 hbox hb))
 go_ret
 exact ⟨gb,by first|rfl|(simp;done),by rw [hg];exact Nat.le_refl _,hbox,hb⟩
/-- Rows over a call that writes one block, which is none of theirs. -/
theorem ccodec_Decode.R_el {α : Type} {d : Kd α} {e base B : Nat} {ok : Nat→Prop} {W w1 : World} {u v : Value} {xs : List α} (h : d.R e W base (fun k=>ok k∧k≠B) v xs) (hk : Kept W w1 (fun k=>k=B)) (hb : ∀ k,u.ownBlock=some k→W.heap.size≤k) : d.R e w1 base (fun k=>ok k∧some k≠u.ownBlock) v xs :=
 zG (Kd.R_keptB h hk (fun _ hk=>hk.2)) (fun k hk=>⟨hk.1.1,fun e_=>Nat.not_le.2 hk.2.2 (hb k e_.symm)⟩)
theorem ccodec_Decode.S_el {α : Type} {d : Kd α} {e base B : Nat} {ok : Nat→Prop} {W w1 : World} {u v : Value} {xs : List α} (h : Kd.S d e W base ok v xs) (hne : ∀ k,ok k→k≠B) (hk : Kept W w1 (fun k=>k=B)) (hb : ∀ k,u.ownBlock=some k→W.heap.size≤k) : Kd.S d e w1 base (fun k=>ok k∧some k≠u.ownBlock) v xs :=
 Kd.S_mono (Kd.S_keptB h hk hne) (fun k hk=>⟨hk.1,fun e_=>Nat.not_le.2 hk.2.2 (hb k e_.symm)⟩)
set_option maxHeartbeats 8000000 in
set_option maxRecDepth 100000 in
theorem ccodec_Decode.calls (k : Nat) (a0 : Int) (a1 : Int) (a2_0 : Bool) (A2_1 : Option Addr) (c2_1 : Nat) (l2_1 : List (List Int)) (A2_2 : Option Addr) (c2_2 : Nat) (l2_2 : List (List (List Int))) (r1 : List (List Int)) (r2 : Int) (w : World) (hr2_1 : Kd.C (Kd.slice 3 (Kd.int .i64)) w A2_1 l2_1.length l2_1) (hc2_1 : l2_1.length≤c2_1) (hr2_2 : Kd.C (Kd.slice 55 (Kd.slice 3 (Kd.int .i64))) w A2_2 l2_2.length l2_2) (hc2_2 : l2_2.length≤c2_2) (h : ccodec_Decode.f k a0 a1 a2_0 l2_1 l2_2=some (r1,r2)) :
  Calls Try.prog 23 #[.int .i64 a0, .int .i64 a1, .agg #[.bool a2_0, .slice A2_1 l2_1.length c2_1, .slice A2_2 l2_2.length c2_2]] w fun e w' => ∃ v0_ : Value,e=.returned (.tuple #[.agg #[v0_], .int .i64 r2])∧Kd.S (Kd.slice 2 (Kd.int .i64)) 53 w' w.heap.size (fun _=>True) v0_ r1∧Below w.heap.size w w' := by
 have hu31:=Try.underlying31;have hu24:=Try.underlying24;have HR2_1:=zm hr2_1;have HC2_1:=zm hc2_1;clear hr2_1 hc2_1;have HR2_2:=zm hr2_2;have HC2_2:=zm hc2_2;clear hr2_2 hc2_2;have HB:=zm (Below.refl w.heap.size w)
 have H : ((cpack_Right.f k a0 a1 a2_0 l2_1 l2_2).bind fun t329=>(if t329=true then (ccodec_Decode.l0 k l2_2 (l2_2.length : Int) 0 a2_0 l2_1 l2_2 ([] : List (List Int))) else (some (([] : List (List Int)),1))))=some (r1,r2):=h
 clear h
 replace H:=ybi H;obtain ⟨t329,A4,H⟩:=H
 by_cases c5 : t329=true
 ·
  subst c5
  rw [if_pos rfl] at H
  have H' := zm H
  clear H
  go_enter Try.func23,Try.ntmps23
  go_wp2_with (first|((with_reducible refine gate_dst (N:=5) rfl ?_);refine ybx 5 #[.bool a2_0, .slice A2_1 l2_1.length c2_1, .slice A2_2 l2_2.length c2_2] 31 ?_;intro gb327 hg w6 hbox hb;have BK327:=zm (hbox);have GW327:=ygw hg;have GE327:=ygw hg;replace HB:=ybs hb;clear hb hbox hg)|((with_reducible refine gate_dst (N:=6) rfl ?_);refine ybx 6 #[.slice none 0 0] 24 ?_;intro gb328 hg w7 hbox hb;have BK328:=zm (hbox);have GW328:=ygw hg;have GE328:=ygw hg;replace HB:=ybs hb;have NB327_328:=ynl BK327 hg;have NB328_327:=yng BK327 hg;replace BK327:=ybb BK327 hb;clear hb hbox hg;have:=NB327_328.out;have:=NB328_327.out;obtain ⟨hcz9_0,hcz9_1,hcz9_2,hfz9_0,hfz9_1,hfz9_2⟩:=yc3 BK327)|((with_reducible refine gate_callee (f:=17) rfl ?_);refine ygl 18 Try.func17 #[.int .i64 a0, .int .i64 a1, .agg #[.bool a2_0, .slice A2_1 l2_1.length c2_1, .slice A2_2 l2_2.length c2_2]] ?_;(with_reducible refine (cpack_Right.calls k a0 a1 a2_0 _ _ l2_1 _ _ l2_2 true _ ?side1 HC2_1.out ?side3 HC2_2.out A4.out).mono ?_);(case side1=>exact ycb HR2_1);(case side3=>exact ycb HR2_2);rintro e w10 ⟨rfl,hb⟩;refine ⟨_,rfl, ?_⟩;replace BK327:=ybb BK327 hb;replace BK328:=ybb BK328 hb;replace HB:=ybs hb;(try clear hb))|((with_reducible refine gate_dst (N:=8) rfl ?_);refine ybx 8 #[.slice none 0 0] 24 ?_;intro gb330 hg w11 hbox hb;have BK330:=zm (hbox);have GW330:=ygw hg;have GE330:=ygw hg;replace HB:=ybs hb;have NB327_330:=ynl BK327 hg;have NB330_327:=yng BK327 hg;replace BK327:=ybb BK327 hb;have NB328_330:=ynl BK328 hg;have NB330_328:=yng BK328 hg;replace BK328:=ybb BK328 hb;clear hb hbox hg;have:=NB327_330.out;have:=NB330_327.out;obtain ⟨hcz13_0,hcz13_1,hcz13_2,hfz13_0,hfz13_1,hfz13_2⟩:=yc3 BK327))
  go_loopg [24] k (fun kq v24 w' => ∃ (x24_1 : Int) (x331000_1 : List (List Int)) (u331000 : Value),v24=.int .i64 x24_1∧Aside0 (ccodec_Decode.l0 kq l2_2 (l2_2.length : Int) x24_1 a2_0 l2_1 l2_2 x331000_1=some (r1,r2))∧Aside0 (kq≤k)∧Aside0 (Kd.S (Kd.slice 2 (Kd.int .i64)) 53 w' w.heap.size (fun _=>True) u331000 x331000_1)∧Aside0 (w'.heap[gb327]? = some (.cells #[.bool a2_0,(.slice A2_1 l2_1.length c2_1),(.slice A2_2 l2_2.length c2_2)] 31 (0,0)))∧Aside0 (w'.heap[gb328]? = some (.cells #[(.slice none 0 0)] 24 (0,0)))∧Aside0 (w'.heap[gb330]? = some (.cells #[u331000] 24 (0,0)))∧Aside0 (Below w.heap.size w w'))
  case atStart=>exact ⟨(0),(([] : List (List Int))),(.slice none 0 0),yq,H',⟨Nat.le_refl _⟩,⟨yn⟩,⟨yk BK327⟩,⟨yk BK328⟩,⟨yk BK330⟩,⟨yhb⟩⟩
  case round =>
   clear H'
   try clear hcz13_0
   try clear hcz13_1
   try clear hcz13_2
   try clear hcz9_0
   try clear hcz9_1
   try clear hcz9_2
   try clear hfz13_0
   try clear hfz13_1
   try clear hfz13_2
   try clear hfz9_0
   try clear hfz9_1
   try clear hfz9_2
   obtain ⟨x24_1,x331000_1,u331000,rfl,HA,HK1,HO_331000,BK327,BK328,BK330,HB⟩:=hrel
   obtain ⟨k1,rfl⟩:=ysu gk (fun h=>by subst h;exact absurd HA.out (by simp [ccodec_Decode.l0]))
   have H:=HA.out;clear HA
   simp only [ccodec_Decode.l0] at H
   by_cases c14 : x24_1 < (l2_2.length : Int)
   ·
    rw [if_pos c14] at H
    have c14b0 : decide (x24_1 < (l2_2.length : Int))=true:=decide_eq_true c14
    clear c14
    replace H:=yif H;obtain ⟨c15,H⟩:=H
    have c15b0 : decide (0≤x24_1)=true:=decide_eq_true c15
    clear c15
    replace H:=yif H;obtain ⟨c16,H⟩:=H
    have c16b0 : decide (x24_1 < (l2_2.length : Int))=true:=decide_eq_true c16
    clear c16
    have H' := zm H
    clear H
    have p331 : 0≤(x24_1 : Int):=yt
    have q331 : x24_1 < (l2_2.length : Int):=yt
    obtain ⟨ad331,A331_0,c331_0,e331,hx331_0,hl331_0,hi331_0⟩:=at_L4 HR2_2.out x24_1 p331 q331
    cases e331
    replace hx331_0:=yhx HB hx331_0
    have HR331_0:=zm hi331_0;have HC331_0:=zm hl331_0;clear hi331_0 hl331_0
    replace p331:=eq_true p331
    replace q331:=eq_true q331
    go_wp2_with (first|((with_reducible refine gate_callee (f:=64) rfl ?_);refine goesL_ (some 29) rfl rfl Try.func64 (by kernel_rfl) rfl #[] rfl (by first|rfl|simp) ?_;(with_reducible refine (ccodec_bands.calls _).mono ?_);rintro e w9 ⟨B,rfl,hB9,hs9,hb⟩;refine ⟨_,rfl, ?_⟩;have n0_:=zm (Kd.S_below (by (with_reducible repeat (first|apply Kd.S_alloc|apply Kd.S_drewN|apply Kd.S_drew));exact Kd.S_elderB HO_331000.out B hB9) hb);have n1_:=ybb BK327 hb;have n2_:=ybb BK328 hb;have n3_:=ybb BK330 hb;have n4_:=ybs hb;have HBW:=zm (show w.heap.size≤B from Nat.le_trans (zE HB.out) hB9);clear HO_331000 BK327 BK328 BK330 HB;have HO_331000:=n0_;have BK327:=n1_;have BK328:=n2_;have BK330:=n3_;have HB:=n4_;clear n0_ n1_ n2_ n3_ n4_;have HS:=zm hs9;clear hs9 hB9 hb))
    go_loopg [12,32] k1 (fun kq v12 v32 w' => ∃ (x11_2 : List Int) (v11 : Value) (x12_2 : List Int) (x32_2 : Int),v32=.int .i64 x32_2∧Aside0 (ccodec_Decode.l1 kq x24_1 x11_2 x12_2 l2_2 (l2_2.length : Int) x24_1 (rd_L4 l2_2 x24_1) ((rd_L4 l2_2 x24_1).length : Int) x32_2 a2_0 l2_1 l2_2 x331000_1=some (r1,r2))∧Aside0 (kq≤k1)∧Aside0 (Kd.R (Kd.int .i64) 2 w' w.heap.size (fun k_=>some k_≠(v12 : Value).ownBlock) v11 x11_2)∧Aside0 (Kd.R (Kd.int .i64) 2 w' w.heap.size (fun k_=>some k_≠(v11 : Value).ownBlock) v12 x12_2)∧Aside0 (Kd.S (Kd.slice 2 (Kd.int .i64)) 53 w' w.heap.size (fun k_=>(some k_≠(v11 : Value).ownBlock∧k_≠B)∧some k_≠(v12 : Value).ownBlock) u331000 x331000_1)∧Aside0 (w'.heap[gb327]? = some (.cells #[.bool a2_0,(.slice A2_1 l2_1.length c2_1),(.slice (some ad331) l2_2.length c2_2)] 31 (0,0)))∧Aside0 (w'.heap[gb328]? = some (.cells #[(.slice none 0 0)] 24 (0,0)))∧Aside0 (w'.heap[gb330]? = some (.cells #[u331000] 24 (0,0)))∧Aside0 (w'.heap[B]? = some (.cells #[v11] 53 (0,0)))∧Aside0 (Below w.heap.size w w'))
    case atStart=>exact ⟨(([] : List Int)),(.slice none 0 0),(([] : List Int)),(0),yq,H',⟨Nat.le_refl _⟩,⟨yn⟩,⟨yn⟩,⟨yS0 HO_331000⟩,⟨yk BK327⟩,⟨yk BK328⟩,⟨yk BK330⟩,⟨yk HS⟩,⟨yhb⟩⟩
    case round =>
     clear H'
     try clear c14b0
     try clear c15b0
     try clear c16b0
     try clear hx331_0
     try clear p331
     try clear q331
     obtain ⟨x11_2,u11,x12_2,x32_2,rfl,HA,HK2,HO_11,HO_12,HO_331000,BK327,BK328,BK330,HS,HB⟩:=hrel
     obtain ⟨k2,rfl⟩:=ysu gk (fun h=>by subst h;exact absurd HA.out (by simp [ccodec_Decode.l1]))
     have H:=HA.out;clear HA
     simp only [ccodec_Decode.l1] at H
     by_cases c17 : x32_2 < ((rd_L4 l2_2 x24_1).length : Int)
     ·
      rw [if_pos c17] at H
      have c17b0 : decide (x32_2 < ((rd_L4 l2_2 x24_1).length : Int))=true:=decide_eq_true c17
      clear c17
      replace H:=yif H;obtain ⟨c18,H⟩:=H
      have c18b0 : decide (0≤x32_2)=true:=decide_eq_true c18
      clear c18
      replace H:=yif H;obtain ⟨c19,H⟩:=H
      have c19b0 : decide (x32_2 < ((rd_L4 l2_2 x24_1).length : Int))=true:=decide_eq_true c19
      clear c19
      replace H:=yif H;obtain ⟨c20,H⟩:=H
      have c20b0 : decide (0≤x24_1)=true:=decide_eq_true c20
      clear c20
      replace H:=yif H;obtain ⟨c21,H⟩:=H
      have c21b0 : decide (x24_1 < (l2_1.length : Int))=true:=decide_eq_true c21
      clear c21
      replace H:=yif H;obtain ⟨c22,H⟩:=H
      have c22b0 : decide (x32_2 < ((rd_L2 l2_1 x24_1).length : Int))=true:=decide_eq_true c22
      clear c22
      replace H:=ybi H;obtain ⟨t335,A23,H⟩:=H
      replace H:=yif H;obtain ⟨c24,H⟩:=H
      have LMc24:=zm c24;clear c24
      obtain ⟨y338,hy338⟩ : ∃ y_ : List Int,y_=(x12_2 ++ t335):=⟨_,rfl⟩
      replace H : (ccodec_Decode.l1 k2 x24_1 t335 y338 l2_2 (l2_2.length : Int) x24_1 (rd_L4 l2_2 x24_1) ((rd_L4 l2_2 x24_1).length : Int) (wrap64 (x32_2+1)) a2_0 l2_1 l2_2 x331000_1)=some (r1,r2):=yrw hy338 H
      have Ny338:=zm hy338;clear hy338
      have H' := zm H
      clear H
      have p332 : 0≤(x32_2 : Int):=yt
      have q332 : x32_2 < ((rd_L4 l2_2 x24_1).length : Int):=yt
      obtain ⟨ad332,A332_0,c332_0,e332,hx332_0,hl332_0,hi332_0⟩:=at_L2 HR331_0.out x32_2 p332 q332
      cases e332
      replace hx332_0:=yhx HB hx332_0
      have HR332_0:=zm hi332_0;have HC332_0:=zm hl332_0;clear hi332_0 hl332_0
      replace p332:=eq_true p332
      replace q332:=eq_true q332
      have:=NB327_328.out
      have:=NB328_327.out
      have:=NB327_330.out
      have:=NB330_327.out
      obtain ⟨_,_,_,_,_,_⟩:=yc3 BK327
      have p333 : 0≤(x24_1 : Int):=yt
      have q333 : x24_1 < (l2_1.length : Int):=yt
      obtain ⟨ad333,A333_0,c333_0,e333,hx333_0,hl333_0,hi333_0⟩:=at_L2 HR2_1.out x24_1 p333 q333
      cases e333
      replace hx333_0:=yhx HB hx333_0
      have HR333_0:=zm hi333_0;have HC333_0:=zm hl333_0;clear hi333_0 hl333_0
      replace p333:=eq_true p333
      replace q333:=eq_true q333
      have p334 : 0≤(x32_2 : Int):=yt
      have q334 : x32_2 < ((rd_L2 l2_1 x24_1).length : Int):=yt
      obtain ⟨ad334,e334,hx334_0⟩:=Kd.at_int HR333_0.out x32_2 p334 q334
      cases e334
      replace hx334_0:=yhx HB hx334_0
      replace p334:=eq_true p334
      replace q334:=eq_true q334
      obtain ⟨Ao28,co28,eo28⟩:=Kd.R_slice HO_11.out
      subst eo28
      go_wp2_with (first|(go_at_call 101;(with_reducible refine (ccodec_next.calls k2 B _ _ (rd_L2 (rd_L4 l2_2 x24_1) x32_2) (rd (rd_L2 l2_1 x24_1) x32_2) Ao28 co28 x11_2 t335 _ ?side1 HC332_0.out ?side3 ?side4 HS.out A23.out).mono ?_);(case side1=>exact ycb HR332_0);(case side3=>exact yce (Kd.R_reads' HO_11.out).2.2);(case side4=>exact (Kd.R_reads' HO_11.out).2.1);rintro e w29 ⟨v336,rfl,ho0,hkp,hb,hs9⟩;replace HO_331000:=zm (ccodec_Decode.S_el HO_331000.out (fun _ hk_=>hk_.1.2) hkp (Kd.R_base ho0));have HO337:=zm (Kd.R_lower (Kd.R_new' (Kd.R_new' ho0 (Kd.R_lt (yr HO_11))) (Kd.R_lt (yr HO_12))) (zE yhb));replace HO_11:=zm (ccodec_Decode.R_el (Kd.R_types HO_11.out HS.out (by decide)) hkp (Kd.R_base ho0));replace HO_12:=zm (ccodec_Decode.R_el (Kd.R_types HO_12.out HS.out (by decide)) hkp (Kd.R_base ho0));replace BK327:=zm (blk_kept (g:=gb327) BK327.out hkp (blk_ne BK327.out HS.out (by decide)));replace BK328:=zm (blk_kept (g:=gb328) BK328.out hkp (blk_ne BK328.out HS.out (by decide)));replace BK330:=zm (blk_kept (g:=gb330) BK330.out hkp (blk_ne BK330.out HS.out (by decide)));replace HB:=zm (Below.trans yhb (Below.mono hb HBW.out));(try clear hb);(try clear ho0);clear HS hkp;have HS:=zm hs9;clear hs9;obtain ⟨Ao31,co31,eo31⟩:=Kd.R_slice HO337.out;subst eo31)|((with_reducible refine gate_builtin (b:=.append) (xs := #[.tmp 37, .tmp 48]) rfl ?_);at_builtin;refine Kd.R_append_rows (Kd.int .i64) (w0:=w) w.heap.size rfl (.tmp 37) (.tmp 48) 53 2 (.int .i64 0) 8 rfl Try.underlying53 info2 rfl (by decide) (by omega) u12 x12_2 t335 _ _ _ (fun k_=>some k_≠(.slice Ao28 x11_2.length co28 : Value).ownBlock∧some k_≠(.slice Ao31 t335.length co31 : Value).ownBlock) (fun _=>False) rfl rfl ?aO ?aR (fun _ _ h=>h) (fun _ h=>h.elim) ?aF ?aB ?aS ?aL ?_;(case aR=>exact yce (Kd.R_reads' HO337.out).2.2);(case aB=>exact yhb);(case aF=>exact (fun k_ hk=>⟨Kd.fresh' (Kd.R_lt (yr HO_11)) k_ hk,Kd.fresh' (Kd.R_lt (yr HO337)) k_ hk⟩));(case aO=>exact (yr HO_12));(case aS=>exact (zE yhb));(case aL=>have:=LMc24.out;omega);intro v339 w30 ho hb hg hat;rw [← Ny338.out] at ho;have n0_:=zm (Kd.R_after (ok:=(fun k_=>some k_≠(.slice Ao31 t335.length co31 : Value).ownBlock)) (yR0 HO_11) hg hat);have n1_:=zm (Kd.S_after (ok:=(fun k_=>(some k_≠(.slice Ao28 x11_2.length co28 : Value).ownBlock∧k_≠B)∧some k_≠(.slice Ao31 t335.length co31 : Value).ownBlock)) (yS0 HO_331000) hg hat);have n2_:=zm (blk_grown (yk BK327) hg (zu HO_12.out BK327.out (by decide)));have n3_:=zm (blk_grown (yk BK328) hg (zu HO_12.out BK328.out (by decide)));have n4_:=zm (blk_grown (yk BK330) hg (zu HO_12.out BK330.out (by decide)));have n5_:=zm (Kd.R_after (ok:=(fun k_=>some k_≠(.slice Ao28 x11_2.length co28 : Value).ownBlock)) (yR0 HO337) hg hat);have n6_:=zm (hb);have n7_:=zm (ho);have n9_:=zm (blk_grown (g:=B) (yk HS) hg (zu HO_12.out HS.out (by decide)));clear HS;have HS:=n9_;clear n9_;clear HO_11;clear HO_331000;clear BK327;clear BK328;clear BK330;clear HO337;clear HB;clear HO_12;have HO_11:=n0_;have HO_331000:=n1_;have BK327:=n2_;have BK328:=n3_;have BK330:=n4_;have HO337:=n5_;have HB:=n6_;have HO340:=n7_;clear n0_ n1_ n2_ n3_ n4_ n5_ n6_ n7_;clear ho hb hg hat))
      go_roundg k2
      case measure=>exact yom2 HK1 HK2
      case rel=>exact ⟨(t335),(_),(y338),(wrap64 (x32_2+1)),yq,H',⟨yom2 HK1 HK2⟩,⟨yR0 HO337⟩,⟨yR0 HO340⟩,⟨yS0 HO_331000⟩,⟨yk BK327⟩,⟨yk BK328⟩,⟨yk BK330⟩,⟨yk HS⟩,⟨yhb⟩⟩
     ·
      rw [if_neg c17] at H
      have c17b0 : decide (x32_2 < ((rd_L4 l2_2 x24_1).length : Int))=false:=decide_eq_false c17
      clear c17
      replace H:=yif H;obtain ⟨c32,H⟩:=H
      have LMc32:=zm c32;clear c32
      obtain ⟨y341,hy341⟩ : ∃ y_ : List (List Int),y_=(x331000_1 ++ [x12_2]):=⟨_,rfl⟩
      replace H : (ccodec_Decode.l0 k2 l2_2 (l2_2.length : Int) (wrap64 (x24_1+1)) a2_0 l2_1 l2_2 y341)=some (r1,r2):=yrw hy341 H
      have Ny341:=zm hy341;clear hy341
      have H' := zm H
      clear H
      have:=NB330_327.out
      have:=NB327_330.out
      have:=NB330_328.out
      have:=NB328_330.out
      obtain ⟨_,_⟩:=yc1 BK330
      obtain ⟨Ao37,co37,eo37⟩:=Kd.R_slice HO_12.out
      subst eo37
      go_wp2_with (first|((with_reducible refine gate_builtin (b:=.append) (xs := #[.tmp 52, .tmp 54]) rfl ?_);at_builtin;refine Kd.S_append (Kd.slice 2 (Kd.int .i64)) (w0:=w) w.heap.size rfl (.tmp 52) (.tmp 54) 22 53 (.slice none 0 0) 24 rfl Try.underlying22 info53 rfl (by decide) (by omega) u331000 x331000_1 x12_2 [.slice Ao37 x12_2.length co37] (fun k_=>some k_≠(u11 : Value).ownBlock) (fun k_=>some k_=(.slice Ao37 x12_2.length co37 : Value).ownBlock) rfl rfl ?aP (fun k_ hk_=>((zG (ok' := fun k_=>((fun k_=>some k_≠(u11 : Value).ownBlock)) k_∧some k_≠(u331000 : Value).ownBlock) (Kd.R_apart' (HO_12.out) (Kd.S_typed HO_331000.out) (by decide)) (fun k_ hk=>⟨hk.1,hk.2⟩))).1 k_ hk_.symm) ?aF ?aO ?aB ?aS ?aL ?_;(case aP=>exact Kd.M_row (zG (Kd.R_tight rfl (zG (ok' := fun k_=>((fun k_=>some k_≠(u11 : Value).ownBlock)) k_∧some k_≠(u331000 : Value).ownBlock) (Kd.R_apart' (HO_12.out) (Kd.S_typed HO_331000.out) (by decide)) (fun k_ hk=>⟨hk.1,hk.2⟩))) (fun _ h_=>h_)));(case aB=>exact yhb);(case aF=>exact (fun k_ hk=>Kd.fresh' (Kd.R_lt (yr HO_11)) k_ hk));(case aO=>exact (yS0 HO_331000));(case aS=>exact (zE yhb));(case aL=>have:=LMc32.out;omega);intro v342 w36 ho hb hg hat;rw [← Ny341.out] at ho;replace HO_11:=zm (Kd.R_over' (yr HO_11) (Kd.S_typed (yr HO_331000)) (by decide) hg);replace BK327:=zm (blk_grown (yk BK327) hg (Kd.S_ne HO_331000.out BK327.out (by decide)));replace BK328:=zm (blk_grown (yk BK328) hg (Kd.S_ne HO_331000.out BK328.out (by decide)));replace BK330:=zm (blk_grown (yk BK330) hg (Kd.S_ne HO_331000.out BK330.out (by decide)));replace HB:=zm (hb);have HO343:=zm (ho);clear HO_331000;clear HO_12;clear ho hb hg hat;obtain ⟨Ao38,co38,eo38⟩:=Kd.S_slice HO343.out;subst eo38;obtain ⟨_,_⟩:=yc1 BK330))
      go_roundg k2
      case measure=>exact yom2 HK1 HK2
      case rel=>exact ⟨(wrap64 (x24_1+1)),(y341),(.slice Ao38 y341.length co38),yq,H',⟨yom2 HK1 HK2⟩,⟨yS1 HO343 BK330⟩,⟨yk BK327⟩,⟨yk BK328⟩,⟨ykp BK330⟩,⟨yhb⟩⟩
   ·
    rw [if_neg c14] at H
    have c14b0 : decide (x24_1 < (l2_2.length : Int))=false:=decide_eq_false c14
    clear c14
    simp only [Option.some.injEq,Prod.mk.injEq] at H
    obtain ⟨rfl,rfl⟩:=H
    have:=NB330_327.out
    have:=NB327_330.out
    have:=NB330_328.out
    have:=NB328_330.out
    obtain ⟨_,_⟩:=yc1 BK330
    obtain ⟨Ao43,co43,eo43⟩:=Kd.S_slice HO_331000.out
    subst eo43
    have:=NB328_327.out
    have:=NB327_328.out
    obtain ⟨_,_⟩:=yc1 BK328
    go_wp2
    refine bodyPost_ret (results_ct rfl _ _ gb328 24 #[.slice Ao43 x331000_1.length co43] (0,0) _ rfl (ykp BK328) Try.underlying24 rfl (by kernel_rfl)) rfl ?_
    exact ⟨_,ye,yS1 HO_331000 BK328,yhb⟩
 ·
  replace c5:=Bool.eq_false_iff.mpr c5
  subst c5
  rw [ynf] at H
  simp only [Option.some.injEq,Prod.mk.injEq] at H
  obtain ⟨rfl,rfl⟩:=H
  go_enter Try.func23,Try.ntmps23
  go_wp2_with (first|((with_reducible refine gate_dst (N:=5) rfl ?_);refine ybx 5 #[.bool a2_0, .slice A2_1 l2_1.length c2_1, .slice A2_2 l2_2.length c2_2] 31 ?_;intro gb327 hg w46 hbox hb;have BK327:=zm (hbox);have GW327:=ygw hg;have GE327:=ygw hg;replace HB:=ybs hb;clear hb hbox hg)|((with_reducible refine gate_dst (N:=6) rfl ?_);refine ybx 6 #[.slice none 0 0] 24 ?_;intro gb328 hg w47 hbox hb;have BK328:=zm (hbox);have GW328:=ygw hg;have GE328:=ygw hg;replace HB:=ybs hb;have NB327_328:=ynl BK327 hg;have NB328_327:=yng BK327 hg;replace BK327:=ybb BK327 hb;clear hb hbox hg;have:=NB327_328.out;have:=NB328_327.out;obtain ⟨_,_,_,_,_,_⟩:=yc3 BK327)|((with_reducible refine gate_callee (f:=17) rfl ?_);refine ygl 18 Try.func17 #[.int .i64 a0, .int .i64 a1, .agg #[.bool a2_0, .slice A2_1 l2_1.length c2_1, .slice A2_2 l2_2.length c2_2]] ?_;(with_reducible refine (cpack_Right.calls k a0 a1 a2_0 _ _ l2_1 _ _ l2_2 false _ ?side1 HC2_1.out ?side3 HC2_2.out A4.out).mono ?_);(case side1=>exact ycb HR2_1);(case side3=>exact ycb HR2_2);rintro e w50 ⟨rfl,hb⟩;refine ⟨_,rfl, ?_⟩;replace BK327:=ybb BK327 hb;replace BK328:=ybb BK328 hb;replace HB:=ybs hb;(try clear hb);obtain ⟨_,_⟩:=yc1 BK328))
  refine bodyPost_ret (results_ct rfl _ _ gb328 24 #[.slice none 0 0] (0,0) _ rfl (ykp BK328) Try.underlying24 rfl (by kernel_rfl)) rfl ?_
  exact ⟨_,ye,yn,yhb⟩
def psalteryref06_Same.l0 : Nat→List Int→List Int→Int→Option (Bool)
 | 0,_,_,_=>none
 | k+1,x0,x1,x5=>if x5 < (x0.length : Int) then (if 0≤x5 then (if x5 < (x1.length : Int) then (if (rd x0 x5)=(rd x1 x5) then (psalteryref06_Same.l0 k x0 x1 (wrap64 (x5+1))) else (some false)) else (none)) else (none)) else (some true)
def psalteryref06_Same.f (k : Nat) (l0 : List Int) (l1 : List Int) : Option (Bool):=if (l0.length : Int)=(l1.length : Int) then (psalteryref06_Same.l0 k l0 l1 0) else (some false)
theorem psalteryref06_Same.mono_l : ∀ k,(∀ y0 y1 y2,LeO (psalteryref06_Same.l0 k y0 y1 y2) (psalteryref06_Same.l0 (k+1) y0 y1 y2))
 | 0=>fun _ _ _ r h=>by simp [psalteryref06_Same.l0] at h
 | k+1=>by
  have ih0:=psalteryref06_Same.mono_l k
  ·
   intro y0 y1 y2
   unfold psalteryref06_Same.l0
   repeat' with_reducible first|apply ih0|apply yLr|apply yLn|apply yLi|apply yLb|intro _
theorem psalteryref06_Same.mono : ∀ a0 a1 k,LeO (psalteryref06_Same.f k a0 a1) (psalteryref06_Same.f (k+1) a0 a1):=by
 intro a0 a1 k
 have ih0:=psalteryref06_Same.mono_l k
 unfold psalteryref06_Same.f
 repeat' with_reducible first|apply ih0|apply yLr|apply yLn|apply yLi|apply yLb|intro _
set_option maxHeartbeats 8000000 in
set_option maxRecDepth 100000 in
theorem psalteryref06_Same.calls (k : Nat) (A0 : Option Addr) (c0 : Nat) (l0 : List Int) (A1 : Option Addr) (c1 : Nat) (l1 : List Int) (r : Bool) (w : World) (hr0 : Kd.C (Kd.int .i64) w A0 l0.length l0) (hc0 : l0.length≤c0) (hr1 : Kd.C (Kd.int .i64) w A1 l1.length l1) (hc1 : l1.length≤c1) (h : psalteryref06_Same.f k l0 l1=some r) :
  Calls Try.prog 35 #[.slice A0 l0.length c0, .slice A1 l1.length c1] w fun e w' => e=.returned (.bool r)∧Drawn0 w w' := by
 have HR0:=zm hr0;have HC0:=zm hc0;clear hr0 hc0;have HR1:=zm hr1;have HC1:=zm hc1;clear hr1 hc1
 have H : (if (l0.length : Int)=(l1.length : Int) then (psalteryref06_Same.l0 k l0 l1 0) else (some false))=some r:=h
 clear h
 by_cases c3 : (l0.length : Int)=(l1.length : Int)
 ·
  rw [if_pos c3] at H
  have c3b0 : ((l0.length : Int) == (l1.length : Int))=true:=beq_iff_eq.mpr c3
  have c3b1 : ((l0.length : Int) != (l1.length : Int))=false:=bne_eq_false_iff_eq.mpr c3
  have c3b2 : (l0.length == l1.length)=true:=by first|simpa using c3|(simp at c3 ⊢; omega)
  clear c3
  have H' := zm H
  clear H
  go_enter Try.func35,Try.ntmps35
  go_wp2
  repeat (go_quiet (fail);try go_wp2)
  go_loopg [5] k (fun kq v5 w' => ∃ (x5_1 : Int),v5=.int .i64 x5_1∧Aside0 (psalteryref06_Same.l0 kq l0 l1 x5_1=some r)∧Aside0 (kq≤k)∧Drawn0 w w')
  case atStart=>exact ⟨(0),yq,H',⟨Nat.le_refl _⟩,yd⟩
  case round =>
   clear H'
   try clear c1
   try clear c3b0
   try clear c3b1
   try clear c3b2
   obtain ⟨x5_1,rfl,HA,HK1,⟨m1,rfl⟩⟩:=hrel
   obtain ⟨k1,rfl⟩:=ysu gk (fun h=>by subst h;exact absurd HA.out (by simp [psalteryref06_Same.l0]))
   have H:=HA.out;clear HA
   simp only [psalteryref06_Same.l0] at H
   by_cases c4 : x5_1 < (l0.length : Int)
   ·
    rw [if_pos c4] at H
    have c4b0 : decide (x5_1 < (l0.length : Int))=true:=decide_eq_true c4
    clear c4
    replace H:=yif H;obtain ⟨c5,H⟩:=H
    have c5b0 : decide (0≤x5_1)=true:=decide_eq_true c5
    clear c5
    replace H:=yif H;obtain ⟨c6,H⟩:=H
    have c6b0 : decide (x5_1 < (l1.length : Int))=true:=decide_eq_true c6
    clear c6
    by_cases c7 : (rd l0 x5_1)=(rd l1 x5_1)
    ·
     rw [if_pos c7] at H
     have c7b0 : ((rd l0 x5_1) == (rd l1 x5_1))=true:=beq_iff_eq.mpr c7
     have c7b1 : ((rd l0 x5_1) != (rd l1 x5_1))=false:=bne_eq_false_iff_eq.mpr c7
     clear c7
     have H' := zm H
     clear H
     obtain ⟨ad344,e344,hx344_0,p344,q344⟩:=yai HR0 x5_1
     cases e344
     obtain ⟨ad345,e345,hx345_0,p345,q345⟩:=yai HR1 x5_1
     cases e345
     go_wp2
     repeat (go_quiet (fail);try go_wp2)
     go_roundg k1
     case measure=>exact yom1 HK1
     case rel=>exact ⟨(wrap64 (x5_1+1)),yq,H',⟨yom1 HK1⟩,yd⟩
    ·
     rw [if_neg c7] at H
     have c7b0 : ((rd l0 x5_1) == (rd l1 x5_1))=false:=beq_eq_false_iff_ne.mpr c7
     have c7b1 : ((rd l0 x5_1) != (rd l1 x5_1))=true:=bne_iff_ne.mpr c7
     obtain rfl:=Option.some.inj H
     obtain ⟨ad344,e344,hx344_0,p344,q344⟩:=yai HR0 x5_1
     cases e344
     obtain ⟨ad345,e345,hx345_0,p345,q345⟩:=yai HR1 x5_1
     cases e345
     go_wp2
     repeat (go_quiet (fail);try go_wp2)
     go_ret
     exact ⟨yq,yd⟩
   ·
    rw [if_neg c4] at H
    have c4b0 : decide (x5_1 < (l0.length : Int))=false:=decide_eq_false c4
    clear c4
    obtain rfl:=Option.some.inj H
    go_wp2
    repeat (go_quiet (fail);try go_wp2)
    go_ret
    exact ⟨yq,yd⟩
 ·
  rw [if_neg c3] at H
  have c3b0 : ((l0.length : Int) == (l1.length : Int))=false:=beq_eq_false_iff_ne.mpr c3
  have c3b1 : ((l0.length : Int) != (l1.length : Int))=true:=bne_iff_ne.mpr c3
  have c3b2 : (l0.length == l1.length)=false:=by first|simpa using c3|(simp at c3 ⊢; omega)
  obtain rfl:=Option.some.inj H
  go_enter Try.func35,Try.ntmps35
  go_wp2
  repeat (go_quiet (fail);try go_wp2)
  go_ret
  exact ⟨yq,yd⟩
def psalterylaw23_knows.f (k : Nat)  : Option (Bool):=(some (List.replicate 16 0 : List Int)).bind fun y346=>(if 0 < (y346.length : Int) then ((ccodec_Encode.f k 60 1 (([(y346.set (0 : Int).toNat 100)] : List (List Int))) true).bind fun bt353=>((ccodec_Decode.f k 60 1 bt353.1 bt353.2.1 bt353.2.2.1).bind fun bt362=>(if bt353.2.2.2=0 then (if bt353.1=true then (if (bt353.2.1.length : Int)=1 then (if 0 < (bt353.2.1.length : Int) then ((psalteryref06_Same.f k (rd_L2 bt353.2.1 0) (([14,0,0,0,0] : List Int))).bind fun t371=>(if t371=true then (if bt362.2=0 then (if (bt362.1.length : Int)=1 then (if 0 < (bt362.1.length : Int) then (if ((rd_L1 bt362.1 0).length : Int)=16 then (if 0 < ((rd_L1 bt362.1 0).length : Int) then (if (rd (rd_L1 bt362.1 0) 0)=90 then (if 1 < ((rd_L1 bt362.1 0).length : Int) then (if (rd (rd_L1 bt362.1 0) 1)=0 then ((ccodec_Right.f k 60 1 bt362.1).bind fun t377=>(some t377)) else (none)) else (none)) else (none)) else (none)) else (none)) else (none)) else (none)) else (none)) else (none))) else (none)) else (none)) else (none)) else (none)))) else (none))
theorem psalterylaw23_knows.mono : ∀ k,LeO (psalterylaw23_knows.f k ) (psalterylaw23_knows.f (k+1) ):=by
 intro  k
 unfold psalterylaw23_knows.f
 repeat' with_reducible first|apply ccodec_Decode.mono|apply ccodec_Encode.mono|apply ccodec_Right.mono|apply psalteryref06_Same.mono|apply yLr|apply yLn|apply yLi|apply yLb|intro _
set_option maxHeartbeats 8000000 in
set_option maxRecDepth 100000 in
theorem psalterylaw23_knows.calls (k : Nat)  (r : Bool) (w : World) (h : psalterylaw23_knows.f k  = some r) :
  Calls Try.prog 12 #[] w fun e w' => e=.returned (.bool r)∧Below w.heap.size w w' := by
 have hu24:=Try.underlying24;have hu31:=Try.underlying31;have HB:=zm (Below.refl w.heap.size w)
 have H : ((some (List.replicate 16 0 : List Int)).bind fun y346=>(if 0 < (y346.length : Int) then ((ccodec_Encode.f k 60 1 (([(y346.set (0 : Int).toNat 100)] : List (List Int))) true).bind fun bt353=>((ccodec_Decode.f k 60 1 bt353.1 bt353.2.1 bt353.2.2.1).bind fun bt362=>(if bt353.2.2.2=0 then (if bt353.1=true then (if (bt353.2.1.length : Int)=1 then (if 0 < (bt353.2.1.length : Int) then ((psalteryref06_Same.f k (rd_L2 bt353.2.1 0) (([14,0,0,0,0] : List Int))).bind fun t371=>(if t371=true then (if bt362.2=0 then (if (bt362.1.length : Int)=1 then (if 0 < (bt362.1.length : Int) then (if ((rd_L1 bt362.1 0).length : Int)=16 then (if 0 < ((rd_L1 bt362.1 0).length : Int) then (if (rd (rd_L1 bt362.1 0) 0)=90 then (if 1 < ((rd_L1 bt362.1 0).length : Int) then (if (rd (rd_L1 bt362.1 0) 1)=0 then ((ccodec_Right.f k 60 1 bt362.1).bind fun t377=>(some t377)) else (none)) else (none)) else (none)) else (none)) else (none)) else (none)) else (none)) else (none)) else (none))) else (none)) else (none)) else (none)) else (none)))) else (none)))=some r:=h
 clear h
 obtain ⟨y346,hy346⟩ : ∃ y_ : List Int,y_=(List.replicate 16 0):=⟨_,rfl⟩
 replace H : (if 0 < (y346.length : Int) then ((ccodec_Encode.f k 60 1 (([(y346.set (0 : Int).toNat 100)] : List (List Int))) true).bind fun bt353=>((ccodec_Decode.f k 60 1 bt353.1 bt353.2.1 bt353.2.2.1).bind fun bt362=>(if bt353.2.2.2=0 then (if bt353.1=true then (if (bt353.2.1.length : Int)=1 then (if 0 < (bt353.2.1.length : Int) then ((psalteryref06_Same.f k (rd_L2 bt353.2.1 0) (([14,0,0,0,0] : List Int))).bind fun t371=>(if t371=true then (if bt362.2=0 then (if (bt362.1.length : Int)=1 then (if 0 < (bt362.1.length : Int) then (if ((rd_L1 bt362.1 0).length : Int)=16 then (if 0 < ((rd_L1 bt362.1 0).length : Int) then (if (rd (rd_L1 bt362.1 0) 0)=90 then (if 1 < ((rd_L1 bt362.1 0).length : Int) then (if (rd (rd_L1 bt362.1 0) 1)=0 then ((ccodec_Right.f k 60 1 bt362.1).bind fun t377=>(some t377)) else (none)) else (none)) else (none)) else (none)) else (none)) else (none)) else (none)) else (none)) else (none))) else (none)) else (none)) else (none)) else (none)))) else (none))=some r:=yrw hy346 H
 have Ny346:=zm hy346;clear hy346
 replace H:=yif H;obtain ⟨c1,H⟩:=H
 have c1b0 : decide (0 < (y346.length : Int))=true:=decide_eq_true c1
 have c1b1 : decide (0 < y346.length)=true:=decide_eq_true (by omega)
 clear c1
 obtain ⟨y349,hy349⟩ : ∃ y_ : List Int,y_=(y346.set (0 : Int).toNat 100):=⟨_,rfl⟩
 replace H : ((ccodec_Encode.f k 60 1 (([y349] : List (List Int))) true).bind fun bt353=>((ccodec_Decode.f k 60 1 bt353.1 bt353.2.1 bt353.2.2.1).bind fun bt362=>(if bt353.2.2.2=0 then (if bt353.1=true then (if (bt353.2.1.length : Int)=1 then (if 0 < (bt353.2.1.length : Int) then ((psalteryref06_Same.f k (rd_L2 bt353.2.1 0) (([14,0,0,0,0] : List Int))).bind fun t371=>(if t371=true then (if bt362.2=0 then (if (bt362.1.length : Int)=1 then (if 0 < (bt362.1.length : Int) then (if ((rd_L1 bt362.1 0).length : Int)=16 then (if 0 < ((rd_L1 bt362.1 0).length : Int) then (if (rd (rd_L1 bt362.1 0) 0)=90 then (if 1 < ((rd_L1 bt362.1 0).length : Int) then (if (rd (rd_L1 bt362.1 0) 1)=0 then ((ccodec_Right.f k 60 1 bt362.1).bind fun t377=>(some t377)) else (none)) else (none)) else (none)) else (none)) else (none)) else (none)) else (none)) else (none)) else (none))) else (none)) else (none)) else (none)) else (none))))=some r:=yrw hy349 H
 have Ny349:=zm hy349;clear hy349
 obtain ⟨y350,hy350⟩ : ∃ y_ : List (List Int),y_=(([y349] : List (List Int))):=⟨_,rfl⟩
 replace H : ((ccodec_Encode.f k 60 1 y350 true).bind fun bt353=>((ccodec_Decode.f k 60 1 bt353.1 bt353.2.1 bt353.2.2.1).bind fun bt362=>(if bt353.2.2.2=0 then (if bt353.1=true then (if (bt353.2.1.length : Int)=1 then (if 0 < (bt353.2.1.length : Int) then ((psalteryref06_Same.f k (rd_L2 bt353.2.1 0) (([14,0,0,0,0] : List Int))).bind fun t371=>(if t371=true then (if bt362.2=0 then (if (bt362.1.length : Int)=1 then (if 0 < (bt362.1.length : Int) then (if ((rd_L1 bt362.1 0).length : Int)=16 then (if 0 < ((rd_L1 bt362.1 0).length : Int) then (if (rd (rd_L1 bt362.1 0) 0)=90 then (if 1 < ((rd_L1 bt362.1 0).length : Int) then (if (rd (rd_L1 bt362.1 0) 1)=0 then ((ccodec_Right.f k 60 1 bt362.1).bind fun t377=>(some t377)) else (none)) else (none)) else (none)) else (none)) else (none)) else (none)) else (none)) else (none)) else (none))) else (none)) else (none)) else (none)) else (none))))=some r:=yrw hy350 H
 have Ny350:=zm hy350;clear hy350
 replace H:=ybi H;obtain ⟨⟨t353,t354,t357,t360⟩,A3,H⟩:=H
 try dsimp only at H
 replace H:=ybi H;obtain ⟨⟨t362,t365⟩,A4,H⟩:=H
 try dsimp only at H
 replace H:=yif H;obtain ⟨c5,H⟩:=H
 have c5b0 : (t360 == 0)=true:=beq_iff_eq.mpr c5
 have c5b1 : (t360 != 0)=false:=bne_eq_false_iff_eq.mpr c5
 clear c5
 replace H:=yif H;obtain ⟨c6,H⟩:=H
 subst c6
 replace H:=yif H;obtain ⟨c7,H⟩:=H
 have c7b0 : ((t354.length : Int) == 1)=true:=beq_iff_eq.mpr c7
 have c7b1 : ((t354.length : Int) != 1)=false:=bne_eq_false_iff_eq.mpr c7
 clear c7
 replace H:=yif H;obtain ⟨c8,H⟩:=H
 have c8b0 : decide (0 < (t354.length : Int))=true:=decide_eq_true c8
 have c8b1 : decide (0 < t354.length)=true:=decide_eq_true (by omega)
 clear c8
 obtain ⟨y368,hy368⟩ : ∃ y_ : List Int,y_=(([14,0,0,0,0] : List Int)):=⟨_,rfl⟩
 replace H : ((psalteryref06_Same.f k (rd_L2 t354 0) y368).bind fun t371=>(if t371=true then (if t365=0 then (if (t362.length : Int)=1 then (if 0 < (t362.length : Int) then (if ((rd_L1 t362 0).length : Int)=16 then (if 0 < ((rd_L1 t362 0).length : Int) then (if (rd (rd_L1 t362 0) 0)=90 then (if 1 < ((rd_L1 t362 0).length : Int) then (if (rd (rd_L1 t362 0) 1)=0 then ((ccodec_Right.f k 60 1 t362).bind fun t377=>(some t377)) else (none)) else (none)) else (none)) else (none)) else (none)) else (none)) else (none)) else (none)) else (none)))=some r:=yrw hy368 H
 have Ny368:=zm hy368;clear hy368
 replace H:=ybi H;obtain ⟨t371,A9,H⟩:=H
 replace H:=yif H;obtain ⟨c10,H⟩:=H
 subst c10
 replace H:=yif H;obtain ⟨c11,H⟩:=H
 have c11b0 : (t365 == 0)=true:=beq_iff_eq.mpr c11
 have c11b1 : (t365 != 0)=false:=bne_eq_false_iff_eq.mpr c11
 clear c11
 replace H:=yif H;obtain ⟨c12,H⟩:=H
 have c12b0 : ((t362.length : Int) == 1)=true:=beq_iff_eq.mpr c12
 have c12b1 : ((t362.length : Int) != 1)=false:=bne_eq_false_iff_eq.mpr c12
 clear c12
 replace H:=yif H;obtain ⟨c13,H⟩:=H
 have c13b0 : decide (0 < (t362.length : Int))=true:=decide_eq_true c13
 have c13b1 : decide (0 < t362.length)=true:=decide_eq_true (by omega)
 clear c13
 replace H:=yif H;obtain ⟨c14,H⟩:=H
 have c14b0 : (((rd_L1 t362 0).length : Int) == 16)=true:=beq_iff_eq.mpr c14
 have c14b1 : (((rd_L1 t362 0).length : Int) != 16)=false:=bne_eq_false_iff_eq.mpr c14
 clear c14
 replace H:=yif H;obtain ⟨c15,H⟩:=H
 have c15b0 : decide (0 < ((rd_L1 t362 0).length : Int))=true:=decide_eq_true c15
 have c15b1 : decide (0 < (rd_L1 t362 0).length)=true:=decide_eq_true (by omega)
 clear c15
 replace H:=yif H;obtain ⟨c16,H⟩:=H
 have c16b0 : ((rd (rd_L1 t362 0) 0) == 90)=true:=beq_iff_eq.mpr c16
 have c16b1 : ((rd (rd_L1 t362 0) 0) != 90)=false:=bne_eq_false_iff_eq.mpr c16
 clear c16
 replace H:=yif H;obtain ⟨c17,H⟩:=H
 have c17b0 : decide (1 < ((rd_L1 t362 0).length : Int))=true:=decide_eq_true c17
 have c17b1 : decide (1 < (rd_L1 t362 0).length)=true:=decide_eq_true (by omega)
 clear c17
 replace H:=yif H;obtain ⟨c18,H⟩:=H
 have c18b0 : ((rd (rd_L1 t362 0) 1) == 0)=true:=beq_iff_eq.mpr c18
 have c18b1 : ((rd (rd_L1 t362 0) 1) != 0)=false:=bne_eq_false_iff_eq.mpr c18
 clear c18
 replace H:=ybi H;obtain ⟨t377,A19,H⟩:=H
 obtain rfl:=Option.some.inj H
 go_enter Try.func12,Try.ntmps12
 go_wp2_with (first|((with_reducible refine gate_dst (N:=6) rfl ?_);(try (refine gate_guard (by rfl) ?_;dsimp only));refine Kd.R_make (Kd.int .i64) _ 2 rfl (N:=6) rfl 53 _ _ rfl 16 rfl rfl Try.underlying53 (.int .i64 0) 8 info2 rfl (by decide) (by omega) 0 (ok:=fun _=>True) (okp:=fun _=>True) rfl (fun _ hk=>hk) trivial (by omega) (by omega) (Below.refl _ _) (Nat.le_refl _) ?_;intro v347 w20 ho21 hb hg_ hnew_;clear hg_ hnew_;(first|rw [← Ny346.out] at ho21|(simp only [Int.reduceToNat] at ho21;rw [← Ny346.out] at ho21));have HO348:=zm (Kd.R_lower ho21 (zE yhb));replace HB:=ybs hb;clear hb ho21;have p2 : 0≤(0 : Int):=(by omega);have q2 : (0 : Int) < ((y346.length : Int) : Int):=yt;have qi2 : (0 < y346.length)=True:=eq_true (by omega);obtain ⟨go2,co2,eo2,gb2,gl2,cl2,HG2⟩:=Kd.R_form HO348.out (by omega);(first|cases eo2|(injection eo2 with ea_ en_ ec_;(first|subst ea_|(injection ea_ with ea_;subst ea_));subst ec_;clear en_));have GB2:=zm gb2;have GG2:=zm HG2;clear gb2 gl2 HG2;obtain ⟨hx2_0,hf2_0⟩:=Kd.R_celln 0 HO348.out (0 : Int) p2 q2;(try rw [show ((0 : Int)).toNat=0 from rfl] at hx2_0);(try simp only [Nat.reduceMul,Nat.zero_mul,Nat.zero_add,Nat.reduceAdd] at hx2_0);(try rw [show ((0 : Int)).toNat=0 from rfl] at hf2_0);(try simp only [Nat.reduceMul,Nat.zero_mul,Nat.zero_add,Nat.reduceAdd] at hf2_0);replace p2:=eq_true p2;replace q2:=eq_true q2;obtain ⟨hy22_,hz22_⟩:=Kd.R_celln 0 HO348.out (0 : Int) (by omega) (yt);(try simp only [Int.reduceToNat,Int.toNat_zero,Int.toNat_ofNat,Nat.reduceMul,Nat.zero_mul,Nat.zero_add] at hy22_ hz22_);(try rw [show ((0 : Int)).toNat=0 from rfl] at hy22_);(try rw [show ((0 : Int)).toNat=0 from rfl] at hz22_);have HP22:=Kd.R_putg HO348.out (0 : Int) 100)|((with_reducible refine gate_store (t:=2) (p:=8) rfl ?_);refine store_event (t:=2) (p:=8) (v := ?vo_w23) (w1:=(w20.setCell ⟨go2,(0 : Int).toNat,none⟩ (.int .i64 100))) ?hg ?ho ?hn ?hr ?_;(case ho=>rfl);(case hg=>rfl);(case hn=>rfl);(case hr=>first|(go_simp;done)|(go_simp;rfl));intro w23 hw;have hg : w20.grownBy w23 (some go2):=(by rw [hw];exact HP22.2);have hp_ : Kd.R (Kd.int .i64) 2 w23 w.heap.size (fun _=>True) (.slice (some ⟨go2,0,none⟩) y346.length co2) y349:=(by rw [hw,Ny349.out];exact HP22.1);clear HP22;replace HO348:=zm (hp_);replace HB:=zm ((by rw [hw];exact zk (HB.out) GB2.out : Below w.heap.size w w23));clear hg hw hp_)|((with_reducible refine gate_dst (N:=11) rfl ?_);(try (refine gate_guard (by rfl) ?_;dsimp only));refine Kd.N_lit (Kd.slice 2 (Kd.int .i64)) _ 53 ?hg (N' := 11) ?hd (xs:=([y349] : List (List Int))) (inner := [.slice (some ⟨go2,0,none⟩) y346.length co2]) (ok:=(fun _=>True)) (okp:=(fun _=>True)) ?hr ?hpx (fun _ hk=>hk) ((show ∀ k_,w23.heap.size≤k_→(fun _=>True) k_ from fun k_ hk=>trivial) _ (Nat.le_refl _)) (Below.refl _ _) (Nat.le_refl _) (by simp) ?_;(case hd=>rfl);(case hg=>rfl);(case hr=>first|(go_simp;done)|(go_simp;rfl));(case hpx=>exact (Reps.one (show Kd.FK (Kd.slice 2 (Kd.int .i64)) _ _ y349 [.slice (some ⟨go2,0,none⟩) y346.length co2] from (by have e_:=(Kd.R_reads' HO348.out).1;have l_:=(Kd.R_reads' HO348.out).2.1;have f_:=Kd.R_F (zG (ok' := (fun _=>True)) HO348.out (fun k_ hk=>trivial));rw [e_] at l_ f_ ⊢; exact Kd.FK_slice_mk l_ f_)) (Reps.none _ _)));intro v351 w24 ho25 hb hg_ hnew_;clear hg_ hnew_;(first|rw [← Ny350.out] at ho25|(simp only [Int.reduceToNat] at ho25;rw [← Ny350.out] at ho25));have HO352:=zm (Kd.N_lower ho25 (zE yhb));replace HB:=ybs hb;clear HO348;clear hb ho25;obtain ⟨Ao26,co26,eo26⟩:=Kd.N_slice HO352.out;subst eo26)|((with_reducible refine gate_callee (f:=13) rfl ?_);refine ygl 13 Try.func13 #[.int .i64 60, .int .i64 1, .agg #[.slice Ao26 y350.length co26], .bool true] ?_;(with_reducible refine (ccodec_Encode.calls k 60 1 _ _ y350 true true t354 t357 t360 _ ?side1 ?side2 A3.out).mono ?_);(case side1=>exact yce (Kd.N_reads' HO352.out).2.2);(case side2=>exact (Kd.N_reads' HO352.out).2.1);rintro e w27 ⟨v355,v358,rfl,ho0,ho1,hb⟩;refine ⟨_,rfl, ?_⟩;have HO356:=zm (Kd.N_lower (Kd.N_mono (ok' := fun k_=>some k_≠(v358 : Value).ownBlock∧some k_≠(.slice Ao26 y350.length co26 : Value).ownBlock) ho0 (fun k_ hk_=>⟨hk_.2,(Kd.fresh' (Kd.N_lt (yr HO352)) k_ hk_.1)⟩)) (zE yhb));have HO359:=zm (Kd.N_lower (Kd.N_mono (ok' := fun k_=>some k_≠(v355 : Value).ownBlock∧some k_≠(.slice Ao26 y350.length co26 : Value).ownBlock) ho1 (fun k_ hk_=>⟨hk_.2,(Kd.fresh' (Kd.N_lt (yr HO352)) k_ hk_.1)⟩)) (zE yhb));replace HO352:=zm (Kd.N_mono (Kd.N_told (Kd.N_told (Kd.N_old (yr HO352) hb) (Kd.N_base ho0)) (Kd.N_base ho1)) (fun _ h_=>h_.1));replace HB:=ybs hb;(try clear hb);(try clear ho0);(try clear ho1))|((with_reducible refine gate_dst (N:=2) rfl ?_);(try (refine gate_guard (by rfl) ?_;dsimp only));refine ybx 2 #[.bool false, .slice none 0 0, .slice none 0 0] 31 ?_;intro gb361 hg w28 hbox hb;replace HO352:=zm (Kd.N_below (Kd.N_elderB (yr HO352) gb361 (Nat.le_of_eq hg.symm)) hb);replace HO356:=zm (Kd.N_below (Kd.N_elderB (yr HO356) gb361 (Nat.le_of_eq hg.symm)) hb);replace HO359:=zm (Kd.N_below (Kd.N_elderB (yr HO359) gb361 (Nat.le_of_eq hg.symm)) hb);have BK361:=zm (hbox);have GW361:=ygw hg;have GE361:=ygw hg;replace HB:=ybs hb;clear hb hbox hg;obtain ⟨_,_,_,_,_,_⟩:=yc3 BK361;obtain ⟨Ao30,co30,eo30⟩:=Kd.N_slice HO356.out;subst eo30;obtain ⟨Ao31,co31,eo31⟩:=Kd.N_slice HO359.out;subst eo31)|((with_reducible refine gate_callee (f:=23) rfl ?_);refine ygl 18 Try.func23 #[.int .i64 60, .int .i64 1, .agg #[.bool true, .slice Ao30 t354.length co30, .slice Ao31 t357.length co31]] ?_;(with_reducible refine (ccodec_Decode.calls k 60 1 true _ _ t354 _ _ t357 t362 t365 _ ?side1 ?side2 ?side3 ?side4 A4.out).mono ?_);(case side1=>refine (Kd.N_reads' (e:=55) (base:=w.heap.size) (ok:=fun k_=>((some k_≠(.slice Ao31 t357.length co31 : Value).ownBlock∧some k_≠(.slice Ao26 y350.length co26 : Value).ownBlock)∧k_≠gb361)) (n:=t354.length) (c:=co30) ?_).2.2;exact (yN0 HO356));(case side2=>exact (Kd.N_reads' HO356.out).2.1);(case side3=>refine (Kd.N_reads' (e:=25) (base:=w.heap.size) (ok:=fun k_=>((some k_≠(.slice Ao30 t354.length co30 : Value).ownBlock∧some k_≠(.slice Ao26 y350.length co26 : Value).ownBlock)∧k_≠gb361)) (n:=t357.length) (c:=co31) ?_).2.2;exact (yN0 HO359));(case side4=>exact (Kd.N_reads' HO359.out).2.1);rintro e w32 ⟨v363,rfl,ho0,hb⟩;refine ⟨_,rfl, ?_⟩;have HO364:=zm (Kd.N_lower (Kd.N_mono (ok' := fun k_=>some k_≠(.slice Ao26 y350.length co26 : Value).ownBlock∧some k_≠(.slice Ao30 t354.length co30 : Value).ownBlock∧some k_≠(.slice Ao31 t357.length co31 : Value).ownBlock∧k_≠gb361) (Kd.S_N (Kd.S_bound ho0)) (fun k_ hk_=>⟨(Kd.fresh' (Kd.N_lt (yN0 HO352)) k_ hk_.2.1),(Kd.fresh' (Kd.N_lt (yN0 HO356)) k_ hk_.2.1),(Kd.fresh' (Kd.N_lt (yN0 HO359)) k_ hk_.2.1),(Kd.freshB (g:=gb361) (o:=.cells #[.bool true, .slice Ao30 t354.length co30, .slice Ao31 t357.length co31] 31 (0,0)) (ykp BK361) k_ hk_.2.1)⟩)) (zE yhb));replace HO352:=zm (Kd.N_elder' (yN0 HO352) (Kd.S_base ho0) hb);replace HO356:=zm (Kd.N_elder' (yN0 HO356) (Kd.S_base ho0) hb);replace HO359:=zm (Kd.N_elder' (yN0 HO359) (Kd.S_base ho0) hb);replace BK361:=zm (zF (g:=gb361) (o:=.cells #[.bool true, .slice Ao30 t354.length co30, .slice Ao31 t357.length co31] 31 (0,0)) (ykp BK361) hb);replace HB:=ybs hb;(try clear hb);(try clear ho0))|((with_reducible refine gate_dst (N:=4) rfl ?_);(try (refine gate_guard (by rfl) ?_;dsimp only));refine ybx 4 #[.slice none 0 0] 24 ?_;intro gb366 hg w33 hbox hb;replace HO352:=zm (Kd.N_below (Kd.N_elderB (yr HO352) gb366 (Nat.le_of_eq hg.symm)) hb);replace HO356:=zm (Kd.N_below (Kd.N_elderB (yr HO356) gb366 (Nat.le_of_eq hg.symm)) hb);replace HO359:=zm (Kd.N_below (Kd.N_elderB (yr HO359) gb366 (Nat.le_of_eq hg.symm)) hb);replace HO364:=zm (Kd.N_below (Kd.N_elderB (yr HO364) gb366 (Nat.le_of_eq hg.symm)) hb);have BK366:=zm (hbox);have GW366:=ygw hg;have GE366:=ygw hg;replace HB:=ybs hb;have NB361_366:=ynl BK361 hg;have NB366_361:=yng BK361 hg;replace BK361:=ybb BK361 hb;clear hb hbox hg;obtain ⟨Ao34,co34,eo34⟩:=Kd.N_slice HO364.out;subst eo34;have:=NB366_361.out;have:=NB361_366.out;obtain ⟨_,_⟩:=yc1 BK366)|((with_reducible refine gate_store (t:=24) (p:=4) rfl ?_);refine store_event (t:=24) (p:=4) (v := ?vo_w37) (w1:=(w33.setCell ⟨gb366,0,none⟩ (.slice Ao34 t362.length co34))) ?hg ?ho ?hn ?hr ?_;(case ho=>rfl);(case hg=>rfl);(case hn=>rfl);(case hr=>first|(go_simp;done)|(go_simp;rfl));intro w37 hw;replace HO352 : Aside0 (Kd.N (Kd.slice 2 (Kd.int .i64)) 53 w37 w.heap.size (fun k_=>some k_≠(.slice Ao30 t354.length co30 : Value).ownBlock∧some k_≠(.slice Ao31 t357.length co31 : Value).ownBlock∧some k_≠(.slice Ao34 t362.length co34 : Value).ownBlock∧k_≠gb361∧k_≠gb366) (.slice Ao26 y350.length co26) y350):=⟨(by rw [hw];exact (yN0 HO352))⟩;replace HO356 : Aside0 (Kd.N (Kd.slice 3 (Kd.int .i64)) 55 w37 w.heap.size (fun k_=>some k_≠(.slice Ao26 y350.length co26 : Value).ownBlock∧some k_≠(.slice Ao31 t357.length co31 : Value).ownBlock∧some k_≠(.slice Ao34 t362.length co34 : Value).ownBlock∧k_≠gb361∧k_≠gb366) (.slice Ao30 t354.length co30) t354):=⟨(by rw [hw];exact (yN0 HO356))⟩;replace HO359 : Aside0 (Kd.N (Kd.slice 55 (Kd.slice 3 (Kd.int .i64))) 25 w37 w.heap.size (fun k_=>some k_≠(.slice Ao26 y350.length co26 : Value).ownBlock∧some k_≠(.slice Ao30 t354.length co30 : Value).ownBlock∧some k_≠(.slice Ao34 t362.length co34 : Value).ownBlock∧k_≠gb361∧k_≠gb366) (.slice Ao31 t357.length co31) t357):=⟨(by rw [hw];exact (yN0 HO359))⟩;replace HO364 : Aside0 (Kd.N (Kd.slice 2 (Kd.int .i64)) 53 w37 w.heap.size (fun k_=>some k_≠(.slice Ao26 y350.length co26 : Value).ownBlock∧some k_≠(.slice Ao30 t354.length co30 : Value).ownBlock∧some k_≠(.slice Ao31 t357.length co31 : Value).ownBlock∧k_≠gb361∧k_≠gb366) (.slice Ao34 t362.length co34) t362):=⟨(by rw [hw];exact (yN0 HO364))⟩;replace BK361 : Aside0 (w37.heap[gb361]? = some (.cells #[.bool true, .slice Ao30 t354.length co30, .slice Ao31 t357.length co31] 31 (0,0))):=⟨(by rw [hw];exact (yk BK361))⟩;replace BK366 : Aside0 (w37.heap[gb366]? = some (.cells #[.slice Ao34 t362.length co34] 24 (0,0))):=⟨(by rw [hw];exact (ykp BK366))⟩;replace HB : Aside0 (Below w.heap.size w w37):=⟨(by rw [hw];exact yhb)⟩;clear hw;obtain ⟨_,_,_,_,_,_⟩:=yc3 BK361;have p367 : 0≤(0 : Int):=(by omega);have q367 : 0 < (t354.length : Int):=yt;obtain ⟨ad367,A367_0,c367_0,e367,hx367_0,hl367_0,hi367_0⟩:=at_L2 (Kd.N_reads' HO356.out).2.2 0 p367 q367;cases e367;obtain ⟨ce367,hce367,hMe367,hcc367⟩:=Kd.N_get HO356.out [] 0 p367 (by first|exact q367|exact yt|(have e_:=(Kd.N_reads' HO356.out).1;omega));obtain ⟨ua367_0,uc367_0,rfl,ul367_0,ge367_0⟩:=Kd.FK_slice_open hMe367;have hv367_0:=hcc367 0 _ rfl;rw [Nat.add_zero,show ((Kd.slice 3 (Kd.int .i64))).sz=1 from rfl,Nat.mul_one] at hv367_0;replace hv367_0:=Option.some.inj (hv367_0.symm.trans hx367_0);injection hv367_0 with hva_ hvn_ hvc_;rw [hva_] at ge367_0;rw [hvc_] at ul367_0;have HL367_0:=zm (show Kd.V (Kd.int .i64) 3 _ w.heap.size _ _ (rd_L2 t354 0) from Kd.V_mk ul367_0 ge367_0);clear hva_ hvn_ hvc_ ge367_0 ul367_0;clear hcc367 hce367;have qi367 : (0 < t354.length)=True:=eq_true (by omega);(try rw [show ((0 : Int)).toNat=0 from rfl] at hx367_0);(try rw [Addr.add_zero'] at hx367_0);have HR367_0:=zm hi367_0;have HC367_0:=zm hl367_0;clear hi367_0 hl367_0;replace p367:=eq_true p367;replace q367:=eq_true q367)|((with_reducible refine gate_dst (N:=38) rfl ?_);(try (refine gate_guard (by rfl) ?_;dsimp only));refine Kd.R_lit (Kd.int .i64) _ 3 ?hg (N:=38) ?hd (xs:=([14,0,0,0,0] : List Int)) (inner := [.int .i64 14, .int .i64 0, .int .i64 0, .int .i64 0, .int .i64 0]) (ok:=fun _=>True) (okp:=fun _=>True) ?hr ?hpx (fun _ hk=>hk) trivial (Below.refl _ _) (Nat.le_refl _) (by simp) ?_;(case hd=>rfl);(case hg=>rfl);(case hr=>first|(go_simp;done)|(go_simp;rfl));(case hpx=>exact (Reps.one (show Kd.M (Kd.int .i64) _ _ _ 14 [.int .i64 14] from rfl) (Reps.one (show Kd.M (Kd.int .i64) _ _ _ 0 [.int .i64 0] from rfl) (Reps.one (show Kd.M (Kd.int .i64) _ _ _ 0 [.int .i64 0] from rfl) (Reps.one (show Kd.M (Kd.int .i64) _ _ _ 0 [.int .i64 0] from rfl) (Reps.one (show Kd.M (Kd.int .i64) _ _ _ 0 [.int .i64 0] from rfl) (Reps.none _ _)))))));intro v369 w39 ho40 hb hg_ hnew_;clear hg_ hnew_;(first|rw [← Ny368.out] at ho40|(simp only [Int.reduceToNat] at ho40;rw [← Ny368.out] at ho40));replace HO352:=zm (Kd.N_elder' (yr HO352) (Kd.R_base ho40) hb);replace HO356:=zm (Kd.N_elder' (yr HO356) (Kd.R_base ho40) hb);replace HO359:=zm (Kd.N_elder' (yr HO359) (Kd.R_base ho40) hb);replace HO364:=zm (Kd.N_elder' (yr HO364) (Kd.R_base ho40) hb);replace HL367_0:=zm (Kd.V_elder' (yr HL367_0) (Kd.R_base ho40) hb);have HO370:=zm (Kd.R_lower ho40 (zE yhb));replace BK361:=ybb BK361 hb;replace BK366:=ybb BK366 hb;replace HR367_0:=yCb HR367_0 hb;replace HB:=ybs hb;clear hb ho40;obtain ⟨Ao41,co41,eo41⟩:=Kd.R_slice HO370.out;subst eo41)|(go_at_call 35;(with_reducible refine (psalteryref06_Same.calls k _ _ (rd_L2 t354 0) _ _ y368 true _ ?side1 HC367_0.out ?side3 ?side4 A9.out).mono ?_);(case side1=>exact yce (yrc HR367_0));(case side3=>exact yce (Kd.R_reads' HO370.out).2.2);(case side4=>exact (Kd.R_reads' HO370.out).2.1);rintro e w' ⟨rfl,⟨nd,rfl⟩⟩;obtain ⟨_,_⟩:=yc1 BK366;have p372 : 0≤(0 : Int):=(by omega);have q372 : 0 < (t362.length : Int):=yt;obtain ⟨ad372,A372_0,c372_0,e372,hx372_0,hl372_0,hi372_0⟩:=at_L1 (Kd.N_reads' HO364.out).2.2 0 p372 q372;cases e372;obtain ⟨ce372,hce372,hMe372,hcc372⟩:=Kd.N_get HO364.out [] 0 p372 (by first|exact q372|exact yt|(have e_:=(Kd.N_reads' HO364.out).1;omega));obtain ⟨ua372_0,uc372_0,rfl,ul372_0,ge372_0⟩:=Kd.FK_slice_open hMe372;have hv372_0:=hcc372 0 _ rfl;rw [Nat.add_zero,show ((Kd.slice 2 (Kd.int .i64))).sz=1 from rfl,Nat.mul_one] at hv372_0;replace hv372_0:=Option.some.inj (hv372_0.symm.trans hx372_0);injection hv372_0 with hva_ hvn_ hvc_;rw [hva_] at ge372_0;rw [hvc_] at ul372_0;have HL372_0:=zm (show Kd.V (Kd.int .i64) 2 _ w.heap.size _ _ (rd_L1 t362 0) from Kd.V_mk ul372_0 ge372_0);clear hva_ hvn_ hvc_ ge372_0 ul372_0;clear hcc372 hce372;have qi372 : (0 < t362.length)=True:=eq_true (by omega);(try rw [show ((0 : Int)).toNat=0 from rfl] at hx372_0);(try rw [Addr.add_zero'] at hx372_0);have HR372_0:=zm hi372_0;have HC372_0:=zm hl372_0;clear hi372_0 hl372_0;replace p372:=eq_true p372;replace q372:=eq_true q372;have p373 : 0≤(0 : Int):=(by omega);have q373 : 0 < (t362.length : Int):=yt;obtain ⟨ad373,A373_0,c373_0,e373,hx373_0,hl373_0,hi373_0⟩:=at_L1 (Kd.N_reads' HO364.out).2.2 0 p373 q373;obtain rfl : ad372=ad373:=(by injection e373);obtain ⟨ce373,hce373,hMe373,hcc373⟩:=Kd.N_get HO364.out [] 0 p373 (by first|exact q373|exact yt|(have e_:=(Kd.N_reads' HO364.out).1;omega));obtain ⟨ua373_0,uc373_0,rfl,ul373_0,ge373_0⟩:=Kd.FK_slice_open hMe373;have hv373_0:=hcc373 0 _ rfl;rw [Nat.add_zero,show ((Kd.slice 2 (Kd.int .i64))).sz=1 from rfl,Nat.mul_one] at hv373_0;replace hv373_0:=Option.some.inj (hv373_0.symm.trans hx373_0);injection hv373_0 with hva_ hvn_ hvc_;rw [hva_] at ge373_0;rw [hvc_] at ul373_0;have HL373_0:=zm (show Kd.V (Kd.int .i64) 2 _ w.heap.size _ _ (rd_L1 t362 0) from Kd.V_mk ul373_0 ge373_0);clear hva_ hvn_ hvc_ ge373_0 ul373_0;clear hcc373 hce373;have qi373 : (0 < t362.length)=True:=eq_true (by omega);(try rw [show ((0 : Int)).toNat=0 from rfl] at hx373_0);(try rw [Addr.add_zero'] at hx373_0);have HR373_0:=zm hi373_0;have HC373_0:=zm hl373_0;clear hi373_0 hl373_0;replace p373:=eq_true p373;replace q373:=eq_true q373;have ea_:=Option.some.inj (hx372_0.symm.trans hx373_0);injection ea_ with ea_ en_ ec_;subst ea_;subst ec_;clear en_;have p374 : 0≤(0 : Int):=(by omega);have q374 : 0 < ((rd_L1 t362 0).length : Int):=yt;obtain ⟨ad374,e374,hx374_0⟩:=Kd.at_int (yrc HR373_0) 0 p374 q374;cases e374;have qi374 : (0 < (rd_L1 t362 0).length)=True:=eq_true (by omega);(try rw [show ((0 : Int)).toNat=0 from rfl] at hx374_0);(try rw [Addr.add_zero'] at hx374_0);replace p374:=eq_true p374;replace q374:=eq_true q374;have p375 : 0≤(0 : Int):=(by omega);have q375 : 0 < (t362.length : Int):=yt;obtain ⟨ad375,A375_0,c375_0,e375,hx375_0,hl375_0,hi375_0⟩:=at_L1 (Kd.N_reads' HO364.out).2.2 0 p375 q375;obtain rfl : ad372=ad375:=(by injection e375);obtain ⟨ce375,hce375,hMe375,hcc375⟩:=Kd.N_get HO364.out [] 0 p375 (by first|exact q375|exact yt|(have e_:=(Kd.N_reads' HO364.out).1;omega));obtain ⟨ua375_0,uc375_0,rfl,ul375_0,ge375_0⟩:=Kd.FK_slice_open hMe375;have hv375_0:=hcc375 0 _ rfl;rw [Nat.add_zero,show ((Kd.slice 2 (Kd.int .i64))).sz=1 from rfl,Nat.mul_one] at hv375_0;replace hv375_0:=Option.some.inj (hv375_0.symm.trans hx375_0);injection hv375_0 with hva_ hvn_ hvc_;rw [hva_] at ge375_0;rw [hvc_] at ul375_0;have HL375_0:=zm (show Kd.V (Kd.int .i64) 2 _ w.heap.size _ _ (rd_L1 t362 0) from Kd.V_mk ul375_0 ge375_0);clear hva_ hvn_ hvc_ ge375_0 ul375_0;clear hcc375 hce375;have qi375 : (0 < t362.length)=True:=eq_true (by omega);(try rw [show ((0 : Int)).toNat=0 from rfl] at hx375_0);(try rw [Addr.add_zero'] at hx375_0);have HR375_0:=zm hi375_0;have HC375_0:=zm hl375_0;clear hi375_0 hl375_0;replace p375:=eq_true p375;replace q375:=eq_true q375;have ea_:=Option.some.inj (hx372_0.symm.trans hx375_0);injection ea_ with ea_ en_ ec_;subst ea_;subst ec_;clear en_;have p376 : 0≤(1 : Int):=(by omega);have q376 : 1 < ((rd_L1 t362 0).length : Int):=yt;obtain ⟨ad376,e376,hx376_0⟩:=Kd.at_int (yrc HR375_0) 1 p376 q376;cases e376;(try simp only [show (1 : Int).toNat=1 from rfl,Nat.reduceMul,Nat.reduceEqDiff,Go.Addr.add, ↓reduceIte] at hx376_0);have qi376 : (1 < (rd_L1 t362 0).length)=True:=eq_true (by omega);(try rw [show ((1 : Int)).toNat=1 from rfl] at hx376_0);replace p376:=eq_true p376;replace q376:=eq_true q376)|(go_at_call 20;(with_reducible refine (ccodec_Right.calls k 60 1 _ _ t362 t377 _ ?side1 ?side2 A19.out).mono ?_);(case side1=>exact yce (Kd.N_reads' HO364.out).2.2);(case side2=>exact (Kd.N_reads' HO364.out).2.1);rintro e w43 ⟨rfl,hb⟩;replace HO352:=yNb HO352 hb;replace HO356:=yNb HO356 hb;replace HO359:=yNb HO359 hb;replace HO364:=yNb HO364 hb;replace HL367_0:=yVb HL367_0 hb;replace HO370:=yRb HO370 hb;replace HL372_0:=yVb HL372_0 hb;replace HL373_0:=yVb HL373_0 hb;replace HL375_0:=yVb HL375_0 hb;replace BK361:=ybb BK361 hb;replace BK366:=ybb BK366 hb;replace HR367_0:=yCb HR367_0 hb;replace HR372_0:=yCb HR372_0 hb;replace HR373_0:=yCb HR373_0 hb;replace HR375_0:=yCb HR375_0 hb;replace HB:=ybs hb;(try clear hb)))
 go_ret
 exact ⟨ye,yhb⟩
def psalteryref12_Same.l0 : Nat→List (List Int)→List (List Int)→Int→Option (Bool)
 | 0,_,_,_=>none
 | k+1,x0,x1,x5=>if x5 < (x0.length : Int) then (if 0≤x5 then (if x5 < (x1.length : Int) then ((psalteryref06_Same.f k (rd_L2 x0 x5) (rd_L2 x1 x5)).bind fun t387=>(if t387=true then (psalteryref12_Same.l0 k x0 x1 (wrap64 (x5+1))) else (some false))) else (none)) else (none)) else (some true)
def psalteryref12_Same.f (k : Nat) (l0 : List (List Int)) (l1 : List (List Int)) : Option (Bool):=if (l0.length : Int)=(l1.length : Int) then (psalteryref12_Same.l0 k l0 l1 0) else (some false)
theorem psalteryref12_Same.mono_l : ∀ k,(∀ y0 y1 y2,LeO (psalteryref12_Same.l0 k y0 y1 y2) (psalteryref12_Same.l0 (k+1) y0 y1 y2))
 | 0=>fun _ _ _ r h=>by simp [psalteryref12_Same.l0] at h
 | k+1=>by
  have ih0:=psalteryref12_Same.mono_l k
  ·
   intro y0 y1 y2
   unfold psalteryref12_Same.l0
   repeat' with_reducible first|apply ih0|apply psalteryref06_Same.mono|apply yLr|apply yLn|apply yLi|apply yLb|intro _
theorem psalteryref12_Same.mono : ∀ a0 a1 k,LeO (psalteryref12_Same.f k a0 a1) (psalteryref12_Same.f (k+1) a0 a1):=by
 intro a0 a1 k
 have ih0:=psalteryref12_Same.mono_l k
 unfold psalteryref12_Same.f
 repeat' with_reducible first|apply ih0|apply psalteryref06_Same.mono|apply yLr|apply yLn|apply yLi|apply yLb|intro _
set_option maxHeartbeats 8000000 in
set_option maxRecDepth 100000 in
theorem psalteryref12_Same.calls (k : Nat) (A0 : Option Addr) (c0 : Nat) (l0 : List (List Int)) (A1 : Option Addr) (c1 : Nat) (l1 : List (List Int)) (r : Bool) (w : World) (hr0 : Kd.C (Kd.slice 3 (Kd.int .i64)) w A0 l0.length l0) (hc0 : l0.length≤c0) (hr1 : Kd.C (Kd.slice 3 (Kd.int .i64)) w A1 l1.length l1) (hc1 : l1.length≤c1) (h : psalteryref12_Same.f k l0 l1=some r) :
  Calls Try.prog 60 #[.slice A0 l0.length c0, .slice A1 l1.length c1] w fun e w' => e=.returned (.bool r)∧Drawn0 w w' := by
 have HR0:=zm hr0;have HC0:=zm hc0;clear hr0 hc0;have HR1:=zm hr1;have HC1:=zm hc1;clear hr1 hc1
 have H : (if (l0.length : Int)=(l1.length : Int) then (psalteryref12_Same.l0 k l0 l1 0) else (some false))=some r:=h
 clear h
 by_cases c3 : (l0.length : Int)=(l1.length : Int)
 ·
  rw [if_pos c3] at H
  have c3b0 : ((l0.length : Int) == (l1.length : Int))=true:=beq_iff_eq.mpr c3
  have c3b1 : ((l0.length : Int) != (l1.length : Int))=false:=bne_eq_false_iff_eq.mpr c3
  have c3b2 : (l0.length == l1.length)=true:=by first|simpa using c3|(simp at c3 ⊢; omega)
  clear c3
  have H' := zm H
  clear H
  go_enter Try.func60,Try.ntmps60
  go_wp2
  repeat (go_quiet (fail);try go_wp2)
  go_loopg [5] k (fun kq v5 w' => ∃ (x5_1 : Int),v5=.int .i64 x5_1∧Aside0 (psalteryref12_Same.l0 kq l0 l1 x5_1=some r)∧Aside0 (kq≤k)∧Drawn0 w w')
  case atStart=>exact ⟨(0),yq,H',⟨Nat.le_refl _⟩,yd⟩
  case round =>
   clear H'
   try clear c1
   try clear c3b0
   try clear c3b1
   try clear c3b2
   obtain ⟨x5_1,rfl,HA,HK1,⟨m1,rfl⟩⟩:=hrel
   obtain ⟨k1,rfl⟩:=ysu gk (fun h=>by subst h;exact absurd HA.out (by simp [psalteryref12_Same.l0]))
   have H:=HA.out;clear HA
   simp only [psalteryref12_Same.l0] at H
   by_cases c4 : x5_1 < (l0.length : Int)
   ·
    rw [if_pos c4] at H
    have c4b0 : decide (x5_1 < (l0.length : Int))=true:=decide_eq_true c4
    clear c4
    replace H:=yif H;obtain ⟨c5,H⟩:=H
    have c5b0 : decide (0≤x5_1)=true:=decide_eq_true c5
    clear c5
    replace H:=yif H;obtain ⟨c6,H⟩:=H
    have c6b0 : decide (x5_1 < (l1.length : Int))=true:=decide_eq_true c6
    clear c6
    replace H:=ybi H;obtain ⟨t387,A7,H⟩:=H
    by_cases c8 : t387=true
    ·
     subst c8
     rw [if_pos rfl] at H
     have H' := zm H
     clear H
     have p385 : 0≤(x5_1 : Int):=yt
     have q385 : x5_1 < (l0.length : Int):=yt
     obtain ⟨ad385,A385_0,c385_0,e385,hx385_0,hl385_0,hi385_0⟩:=at_L2 HR0.out x5_1 p385 q385
     cases e385
     have HR385_0:=zm hi385_0;have HC385_0:=zm hl385_0;clear hi385_0 hl385_0
     replace p385:=eq_true p385
     replace q385:=eq_true q385
     have p386 : 0≤(x5_1 : Int):=yt
     have q386 : x5_1 < (l1.length : Int):=yt
     obtain ⟨ad386,A386_0,c386_0,e386,hx386_0,hl386_0,hi386_0⟩:=at_L2 HR1.out x5_1 p386 q386
     cases e386
     have HR386_0:=zm hi386_0;have HC386_0:=zm hl386_0;clear hi386_0 hl386_0
     replace p386:=eq_true p386
     replace q386:=eq_true q386
     go_wp2_with (first|(go_at_call 35;(with_reducible refine (psalteryref06_Same.calls k1 _ _ (rd_L2 l0 x5_1) _ _ (rd_L2 l1 x5_1) true _ ?side1 HC385_0.out ?side3 HC386_0.out A7.out).mono ?_);(case side1=>exact yce HR385_0.out);(case side3=>exact yce HR386_0.out);rintro e w' ⟨rfl,⟨nd,rfl⟩⟩;(try exact yww)))
     repeat (go_quiet (first|(go_at_call 35;(with_reducible refine (psalteryref06_Same.calls k1 _ _ (rd_L2 l0 x5_1) _ _ (rd_L2 l1 x5_1) true _ ?side1 HC385_0.out ?side3 HC386_0.out A7.out).mono ?_);(case side1=>exact yce HR385_0.out);(case side3=>exact yce HR386_0.out);rintro e w' ⟨rfl,⟨nd,rfl⟩⟩;(try exact yww)));try go_wp2_with (first|(go_at_call 35;(with_reducible refine (psalteryref06_Same.calls k1 _ _ (rd_L2 l0 x5_1) _ _ (rd_L2 l1 x5_1) true _ ?side1 HC385_0.out ?side3 HC386_0.out A7.out).mono ?_);(case side1=>exact yce HR385_0.out);(case side3=>exact yce HR386_0.out);rintro e w' ⟨rfl,⟨nd,rfl⟩⟩;(try exact yww))))
     go_roundg k1
     case measure=>exact yom1 HK1
     case rel=>exact ⟨(wrap64 (x5_1+1)),yq,H',⟨yom1 HK1⟩,yd⟩
    ·
     replace c8:=Bool.eq_false_iff.mpr c8
     subst c8
     rw [ynf] at H
     obtain rfl:=Option.some.inj H
     have p385 : 0≤(x5_1 : Int):=yt
     have q385 : x5_1 < (l0.length : Int):=yt
     obtain ⟨ad385,A385_0,c385_0,e385,hx385_0,hl385_0,hi385_0⟩:=at_L2 HR0.out x5_1 p385 q385
     cases e385
     have HR385_0:=zm hi385_0;have HC385_0:=zm hl385_0;clear hi385_0 hl385_0
     replace p385:=eq_true p385
     replace q385:=eq_true q385
     have p386 : 0≤(x5_1 : Int):=yt
     have q386 : x5_1 < (l1.length : Int):=yt
     obtain ⟨ad386,A386_0,c386_0,e386,hx386_0,hl386_0,hi386_0⟩:=at_L2 HR1.out x5_1 p386 q386
     cases e386
     have HR386_0:=zm hi386_0;have HC386_0:=zm hl386_0;clear hi386_0 hl386_0
     replace p386:=eq_true p386
     replace q386:=eq_true q386
     go_wp2_with (first|(go_at_call 35;(with_reducible refine (psalteryref06_Same.calls k1 _ _ (rd_L2 l0 x5_1) _ _ (rd_L2 l1 x5_1) false _ ?side1 HC385_0.out ?side3 HC386_0.out A7.out).mono ?_);(case side1=>exact yce HR385_0.out);(case side3=>exact yce HR386_0.out);rintro e w' ⟨rfl,⟨nd,rfl⟩⟩;(try exact yww)))
     repeat (go_quiet (first|(go_at_call 35;(with_reducible refine (psalteryref06_Same.calls k1 _ _ (rd_L2 l0 x5_1) _ _ (rd_L2 l1 x5_1) false _ ?side1 HC385_0.out ?side3 HC386_0.out A7.out).mono ?_);(case side1=>exact yce HR385_0.out);(case side3=>exact yce HR386_0.out);rintro e w' ⟨rfl,⟨nd,rfl⟩⟩;(try exact yww)));try go_wp2_with (first|(go_at_call 35;(with_reducible refine (psalteryref06_Same.calls k1 _ _ (rd_L2 l0 x5_1) _ _ (rd_L2 l1 x5_1) false _ ?side1 HC385_0.out ?side3 HC386_0.out A7.out).mono ?_);(case side1=>exact yce HR385_0.out);(case side3=>exact yce HR386_0.out);rintro e w' ⟨rfl,⟨nd,rfl⟩⟩;(try exact yww))))
     go_ret
     exact ⟨yq,yd⟩
   ·
    rw [if_neg c4] at H
    have c4b0 : decide (x5_1 < (l0.length : Int))=false:=decide_eq_false c4
    clear c4
    obtain rfl:=Option.some.inj H
    go_wp2
    repeat (go_quiet (fail);try go_wp2)
    go_ret
    exact ⟨yq,yd⟩
 ·
  rw [if_neg c3] at H
  have c3b0 : ((l0.length : Int) == (l1.length : Int))=false:=beq_eq_false_iff_ne.mpr c3
  have c3b1 : ((l0.length : Int) != (l1.length : Int))=true:=bne_iff_ne.mpr c3
  have c3b2 : (l0.length == l1.length)=false:=by first|simpa using c3|(simp at c3 ⊢; omega)
  obtain rfl:=Option.some.inj H
  go_enter Try.func60,Try.ntmps60
  go_wp2
  repeat (go_quiet (fail);try go_wp2)
  go_ret
  exact ⟨yq,yd⟩
mutual
def psalteryref13_Same.j0 : Nat→Bool→Bool→List (List Int)→List (List (List Int))→Bool→List (List Int)→List (List (List Int))→Option (Bool)
 | 0,_,_,_,_,_,_,_=>none
 | k+1,x27,x389000,x389001,x389002,x390000,x390001,x390002=>if x27=true then (some false) else (psalteryref13_Same.l0 k 0 x389000 x389001 x389002 x390000 x390001 x390002)
def psalteryref13_Same.l0 : Nat→Int→Bool→List (List Int)→List (List (List Int))→Bool→List (List Int)→List (List (List Int))→Option (Bool)
 | 0,_,_,_,_,_,_,_=>none
 | k+1,x5,x389000,x389001,x389002,x390000,x390001,x390002=>if x5 < (x389002.length : Int) then (if 0≤x5 then (if x5 < (x390002.length : Int) then ((psalteryref12_Same.f k (rd_L4 x389002 x5) (rd_L4 x390002 x5)).bind fun t393=>(if t393=true then (psalteryref13_Same.l0 k (wrap64 (x5+1)) x389000 x389001 x389002 x390000 x390001 x390002) else (some false))) else (none)) else (none)) else (some true)
end
def psalteryref13_Same.f (k : Nat) (a0_0 : Bool) (l0_1 : List (List Int)) (l0_2 : List (List (List Int))) (a1_0 : Bool) (l1_1 : List (List Int)) (l1_2 : List (List (List Int))) : Option (Bool):=if (a0_0 != a1_0)=true then (psalteryref13_Same.j0 k true a0_0 l0_1 l0_2 a1_0 l1_1 l1_2) else ((psalteryref12_Same.f k l0_1 l1_1).bind fun t390=>(if t390=true then (psalteryref13_Same.j0 k ((l0_2.length : Int) != (l1_2.length : Int)) a0_0 l0_1 l0_2 a1_0 l1_1 l1_2) else (psalteryref13_Same.j0 k true a0_0 l0_1 l0_2 a1_0 l1_1 l1_2)))
theorem psalteryref13_Same.mono_l : ∀ k,(∀ y0 y1 y2 y3 y4 y5 y6,LeO (psalteryref13_Same.j0 k y0 y1 y2 y3 y4 y5 y6) (psalteryref13_Same.j0 (k+1) y0 y1 y2 y3 y4 y5 y6))∧(∀ y0 y1 y2 y3 y4 y5 y6,LeO (psalteryref13_Same.l0 k y0 y1 y2 y3 y4 y5 y6) (psalteryref13_Same.l0 (k+1) y0 y1 y2 y3 y4 y5 y6))
 | 0=>⟨fun _ _ _ _ _ _ _ r h=>by simp [psalteryref13_Same.j0] at h,fun _ _ _ _ _ _ _ r h=>by simp [psalteryref13_Same.l0] at h⟩
 | k+1=>by
  obtain ⟨ih0,ih1⟩:=psalteryref13_Same.mono_l k
  refine ⟨?_, ?_⟩
  ·
   intro y0 y1 y2 y3 y4 y5 y6
   unfold psalteryref13_Same.j0
   repeat' with_reducible first|apply ih0|apply ih1|apply psalteryref12_Same.mono|apply yLr|apply yLn|apply yLi|apply yLb|intro _
  ·
   intro y0 y1 y2 y3 y4 y5 y6
   unfold psalteryref13_Same.l0
   repeat' with_reducible first|apply ih0|apply ih1|apply psalteryref12_Same.mono|apply yLr|apply yLn|apply yLi|apply yLb|intro _
theorem psalteryref13_Same.mono : ∀ a0 a1 a2 a3 a4 a5 k,LeO (psalteryref13_Same.f k a0 a1 a2 a3 a4 a5) (psalteryref13_Same.f (k+1) a0 a1 a2 a3 a4 a5):=by
 intro a0 a1 a2 a3 a4 a5 k
 obtain ⟨ih0,ih1⟩:=psalteryref13_Same.mono_l k
 unfold psalteryref13_Same.f
 repeat' with_reducible first|apply ih0|apply ih1|apply psalteryref12_Same.mono|apply yLr|apply yLn|apply yLi|apply yLb|intro _
set_option maxHeartbeats 8000000 in
set_option maxRecDepth 100000 in
theorem psalteryref13_Same.calls (k : Nat) (a0_0 : Bool) (A0_1 : Option Addr) (c0_1 : Nat) (l0_1 : List (List Int)) (A0_2 : Option Addr) (c0_2 : Nat) (l0_2 : List (List (List Int))) (a1_0 : Bool) (A1_1 : Option Addr) (c1_1 : Nat) (l1_1 : List (List Int)) (A1_2 : Option Addr) (c1_2 : Nat) (l1_2 : List (List (List Int))) (r : Bool) (w : World) (hr0_1 : Kd.C (Kd.slice 3 (Kd.int .i64)) w A0_1 l0_1.length l0_1) (hc0_1 : l0_1.length≤c0_1) (hr0_2 : Kd.C (Kd.slice 55 (Kd.slice 3 (Kd.int .i64))) w A0_2 l0_2.length l0_2) (hc0_2 : l0_2.length≤c0_2) (hr1_1 : Kd.C (Kd.slice 3 (Kd.int .i64)) w A1_1 l1_1.length l1_1) (hc1_1 : l1_1.length≤c1_1) (hr1_2 : Kd.C (Kd.slice 55 (Kd.slice 3 (Kd.int .i64))) w A1_2 l1_2.length l1_2) (hc1_2 : l1_2.length≤c1_2) (h : psalteryref13_Same.f k a0_0 l0_1 l0_2 a1_0 l1_1 l1_2=some r) :
  Calls Try.prog 18 #[.agg #[.bool a0_0, .slice A0_1 l0_1.length c0_1, .slice A0_2 l0_2.length c0_2], .agg #[.bool a1_0, .slice A1_1 l1_1.length c1_1, .slice A1_2 l1_2.length c1_2]] w fun e w' => e=.returned (.bool r)∧Below w.heap.size w w' := by
 have hu42:=Try.underlying42;have HR0_1:=zm hr0_1;have HC0_1:=zm hc0_1;clear hr0_1 hc0_1;have HR0_2:=zm hr0_2;have HC0_2:=zm hc0_2;clear hr0_2 hc0_2;have HR1_1:=zm hr1_1;have HC1_1:=zm hc1_1;clear hr1_1 hc1_1;have HR1_2:=zm hr1_2;have HC1_2:=zm hc1_2;clear hr1_2 hc1_2;have HB:=zm (Below.refl w.heap.size w)
 have H : (if (a0_0 != a1_0)=true then (psalteryref13_Same.j0 k true a0_0 l0_1 l0_2 a1_0 l1_1 l1_2) else ((psalteryref12_Same.f k l0_1 l1_1).bind fun t390=>(if t390=true then (psalteryref13_Same.j0 k ((l0_2.length : Int) != (l1_2.length : Int)) a0_0 l0_1 l0_2 a1_0 l1_1 l1_2) else (psalteryref13_Same.j0 k true a0_0 l0_1 l0_2 a1_0 l1_1 l1_2))))=some r:=h
 clear h;have HC3:=zm H;clear H
 go_enter Try.func18,Try.ntmps18
 go_upto_region 1 with (first|((with_reducible refine gate_dst (N:=2) rfl ?_);(try (refine gate_guard (by rfl) ?_;dsimp only));refine ybx 2 #[.bool a0_0, .slice A0_1 l0_1.length c0_1, .slice A0_2 l0_2.length c0_2] 42 ?_;intro gb388 hg w4 hbox hb;have BK388:=zm (hbox);have GW388:=ygw hg;have GE388:=ygw hg;replace HB:=ybs hb;clear hb hbox hg)|((with_reducible refine gate_dst (N:=3) rfl ?_);(try (refine gate_guard (by rfl) ?_;dsimp only));refine ybx 3 #[.bool a1_0, .slice A1_1 l1_1.length c1_1, .slice A1_2 l1_2.length c1_2] 42 ?_;intro gb389 hg w5 hbox hb;have BK389:=zm (hbox);have GW389:=ygw hg;have GE389:=ygw hg;replace HB:=ybs hb;have NB388_389:=ynl BK388 hg;have NB389_388:=yng BK388 hg;replace BK388:=ybb BK388 hb;clear hb hbox hg))
 repeat (go_quiet (first|((with_reducible refine gate_dst (N:=2) rfl ?_);(try (refine gate_guard (by rfl) ?_;dsimp only));refine ybx 2 #[.bool a0_0, .slice A0_1 l0_1.length c0_1, .slice A0_2 l0_2.length c0_2] 42 ?_;intro gb388 hg w4 hbox hb;have BK388:=zm (hbox);have GW388:=ygw hg;have GE388:=ygw hg;replace HB:=ybs hb;clear hb hbox hg)|((with_reducible refine gate_dst (N:=3) rfl ?_);(try (refine gate_guard (by rfl) ?_;dsimp only));refine ybx 3 #[.bool a1_0, .slice A1_1 l1_1.length c1_1, .slice A1_2 l1_2.length c1_2] 42 ?_;intro gb389 hg w5 hbox hb;have BK389:=zm (hbox);have GW389:=ygw hg;have GE389:=ygw hg;replace HB:=ybs hb;have NB388_389:=ynl BK388 hg;have NB389_388:=yng BK388 hg;replace BK388:=ybb BK388 hb;clear hb hbox hg));go_upto_region 1 with (first|((with_reducible refine gate_dst (N:=2) rfl ?_);(try (refine gate_guard (by rfl) ?_;dsimp only));refine ybx 2 #[.bool a0_0, .slice A0_1 l0_1.length c0_1, .slice A0_2 l0_2.length c0_2] 42 ?_;intro gb388 hg w4 hbox hb;have BK388:=zm (hbox);have GW388:=ygw hg;have GE388:=ygw hg;replace HB:=ybs hb;clear hb hbox hg)|((with_reducible refine gate_dst (N:=3) rfl ?_);(try (refine gate_guard (by rfl) ?_;dsimp only));refine ybx 3 #[.bool a1_0, .slice A1_1 l1_1.length c1_1, .slice A1_2 l1_2.length c1_2] 42 ?_;intro gb389 hg w5 hbox hb;have BK389:=zm (hbox);have GW389:=ygw hg;have GE389:=ygw hg;replace HB:=ybs hb;have NB388_389:=ynl BK388 hg;have NB389_388:=yng BK388 hg;replace BK388:=ybb BK388 hb;clear hb hbox hg)))
 (try simp only [Act.put,List.setIfInBounds_toArray,List.set_cons_zero,List.set_cons_succ])
 go_cut [27] (fun v27 wc => ∃ (kq : Nat) (x27_2 : Bool),v27=.bool x27_2∧Aside0 (psalteryref13_Same.j0 kq x27_2 a0_0 l0_1 l0_2 a1_0 l1_1 l1_2=some r)∧Aside0 (kq≤k)∧Aside0 (wc.heap[gb388]? = some (.cells #[.bool a0_0,(.slice A0_1 l0_1.length c0_1),(.slice A0_2 l0_2.length c0_2)] 42 (0,0)))∧Aside0 (wc.heap[gb389]? = some (.cells #[.bool a1_0,(.slice A1_1 l1_1.length c1_1),(.slice A1_2 l1_2.length c1_2)] 42 (0,0)))∧Aside0 (Below w.heap.size w wc))
 case first =>
  have H:=HC3.out;clear HC3
  by_cases c6 : (a0_0 != a1_0)=true
  ·
   rw [if_pos c6] at H
   have c6b0 : (a0_0 != a1_0)=true:=c6
   (try (have c6b1 : decide (a0_0=a1_0)=false:=by simpa using c6))
   (try (have c6b2 : (a0_0 == a1_0)=false:=by simpa using c6))
   (try (have c6b3 : ¬ (a0_0=a1_0):=by simpa using c6))
   clear c6
   (first|rw [c6b0]|(simp only [i64_w,i32_w];rw [c6b0])|skip)
   have H' := zm H
   clear H
   have:=NB388_389.out
   have:=NB389_388.out
   obtain ⟨_,_,_,_,_,_⟩:=yc3 BK388
   obtain ⟨_,_,_,_,_,_⟩:=yc3 BK389
   go_wp2
   repeat (go_quiet (fail);try go_wp2)
   go_meet
   case rel=>exact ⟨_,(true),yq,H',⟨yo⟩,⟨yk BK388⟩,⟨yk BK389⟩,⟨yhb⟩⟩
  ·
   rw [if_neg c6] at H
   have c6b0 : (a0_0 != a1_0)=false:=by simpa using c6
   (try (have c6b1 : decide (a0_0=a1_0)=true:=by simpa using c6))
   (try (have c6b2 : (a0_0 == a1_0)=true:=by simpa using c6))
   clear c6
   (first|rw [c6b0]|(simp only [i64_w,i32_w];rw [c6b0])|skip)
   replace H:=ybi H;obtain ⟨t390,A10,H⟩:=H
   by_cases c11 : t390=true
   ·
    subst c11
    rw [if_pos rfl] at H
    have H' := zm H
    clear H
    have:=NB388_389.out
    have:=NB389_388.out
    obtain ⟨_,_,_,_,_,_⟩:=yc3 BK388
    obtain ⟨_,_,_,_,_,_⟩:=yc3 BK389
    go_wp2_with (first|(go_at_call 60;(with_reducible refine (psalteryref12_Same.calls k _ _ l0_1 _ _ l1_1 true _ ?side1 HC0_1.out ?side3 HC1_1.out A10.out).mono ?_);(case side1=>exact ycb HR0_1);(case side3=>exact ycb HR1_1);rintro e w' ⟨rfl,⟨nd,rfl⟩⟩;(try exact yww)))
    repeat (go_quiet (first|(go_at_call 60;(with_reducible refine (psalteryref12_Same.calls k _ _ l0_1 _ _ l1_1 true _ ?side1 HC0_1.out ?side3 HC1_1.out A10.out).mono ?_);(case side1=>exact ycb HR0_1);(case side3=>exact ycb HR1_1);rintro e w' ⟨rfl,⟨nd,rfl⟩⟩;(try exact yww)));try go_wp2_with (first|(go_at_call 60;(with_reducible refine (psalteryref12_Same.calls k _ _ l0_1 _ _ l1_1 true _ ?side1 HC0_1.out ?side3 HC1_1.out A10.out).mono ?_);(case side1=>exact ycb HR0_1);(case side3=>exact ycb HR1_1);rintro e w' ⟨rfl,⟨nd,rfl⟩⟩;(try exact yww))))
    go_meet
    case rel=>exact ⟨_,(((l0_2.length : Int) != (l1_2.length : Int))),yq,H',⟨yo⟩,⟨yk BK388⟩,⟨yk BK389⟩,⟨yhb⟩⟩
   ·
    replace c11:=Bool.eq_false_iff.mpr c11
    subst c11
    rw [ynf] at H
    have H' := zm H
    clear H
    have:=NB388_389.out
    have:=NB389_388.out
    obtain ⟨_,_,_,_,_,_⟩:=yc3 BK388
    obtain ⟨_,_,_,_,_,_⟩:=yc3 BK389
    go_wp2_with (first|(go_at_call 60;(with_reducible refine (psalteryref12_Same.calls k _ _ l0_1 _ _ l1_1 false _ ?side1 HC0_1.out ?side3 HC1_1.out A10.out).mono ?_);(case side1=>exact ycb HR0_1);(case side3=>exact ycb HR1_1);rintro e w' ⟨rfl,⟨nd,rfl⟩⟩;(try exact yww)))
    repeat (go_quiet (first|(go_at_call 60;(with_reducible refine (psalteryref12_Same.calls k _ _ l0_1 _ _ l1_1 false _ ?side1 HC0_1.out ?side3 HC1_1.out A10.out).mono ?_);(case side1=>exact ycb HR0_1);(case side3=>exact ycb HR1_1);rintro e w' ⟨rfl,⟨nd,rfl⟩⟩;(try exact yww)));try go_wp2_with (first|(go_at_call 60;(with_reducible refine (psalteryref12_Same.calls k _ _ l0_1 _ _ l1_1 false _ ?side1 HC0_1.out ?side3 HC1_1.out A10.out).mono ?_);(case side1=>exact ycb HR0_1);(case side3=>exact ycb HR1_1);rintro e w' ⟨rfl,⟨nd,rfl⟩⟩;(try exact yww))))
    go_meet
    case rel=>exact ⟨_,(true),yq,H',⟨yo⟩,⟨yk BK388⟩,⟨yk BK389⟩,⟨yhb⟩⟩
 case rest =>
  clear HC3
  obtain ⟨kq,x27_2,rfl,HA,HJ2,BK388,BK389,HB⟩:=hcut
  obtain ⟨kj2,rfl⟩:=ysu kq (fun h=>by subst h;exact absurd HA.out (by simp [psalteryref13_Same.j0]))
  have H:=HA.out;clear HA
  simp only [psalteryref13_Same.j0] at H
  by_cases c18 : x27_2=true
  ·
   subst c18
   rw [if_pos rfl] at H
   obtain rfl:=Option.some.inj H
   go_wp2
   repeat (go_quiet (fail);try go_wp2)
   go_ret
   exact ⟨ye,yhb⟩
  ·
   replace c18:=Bool.eq_false_iff.mpr c18
   subst c18
   rw [ynf] at H
   have H' := zm H
   clear H
   go_wp2
   repeat (go_quiet (fail);try go_wp2)
   go_loopg [5] kj2 (fun kq v5 w' => ∃ (x5_2 : Int),v5=.int .i64 x5_2∧Aside0 (psalteryref13_Same.l0 kq x5_2 a0_0 l0_1 l0_2 a1_0 l1_1 l1_2=some r)∧Aside0 (kq≤kj2)∧Aside0 (w'.heap[gb388]? = some (.cells #[.bool a0_0,(.slice A0_1 l0_1.length c0_1),(.slice A0_2 l0_2.length c0_2)] 42 (0,0)))∧Aside0 (w'.heap[gb389]? = some (.cells #[.bool a1_0,(.slice A1_1 l1_1.length c1_1),(.slice A1_2 l1_2.length c1_2)] 42 (0,0)))∧Aside0 (Below w.heap.size w w'))
   case atStart=>exact ⟨(0),yq,H',⟨Nat.le_refl _⟩,⟨yk BK388⟩,⟨yk BK389⟩,⟨yhb⟩⟩
   case round =>
    clear H'
    obtain ⟨x5_2,rfl,HA,HK2,BK388,BK389,HB⟩:=hrel
    obtain ⟨k2,rfl⟩:=ysu gk (fun h=>by subst h;exact absurd HA.out (by simp [psalteryref13_Same.l0]))
    have H:=HA.out;clear HA
    simp only [psalteryref13_Same.l0] at H
    by_cases c19 : x5_2 < (l0_2.length : Int)
    ·
     rw [if_pos c19] at H
     have c19b0 : decide (x5_2 < (l0_2.length : Int))=true:=decide_eq_true c19
     clear c19
     replace H:=yif H;obtain ⟨c20,H⟩:=H
     have c20b0 : decide (0≤x5_2)=true:=decide_eq_true c20
     clear c20
     replace H:=yif H;obtain ⟨c21,H⟩:=H
     have c21b0 : decide (x5_2 < (l1_2.length : Int))=true:=decide_eq_true c21
     clear c21
     replace H:=ybi H;obtain ⟨t393,A22,H⟩:=H
     by_cases c23 : t393=true
     ·
      subst c23
      rw [if_pos rfl] at H
      have H' := zm H
      clear H
      have:=NB388_389.out
      have:=NB389_388.out
      obtain ⟨_,_,_,_,_,_⟩:=yc3 BK388
      have p391 : 0≤(x5_2 : Int):=yt
      have q391 : x5_2 < (l0_2.length : Int):=yt
      obtain ⟨ad391,A391_0,c391_0,e391,hx391_0,hl391_0,hi391_0⟩:=at_L4 HR0_2.out x5_2 p391 q391
      cases e391
      replace hx391_0:=yhx HB hx391_0
      have HR391_0:=zm hi391_0;have HC391_0:=zm hl391_0;clear hi391_0 hl391_0
      replace p391:=eq_true p391
      replace q391:=eq_true q391
      obtain ⟨_,_,_,_,_,_⟩:=yc3 BK389
      have p392 : 0≤(x5_2 : Int):=yt
      have q392 : x5_2 < (l1_2.length : Int):=yt
      obtain ⟨ad392,A392_0,c392_0,e392,hx392_0,hl392_0,hi392_0⟩:=at_L4 HR1_2.out x5_2 p392 q392
      cases e392
      replace hx392_0:=yhx HB hx392_0
      have HR392_0:=zm hi392_0;have HC392_0:=zm hl392_0;clear hi392_0 hl392_0
      replace p392:=eq_true p392
      replace q392:=eq_true q392
      go_wp2_with (first|(go_at_call 60;(with_reducible refine (psalteryref12_Same.calls k2 _ _ (rd_L4 l0_2 x5_2) _ _ (rd_L4 l1_2 x5_2) true _ ?side1 HC391_0.out ?side3 HC392_0.out A22.out).mono ?_);(case side1=>exact ycb HR391_0);(case side3=>exact ycb HR392_0);rintro e w' ⟨rfl,⟨nd,rfl⟩⟩;(try exact yww)))
      repeat (go_quiet (first|(go_at_call 60;(with_reducible refine (psalteryref12_Same.calls k2 _ _ (rd_L4 l0_2 x5_2) _ _ (rd_L4 l1_2 x5_2) true _ ?side1 HC391_0.out ?side3 HC392_0.out A22.out).mono ?_);(case side1=>exact ycb HR391_0);(case side3=>exact ycb HR392_0);rintro e w' ⟨rfl,⟨nd,rfl⟩⟩;(try exact yww)));try go_wp2_with (first|(go_at_call 60;(with_reducible refine (psalteryref12_Same.calls k2 _ _ (rd_L4 l0_2 x5_2) _ _ (rd_L4 l1_2 x5_2) true _ ?side1 HC391_0.out ?side3 HC392_0.out A22.out).mono ?_);(case side1=>exact ycb HR391_0);(case side3=>exact ycb HR392_0);rintro e w' ⟨rfl,⟨nd,rfl⟩⟩;(try exact yww))))
      go_roundg k2
      case measure=>exact yom2 HJ2 HK2
      case rel=>exact ⟨(wrap64 (x5_2+1)),yq,H',⟨yom2 HJ2 HK2⟩,⟨yk BK388⟩,⟨yk BK389⟩,⟨yhb⟩⟩
     ·
      replace c23:=Bool.eq_false_iff.mpr c23
      subst c23
      rw [ynf] at H
      obtain rfl:=Option.some.inj H
      have:=NB388_389.out
      have:=NB389_388.out
      obtain ⟨_,_,_,_,_,_⟩:=yc3 BK388
      have p391 : 0≤(x5_2 : Int):=yt
      have q391 : x5_2 < (l0_2.length : Int):=yt
      obtain ⟨ad391,A391_0,c391_0,e391,hx391_0,hl391_0,hi391_0⟩:=at_L4 HR0_2.out x5_2 p391 q391
      cases e391
      replace hx391_0:=yhx HB hx391_0
      have HR391_0:=zm hi391_0;have HC391_0:=zm hl391_0;clear hi391_0 hl391_0
      replace p391:=eq_true p391
      replace q391:=eq_true q391
      obtain ⟨_,_,_,_,_,_⟩:=yc3 BK389
      have p392 : 0≤(x5_2 : Int):=yt
      have q392 : x5_2 < (l1_2.length : Int):=yt
      obtain ⟨ad392,A392_0,c392_0,e392,hx392_0,hl392_0,hi392_0⟩:=at_L4 HR1_2.out x5_2 p392 q392
      cases e392
      replace hx392_0:=yhx HB hx392_0
      have HR392_0:=zm hi392_0;have HC392_0:=zm hl392_0;clear hi392_0 hl392_0
      replace p392:=eq_true p392
      replace q392:=eq_true q392
      go_wp2_with (first|(go_at_call 60;(with_reducible refine (psalteryref12_Same.calls k2 _ _ (rd_L4 l0_2 x5_2) _ _ (rd_L4 l1_2 x5_2) false _ ?side1 HC391_0.out ?side3 HC392_0.out A22.out).mono ?_);(case side1=>exact ycb HR391_0);(case side3=>exact ycb HR392_0);rintro e w' ⟨rfl,⟨nd,rfl⟩⟩;(try exact yww)))
      repeat (go_quiet (first|(go_at_call 60;(with_reducible refine (psalteryref12_Same.calls k2 _ _ (rd_L4 l0_2 x5_2) _ _ (rd_L4 l1_2 x5_2) false _ ?side1 HC391_0.out ?side3 HC392_0.out A22.out).mono ?_);(case side1=>exact ycb HR391_0);(case side3=>exact ycb HR392_0);rintro e w' ⟨rfl,⟨nd,rfl⟩⟩;(try exact yww)));try go_wp2_with (first|(go_at_call 60;(with_reducible refine (psalteryref12_Same.calls k2 _ _ (rd_L4 l0_2 x5_2) _ _ (rd_L4 l1_2 x5_2) false _ ?side1 HC391_0.out ?side3 HC392_0.out A22.out).mono ?_);(case side1=>exact ycb HR391_0);(case side3=>exact ycb HR392_0);rintro e w' ⟨rfl,⟨nd,rfl⟩⟩;(try exact yww))))
      go_ret
      exact ⟨ye,yhb⟩
    ·
     rw [if_neg c19] at H
     have c19b0 : decide (x5_2 < (l0_2.length : Int))=false:=decide_eq_false c19
     clear c19
     obtain rfl:=Option.some.inj H
     have:=NB388_389.out
     have:=NB389_388.out
     obtain ⟨_,_,_,_,_,_⟩:=yc3 BK388
     go_wp2
     repeat (go_quiet (fail);try go_wp2)
     go_ret
     exact ⟨ye,yhb⟩
def psalteryref07_size.f (a0 : Int) : Option (Int):=if a0 < 0 then (some (wrap64 (-a0))) else (some a0)
set_option maxHeartbeats 8000000 in
set_option maxRecDepth 100000 in
theorem psalteryref07_size.calls (a0 : Int) (r : Int) (w : World) (h : psalteryref07_size.f a0=some r) :
  Calls Try.prog 70 #[.int .i64 a0] w fun e w' => e=.returned (.int .i64 r)∧Drawn0 w w' := by
 have H : (if a0 < 0 then (some (wrap64 (-a0))) else (some a0))=some r:=h
 clear h
 by_cases c2 : a0 < 0
 ·
  rw [if_pos c2] at H
  have c2b0 : decide (a0 < 0)=true:=decide_eq_true c2
  clear c2
  obtain rfl:=Option.some.inj H
  go_enter Try.func70,Try.ntmps70
  go_wp2
  go_ret
  exact ⟨yq,yd⟩
 ·
  rw [if_neg c2] at H
  have c2b0 : decide (a0 < 0)=false:=decide_eq_false c2
  clear c2
  obtain rfl:=Option.some.inj H
  go_enter Try.func70,Try.ntmps70
  go_wp2
  go_ret
  exact ⟨yq,yd⟩
mutual
def psalteryref07_sizes.l0 : Nat→List Int→List Int→Int→Option (List Int)
 | 0,_,_,_=>none
 | k+1,x0,x3,x4=>if x4 < (x0.length : Int) then (if 0≤x4 then ((psalteryref07_size.f (rd x0 x4)).bind fun t470=>(if x3.length < 17592186044416 then (psalteryref07_sizes.l0 k x0 (x3 ++ [t470]) (wrap64 (x4+1))) else (none))) else (none)) else (psalteryref07_sizes.l1 k x3)
def psalteryref07_sizes.l1 : Nat→List Int→Option (List Int)
 | 0,_=>none
 | k+1,x3=>psalteryref07_sizes.l2 k x3 false 0
def psalteryref07_sizes.l2 : Nat→List Int→Bool→Int→Option (List Int)
 | 0,_,_,_=>none
 | k+1,x3,x5,x6=>if x6 < (x3.length : Int) then (if x5=true then (psalteryref07_sizes.l2 k x3 true (wrap64 (x6+1))) else (if 0≤x6 then (psalteryref07_sizes.l2 k x3 (decide ((rd x3 x6) ≥ 262144)) (wrap64 (x6+1))) else (none))) else (if x5=true then (psalteryref07_sizes.l3 k x3 0) else (some x3))
def psalteryref07_sizes.l3 : Nat→List Int→Int→Option (List Int)
 | 0,_,_=>none
 | k+1,x3,x7=>if x7 < (x3.length : Int) then (if 0≤x7 then (psalteryref07_sizes.l3 k (x3.set (x7 : Int).toNat (wrap64 (Int.tdiv (rd x3 x7) 2))) (wrap64 (x7+1))) else (none)) else (psalteryref07_sizes.l1 k x3)
end
def psalteryref07_sizes.f (k : Nat) (l0 : List Int) : Option (List Int):=psalteryref07_sizes.l0 k l0 ([] : List Int) 0
theorem psalteryref07_sizes.mono_l : ∀ k,(∀ y0 y1 y2,LeO (psalteryref07_sizes.l0 k y0 y1 y2) (psalteryref07_sizes.l0 (k+1) y0 y1 y2))∧(∀ y0,LeO (psalteryref07_sizes.l1 k y0) (psalteryref07_sizes.l1 (k+1) y0))∧(∀ y0 y1 y2,LeO (psalteryref07_sizes.l2 k y0 y1 y2) (psalteryref07_sizes.l2 (k+1) y0 y1 y2))∧(∀ y0 y1,LeO (psalteryref07_sizes.l3 k y0 y1) (psalteryref07_sizes.l3 (k+1) y0 y1))
 | 0=>⟨fun _ _ _ r h=>by simp [psalteryref07_sizes.l0] at h,fun _ r h=>by simp [psalteryref07_sizes.l1] at h,fun _ _ _ r h=>by simp [psalteryref07_sizes.l2] at h,fun _ _ r h=>by simp [psalteryref07_sizes.l3] at h⟩
 | k+1=>by
  obtain ⟨ih0,ih1,ih2,ih3⟩:=psalteryref07_sizes.mono_l k
  refine ⟨?_, ?_, ?_, ?_⟩
  ·
   intro y0 y1 y2
   unfold psalteryref07_sizes.l0
   repeat' with_reducible first|apply ih0|apply ih1|apply ih2|apply ih3|apply yLr|apply yLn|apply yLi|apply yLb|intro _
  ·
   intro y0
   unfold psalteryref07_sizes.l1
   repeat' with_reducible first|apply ih0|apply ih1|apply ih2|apply ih3|apply yLr|apply yLn|apply yLi|apply yLb|intro _
  ·
   intro y0 y1 y2
   unfold psalteryref07_sizes.l2
   repeat' with_reducible first|apply ih0|apply ih1|apply ih2|apply ih3|apply yLr|apply yLn|apply yLi|apply yLb|intro _
  ·
   intro y0 y1
   unfold psalteryref07_sizes.l3
   repeat' with_reducible first|apply ih0|apply ih1|apply ih2|apply ih3|apply yLr|apply yLn|apply yLi|apply yLb|intro _
theorem psalteryref07_sizes.mono : ∀ a0 k,LeO (psalteryref07_sizes.f k a0) (psalteryref07_sizes.f (k+1) a0):=by
 intro a0 k
 obtain ⟨ih0,ih1,ih2,ih3⟩:=psalteryref07_sizes.mono_l k
 unfold psalteryref07_sizes.f
 repeat' with_reducible first|apply ih0|apply ih1|apply ih2|apply ih3|apply yLr|apply yLn|apply yLi|apply yLb|intro _
set_option maxHeartbeats 8000000 in
set_option maxRecDepth 100000 in
theorem psalteryref07_sizes.calls (k : Nat) (A0 : Option Addr) (c0 : Nat) (l0 : List Int) (r : List Int) (w : World) (hr0 : Kd.C (Kd.int .i64) w A0 l0.length l0) (hc0 : l0.length≤c0) (h : psalteryref07_sizes.f k l0=some r) :
  Calls Try.prog 99 #[.slice A0 l0.length c0] w fun e w' => ∃ v0_ : Value,e=.returned (v0_)∧Kd.R (Kd.int .i64) 2 w' w.heap.size (fun _=>True) v0_ r∧Below w.heap.size w w' := by
 have HR0:=zm hr0;have HC0:=zm hc0;clear hr0 hc0;have HB:=zm (Below.refl w.heap.size w)
 have H : (psalteryref07_sizes.l0 k l0 ([] : List Int) 0)=some r:=h
 clear h
 have H' := zm H
 clear H
 go_enter Try.func99,Try.ntmps99
 go_wp2
 go_loopg [3,4] k (fun kq v3 v4 w' => ∃ (x3_1 : List Int) (x4_1 : Int),v4=.int .i64 x4_1∧Aside0 (psalteryref07_sizes.l0 kq l0 x3_1 x4_1=some r)∧Aside0 (kq≤k)∧Aside0 (Kd.R (Kd.int .i64) 2 w' w.heap.size (fun _=>True) v3 x3_1)∧Aside0 (Below w.heap.size w w'))
 case atStart=>exact ⟨(([] : List Int)),(0),yq,H',⟨Nat.le_refl _⟩,⟨yn⟩,⟨yhb⟩⟩
 case round =>
  clear H'
  obtain ⟨x3_1,x4_1,rfl,HA,HK1,HO_3,HB⟩:=hrel
  obtain ⟨k1,rfl⟩:=ysu gk (fun h=>by subst h;exact absurd HA.out (by simp [psalteryref07_sizes.l0]))
  have H:=HA.out;clear HA
  simp only [psalteryref07_sizes.l0] at H
  by_cases c2 : x4_1 < (l0.length : Int)
  ·
   rw [if_pos c2] at H
   have c2b0 : decide (x4_1 < (l0.length : Int))=true:=decide_eq_true c2
   clear c2
   replace H:=yif H;obtain ⟨c3,H⟩:=H
   have c3b0 : decide (0≤x4_1)=true:=decide_eq_true c3
   clear c3
   replace H:=ybi H;obtain ⟨t470,A4,H⟩:=H
   replace H:=yif H;obtain ⟨c5,H⟩:=H
   have LMc5:=zm c5;clear c5
   obtain ⟨y471,hy471⟩ : ∃ y_ : List Int,y_=(x3_1 ++ [t470]):=⟨_,rfl⟩
   replace H : (psalteryref07_sizes.l0 k1 l0 y471 (wrap64 (x4_1+1)))=some r:=yrw hy471 H
   have Ny471:=zm hy471;clear hy471
   have H' := zm H
   clear H
   have p469 : 0≤(x4_1 : Int):=yt
   have q469 : x4_1 < (l0.length : Int):=yt
   obtain ⟨ad469,e469,hx469_0⟩:=Kd.at_int HR0.out x4_1 p469 q469
   cases e469
   replace hx469_0:=yhx HB hx469_0
   replace p469:=eq_true p469
   replace q469:=eq_true q469
   go_wp2_with (first|((with_reducible refine gate_callee (f:=70) rfl ?_);refine ygl 19 Try.func70 #[.int .i64 (rd l0 x4_1)] ?_;(with_reducible refine (psalteryref07_size.calls (rd l0 x4_1) t470 _ A4.out).mono ?_);rintro e w' ⟨rfl,⟨nd,rfl⟩⟩;refine ⟨_,rfl, ?_⟩)|((with_reducible refine gate_builtin (b:=.append) (xs := #[.tmp 14, .tmp 20]) rfl ?_);at_builtin;refine Kd.R_append (Kd.int .i64) (w0:=w) w.heap.size rfl (.tmp 14) (.tmp 20) 53 2 (.int .i64 0) 8 rfl Try.underlying53 info2 rfl (by decide) (by omega) u3 x3_1 t470 [.int .i64 t470] (fun _=>True) (fun _=>False) rfl rfl ?aP (fun _ hk=>hk.elim) ?aF ?aO ?aB ?aS ?aL ?_;(case aP=>exact rfl);(case aB=>exact yhb);(case aF=>exact (fun _ _=>trivial));(case aO=>exact (yr HO_3));(case aS=>exact (zE yhb));(case aL=>have:=LMc5.out;omega);intro v472 w6 ho hb hg hat;rw [← Ny471.out] at ho;replace HB:=zm (hb);have HO473:=zm (ho);clear HO_3;clear ho hb hg hat))
   go_roundg k1
   case measure=>exact yom1 HK1
   case rel=>exact ⟨(y471),(wrap64 (x4_1+1)),yq,H',⟨yom1 HK1⟩,⟨yr HO473⟩,⟨yhb⟩⟩
  ·
   rw [if_neg c2] at H
   have c2b0 : decide (x4_1 < (l0.length : Int))=false:=decide_eq_false c2
   clear c2
   have H' := zm H
   clear H
   go_wp2
   go_loopg [] k1 (fun kq w' => ∃ (x3_2 : List Int),Aside0 (psalteryref07_sizes.l1 kq x3_2=some r)∧Aside0 (kq≤k1)∧Aside0 (Kd.R (Kd.int .i64) 2 w' w.heap.size (fun _=>True) u3 x3_2)∧Aside0 (Below w.heap.size w w'))
   case atStart=>exact ⟨(x3_1),H',⟨Nat.le_refl _⟩,⟨yr HO_3⟩,⟨yhb⟩⟩
   case round =>
    clear H'
    try clear c2b0
    try clear c3b0
    try clear hx469_0
    try clear p469
    try clear q469
    obtain ⟨x3_2,HA,HK2,HO_3,HB⟩:=hrel
    obtain ⟨k2,rfl⟩:=ysu gk (fun h=>by subst h;exact absurd HA.out (by simp [psalteryref07_sizes.l1]))
    have H:=HA.out;clear HA
    simp only [psalteryref07_sizes.l1] at H
    have H' := zm H
    clear H
    go_wp2
    go_loopg [5,6] k2 (fun kq v5 v6 w' => ∃ (x5_3 : Bool) (x6_3 : Int),v5=.bool x5_3∧v6=.int .i64 x6_3∧Aside0 (psalteryref07_sizes.l2 kq x3_2 x5_3 x6_3=some r)∧Aside0 (kq≤k2)∧Aside0 (Kd.R (Kd.int .i64) 2 w' w.heap.size (fun _=>True) u3 x3_2)∧Aside0 (Below w.heap.size w w'))
    case atStart=>exact ⟨(false),(0),yq,yq,H',⟨Nat.le_refl _⟩,⟨yr HO_3⟩,⟨yhb⟩⟩
    case round =>
     clear H'
     obtain ⟨x5_3,x6_3,rfl,rfl,HA,HK3,HO_3,HB⟩:=hrel
     obtain ⟨k3,rfl⟩:=ysu gk (fun h=>by subst h;exact absurd HA.out (by simp [psalteryref07_sizes.l2]))
     have H:=HA.out;clear HA
     simp only [psalteryref07_sizes.l2] at H
     by_cases c7 : x6_3 < (x3_2.length : Int)
     ·
      rw [if_pos c7] at H
      have c7b0 : decide (x6_3 < (x3_2.length : Int))=true:=decide_eq_true c7
      clear c7
      by_cases c8 : x5_3=true
      ·
       subst c8
       rw [if_pos rfl] at H
       have H' := zm H
       clear H
       obtain ⟨Ao9,co9,eo9⟩:=Kd.R_slice HO_3.out
       subst eo9
       go_wp2
       go_roundg k3
       case measure=>exact yom3 HK1 HK2 HK3
       case rel=>exact ⟨(true),(wrap64 (x6_3+1)),yq,yq,H',⟨yom3 HK1 HK2 HK3⟩,⟨yr HO_3⟩,⟨yhb⟩⟩
      ·
       replace c8:=Bool.eq_false_iff.mpr c8
       subst c8
       rw [ynf] at H
       replace H:=yif H;obtain ⟨c10,H⟩:=H
       have c10b0 : decide (0≤x6_3)=true:=decide_eq_true c10
       clear c10
       have H' := zm H
       clear H
       obtain ⟨Ao11,co11,eo11⟩:=Kd.R_slice HO_3.out
       subst eo11
       have p474 : 0≤(x6_3 : Int):=yt
       have q474 : x6_3 < (x3_2.length : Int):=yt
       obtain ⟨ad474,e474,hx474_0⟩:=Kd.at_int (Kd.R_reads' HO_3.out).2.2 x6_3 p474 q474
       cases e474
       replace p474:=eq_true p474
       replace q474:=eq_true q474
       go_wp2
       go_roundg k3
       case measure=>exact yom3 HK1 HK2 HK3
       case rel=>exact ⟨(decide ((rd x3_2 x6_3) ≥ 262144)),(wrap64 (x6_3+1)),yq,yq,H',⟨yom3 HK1 HK2 HK3⟩,⟨yr HO_3⟩,⟨yhb⟩⟩
     ·
      rw [if_neg c7] at H
      have c7b0 : decide (x6_3 < (x3_2.length : Int))=false:=decide_eq_false c7
      clear c7
      by_cases c12 : x5_3=true
      ·
       subst c12
       rw [if_pos rfl] at H
       have H' := zm H
       clear H
       obtain ⟨Ao13,co13,eo13⟩:=Kd.R_slice HO_3.out
       subst eo13
       go_wp2
       go_loopg [7] k3 (fun kq v7 w' => ∃ (x3_4 : List Int) (x7_4 : Int),v7=.int .i64 x7_4∧Aside0 (psalteryref07_sizes.l3 kq x3_4 x7_4=some r)∧Aside0 (kq≤k3)∧Aside0 (Kd.R (Kd.int .i64) 2 w' w.heap.size (fun _=>True) (.slice Ao13 x3_2.length co13) x3_4)∧Aside0 (Below w.heap.size w w'))
       case atStart=>exact ⟨(x3_2),(0),yq,H',⟨Nat.le_refl _⟩,⟨yr HO_3⟩,⟨yhb⟩⟩
       case round =>
        clear H'
        try clear c7b0
        try clear c8
        obtain ⟨x3_4,x7_4,rfl,HA,HK4,HO_3,HB⟩:=hrel
        have hl3_4:=(Kd.R_reads' HO_3.out).1
        rw [hl3_4] at HO_3
        (try simp only [hl3_4])
        obtain ⟨k4,rfl⟩:=ysu gk (fun h=>by subst h;exact absurd HA.out (by simp [psalteryref07_sizes.l3]))
        have H:=HA.out;clear HA
        simp only [psalteryref07_sizes.l3] at H
        by_cases c14 : x7_4 < (x3_4.length : Int)
        ·
         rw [if_pos c14] at H
         have c14b0 : decide (x7_4 < (x3_4.length : Int))=true:=decide_eq_true c14
         clear c14
         replace H:=yif H;obtain ⟨c15,H⟩:=H
         have c15b0 : decide (0≤x7_4)=true:=decide_eq_true c15
         clear c15
         obtain ⟨y476,hy476⟩ : ∃ y_ : List Int,y_=(x3_4.set (x7_4 : Int).toNat (wrap64 (Int.tdiv (rd x3_4 x7_4) 2))):=⟨_,rfl⟩
         replace H : (psalteryref07_sizes.l3 k4 y476 (wrap64 (x7_4+1)))=some r:=yrw hy476 H
         have Ny476:=zm hy476;clear hy476
         have H' := zm H
         clear H
         have p475 : 0≤(x7_4 : Int):=yt
         have q475 : x7_4 < (x3_4.length : Int):=yt
         obtain ⟨ad475,e475,hx475_0⟩:=Kd.at_int (Kd.R_reads' HO_3.out).2.2 x7_4 p475 q475
         cases e475
         replace p475:=eq_true p475
         replace q475:=eq_true q475
         have p16 : 0≤(x7_4 : Int):=yt
         have q16 : (x7_4 : Int) < ((x3_4.length : Int) : Int):=yt
         obtain ⟨go16,co16,eo16,gb16,gl16,cl16,HG16⟩:=Kd.R_form HO_3.out (by omega)
         (first|cases eo16|(injection eo16 with ea_ en_ ec_;(first|subst ea_|(injection ea_ with ea_;subst ea_));subst ec_;clear en_))
         have GB16:=zm gb16;have GG16:=zm HG16;clear gb16 gl16 HG16
         (first|simp only [add_plain] at hx475_0|skip)
         obtain ⟨hx16_0,hf16_0⟩:=Kd.R_celln 0 HO_3.out (x7_4 : Int) p16 q16
         replace p16:=eq_true p16
         replace q16:=eq_true q16
         have HP17:=Kd.R_putg HO_3.out (x7_4 : Int) (wrap64 (Int.tdiv (rd x3_4 x7_4) 2))
         go_wp2_with (first|((with_reducible refine gate_store (t:=2) (p:=52) rfl ?_);refine store_event (t:=2) (p:=52) (v := ?vo_w18) (w1:=(wr.setCell ⟨go16,(x7_4 : Int).toNat,none⟩ (.int .i64 (wrap64 (Int.tdiv (rd x3_4 x7_4) 2))))) ?hg ?ho ?hn ?hr ?_;(case ho=>rfl);(case hg=>rfl);(case hn=>rfl);(case hr=>first|(go_simp;done)|(go_simp;rfl));intro w18 hw;have hg : wr.grownBy w18 (some go16):=(by rw [hw];exact HP17.2);have hp_ : Kd.R (Kd.int .i64) 2 w18 w.heap.size (fun _=>True) (.slice (some ⟨go16,0,none⟩) x3_4.length co13) y476:=(by rw [hw,Ny476.out];exact HP17.1);clear HP17;replace HO_3:=zm (hp_);replace HB:=zm ((by rw [hw];exact zk (HB.out) GB16.out : Below w.heap.size w w18));clear hg hw hp_))
         (try simp only [← hl3_4])
         go_roundg k4
         case measure=>exact yom4 HK1 HK2 HK3 HK4
         case rel=>exact ⟨(y476),(wrap64 (x7_4+1)),yq,H',⟨yom4 HK1 HK2 HK3 HK4⟩,⟨by (try simp only [hl3_4]);(with_reducible repeat (first|apply zo|apply zp|apply zq));exact HO_3.out⟩,⟨yhb⟩⟩
        ·
         rw [if_neg c14] at H
         have c14b0 : decide (x7_4 < (x3_4.length : Int))=false:=decide_eq_false c14
         clear c14
         have H' := zm H
         clear H
         go_wp2
         (try simp only [← hl3_4])
         go_roundg k4
         case measure=>exact yom4 HK1 HK2 HK3 HK4
         case rel=>exact ⟨(x3_4),H',⟨yom4 HK1 HK2 HK3 HK4⟩,⟨by (try simp only [hl3_4]);(with_reducible repeat (first|apply zo|apply zp|apply zq));exact HO_3.out⟩,⟨yhb⟩⟩
      ·
       replace c12:=Bool.eq_false_iff.mpr c12
       subst c12
       rw [ynf] at H
       obtain rfl:=Option.some.inj H
       obtain ⟨Ao19,co19,eo19⟩:=Kd.R_slice HO_3.out
       subst eo19
       go_wp2
       go_ret
       exact ⟨_,ye,yr HO_3,yhb⟩
end Go.Proofs.Ytifkhfnmbiefaaa.Prt
