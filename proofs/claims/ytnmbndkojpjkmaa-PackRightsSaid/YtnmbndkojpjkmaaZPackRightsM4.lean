-- Functions of the program and of the document as plain Lean, each with the proof that the code comes to it. Written by a program of this session (wip/tools/myprint.py, pack.py) over the kit's printer; Lean checks it.
import Derived.Test.YtnmbndkojpjkmaaZPackRightsPrt0
import Derived.Test.YtnmbndkojpjkmaaZPackRightsM3
import Derived.Test.YtnmbndkojpjkmaaZPackRightsM1
import Derived.Test.YtnmbndkojpjkmaaZPackRightsSh
import Derived.Test.YtnmbndkojpjkmaaZPackRightsM2
import Derived.Laws.CopyOwn
namespace Go.Proofs.Ytnmbndkojpjkmaa.Prt
open Go.RowKit Go.Proofs.YtnmbndkojpjkmaaW.PrintWords Go.Proofs.YtnmbndkojpjkmaaW.PrintLast Go.Proofs.YtnmbndkojpjkmaaW.PrintMore
attribute [local go_sem] max2_int min2_int max_two min_two max_three min_three max_four min_four   -- for this text's walks alone
set_option linter.unusedVariables false
set_option linter.unusedSimpArgs false

/-! ### gain_Put: function 28 -/
mutual
def gain_Put.j0 : Nat→List Int→List Int→Bool→Bool→Int→Int→List Int→Int→Int→List Int→Option (Int × Int × List Int × Int)
 | 0,_,_,_,_,_,_,_,_,_,_=>none
 | k+1,x1,x2,x3,x33,x267000,x267001,x267002,x275000,x275001,x275002=>if x33=true then (some (x275000,x275001,x275002,1)) else (gain_Put.l0 k x1 x2 x3 0 x275000 x275001 x275002 x267000 x267001 x267002)
def gain_Put.l0 : Nat→List Int→List Int→Bool→Int→Int→Int→List Int→Int→Int→List Int→Option (Int × Int × List Int × Int)
 | 0,_,_,_,_,_,_,_,_,_,_=>none
 | k+1,x1,x2,x3,x36,x275000,x275001,x275002,x278000,x278001,x278002=>if x36 < 5 then (if x3=true then (gain_Put.j2 k x1 x2 x3 x36 0 x36 x275000 x275001 x275002 x278000 x278001 x278002) else (if 0≤x36 then (if x36 < (x2.length : Int) then (gain_Put.j2 k x1 x2 x3 x36 (rd x2 x36) x36 x275000 x275001 x275002 x278000 x278001 x278002) else (none)) else (none))) else (some (x278000,x278001,x278002,0))
def gain_Put.j2 : Nat→List Int→List Int→Bool→Int→Int→Int→Int→Int→List Int→Int→Int→List Int→Option (Int × Int × List Int × Int)
 | 0,_,_,_,_,_,_,_,_,_,_,_,_=>none
 | k+1,x1,x2,x3,x13,x14,x36,x275000,x275001,x275002,x278000,x278001,x278002=>if 0≤x13 then (if x13 < (x1.length : Int) then ((gain_put.f k x278000 x278001 x278002 (rd x1 x13) x14 x3).bind fun bt280=>(if bt280.2.2.2=0 then (gain_Put.l0 k x1 x2 x3 (wrap64 (x36+1)) x275000 x275001 x275002 bt280.1 bt280.2.1 bt280.2.2.1) else (some (x275000,x275001,x275002,bt280.2.2.2)))) else (none)) else (none)
end
def gain_Put.f (k : Nat) (a0_0 : Int) (a0_1 : Int) (l0_2 : List Int) (l1 : List Int) (l2 : List Int) (a3 : Bool) : Option (Int × Int × List Int × Int):=(coder_Put.f k a0_0 a0_1 l0_2 0 1 0).bind fun bt268=>((gain_Right.f k l1).bind fun t275=>(if t275=true then (if a3=true then (gain_Put.j0 k l1 l2 a3 false a0_0 a0_1 l0_2 bt268.1 bt268.2.1 bt268.2.2.1) else ((gain_Right.f k l2).bind fun t276=>(gain_Put.j0 k l1 l2 a3 (!t276) a0_0 a0_1 l0_2 bt268.1 bt268.2.1 bt268.2.2.1))) else (gain_Put.j0 k l1 l2 a3 true a0_0 a0_1 l0_2 bt268.1 bt268.2.1 bt268.2.2.1)))
theorem gain_Put.mono_l : ∀ k,(∀ y0 y1 y2 y3 y4 y5 y6 y7 y8 y9,LeO (gain_Put.j0 k y0 y1 y2 y3 y4 y5 y6 y7 y8 y9) (gain_Put.j0 (k+1) y0 y1 y2 y3 y4 y5 y6 y7 y8 y9))∧(∀ y0 y1 y2 y3 y4 y5 y6 y7 y8 y9,LeO (gain_Put.l0 k y0 y1 y2 y3 y4 y5 y6 y7 y8 y9) (gain_Put.l0 (k+1) y0 y1 y2 y3 y4 y5 y6 y7 y8 y9))∧(∀ y0 y1 y2 y3 y4 y5 y6 y7 y8 y9 y10 y11,LeO (gain_Put.j2 k y0 y1 y2 y3 y4 y5 y6 y7 y8 y9 y10 y11) (gain_Put.j2 (k+1) y0 y1 y2 y3 y4 y5 y6 y7 y8 y9 y10 y11))
 | 0=>⟨fun _ _ _ _ _ _ _ _ _ _ r h=>by simp [gain_Put.j0] at h,fun _ _ _ _ _ _ _ _ _ _ r h=>by simp [gain_Put.l0] at h,fun _ _ _ _ _ _ _ _ _ _ _ _ r h=>by simp [gain_Put.j2] at h⟩
 | k+1=>by
  obtain ⟨ih0,ih1,ih2⟩:=gain_Put.mono_l k
  refine ⟨?_, ?_, ?_⟩
  ·
   intro y0 y1 y2 y3 y4 y5 y6 y7 y8 y9
   unfold gain_Put.j0
   repeat' first
   | (with_reducible exact ih0 _ _ _ _ _ _ _ _ _ _)
   | (with_reducible exact ih1 _ _ _ _ _ _ _ _ _ _)
   | (with_reducible exact ih2 _ _ _ _ _ _ _ _ _ _ _ _)
   | (with_reducible exact coder_Put.mono _ _ _ _ _ _ _)
   | (with_reducible exact gain_Right.mono _ _)
   | (with_reducible exact gain_put.mono _ _ _ _ _ _ _)
   | (with_reducible exact LeO.refl _)
   | (with_reducible exact LeO.none _)
   | (with_reducible refine LeO.ite ?_ ?_)
   | (with_reducible refine LeO.bind ?_ (fun _ => ?_))
   | exact ih0 _ _ _ _ _ _ _ _ _ _
   | exact ih1 _ _ _ _ _ _ _ _ _ _
   | exact ih2 _ _ _ _ _ _ _ _ _ _ _ _
   | exact coder_Put.mono _ _ _ _ _ _ _
   | exact gain_Right.mono _ _
   | exact gain_put.mono _ _ _ _ _ _ _
   | exact LeO.none _
   | refine LeO.ite ?_ ?_
   | refine LeO.bind ?_ (fun _ => ?_)
  ·
   intro y0 y1 y2 y3 y4 y5 y6 y7 y8 y9
   unfold gain_Put.l0
   repeat' first
   | (with_reducible exact ih0 _ _ _ _ _ _ _ _ _ _)
   | (with_reducible exact ih1 _ _ _ _ _ _ _ _ _ _)
   | (with_reducible exact ih2 _ _ _ _ _ _ _ _ _ _ _ _)
   | (with_reducible exact coder_Put.mono _ _ _ _ _ _ _)
   | (with_reducible exact gain_Right.mono _ _)
   | (with_reducible exact gain_put.mono _ _ _ _ _ _ _)
   | (with_reducible exact LeO.refl _)
   | (with_reducible exact LeO.none _)
   | (with_reducible refine LeO.ite ?_ ?_)
   | (with_reducible refine LeO.bind ?_ (fun _ => ?_))
   | exact ih0 _ _ _ _ _ _ _ _ _ _
   | exact ih1 _ _ _ _ _ _ _ _ _ _
   | exact ih2 _ _ _ _ _ _ _ _ _ _ _ _
   | exact coder_Put.mono _ _ _ _ _ _ _
   | exact gain_Right.mono _ _
   | exact gain_put.mono _ _ _ _ _ _ _
   | exact LeO.none _
   | refine LeO.ite ?_ ?_
   | refine LeO.bind ?_ (fun _ => ?_)
  ·
   intro y0 y1 y2 y3 y4 y5 y6 y7 y8 y9 y10 y11
   unfold gain_Put.j2
   repeat' first
   | (with_reducible exact ih0 _ _ _ _ _ _ _ _ _ _)
   | (with_reducible exact ih1 _ _ _ _ _ _ _ _ _ _)
   | (with_reducible exact ih2 _ _ _ _ _ _ _ _ _ _ _ _)
   | (with_reducible exact coder_Put.mono _ _ _ _ _ _ _)
   | (with_reducible exact gain_Right.mono _ _)
   | (with_reducible exact gain_put.mono _ _ _ _ _ _ _)
   | (with_reducible exact LeO.refl _)
   | (with_reducible exact LeO.none _)
   | (with_reducible refine LeO.ite ?_ ?_)
   | (with_reducible refine LeO.bind ?_ (fun _ => ?_))
   | exact ih0 _ _ _ _ _ _ _ _ _ _
   | exact ih1 _ _ _ _ _ _ _ _ _ _
   | exact ih2 _ _ _ _ _ _ _ _ _ _ _ _
   | exact coder_Put.mono _ _ _ _ _ _ _
   | exact gain_Right.mono _ _
   | exact gain_put.mono _ _ _ _ _ _ _
   | exact LeO.none _
   | refine LeO.ite ?_ ?_
   | refine LeO.bind ?_ (fun _ => ?_)
theorem gain_Put.mono : ∀ a0 a1 a2 a3 a4 a5 k,LeO (gain_Put.f k a0 a1 a2 a3 a4 a5) (gain_Put.f (k+1) a0 a1 a2 a3 a4 a5):=by
 intro a0 a1 a2 a3 a4 a5 k
 obtain ⟨ih0,ih1,ih2⟩:=gain_Put.mono_l k
 unfold gain_Put.f
 repeat' first
   | (with_reducible exact ih0 _ _ _ _ _ _ _ _ _ _)
   | (with_reducible exact ih1 _ _ _ _ _ _ _ _ _ _)
   | (with_reducible exact ih2 _ _ _ _ _ _ _ _ _ _ _ _)
   | (with_reducible exact coder_Put.mono _ _ _ _ _ _ _)
   | (with_reducible exact gain_Right.mono _ _)
   | (with_reducible exact gain_put.mono _ _ _ _ _ _ _)
   | (with_reducible exact LeO.refl _)
   | (with_reducible exact LeO.none _)
   | (with_reducible refine LeO.ite ?_ ?_)
   | (with_reducible refine LeO.bind ?_ (fun _ => ?_))
   | exact ih0 _ _ _ _ _ _ _ _ _ _
   | exact ih1 _ _ _ _ _ _ _ _ _ _
   | exact ih2 _ _ _ _ _ _ _ _ _ _ _ _
   | exact coder_Put.mono _ _ _ _ _ _ _
   | exact gain_Right.mono _ _
   | exact gain_put.mono _ _ _ _ _ _ _
   | exact LeO.none _
   | refine LeO.ite ?_ ?_
   | refine LeO.bind ?_ (fun _ => ?_)
def gain_Put.T11 : Bool × List (List Nat × List Nat):=(true, [([], []),([], []),([], []),([1,2], [1,2]),([3], [3]),([], []),([], []),([0,4,5,6], [0,4,5,6]),([7], [7]),([8], [8]),([8], [8]),([], []),([11,9,7,0,1,2,3,4,5,6,7,8,9,11], [9,11]),([10,12,0,1,2,3,4,5,6,7,8,9,10,11,12], [10])])
def gain_Put.B11 : List Nat := [0,0,0,6,14,0,0,127,255,511,511,0,3071,8191]
theorem gain_Put.tab11 : rtab .any (opsOf Try.f28 11)=gain_Put.T11:=by kernel_rfl
theorem gain_Put.bits11 : waitsOk gain_Put.T11.2 gain_Put.B11=true:=by kernel_rfl
set_option maxHeartbeats 8000000 in
set_option maxRecDepth 100000 in
theorem gain_Put.calls (k : Nat) (a0_0 : Int) (a0_1 : Int) (P0_2_ : Nat→Prop) (A0_2 : Option Addr) (c0_2 : Nat) (l0_2 : List Int) (A1 : Option Addr) (c1 : Nat) (l1 : List Int) (A2 : Option Addr) (c2 : Nat) (l2 : List Int) (a3 : Bool) (r1 : Int) (r2 : Int) (r3 : List Int) (r4 : Int) (w : World) (hs0_2 : Kd.V (Kd.int .u8) 5 w w.heap.size (fun k_=>P0_2_ k_) (.slice A0_2 l0_2.length c0_2) l0_2) (hr1 : Kd.C (Kd.int .i64) w A1 l1.length l1) (hc1 : l1.length≤c1) (hr2 : Kd.C (Kd.int .i64) w A2 l2.length l2) (hc2 : l2.length≤c2) (h : gain_Put.f k a0_0 a0_1 l0_2 l1 l2 a3=some (r1,r2,r3,r4)) :
  Calls Try.prog 28 #[.agg #[.int .u64 a0_0, .int .u32 a0_1, .slice A0_2 l0_2.length c0_2], .slice A1 l1.length c1, .slice A2 l2.length c2, .bool a3] w fun e w' => ∃ v2_ : Value,e=.returned (.tuple #[.agg #[.int .u64 r1, .int .u32 r2,v2_], .int .i64 r4])∧Kd.V (Kd.int .u8) 5 w' w.heap.size (fun k_=>(P0_2_ k_∨w.heap.size≤k_)) v2_ r3∧Below w.heap.size w w' := by
 have hu54:=Try.underlying54
 have HO0_2:=zm (show Kd.V (Kd.int .u8) 5 w w.heap.size (fun k_=>(P0_2_ k_∨w.heap.size≤k_)) (.slice A0_2 l0_2.length c0_2) l0_2 from zy hs0_2 (fun k_ hk => .inl hk))
 have HR1:=zm hr1;have HC1:=zm hc1;clear hr1 hc1;have HR2:=zm hr2;have HC2:=zm hc2;clear hr2 hc2;have HB:=zm (Below.refl w.heap.size w)
 have H : ((coder_Put.f k a0_0 a0_1 l0_2 0 1 0).bind fun bt268=>((gain_Right.f k l1).bind fun t275=>(if t275=true then (if a3=true then (gain_Put.j0 k l1 l2 a3 false a0_0 a0_1 l0_2 bt268.1 bt268.2.1 bt268.2.2.1) else ((gain_Right.f k l2).bind fun t276=>(gain_Put.j0 k l1 l2 a3 (!t276) a0_0 a0_1 l0_2 bt268.1 bt268.2.1 bt268.2.2.1))) else (gain_Put.j0 k l1 l2 a3 true a0_0 a0_1 l0_2 bt268.1 bt268.2.1 bt268.2.2.1))))=some (r1,r2,r3,r4):=h
 clear h
 obtain ⟨⟨t268,t269,t270,t273⟩,A5,H⟩:=ybi H
 try dsimp only at H
 have HC6:=zm H;clear H
 go_enter Try.func28,Try.ntmps28
 go_upto_region 2 with (first|((with_reducible refine gate_dst (N:=4) rfl ?_);refine ybx 4 #[.int .u64 a0_0, .int .u32 a0_1, .slice A0_2 l0_2.length c0_2] 54 ?_;intro gb266 hg w7 hbox hb;replace HO0_2:=yVe HO0_2 hg hb;have BK266:=zm (hbox);have GW266:=ygw hg;have GE266:=ygw hg;replace HB:=ybs hb;clear hb hbox hg)|((with_reducible refine gate_dst (N:=8) rfl ?_);refine ybx 8 #[.int .u64 0, .int .u32 0, .slice none 0 0] 54 ?_;intro gb267 hg w8 hbox hb;replace HO0_2:=yVe HO0_2 hg hb;have BK267:=zm (hbox);have GW267:=ygw hg;have GE267:=ygw hg;replace HB:=ybs hb;have NB266_267:=ynl BK266 hg;have NB267_266:=yng BK266 hg;replace BK266:=ybb BK266 hb;clear hb hbox hg;have hnb9:=NB266_267.out;have hnc9:=NB267_266.out;obtain ⟨hcz10_0,hcz10_1,hcz10_2,hfz10_0,hfz10_1,hfz10_2⟩:=yc3 BK266)|((with_reducible refine gate_callee (f:=26) rfl ?_);refine ygl 19 Try.func26 #[.agg #[.int .u64 a0_0, .int .u32 a0_1, .slice A0_2 l0_2.length c0_2], .int .i64 0, .int .i64 1, .int .i64 0] ?_;(with_reducible refine (coder_Put.calls k a0_0 a0_1 _ _ l0_2 0 1 0 t268 t269 t270 t273 _ ?side1 ?side2 A5.out).mono ?_);(case side1=>exact yce (Kd.V_reads' HO0_2.out).2.2);(case side2=>exact (Kd.V_reads' HO0_2.out).2.1);rintro e w11 ⟨v271,rfl,ho0,hb⟩;refine ⟨_,rfl, ?_⟩;replace HO0_2:=zm (Kd.V_elder' (yr HO0_2) (Kd.R_base ho0) hb);have HO272:=zm (Kd.R_lower (Kd.R_newM (M:=fun k_=>(w.heap.size≤k_)) ho0 (zE yhb) (fun k_ h_=>h_)) (zE yhb));replace BK266:=ybb BK266 hb;replace BK267:=ybb BK267 hb;replace HB:=ybs hb;(try clear hb);(try clear hb2);(try clear hk);(try clear hi);(try clear ho0))|((with_reducible refine gate_dst (N:=10) rfl ?_);refine ybx 10 #[.int .u64 0, .int .u32 0, .slice none 0 0] 54 ?_;intro gb274 hg w12 hbox hb;replace HO0_2:=yVe HO0_2 hg hb;replace HO272:=yRb HO272 hb;have BK274:=zm (hbox);have GW274:=ygw hg;have GE274:=ygw hg;replace HB:=ybs hb;have NB266_274:=ynl BK266 hg;have NB274_266:=yng BK266 hg;replace BK266:=ybb BK266 hb;have NB267_274:=ynl BK267 hg;have NB274_267:=yng BK267 hg;replace BK267:=ybb BK267 hb;clear hb hbox hg;have hnb13:=NB274_266.out;have hnc13:=NB266_274.out;have hnb14:=NB274_267.out;have hnc14:=NB267_274.out;obtain ⟨hcz15_0,hcz15_1,hcz15_2,hfz15_0,hfz15_1,hfz15_2⟩:=yc3 BK274;obtain ⟨Ao16,co16,eo16⟩:=Kd.R_slice HO272.out;subst eo16))
 (try simp only [Act.put,List.setIfInBounds_toArray,List.set_cons_zero,List.set_cons_succ])
 go_cut [33] (fun v33 wc => ∃ (kq : Nat) (x33_5 : Bool),v33=.bool x33_5∧Aside0 (gain_Put.j0 kq l1 l2 a3 x33_5 a0_0 a0_1 l0_2 t268 t269 t270=some (r1,r2,r3,r4))∧Aside0 (kq≤k)∧Aside0 (Kd.V (Kd.int .u8) 5 wc w.heap.size (fun k_=>(P0_2_ k_∨w.heap.size≤k_)∧some k_≠((.slice Ao16 t270.length co16) : Value).ownBlock∧k_≠gb266∧k_≠gb267∧k_≠gb274) (.slice A0_2 l0_2.length c0_2) l0_2)∧Aside0 (Kd.R (Kd.int .u8) 5 wc w.heap.size (fun k_=>(w.heap.size≤k_)) (.slice Ao16 t270.length co16) t270)∧Aside0 (wc.heap[gb266]? = some (.cells #[.int .u64 a0_0, .int .u32 a0_1,(.slice A0_2 l0_2.length c0_2)] 54 (0,0)))∧Aside0 (wc.heap[gb267]? = some (.cells #[.int .u64 0, .int .u32 0,(.slice none 0 0)] 54 (0,0)))∧Aside0 (wc.heap[gb274]? = some (.cells #[.int .u64 t268, .int .u32 t269,(.slice Ao16 t270.length co16)] 54 (0,0)))∧Aside0 (Below w.heap.size w wc))
 case first =>
  have H:=HC6.out;clear HC6
  obtain ⟨t275,A17,H⟩:=ybi H
  by_cases c18 : t275=true
  ·
   subst c18
   rw [if_pos rfl] at H
   by_cases c19 : a3=true
   ·
    subst c19
    rw [if_pos rfl] at H
    have H' := zm H
    clear H
    go_wp2_with (first|((with_reducible refine gate_callee (f:=62) rfl ?_);refine ygl 23 Try.func62 #[.slice A1 l1.length c1] ?_;(with_reducible refine (gain_Right.calls k _ _ l1 true _ ?side1 HC1.out A17.out).mono ?_);(case side1=>exact Kd.C_below HR1.out yhb);rintro e w' ⟨rfl,⟨nd,rfl⟩⟩;refine ⟨_,rfl, ?_⟩))
    go_meet
    case rel=>exact ⟨_,(false),yq,H',⟨yo⟩,⟨by (with_reducible repeat (first|apply zA|apply zB|apply zC));exact zy (zI (p:=⟨gb274,2,none⟩) (zI (p:=⟨gb274,1,none⟩) (zI (p:=⟨gb274,0,none⟩) (zy HO0_2.out (fun k_ hk=>(⟨hk,hk.2⟩ : _∧k_≠gb274))) (fun _ hk=>hk.2) (.int .u64 t268)) (fun _ hk=>hk.2) (.int .u32 t269)) (fun _ hk=>hk.2) (.slice Ao16 t270.length co16)) (fun _ hk=>⟨hk.1.1.1.1.1,⟨hk.1.1.2,⟨hk.1.1.1.1.2,⟨hk.1.1.1.2,hk.1.2⟩⟩⟩⟩)⟩,⟨by (with_reducible repeat (first|apply zo|apply zp|apply zq));exact zG (zH (p:=⟨gb274,2,none⟩) (zH (p:=⟨gb274,1,none⟩) (zH (p:=⟨gb274,0,none⟩) (Kd.R_types HO272.out BK274.out (by decide)) (fun _ hk=>hk.2) (.int .u64 t268)) (fun _ hk=>hk.2) (.int .u32 t269)) (fun _ hk=>hk.2) (.slice Ao16 t270.length co16)) (fun _ hk=>hk.1.1)⟩,⟨yk BK266⟩,⟨yk BK267⟩,⟨yk BK274⟩,⟨yhb⟩⟩
   ·
    replace c19:=Bool.eq_false_iff.mpr c19
    subst c19
    rw [ynf] at H
    obtain ⟨t276,A20,H⟩:=ybi H
    have H' := zm H
    clear H
    go_wp2_with (first|((with_reducible refine gate_callee (f:=62) rfl ?_);refine ygl 23 Try.func62 #[.slice A1 l1.length c1] ?_;(with_reducible refine (gain_Right.calls k _ _ l1 true _ ?side1 HC1.out A17.out).mono ?_);(case side1=>exact Kd.C_below HR1.out yhb);rintro e w' ⟨rfl,⟨nd,rfl⟩⟩;refine ⟨_,rfl, ?_⟩)|(go_at_call 62;(with_reducible refine (gain_Right.calls k _ _ l2 t276 _ ?side1 HC2.out A20.out).mono ?_);(case side1=>exact Kd.C_below HR2.out yhb);rintro e w' ⟨rfl,⟨nd,rfl⟩⟩))
    go_meet
    case rel=>exact ⟨_,(!t276),yq,H',⟨yo⟩,⟨by (with_reducible repeat (first|apply zA|apply zB|apply zC));exact zy (zI (p:=⟨gb274,2,none⟩) (zI (p:=⟨gb274,1,none⟩) (zI (p:=⟨gb274,0,none⟩) (zy HO0_2.out (fun k_ hk=>(⟨hk,hk.2⟩ : _∧k_≠gb274))) (fun _ hk=>hk.2) (.int .u64 t268)) (fun _ hk=>hk.2) (.int .u32 t269)) (fun _ hk=>hk.2) (.slice Ao16 t270.length co16)) (fun _ hk=>⟨hk.1.1.1.1.1,⟨hk.1.1.2,⟨hk.1.1.1.1.2,⟨hk.1.1.1.2,hk.1.2⟩⟩⟩⟩)⟩,⟨by (with_reducible repeat (first|apply zo|apply zp|apply zq));exact zG (zH (p:=⟨gb274,2,none⟩) (zH (p:=⟨gb274,1,none⟩) (zH (p:=⟨gb274,0,none⟩) (Kd.R_types HO272.out BK274.out (by decide)) (fun _ hk=>hk.2) (.int .u64 t268)) (fun _ hk=>hk.2) (.int .u32 t269)) (fun _ hk=>hk.2) (.slice Ao16 t270.length co16)) (fun _ hk=>hk.1.1)⟩,⟨yk BK266⟩,⟨yk BK267⟩,⟨yk BK274⟩,⟨yhb⟩⟩
  ·
   replace c18:=Bool.eq_false_iff.mpr c18
   subst c18
   rw [ynf] at H
   have H' := zm H
   clear H
   go_wp2_with (first|((with_reducible refine gate_callee (f:=62) rfl ?_);refine ygl 23 Try.func62 #[.slice A1 l1.length c1] ?_;(with_reducible refine (gain_Right.calls k _ _ l1 false _ ?side1 HC1.out A17.out).mono ?_);(case side1=>exact Kd.C_below HR1.out yhb);rintro e w' ⟨rfl,⟨nd,rfl⟩⟩;refine ⟨_,rfl, ?_⟩))
   go_meet
   case rel=>exact ⟨_,(true),yq,H',⟨yo⟩,⟨by (with_reducible repeat (first|apply zA|apply zB|apply zC));exact zy (zI (p:=⟨gb274,2,none⟩) (zI (p:=⟨gb274,1,none⟩) (zI (p:=⟨gb274,0,none⟩) (zy HO0_2.out (fun k_ hk=>(⟨hk,hk.2⟩ : _∧k_≠gb274))) (fun _ hk=>hk.2) (.int .u64 t268)) (fun _ hk=>hk.2) (.int .u32 t269)) (fun _ hk=>hk.2) (.slice Ao16 t270.length co16)) (fun _ hk=>⟨hk.1.1.1.1.1,⟨hk.1.1.2,⟨hk.1.1.1.1.2,⟨hk.1.1.1.2,hk.1.2⟩⟩⟩⟩)⟩,⟨by (with_reducible repeat (first|apply zo|apply zp|apply zq));exact zG (zH (p:=⟨gb274,2,none⟩) (zH (p:=⟨gb274,1,none⟩) (zH (p:=⟨gb274,0,none⟩) (Kd.R_types HO272.out BK274.out (by decide)) (fun _ hk=>hk.2) (.int .u64 t268)) (fun _ hk=>hk.2) (.int .u32 t269)) (fun _ hk=>hk.2) (.slice Ao16 t270.length co16)) (fun _ hk=>hk.1.1)⟩,⟨yk BK266⟩,⟨yk BK267⟩,⟨yk BK274⟩,⟨yhb⟩⟩
 case rest =>
  clear HC6
  try clear c1
  try clear c2
  try clear hcz10_0
  try clear hcz10_1
  try clear hcz10_2
  try clear hcz15_0
  try clear hcz15_1
  try clear hcz15_2
  try clear hfz10_0
  try clear hfz10_1
  try clear hfz10_2
  try clear hfz15_0
  try clear hfz15_1
  try clear hfz15_2
  obtain ⟨kq,x33_5,rfl,HA,HJ5,HO_267002,HO_275002,BK266,BK267,BK274,HB⟩:=hcut
  cases kq with
  | zero=>exact absurd HA.out (by simp [gain_Put.j0])
  | succ kj5 =>
   have H:=HA.out;clear HA
   simp only [gain_Put.j0] at H
   by_cases c21 : x33_5=true
   ·
    subst c21
    rw [if_pos rfl] at H
    simp only [Option.some.injEq,Prod.mk.injEq] at H
    obtain ⟨rfl,rfl,rfl,rfl⟩:=H
    have hnb22:=NB274_266.out;have hnc22:=NB266_274.out;have hnb23:=NB274_267.out;have hnc23:=NB267_274.out
    obtain ⟨hcz24_0,hcz24_1,hcz24_2,hfz24_0,hfz24_1,hfz24_2⟩:=yc3 BK274
    have hnb25:=NB267_266.out;have hnc25:=NB266_267.out
    obtain ⟨hcz26_0,hcz26_1,hcz26_2,hfz26_0,hfz26_1,hfz26_2⟩:=yc3 BK267
    go_wp2
    refine bodyPost_ret (results_ct rfl _ _ gb267 54 #[.int .u64 t268, .int .u32 t269, .slice Ao16 t270.length co16] (0,0) _ rfl (yk BK267) Try.underlying54 rfl (by kernel_rfl)) rfl ?_
    exact ⟨_,ye,zy (Kd.R_V (by (with_reducible repeat (first|apply zo|apply zp|apply zq));exact zG (zH (p:=⟨gb267,2,none⟩) (zH (p:=⟨gb267,1,none⟩) (zH (p:=⟨gb267,0,none⟩) (Kd.R_types HO_275002.out BK267.out (by decide)) (fun _ hk=>hk.2) (.int .u64 t268)) (fun _ hk=>hk.2) (.int .u32 t269)) (fun _ hk=>hk.2) (.slice Ao16 t270.length co16)) (fun _ hk=>hk.1))) (fun k_ hk=>by first|exact ⟨(.inr (hk.1)),hk.2⟩|exact (.inr (hk))),yhb⟩
   ·
    replace c21:=Bool.eq_false_iff.mpr c21
    subst c21
    rw [ynf] at H
    have H' := zm H
    clear H;have hnb27:=NB266_267.out;have hnc27:=NB267_266.out;have hnb28:=NB266_274.out;have hnc28:=NB274_266.out
    obtain ⟨hcz29_0,hcz29_1,hcz29_2,hfz29_0,hfz29_1,hfz29_2⟩:=yc3 BK266
    go_wp2_with (first|((with_reducible refine gate_dst (N:=12) rfl ?_);refine ybx 12 #[.int .u64 0, .int .u32 0, .slice none 0 0] 54 ?_;intro gb277 hg w30 hbox hb;replace HO_267002:=yVe HO_267002 hg hb;replace HO_275002:=yRb HO_275002 hb;have BK277:=zm (hbox);have GW277:=ygw hg;have GE277:=ygw hg;replace HB:=ybs hb;have NB266_277:=ynl BK266 hg;have NB277_266:=yng BK266 hg;replace BK266:=ybb BK266 hb;have NB267_277:=ynl BK267 hg;have NB277_267:=yng BK267 hg;replace BK267:=ybb BK267 hb;have NB274_277:=ynl BK274 hg;have NB277_274:=yng BK274 hg;replace BK274:=ybb BK274 hb;clear hb hbox hg;have hnb31:=NB277_266.out;have hnc31:=NB266_277.out;have hnb32:=NB277_267.out;have hnc32:=NB267_277.out;have hnb33:=NB277_274.out;have hnc33:=NB274_277.out;obtain ⟨hcz34_0,hcz34_1,hcz34_2,hfz34_0,hfz34_1,hfz34_2⟩:=yc3 BK277))
    go_loopg [36] kj5 (fun kq v36 w' => ∃ (x36_2 : Int) (x268000_2 : Int) (x268001_2 : Int) (x278000_2 : Int) (x278001_2 : Int) (x278002_2 : List Int) (u278002 : Value),v36=.int .i64 x36_2∧Aside0 (gain_Put.l0 kq l1 l2 a3 x36_2 t268 t269 t270 x278000_2 x278001_2 x278002_2=some (r1,r2,r3,r4))∧Aside0 (kq≤kj5)∧Aside0 (Kd.V (Kd.int .u8) 5 w' w.heap.size (fun k_=>(P0_2_ k_∨w.heap.size≤k_)∧some k_≠((.slice Ao16 t270.length co16) : Value).ownBlock∧k_≠gb266∧k_≠gb267∧k_≠gb274∧k_≠gb277) (.slice A0_2 l0_2.length c0_2) l0_2)∧Aside0 (Kd.R (Kd.int .u8) 5 w' w.heap.size (fun k_=>(w.heap.size≤k_)) (.slice Ao16 t270.length co16) t270)∧Aside0 (Kd.V (Kd.int .u8) 5 w' w.heap.size (fun k_=>(P0_2_ k_∨w.heap.size≤k_)∧some k_≠((.slice Ao16 t270.length co16) : Value).ownBlock∧k_≠gb266∧k_≠gb267∧k_≠gb274∧k_≠gb277) u278002 x278002_2)∧Aside0 (w'.heap[gb266]? = some (.cells #[.int .u64 a0_0, .int .u32 a0_1,(.slice A0_2 l0_2.length c0_2)] 54 (0,0)))∧Aside0 (w'.heap[gb267]? = some (.cells #[.int .u64 x268000_2, .int .u32 x268001_2,(.slice none 0 0)] 54 (0,0)))∧Aside0 (w'.heap[gb274]? = some (.cells #[.int .u64 t268, .int .u32 t269,(.slice Ao16 t270.length co16)] 54 (0,0)))∧Aside0 (w'.heap[gb277]? = some (.cells #[.int .u64 x278000_2, .int .u32 x278001_2,u278002] 54 (0,0)))∧Aside0 (Below w.heap.size w w'))
    case atStart=>exact ⟨(0),(0),(0),(a0_0),(a0_1),(l0_2),(.slice A0_2 l0_2.length c0_2),yq,H',⟨Nat.le_refl _⟩,⟨by (with_reducible repeat (first|apply zA|apply zB|apply zC));exact zy (zI (p:=⟨gb277,2,none⟩) (zI (p:=⟨gb277,1,none⟩) (zI (p:=⟨gb277,0,none⟩) (zy HO_267002.out (fun k_ hk=>(⟨hk,hk.2⟩ : _∧k_≠gb277))) (fun _ hk=>hk.2) (.int .u64 a0_0)) (fun _ hk=>hk.2) (.int .u32 a0_1)) (fun _ hk=>hk.2) (.slice A0_2 l0_2.length c0_2)) (fun _ hk=>⟨hk.1.1.1,⟨hk.1.1.2.1,⟨hk.1.1.2.2.1,⟨hk.1.1.2.2.2.1,⟨hk.1.1.2.2.2.2,hk.1.2⟩⟩⟩⟩⟩)⟩,⟨by (with_reducible repeat (first|apply zo|apply zp|apply zq));exact zG (zH (p:=⟨gb277,2,none⟩) (zH (p:=⟨gb277,1,none⟩) (zH (p:=⟨gb277,0,none⟩) (Kd.R_types HO_275002.out BK277.out (by decide)) (fun _ hk=>hk.2) (.int .u64 a0_0)) (fun _ hk=>hk.2) (.int .u32 a0_1)) (fun _ hk=>hk.2) (.slice A0_2 l0_2.length c0_2)) (fun _ hk=>hk.1)⟩,⟨by (with_reducible repeat (first|apply zA|apply zB|apply zC));exact zy (zI (p:=⟨gb277,2,none⟩) (zI (p:=⟨gb277,1,none⟩) (zI (p:=⟨gb277,0,none⟩) (zy HO_267002.out (fun k_ hk=>(⟨hk,hk.2⟩ : _∧k_≠gb277))) (fun _ hk=>hk.2) (.int .u64 a0_0)) (fun _ hk=>hk.2) (.int .u32 a0_1)) (fun _ hk=>hk.2) (.slice A0_2 l0_2.length c0_2)) (fun _ hk=>⟨hk.1.1.1,⟨hk.1.1.2.1,⟨hk.1.1.2.2.1,⟨hk.1.1.2.2.2.1,⟨hk.1.1.2.2.2.2,hk.1.2⟩⟩⟩⟩⟩)⟩,⟨yk BK266⟩,⟨yk BK267⟩,⟨yk BK274⟩,⟨yk BK277⟩,⟨yhb⟩⟩
    case round =>
     clear H'
     try clear c1
     try clear c2
     try clear c21
     try clear hcz10_0
     try clear hcz10_1
     try clear hcz10_2
     try clear hcz15_0
     try clear hcz15_1
     try clear hcz15_2
     try clear hcz24_0
     try clear hcz24_1
     try clear hcz24_2
     try clear hcz26_0
     try clear hcz26_1
     try clear hcz26_2
     try clear hcz29_0
     try clear hcz29_1
     try clear hcz29_2
     try clear hcz34_0
     try clear hcz34_1
     try clear hcz34_2
     try clear hfz10_0
     try clear hfz10_1
     try clear hfz10_2
     try clear hfz15_0
     try clear hfz15_1
     try clear hfz15_2
     try clear hfz24_0
     try clear hfz24_1
     try clear hfz24_2
     try clear hfz26_0
     try clear hfz26_1
     try clear hfz26_2
     try clear hfz29_0
     try clear hfz29_1
     try clear hfz29_2
     try clear hfz34_0
     try clear hfz34_1
     try clear hfz34_2
     obtain ⟨x36_2,x268000_2,x268001_2,x278000_2,x278001_2,x278002_2,u278002,rfl,HA,HK2,HO_267002,HO_275002,HO_278002,BK266,BK267,BK274,BK277,HB⟩:=hrel
     cases gk with
     | zero=>exact absurd HA.out (by simp [gain_Put.l0])
     | succ k2 =>
      have H:=HA.out;clear HA
      simp only [gain_Put.l0] at H
      by_cases c35 : x36_2 < 5
      ·
       rw [if_pos c35] at H
       have c35b0 : decide (x36_2 < 5)=true:=decide_eq_true c35
       clear c35;have HC36:=zm H;clear H
       go_upto_if 40 with (fail)
       go_cut [14] (fun v14 wc => ∃ (kq : Nat) (x14_35 : Int),v14=.int .i64 x14_35∧Aside0 (gain_Put.j2 kq l1 l2 a3 x36_2 x14_35 x36_2 t268 t269 t270 x278000_2 x278001_2 x278002_2=some (r1,r2,r3,r4))∧Aside0 (kq≤k2)∧Aside0 (Kd.V (Kd.int .u8) 5 wc w.heap.size (fun k_=>(P0_2_ k_∨w.heap.size≤k_)∧some k_≠((.slice Ao16 t270.length co16) : Value).ownBlock∧k_≠gb266∧k_≠gb267∧k_≠gb274∧k_≠gb277) (.slice A0_2 l0_2.length c0_2) l0_2)∧Aside0 (Kd.R (Kd.int .u8) 5 wc w.heap.size (fun k_=>(w.heap.size≤k_)) (.slice Ao16 t270.length co16) t270)∧Aside0 (Kd.V (Kd.int .u8) 5 wc w.heap.size (fun k_=>(P0_2_ k_∨w.heap.size≤k_)∧some k_≠((.slice Ao16 t270.length co16) : Value).ownBlock∧k_≠gb266∧k_≠gb267∧k_≠gb274∧k_≠gb277) u278002 x278002_2)∧Aside0 (wc.heap[gb266]? = some (.cells #[.int .u64 a0_0, .int .u32 a0_1,(.slice A0_2 l0_2.length c0_2)] 54 (0,0)))∧Aside0 (wc.heap[gb267]? = some (.cells #[.int .u64 x268000_2, .int .u32 x268001_2,(.slice none 0 0)] 54 (0,0)))∧Aside0 (wc.heap[gb274]? = some (.cells #[.int .u64 t268, .int .u32 t269,(.slice Ao16 t270.length co16)] 54 (0,0)))∧Aside0 (wc.heap[gb277]? = some (.cells #[.int .u64 x278000_2, .int .u32 x278001_2,u278002] 54 (0,0)))∧Aside0 (Below w.heap.size w wc))
       case first =>
        have H:=HC36.out;clear HC36
        by_cases c37 : a3=true
        ·
         subst c37
         rw [if_pos rfl] at H
         have H' := zm H
         clear H
         go_wp2
         go_meet
         case rel=>exact ⟨_,(0),yq,H',⟨by have:=HJ5.out;have:=HK2.out;first|omega|exact Nat.le_refl _⟩,⟨yr HO_267002⟩,⟨yr HO_275002⟩,⟨yr HO_278002⟩,⟨yk BK266⟩,⟨yk BK267⟩,⟨yk BK274⟩,⟨yk BK277⟩,⟨yhb⟩⟩
        ·
         replace c37:=Bool.eq_false_iff.mpr c37
         subst c37
         rw [ynf] at H
         by_cases c38 : 0≤x36_2
         ·
          rw [if_pos c38] at H
          have c38b0 : decide (0≤x36_2)=true:=decide_eq_true c38
          clear c38
          (first|rw [c38b0]|(simp only [i64_w,i32_w];rw [c38b0])|skip)
          by_cases c39 : x36_2 < (l2.length : Int)
          ·
           rw [if_pos c39] at H
           have c39b0 : decide (x36_2 < (l2.length : Int))=true:=decide_eq_true c39
           clear c39
           have H' := zm H
           clear H
           have p278 : 0≤(x36_2 : Int):=yt
           have q278 : x36_2 < (l2.length : Int):=yt
           obtain ⟨ad278,e278,hx278_0⟩:=Kd.at_int HR2.out x36_2 p278 q278
           cases e278
           replace hx278_0:=(HB.out.cell (zb w _ hx278_0)).trans hx278_0
           replace p278:=eq_true p278
           replace q278:=eq_true q278
           go_wp2
           go_meet
           case rel=>exact ⟨_,(rd l2 x36_2),yq,H',⟨by have:=HJ5.out;have:=HK2.out;first|omega|exact Nat.le_refl _⟩,⟨yr HO_267002⟩,⟨yr HO_275002⟩,⟨yr HO_278002⟩,⟨yk BK266⟩,⟨yk BK267⟩,⟨yk BK274⟩,⟨yk BK277⟩,⟨yhb⟩⟩
          ·
           rw [if_neg c39] at H
           exact absurd H (by simp)
         ·
          rw [if_neg c38] at H
          exact absurd H (by simp)
       case rest =>
        clear HC36
        try clear c1
        try clear c2
        try clear c21
        try clear c35
        try clear c35b0
        try clear hcz10_0
        try clear hcz10_1
        try clear hcz10_2
        try clear hcz15_0
        try clear hcz15_1
        try clear hcz15_2
        try clear hcz24_0
        try clear hcz24_1
        try clear hcz24_2
        try clear hcz26_0
        try clear hcz26_1
        try clear hcz26_2
        try clear hcz29_0
        try clear hcz29_1
        try clear hcz29_2
        try clear hcz34_0
        try clear hcz34_1
        try clear hcz34_2
        try clear hfz10_0
        try clear hfz10_1
        try clear hfz10_2
        try clear hfz15_0
        try clear hfz15_1
        try clear hfz15_2
        try clear hfz24_0
        try clear hfz24_1
        try clear hfz24_2
        try clear hfz26_0
        try clear hfz26_1
        try clear hfz26_2
        try clear hfz29_0
        try clear hfz29_1
        try clear hfz29_2
        try clear hfz34_0
        try clear hfz34_1
        try clear hfz34_2
        obtain ⟨kq,x14_35,rfl,HA,HJ35,HO_267002,HO_275002,HO_278002,BK266,BK267,BK274,BK277,HB⟩:=hcut
        cases kq with
        | zero=>exact absurd HA.out (by simp [gain_Put.j2])
        | succ kj35 =>
         have H:=HA.out;clear HA
         simp only [gain_Put.j2] at H
         by_cases c40 : 0≤x36_2
         ·
          rw [if_pos c40] at H
          have c40b0 : decide (0≤x36_2)=true:=decide_eq_true c40
          clear c40
          by_cases c41 : x36_2 < (l1.length : Int)
          ·
           rw [if_pos c41] at H
           have c41b0 : decide (x36_2 < (l1.length : Int))=true:=decide_eq_true c41
           clear c41
           obtain ⟨⟨t280,t281,t282,t285⟩,A42,H⟩:=ybi H
           try dsimp only at H
           by_cases c43 : t285=0
           ·
            rw [if_pos c43] at H
            have c43b0 : (t285 == 0)=true:=beq_iff_eq.mpr c43
            have c43b1 : (t285 != 0)=false:=bne_eq_false_iff_eq.mpr c43
            clear c43
            have H' := zm H
            clear H
            obtain ⟨Ao44,co44,eo44⟩:=Kd.V_slice HO_278002.out
            subst eo44
            try go_wp2
            replace HO_267002:=zm (zC HO_267002.out)
            replace HO_275002:=zm (zq HO_275002.out)
            replace HO_278002:=zm (zC HO_278002.out)
            replace BK266:=zm (zj BK266.out)
            replace BK267:=zm (zj BK267.out)
            replace BK274:=zm (zj BK274.out)
            replace BK277:=zm (zj BK277.out)
            replace HB:=zm (zf HB.out)
            have p279 : 0≤(x36_2 : Int):=yt
            have q279 : x36_2 < (l1.length : Int):=yt
            obtain ⟨ad279,e279,hx279_0⟩:=Kd.at_int HR1.out x36_2 p279 q279
            have hw279_0:=hx279_0
            cases e279
            replace hx279_0:=(HB.out.cell (zb w _ hx279_0)).trans hx279_0
            replace p279:=eq_true p279
            replace q279:=eq_true q279
            refine start_ (n:=14) (S:=fun w' => w'.cell? ⟨gb277,0,none⟩=some (.int .u64 x278000_2)∧w'.cell? ⟨gb277,1,none⟩=some (.int .u32 x278001_2)∧w'.cell? ⟨gb277,2,none⟩=some (.slice Ao44 x278002_2.length co44)∧w'.cell? (ad279.add (x36_2).toNat)=some (.int .i64 (rd l1 x36_2))) (ds := []) #[false,false,false,false,false,false,false,false,false,false,false,false,false,false] (by kernel_rfl) rfl rfl ⟨(zs BK277.out 0).trans rfl,(zs BK277.out 1).trans rfl,(zs BK277.out 2).trans rfl,((HB.out.cell (zb w _ hw279_0)).trans hw279_0)⟩ (fun hHeld => ?_);refine with_tabW gain_Put.tab11 gain_Put.bits11 (fun HT_ HW_ => ?_)
            generalize wc.drew=w45 at HO_267002 HO_275002 HO_278002 BK266 BK267 BK274 BK277 HB hx279_0 hHeld ⊢
            refine yp 1 47 HT_ ?_
            refine yp 2 48 HT_ ?_
            refine yp 3 49 HT_ ?_
            refine yp 5 51 HT_ ?_
            refine yp 6 52 HT_ ?_
            refine yl 0 46 HT_ HW_ hHeld ?_
            refine yl 4 50 HT_ HW_ hHeld ?_
            refine join_ (σ:=Value × Nat) 2 #[true,true,true,true,true,true,true,true,true,true,true,true,false,false] (fun s_ => [(53, .tuple #[.agg #[.int .u64 t280, .int .u32 t281,s_.1], .int .i64 t285]),(15, .pointer (some ⟨s_.2,0,none⟩)),(45, .tuple #[.agg #[.int .u64 t280, .int .u32 t281,s_.1], .int .i64 t285]),(54, .agg #[.int .u64 t280, .int .u32 t281,s_.1]),(55, .int .i64 t285)]) (fun s_ w' => (w'.cell? ⟨gb277,0,none⟩=some (.int .u64 x278000_2)∧w'.cell? ⟨gb277,1,none⟩=some (.int .u32 x278001_2)∧w'.cell? ⟨gb277,2,none⟩=some (.slice Ao44 x278002_2.length co44)∧w'.cell? (ad279.add (x36_2).toNat)=some (.int .i64 (rd l1 x36_2)))∧(Kd.R (Kd.int .u8) 5 w' w.heap.size (fun k_=>(w.heap.size≤k_)∧some k_≠(.slice Ao16 t270.length co16 : Value).ownBlock) s_.1 t282)∧(Kd.V (Kd.int .u8) 5 w' w.heap.size (fun k_=>(P0_2_ k_∨w.heap.size≤k_)∧some k_≠(s_.1 : Value).ownBlock∧some k_≠(.slice Ao16 t270.length co16 : Value).ownBlock∧k_≠gb266∧k_≠gb267∧k_≠gb274∧k_≠gb277∧k_≠s_.2) (.slice A0_2 l0_2.length c0_2) l0_2)∧(Kd.R (Kd.int .u8) 5 w' w.heap.size (fun k_=>(w.heap.size≤k_)∧some k_≠(s_.1 : Value).ownBlock) (.slice Ao16 t270.length co16) t270)∧(Kd.V (Kd.int .u8) 5 w' w.heap.size (fun k_=>(P0_2_ k_∨w.heap.size≤k_)∧some k_≠(s_.1 : Value).ownBlock∧some k_≠(.slice Ao16 t270.length co16 : Value).ownBlock∧k_≠gb266∧k_≠gb267∧k_≠gb274∧k_≠gb277∧k_≠s_.2) (.slice Ao44 x278002_2.length co44) x278002_2)∧(w'.heap[gb266]? = some (.cells #[.int .u64 a0_0, .int .u32 a0_1, .slice A0_2 l0_2.length c0_2] 54 (0,0)))∧(w'.heap[gb267]? = some (.cells #[.int .u64 x268000_2, .int .u32 x268001_2, .slice none 0 0] 54 (0,0)))∧(w'.heap[gb274]? = some (.cells #[.int .u64 t268, .int .u32 t269, .slice Ao16 t270.length co16] 54 (0,0)))∧(w'.heap[gb277]? = some (.cells #[.int .u64 x278000_2, .int .u32 x278001_2, .slice Ao44 x278002_2.length co44] 54 (0,0)))∧(w'.heap[s_.2]? = some (.cells #[.int .u64 0, .int .u32 0, .slice none 0 0] 54 (0,0)))∧(w.heap.size≤s_.2)∧(w.heap.size≤s_.2)∧(gb266≠s_.2)∧(s_.2≠gb266)∧(gb267≠s_.2)∧(s_.2≠gb267)∧(gb274≠s_.2)∧(s_.2≠gb274)∧(gb277≠s_.2)∧(s_.2≠gb277)∧(Below w.heap.size w w')) ?_ ?_
            rotate_left
            ·
             intro hCont
             refine two_ (i:=7) (j:=11) (Ni:=some 53) (Nj:=some 15) #[true,true,true,true,true,true,true,true,false,false,false,false,false,false] #[true,true,true,true,true,true,true,false,false,false,false,true,false,false] rfl rfl rfl rfl (two_of HT_.out (by kernel_rfl)) (by decide) (by decide) (fun K hK => ?_) (fun K hK => ?_)
             ·
              skip
              refine ygs Try.func67 #[.agg #[.int .u64 x278000_2, .int .u32 x278001_2, .slice Ao44 x278002_2.length co44], .int .i64 (rd l1 x36_2), .int .i64 x14_35, .bool a3] ?_
              with_reducible refine (gain_put.calls kj35 x278000_2 x278001_2 _ _ x278002_2 (rd l1 x36_2) x14_35 a3 t280 t281 t282 t285 _ ?side1 ?side2 A42.out).mono ?_
              (case side1=>exact yce (Kd.V_reads' HO_278002.out).2.2)
              (case side2=>exact (Kd.V_reads' HO_278002.out).2.1)
              rintro e w46 ⟨v283,rfl,ho0,hb⟩
              refine ⟨_,rfl, ?_⟩
              replace HO_267002:=zm (Kd.V_elder' (yr HO_267002) (Kd.R_base ho0) hb)
              replace HO_278002:=zm (Kd.V_elder' (yr HO_278002) (Kd.R_base ho0) hb)
              have HO284:=zm (Kd.R_lower (Kd.R_new' (Kd.R_newM (M:=fun k_=>(w.heap.size≤k_)) ho0 (zE yhb) (fun k_ h_=>h_)) (Kd.R_lt (yr HO_275002))) (zE yhb))
              replace HO_275002:=zm (Kd.R_elder' (yr HO_275002) (Kd.R_base ho0) hb)
              replace BK266:=ybb BK266 hb
              replace BK267:=ybb BK267 hb
              replace BK274:=ybb BK274 hb
              replace BK277:=ybb BK277 hb
              replace HB:=ybs hb
              (try clear hb)
              (try clear hb2)
              (try clear hk)
              (try clear hi)
              (try clear ho0)
              refine hK.out _ _ ⟨(zs BK277.out 0).trans rfl,(zs BK277.out 1).trans rfl,(zs BK277.out 2).trans rfl,((HB.out.cell (zb w _ hw279_0)).trans hw279_0)⟩ (fun hHeld => ?_)
              clear hK K
              refine ym (some 53) ?_
              refine yp 8 45 HT_ ?_
              refine yp 9 54 HT_ ?_
              refine yp 10 55 HT_ ?_
              refine yw 11 15 HT_ (fun K hK => ?_)
              refine box_step ?hg (N:=15) ?hd (cs := #[.int .u64 0, .int .u32 0, .slice none 0 0]) (t:=54) ?hr ?_;(case hd=>rfl);(case hg=>rfl);(case hr=>first|(go_simp;done)|(go_simp;rfl))
              intro gb286 hg w47 hbox hb
              replace HO_267002:=yVe HO_267002 hg hb
              replace HO_275002:=yRb HO_275002 hb
              replace HO_278002:=yVe HO_278002 hg hb
              replace HO284:=yRb HO284 hb
              have BK286:=zm (hbox)
              have GW286:=ygw hg
              have GE286:=ygw hg
              replace HB:=ybs hb
              have NB266_286:=ynl BK266 hg
              have NB286_266:=yng BK266 hg
              replace BK266:=ybb BK266 hb
              have NB267_286:=ynl BK267 hg
              have NB286_267:=yng BK267 hg
              replace BK267:=ybb BK267 hb
              have NB274_286:=ynl BK274 hg
              have NB286_274:=yng BK274 hg
              replace BK274:=ybb BK274 hb
              have NB277_286:=ynl BK277 hg
              have NB286_277:=yng BK277 hg
              replace BK277:=ybb BK277 hb
              clear hb hbox hg
              refine hK.out _ _ ⟨(zs BK277.out 0).trans rfl,(zs BK277.out 1).trans rfl,(zs BK277.out 2).trans rfl,((HB.out.cell (zb w _ hw279_0)).trans hw279_0)⟩ (fun hHeld => ?_)
              clear hK K
              refine ym (some 15) ?_
              exact norm_ (by simp only [putAll,Act.put,List.setIfInBounds_toArray,List.set_cons_zero,List.set_cons_succ]) (hCont (v283,gb286) _ ⟨hHeld,(by (with_reducible repeat (first|apply zo|apply zp|apply zq));exact zG HO284.out (fun _ hk=>⟨hk.1.1,hk.2⟩)),(by (with_reducible repeat (first|apply zA|apply zB|apply zC));exact zy HO_267002.out (fun _ hk=>⟨hk.1.1.1,⟨hk.1.2,⟨hk.1.1.2.1,⟨hk.1.1.2.2.1,⟨hk.1.1.2.2.2.1,⟨hk.1.1.2.2.2.2.1,⟨hk.1.1.2.2.2.2.2,hk.2⟩⟩⟩⟩⟩⟩⟩)),(yr HO_275002),(by (with_reducible repeat (first|apply zA|apply zB|apply zC));exact zy HO_278002.out (fun _ hk=>⟨hk.1.1.1,⟨hk.1.2,⟨hk.1.1.2.1,⟨hk.1.1.2.2.1,⟨hk.1.1.2.2.2.1,⟨hk.1.1.2.2.2.2.1,⟨hk.1.1.2.2.2.2.2,hk.2⟩⟩⟩⟩⟩⟩⟩)),(yk BK266),(yk BK267),(yk BK274),(yk BK277),(yk BK286),GW286.out,GE286.out,NB266_286.out,NB286_266.out,NB267_286.out,NB286_267.out,NB274_286.out,NB286_274.out,NB277_286.out,NB286_277.out,yhb⟩)
             ·
              skip
              refine box_step ?hg (N:=15) ?hd (cs := #[.int .u64 0, .int .u32 0, .slice none 0 0]) (t:=54) ?hr ?_;(case hd=>rfl);(case hg=>rfl);(case hr=>first|(go_simp;done)|(go_simp;rfl))
              intro gb286 hg w46 hbox hb
              replace HO_267002:=yVe HO_267002 hg hb
              replace HO_275002:=yRb HO_275002 hb
              replace HO_278002:=yVe HO_278002 hg hb
              have BK286:=zm (hbox)
              have GW286:=ygw hg
              have GE286:=ygw hg
              replace HB:=ybs hb
              have NB266_286:=ynl BK266 hg
              have NB286_266:=yng BK266 hg
              replace BK266:=ybb BK266 hb
              have NB267_286:=ynl BK267 hg
              have NB286_267:=yng BK267 hg
              replace BK267:=ybb BK267 hb
              have NB274_286:=ynl BK274 hg
              have NB286_274:=yng BK274 hg
              replace BK274:=ybb BK274 hb
              have NB277_286:=ynl BK277 hg
              have NB286_277:=yng BK277 hg
              replace BK277:=ybb BK277 hb
              clear hb hbox hg
              refine hK.out _ _ ⟨(zs BK277.out 0).trans rfl,(zs BK277.out 1).trans rfl,(zs BK277.out 2).trans rfl,((HB.out.cell (zb w _ hw279_0)).trans hw279_0)⟩ (fun hHeld => ?_)
              clear hK K
              refine ym (some 15) ?_
              refine yw 7 53 HT_ (fun K hK => ?_)
              refine ygs Try.func67 #[.agg #[.int .u64 x278000_2, .int .u32 x278001_2, .slice Ao44 x278002_2.length co44], .int .i64 (rd l1 x36_2), .int .i64 x14_35, .bool a3] ?_
              with_reducible refine (gain_put.calls kj35 x278000_2 x278001_2 _ _ x278002_2 (rd l1 x36_2) x14_35 a3 t280 t281 t282 t285 _ ?side1 ?side2 A42.out).mono ?_
              (case side1=>exact yce (Kd.V_reads' HO_278002.out).2.2)
              (case side2=>exact (Kd.V_reads' HO_278002.out).2.1)
              rintro e w47 ⟨v283,rfl,ho0,hb⟩
              refine ⟨_,rfl, ?_⟩
              replace HO_267002:=zm (Kd.V_elder' (yr HO_267002) (Kd.R_base ho0) hb)
              replace HO_278002:=zm (Kd.V_elder' (yr HO_278002) (Kd.R_base ho0) hb)
              have HO284:=zm (Kd.R_lower (Kd.R_new' (Kd.R_newM (M:=fun k_=>(w.heap.size≤k_)) ho0 (zE yhb) (fun k_ h_=>h_)) (Kd.R_lt (yr HO_275002))) (zE yhb))
              replace HO_275002:=zm (Kd.R_elder' (yr HO_275002) (Kd.R_base ho0) hb)
              replace BK266:=ybb BK266 hb
              replace BK267:=ybb BK267 hb
              replace BK274:=ybb BK274 hb
              replace BK277:=ybb BK277 hb
              replace BK286:=ybb BK286 hb
              replace HB:=ybs hb
              (try clear hb)
              (try clear hb2)
              (try clear hk)
              (try clear hi)
              (try clear ho0)
              refine hK.out _ _ ⟨(zs BK277.out 0).trans rfl,(zs BK277.out 1).trans rfl,(zs BK277.out 2).trans rfl,((HB.out.cell (zb w _ hw279_0)).trans hw279_0)⟩ (fun hHeld => ?_)
              clear hK K
              refine ym (some 53) ?_
              refine yp 8 45 HT_ ?_
              refine yp 9 54 HT_ ?_
              refine yp 10 55 HT_ ?_
              exact norm_ (by simp only [putAll,Act.put,List.setIfInBounds_toArray,List.set_cons_zero,List.set_cons_succ]) (hCont (v283,gb286) _ ⟨hHeld,(by (with_reducible repeat (first|apply zo|apply zp|apply zq));exact zG HO284.out (fun _ hk=>⟨hk.1.1,hk.2⟩)),(by (with_reducible repeat (first|apply zA|apply zB|apply zC));exact zy HO_267002.out (fun _ hk=>⟨hk.1.1.1,⟨hk.2,⟨hk.1.1.2.1,⟨hk.1.1.2.2.1,⟨hk.1.1.2.2.2.1,⟨hk.1.1.2.2.2.2.1,⟨hk.1.1.2.2.2.2.2,hk.1.2⟩⟩⟩⟩⟩⟩⟩)),(yr HO_275002),(by (with_reducible repeat (first|apply zA|apply zB|apply zC));exact zy HO_278002.out (fun _ hk=>⟨hk.1.1.1,⟨hk.2,⟨hk.1.1.2.1,⟨hk.1.1.2.2.1,⟨hk.1.1.2.2.2.1,⟨hk.1.1.2.2.2.2.1,⟨hk.1.1.2.2.2.2.2,hk.1.2⟩⟩⟩⟩⟩⟩⟩)),(yk BK266),(yk BK267),(yk BK274),(yk BK277),(yk BK286),GW286.out,GE286.out,NB266_286.out,NB286_266.out,NB267_286.out,NB286_267.out,NB274_286.out,NB286_274.out,NB277_286.out,NB286_277.out,yhb⟩)
            rintro ⟨v283,gb286⟩ w48 ⟨hS_,h0_,h1_,h2_,h3_,h4_,h5_,h6_,h7_,h8_,h9_,h10_,h11_,h12_,h13_,h14_,h15_,h16_,h17_,h18_,h19_⟩
            have n0_ : Aside0 (Kd.R (Kd.int .u8) 5 w48 w.heap.size (fun k_=>(w.heap.size≤k_)∧some k_≠(.slice Ao16 t270.length co16 : Value).ownBlock) v283 t282):=⟨h0_⟩
            have n1_ : Aside0 (Kd.V (Kd.int .u8) 5 w48 w.heap.size (fun k_=>(P0_2_ k_∨w.heap.size≤k_)∧some k_≠(v283 : Value).ownBlock∧some k_≠(.slice Ao16 t270.length co16 : Value).ownBlock∧k_≠gb266∧k_≠gb267∧k_≠gb274∧k_≠gb277∧k_≠gb286) (.slice A0_2 l0_2.length c0_2) l0_2):=⟨h1_⟩
            have n2_ : Aside0 (Kd.R (Kd.int .u8) 5 w48 w.heap.size (fun k_=>(w.heap.size≤k_)∧some k_≠(v283 : Value).ownBlock) (.slice Ao16 t270.length co16) t270):=⟨h2_⟩
            have n3_ : Aside0 (Kd.V (Kd.int .u8) 5 w48 w.heap.size (fun k_=>(P0_2_ k_∨w.heap.size≤k_)∧some k_≠(v283 : Value).ownBlock∧some k_≠(.slice Ao16 t270.length co16 : Value).ownBlock∧k_≠gb266∧k_≠gb267∧k_≠gb274∧k_≠gb277∧k_≠gb286) (.slice Ao44 x278002_2.length co44) x278002_2):=⟨h3_⟩
            have n4_ : Aside0 (w48.heap[gb266]? = some (.cells #[.int .u64 a0_0, .int .u32 a0_1, .slice A0_2 l0_2.length c0_2] 54 (0,0))):=⟨h4_⟩
            have n5_ : Aside0 (w48.heap[gb267]? = some (.cells #[.int .u64 x268000_2, .int .u32 x268001_2, .slice none 0 0] 54 (0,0))):=⟨h5_⟩
            have n6_ : Aside0 (w48.heap[gb274]? = some (.cells #[.int .u64 t268, .int .u32 t269, .slice Ao16 t270.length co16] 54 (0,0))):=⟨h6_⟩
            have n7_ : Aside0 (w48.heap[gb277]? = some (.cells #[.int .u64 x278000_2, .int .u32 x278001_2, .slice Ao44 x278002_2.length co44] 54 (0,0))):=⟨h7_⟩
            have n8_ : Aside0 (w48.heap[gb286]? = some (.cells #[.int .u64 0, .int .u32 0, .slice none 0 0] 54 (0,0))):=⟨h8_⟩
            have n9_ : Aside0 (w.heap.size≤gb286):=⟨h9_⟩
            have n10_ : Aside0 (w.heap.size≤gb286):=⟨h10_⟩
            have n11_ : Aside0 (gb266≠gb286):=⟨h11_⟩
            have n12_ : Aside0 (gb286≠gb266):=⟨h12_⟩
            have n13_ : Aside0 (gb267≠gb286):=⟨h13_⟩
            have n14_ : Aside0 (gb286≠gb267):=⟨h14_⟩
            have n15_ : Aside0 (gb274≠gb286):=⟨h15_⟩
            have n16_ : Aside0 (gb286≠gb274):=⟨h16_⟩
            have n17_ : Aside0 (gb277≠gb286):=⟨h17_⟩
            have n18_ : Aside0 (gb286≠gb277):=⟨h18_⟩
            have n19_ : Aside0 (Below w.heap.size w w48):=⟨h19_⟩
            clear HO_267002;clear HO_275002;clear HO_278002;clear BK266;clear BK267;clear BK274;clear BK277;clear HB;clear h0_ h1_ h2_ h3_ h4_ h5_ h6_ h7_ h8_ h9_ h10_ h11_ h12_ h13_ h14_ h15_ h16_ h17_ h18_ h19_;have HO284:=n0_;have HO_267002:=n1_;have HO_275002:=n2_;have HO_278002:=n3_;have BK266:=n4_;have BK267:=n5_;have BK274:=n6_;have BK277:=n7_;have BK286:=n8_;have GW286:=n9_;have GE286:=n10_;have NB266_286:=n11_;have NB286_266:=n12_;have NB267_286:=n13_;have NB286_267:=n14_;have NB274_286:=n15_;have NB286_274:=n16_;have NB277_286:=n17_;have NB286_277:=n18_;have HB:=n19_;clear n0_ n1_ n2_ n3_ n4_ n5_ n6_ n7_ n8_ n9_ n10_ n11_ n12_ n13_ n14_ n15_ n16_ n17_ n18_ n19_
            have hHeld : w48.cell? ⟨gb277,0,none⟩=some (.int .u64 x278000_2)∧w48.cell? ⟨gb277,1,none⟩=some (.int .u32 x278001_2)∧w48.cell? ⟨gb277,2,none⟩=some (.slice Ao44 x278002_2.length co44)∧w48.cell? (ad279.add (x36_2).toNat)=some (.int .i64 (rd l1 x36_2)):=hS_
            obtain ⟨Ao51,co51,eo51⟩:=Kd.R_slice HO284.out
            (first|subst eo51|(injection eo51 with f1_ f2_ f3_;have f4_:=f1_.symm;have f5_:=f3_.symm;clear f1_ f2_ f3_;subst f4_;subst f5_))
            refine norm_ (a' := ?_) ?_ ?_
            rotate_left
            ·
             simp only [putAll,Act.put,List.setIfInBounds_toArray,List.set_cons_zero,List.set_cons_succ]
             rfl
            refine yv 12 HT_ (fun K hK => ?_)
            have hs49 : w48.cell? ⟨gb286,0,none⟩=some (.int .u64 0):=(zs BK286.out 0).trans rfl
            have hfs49:=zx BK286.out 0
            have hns49_0:=NB266_286.out;have hns49_1:=NB267_286.out;have hns49_2:=NB274_286.out;have hns49_3:=NB277_286.out;have hms49_0:=NB286_266.out;have hms49_1:=NB286_267.out;have hms49_2:=NB286_274.out;have hms49_3:=NB286_277.out
            have hs50 : w48.cell? ⟨gb286,1,none⟩=some (.int .u32 0):=(zs BK286.out 1).trans rfl
            have hfs50:=zx BK286.out 1
            have hns50_0:=NB266_286.out;have hns50_1:=NB267_286.out;have hns50_2:=NB274_286.out;have hns50_3:=NB277_286.out;have hms50_0:=NB286_266.out;have hms50_1:=NB286_267.out;have hms50_2:=NB286_274.out;have hms50_3:=NB286_277.out
            have hs52 : w48.cell? ⟨gb286,2,none⟩=some (.slice none 0 0):=(zs BK286.out 2).trans rfl
            have hfs52:=zx BK286.out 2
            have hns52_0:=NB266_286.out;have hns52_1:=NB267_286.out;have hns52_2:=NB274_286.out;have hns52_3:=NB277_286.out;have hms52_0:=NB286_266.out;have hms52_1:=NB286_267.out;have hms52_2:=NB286_274.out;have hms52_3:=NB286_277.out
            refine skip_ (w1 := ?_) (by rfl) rfl ?_ ?_
            rotate_left
            ·
             go_simp
             rfl
            refine hK.out _ _ ⟨((zr (p:=⟨gb286,_,none⟩) NB277_286.out _).trans (((zr (p:=⟨gb286,_,none⟩) NB277_286.out _).trans (((zr (p:=⟨gb286,_,none⟩) NB277_286.out _).trans (hHeld.1)))))),((zr (p:=⟨gb286,_,none⟩) NB277_286.out _).trans (((zr (p:=⟨gb286,_,none⟩) NB277_286.out _).trans (((zr (p:=⟨gb286,_,none⟩) NB277_286.out _).trans (hHeld.2.1)))))),((zr (p:=⟨gb286,_,none⟩) NB277_286.out _).trans (((zr (p:=⟨gb286,_,none⟩) NB277_286.out _).trans (((zr (p:=⟨gb286,_,none⟩) NB277_286.out _).trans (hHeld.2.2.1)))))),((zr (p:=⟨gb286,_,none⟩) (by first|exact zn (zl (by have:=zb _ _ hw279_0;first|rwa [za] at this|exact this) GW286.out)|(rw [za];exact zn (zl (by have:=zb _ _ hw279_0;first|rwa [za] at this|exact this) GW286.out))|(show (Addr.add _ _).block≠_;rw [za];exact zn (zl (by have:=zb _ _ hw279_0;first|rwa [za] at this|exact this) GW286.out))|(dsimp only;exact zn (zl (by have:=zb _ _ hw279_0;first|rwa [za] at this|exact this) GW286.out))) _).trans (((zr (p:=⟨gb286,_,none⟩) (by first|exact zn (zl (by have:=zb _ _ hw279_0;first|rwa [za] at this|exact this) GW286.out)|(rw [za];exact zn (zl (by have:=zb _ _ hw279_0;first|rwa [za] at this|exact this) GW286.out))|(show (Addr.add _ _).block≠_;rw [za];exact zn (zl (by have:=zb _ _ hw279_0;first|rwa [za] at this|exact this) GW286.out))|(dsimp only;exact zn (zl (by have:=zb _ _ hw279_0;first|rwa [za] at this|exact this) GW286.out))) _).trans (((zr (p:=⟨gb286,_,none⟩) (by first|exact zn (zl (by have:=zb _ _ hw279_0;first|rwa [za] at this|exact this) GW286.out)|(rw [za];exact zn (zl (by have:=zb _ _ hw279_0;first|rwa [za] at this|exact this) GW286.out))|(show (Addr.add _ _).block≠_;rw [za];exact zn (zl (by have:=zb _ _ hw279_0;first|rwa [za] at this|exact this) GW286.out))|(dsimp only;exact zn (zl (by have:=zb _ _ hw279_0;first|rwa [za] at this|exact this) GW286.out))) _).trans (hHeld.2.2.2))))))⟩ (fun hHeld => ?_)
            clear hK K
            refine yp 13 16 HT_ ?_
            refine done_ (done_of HT_.out (by kernel_rfl)) ?_
            have hnb53:=NB286_266.out;have hnc53:=NB266_286.out;have hnb54:=NB286_267.out;have hnc54:=NB267_286.out;have hnb55:=NB286_274.out;have hnc55:=NB274_286.out;have hnb56:=NB286_277.out;have hnc56:=NB277_286.out
            obtain ⟨_,_,_,_,_,_⟩:=yc3 BK286
            have hnb58:=NB277_266.out;have hnc58:=NB266_277.out;have hnb59:=NB277_267.out;have hnc59:=NB267_277.out;have hnb60:=NB277_274.out;have hnc60:=NB274_277.out
            obtain ⟨_,_,_,_,_,_⟩:=yc3 BK277
            try go_wp2
            go_roundg kj35
            case measure=>have:=HJ5.out;have:=HK2.out;have:=HJ35.out;omega
            case rel=>exact ⟨(wrap64 (x36_2+1)),(x268000_2),(x268001_2),(t280),(t281),(t282),(.slice Ao51 t282.length co51),yq,H',⟨by have:=HJ5.out;have:=HK2.out;have:=HJ35.out;omega⟩,⟨by (with_reducible repeat (first|apply zA|apply zB|apply zC));exact zy (zI (p:=⟨gb277,2,none⟩) (zI (p:=⟨gb277,1,none⟩) (zI (p:=⟨gb277,0,none⟩) (zI (p:=⟨gb286,2,none⟩) (zI (p:=⟨gb286,1,none⟩) (zI (p:=⟨gb286,0,none⟩) (zy (zy HO_267002.out (fun k_ hk=>(⟨hk,hk.2.2.2.2.2.2.2⟩ : _∧k_≠gb286))) (fun k_ hk=>(⟨hk,hk.1.2.2.2.2.2.2.1⟩ : _∧k_≠gb277))) (fun _ hk=>hk.1.2) (.int .u64 t280)) (fun _ hk=>hk.1.2) (.int .u32 t281)) (fun _ hk=>hk.1.2) (.slice Ao51 t282.length co51)) (fun _ hk=>hk.2) (.int .u64 t280)) (fun _ hk=>hk.2) (.int .u32 t281)) (fun _ hk=>hk.2) (.slice Ao51 t282.length co51)) (fun _ hk=>⟨hk.1.1.1,⟨hk.1.1.2.2.1,⟨hk.1.1.2.2.2.1,⟨hk.1.1.2.2.2.2.1,⟨hk.1.1.2.2.2.2.2.1,hk.1.1.2.2.2.2.2.2.1⟩⟩⟩⟩⟩)⟩,⟨by (with_reducible repeat (first|apply zo|apply zp|apply zq));exact zG (zH (p:=⟨gb277,2,none⟩) (zH (p:=⟨gb277,1,none⟩) (zH (p:=⟨gb277,0,none⟩) (zH (p:=⟨gb286,2,none⟩) (zH (p:=⟨gb286,1,none⟩) (zH (p:=⟨gb286,0,none⟩) (Kd.R_types (Kd.R_types HO_275002.out BK286.out (by decide)) BK277.out (by decide)) (fun _ hk=>hk.1.2) (.int .u64 t280)) (fun _ hk=>hk.1.2) (.int .u32 t281)) (fun _ hk=>hk.1.2) (.slice Ao51 t282.length co51)) (fun _ hk=>hk.2) (.int .u64 t280)) (fun _ hk=>hk.2) (.int .u32 t281)) (fun _ hk=>hk.2) (.slice Ao51 t282.length co51)) (fun _ hk=>hk.1.1.1)⟩,⟨zy (Kd.R_V (ok:=fun k_=>w.heap.size≤k_∧some k_≠((.slice Ao16 t270.length co16) : Value).ownBlock∧k_≠gb266∧k_≠gb267∧k_≠gb274∧k_≠gb277) (by (with_reducible repeat (first|apply zo|apply zp|apply zq));exact zG (zH (p:=⟨gb277,2,none⟩) (zH (p:=⟨gb277,1,none⟩) (zH (p:=⟨gb277,0,none⟩) (zH (p:=⟨gb286,2,none⟩) (zH (p:=⟨gb286,1,none⟩) (zH (p:=⟨gb286,0,none⟩) (Kd.R_types (Kd.R_types (Kd.R_types (Kd.R_types (Kd.R_types (Kd.R_types HO284.out BK266.out (by decide)) BK267.out (by decide)) BK274.out (by decide)) BK277.out (by decide)) BK286.out (by decide)) BK277.out (by decide)) (fun _ hk=>hk.1.2) (.int .u64 t280)) (fun _ hk=>hk.1.2) (.int .u32 t281)) (fun _ hk=>hk.1.2) (.slice Ao51 t282.length co51)) (fun _ hk=>hk.2) (.int .u64 t280)) (fun _ hk=>hk.2) (.int .u32 t281)) (fun _ hk=>hk.2) (.slice Ao51 t282.length co51)) (fun _ hk=>⟨hk.1.1.1.1.1.1.1,⟨hk.1.1.1.1.1.1.2,⟨hk.1.1.1.1.1.2,⟨hk.1.1.1.1.2,⟨hk.1.1.1.2,hk.1.1.2⟩⟩⟩⟩⟩))) (fun k_ hk=>by first|exact ⟨(.inr (hk.1)),hk.2⟩|exact (.inr (hk)))⟩,⟨yk BK266⟩,⟨yk BK267⟩,⟨yk BK274⟩,⟨yk BK277⟩,⟨yhb⟩⟩
           ·
            rw [if_neg c43] at H
            have c43b0 : (t285 == 0)=false:=beq_eq_false_iff_ne.mpr c43
            have c43b1 : (t285 != 0)=true:=bne_iff_ne.mpr c43
            simp only [Option.some.injEq,Prod.mk.injEq] at H
            obtain ⟨rfl,rfl,rfl,rfl⟩:=H
            obtain ⟨Ao62,co62,eo62⟩:=Kd.V_slice HO_278002.out
            subst eo62
            try go_wp2
            replace HO_267002:=zm (zC HO_267002.out)
            replace HO_275002:=zm (zq HO_275002.out)
            replace HO_278002:=zm (zC HO_278002.out)
            replace BK266:=zm (zj BK266.out)
            replace BK267:=zm (zj BK267.out)
            replace BK274:=zm (zj BK274.out)
            replace BK277:=zm (zj BK277.out)
            replace HB:=zm (zf HB.out)
            have p279 : 0≤(x36_2 : Int):=yt
            have q279 : x36_2 < (l1.length : Int):=yt
            obtain ⟨ad279,e279,hx279_0⟩:=Kd.at_int HR1.out x36_2 p279 q279
            have hw279_0:=hx279_0
            cases e279
            replace hx279_0:=(HB.out.cell (zb w _ hx279_0)).trans hx279_0
            replace p279:=eq_true p279
            replace q279:=eq_true q279
            refine start_ (n:=14) (S:=fun w' => w'.cell? ⟨gb277,0,none⟩=some (.int .u64 x278000_2)∧w'.cell? ⟨gb277,1,none⟩=some (.int .u32 x278001_2)∧w'.cell? ⟨gb277,2,none⟩=some (.slice Ao62 x278002_2.length co62)∧w'.cell? (ad279.add (x36_2).toNat)=some (.int .i64 (rd l1 x36_2))) (ds := []) #[false,false,false,false,false,false,false,false,false,false,false,false,false,false] (by kernel_rfl) rfl rfl ⟨(zs BK277.out 0).trans rfl,(zs BK277.out 1).trans rfl,(zs BK277.out 2).trans rfl,((HB.out.cell (zb w _ hw279_0)).trans hw279_0)⟩ (fun hHeld => ?_);refine with_tabW gain_Put.tab11 gain_Put.bits11 (fun HT_ HW_ => ?_)
            generalize wc.drew=w63 at HO_267002 HO_275002 HO_278002 BK266 BK267 BK274 BK277 HB hx279_0 hHeld ⊢
            refine yp 1 47 HT_ ?_
            refine yp 2 48 HT_ ?_
            refine yp 3 49 HT_ ?_
            refine yp 5 51 HT_ ?_
            refine yp 6 52 HT_ ?_
            refine yl 0 46 HT_ HW_ hHeld ?_
            refine yl 4 50 HT_ HW_ hHeld ?_
            refine join_ (σ:=Value × Nat) 2 #[true,true,true,true,true,true,true,true,true,true,true,true,false,false] (fun s_ => [(53, .tuple #[.agg #[.int .u64 t280, .int .u32 t281,s_.1], .int .i64 t285]),(15, .pointer (some ⟨s_.2,0,none⟩)),(45, .tuple #[.agg #[.int .u64 t280, .int .u32 t281,s_.1], .int .i64 t285]),(54, .agg #[.int .u64 t280, .int .u32 t281,s_.1]),(55, .int .i64 t285)]) (fun s_ w' => (w'.cell? ⟨gb277,0,none⟩=some (.int .u64 x278000_2)∧w'.cell? ⟨gb277,1,none⟩=some (.int .u32 x278001_2)∧w'.cell? ⟨gb277,2,none⟩=some (.slice Ao62 x278002_2.length co62)∧w'.cell? (ad279.add (x36_2).toNat)=some (.int .i64 (rd l1 x36_2)))∧(Kd.R (Kd.int .u8) 5 w' w.heap.size (fun k_=>(w.heap.size≤k_)∧some k_≠(.slice Ao16 t270.length co16 : Value).ownBlock) s_.1 t282)∧(Kd.V (Kd.int .u8) 5 w' w.heap.size (fun k_=>(P0_2_ k_∨w.heap.size≤k_)∧some k_≠(s_.1 : Value).ownBlock∧some k_≠(.slice Ao16 t270.length co16 : Value).ownBlock∧k_≠gb266∧k_≠gb267∧k_≠gb274∧k_≠gb277∧k_≠s_.2) (.slice A0_2 l0_2.length c0_2) l0_2)∧(Kd.R (Kd.int .u8) 5 w' w.heap.size (fun k_=>(w.heap.size≤k_)∧some k_≠(s_.1 : Value).ownBlock) (.slice Ao16 t270.length co16) t270)∧(Kd.V (Kd.int .u8) 5 w' w.heap.size (fun k_=>(P0_2_ k_∨w.heap.size≤k_)∧some k_≠(s_.1 : Value).ownBlock∧some k_≠(.slice Ao16 t270.length co16 : Value).ownBlock∧k_≠gb266∧k_≠gb267∧k_≠gb274∧k_≠gb277∧k_≠s_.2) (.slice Ao62 x278002_2.length co62) x278002_2)∧(w'.heap[gb266]? = some (.cells #[.int .u64 a0_0, .int .u32 a0_1, .slice A0_2 l0_2.length c0_2] 54 (0,0)))∧(w'.heap[gb267]? = some (.cells #[.int .u64 x268000_2, .int .u32 x268001_2, .slice none 0 0] 54 (0,0)))∧(w'.heap[gb274]? = some (.cells #[.int .u64 t268, .int .u32 t269, .slice Ao16 t270.length co16] 54 (0,0)))∧(w'.heap[gb277]? = some (.cells #[.int .u64 x278000_2, .int .u32 x278001_2, .slice Ao62 x278002_2.length co62] 54 (0,0)))∧(w'.heap[s_.2]? = some (.cells #[.int .u64 0, .int .u32 0, .slice none 0 0] 54 (0,0)))∧(w.heap.size≤s_.2)∧(w.heap.size≤s_.2)∧(gb266≠s_.2)∧(s_.2≠gb266)∧(gb267≠s_.2)∧(s_.2≠gb267)∧(gb274≠s_.2)∧(s_.2≠gb274)∧(gb277≠s_.2)∧(s_.2≠gb277)∧(Below w.heap.size w w')) ?_ ?_
            rotate_left
            ·
             intro hCont
             refine two_ (i:=7) (j:=11) (Ni:=some 53) (Nj:=some 15) #[true,true,true,true,true,true,true,true,false,false,false,false,false,false] #[true,true,true,true,true,true,true,false,false,false,false,true,false,false] rfl rfl rfl rfl (two_of HT_.out (by kernel_rfl)) (by decide) (by decide) (fun K hK => ?_) (fun K hK => ?_)
             ·
              skip
              refine ygs Try.func67 #[.agg #[.int .u64 x278000_2, .int .u32 x278001_2, .slice Ao62 x278002_2.length co62], .int .i64 (rd l1 x36_2), .int .i64 x14_35, .bool a3] ?_
              with_reducible refine (gain_put.calls kj35 x278000_2 x278001_2 _ _ x278002_2 (rd l1 x36_2) x14_35 a3 t280 t281 t282 t285 _ ?side1 ?side2 A42.out).mono ?_
              (case side1=>exact yce (Kd.V_reads' HO_278002.out).2.2)
              (case side2=>exact (Kd.V_reads' HO_278002.out).2.1)
              rintro e w64 ⟨v283,rfl,ho0,hb⟩
              refine ⟨_,rfl, ?_⟩
              replace HO_267002:=zm (Kd.V_elder' (yr HO_267002) (Kd.R_base ho0) hb)
              replace HO_278002:=zm (Kd.V_elder' (yr HO_278002) (Kd.R_base ho0) hb)
              have HO284:=zm (Kd.R_lower (Kd.R_new' (Kd.R_newM (M:=fun k_=>(w.heap.size≤k_)) ho0 (zE yhb) (fun k_ h_=>h_)) (Kd.R_lt (yr HO_275002))) (zE yhb))
              replace HO_275002:=zm (Kd.R_elder' (yr HO_275002) (Kd.R_base ho0) hb)
              replace BK266:=ybb BK266 hb
              replace BK267:=ybb BK267 hb
              replace BK274:=ybb BK274 hb
              replace BK277:=ybb BK277 hb
              replace HB:=ybs hb
              (try clear hb)
              (try clear hb2)
              (try clear hk)
              (try clear hi)
              (try clear ho0)
              refine hK.out _ _ ⟨(zs BK277.out 0).trans rfl,(zs BK277.out 1).trans rfl,(zs BK277.out 2).trans rfl,((HB.out.cell (zb w _ hw279_0)).trans hw279_0)⟩ (fun hHeld => ?_)
              clear hK K
              refine ym (some 53) ?_
              refine yp 8 45 HT_ ?_
              refine yp 9 54 HT_ ?_
              refine yp 10 55 HT_ ?_
              refine yw 11 15 HT_ (fun K hK => ?_)
              refine box_step ?hg (N:=15) ?hd (cs := #[.int .u64 0, .int .u32 0, .slice none 0 0]) (t:=54) ?hr ?_;(case hd=>rfl);(case hg=>rfl);(case hr=>first|(go_simp;done)|(go_simp;rfl))
              intro gb286 hg w65 hbox hb
              replace HO_267002:=yVe HO_267002 hg hb
              replace HO_275002:=yRb HO_275002 hb
              replace HO_278002:=yVe HO_278002 hg hb
              replace HO284:=yRb HO284 hb
              have BK286:=zm (hbox)
              have GW286:=ygw hg
              have GE286:=ygw hg
              replace HB:=ybs hb
              have NB266_286:=ynl BK266 hg
              have NB286_266:=yng BK266 hg
              replace BK266:=ybb BK266 hb
              have NB267_286:=ynl BK267 hg
              have NB286_267:=yng BK267 hg
              replace BK267:=ybb BK267 hb
              have NB274_286:=ynl BK274 hg
              have NB286_274:=yng BK274 hg
              replace BK274:=ybb BK274 hb
              have NB277_286:=ynl BK277 hg
              have NB286_277:=yng BK277 hg
              replace BK277:=ybb BK277 hb
              clear hb hbox hg
              refine hK.out _ _ ⟨(zs BK277.out 0).trans rfl,(zs BK277.out 1).trans rfl,(zs BK277.out 2).trans rfl,((HB.out.cell (zb w _ hw279_0)).trans hw279_0)⟩ (fun hHeld => ?_)
              clear hK K
              refine ym (some 15) ?_
              exact norm_ (by simp only [putAll,Act.put,List.setIfInBounds_toArray,List.set_cons_zero,List.set_cons_succ]) (hCont (v283,gb286) _ ⟨hHeld,(by (with_reducible repeat (first|apply zo|apply zp|apply zq));exact zG HO284.out (fun _ hk=>⟨hk.1.1,hk.2⟩)),(by (with_reducible repeat (first|apply zA|apply zB|apply zC));exact zy HO_267002.out (fun _ hk=>⟨hk.1.1.1,⟨hk.1.2,⟨hk.1.1.2.1,⟨hk.1.1.2.2.1,⟨hk.1.1.2.2.2.1,⟨hk.1.1.2.2.2.2.1,⟨hk.1.1.2.2.2.2.2,hk.2⟩⟩⟩⟩⟩⟩⟩)),(yr HO_275002),(by (with_reducible repeat (first|apply zA|apply zB|apply zC));exact zy HO_278002.out (fun _ hk=>⟨hk.1.1.1,⟨hk.1.2,⟨hk.1.1.2.1,⟨hk.1.1.2.2.1,⟨hk.1.1.2.2.2.1,⟨hk.1.1.2.2.2.2.1,⟨hk.1.1.2.2.2.2.2,hk.2⟩⟩⟩⟩⟩⟩⟩)),(yk BK266),(yk BK267),(yk BK274),(yk BK277),(yk BK286),GW286.out,GE286.out,NB266_286.out,NB286_266.out,NB267_286.out,NB286_267.out,NB274_286.out,NB286_274.out,NB277_286.out,NB286_277.out,yhb⟩)
             ·
              skip
              refine box_step ?hg (N:=15) ?hd (cs := #[.int .u64 0, .int .u32 0, .slice none 0 0]) (t:=54) ?hr ?_;(case hd=>rfl);(case hg=>rfl);(case hr=>first|(go_simp;done)|(go_simp;rfl))
              intro gb286 hg w64 hbox hb
              replace HO_267002:=yVe HO_267002 hg hb
              replace HO_275002:=yRb HO_275002 hb
              replace HO_278002:=yVe HO_278002 hg hb
              have BK286:=zm (hbox)
              have GW286:=ygw hg
              have GE286:=ygw hg
              replace HB:=ybs hb
              have NB266_286:=ynl BK266 hg
              have NB286_266:=yng BK266 hg
              replace BK266:=ybb BK266 hb
              have NB267_286:=ynl BK267 hg
              have NB286_267:=yng BK267 hg
              replace BK267:=ybb BK267 hb
              have NB274_286:=ynl BK274 hg
              have NB286_274:=yng BK274 hg
              replace BK274:=ybb BK274 hb
              have NB277_286:=ynl BK277 hg
              have NB286_277:=yng BK277 hg
              replace BK277:=ybb BK277 hb
              clear hb hbox hg
              refine hK.out _ _ ⟨(zs BK277.out 0).trans rfl,(zs BK277.out 1).trans rfl,(zs BK277.out 2).trans rfl,((HB.out.cell (zb w _ hw279_0)).trans hw279_0)⟩ (fun hHeld => ?_)
              clear hK K
              refine ym (some 15) ?_
              refine yw 7 53 HT_ (fun K hK => ?_)
              refine ygs Try.func67 #[.agg #[.int .u64 x278000_2, .int .u32 x278001_2, .slice Ao62 x278002_2.length co62], .int .i64 (rd l1 x36_2), .int .i64 x14_35, .bool a3] ?_
              with_reducible refine (gain_put.calls kj35 x278000_2 x278001_2 _ _ x278002_2 (rd l1 x36_2) x14_35 a3 t280 t281 t282 t285 _ ?side1 ?side2 A42.out).mono ?_
              (case side1=>exact yce (Kd.V_reads' HO_278002.out).2.2)
              (case side2=>exact (Kd.V_reads' HO_278002.out).2.1)
              rintro e w65 ⟨v283,rfl,ho0,hb⟩
              refine ⟨_,rfl, ?_⟩
              replace HO_267002:=zm (Kd.V_elder' (yr HO_267002) (Kd.R_base ho0) hb)
              replace HO_278002:=zm (Kd.V_elder' (yr HO_278002) (Kd.R_base ho0) hb)
              have HO284:=zm (Kd.R_lower (Kd.R_new' (Kd.R_newM (M:=fun k_=>(w.heap.size≤k_)) ho0 (zE yhb) (fun k_ h_=>h_)) (Kd.R_lt (yr HO_275002))) (zE yhb))
              replace HO_275002:=zm (Kd.R_elder' (yr HO_275002) (Kd.R_base ho0) hb)
              replace BK266:=ybb BK266 hb
              replace BK267:=ybb BK267 hb
              replace BK274:=ybb BK274 hb
              replace BK277:=ybb BK277 hb
              replace BK286:=ybb BK286 hb
              replace HB:=ybs hb
              (try clear hb)
              (try clear hb2)
              (try clear hk)
              (try clear hi)
              (try clear ho0)
              refine hK.out _ _ ⟨(zs BK277.out 0).trans rfl,(zs BK277.out 1).trans rfl,(zs BK277.out 2).trans rfl,((HB.out.cell (zb w _ hw279_0)).trans hw279_0)⟩ (fun hHeld => ?_)
              clear hK K
              refine ym (some 53) ?_
              refine yp 8 45 HT_ ?_
              refine yp 9 54 HT_ ?_
              refine yp 10 55 HT_ ?_
              exact norm_ (by simp only [putAll,Act.put,List.setIfInBounds_toArray,List.set_cons_zero,List.set_cons_succ]) (hCont (v283,gb286) _ ⟨hHeld,(by (with_reducible repeat (first|apply zo|apply zp|apply zq));exact zG HO284.out (fun _ hk=>⟨hk.1.1,hk.2⟩)),(by (with_reducible repeat (first|apply zA|apply zB|apply zC));exact zy HO_267002.out (fun _ hk=>⟨hk.1.1.1,⟨hk.2,⟨hk.1.1.2.1,⟨hk.1.1.2.2.1,⟨hk.1.1.2.2.2.1,⟨hk.1.1.2.2.2.2.1,⟨hk.1.1.2.2.2.2.2,hk.1.2⟩⟩⟩⟩⟩⟩⟩)),(yr HO_275002),(by (with_reducible repeat (first|apply zA|apply zB|apply zC));exact zy HO_278002.out (fun _ hk=>⟨hk.1.1.1,⟨hk.2,⟨hk.1.1.2.1,⟨hk.1.1.2.2.1,⟨hk.1.1.2.2.2.1,⟨hk.1.1.2.2.2.2.1,⟨hk.1.1.2.2.2.2.2,hk.1.2⟩⟩⟩⟩⟩⟩⟩)),(yk BK266),(yk BK267),(yk BK274),(yk BK277),(yk BK286),GW286.out,GE286.out,NB266_286.out,NB286_266.out,NB267_286.out,NB286_267.out,NB274_286.out,NB286_274.out,NB277_286.out,NB286_277.out,yhb⟩)
            rintro ⟨v283,gb286⟩ w66 ⟨hS_,h0_,h1_,h2_,h3_,h4_,h5_,h6_,h7_,h8_,h9_,h10_,h11_,h12_,h13_,h14_,h15_,h16_,h17_,h18_,h19_⟩
            have n0_ : Aside0 (Kd.R (Kd.int .u8) 5 w66 w.heap.size (fun k_=>(w.heap.size≤k_)∧some k_≠(.slice Ao16 t270.length co16 : Value).ownBlock) v283 t282):=⟨h0_⟩
            have n1_ : Aside0 (Kd.V (Kd.int .u8) 5 w66 w.heap.size (fun k_=>(P0_2_ k_∨w.heap.size≤k_)∧some k_≠(v283 : Value).ownBlock∧some k_≠(.slice Ao16 t270.length co16 : Value).ownBlock∧k_≠gb266∧k_≠gb267∧k_≠gb274∧k_≠gb277∧k_≠gb286) (.slice A0_2 l0_2.length c0_2) l0_2):=⟨h1_⟩
            have n2_ : Aside0 (Kd.R (Kd.int .u8) 5 w66 w.heap.size (fun k_=>(w.heap.size≤k_)∧some k_≠(v283 : Value).ownBlock) (.slice Ao16 t270.length co16) t270):=⟨h2_⟩
            have n3_ : Aside0 (Kd.V (Kd.int .u8) 5 w66 w.heap.size (fun k_=>(P0_2_ k_∨w.heap.size≤k_)∧some k_≠(v283 : Value).ownBlock∧some k_≠(.slice Ao16 t270.length co16 : Value).ownBlock∧k_≠gb266∧k_≠gb267∧k_≠gb274∧k_≠gb277∧k_≠gb286) (.slice Ao62 x278002_2.length co62) x278002_2):=⟨h3_⟩
            have n4_ : Aside0 (w66.heap[gb266]? = some (.cells #[.int .u64 a0_0, .int .u32 a0_1, .slice A0_2 l0_2.length c0_2] 54 (0,0))):=⟨h4_⟩
            have n5_ : Aside0 (w66.heap[gb267]? = some (.cells #[.int .u64 x268000_2, .int .u32 x268001_2, .slice none 0 0] 54 (0,0))):=⟨h5_⟩
            have n6_ : Aside0 (w66.heap[gb274]? = some (.cells #[.int .u64 t268, .int .u32 t269, .slice Ao16 t270.length co16] 54 (0,0))):=⟨h6_⟩
            have n7_ : Aside0 (w66.heap[gb277]? = some (.cells #[.int .u64 x278000_2, .int .u32 x278001_2, .slice Ao62 x278002_2.length co62] 54 (0,0))):=⟨h7_⟩
            have n8_ : Aside0 (w66.heap[gb286]? = some (.cells #[.int .u64 0, .int .u32 0, .slice none 0 0] 54 (0,0))):=⟨h8_⟩
            have n9_ : Aside0 (w.heap.size≤gb286):=⟨h9_⟩
            have n10_ : Aside0 (w.heap.size≤gb286):=⟨h10_⟩
            have n11_ : Aside0 (gb266≠gb286):=⟨h11_⟩
            have n12_ : Aside0 (gb286≠gb266):=⟨h12_⟩
            have n13_ : Aside0 (gb267≠gb286):=⟨h13_⟩
            have n14_ : Aside0 (gb286≠gb267):=⟨h14_⟩
            have n15_ : Aside0 (gb274≠gb286):=⟨h15_⟩
            have n16_ : Aside0 (gb286≠gb274):=⟨h16_⟩
            have n17_ : Aside0 (gb277≠gb286):=⟨h17_⟩
            have n18_ : Aside0 (gb286≠gb277):=⟨h18_⟩
            have n19_ : Aside0 (Below w.heap.size w w66):=⟨h19_⟩
            clear HO_267002;clear HO_275002;clear HO_278002;clear BK266;clear BK267;clear BK274;clear BK277;clear HB;clear h0_ h1_ h2_ h3_ h4_ h5_ h6_ h7_ h8_ h9_ h10_ h11_ h12_ h13_ h14_ h15_ h16_ h17_ h18_ h19_;have HO284:=n0_;have HO_267002:=n1_;have HO_275002:=n2_;have HO_278002:=n3_;have BK266:=n4_;have BK267:=n5_;have BK274:=n6_;have BK277:=n7_;have BK286:=n8_;have GW286:=n9_;have GE286:=n10_;have NB266_286:=n11_;have NB286_266:=n12_;have NB267_286:=n13_;have NB286_267:=n14_;have NB274_286:=n15_;have NB286_274:=n16_;have NB277_286:=n17_;have NB286_277:=n18_;have HB:=n19_;clear n0_ n1_ n2_ n3_ n4_ n5_ n6_ n7_ n8_ n9_ n10_ n11_ n12_ n13_ n14_ n15_ n16_ n17_ n18_ n19_
            have hHeld : w66.cell? ⟨gb277,0,none⟩=some (.int .u64 x278000_2)∧w66.cell? ⟨gb277,1,none⟩=some (.int .u32 x278001_2)∧w66.cell? ⟨gb277,2,none⟩=some (.slice Ao62 x278002_2.length co62)∧w66.cell? (ad279.add (x36_2).toNat)=some (.int .i64 (rd l1 x36_2)):=hS_
            obtain ⟨Ao69,co69,eo69⟩:=Kd.R_slice HO284.out
            (first|subst eo69|(injection eo69 with f1_ f2_ f3_;have f4_:=f1_.symm;have f5_:=f3_.symm;clear f1_ f2_ f3_;subst f4_;subst f5_))
            refine norm_ (a' := ?_) ?_ ?_
            rotate_left
            ·
             simp only [putAll,Act.put,List.setIfInBounds_toArray,List.set_cons_zero,List.set_cons_succ]
             rfl
            refine yv 12 HT_ (fun K hK => ?_)
            have hs67 : w66.cell? ⟨gb286,0,none⟩=some (.int .u64 0):=(zs BK286.out 0).trans rfl
            have hfs67:=zx BK286.out 0
            have hns67_0:=NB266_286.out;have hns67_1:=NB267_286.out;have hns67_2:=NB274_286.out;have hns67_3:=NB277_286.out;have hms67_0:=NB286_266.out;have hms67_1:=NB286_267.out;have hms67_2:=NB286_274.out;have hms67_3:=NB286_277.out
            have hs68 : w66.cell? ⟨gb286,1,none⟩=some (.int .u32 0):=(zs BK286.out 1).trans rfl
            have hfs68:=zx BK286.out 1
            have hns68_0:=NB266_286.out;have hns68_1:=NB267_286.out;have hns68_2:=NB274_286.out;have hns68_3:=NB277_286.out;have hms68_0:=NB286_266.out;have hms68_1:=NB286_267.out;have hms68_2:=NB286_274.out;have hms68_3:=NB286_277.out
            have hs70 : w66.cell? ⟨gb286,2,none⟩=some (.slice none 0 0):=(zs BK286.out 2).trans rfl
            have hfs70:=zx BK286.out 2
            have hns70_0:=NB266_286.out;have hns70_1:=NB267_286.out;have hns70_2:=NB274_286.out;have hns70_3:=NB277_286.out;have hms70_0:=NB286_266.out;have hms70_1:=NB286_267.out;have hms70_2:=NB286_274.out;have hms70_3:=NB286_277.out
            refine skip_ (w1 := ?_) (by rfl) rfl ?_ ?_
            rotate_left
            ·
             go_simp
             rfl
            refine hK.out _ _ ⟨((zr (p:=⟨gb286,_,none⟩) NB277_286.out _).trans (((zr (p:=⟨gb286,_,none⟩) NB277_286.out _).trans (((zr (p:=⟨gb286,_,none⟩) NB277_286.out _).trans (hHeld.1)))))),((zr (p:=⟨gb286,_,none⟩) NB277_286.out _).trans (((zr (p:=⟨gb286,_,none⟩) NB277_286.out _).trans (((zr (p:=⟨gb286,_,none⟩) NB277_286.out _).trans (hHeld.2.1)))))),((zr (p:=⟨gb286,_,none⟩) NB277_286.out _).trans (((zr (p:=⟨gb286,_,none⟩) NB277_286.out _).trans (((zr (p:=⟨gb286,_,none⟩) NB277_286.out _).trans (hHeld.2.2.1)))))),((zr (p:=⟨gb286,_,none⟩) (by first|exact zn (zl (by have:=zb _ _ hw279_0;first|rwa [za] at this|exact this) GW286.out)|(rw [za];exact zn (zl (by have:=zb _ _ hw279_0;first|rwa [za] at this|exact this) GW286.out))|(show (Addr.add _ _).block≠_;rw [za];exact zn (zl (by have:=zb _ _ hw279_0;first|rwa [za] at this|exact this) GW286.out))|(dsimp only;exact zn (zl (by have:=zb _ _ hw279_0;first|rwa [za] at this|exact this) GW286.out))) _).trans (((zr (p:=⟨gb286,_,none⟩) (by first|exact zn (zl (by have:=zb _ _ hw279_0;first|rwa [za] at this|exact this) GW286.out)|(rw [za];exact zn (zl (by have:=zb _ _ hw279_0;first|rwa [za] at this|exact this) GW286.out))|(show (Addr.add _ _).block≠_;rw [za];exact zn (zl (by have:=zb _ _ hw279_0;first|rwa [za] at this|exact this) GW286.out))|(dsimp only;exact zn (zl (by have:=zb _ _ hw279_0;first|rwa [za] at this|exact this) GW286.out))) _).trans (((zr (p:=⟨gb286,_,none⟩) (by first|exact zn (zl (by have:=zb _ _ hw279_0;first|rwa [za] at this|exact this) GW286.out)|(rw [za];exact zn (zl (by have:=zb _ _ hw279_0;first|rwa [za] at this|exact this) GW286.out))|(show (Addr.add _ _).block≠_;rw [za];exact zn (zl (by have:=zb _ _ hw279_0;first|rwa [za] at this|exact this) GW286.out))|(dsimp only;exact zn (zl (by have:=zb _ _ hw279_0;first|rwa [za] at this|exact this) GW286.out))) _).trans (hHeld.2.2.2))))))⟩ (fun hHeld => ?_)
            clear hK K
            refine yp 13 16 HT_ ?_
            refine done_ (done_of HT_.out (by kernel_rfl)) ?_
            have hnb71:=NB274_266.out;have hnc71:=NB266_274.out;have hnb72:=NB274_267.out;have hnc72:=NB267_274.out;have hnb73:=NB274_277.out;have hnc73:=NB277_274.out;have hnb74:=NB274_286.out;have hnc74:=NB286_274.out
            obtain ⟨_,_,_,_,_,_⟩:=yc3 BK274
            have hnb76:=NB267_266.out;have hnc76:=NB266_267.out;have hnb77:=NB267_277.out;have hnc77:=NB277_267.out;have hnb78:=NB267_286.out;have hnc78:=NB286_267.out
            obtain ⟨_,_,_,_,_,_⟩:=yc3 BK267
            try go_wp2
            refine bodyPost_ret (results_ct rfl _ _ gb267 54 #[.int .u64 t268, .int .u32 t269, .slice Ao16 t270.length co16] (0,0) _ rfl (yk BK267) Try.underlying54 rfl (by kernel_rfl)) rfl ?_
            exact ⟨_,ye,zy (Kd.R_V (by (with_reducible repeat (first|apply zo|apply zp|apply zq));exact zG (zH (p:=⟨gb267,2,none⟩) (zH (p:=⟨gb267,1,none⟩) (zH (p:=⟨gb267,0,none⟩) (zH (p:=⟨gb286,2,none⟩) (zH (p:=⟨gb286,1,none⟩) (zH (p:=⟨gb286,0,none⟩) (Kd.R_types (Kd.R_types HO_275002.out BK286.out (by decide)) BK267.out (by decide)) (fun _ hk=>hk.1.2) (.int .u64 t280)) (fun _ hk=>hk.1.2) (.int .u32 t281)) (fun _ hk=>hk.1.2) (.slice Ao69 t282.length co69)) (fun _ hk=>hk.2) (.int .u64 t268)) (fun _ hk=>hk.2) (.int .u32 t269)) (fun _ hk=>hk.2) (.slice Ao16 t270.length co16)) (fun _ hk=>hk.1.1.1))) (fun k_ hk=>by first|exact ⟨(.inr (hk.1)),hk.2⟩|exact (.inr (hk))),yhb⟩
          ·
           rw [if_neg c41] at H
           exact absurd H (by simp)
         ·
          rw [if_neg c40] at H
          exact absurd H (by simp)
      ·
       rw [if_neg c35] at H
       have c35b0 : decide (x36_2 < 5)=false:=decide_eq_false c35
       clear c35
       simp only [Option.some.injEq,Prod.mk.injEq] at H
       obtain ⟨rfl,rfl,rfl,rfl⟩:=H
       have hnb80:=NB277_266.out;have hnc80:=NB266_277.out;have hnb81:=NB277_267.out;have hnc81:=NB267_277.out;have hnb82:=NB277_274.out;have hnc82:=NB274_277.out
       obtain ⟨_,_,_,_,_,_⟩:=yc3 BK277
       have hnb84:=NB267_266.out;have hnc84:=NB266_267.out;have hnb85:=NB267_274.out;have hnc85:=NB274_267.out
       obtain ⟨_,_,_,_,_,_⟩:=yc3 BK267
       obtain ⟨Ao87,co87,eo87⟩:=Kd.V_slice HO_278002.out
       subst eo87
       go_wp2
       refine bodyPost_ret (results_ct rfl _ _ gb267 54 #[.int .u64 x278000_2, .int .u32 x278001_2, .slice Ao87 x278002_2.length co87] (0,0) _ rfl (yk BK267) Try.underlying54 rfl (by kernel_rfl)) rfl ?_
       exact ⟨_,ye,by (with_reducible repeat (first|apply zA|apply zB|apply zC));exact zy (zI (p:=⟨gb267,2,none⟩) (zI (p:=⟨gb267,1,none⟩) (zI (p:=⟨gb267,0,none⟩) (zy HO_278002.out (fun k_ hk=>(⟨hk,hk.2.2.2.1⟩ : _∧k_≠gb267))) (fun _ hk=>hk.2) (.int .u64 x278000_2)) (fun _ hk=>hk.2) (.int .u32 x278001_2)) (fun _ hk=>hk.2) (.slice Ao87 x278002_2.length co87)) (fun _ hk=>hk.1.1),yhb⟩

end Go.Proofs.Ytnmbndkojpjkmaa.Prt

namespace Go.Proofs.Ytnmbndkojpjkmaa.Prt
open Go.RowKit Go.Proofs.YtnmbndkojpjkmaaW.PrintWords Go.Proofs.YtnmbndkojpjkmaaW.PrintLast Go.Proofs.YtnmbndkojpjkmaaW.PrintMore
attribute [local go_sem] max2_int min2_int max_two min_two max_three min_three max_four min_four   -- for this text's walks alone
set_option linter.unusedVariables false
set_option linter.unusedSimpArgs false

/-! ### cpack_Write: function 12 -/
/-- A row of scalars, as one block of cells. -/
theorem cpack_Write.intRow {k : IntKind} {e base : Nat} {ok : Nat→Prop} {w : World} {v : Value} {xs : List Int} (h : (Kd.int k).R e w base ok v xs) :
  (v=.slice none 0 0∧xs = [])∨∃ g cap cur,v=.slice (some ⟨g,0,none⟩) xs.length cap∧ok g∧base≤g∧w.heap[g]? = some (.cells cur e (0,0))∧xs.length≤cap∧cap≤maxLen∧cur.size=cap∧cur.toList.take xs.length=xs.map (Value.int k):=by
 obtain ⟨h0,inner,⟨h1,h2⟩,hr⟩:=h
 have hsz : (Kd.int k).sz=1:=rfl
 have hin : inner=xs.map (Value.int k):=by
  refine List.ext_getElem? fun j => ?_
  have hl : inner.length=xs.length:=by rw [h1,hsz,Nat.mul_one]
  rcases Nat.lt_or_ge j xs.length with hj|hj
  ·
   have:=hr.2 j _ (List.getElem?_eq_getElem hj)
   rw [hsz,Nat.mul_one] at this
   have h3 : (inner.drop j).take 1 = [Value.int k xs[j]]:=this
   have h4:=congrArg (fun l=>l[0]?) h3
   simp only [List.getElem?_take,List.getElem?_drop] at h4
   simp at h4
   simp [h4,hj]
  ·
   rw [List.getElem?_eq_none (by omega),List.getElem?_eq_none (by simp;omega)]
 rcases h2 with ⟨rfl,hn⟩ | ⟨g,cap,cur,rfl,hb,hh,hnc,hcm,hcs,ht⟩
 ·
  exact .inl ⟨rfl,List.eq_nil_of_length_eq_zero hn⟩
 ·
  rw [hsz,Nat.mul_one] at hcs ht
  exact .inr ⟨g,cap,cur,rfl,h0 g rfl,hb,hh,hnc,hcm,hcs,by rw [ht,hin]⟩
theorem cpack_Write.rowInt {k : IntKind} {e base : Nat} {ok : Nat→Prop} {w : World} {xs : List Int} {g cap : Nat} {cur : Array Value} (hg : ok g) (hb : base≤g) (hh : w.heap[g]? = some (.cells cur e (0,0))) (hn : xs.length≤cap) (hc : cap≤maxLen) (hs : cur.size=cap) (ht : cur.toList.take xs.length=xs.map (Value.int k)) :
  (Kd.int k).R e w base ok (.slice (some ⟨g,0,none⟩) xs.length cap) xs:=by
 have hsz : (Kd.int k).sz=1:=rfl
 refine ⟨fun q hq => ?_,xs.map (Value.int k),⟨by simp [hsz], .inr ⟨g,cap,cur,rfl,hb,hh,hn,hc,by rw [hsz,Nat.mul_one,hs],by rw [hsz,Nat.mul_one,ht]⟩⟩,by simp [hsz],fun j p hp => ?_⟩
 ·
  simp only [Value.ownBlock,Option.some.injEq] at hq;exact hq ▸ hg
 ·
  have : ((xs.map (Value.int k)).drop (j * 1)).take 1 = [Value.int k p]:=by
   rw [Nat.mul_one]
   obtain ⟨hj,hpj⟩:=List.getElem?_eq_some_iff.1 hp
   refine List.ext_getElem? fun i => ?_
   rcases i with _|i
   ·
    simp [List.getElem?_take,hp]
   ·
    simp [List.getElem?_take]
  exact this

theorem cpack_Write.copyRow {P : Program} {ops : Array Oper} {rest : List Oper} {o : Oper} {a : Act} {Q : Exit→Act→World→Prop} {k : IntKind} {w0 W : World} (base : Nat) (hgd : o.guard=none) (d s : Operand) (t e : TypeId)
  (ho : o.op=.call { callee:=.builtin .copy,args := #[d,s],argTypes := #[t,t] }) (ht : P.underlying t=some (.slice e)) {z : Value} {bytes : Nat} (hinfo : (P.info? e).map (fun i=>(i.zero,i.size,i.bytes))=some (some z,1,bytes))
  (v : Value) (xs ys : List Int) (A : Option Addr) (m c : Nat) (ok : Nat→Prop) (hd : a.eval d=v) (hs : a.eval s=.slice A m c)
  (HO : (Kd.int k).R e W base ok v xs) (HR : (Kd.int k).C W A m ys) (HB : Below base w0 W)
  (h : ∀ w1,(Kd.int k).R e w1 base ok v (ys.take xs.length ++ xs.drop ys.length)→Below base w0 w1→wpList P ops Q rest (a.put o.dst (goInt ((min m xs.length : Nat) : Int))) w1) :
  wpList P ops Q (o :: rest) a W:=by
 have hm : ys.length=m:=HR.1
 have hsz : (P.info? e).map (·.size)=some 1:=by
  obtain ⟨i0,hi,hz⟩:=Option.map_eq_some_iff.1 hinfo
  simp only [Prod.mk.injEq] at hz
  rw [hi,Option.map_some,hz.2.1]
 rcases cpack_Write.intRow HO with ⟨rfl,rfl⟩ | ⟨g,cap,cur,rfl,hok,hbg,hh,hnc,hcm,hcs,htk⟩
 ·
  refine wpList_copy_nothing hgd d s t t ho e ht hsz none A 0 0 m c hd hs (by simp) ?_
  have:=h W (by simpa using HO) HB
  simpa using this
 ·
  have hl : (ys.take xs.length).length=min m xs.length:=by simp [List.length_take,hm,Nat.min_comm]
  refine wpList_copy_splice hgd d s t t ho e ht hsz _ A xs.length cap m c hd hs g 0 cur.toList e (by simpa using hh) ((ys.take xs.length).map (Value.int k)) (by rw [List.length_map,hl]) (fun hp=>⟨rfl, ?_⟩) (by rw [List.length_map,hl];have : cur.toList.length=cap:=(by simpa using hcs);omega) (fun v hv=>by obtain ⟨x,_,rfl⟩:=List.mem_map.1 hv;rfl) base w0 HB hbg (fun w1 hg1 hb1 => ?_)
  ·
   rw [List.length_map,hl] at hp
   obtain ⟨ad,rfl,hc⟩:=HR.2.2 (by omega)
   refine ⟨ad,rfl,fun j v hj => ?_⟩
   rw [List.getElem?_map,List.getElem?_take] at hj
   split at hj
   ·
    rcases hy : ys[j]? with _|y
    ·
     rw [hy] at hj;simp at hj
    ·
     rw [hy] at hj
     simp only [Option.map_some,Option.some.injEq] at hj
     subst hj
     obtain ⟨cs,hcl,hcr,hcc⟩:=hc j y hy
     have hcr : cs = [Value.int k y]:=hcr
     subst hcr
     have:=hcc 0 _ rfl
     have h1 : (Kd.int k).sz=1:=rfl
     rwa [h1,Nat.mul_one,Nat.add_zero] at this
   ·
    simp at hj
  ·
   have hlen : (ys.take xs.length ++ xs.drop ys.length).length=xs.length:=by
    rw [List.length_append,List.length_drop,List.length_take];omega
   have hR : (Kd.int k).R e w1 base ok (.slice (some ⟨g,0,none⟩) (ys.take xs.length ++ xs.drop ys.length).length cap) (ys.take xs.length ++ xs.drop ys.length):=by
    refine cpack_Write.rowInt hok hbg hg1 (by omega) hcm ?_ ?_
    ·
     have:=length_splice cur.toList 0 ((ys.take xs.length).map (Value.int k)) (by rw [List.length_map,hl];have : cur.toList.length=cap:=(by simpa using hcs);omega)
     simp only [List.size_toArray,this]
     simpa using hcs
    ·
     rw [hlen]
     simp only [splice,List.take_zero,List.nil_append,List.length_map,Nat.zero_add,List.map_append]
     have hcur : cur.toList=xs.map (Value.int k) ++ cur.toList.drop xs.length:=by rw [← htk,List.take_append_drop]
     have h2 : (cur.toList.drop (ys.take xs.length).length)=(xs.drop (ys.take xs.length).length).map (Value.int k) ++ cur.toList.drop xs.length:=by
      conv=>lhs;rw [hcur]
      rw [List.drop_append_of_le_length (by rw [List.length_map,hl];omega),List.map_drop]
     rw [h2, ← List.append_assoc,List.take_append_of_le_length (by rw [List.length_append,List.length_map,List.length_map,List.length_drop];omega),List.take_of_length_le (by rw [List.length_append,List.length_map,List.length_map,List.length_drop];omega)]
     congr 2
     rcases Nat.le_total ys.length xs.length with h3|h3
     ·
      rw [List.length_take,Nat.min_eq_right h3]
     ·
      rw [List.length_take,Nat.min_eq_left h3,List.drop_eq_nil_of_le (Nat.le_refl _),List.drop_eq_nil_of_le h3]
   rw [hlen] at hR
   have:=h w1 hR hb1
   rwa [← hl, ← List.length_map (f:=Value.int k)] at this
mutual
def cpack_Write.j0 : Nat→Int→Int→List (List Int)→Bool→Bool→List (List Int)→List (List (List Int))→Option (List Int × Int)
 | 0,_,_,_,_,_,_,_=>none
 | k+1,x0,x1,x3,x41,x301000,x301001,x301002=>if x41=true then (some (([] : List Int),1)) else (if x301000=true then (cpack_Write.j1 k x0 x1 x3 1 x301000 x301001 x301002) else (cpack_Write.j1 k x0 x1 x3 0 x301000 x301001 x301002))
def cpack_Write.j1 : Nat→Int→Int→List (List Int)→Int→Bool→List (List Int)→List (List (List Int))→Option (List Int × Int)
 | 0,_,_,_,_,_,_,_=>none
 | k+1,x0,x1,x3,x10,x301000,x301001,x301002=>(coder_New.f).bind fun bt303=>((coder_Put.f k bt303.1 bt303.2.1 bt303.2.2 x10 (wrap64 (x10+1)) 2).bind fun bt308=>(cpack_Write.l0 k x0 x1 x3 x301001 (x301001.length : Int) 0 x301000 x301001 x301002 bt308.1 bt308.2.1 bt308.2.2.1))
def cpack_Write.l0 : Nat→Int→Int→List (List Int)→List (List Int)→Int→Int→Bool→List (List Int)→List (List (List Int))→Int→Int→List Int→Option (List Int × Int)
 | 0,_,_,_,_,_,_,_,_,_,_,_,_=>none
 | k+1,x0,x1,x3,x53,x54,x55,x301000,x301001,x301002,x315000,x315001,x315002=>if x55 < x54 then (if 0≤x55 then (if x55 < (x53.length : Int) then ((cpack_of.f x3 x55).bind fun t316=>((gain_Put.f k x315000 x315001 x315002 (rd_L1 x53 x55) t316 x301000).bind fun bt319=>(cpack_Write.l0 k x0 x1 x3 x53 x54 (wrap64 (x55+1)) x301000 x301001 x301002 bt319.1 bt319.2.1 bt319.2.2.1))) else (none)) else (none)) else ((alloc_Pulses.f k x0 x1 x301001).bind fun bt325=>(cpack_Write.l1 k x0 bt325.1 x301002 (x301002.length : Int) 0 x315000 x315001 x315002))
def cpack_Write.l1 : Nat→Int→List (List Int)→List (List (List Int))→Int→Int→Int→Int→List Int→Option (List Int × Int)
 | 0,_,_,_,_,_,_,_,_=>none
 | k+1,x0,x15,x81,x82,x83,x315000,x315001,x315002=>if x83 < x82 then (if 0≤x83 then (if x83 < (x81.length : Int) then (cpack_Write.l2 k x0 x15 x83 x81 x82 x83 (rd_L2 x81 x83) ((rd_L2 x81 x83).length : Int) 0 x315000 x315001 x315002) else (none)) else (none)) else (if 0≤x0 then (if (x0 : Int).toNat≤281474976710656 then ((some (List.replicate (x0 : Int).toNat 0 : List Int)).bind fun y329=>((coder_Finish.f x315000 x315001 x315002).bind fun t332=>(some ((t332.take y329.length ++ y329.drop t332.length),0)))) else (none)) else (none))
def cpack_Write.l2 : Nat→Int→List (List Int)→Int→List (List (List Int))→Int→Int→List (List Int)→Int→Int→Int→Int→List Int→Option (List Int × Int)
 | 0,_,_,_,_,_,_,_,_,_,_,_,_=>none
 | k+1,x0,x15,x17,x81,x82,x83,x88,x89,x90,x315000,x315001,x315002=>if x90 < x89 then (if 0≤x90 then (if x90 < (x88.length : Int) then (if 0≤x17 then (if x17 < (x15.length : Int) then (if x90 < ((rd_L1 x15 x17).length : Int) then (if (rd (rd_L1 x15 x17) x90)=0 then (cpack_Write.l2 k x0 x15 x17 x81 x82 x83 x88 x89 (wrap64 (x90+1)) x315000 x315001 x315002) else ((band_Width.f x90).bind fun t342=>((comb_Count.f t342 (rd (rd_L1 x15 x17) x90)).bind fun bt345=>((comb_Index.f k (rd_L1 x88 x90)).bind fun bt347=>((coder_PutNum.f k x315000 x315001 x315002 bt347.1 bt345.1).bind fun bt349=>(cpack_Write.l2 k x0 x15 x17 x81 x82 x83 x88 x89 (wrap64 (x90+1)) bt349.1 bt349.2.1 bt349.2.2.1)))))) else (none)) else (none)) else (none)) else (none)) else (none)) else (cpack_Write.l1 k x0 x15 x81 x82 (wrap64 (x83+1)) x315000 x315001 x315002)
end
def cpack_Write.f (k : Nat) (a0 : Int) (a1 : Int) (a2_0 : Bool) (l2_1 : List (List Int)) (l2_2 : List (List (List Int))) (l3 : List (List Int)) : Option (List Int × Int):=(cpack_Right.f k a0 a1 a2_0 l2_1 l2_2).bind fun t301=>(if t301=true then (if a2_0=true then (cpack_Write.j0 k a0 a1 l3 false a2_0 l2_1 l2_2) else ((cpack_gains.f k a1 l3).bind fun t302=>(cpack_Write.j0 k a0 a1 l3 (!t302) a2_0 l2_1 l2_2))) else (cpack_Write.j0 k a0 a1 l3 true a2_0 l2_1 l2_2))
theorem cpack_Write.mono_l : ∀ k,(∀ y0 y1 y2 y3 y4 y5 y6,LeO (cpack_Write.j0 k y0 y1 y2 y3 y4 y5 y6) (cpack_Write.j0 (k+1) y0 y1 y2 y3 y4 y5 y6))∧(∀ y0 y1 y2 y3 y4 y5 y6,LeO (cpack_Write.j1 k y0 y1 y2 y3 y4 y5 y6) (cpack_Write.j1 (k+1) y0 y1 y2 y3 y4 y5 y6))∧(∀ y0 y1 y2 y3 y4 y5 y6 y7 y8 y9 y10 y11,LeO (cpack_Write.l0 k y0 y1 y2 y3 y4 y5 y6 y7 y8 y9 y10 y11) (cpack_Write.l0 (k+1) y0 y1 y2 y3 y4 y5 y6 y7 y8 y9 y10 y11))∧(∀ y0 y1 y2 y3 y4 y5 y6 y7,LeO (cpack_Write.l1 k y0 y1 y2 y3 y4 y5 y6 y7) (cpack_Write.l1 (k+1) y0 y1 y2 y3 y4 y5 y6 y7))∧(∀ y0 y1 y2 y3 y4 y5 y6 y7 y8 y9 y10 y11,LeO (cpack_Write.l2 k y0 y1 y2 y3 y4 y5 y6 y7 y8 y9 y10 y11) (cpack_Write.l2 (k+1) y0 y1 y2 y3 y4 y5 y6 y7 y8 y9 y10 y11))
 | 0=>⟨fun _ _ _ _ _ _ _ r h=>by simp [cpack_Write.j0] at h,fun _ _ _ _ _ _ _ r h=>by simp [cpack_Write.j1] at h,fun _ _ _ _ _ _ _ _ _ _ _ _ r h=>by simp [cpack_Write.l0] at h,fun _ _ _ _ _ _ _ _ r h=>by simp [cpack_Write.l1] at h,fun _ _ _ _ _ _ _ _ _ _ _ _ r h=>by simp [cpack_Write.l2] at h⟩
 | k+1=>by
  obtain ⟨ih0,ih1,ih2,ih3,ih4⟩:=cpack_Write.mono_l k
  refine ⟨?_, ?_, ?_, ?_, ?_⟩
  ·
   intro y0 y1 y2 y3 y4 y5 y6
   unfold cpack_Write.j0
   repeat' first
   | (with_reducible exact ih0 _ _ _ _ _ _ _)
   | (with_reducible exact ih1 _ _ _ _ _ _ _)
   | (with_reducible exact ih2 _ _ _ _ _ _ _ _ _ _ _ _)
   | (with_reducible exact ih3 _ _ _ _ _ _ _ _)
   | (with_reducible exact ih4 _ _ _ _ _ _ _ _ _ _ _ _)
   | (with_reducible exact alloc_Pulses.mono _ _ _ _)
   | (with_reducible exact coder_Put.mono _ _ _ _ _ _ _)
   | (with_reducible exact coder_PutNum.mono _ _ _ _ _ _)
   | (with_reducible exact comb_Index.mono _ _)
   | (with_reducible exact cpack_Right.mono _ _ _ _ _ _)
   | (with_reducible exact cpack_gains.mono _ _ _)
   | (with_reducible exact gain_Put.mono _ _ _ _ _ _ _)
   | (with_reducible exact LeO.refl _)
   | (with_reducible exact LeO.none _)
   | (with_reducible refine LeO.ite ?_ ?_)
   | (with_reducible refine LeO.bind ?_ (fun _ => ?_))
   | exact ih0 _ _ _ _ _ _ _
   | exact ih1 _ _ _ _ _ _ _
   | exact ih2 _ _ _ _ _ _ _ _ _ _ _ _
   | exact ih3 _ _ _ _ _ _ _ _
   | exact ih4 _ _ _ _ _ _ _ _ _ _ _ _
   | exact alloc_Pulses.mono _ _ _ _
   | exact coder_Put.mono _ _ _ _ _ _ _
   | exact coder_PutNum.mono _ _ _ _ _ _
   | exact comb_Index.mono _ _
   | exact cpack_Right.mono _ _ _ _ _ _
   | exact cpack_gains.mono _ _ _
   | exact gain_Put.mono _ _ _ _ _ _ _
   | exact LeO.none _
   | refine LeO.ite ?_ ?_
   | refine LeO.bind ?_ (fun _ => ?_)
  ·
   intro y0 y1 y2 y3 y4 y5 y6
   unfold cpack_Write.j1
   repeat' first
   | (with_reducible exact ih0 _ _ _ _ _ _ _)
   | (with_reducible exact ih1 _ _ _ _ _ _ _)
   | (with_reducible exact ih2 _ _ _ _ _ _ _ _ _ _ _ _)
   | (with_reducible exact ih3 _ _ _ _ _ _ _ _)
   | (with_reducible exact ih4 _ _ _ _ _ _ _ _ _ _ _ _)
   | (with_reducible exact alloc_Pulses.mono _ _ _ _)
   | (with_reducible exact coder_Put.mono _ _ _ _ _ _ _)
   | (with_reducible exact coder_PutNum.mono _ _ _ _ _ _)
   | (with_reducible exact comb_Index.mono _ _)
   | (with_reducible exact cpack_Right.mono _ _ _ _ _ _)
   | (with_reducible exact cpack_gains.mono _ _ _)
   | (with_reducible exact gain_Put.mono _ _ _ _ _ _ _)
   | (with_reducible exact LeO.refl _)
   | (with_reducible exact LeO.none _)
   | (with_reducible refine LeO.ite ?_ ?_)
   | (with_reducible refine LeO.bind ?_ (fun _ => ?_))
   | exact ih0 _ _ _ _ _ _ _
   | exact ih1 _ _ _ _ _ _ _
   | exact ih2 _ _ _ _ _ _ _ _ _ _ _ _
   | exact ih3 _ _ _ _ _ _ _ _
   | exact ih4 _ _ _ _ _ _ _ _ _ _ _ _
   | exact alloc_Pulses.mono _ _ _ _
   | exact coder_Put.mono _ _ _ _ _ _ _
   | exact coder_PutNum.mono _ _ _ _ _ _
   | exact comb_Index.mono _ _
   | exact cpack_Right.mono _ _ _ _ _ _
   | exact cpack_gains.mono _ _ _
   | exact gain_Put.mono _ _ _ _ _ _ _
   | exact LeO.none _
   | refine LeO.ite ?_ ?_
   | refine LeO.bind ?_ (fun _ => ?_)
  ·
   intro y0 y1 y2 y3 y4 y5 y6 y7 y8 y9 y10 y11
   unfold cpack_Write.l0
   repeat' first
   | (with_reducible exact ih0 _ _ _ _ _ _ _)
   | (with_reducible exact ih1 _ _ _ _ _ _ _)
   | (with_reducible exact ih2 _ _ _ _ _ _ _ _ _ _ _ _)
   | (with_reducible exact ih3 _ _ _ _ _ _ _ _)
   | (with_reducible exact ih4 _ _ _ _ _ _ _ _ _ _ _ _)
   | (with_reducible exact alloc_Pulses.mono _ _ _ _)
   | (with_reducible exact coder_Put.mono _ _ _ _ _ _ _)
   | (with_reducible exact coder_PutNum.mono _ _ _ _ _ _)
   | (with_reducible exact comb_Index.mono _ _)
   | (with_reducible exact cpack_Right.mono _ _ _ _ _ _)
   | (with_reducible exact cpack_gains.mono _ _ _)
   | (with_reducible exact gain_Put.mono _ _ _ _ _ _ _)
   | (with_reducible exact LeO.refl _)
   | (with_reducible exact LeO.none _)
   | (with_reducible refine LeO.ite ?_ ?_)
   | (with_reducible refine LeO.bind ?_ (fun _ => ?_))
   | exact ih0 _ _ _ _ _ _ _
   | exact ih1 _ _ _ _ _ _ _
   | exact ih2 _ _ _ _ _ _ _ _ _ _ _ _
   | exact ih3 _ _ _ _ _ _ _ _
   | exact ih4 _ _ _ _ _ _ _ _ _ _ _ _
   | exact alloc_Pulses.mono _ _ _ _
   | exact coder_Put.mono _ _ _ _ _ _ _
   | exact coder_PutNum.mono _ _ _ _ _ _
   | exact comb_Index.mono _ _
   | exact cpack_Right.mono _ _ _ _ _ _
   | exact cpack_gains.mono _ _ _
   | exact gain_Put.mono _ _ _ _ _ _ _
   | exact LeO.none _
   | refine LeO.ite ?_ ?_
   | refine LeO.bind ?_ (fun _ => ?_)
  ·
   intro y0 y1 y2 y3 y4 y5 y6 y7
   unfold cpack_Write.l1
   repeat' first
   | (with_reducible exact ih0 _ _ _ _ _ _ _)
   | (with_reducible exact ih1 _ _ _ _ _ _ _)
   | (with_reducible exact ih2 _ _ _ _ _ _ _ _ _ _ _ _)
   | (with_reducible exact ih3 _ _ _ _ _ _ _ _)
   | (with_reducible exact ih4 _ _ _ _ _ _ _ _ _ _ _ _)
   | (with_reducible exact alloc_Pulses.mono _ _ _ _)
   | (with_reducible exact coder_Put.mono _ _ _ _ _ _ _)
   | (with_reducible exact coder_PutNum.mono _ _ _ _ _ _)
   | (with_reducible exact comb_Index.mono _ _)
   | (with_reducible exact cpack_Right.mono _ _ _ _ _ _)
   | (with_reducible exact cpack_gains.mono _ _ _)
   | (with_reducible exact gain_Put.mono _ _ _ _ _ _ _)
   | (with_reducible exact LeO.refl _)
   | (with_reducible exact LeO.none _)
   | (with_reducible refine LeO.ite ?_ ?_)
   | (with_reducible refine LeO.bind ?_ (fun _ => ?_))
   | exact ih0 _ _ _ _ _ _ _
   | exact ih1 _ _ _ _ _ _ _
   | exact ih2 _ _ _ _ _ _ _ _ _ _ _ _
   | exact ih3 _ _ _ _ _ _ _ _
   | exact ih4 _ _ _ _ _ _ _ _ _ _ _ _
   | exact alloc_Pulses.mono _ _ _ _
   | exact coder_Put.mono _ _ _ _ _ _ _
   | exact coder_PutNum.mono _ _ _ _ _ _
   | exact comb_Index.mono _ _
   | exact cpack_Right.mono _ _ _ _ _ _
   | exact cpack_gains.mono _ _ _
   | exact gain_Put.mono _ _ _ _ _ _ _
   | exact LeO.none _
   | refine LeO.ite ?_ ?_
   | refine LeO.bind ?_ (fun _ => ?_)
  ·
   intro y0 y1 y2 y3 y4 y5 y6 y7 y8 y9 y10 y11
   unfold cpack_Write.l2
   repeat' first
   | (with_reducible exact ih0 _ _ _ _ _ _ _)
   | (with_reducible exact ih1 _ _ _ _ _ _ _)
   | (with_reducible exact ih2 _ _ _ _ _ _ _ _ _ _ _ _)
   | (with_reducible exact ih3 _ _ _ _ _ _ _ _)
   | (with_reducible exact ih4 _ _ _ _ _ _ _ _ _ _ _ _)
   | (with_reducible exact alloc_Pulses.mono _ _ _ _)
   | (with_reducible exact coder_Put.mono _ _ _ _ _ _ _)
   | (with_reducible exact coder_PutNum.mono _ _ _ _ _ _)
   | (with_reducible exact comb_Index.mono _ _)
   | (with_reducible exact cpack_Right.mono _ _ _ _ _ _)
   | (with_reducible exact cpack_gains.mono _ _ _)
   | (with_reducible exact gain_Put.mono _ _ _ _ _ _ _)
   | (with_reducible exact LeO.refl _)
   | (with_reducible exact LeO.none _)
   | (with_reducible refine LeO.ite ?_ ?_)
   | (with_reducible refine LeO.bind ?_ (fun _ => ?_))
   | exact ih0 _ _ _ _ _ _ _
   | exact ih1 _ _ _ _ _ _ _
   | exact ih2 _ _ _ _ _ _ _ _ _ _ _ _
   | exact ih3 _ _ _ _ _ _ _ _
   | exact ih4 _ _ _ _ _ _ _ _ _ _ _ _
   | exact alloc_Pulses.mono _ _ _ _
   | exact coder_Put.mono _ _ _ _ _ _ _
   | exact coder_PutNum.mono _ _ _ _ _ _
   | exact comb_Index.mono _ _
   | exact cpack_Right.mono _ _ _ _ _ _
   | exact cpack_gains.mono _ _ _
   | exact gain_Put.mono _ _ _ _ _ _ _
   | exact LeO.none _
   | refine LeO.ite ?_ ?_
   | refine LeO.bind ?_ (fun _ => ?_)
theorem cpack_Write.mono : ∀ a0 a1 a2 a3 a4 a5 k,LeO (cpack_Write.f k a0 a1 a2 a3 a4 a5) (cpack_Write.f (k+1) a0 a1 a2 a3 a4 a5):=by
 intro a0 a1 a2 a3 a4 a5 k
 obtain ⟨ih0,ih1,ih2,ih3,ih4⟩:=cpack_Write.mono_l k
 unfold cpack_Write.f
 repeat' first
   | (with_reducible exact ih0 _ _ _ _ _ _ _)
   | (with_reducible exact ih1 _ _ _ _ _ _ _)
   | (with_reducible exact ih2 _ _ _ _ _ _ _ _ _ _ _ _)
   | (with_reducible exact ih3 _ _ _ _ _ _ _ _)
   | (with_reducible exact ih4 _ _ _ _ _ _ _ _ _ _ _ _)
   | (with_reducible exact alloc_Pulses.mono _ _ _ _)
   | (with_reducible exact coder_Put.mono _ _ _ _ _ _ _)
   | (with_reducible exact coder_PutNum.mono _ _ _ _ _ _)
   | (with_reducible exact comb_Index.mono _ _)
   | (with_reducible exact cpack_Right.mono _ _ _ _ _ _)
   | (with_reducible exact cpack_gains.mono _ _ _)
   | (with_reducible exact gain_Put.mono _ _ _ _ _ _ _)
   | (with_reducible exact LeO.refl _)
   | (with_reducible exact LeO.none _)
   | (with_reducible refine LeO.ite ?_ ?_)
   | (with_reducible refine LeO.bind ?_ (fun _ => ?_))
   | exact ih0 _ _ _ _ _ _ _
   | exact ih1 _ _ _ _ _ _ _
   | exact ih2 _ _ _ _ _ _ _ _ _ _ _ _
   | exact ih3 _ _ _ _ _ _ _ _
   | exact ih4 _ _ _ _ _ _ _ _ _ _ _ _
   | exact alloc_Pulses.mono _ _ _ _
   | exact coder_Put.mono _ _ _ _ _ _ _
   | exact coder_PutNum.mono _ _ _ _ _ _
   | exact comb_Index.mono _ _
   | exact cpack_Right.mono _ _ _ _ _ _
   | exact cpack_gains.mono _ _ _
   | exact gain_Put.mono _ _ _ _ _ _ _
   | exact LeO.none _
   | refine LeO.ite ?_ ?_
   | refine LeO.bind ?_ (fun _ => ?_)
def cpack_Write.T10 : Bool × List (List Nat × List Nat):=(true, [([], []),([], []),([], []),([], []),([2,3], [2,3]),([], []),([5], [5]),([0,1,4,6,4], [0,1,4,6]),([7], [7]),([8], [8]),([8], [8]),([9,7,0,1,2,3,4,5,6,7,8,9], [9])])
def cpack_Write.B10 : List Nat := [0,0,0,0,12,0,32,127,255,511,511,1023]
theorem cpack_Write.tab10 : rtab .any (opsOf Try.f12 10)=cpack_Write.T10:=by kernel_rfl
theorem cpack_Write.bits10 : waitsOk cpack_Write.T10.2 cpack_Write.B10=true:=by kernel_rfl
def cpack_Write.T20 : Bool × List (List Nat × List Nat):=(true, [([], []),([0], [0]),([], []),([], []),([2,3], [2,3]),([4], [4]),([], []),([5,6], [5,6]),([7], [7]),([1,8,1], [1,8]),([9], [9]),([10], [10]),([10], [10]),([11,9,0,1,2,3,4,5,6,7,8,9,10,11], [11]),([12,13,0,1,2,3,4,5,6,7,8,9,10,11,12,13], [12])])
def cpack_Write.B20 : List Nat := [0,1,0,0,12,28,0,124,252,511,1023,2047,2047,4095,16383]
theorem cpack_Write.tab20 : rtab .any (opsOf Try.f12 20)=cpack_Write.T20:=by kernel_rfl
theorem cpack_Write.bits20 : waitsOk cpack_Write.T20.2 cpack_Write.B20=true:=by kernel_rfl
set_option maxHeartbeats 8000000 in
set_option maxRecDepth 100000 in
theorem cpack_Write.calls (k : Nat) (a0 : Int) (a1 : Int) (a2_0 : Bool) (A2_1 : Option Addr) (c2_1 : Nat) (l2_1 : List (List Int)) (A2_2 : Option Addr) (c2_2 : Nat) (l2_2 : List (List (List Int))) (A3 : Option Addr) (c3 : Nat) (l3 : List (List Int)) (r1 : List Int) (r2 : Int) (w : World) (hr2_1 : Kd.C (Kd.slice 3 (Kd.int .i64)) w A2_1 l2_1.length l2_1) (hc2_1 : l2_1.length≤c2_1) (hr2_2 : Kd.C (Kd.slice 49 (Kd.slice 3 (Kd.int .i64))) w A2_2 l2_2.length l2_2) (hc2_2 : l2_2.length≤c2_2) (hr3 : Kd.C (Kd.slice 3 (Kd.int .i64)) w A3 l3.length l3) (hc3 : l3.length≤c3) (h : cpack_Write.f k a0 a1 a2_0 l2_1 l2_2 l3=some (r1,r2)) :
  Calls Try.prog 12 #[.int .i64 a0, .int .i64 a1, .agg #[.bool a2_0, .slice A2_1 l2_1.length c2_1, .slice A2_2 l2_2.length c2_2], .slice A3 l3.length c3] w fun e w' => ∃ v0_ : Value,e=.returned (.tuple #[v0_, .int .i64 r2])∧Kd.R (Kd.int .u8) 5 w' w.heap.size (fun _=>True) v0_ r1∧Below w.heap.size w w' := by
 have hu25:=Try.underlying25;have hu54:=Try.underlying54;have HR2_1:=zm hr2_1;have HC2_1:=zm hc2_1;clear hr2_1 hc2_1;have HR2_2:=zm hr2_2;have HC2_2:=zm hc2_2;clear hr2_2 hc2_2;have HR3:=zm hr3;have HC3:=zm hc3;clear hr3 hc3;have HB:=zm (Below.refl w.heap.size w)
 have H : ((cpack_Right.f k a0 a1 a2_0 l2_1 l2_2).bind fun t301=>(if t301=true then (if a2_0=true then (cpack_Write.j0 k a0 a1 l3 false a2_0 l2_1 l2_2) else ((cpack_gains.f k a1 l3).bind fun t302=>(cpack_Write.j0 k a0 a1 l3 (!t302) a2_0 l2_1 l2_2))) else (cpack_Write.j0 k a0 a1 l3 true a2_0 l2_1 l2_2)))=some (r1,r2):=h
 clear h;have HC5:=zm H;clear H
 go_enter Try.func12,Try.ntmps12
 go_upto_region 1 with (first|((with_reducible refine gate_dst (N:=6) rfl ?_);refine ybx 6 #[.bool a2_0, .slice A2_1 l2_1.length c2_1, .slice A2_2 l2_2.length c2_2] 25 ?_;intro gb300 hg w6 hbox hb;have BK300:=zm (hbox);have GW300:=ygw hg;have GE300:=ygw hg;replace HB:=ybs hb;clear hb hbox hg))
 (try simp only [Act.put,List.setIfInBounds_toArray,List.set_cons_zero,List.set_cons_succ])
 go_cut [41] (fun v41 wc => ∃ (kq : Nat) (x41_4 : Bool),v41=.bool x41_4∧Aside0 (cpack_Write.j0 kq a0 a1 l3 x41_4 a2_0 l2_1 l2_2=some (r1,r2))∧Aside0 (kq≤k)∧Aside0 (wc.heap[gb300]? = some (.cells #[.bool a2_0,(.slice A2_1 l2_1.length c2_1),(.slice A2_2 l2_2.length c2_2)] 25 (0,0)))∧Aside0 (Below w.heap.size w wc))
 case first =>
  have H:=HC5.out;clear HC5
  obtain ⟨t301,A7,H⟩:=ybi H
  by_cases c8 : t301=true
  ·
   subst c8
   rw [if_pos rfl] at H
   by_cases c9 : a2_0=true
   ·
    subst c9
    rw [if_pos rfl] at H
    have H' := zm H
    clear H
    obtain ⟨_,_,_,_,_,_⟩:=yc3 BK300
    go_wp2_with (first|((with_reducible refine gate_callee (f:=15) rfl ?_);refine ygl 29 Try.func15 #[.int .i64 a0, .int .i64 a1, .agg #[.bool true, .slice A2_1 l2_1.length c2_1, .slice A2_2 l2_2.length c2_2]] ?_;(with_reducible refine (cpack_Right.calls k a0 a1 true _ _ l2_1 _ _ l2_2 true _ ?side1 HC2_1.out ?side3 HC2_2.out A7.out).mono ?_);(case side1=>exact ycb HR2_1);(case side3=>exact ycb HR2_2);rintro e w11 ⟨rfl,hb⟩;refine ⟨_,rfl, ?_⟩;replace BK300:=ybb BK300 hb;replace HB:=ybs hb;(try clear hb);(try clear hb2);(try clear hk);(try clear hi);obtain ⟨_,_,_,_,_,_⟩:=yc3 BK300))
    go_meet
    case rel=>exact ⟨_,(false),yq,H',⟨yo⟩,⟨yk BK300⟩,⟨yhb⟩⟩
   ·
    replace c9:=Bool.eq_false_iff.mpr c9
    subst c9
    rw [ynf] at H
    obtain ⟨t302,A13,H⟩:=ybi H
    have H' := zm H
    clear H
    obtain ⟨_,_,_,_,_,_⟩:=yc3 BK300
    go_wp2_with (first|((with_reducible refine gate_callee (f:=15) rfl ?_);refine ygl 29 Try.func15 #[.int .i64 a0, .int .i64 a1, .agg #[.bool false, .slice A2_1 l2_1.length c2_1, .slice A2_2 l2_2.length c2_2]] ?_;(with_reducible refine (cpack_Right.calls k a0 a1 false _ _ l2_1 _ _ l2_2 true _ ?side1 HC2_1.out ?side3 HC2_2.out A7.out).mono ?_);(case side1=>exact ycb HR2_1);(case side3=>exact ycb HR2_2);rintro e w15 ⟨rfl,hb⟩;refine ⟨_,rfl, ?_⟩;replace BK300:=ybb BK300 hb;replace HB:=ybs hb;(try clear hb);(try clear hb2);(try clear hk);(try clear hi);obtain ⟨_,_,_,_,_,_⟩:=yc3 BK300)|(go_at_call 25;(with_reducible refine (cpack_gains.calls k a1 _ _ l3 t302 _ ?side1 HC3.out A13.out).mono ?_);(case side1=>exact ycb HR3);rintro e w' ⟨rfl,⟨nd,rfl⟩⟩))
    go_meet
    case rel=>exact ⟨_,(!t302),yq,H',⟨yo⟩,⟨yk BK300⟩,⟨yhb⟩⟩
  ·
   replace c8:=Bool.eq_false_iff.mpr c8
   subst c8
   rw [ynf] at H
   have H' := zm H
   clear H
   obtain ⟨_,_,_,_,_,_⟩:=yc3 BK300
   go_wp2_with (first|((with_reducible refine gate_callee (f:=15) rfl ?_);refine ygl 29 Try.func15 #[.int .i64 a0, .int .i64 a1, .agg #[.bool a2_0, .slice A2_1 l2_1.length c2_1, .slice A2_2 l2_2.length c2_2]] ?_;(with_reducible refine (cpack_Right.calls k a0 a1 a2_0 _ _ l2_1 _ _ l2_2 false _ ?side1 HC2_1.out ?side3 HC2_2.out A7.out).mono ?_);(case side1=>exact ycb HR2_1);(case side3=>exact ycb HR2_2);rintro e w18 ⟨rfl,hb⟩;refine ⟨_,rfl, ?_⟩;replace BK300:=ybb BK300 hb;replace HB:=ybs hb;(try clear hb);(try clear hb2);(try clear hk);(try clear hi)))
   go_meet
   case rel=>exact ⟨_,(true),yq,H',⟨yo⟩,⟨yk BK300⟩,⟨yhb⟩⟩
 case rest =>
  clear HC5
  try clear c3
  obtain ⟨kq,x41_4,rfl,HA,HJ4,BK300,HB⟩:=hcut
  cases kq with
  | zero=>exact absurd HA.out (by simp [cpack_Write.j0])
  | succ kj4 =>
   have H:=HA.out;clear HA
   simp only [cpack_Write.j0] at H
   by_cases c19 : x41_4=true
   ·
    subst c19
    rw [if_pos rfl] at H
    simp only [Option.some.injEq,Prod.mk.injEq] at H
    obtain ⟨rfl,rfl⟩:=H
    go_wp2
    go_ret2
    exact ⟨_,ye,yn,yhb⟩
   ·
    replace c19:=Bool.eq_false_iff.mpr c19
    subst c19
    rw [ynf] at H
    have HC20:=zm H;clear H
    obtain ⟨hcz21_0,hcz21_1,hcz21_2,hfz21_0,hfz21_1,hfz21_2⟩:=yc3 BK300
    go_upto_if 43 with (fail)
    go_cut [10] (fun v10 wc => ∃ (kq : Nat) (x10_19 : Int),v10=.int .i64 x10_19∧Aside0 (cpack_Write.j1 kq a0 a1 l3 x10_19 a2_0 l2_1 l2_2=some (r1,r2))∧Aside0 (kq≤kj4)∧Aside0 (wc.heap[gb300]? = some (.cells #[.bool a2_0,(.slice A2_1 l2_1.length c2_1),(.slice A2_2 l2_2.length c2_2)] 25 (0,0)))∧Aside0 (Below w.heap.size w wc))
    case first =>
     have H:=HC20.out;clear HC20
     by_cases c22 : a2_0=true
     ·
      subst c22
      rw [if_pos rfl] at H
      have H' := zm H
      clear H
      go_wp2
      go_meet
      case rel=>exact ⟨_,(1),yq,H',⟨by have:=HJ4.out;first|omega|exact Nat.le_refl _⟩,⟨yk BK300⟩,⟨yhb⟩⟩
     ·
      replace c22:=Bool.eq_false_iff.mpr c22
      subst c22
      rw [ynf] at H
      have H' := zm H
      clear H
      go_wp2
      go_meet
      case rel=>exact ⟨_,(0),yq,H',⟨by have:=HJ4.out;first|omega|exact Nat.le_refl _⟩,⟨yk BK300⟩,⟨yhb⟩⟩
    case rest =>
     clear HC20
     try clear c3
     try clear c19
     try clear hcz21_0
     try clear hcz21_1
     try clear hcz21_2
     try clear hfz21_0
     try clear hfz21_1
     try clear hfz21_2
     obtain ⟨kq,x10_19,rfl,HA,HJ19,BK300,HB⟩:=hcut
     cases kq with
     | zero=>exact absurd HA.out (by simp [cpack_Write.j1])
     | succ kj19 =>
      have H:=HA.out;clear HA
      simp only [cpack_Write.j1] at H
      obtain ⟨⟨t303,t304,t305⟩,A23,H⟩:=ybi H
      try dsimp only at H
      obtain ⟨⟨t308,t309,t310,t313⟩,A24,H⟩:=ybi H
      try dsimp only at H
      have H' := zm H
      clear H
      go_wp2_with (first|((with_reducible refine gate_callee (f:=27) rfl ?_);refine ygl 45 Try.func27 #[] ?_;(with_reducible refine (coder_New.calls  t303 t304 t305 _ A23.out).mono ?_);rintro e w25 ⟨v306,rfl,ho0,hb⟩;refine ⟨_,rfl, ?_⟩;have HO307:=zm (Kd.R_lower ho0 (zE yhb));replace BK300:=ybb BK300 hb;replace HB:=ybs hb;(try clear hb);(try clear hb2);(try clear hk);(try clear hi);(try clear ho0);obtain ⟨Ao26,co26,eo26⟩:=Kd.R_slice HO307.out;subst eo26)|((with_reducible refine gate_callee (f:=26) rfl ?_);refine ygl 49 Try.func26 #[.agg #[.int .u64 t303, .int .u32 t304, .slice Ao26 t305.length co26], .int .i64 x10_19, .int .i64 (wrap64 (x10_19+1)), .int .i64 2] ?_;(with_reducible refine (coder_Put.calls kj19 t303 t304 _ _ t305 x10_19 (wrap64 (x10_19+1)) 2 t308 t309 t310 t313 _ ?side1 ?side2 A24.out).mono ?_);(case side1=>exact yce (Kd.R_reads' HO307.out).2.2);(case side2=>exact (Kd.R_reads' HO307.out).2.1);rintro e w27 ⟨v311,rfl,ho0,hb⟩;refine ⟨_,rfl, ?_⟩;have HO312:=zm (Kd.R_lower (Kd.R_new' ho0 (Kd.R_lt (yr HO307))) (zE yhb));replace HO307:=zm (Kd.R_elder' (yr HO307) (Kd.R_base ho0) hb);replace BK300:=ybb BK300 hb;replace HB:=ybs hb;(try clear hb);(try clear hb2);(try clear hk);(try clear hi);(try clear ho0))|((with_reducible refine gate_dst (N:=11) rfl ?_);refine ybx 11 #[.int .u64 0, .int .u32 0, .slice none 0 0] 54 ?_;intro gb314 hg w28 hbox hb;replace HO307:=yRb HO307 hb;replace HO312:=yRb HO312 hb;have BK314:=zm (hbox);have GW314:=ygw hg;have GE314:=ygw hg;replace HB:=ybs hb;have NB300_314:=ynl BK300 hg;have NB314_300:=yng BK300 hg;replace BK300:=ybb BK300 hb;clear hb hbox hg;have hnb29:=NB314_300.out;have hnc29:=NB300_314.out;obtain ⟨hcz30_0,hcz30_1,hcz30_2,hfz30_0,hfz30_1,hfz30_2⟩:=yc3 BK314;obtain ⟨Ao31,co31,eo31⟩:=Kd.R_slice HO312.out;subst eo31;obtain ⟨hcz32_0,hcz32_1,hcz32_2,hfz32_0,hfz32_1,hfz32_2⟩:=yc3 BK300))
      go_loopg [55] kj19 (fun kq v55 w' => ∃ (x55_3 : Int) (x315000_3 : Int) (x315001_3 : Int) (x315002_3 : List Int) (u315002 : Value),v55=.int .i64 x55_3∧Aside0 (cpack_Write.l0 kq a0 a1 l3 l2_1 (l2_1.length : Int) x55_3 a2_0 l2_1 l2_2 x315000_3 x315001_3 x315002_3=some (r1,r2))∧Aside0 (kq≤kj19)∧Aside0 (Kd.V (Kd.int .u8) 5 w' w.heap.size (fun k_=>k_≠gb300∧k_≠gb314) u315002 x315002_3)∧Aside0 (w'.heap[gb300]? = some (.cells #[.bool a2_0,(.slice A2_1 l2_1.length c2_1),(.slice A2_2 l2_2.length c2_2)] 25 (0,0)))∧Aside0 (w'.heap[gb314]? = some (.cells #[.int .u64 x315000_3, .int .u32 x315001_3,u315002] 54 (0,0)))∧Aside0 (Below w.heap.size w w'))
      case atStart=>exact ⟨(0),(t308),(t309),(t310),(.slice Ao31 t310.length co31),yq,H',⟨Nat.le_refl _⟩,⟨Kd.R_V (by (with_reducible repeat (first|apply zo|apply zp|apply zq));exact zG (zH (p:=⟨gb314,2,none⟩) (zH (p:=⟨gb314,1,none⟩) (zH (p:=⟨gb314,0,none⟩) (Kd.R_types (Kd.R_types (Kd.R_types HO312.out BK300.out (by decide)) BK314.out (by decide)) BK314.out (by decide)) (fun _ hk=>hk.2) (.int .u64 t308)) (fun _ hk=>hk.2) (.int .u32 t309)) (fun _ hk=>hk.2) (.slice Ao31 t310.length co31)) (fun _ hk=>⟨hk.1.1.2,hk.1.2⟩))⟩,⟨yk BK300⟩,⟨yk BK314⟩,⟨yhb⟩⟩
      case round =>
       clear H'
       try clear c3
       try clear c19
       try clear hcz21_0
       try clear hcz21_1
       try clear hcz21_2
       try clear hcz30_0
       try clear hcz30_1
       try clear hcz30_2
       try clear hcz32_0
       try clear hcz32_1
       try clear hcz32_2
       try clear hfz21_0
       try clear hfz21_1
       try clear hfz21_2
       try clear hfz30_0
       try clear hfz30_1
       try clear hfz30_2
       try clear hfz32_0
       try clear hfz32_1
       try clear hfz32_2
       obtain ⟨x55_3,x315000_3,x315001_3,x315002_3,u315002,rfl,HA,HK3,HO_315002,BK300,BK314,HB⟩:=hrel
       cases gk with
       | zero=>exact absurd HA.out (by simp [cpack_Write.l0])
       | succ k3 =>
        have H:=HA.out;clear HA
        simp only [cpack_Write.l0] at H
        by_cases c33 : x55_3 < (l2_1.length : Int)
        ·
         rw [if_pos c33] at H
         have c33b0 : decide (x55_3 < (l2_1.length : Int))=true:=decide_eq_true c33
         clear c33
         by_cases c34 : 0≤x55_3
         ·
          rw [if_pos c34] at H
          have c34b0 : decide (0≤x55_3)=true:=decide_eq_true c34
          clear c34
          by_cases c35 : x55_3 < (l2_1.length : Int)
          ·
           rw [if_pos c35] at H
           have c35b0 : decide (x55_3 < (l2_1.length : Int))=true:=decide_eq_true c35
           clear c35
           obtain ⟨t316,A36,H⟩:=ybi H
           obtain ⟨⟨t319,t320,t321,t324⟩,A37,H⟩:=ybi H
           try dsimp only at H
           have H' := zm H
           clear H
           have p315 : 0≤(x55_3 : Int):=yt
           have q315 : x55_3 < (l2_1.length : Int):=yt
           obtain ⟨ad315,A315_0,c315_0,e315,hx315_0,hl315_0,hi315_0⟩:=at_L1 HR2_1.out x55_3 p315 q315
           cases e315
           replace hx315_0:=(HB.out.cell (zb w _ hx315_0)).trans hx315_0
           have HR315_0:=zm hi315_0;have HC315_0:=zm hl315_0;clear hi315_0 hl315_0
           replace p315:=eq_true p315
           replace q315:=eq_true q315
           try go_wp2
           replace HO_315002:=zm (zC HO_315002.out)
           replace BK300:=zm (zj BK300.out)
           replace BK314:=zm (zj BK314.out)
           replace HB:=zm (zf HB.out)
           refine start_ (n:=12) (S:=fun w' => w'.cell? ⟨gb314,0,none⟩=some (.int .u64 x315000_3)∧w'.cell? ⟨gb314,1,none⟩=some (.int .u32 x315001_3)∧w'.cell? ⟨gb314,2,none⟩=some (u315002)∧w'.cell? ⟨gb300,0,none⟩=some (.bool a2_0)∧w'.cell? ⟨gb300,1,none⟩=some (.slice (some ad315) l2_1.length c2_1)∧w'.cell? ⟨gb300,2,none⟩=some (.slice A2_2 l2_2.length c2_2)) (ds := [11]) #[false,false,false,false,false,false,false,false,false,false,false,false] (by kernel_rfl) rfl rfl ⟨(zs BK314.out 0).trans rfl,(zs BK314.out 1).trans rfl,(zs BK314.out 2).trans rfl,(zs BK300.out 0).trans rfl,(zs BK300.out 1).trans rfl,(zs BK300.out 2).trans rfl⟩ (fun hHeld => ?_);refine with_tabW cpack_Write.tab10 cpack_Write.bits10 (fun HT_ HW_ => ?_)
           generalize wr.drew=w38 at HO_315002 BK300 BK314 HB hHeld ⊢
           refine yp 1 62 HT_ ?_
           refine yp 2 63 HT_ ?_
           refine yp 3 64 HT_ ?_
           refine yp 5 66 HT_ ?_
           refine yl 0 61 HT_ HW_ hHeld ?_
           refine yl 6 67 HT_ HW_ hHeld ?_
           refine yw 4 65 HT_ (fun K hK => ?_)
           refine ygs Try.func29 #[.slice A3 l3.length c3, .int .i64 x55_3] ?_
           with_reducible refine (cpack_of.calls (fun k_=>k_ < w.heap.size) _ _ l3 x55_3 t316 _ ?side1 A36.out).mono ?_
           (case side1=>exact Kd.V_mk HC3.out (Kd.F_below (Kd.C_F (Kd.heap_slice 3 (Kd.heap_int .i64)) HR3.out) yhb))
           rintro e w39 ⟨v317,rfl,ho0,hb⟩
           refine ⟨_,rfl, ?_⟩
           replace HO_315002:=yVb HO_315002 hb
           have HO318:=zm (Kd.V_lower (zy (ok' := fun k_=>k_≠gb300∧k_≠gb314) ho0 (fun k_ hk_=>⟨Or.elim hk_ (fun hs_=>fun e_=>Nat.not_le.2 hs_ (by rw [e_];exact GW300.out)) (fun hn_=>(Kd.freshB (yk BK300) k_ hn_)),Or.elim hk_ (fun hs_=>fun e_=>Nat.not_le.2 hs_ (by rw [e_];exact GW314.out)) (fun hn_=>(Kd.freshB (yk BK314) k_ hn_))⟩)) (zE yhb))
           replace BK300:=ybb BK300 hb
           replace BK314:=ybb BK314 hb
           replace HB:=ybs hb
           (try clear hb)
           (try clear hb2)
           (try clear hk)
           (try clear hi)
           (try clear ho0)
           obtain ⟨Ao40,co40,eo40⟩:=Kd.V_slice HO_315002.out
           (first|subst eo40|(injection eo40 with f1_ f2_ f3_;have f4_:=f1_.symm;have f5_:=f3_.symm;clear f1_ f2_ f3_;subst f4_;subst f5_))
           obtain ⟨Ao41,co41,eo41⟩:=Kd.V_slice HO318.out
           (first|subst eo41|(injection eo41 with f1_ f2_ f3_;have f4_:=f1_.symm;have f5_:=f3_.symm;clear f1_ f2_ f3_;subst f4_;subst f5_))
           refine hK.out _ _ ⟨(zs BK314.out 0).trans rfl,(zs BK314.out 1).trans rfl,(zs BK314.out 2).trans rfl,(zs BK300.out 0).trans rfl,(zs BK300.out 1).trans rfl,(zs BK300.out 2).trans rfl⟩ (fun hHeld => ?_)
           clear hK K
           refine ym (some 65) ?_
           refine yw 7 68 HT_ (fun K hK => ?_)
           refine ygs Try.func28 #[.agg #[.int .u64 x315000_3, .int .u32 x315001_3, .slice Ao40 x315002_3.length co40], .slice A315_0 (rd_L1 l2_1 x55_3).length c315_0, .slice Ao41 t316.length co41, .bool a2_0] ?_
           with_reducible refine (gain_Put.calls k3 x315000_3 x315001_3 (fun k_=>(k_≠gb300∧k_≠gb314)) _ _ x315002_3 _ _ (rd_L1 l2_1 x55_3) _ _ t316 a2_0 t319 t320 t321 t324 _ ?side1 ?side2 ?side3 ?side4 ?side5 A37.out).mono ?_
           (case side1=>exact HO_315002.out)
           (case side2=>exact ycb HR315_0)
           (case side3=>exact HC315_0.out)
           (case side4=>exact yce (Kd.V_reads' HO318.out).2.2)
           (case side5=>exact (Kd.V_reads' HO318.out).2.1)
           rintro e w42 ⟨v322,rfl,ho0,hb⟩
           refine ⟨_,rfl, ?_⟩
           replace HO_315002:=yVb HO_315002 hb
           replace HO318:=yVb HO318 hb
           have HO323:=zm (Kd.V_lower (zy (ok' := fun k_=>k_≠gb300∧k_≠gb314) ho0 (fun k_ hk_=>⟨Or.elim hk_ (fun hs_=>hs_.1) (fun hn_=>(Kd.freshB (yk BK300) k_ hn_)),Or.elim hk_ (fun hs_=>hs_.2) (fun hn_=>(Kd.freshB (yk BK314) k_ hn_))⟩)) (zE yhb))
           replace BK300:=ybb BK300 hb
           replace BK314:=ybb BK314 hb
           replace HB:=ybs hb
           (try clear hb)
           (try clear hb2)
           (try clear hk)
           (try clear hi)
           (try clear ho0)
           obtain ⟨Ao45,co45,eo45⟩:=Kd.V_slice HO323.out
           (first|subst eo45|(injection eo45 with f1_ f2_ f3_;have f4_:=f1_.symm;have f5_:=f3_.symm;clear f1_ f2_ f3_;subst f4_;subst f5_))
           refine hK.out _ _ ⟨(zs BK314.out 0).trans rfl,(zs BK314.out 1).trans rfl,(zs BK314.out 2).trans rfl,(zs BK300.out 0).trans rfl,(zs BK300.out 1).trans rfl,(zs BK300.out 2).trans rfl⟩ (fun hHeld => ?_)
           clear hK K
           refine ym (some 68) ?_
           refine yp 8 60 HT_ ?_
           refine yp 9 69 HT_ ?_
           refine yp 10 70 HT_ ?_
           refine last_ (i:=11) (N:=none) #[true,true,true,true,true,true,true,true,true,true,true,true] rfl rfl (one_of HT_.out (by kernel_rfl)) (by decide) (fun K hK => ?_)
           have hs43 : w42.cell? ⟨gb314,0,none⟩=some (.int .u64 x315000_3):=(zs BK314.out 0).trans rfl
           have hfs43:=zx BK314.out 0
           have hns43_0:=NB300_314.out;have hms43_0:=NB314_300.out
           have hs44 : w42.cell? ⟨gb314,1,none⟩=some (.int .u32 x315001_3):=(zs BK314.out 1).trans rfl
           have hfs44:=zx BK314.out 1
           have hns44_0:=NB300_314.out;have hms44_0:=NB314_300.out
           have hs46 : w42.cell? ⟨gb314,2,none⟩=some (.slice Ao40 x315002_3.length co40):=(zs BK314.out 2).trans rfl
           have hfs46:=zx BK314.out 2
           have hns46_0:=NB300_314.out;have hms46_0:=NB314_300.out
           refine skip_ (w1 := ?_) (by rfl) rfl ?_ ?_
           rotate_left
           ·
            go_simp
            rfl
           refine hK.out _ _ ?_
           clear hK K
           refine done_ (done_of HT_.out (by kernel_rfl)) ?_
           try go_wp2
           go_roundg k3
           case measure=>have:=HJ4.out;have:=HJ19.out;have:=HK3.out;omega
           case rel=>exact ⟨(wrap64 (x55_3+1)),(t319),(t320),(t321),(.slice Ao45 t321.length co45),yq,H',⟨by have:=HJ4.out;have:=HJ19.out;have:=HK3.out;omega⟩,⟨by (with_reducible repeat (first|apply zA|apply zB|apply zC));exact zy (zI (p:=⟨gb314,2,none⟩) (zI (p:=⟨gb314,1,none⟩) (zI (p:=⟨gb314,0,none⟩) (zy HO323.out (fun k_ hk=>(⟨hk,hk.2⟩ : _∧k_≠gb314))) (fun _ hk=>hk.2) (.int .u64 t319)) (fun _ hk=>hk.2) (.int .u32 t320)) (fun _ hk=>hk.2) (.slice Ao45 t321.length co45)) (fun _ hk=>⟨hk.1.1,hk.1.2⟩)⟩,⟨yk BK300⟩,⟨yk BK314⟩,⟨yhb⟩⟩
          ·
           rw [if_neg c35] at H
           exact absurd H (by simp)
         ·
          rw [if_neg c34] at H
          exact absurd H (by simp)
        ·
         rw [if_neg c33] at H
         have c33b0 : decide (x55_3 < (l2_1.length : Int))=false:=decide_eq_false c33
         clear c33
         obtain ⟨⟨t325,t326⟩,A47,H⟩:=ybi H
         try dsimp only at H
         have H' := zm H
         clear H;have hnb48:=NB300_314.out;have hnc48:=NB314_300.out
         obtain ⟨hcz49_0,hcz49_1,hcz49_2,hfz49_0,hfz49_1,hfz49_2⟩:=yc3 BK300
         go_wp2_with (first|((with_reducible refine gate_callee (f:=30) rfl ?_);refine ygl 77 Try.func30 #[.int .i64 a0, .int .i64 a1, .slice A2_1 l2_1.length c2_1] ?_;(with_reducible refine (alloc_Pulses.calls k3 a0 a1 _ _ l2_1 t325 t326 _ ?side1 HC2_1.out A47.out).mono ?_);(case side1=>exact ycb HR2_1);rintro e w50 ⟨v327,rfl,ho0,hb⟩;refine ⟨_,rfl, ?_⟩;replace HO_315002:=zm (Kd.V_elder' (yr HO_315002) (Kd.S_base ho0) hb);have HO328:=zm (Kd.S_lower ho0 (zE yhb));replace BK300:=ybb BK300 hb;replace BK314:=ybb BK314 hb;replace HB:=ybs hb;(try clear hb);(try clear hb2);(try clear hk);(try clear hi);(try clear ho0);obtain ⟨hcz51_0,hcz51_1,hcz51_2,hfz51_0,hfz51_1,hfz51_2⟩:=yc3 BK300))
         go_loopg [83] k3 (fun kq v83 w' => ∃ (x83_4 : Int) (x315000_4 : Int) (x315001_4 : Int) (x315002_4 : List Int) (u315002 : Value),v83=.int .i64 x83_4∧Aside0 (cpack_Write.l1 kq a0 t325 l2_2 (l2_2.length : Int) x83_4 x315000_4 x315001_4 x315002_4=some (r1,r2))∧Aside0 (kq≤k3)∧Aside0 (Kd.S (Kd.slice 3 (Kd.int .i64)) 49 w' w.heap.size (fun _=>True) v327 t325)∧Aside0 (Kd.V (Kd.int .u8) 5 w' w.heap.size (fun k_=>some k_≠(v327 : Value).ownBlock∧k_≠gb300∧k_≠gb314) u315002 x315002_4)∧Aside0 (w'.heap[gb300]? = some (.cells #[.bool a2_0,(.slice A2_1 l2_1.length c2_1),(.slice A2_2 l2_2.length c2_2)] 25 (0,0)))∧Aside0 (w'.heap[gb314]? = some (.cells #[.int .u64 x315000_4, .int .u32 x315001_4,u315002] 54 (0,0)))∧Aside0 (Below w.heap.size w w'))
         case atStart=>exact ⟨(0),(x315000_3),(x315001_3),(x315002_3),(u315002),yq,H',⟨Nat.le_refl _⟩,⟨yr HO328⟩,⟨by (with_reducible repeat (first|apply zA|apply zB|apply zC));exact zy HO_315002.out (fun _ hk=>⟨hk.2,⟨hk.1.1,hk.1.2⟩⟩)⟩,⟨yk BK300⟩,⟨yk BK314⟩,⟨yhb⟩⟩
         case round =>
          clear H'
          try clear c3
          try clear c19
          try clear c33
          try clear c33b0
          try clear c34
          try clear hcz21_0
          try clear hcz21_1
          try clear hcz21_2
          try clear hcz30_0
          try clear hcz30_1
          try clear hcz30_2
          try clear hcz32_0
          try clear hcz32_1
          try clear hcz32_2
          try clear hcz49_0
          try clear hcz49_1
          try clear hcz49_2
          try clear hcz51_0
          try clear hcz51_1
          try clear hcz51_2
          try clear hfz21_0
          try clear hfz21_1
          try clear hfz21_2
          try clear hfz30_0
          try clear hfz30_1
          try clear hfz30_2
          try clear hfz32_0
          try clear hfz32_1
          try clear hfz32_2
          try clear hfz49_0
          try clear hfz49_1
          try clear hfz49_2
          try clear hfz51_0
          try clear hfz51_1
          try clear hfz51_2
          obtain ⟨x83_4,x315000_4,x315001_4,x315002_4,u315002,rfl,HA,HK4,HO_15,HO_315002,BK300,BK314,HB⟩:=hrel
          cases gk with
          | zero=>exact absurd HA.out (by simp [cpack_Write.l1])
          | succ k4 =>
           have H:=HA.out;clear HA
           simp only [cpack_Write.l1] at H
           by_cases c52 : x83_4 < (l2_2.length : Int)
           ·
            rw [if_pos c52] at H
            have c52b0 : decide (x83_4 < (l2_2.length : Int))=true:=decide_eq_true c52
            clear c52
            by_cases c53 : 0≤x83_4
            ·
             rw [if_pos c53] at H
             have c53b0 : decide (0≤x83_4)=true:=decide_eq_true c53
             clear c53
             by_cases c54 : x83_4 < (l2_2.length : Int)
             ·
              rw [if_pos c54] at H
              have c54b0 : decide (x83_4 < (l2_2.length : Int))=true:=decide_eq_true c54
              clear c54
              have H' := zm H
              clear H
              have p338 : 0≤(x83_4 : Int):=yt
              have q338 : x83_4 < (l2_2.length : Int):=yt
              obtain ⟨ad338,A338_0,c338_0,e338,hx338_0,hl338_0,hi338_0⟩:=at_L2 HR2_2.out x83_4 p338 q338
              cases e338
              replace hx338_0:=(HB.out.cell (zb w _ hx338_0)).trans hx338_0
              have HR338_0:=zm hi338_0;have HC338_0:=zm hl338_0;clear hi338_0 hl338_0
              replace p338:=eq_true p338
              replace q338:=eq_true q338
              go_wp2
              go_loopg [90] k4 (fun kq v90 w' => ∃ (x90_5 : Int) (x315000_5 : Int) (x315001_5 : Int) (x315002_5 : List Int) (u315002 : Value),v90=.int .i64 x90_5∧Aside0 (cpack_Write.l2 kq a0 t325 x83_4 l2_2 (l2_2.length : Int) x83_4 (rd_L2 l2_2 x83_4) ((rd_L2 l2_2 x83_4).length : Int) x90_5 x315000_5 x315001_5 x315002_5=some (r1,r2))∧Aside0 (kq≤k4)∧Aside0 (Kd.S (Kd.slice 3 (Kd.int .i64)) 49 w' w.heap.size (fun _=>True) v327 t325)∧Aside0 (Kd.V (Kd.int .u8) 5 w' w.heap.size (fun k_=>some k_≠(v327 : Value).ownBlock∧k_≠gb300∧k_≠gb314) u315002 x315002_5)∧Aside0 (w'.heap[gb300]? = some (.cells #[.bool a2_0,(.slice A2_1 l2_1.length c2_1),(.slice (some ad338) l2_2.length c2_2)] 25 (0,0)))∧Aside0 (w'.heap[gb314]? = some (.cells #[.int .u64 x315000_5, .int .u32 x315001_5,u315002] 54 (0,0)))∧Aside0 (Below w.heap.size w w'))
              case atStart=>exact ⟨(0),(x315000_4),(x315001_4),(x315002_4),(u315002),yq,H',⟨Nat.le_refl _⟩,⟨yr HO_15⟩,⟨yr HO_315002⟩,⟨yk BK300⟩,⟨yk BK314⟩,⟨yhb⟩⟩
              case round =>
               clear H'
               try clear c3
               try clear c19
               try clear c33
               try clear c33b0
               try clear c34
               try clear c52
               try clear c52b0
               try clear c53
               try clear c53b0
               try clear c54
               try clear c54b0
               try clear hcz21_0
               try clear hcz21_1
               try clear hcz21_2
               try clear hcz30_0
               try clear hcz30_1
               try clear hcz30_2
               try clear hcz32_0
               try clear hcz32_1
               try clear hcz32_2
               try clear hcz49_0
               try clear hcz49_1
               try clear hcz49_2
               try clear hcz51_0
               try clear hcz51_1
               try clear hcz51_2
               try clear hfz21_0
               try clear hfz21_1
               try clear hfz21_2
               try clear hfz30_0
               try clear hfz30_1
               try clear hfz30_2
               try clear hfz32_0
               try clear hfz32_1
               try clear hfz32_2
               try clear hfz49_0
               try clear hfz49_1
               try clear hfz49_2
               try clear hfz51_0
               try clear hfz51_1
               try clear hfz51_2
               try clear hx338_0
               try clear p338
               try clear q338
               obtain ⟨x90_5,x315000_5,x315001_5,x315002_5,u315002,rfl,HA,HK5,HO_15,HO_315002,BK300,BK314,HB⟩:=hrel
               cases gk with
               | zero=>exact absurd HA.out (by simp [cpack_Write.l2])
               | succ k5 =>
                have H:=HA.out;clear HA
                simp only [cpack_Write.l2] at H
                by_cases c55 : x90_5 < ((rd_L2 l2_2 x83_4).length : Int)
                ·
                 rw [if_pos c55] at H
                 have c55b0 : decide (x90_5 < ((rd_L2 l2_2 x83_4).length : Int))=true:=decide_eq_true c55
                 clear c55
                 by_cases c56 : 0≤x90_5
                 ·
                  rw [if_pos c56] at H
                  have c56b0 : decide (0≤x90_5)=true:=decide_eq_true c56
                  clear c56
                  by_cases c57 : x90_5 < ((rd_L2 l2_2 x83_4).length : Int)
                  ·
                   rw [if_pos c57] at H
                   have c57b0 : decide (x90_5 < ((rd_L2 l2_2 x83_4).length : Int))=true:=decide_eq_true c57
                   clear c57
                   by_cases c58 : 0≤x83_4
                   ·
                    rw [if_pos c58] at H
                    have c58b0 : decide (0≤x83_4)=true:=decide_eq_true c58
                    clear c58
                    by_cases c59 : x83_4 < (t325.length : Int)
                    ·
                     rw [if_pos c59] at H
                     have c59b0 : decide (x83_4 < (t325.length : Int))=true:=decide_eq_true c59
                     clear c59
                     by_cases c60 : x90_5 < ((rd_L1 t325 x83_4).length : Int)
                     ·
                      rw [if_pos c60] at H
                      have c60b0 : decide (x90_5 < ((rd_L1 t325 x83_4).length : Int))=true:=decide_eq_true c60
                      clear c60
                      by_cases c61 : (rd (rd_L1 t325 x83_4) x90_5)=0
                      ·
                       rw [if_pos c61] at H
                       have c61b0 : ((rd (rd_L1 t325 x83_4) x90_5) == 0)=true:=beq_iff_eq.mpr c61
                       have c61b1 : ((rd (rd_L1 t325 x83_4) x90_5) != 0)=false:=bne_eq_false_iff_eq.mpr c61
                       clear c61
                       have H' := zm H
                       clear H
                       have p339 : 0≤(x90_5 : Int):=yt
                       have q339 : x90_5 < ((rd_L2 l2_2 x83_4).length : Int):=yt
                       obtain ⟨ad339,A339_0,c339_0,e339,hx339_0,hl339_0,hi339_0⟩:=at_L1 HR338_0.out x90_5 p339 q339
                       cases e339
                       replace hx339_0:=(HB.out.cell (zb w _ hx339_0)).trans hx339_0
                       have HR339_0:=zm hi339_0;have HC339_0:=zm hl339_0;clear hi339_0 hl339_0
                       replace p339:=eq_true p339
                       replace q339:=eq_true q339
                       obtain ⟨Ao62,co62,eo62⟩:=Kd.S_slice HO_15.out
                       subst eo62
                       have p340 : 0≤(x83_4 : Int):=yt
                       have q340 : x83_4 < (t325.length : Int):=yt
                       obtain ⟨ad340,A340_0,c340_0,e340,hx340_0,hl340_0,hi340_0⟩:=at_L1 (Kd.S_reads' HO_15.out).2.2 x83_4 p340 q340
                       cases e340
                       obtain ⟨ce340,hce340,hMe340,hcc340⟩:=Kd.S_get HO_15.out [] x83_4 p340 (by first|exact q340|exact yt|(have e_:=(Kd.S_reads' HO_15.out).1;omega))
                       obtain ⟨ve340_0,rfl,ge340_0⟩:=hMe340
                       have hv340_0:=hcc340 0 _ rfl
                       rw [Nat.add_zero,show ((Kd.slice 3 (Kd.int .i64))).sz=1 from rfl,Nat.mul_one] at hv340_0
                       replace hv340_0:=Option.some.inj (hv340_0.symm.trans hx340_0)
                       rw [hv340_0] at ge340_0
                       have HL340_0:=zm (show Kd.R (Kd.int .i64) 3 _ _ _ _ (rd_L1 t325 x83_4) from ge340_0)
                       clear hv340_0 ge340_0;clear hcc340 hce340;have HR340_0:=zm hi340_0;have HC340_0:=zm hl340_0;clear hi340_0 hl340_0
                       replace p340:=eq_true p340
                       replace q340:=eq_true q340
                       have p341 : 0≤(x90_5 : Int):=yt
                       have q341 : x90_5 < ((rd_L1 t325 x83_4).length : Int):=yt
                       obtain ⟨ad341,e341,hx341_0⟩:=Kd.at_int (yr HR340_0) x90_5 p341 q341
                       cases e341
                       replace p341:=eq_true p341
                       replace q341:=eq_true q341
                       go_wp2
                       go_roundg k5
                       case measure=>have:=HJ4.out;have:=HJ19.out;have:=HK3.out;have:=HK4.out;have:=HK5.out;omega
                       case rel=>exact ⟨(wrap64 (x90_5+1)),(x315000_5),(x315001_5),(x315002_5),(u315002),yq,H',⟨by have:=HJ4.out;have:=HJ19.out;have:=HK3.out;have:=HK4.out;have:=HK5.out;omega⟩,⟨yr HO_15⟩,⟨yr HO_315002⟩,⟨yk BK300⟩,⟨yk BK314⟩,⟨yhb⟩⟩
                      ·
                       rw [if_neg c61] at H
                       have c61b0 : ((rd (rd_L1 t325 x83_4) x90_5) == 0)=false:=beq_eq_false_iff_ne.mpr c61
                       have c61b1 : ((rd (rd_L1 t325 x83_4) x90_5) != 0)=true:=bne_iff_ne.mpr c61
                       obtain ⟨t342,A63,H⟩:=ybi H
                       obtain ⟨⟨t345,t346⟩,A64,H⟩:=ybi H
                       try dsimp only at H
                       obtain ⟨⟨t347,t348⟩,A65,H⟩:=ybi H
                       try dsimp only at H
                       obtain ⟨⟨t349,t350,t351,t354⟩,A66,H⟩:=ybi H
                       try dsimp only at H
                       have H' := zm H
                       clear H
                       have p339 : 0≤(x90_5 : Int):=yt
                       have q339 : x90_5 < ((rd_L2 l2_2 x83_4).length : Int):=yt
                       obtain ⟨ad339,A339_0,c339_0,e339,hx339_0,hl339_0,hi339_0⟩:=at_L1 HR338_0.out x90_5 p339 q339
                       cases e339
                       replace hx339_0:=(HB.out.cell (zb w _ hx339_0)).trans hx339_0
                       have HR339_0:=zm hi339_0;have HC339_0:=zm hl339_0;clear hi339_0 hl339_0
                       replace p339:=eq_true p339
                       replace q339:=eq_true q339
                       obtain ⟨Ao67,co67,eo67⟩:=Kd.S_slice HO_15.out
                       subst eo67
                       have p340 : 0≤(x83_4 : Int):=yt
                       have q340 : x83_4 < (t325.length : Int):=yt
                       obtain ⟨ad340,A340_0,c340_0,e340,hx340_0,hl340_0,hi340_0⟩:=at_L1 (Kd.S_reads' HO_15.out).2.2 x83_4 p340 q340
                       cases e340
                       obtain ⟨ce340,hce340,hMe340,hcc340⟩:=Kd.S_get HO_15.out [] x83_4 p340 (by first|exact q340|exact yt|(have e_:=(Kd.S_reads' HO_15.out).1;omega))
                       obtain ⟨ve340_0,rfl,ge340_0⟩:=hMe340
                       have hv340_0:=hcc340 0 _ rfl
                       rw [Nat.add_zero,show ((Kd.slice 3 (Kd.int .i64))).sz=1 from rfl,Nat.mul_one] at hv340_0
                       replace hv340_0:=Option.some.inj (hv340_0.symm.trans hx340_0)
                       rw [hv340_0] at ge340_0
                       have HL340_0:=zm (show Kd.R (Kd.int .i64) 3 _ _ _ _ (rd_L1 t325 x83_4) from ge340_0)
                       clear hv340_0 ge340_0;clear hcc340 hce340;have HR340_0:=zm hi340_0;have HC340_0:=zm hl340_0;clear hi340_0 hl340_0
                       replace p340:=eq_true p340
                       replace q340:=eq_true q340
                       have p341 : 0≤(x90_5 : Int):=yt
                       have q341 : x90_5 < ((rd_L1 t325 x83_4).length : Int):=yt
                       obtain ⟨ad341,e341,hx341_0⟩:=Kd.at_int (yr HR340_0) x90_5 p341 q341
                       cases e341
                       replace p341:=eq_true p341
                       replace q341:=eq_true q341
                       try go_wp2
                       replace HO_15:=zm (Kd.S_drew HO_15.out)
                       replace HO_315002:=zm (zC HO_315002.out)
                       replace HL340_0:=zm (zq HL340_0.out)
                       replace BK300:=zm (zj BK300.out)
                       replace BK314:=zm (zj BK314.out)
                       replace HR340_0:=zm (Kd.C_drew HR340_0.out)
                       replace HB:=zm (zf HB.out)
                       have p343 : 0≤(x83_4 : Int):=yt
                       have q343 : x83_4 < (t325.length : Int):=yt
                       obtain ⟨ad343,A343_0,c343_0,e343,hx343_0,hl343_0,hi343_0⟩:=at_L1 (Kd.S_reads' HO_15.out).2.2 x83_4 p343 q343
                       obtain rfl : ad340=ad343:=(by injection e343)
                       obtain ⟨ce343,hce343,hMe343,hcc343⟩:=Kd.S_get HO_15.out [] x83_4 p343 (by first|exact q343|exact yt|(have e_:=(Kd.S_reads' HO_15.out).1;omega))
                       obtain ⟨ve343_0,rfl,ge343_0⟩:=hMe343
                       have hv343_0:=hcc343 0 _ rfl
                       rw [Nat.add_zero,show ((Kd.slice 3 (Kd.int .i64))).sz=1 from rfl,Nat.mul_one] at hv343_0
                       replace hv343_0:=Option.some.inj (hv343_0.symm.trans hx343_0)
                       rw [hv343_0] at ge343_0
                       have HL343_0:=zm (show Kd.R (Kd.int .i64) 3 _ _ _ _ (rd_L1 t325 x83_4) from ge343_0)
                       clear hv343_0 ge343_0;clear hcc343 hce343;have HR343_0:=zm hi343_0;have HC343_0:=zm hl343_0;clear hi343_0 hl343_0
                       replace p343:=eq_true p343
                       replace q343:=eq_true q343
                       have p344 : 0≤(x90_5 : Int):=yt
                       have q344 : x90_5 < ((rd_L1 t325 x83_4).length : Int):=yt
                       obtain ⟨ad344,e344,hx344_0⟩:=Kd.at_int (yr HR343_0) x90_5 p344 q344
                       cases e344
                       replace p344:=eq_true p344
                       replace q344:=eq_true q344
                       refine start_ (n:=15) (S:=fun w' => w'.cell? (ad340.add (x83_4).toNat)=some (.slice (some ad344) (rd_L1 t325 x83_4).length c343_0)∧w'.cell? (ad344.add (x90_5).toNat)=some (.int .i64 (rd (rd_L1 t325 x83_4) x90_5))) (ds := []) #[false,false,false,false,false,false,false,false,false,false,false,false,false,false,false] (by kernel_rfl) rfl rfl ⟨hx343_0,hx344_0⟩ (fun hHeld => ?_);refine with_tabW cpack_Write.tab20 cpack_Write.bits20 (fun HT_ HW_ => ?_)
                       generalize wr.drew=w68 at HO_15 HO_315002 HL340_0 BK300 BK314 HR340_0 HB HL343_0 HR343_0 hx343_0 hx344_0 hHeld ⊢
                       refine yp 0 104 HT_ ?_
                       refine yp 2 106 HT_ ?_
                       refine yp 3 107 HT_ ?_
                       refine yp 4 108 HT_ ?_
                       refine yp 6 110 HT_ ?_
                       refine yl 5 109 HT_ HW_ hHeld ?_
                       refine yp 7 111 HT_ ?_
                       refine yl 8 112 HT_ HW_ hHeld ?_
                       refine yw 1 105 HT_ (fun K hK => ?_)
                       refine ygs Try.func32 #[.int .i64 x90_5] ?_
                       with_reducible refine (band_Width.calls x90_5 t342 _ A63.out).mono ?_
                       rintro e w69 ⟨rfl,hb⟩
                       have HS0_:=(hb.cell (zb _ _ (hHeld.1))).trans (hHeld.1)
                       have HS1_:=(hb.cell (zb _ _ (hHeld.2))).trans (hHeld.2)
                       refine ⟨_,rfl, ?_⟩
                       replace HO_15:=ySb HO_15 hb
                       replace HO_315002:=yVb HO_315002 hb
                       replace HL340_0:=yRb HL340_0 hb
                       replace HL343_0:=yRb HL343_0 hb
                       replace BK300:=ybb BK300 hb
                       replace BK314:=ybb BK314 hb
                       replace HR340_0:=zm (Kd.C_below (yr HR340_0) hb)
                       replace HR343_0:=zm (Kd.C_below (yr HR343_0) hb)
                       replace HB:=ybs hb
                       (try clear hb)
                       (try clear hb2)
                       (try clear hk)
                       (try clear hi)
                       refine hK.out _ _ ⟨HS0_,HS1_⟩ (fun hHeld => ?_)
                       clear hK K
                       refine ym (some 105) ?_
                       refine yw 9 113 HT_ (fun K hK => ?_)
                       refine ygs Try.func31 #[.int .i64 t342, .int .i64 (rd (rd_L1 t325 x83_4) x90_5)] ?_
                       with_reducible refine (comb_Count.calls t342 (rd (rd_L1 t325 x83_4) x90_5) t345 t346 _ A64.out).mono ?_
                       rintro e w70 ⟨rfl,hb⟩
                       have HS0_:=(hb.cell (zb _ _ (hHeld.1))).trans (hHeld.1)
                       have HS1_:=(hb.cell (zb _ _ (hHeld.2))).trans (hHeld.2)
                       refine ⟨_,rfl, ?_⟩
                       replace HO_15:=ySb HO_15 hb
                       replace HO_315002:=yVb HO_315002 hb
                       replace HL340_0:=yRb HL340_0 hb
                       replace HL343_0:=yRb HL343_0 hb
                       replace BK300:=ybb BK300 hb
                       replace BK314:=ybb BK314 hb
                       replace HR340_0:=zm (Kd.C_below (yr HR340_0) hb)
                       replace HR343_0:=zm (Kd.C_below (yr HR343_0) hb)
                       replace HB:=ybs hb
                       (try clear hb)
                       (try clear hb2)
                       (try clear hk)
                       (try clear hi)
                       refine hK.out _ _ ⟨HS0_,HS1_⟩ (fun hHeld => ?_)
                       clear hK K
                       refine ym (some 113) ?_
                       refine yp 10 103 HT_ ?_
                       refine yp 11 114 HT_ ?_
                       refine yp 12 115 HT_ ?_
                       refine yp 13 21 HT_ ?_
                       refine yp 14 22 HT_ ?_
                       refine done_ (done_of HT_.out (by kernel_rfl)) ?_
                       try go_wp2_with (first|((with_reducible refine gate_callee (f:=33) rfl ?_);refine ygl 118 Try.func33 #[.slice A339_0 (rd_L1 (rd_L2 l2_2 x83_4) x90_5).length c339_0] ?_;(with_reducible refine (comb_Index.calls k5 _ _ (rd_L1 (rd_L2 l2_2 x83_4) x90_5) t347 t348 _ ?side1 HC339_0.out A65.out).mono ?_);(case side1=>exact ycb HR339_0);rintro e w71 ⟨rfl,hb⟩;refine ⟨_,rfl, ?_⟩;replace HO_15:=ySb HO_15 hb;replace HO_315002:=yVb HO_315002 hb;replace HL340_0:=yRb HL340_0 hb;replace HL343_0:=yRb HL343_0 hb;replace BK300:=ybb BK300 hb;replace BK314:=ybb BK314 hb;replace HR340_0:=zm (Kd.C_below (yr HR340_0) hb);replace HR343_0:=zm (Kd.C_below (yr HR343_0) hb);replace HB:=ybs hb;(try clear hb);(try clear hb2);(try clear hk);(try clear hi);have hnb72:=NB314_300.out;have hnc72:=NB300_314.out;obtain ⟨_,_,_,_,_,_⟩:=yc3 BK314;obtain ⟨Ao74,co74,eo74⟩:=Kd.V_slice HO_315002.out;subst eo74)|((with_reducible refine gate_callee (f:=34) rfl ?_);refine ygl 125 Try.func34 #[.agg #[.int .u64 x315000_5, .int .u32 x315001_5, .slice Ao74 x315002_5.length co74], .int .u64 t347, .int .u64 t345] ?_;(with_reducible refine (coder_PutNum.calls k5 x315000_5 x315001_5 _ _ x315002_5 t347 t345 t349 t350 t351 t354 _ ?side1 ?side2 A66.out).mono ?_);(case side1=>exact yce (Kd.V_reads' HO_315002.out).2.2);(case side2=>exact (Kd.V_reads' HO_315002.out).2.1);rintro e w75 ⟨v352,rfl,ho0,hb⟩;refine ⟨_,rfl, ?_⟩;replace HO_15:=ySb HO_15 hb;replace HO_315002:=zm (Kd.V_elder' (yr HO_315002) (Kd.R_base ho0) hb);replace HL340_0:=yRb HL340_0 hb;replace HL343_0:=yRb HL343_0 hb;have HO353:=zm (Kd.R_lower ho0 (zE yhb));replace BK300:=ybb BK300 hb;replace BK314:=ybb BK314 hb;replace HR340_0:=zm (Kd.C_below (yr HR340_0) hb);replace HR343_0:=zm (Kd.C_below (yr HR343_0) hb);replace HB:=ybs hb;(try clear hb);(try clear hb2);(try clear hk);(try clear hi);(try clear ho0);obtain ⟨_,_,_,_,_,_⟩:=yc3 BK314;obtain ⟨Ao77,co77,eo77⟩:=Kd.R_slice HO353.out;subst eo77))
                       go_roundg k5
                       case measure=>have:=HJ4.out;have:=HJ19.out;have:=HK3.out;have:=HK4.out;have:=HK5.out;omega
                       case rel=>exact ⟨(wrap64 (x90_5+1)),(t349),(t350),(t351),(.slice Ao77 t351.length co77),yq,H',⟨by have:=HJ4.out;have:=HJ19.out;have:=HK3.out;have:=HK4.out;have:=HK5.out;omega⟩,⟨by (with_reducible repeat (first|apply Kd.S_alloc|apply Kd.S_drewN|apply Kd.S_drew));exact Kd.S_mono (Kd.S_far (p:=⟨gb314,2,none⟩) (Kd.S_far (p:=⟨gb314,1,none⟩) (Kd.S_far (p:=⟨gb314,0,none⟩) (Kd.S_types HO_15.out BK314.out (by decide)) (fun _ hk=>hk.2) (.int .u64 t349)) (fun _ hk=>hk.2) (.int .u32 t350)) (fun _ hk=>hk.2) (.slice Ao77 t351.length co77)) (fun _ hk=>trivial)⟩,⟨Kd.R_V (by (with_reducible repeat (first|apply zo|apply zp|apply zq));exact zG (zH (p:=⟨gb314,2,none⟩) (zH (p:=⟨gb314,1,none⟩) (zH (p:=⟨gb314,0,none⟩) (Kd.R_types (Kd.R_types (Kd.R_types (Kd.R_apart' HO353.out (Kd.S_typed HO_15.out) (by decide)) BK300.out (by decide)) BK314.out (by decide)) BK314.out (by decide)) (fun _ hk=>hk.2) (.int .u64 t349)) (fun _ hk=>hk.2) (.int .u32 t350)) (fun _ hk=>hk.2) (.slice Ao77 t351.length co77)) (fun _ hk=>⟨hk.1.1.1.2,⟨hk.1.1.2,hk.1.2⟩⟩))⟩,⟨yk BK300⟩,⟨yk BK314⟩,⟨yhb⟩⟩
                     ·
                      rw [if_neg c60] at H
                      exact absurd H (by simp)
                    ·
                     rw [if_neg c59] at H
                     exact absurd H (by simp)
                   ·
                    rw [if_neg c58] at H
                    exact absurd H (by simp)
                  ·
                   rw [if_neg c57] at H
                   exact absurd H (by simp)
                 ·
                  rw [if_neg c56] at H
                  exact absurd H (by simp)
                ·
                 rw [if_neg c55] at H
                 have c55b0 : decide (x90_5 < ((rd_L2 l2_2 x83_4).length : Int))=false:=decide_eq_false c55
                 clear c55
                 have H' := zm H
                 clear H
                 go_wp2
                 go_roundg k5
                 case measure=>have:=HJ4.out;have:=HJ19.out;have:=HK3.out;have:=HK4.out;have:=HK5.out;omega
                 case rel=>exact ⟨(wrap64 (x83_4+1)),(x315000_5),(x315001_5),(x315002_5),(u315002),yq,H',⟨by have:=HJ4.out;have:=HJ19.out;have:=HK3.out;have:=HK4.out;have:=HK5.out;omega⟩,⟨yr HO_15⟩,⟨yr HO_315002⟩,⟨yk BK300⟩,⟨yk BK314⟩,⟨yhb⟩⟩
             ·
              rw [if_neg c54] at H
              exact absurd H (by simp)
            ·
             rw [if_neg c53] at H
             exact absurd H (by simp)
           ·
            rw [if_neg c52] at H
            have c52b0 : decide (x83_4 < (l2_2.length : Int))=false:=decide_eq_false c52
            clear c52
            by_cases c78 : 0≤a0
            ·
             rw [if_pos c78] at H
             have c78b0:=eq_true c78
             have c78b1 : decide (0≤a0)=true:=decide_eq_true c78
             clear c78
             by_cases c79 : (a0 : Int).toNat≤281474976710656
             ·
              rw [if_pos c79] at H
              have c79b0:=eq_true c79
              have c79b1 : decide ((a0 : Int).toNat≤281474976710656)=true:=decide_eq_true c79
              clear c79
              obtain ⟨y329,hy329⟩ : ∃ y_ : List Int,y_=(List.replicate (a0 : Int).toNat 0):=⟨_,rfl⟩
              replace H : ((coder_Finish.f x315000_4 x315001_4 x315002_4).bind fun t332=>(some ((t332.take y329.length ++ y329.drop t332.length),0)))=some (r1,r2):=yrw hy329 H
              have Ny329:=zm hy329;clear hy329
              obtain ⟨t332,A80,H⟩:=ybi H
              by_cases c81 : True
              ·
               have _h:=c81;have LMc81:=zm c81;clear c81
               obtain ⟨y335,hy335⟩ : ∃ y_ : List Int,y_=(t332.take y329.length ++ y329.drop t332.length):=⟨_,rfl⟩
               replace H : (some (y335,0))=some (r1,r2):=yrw hy335 H
               have Ny335:=zm hy335;clear hy335
               simp only [Option.some.injEq,Prod.mk.injEq] at H
               obtain ⟨rfl,rfl⟩:=H
               go_wp2_with (first|((with_reducible refine gate_dst (N:=131) rfl ?_);refine Kd.R_make (Kd.int .u8) _ 5 rfl (N:=131) rfl 28 _ _ rfl a0 rfl rfl Try.underlying28 (.int .u8 0) 1 info5 rfl (by decide) (by omega) 0 (ok:=fun _=>True) (okp:=fun _=>True) rfl (fun _ hk=>hk) trivial (yt) (Nat.le_trans (Nat.mul_le_mul_right _ (yt : a0.toNat≤281474976710656)) (by omega)) (Below.refl _ _) (Nat.le_refl _) ?_;intro v330 w82 ho83 hb hg_ hnew_;clear hg_ hnew_;(first|rw [← Ny329.out] at ho83|(simp only [Int.reduceToNat] at ho83;rw [← Ny329.out] at ho83));replace HO_15:=ySb HO_15 hb;replace HO_315002:=zm (Kd.V_elder' (yr HO_315002) (Kd.R_base ho83) hb);have HO331:=zm (Kd.R_lower ho83 (zE yhb));replace BK300:=ybb BK300 hb;replace BK314:=ybb BK314 hb;replace HB:=ybs hb;clear hb ho83;have hnb84:=NB314_300.out;have hnc84:=NB300_314.out;obtain ⟨_,_,_,_,_,_⟩:=yc3 BK314;obtain ⟨Ao86,co86,eo86⟩:=Kd.V_slice HO_315002.out;subst eo86)|((with_reducible refine gate_callee (f:=35) rfl ?_);refine ygl 134 Try.func35 #[.agg #[.int .u64 x315000_4, .int .u32 x315001_4, .slice Ao86 x315002_4.length co86]] ?_;(with_reducible refine (coder_Finish.calls x315000_4 x315001_4 _ _ x315002_4 t332 _ ?side1 ?side2 A80.out).mono ?_);(case side1=>exact yce (Kd.V_reads' HO_315002.out).2.2);(case side2=>exact (Kd.V_reads' HO_315002.out).2.1);rintro e w87 ⟨v333,rfl,ho0,hb⟩;refine ⟨_,rfl, ?_⟩;replace HO_15:=ySb HO_15 hb;replace HO_315002:=zm (Kd.V_elder' (yr HO_315002) (Kd.R_base ho0) hb);have HO334:=zm (Kd.R_lower (Kd.R_new' ho0 (Kd.R_lt (yr HO331))) (zE yhb));replace HO331:=zm (Kd.R_elder' (yr HO331) (Kd.R_base ho0) hb);replace BK300:=ybb BK300 hb;replace BK314:=ybb BK314 hb;replace HB:=ybs hb;(try clear hb);(try clear hb2);(try clear hk);(try clear hi);(try clear ho0);obtain ⟨Ao89,co89,eo89⟩:=Kd.R_slice HO334.out;subst eo89)|((with_reducible refine gate_builtin (b:=.copy) (xs := #[.tmp 132, .tmp 134]) rfl ?_);refine cpack_Write.copyRow (k:=.u8) (w0:=w) w.heap.size rfl (.tmp 132) (.tmp 134) 28 5 rfl Try.underlying28 info5 v330 y329 t332 _ _ _ (fun _=>True) rfl rfl ?aO ?aR ?aB ?_;(case aO=>exact (by (with_reducible repeat (first|apply zo|apply zp|apply zq));exact zG HO331.out (fun _ _=>trivial)));(case aR=>exact yce (Kd.R_reads' HO334.out).2.2);(case aB=>exact yhb);intro w88 ho hb;rw [← Ny335.out] at ho;clear HB;have HO337:=zm ho;have HB:=zm hb;clear ho hb))
               go_ret2
               exact ⟨_,ye,by (with_reducible repeat (first|apply zo|apply zp|apply zq));exact zG HO337.out (fun _ hk=>trivial),yhb⟩
              ·
               exact absurd trivial c81
             ·
              rw [if_neg c79] at H
              exact absurd H (by simp)
            ·
             rw [if_neg c78] at H
             exact absurd H (by simp)

end Go.Proofs.Ytnmbndkojpjkmaa.Prt

namespace Go.Proofs.Ytnmbndkojpjkmaa.Prt
open Go.RowKit Go.Proofs.YtnmbndkojpjkmaaW.PrintWords Go.Proofs.YtnmbndkojpjkmaaW.PrintLast Go.Proofs.YtnmbndkojpjkmaaW.PrintMore
attribute [local go_sem] max2_int min2_int max_two min_two max_three min_three max_four min_four   -- for this text's walks alone
set_option linter.unusedVariables false
set_option linter.unusedSimpArgs false

/-! ### psalteryref06_Same: function 61 -/
def psalteryref06_Same.l0 : Nat→List Int→List Int→Int→Option (Bool)
 | 0,_,_,_=>none
 | k+1,x0,x1,x5=>if x5 < (x0.length : Int) then (if 0≤x5 then (if x5 < (x1.length : Int) then (if (rd x0 x5)=(rd x1 x5) then (psalteryref06_Same.l0 k x0 x1 (wrap64 (x5+1))) else (some false)) else (none)) else (none)) else (some true)
def psalteryref06_Same.f (k : Nat) (l0 : List Int) (l1 : List Int) : Option (Bool):=if (l0.length : Int)=(l1.length : Int) then (psalteryref06_Same.l0 k l0 l1 0) else (some false)
theorem psalteryref06_Same.mono_l : ∀ k,(∀ y0 y1 y2,LeO (psalteryref06_Same.l0 k y0 y1 y2) (psalteryref06_Same.l0 (k+1) y0 y1 y2))
 | 0=>fun _ _ _ r h=>by simp [psalteryref06_Same.l0] at h
 | k+1=>by
  have ih0:=psalteryref06_Same.mono_l k
  ·
   intro y0 y1 y2
   unfold psalteryref06_Same.l0
   repeat' first
   | (with_reducible exact ih0 _ _ _)
   | (with_reducible exact LeO.refl _)
   | (with_reducible exact LeO.none _)
   | (with_reducible refine LeO.ite ?_ ?_)
   | (with_reducible refine LeO.bind ?_ (fun _ => ?_))
   | exact ih0 _ _ _
   | exact LeO.none _
   | refine LeO.ite ?_ ?_
   | refine LeO.bind ?_ (fun _ => ?_)
theorem psalteryref06_Same.mono : ∀ a0 a1 k,LeO (psalteryref06_Same.f k a0 a1) (psalteryref06_Same.f (k+1) a0 a1):=by
 intro a0 a1 k
 have ih0:=psalteryref06_Same.mono_l k
 unfold psalteryref06_Same.f
 repeat' first
   | (with_reducible exact ih0 _ _ _)
   | (with_reducible exact LeO.refl _)
   | (with_reducible exact LeO.none _)
   | (with_reducible refine LeO.ite ?_ ?_)
   | (with_reducible refine LeO.bind ?_ (fun _ => ?_))
   | exact ih0 _ _ _
   | exact LeO.none _
   | refine LeO.ite ?_ ?_
   | refine LeO.bind ?_ (fun _ => ?_)
set_option maxHeartbeats 8000000 in
set_option maxRecDepth 100000 in
theorem psalteryref06_Same.calls (k : Nat) (A0 : Option Addr) (c0 : Nat) (l0 : List Int) (A1 : Option Addr) (c1 : Nat) (l1 : List Int) (r : Bool) (w : World) (hr0 : Kd.C (Kd.int .i64) w A0 l0.length l0) (hc0 : l0.length≤c0) (hr1 : Kd.C (Kd.int .i64) w A1 l1.length l1) (hc1 : l1.length≤c1) (h : psalteryref06_Same.f k l0 l1=some r) :
  Calls Try.prog 61 #[.slice A0 l0.length c0, .slice A1 l1.length c1] w fun e w' => e=.returned (.bool r)∧Drawn0 w w' := by
 have HR0:=zm hr0;have HC0:=zm hc0;clear hr0 hc0;have HR1:=zm hr1;have HC1:=zm hc1;clear hr1 hc1
 have H : (if (l0.length : Int)=(l1.length : Int) then (psalteryref06_Same.l0 k l0 l1 0) else (some false))=some r:=h
 clear h
 by_cases c3 : (l0.length : Int)=(l1.length : Int)
 ·
  rw [if_pos c3] at H
  have c3b0 : ((l0.length : Int) == (l1.length : Int))=true:=beq_iff_eq.mpr c3
  have c3b1 : ((l0.length : Int) != (l1.length : Int))=false:=bne_eq_false_iff_eq.mpr c3
  have c3b2 : (l0.length == l1.length)=true:=by first|simpa using c3|(simp at c3 ⊢; omega)
  clear c3
  have H' := zm H
  clear H
  go_enter Try.func61,Try.ntmps61
  go_wp2
  repeat (go_quiet (fail);try go_wp2)
  go_loopg [5] k (fun kq v5 w' => ∃ (x5_1 : Int),v5=.int .i64 x5_1∧Aside0 (psalteryref06_Same.l0 kq l0 l1 x5_1=some r)∧Aside0 (kq≤k)∧Drawn0 w w')
  case atStart=>exact ⟨(0),yq,H',⟨Nat.le_refl _⟩,yd⟩
  case round =>
   clear H'
   try clear c1
   try clear c3
   try clear c3b0
   try clear c3b1
   try clear c3b2
   obtain ⟨x5_1,rfl,HA,HK1,⟨m1,rfl⟩⟩:=hrel
   cases gk with
   | zero=>exact absurd HA.out (by simp [psalteryref06_Same.l0])
   | succ k1 =>
    have H:=HA.out;clear HA
    simp only [psalteryref06_Same.l0] at H
    by_cases c4 : x5_1 < (l0.length : Int)
    ·
     rw [if_pos c4] at H
     have c4b0 : decide (x5_1 < (l0.length : Int))=true:=decide_eq_true c4
     clear c4
     by_cases c5 : 0≤x5_1
     ·
      rw [if_pos c5] at H
      have c5b0 : decide (0≤x5_1)=true:=decide_eq_true c5
      clear c5
      by_cases c6 : x5_1 < (l1.length : Int)
      ·
       rw [if_pos c6] at H
       have c6b0 : decide (x5_1 < (l1.length : Int))=true:=decide_eq_true c6
       clear c6
       by_cases c7 : (rd l0 x5_1)=(rd l1 x5_1)
       ·
        rw [if_pos c7] at H
        have c7b0 : ((rd l0 x5_1) == (rd l1 x5_1))=true:=beq_iff_eq.mpr c7
        have c7b1 : ((rd l0 x5_1) != (rd l1 x5_1))=false:=bne_eq_false_iff_eq.mpr c7
        clear c7
        have H' := zm H
        clear H
        have p578 : 0≤(x5_1 : Int):=yt
        have q578 : x5_1 < (l0.length : Int):=yt
        obtain ⟨ad578,e578,hx578_0⟩:=Kd.at_int HR0.out x5_1 p578 q578
        cases e578
        replace p578:=eq_true p578
        replace q578:=eq_true q578
        have p579 : 0≤(x5_1 : Int):=yt
        have q579 : x5_1 < (l1.length : Int):=yt
        obtain ⟨ad579,e579,hx579_0⟩:=Kd.at_int HR1.out x5_1 p579 q579
        cases e579
        replace p579:=eq_true p579
        replace q579:=eq_true q579
        go_wp2
        repeat (go_quiet (fail);try go_wp2)
        go_roundg k1
        case measure=>have:=HK1.out;omega
        case rel=>exact ⟨(wrap64 (x5_1+1)),yq,H',⟨by have:=HK1.out;omega⟩,yd⟩
       ·
        rw [if_neg c7] at H
        have c7b0 : ((rd l0 x5_1) == (rd l1 x5_1))=false:=beq_eq_false_iff_ne.mpr c7
        have c7b1 : ((rd l0 x5_1) != (rd l1 x5_1))=true:=bne_iff_ne.mpr c7
        obtain rfl:=Option.some.inj H
        have p578 : 0≤(x5_1 : Int):=yt
        have q578 : x5_1 < (l0.length : Int):=yt
        obtain ⟨ad578,e578,hx578_0⟩:=Kd.at_int HR0.out x5_1 p578 q578
        cases e578
        replace p578:=eq_true p578
        replace q578:=eq_true q578
        have p579 : 0≤(x5_1 : Int):=yt
        have q579 : x5_1 < (l1.length : Int):=yt
        obtain ⟨ad579,e579,hx579_0⟩:=Kd.at_int HR1.out x5_1 p579 q579
        cases e579
        replace p579:=eq_true p579
        replace q579:=eq_true q579
        go_wp2
        repeat (go_quiet (fail);try go_wp2)
        go_ret
        exact ⟨yq,yd⟩
      ·
       rw [if_neg c6] at H
       exact absurd H (by simp)
     ·
      rw [if_neg c5] at H
      exact absurd H (by simp)
    ·
     rw [if_neg c4] at H
     have c4b0 : decide (x5_1 < (l0.length : Int))=false:=decide_eq_false c4
     clear c4
     obtain rfl:=Option.some.inj H
     go_wp2
     repeat (go_quiet (fail);try go_wp2)
     go_ret
     exact ⟨yq,yd⟩
 ·
  rw [if_neg c3] at H
  have c3b0 : ((l0.length : Int) == (l1.length : Int))=false:=beq_eq_false_iff_ne.mpr c3
  have c3b1 : ((l0.length : Int) != (l1.length : Int))=true:=bne_iff_ne.mpr c3
  have c3b2 : (l0.length == l1.length)=false:=by first|simpa using c3|(simp at c3 ⊢; omega)
  obtain rfl:=Option.some.inj H
  go_enter Try.func61,Try.ntmps61
  go_wp2
  repeat (go_quiet (fail);try go_wp2)
  go_ret
  exact ⟨yq,yd⟩

end Go.Proofs.Ytnmbndkojpjkmaa.Prt

namespace Go.Proofs.Ytnmbndkojpjkmaa.Prt
open Go.RowKit Go.Proofs.YtnmbndkojpjkmaaW.PrintWords Go.Proofs.YtnmbndkojpjkmaaW.PrintLast Go.Proofs.YtnmbndkojpjkmaaW.PrintMore
attribute [local go_sem] max2_int min2_int max_two min_two max_three min_three max_four min_four   -- for this text's walks alone
set_option linter.unusedVariables false
set_option linter.unusedSimpArgs false

/-! ### psalteryref12_Same: function 24 -/
def psalteryref12_Same.l0 : Nat→List (List Int)→List (List Int)→Int→Option (Bool)
 | 0,_,_,_=>none
 | k+1,x0,x1,x5=>if x5 < (x0.length : Int) then (if 0≤x5 then (if x5 < (x1.length : Int) then ((psalteryref06_Same.f k (rd_L1 x0 x5) (rd_L1 x1 x5)).bind fun t582=>(if t582=true then (psalteryref12_Same.l0 k x0 x1 (wrap64 (x5+1))) else (some false))) else (none)) else (none)) else (some true)
def psalteryref12_Same.f (k : Nat) (l0 : List (List Int)) (l1 : List (List Int)) : Option (Bool):=if (l0.length : Int)=(l1.length : Int) then (psalteryref12_Same.l0 k l0 l1 0) else (some false)
theorem psalteryref12_Same.mono_l : ∀ k,(∀ y0 y1 y2,LeO (psalteryref12_Same.l0 k y0 y1 y2) (psalteryref12_Same.l0 (k+1) y0 y1 y2))
 | 0=>fun _ _ _ r h=>by simp [psalteryref12_Same.l0] at h
 | k+1=>by
  have ih0:=psalteryref12_Same.mono_l k
  ·
   intro y0 y1 y2
   unfold psalteryref12_Same.l0
   repeat' first
   | (with_reducible exact ih0 _ _ _)
   | (with_reducible exact psalteryref06_Same.mono _ _ _)
   | (with_reducible exact LeO.refl _)
   | (with_reducible exact LeO.none _)
   | (with_reducible refine LeO.ite ?_ ?_)
   | (with_reducible refine LeO.bind ?_ (fun _ => ?_))
   | exact ih0 _ _ _
   | exact psalteryref06_Same.mono _ _ _
   | exact LeO.none _
   | refine LeO.ite ?_ ?_
   | refine LeO.bind ?_ (fun _ => ?_)
theorem psalteryref12_Same.mono : ∀ a0 a1 k,LeO (psalteryref12_Same.f k a0 a1) (psalteryref12_Same.f (k+1) a0 a1):=by
 intro a0 a1 k
 have ih0:=psalteryref12_Same.mono_l k
 unfold psalteryref12_Same.f
 repeat' first
   | (with_reducible exact ih0 _ _ _)
   | (with_reducible exact psalteryref06_Same.mono _ _ _)
   | (with_reducible exact LeO.refl _)
   | (with_reducible exact LeO.none _)
   | (with_reducible refine LeO.ite ?_ ?_)
   | (with_reducible refine LeO.bind ?_ (fun _ => ?_))
   | exact ih0 _ _ _
   | exact psalteryref06_Same.mono _ _ _
   | exact LeO.none _
   | refine LeO.ite ?_ ?_
   | refine LeO.bind ?_ (fun _ => ?_)
set_option maxHeartbeats 8000000 in
set_option maxRecDepth 100000 in
theorem psalteryref12_Same.calls (k : Nat) (A0 : Option Addr) (c0 : Nat) (l0 : List (List Int)) (A1 : Option Addr) (c1 : Nat) (l1 : List (List Int)) (r : Bool) (w : World) (hr0 : Kd.C (Kd.slice 3 (Kd.int .i64)) w A0 l0.length l0) (hc0 : l0.length≤c0) (hr1 : Kd.C (Kd.slice 3 (Kd.int .i64)) w A1 l1.length l1) (hc1 : l1.length≤c1) (h : psalteryref12_Same.f k l0 l1=some r) :
  Calls Try.prog 24 #[.slice A0 l0.length c0, .slice A1 l1.length c1] w fun e w' => e=.returned (.bool r)∧Drawn0 w w' := by
 have HR0:=zm hr0;have HC0:=zm hc0;clear hr0 hc0;have HR1:=zm hr1;have HC1:=zm hc1;clear hr1 hc1
 have H : (if (l0.length : Int)=(l1.length : Int) then (psalteryref12_Same.l0 k l0 l1 0) else (some false))=some r:=h
 clear h
 by_cases c3 : (l0.length : Int)=(l1.length : Int)
 ·
  rw [if_pos c3] at H
  have c3b0 : ((l0.length : Int) == (l1.length : Int))=true:=beq_iff_eq.mpr c3
  have c3b1 : ((l0.length : Int) != (l1.length : Int))=false:=bne_eq_false_iff_eq.mpr c3
  have c3b2 : (l0.length == l1.length)=true:=by first|simpa using c3|(simp at c3 ⊢; omega)
  clear c3
  have H' := zm H
  clear H
  go_enter Try.func24,Try.ntmps24
  go_wp2
  repeat (go_quiet (fail);try go_wp2)
  go_loopg [5] k (fun kq v5 w' => ∃ (x5_1 : Int),v5=.int .i64 x5_1∧Aside0 (psalteryref12_Same.l0 kq l0 l1 x5_1=some r)∧Aside0 (kq≤k)∧Drawn0 w w')
  case atStart=>exact ⟨(0),yq,H',⟨Nat.le_refl _⟩,yd⟩
  case round =>
   clear H'
   try clear c1
   try clear c3
   try clear c3b0
   try clear c3b1
   try clear c3b2
   obtain ⟨x5_1,rfl,HA,HK1,⟨m1,rfl⟩⟩:=hrel
   cases gk with
   | zero=>exact absurd HA.out (by simp [psalteryref12_Same.l0])
   | succ k1 =>
    have H:=HA.out;clear HA
    simp only [psalteryref12_Same.l0] at H
    by_cases c4 : x5_1 < (l0.length : Int)
    ·
     rw [if_pos c4] at H
     have c4b0 : decide (x5_1 < (l0.length : Int))=true:=decide_eq_true c4
     clear c4
     by_cases c5 : 0≤x5_1
     ·
      rw [if_pos c5] at H
      have c5b0 : decide (0≤x5_1)=true:=decide_eq_true c5
      clear c5
      by_cases c6 : x5_1 < (l1.length : Int)
      ·
       rw [if_pos c6] at H
       have c6b0 : decide (x5_1 < (l1.length : Int))=true:=decide_eq_true c6
       clear c6
       obtain ⟨t582,A7,H⟩:=ybi H
       by_cases c8 : t582=true
       ·
        subst c8
        rw [if_pos rfl] at H
        have H' := zm H
        clear H
        have p580 : 0≤(x5_1 : Int):=yt
        have q580 : x5_1 < (l0.length : Int):=yt
        obtain ⟨ad580,A580_0,c580_0,e580,hx580_0,hl580_0,hi580_0⟩:=at_L1 HR0.out x5_1 p580 q580
        cases e580
        have HR580_0:=zm hi580_0;have HC580_0:=zm hl580_0;clear hi580_0 hl580_0
        replace p580:=eq_true p580
        replace q580:=eq_true q580
        have p581 : 0≤(x5_1 : Int):=yt
        have q581 : x5_1 < (l1.length : Int):=yt
        obtain ⟨ad581,A581_0,c581_0,e581,hx581_0,hl581_0,hi581_0⟩:=at_L1 HR1.out x5_1 p581 q581
        cases e581
        have HR581_0:=zm hi581_0;have HC581_0:=zm hl581_0;clear hi581_0 hl581_0
        replace p581:=eq_true p581
        replace q581:=eq_true q581
        go_wp2_with (first|(go_at_call 61;(with_reducible refine (psalteryref06_Same.calls k1 _ _ (rd_L1 l0 x5_1) _ _ (rd_L1 l1 x5_1) true _ ?side1 HC580_0.out ?side3 HC581_0.out A7.out).mono ?_);(case side1=>exact yce HR580_0.out);(case side3=>exact yce HR581_0.out);rintro e w' ⟨rfl,⟨nd,rfl⟩⟩;(try exact yww)))
        repeat (go_quiet (first|(go_at_call 61;(with_reducible refine (psalteryref06_Same.calls k1 _ _ (rd_L1 l0 x5_1) _ _ (rd_L1 l1 x5_1) true _ ?side1 HC580_0.out ?side3 HC581_0.out A7.out).mono ?_);(case side1=>exact yce HR580_0.out);(case side3=>exact yce HR581_0.out);rintro e w' ⟨rfl,⟨nd,rfl⟩⟩;(try exact yww)));try go_wp2_with (first|(go_at_call 61;(with_reducible refine (psalteryref06_Same.calls k1 _ _ (rd_L1 l0 x5_1) _ _ (rd_L1 l1 x5_1) true _ ?side1 HC580_0.out ?side3 HC581_0.out A7.out).mono ?_);(case side1=>exact yce HR580_0.out);(case side3=>exact yce HR581_0.out);rintro e w' ⟨rfl,⟨nd,rfl⟩⟩;(try exact yww))))
        go_roundg k1
        case measure=>have:=HK1.out;omega
        case rel=>exact ⟨(wrap64 (x5_1+1)),yq,H',⟨by have:=HK1.out;omega⟩,yd⟩
       ·
        replace c8:=Bool.eq_false_iff.mpr c8
        subst c8
        rw [ynf] at H
        obtain rfl:=Option.some.inj H
        have p580 : 0≤(x5_1 : Int):=yt
        have q580 : x5_1 < (l0.length : Int):=yt
        obtain ⟨ad580,A580_0,c580_0,e580,hx580_0,hl580_0,hi580_0⟩:=at_L1 HR0.out x5_1 p580 q580
        cases e580
        have HR580_0:=zm hi580_0;have HC580_0:=zm hl580_0;clear hi580_0 hl580_0
        replace p580:=eq_true p580
        replace q580:=eq_true q580
        have p581 : 0≤(x5_1 : Int):=yt
        have q581 : x5_1 < (l1.length : Int):=yt
        obtain ⟨ad581,A581_0,c581_0,e581,hx581_0,hl581_0,hi581_0⟩:=at_L1 HR1.out x5_1 p581 q581
        cases e581
        have HR581_0:=zm hi581_0;have HC581_0:=zm hl581_0;clear hi581_0 hl581_0
        replace p581:=eq_true p581
        replace q581:=eq_true q581
        go_wp2_with (first|(go_at_call 61;(with_reducible refine (psalteryref06_Same.calls k1 _ _ (rd_L1 l0 x5_1) _ _ (rd_L1 l1 x5_1) false _ ?side1 HC580_0.out ?side3 HC581_0.out A7.out).mono ?_);(case side1=>exact yce HR580_0.out);(case side3=>exact yce HR581_0.out);rintro e w' ⟨rfl,⟨nd,rfl⟩⟩;(try exact yww)))
        repeat (go_quiet (first|(go_at_call 61;(with_reducible refine (psalteryref06_Same.calls k1 _ _ (rd_L1 l0 x5_1) _ _ (rd_L1 l1 x5_1) false _ ?side1 HC580_0.out ?side3 HC581_0.out A7.out).mono ?_);(case side1=>exact yce HR580_0.out);(case side3=>exact yce HR581_0.out);rintro e w' ⟨rfl,⟨nd,rfl⟩⟩;(try exact yww)));try go_wp2_with (first|(go_at_call 61;(with_reducible refine (psalteryref06_Same.calls k1 _ _ (rd_L1 l0 x5_1) _ _ (rd_L1 l1 x5_1) false _ ?side1 HC580_0.out ?side3 HC581_0.out A7.out).mono ?_);(case side1=>exact yce HR580_0.out);(case side3=>exact yce HR581_0.out);rintro e w' ⟨rfl,⟨nd,rfl⟩⟩;(try exact yww))))
        go_ret
        exact ⟨yq,yd⟩
      ·
       rw [if_neg c6] at H
       exact absurd H (by simp)
     ·
      rw [if_neg c5] at H
      exact absurd H (by simp)
    ·
     rw [if_neg c4] at H
     have c4b0 : decide (x5_1 < (l0.length : Int))=false:=decide_eq_false c4
     clear c4
     obtain rfl:=Option.some.inj H
     go_wp2
     repeat (go_quiet (fail);try go_wp2)
     go_ret
     exact ⟨yq,yd⟩
 ·
  rw [if_neg c3] at H
  have c3b0 : ((l0.length : Int) == (l1.length : Int))=false:=beq_eq_false_iff_ne.mpr c3
  have c3b1 : ((l0.length : Int) != (l1.length : Int))=true:=bne_iff_ne.mpr c3
  have c3b2 : (l0.length == l1.length)=false:=by first|simpa using c3|(simp at c3 ⊢; omega)
  obtain rfl:=Option.some.inj H
  go_enter Try.func24,Try.ntmps24
  go_wp2
  repeat (go_quiet (fail);try go_wp2)
  go_ret
  exact ⟨yq,yd⟩

end Go.Proofs.Ytnmbndkojpjkmaa.Prt

namespace Go.Proofs.Ytnmbndkojpjkmaa.Prt
open Go.RowKit Go.Proofs.YtnmbndkojpjkmaaW.PrintWords Go.Proofs.YtnmbndkojpjkmaaW.PrintLast Go.Proofs.YtnmbndkojpjkmaaW.PrintMore
attribute [local go_sem] max2_int min2_int max_two min_two max_three min_three max_four min_four   -- for this text's walks alone
set_option linter.unusedVariables false
set_option linter.unusedSimpArgs false

/-! ### psalteryref13_Same: function 22 -/
mutual
def psalteryref13_Same.j0 : Nat→Bool→Bool→List (List Int)→List (List (List Int))→Bool→List (List Int)→List (List (List Int))→Option (Bool)
 | 0,_,_,_,_,_,_,_=>none
 | k+1,x27,x584000,x584001,x584002,x585000,x585001,x585002=>if x27=true then (some false) else (psalteryref13_Same.l0 k 0 x584000 x584001 x584002 x585000 x585001 x585002)
def psalteryref13_Same.l0 : Nat→Int→Bool→List (List Int)→List (List (List Int))→Bool→List (List Int)→List (List (List Int))→Option (Bool)
 | 0,_,_,_,_,_,_,_=>none
 | k+1,x5,x584000,x584001,x584002,x585000,x585001,x585002=>if x5 < (x584002.length : Int) then (if 0≤x5 then (if x5 < (x585002.length : Int) then ((psalteryref12_Same.f k (rd_L2 x584002 x5) (rd_L2 x585002 x5)).bind fun t588=>(if t588=true then (psalteryref13_Same.l0 k (wrap64 (x5+1)) x584000 x584001 x584002 x585000 x585001 x585002) else (some false))) else (none)) else (none)) else (some true)
end
def psalteryref13_Same.f (k : Nat) (a0_0 : Bool) (l0_1 : List (List Int)) (l0_2 : List (List (List Int))) (a1_0 : Bool) (l1_1 : List (List Int)) (l1_2 : List (List (List Int))) : Option (Bool):=if (a0_0 != a1_0)=true then (psalteryref13_Same.j0 k true a0_0 l0_1 l0_2 a1_0 l1_1 l1_2) else ((psalteryref12_Same.f k l0_1 l1_1).bind fun t585=>(if t585=true then (psalteryref13_Same.j0 k ((l0_2.length : Int) != (l1_2.length : Int)) a0_0 l0_1 l0_2 a1_0 l1_1 l1_2) else (psalteryref13_Same.j0 k true a0_0 l0_1 l0_2 a1_0 l1_1 l1_2)))
theorem psalteryref13_Same.mono_l : ∀ k,(∀ y0 y1 y2 y3 y4 y5 y6,LeO (psalteryref13_Same.j0 k y0 y1 y2 y3 y4 y5 y6) (psalteryref13_Same.j0 (k+1) y0 y1 y2 y3 y4 y5 y6))∧(∀ y0 y1 y2 y3 y4 y5 y6,LeO (psalteryref13_Same.l0 k y0 y1 y2 y3 y4 y5 y6) (psalteryref13_Same.l0 (k+1) y0 y1 y2 y3 y4 y5 y6))
 | 0=>⟨fun _ _ _ _ _ _ _ r h=>by simp [psalteryref13_Same.j0] at h,fun _ _ _ _ _ _ _ r h=>by simp [psalteryref13_Same.l0] at h⟩
 | k+1=>by
  obtain ⟨ih0,ih1⟩:=psalteryref13_Same.mono_l k
  refine ⟨?_, ?_⟩
  ·
   intro y0 y1 y2 y3 y4 y5 y6
   unfold psalteryref13_Same.j0
   repeat' first
   | (with_reducible exact ih0 _ _ _ _ _ _ _)
   | (with_reducible exact ih1 _ _ _ _ _ _ _)
   | (with_reducible exact psalteryref12_Same.mono _ _ _)
   | (with_reducible exact LeO.refl _)
   | (with_reducible exact LeO.none _)
   | (with_reducible refine LeO.ite ?_ ?_)
   | (with_reducible refine LeO.bind ?_ (fun _ => ?_))
   | exact ih0 _ _ _ _ _ _ _
   | exact ih1 _ _ _ _ _ _ _
   | exact psalteryref12_Same.mono _ _ _
   | exact LeO.none _
   | refine LeO.ite ?_ ?_
   | refine LeO.bind ?_ (fun _ => ?_)
  ·
   intro y0 y1 y2 y3 y4 y5 y6
   unfold psalteryref13_Same.l0
   repeat' first
   | (with_reducible exact ih0 _ _ _ _ _ _ _)
   | (with_reducible exact ih1 _ _ _ _ _ _ _)
   | (with_reducible exact psalteryref12_Same.mono _ _ _)
   | (with_reducible exact LeO.refl _)
   | (with_reducible exact LeO.none _)
   | (with_reducible refine LeO.ite ?_ ?_)
   | (with_reducible refine LeO.bind ?_ (fun _ => ?_))
   | exact ih0 _ _ _ _ _ _ _
   | exact ih1 _ _ _ _ _ _ _
   | exact psalteryref12_Same.mono _ _ _
   | exact LeO.none _
   | refine LeO.ite ?_ ?_
   | refine LeO.bind ?_ (fun _ => ?_)
theorem psalteryref13_Same.mono : ∀ a0 a1 a2 a3 a4 a5 k,LeO (psalteryref13_Same.f k a0 a1 a2 a3 a4 a5) (psalteryref13_Same.f (k+1) a0 a1 a2 a3 a4 a5):=by
 intro a0 a1 a2 a3 a4 a5 k
 obtain ⟨ih0,ih1⟩:=psalteryref13_Same.mono_l k
 unfold psalteryref13_Same.f
 repeat' first
   | (with_reducible exact ih0 _ _ _ _ _ _ _)
   | (with_reducible exact ih1 _ _ _ _ _ _ _)
   | (with_reducible exact psalteryref12_Same.mono _ _ _)
   | (with_reducible exact LeO.refl _)
   | (with_reducible exact LeO.none _)
   | (with_reducible refine LeO.ite ?_ ?_)
   | (with_reducible refine LeO.bind ?_ (fun _ => ?_))
   | exact ih0 _ _ _ _ _ _ _
   | exact ih1 _ _ _ _ _ _ _
   | exact psalteryref12_Same.mono _ _ _
   | exact LeO.none _
   | refine LeO.ite ?_ ?_
   | refine LeO.bind ?_ (fun _ => ?_)
set_option maxHeartbeats 8000000 in
set_option maxRecDepth 100000 in
theorem psalteryref13_Same.calls (k : Nat) (a0_0 : Bool) (A0_1 : Option Addr) (c0_1 : Nat) (l0_1 : List (List Int)) (A0_2 : Option Addr) (c0_2 : Nat) (l0_2 : List (List (List Int))) (a1_0 : Bool) (A1_1 : Option Addr) (c1_1 : Nat) (l1_1 : List (List Int)) (A1_2 : Option Addr) (c1_2 : Nat) (l1_2 : List (List (List Int))) (r : Bool) (w : World) (hr0_1 : Kd.C (Kd.slice 3 (Kd.int .i64)) w A0_1 l0_1.length l0_1) (hc0_1 : l0_1.length≤c0_1) (hr0_2 : Kd.C (Kd.slice 49 (Kd.slice 3 (Kd.int .i64))) w A0_2 l0_2.length l0_2) (hc0_2 : l0_2.length≤c0_2) (hr1_1 : Kd.C (Kd.slice 3 (Kd.int .i64)) w A1_1 l1_1.length l1_1) (hc1_1 : l1_1.length≤c1_1) (hr1_2 : Kd.C (Kd.slice 49 (Kd.slice 3 (Kd.int .i64))) w A1_2 l1_2.length l1_2) (hc1_2 : l1_2.length≤c1_2) (h : psalteryref13_Same.f k a0_0 l0_1 l0_2 a1_0 l1_1 l1_2=some r) :
  Calls Try.prog 22 #[.agg #[.bool a0_0, .slice A0_1 l0_1.length c0_1, .slice A0_2 l0_2.length c0_2], .agg #[.bool a1_0, .slice A1_1 l1_1.length c1_1, .slice A1_2 l1_2.length c1_2]] w fun e w' => e=.returned (.bool r)∧Below w.heap.size w w' := by
 have hu33:=Try.underlying33;have HR0_1:=zm hr0_1;have HC0_1:=zm hc0_1;clear hr0_1 hc0_1;have HR0_2:=zm hr0_2;have HC0_2:=zm hc0_2;clear hr0_2 hc0_2;have HR1_1:=zm hr1_1;have HC1_1:=zm hc1_1;clear hr1_1 hc1_1;have HR1_2:=zm hr1_2;have HC1_2:=zm hc1_2;clear hr1_2 hc1_2;have HB:=zm (Below.refl w.heap.size w)
 have H : (if (a0_0 != a1_0)=true then (psalteryref13_Same.j0 k true a0_0 l0_1 l0_2 a1_0 l1_1 l1_2) else ((psalteryref12_Same.f k l0_1 l1_1).bind fun t585=>(if t585=true then (psalteryref13_Same.j0 k ((l0_2.length : Int) != (l1_2.length : Int)) a0_0 l0_1 l0_2 a1_0 l1_1 l1_2) else (psalteryref13_Same.j0 k true a0_0 l0_1 l0_2 a1_0 l1_1 l1_2))))=some r:=h
 clear h;have HC3:=zm H;clear H
 go_enter Try.func22,Try.ntmps22
 go_upto_region 1 with (first|((with_reducible refine gate_dst (N:=2) rfl ?_);(try (refine gate_guard (by rfl) ?_;dsimp only));refine ybx 2 #[.bool a0_0, .slice A0_1 l0_1.length c0_1, .slice A0_2 l0_2.length c0_2] 33 ?_;intro gb583 hg w4 hbox hb;have BK583:=zm (hbox);have GW583:=ygw hg;have GE583:=ygw hg;replace HB:=ybs hb;clear hb hbox hg)|((with_reducible refine gate_dst (N:=3) rfl ?_);(try (refine gate_guard (by rfl) ?_;dsimp only));refine ybx 3 #[.bool a1_0, .slice A1_1 l1_1.length c1_1, .slice A1_2 l1_2.length c1_2] 33 ?_;intro gb584 hg w5 hbox hb;have BK584:=zm (hbox);have GW584:=ygw hg;have GE584:=ygw hg;replace HB:=ybs hb;have NB583_584:=ynl BK583 hg;have NB584_583:=yng BK583 hg;replace BK583:=ybb BK583 hb;clear hb hbox hg))
 repeat (go_quiet (first|((with_reducible refine gate_dst (N:=2) rfl ?_);(try (refine gate_guard (by rfl) ?_;dsimp only));refine ybx 2 #[.bool a0_0, .slice A0_1 l0_1.length c0_1, .slice A0_2 l0_2.length c0_2] 33 ?_;intro gb583 hg w4 hbox hb;have BK583:=zm (hbox);have GW583:=ygw hg;have GE583:=ygw hg;replace HB:=ybs hb;clear hb hbox hg)|((with_reducible refine gate_dst (N:=3) rfl ?_);(try (refine gate_guard (by rfl) ?_;dsimp only));refine ybx 3 #[.bool a1_0, .slice A1_1 l1_1.length c1_1, .slice A1_2 l1_2.length c1_2] 33 ?_;intro gb584 hg w5 hbox hb;have BK584:=zm (hbox);have GW584:=ygw hg;have GE584:=ygw hg;replace HB:=ybs hb;have NB583_584:=ynl BK583 hg;have NB584_583:=yng BK583 hg;replace BK583:=ybb BK583 hb;clear hb hbox hg));go_upto_region 1 with (first|((with_reducible refine gate_dst (N:=2) rfl ?_);(try (refine gate_guard (by rfl) ?_;dsimp only));refine ybx 2 #[.bool a0_0, .slice A0_1 l0_1.length c0_1, .slice A0_2 l0_2.length c0_2] 33 ?_;intro gb583 hg w4 hbox hb;have BK583:=zm (hbox);have GW583:=ygw hg;have GE583:=ygw hg;replace HB:=ybs hb;clear hb hbox hg)|((with_reducible refine gate_dst (N:=3) rfl ?_);(try (refine gate_guard (by rfl) ?_;dsimp only));refine ybx 3 #[.bool a1_0, .slice A1_1 l1_1.length c1_1, .slice A1_2 l1_2.length c1_2] 33 ?_;intro gb584 hg w5 hbox hb;have BK584:=zm (hbox);have GW584:=ygw hg;have GE584:=ygw hg;replace HB:=ybs hb;have NB583_584:=ynl BK583 hg;have NB584_583:=yng BK583 hg;replace BK583:=ybb BK583 hb;clear hb hbox hg)))
 (try simp only [Act.put,List.setIfInBounds_toArray,List.set_cons_zero,List.set_cons_succ])
 go_cut [27] (fun v27 wc => ∃ (kq : Nat) (x27_2 : Bool),v27=.bool x27_2∧Aside0 (psalteryref13_Same.j0 kq x27_2 a0_0 l0_1 l0_2 a1_0 l1_1 l1_2=some r)∧Aside0 (kq≤k)∧Aside0 (wc.heap[gb583]? = some (.cells #[.bool a0_0,(.slice A0_1 l0_1.length c0_1),(.slice A0_2 l0_2.length c0_2)] 33 (0,0)))∧Aside0 (wc.heap[gb584]? = some (.cells #[.bool a1_0,(.slice A1_1 l1_1.length c1_1),(.slice A1_2 l1_2.length c1_2)] 33 (0,0)))∧Aside0 (Below w.heap.size w wc))
 case first =>
  have H:=HC3.out;clear HC3
  by_cases c6 : (a0_0 != a1_0)=true
  ·
   rw [if_pos c6] at H
   have c6b0 : (a0_0 != a1_0)=true:=c6
   (try (have c6b1 : decide (a0_0=a1_0)=false:=by simpa using c6))
   (try (have c6b2 : (a0_0 == a1_0)=false:=by simpa using c6))
   (try (have c6b3 : ¬ (a0_0=a1_0):=by simpa using c6))
   clear c6
   (first|rw [c6b0]|(simp only [i64_w,i32_w];rw [c6b0])|skip)
   have H' := zm H
   clear H;have hnb7:=NB583_584.out;have hnc7:=NB584_583.out
   obtain ⟨_,_,_,_,_,_⟩:=yc3 BK583
   obtain ⟨_,_,_,_,_,_⟩:=yc3 BK584
   go_wp2
   repeat (go_quiet (fail);try go_wp2)
   go_meet
   case rel=>exact ⟨_,(true),yq,H',⟨yo⟩,⟨yk BK583⟩,⟨yk BK584⟩,⟨yhb⟩⟩
  ·
   rw [if_neg c6] at H
   have c6b0 : (a0_0 != a1_0)=false:=by simpa using c6
   (try (have c6b1 : decide (a0_0=a1_0)=true:=by simpa using c6))
   (try (have c6b2 : (a0_0 == a1_0)=true:=by simpa using c6))
   clear c6
   (first|rw [c6b0]|(simp only [i64_w,i32_w];rw [c6b0])|skip)
   obtain ⟨t585,A10,H⟩:=ybi H
   by_cases c11 : t585=true
   ·
    subst c11
    rw [if_pos rfl] at H
    have H' := zm H
    clear H;have hnb12:=NB583_584.out;have hnc12:=NB584_583.out
    obtain ⟨_,_,_,_,_,_⟩:=yc3 BK583
    obtain ⟨_,_,_,_,_,_⟩:=yc3 BK584
    go_wp2_with (first|(go_at_call 24;(with_reducible refine (psalteryref12_Same.calls k _ _ l0_1 _ _ l1_1 true _ ?side1 HC0_1.out ?side3 HC1_1.out A10.out).mono ?_);(case side1=>exact ycb HR0_1);(case side3=>exact ycb HR1_1);rintro e w' ⟨rfl,⟨nd,rfl⟩⟩;(try exact yww)))
    repeat (go_quiet (first|(go_at_call 24;(with_reducible refine (psalteryref12_Same.calls k _ _ l0_1 _ _ l1_1 true _ ?side1 HC0_1.out ?side3 HC1_1.out A10.out).mono ?_);(case side1=>exact ycb HR0_1);(case side3=>exact ycb HR1_1);rintro e w' ⟨rfl,⟨nd,rfl⟩⟩;(try exact yww)));try go_wp2_with (first|(go_at_call 24;(with_reducible refine (psalteryref12_Same.calls k _ _ l0_1 _ _ l1_1 true _ ?side1 HC0_1.out ?side3 HC1_1.out A10.out).mono ?_);(case side1=>exact ycb HR0_1);(case side3=>exact ycb HR1_1);rintro e w' ⟨rfl,⟨nd,rfl⟩⟩;(try exact yww))))
    go_meet
    case rel=>exact ⟨_,(((l0_2.length : Int) != (l1_2.length : Int))),yq,H',⟨yo⟩,⟨yk BK583⟩,⟨yk BK584⟩,⟨yhb⟩⟩
   ·
    replace c11:=Bool.eq_false_iff.mpr c11
    subst c11
    rw [ynf] at H
    have H' := zm H
    clear H;have hnb15:=NB583_584.out;have hnc15:=NB584_583.out
    obtain ⟨_,_,_,_,_,_⟩:=yc3 BK583
    obtain ⟨_,_,_,_,_,_⟩:=yc3 BK584
    go_wp2_with (first|(go_at_call 24;(with_reducible refine (psalteryref12_Same.calls k _ _ l0_1 _ _ l1_1 false _ ?side1 HC0_1.out ?side3 HC1_1.out A10.out).mono ?_);(case side1=>exact ycb HR0_1);(case side3=>exact ycb HR1_1);rintro e w' ⟨rfl,⟨nd,rfl⟩⟩;(try exact yww)))
    repeat (go_quiet (first|(go_at_call 24;(with_reducible refine (psalteryref12_Same.calls k _ _ l0_1 _ _ l1_1 false _ ?side1 HC0_1.out ?side3 HC1_1.out A10.out).mono ?_);(case side1=>exact ycb HR0_1);(case side3=>exact ycb HR1_1);rintro e w' ⟨rfl,⟨nd,rfl⟩⟩;(try exact yww)));try go_wp2_with (first|(go_at_call 24;(with_reducible refine (psalteryref12_Same.calls k _ _ l0_1 _ _ l1_1 false _ ?side1 HC0_1.out ?side3 HC1_1.out A10.out).mono ?_);(case side1=>exact ycb HR0_1);(case side3=>exact ycb HR1_1);rintro e w' ⟨rfl,⟨nd,rfl⟩⟩;(try exact yww))))
    go_meet
    case rel=>exact ⟨_,(true),yq,H',⟨yo⟩,⟨yk BK583⟩,⟨yk BK584⟩,⟨yhb⟩⟩
 case rest =>
  clear HC3
  obtain ⟨kq,x27_2,rfl,HA,HJ2,BK583,BK584,HB⟩:=hcut
  cases kq with
  | zero=>exact absurd HA.out (by simp [psalteryref13_Same.j0])
  | succ kj2 =>
   have H:=HA.out;clear HA
   simp only [psalteryref13_Same.j0] at H
   by_cases c18 : x27_2=true
   ·
    subst c18
    rw [if_pos rfl] at H
    obtain rfl:=Option.some.inj H
    go_wp2
    repeat (go_quiet (fail);try go_wp2)
    go_ret
    exact ⟨ye,yhb⟩
   ·
    replace c18:=Bool.eq_false_iff.mpr c18
    subst c18
    rw [ynf] at H
    have H' := zm H
    clear H
    go_wp2
    repeat (go_quiet (fail);try go_wp2)
    go_loopg [5] kj2 (fun kq v5 w' => ∃ (x5_2 : Int),v5=.int .i64 x5_2∧Aside0 (psalteryref13_Same.l0 kq x5_2 a0_0 l0_1 l0_2 a1_0 l1_1 l1_2=some r)∧Aside0 (kq≤kj2)∧Aside0 (w'.heap[gb583]? = some (.cells #[.bool a0_0,(.slice A0_1 l0_1.length c0_1),(.slice A0_2 l0_2.length c0_2)] 33 (0,0)))∧Aside0 (w'.heap[gb584]? = some (.cells #[.bool a1_0,(.slice A1_1 l1_1.length c1_1),(.slice A1_2 l1_2.length c1_2)] 33 (0,0)))∧Aside0 (Below w.heap.size w w'))
    case atStart=>exact ⟨(0),yq,H',⟨Nat.le_refl _⟩,⟨yk BK583⟩,⟨yk BK584⟩,⟨yhb⟩⟩
    case round =>
     clear H'
     try clear c18
     obtain ⟨x5_2,rfl,HA,HK2,BK583,BK584,HB⟩:=hrel
     cases gk with
     | zero=>exact absurd HA.out (by simp [psalteryref13_Same.l0])
     | succ k2 =>
      have H:=HA.out;clear HA
      simp only [psalteryref13_Same.l0] at H
      by_cases c19 : x5_2 < (l0_2.length : Int)
      ·
       rw [if_pos c19] at H
       have c19b0 : decide (x5_2 < (l0_2.length : Int))=true:=decide_eq_true c19
       clear c19
       by_cases c20 : 0≤x5_2
       ·
        rw [if_pos c20] at H
        have c20b0 : decide (0≤x5_2)=true:=decide_eq_true c20
        clear c20
        by_cases c21 : x5_2 < (l1_2.length : Int)
        ·
         rw [if_pos c21] at H
         have c21b0 : decide (x5_2 < (l1_2.length : Int))=true:=decide_eq_true c21
         clear c21
         obtain ⟨t588,A22,H⟩:=ybi H
         by_cases c23 : t588=true
         ·
          subst c23
          rw [if_pos rfl] at H
          have H' := zm H
          clear H;have hnb24:=NB583_584.out;have hnc24:=NB584_583.out
          obtain ⟨_,_,_,_,_,_⟩:=yc3 BK583
          have p586 : 0≤(x5_2 : Int):=yt
          have q586 : x5_2 < (l0_2.length : Int):=yt
          obtain ⟨ad586,A586_0,c586_0,e586,hx586_0,hl586_0,hi586_0⟩:=at_L2 HR0_2.out x5_2 p586 q586
          cases e586
          replace hx586_0:=(HB.out.cell (zb w _ hx586_0)).trans hx586_0
          have HR586_0:=zm hi586_0;have HC586_0:=zm hl586_0;clear hi586_0 hl586_0
          replace p586:=eq_true p586
          replace q586:=eq_true q586
          obtain ⟨_,_,_,_,_,_⟩:=yc3 BK584
          have p587 : 0≤(x5_2 : Int):=yt
          have q587 : x5_2 < (l1_2.length : Int):=yt
          obtain ⟨ad587,A587_0,c587_0,e587,hx587_0,hl587_0,hi587_0⟩:=at_L2 HR1_2.out x5_2 p587 q587
          cases e587
          replace hx587_0:=(HB.out.cell (zb w _ hx587_0)).trans hx587_0
          have HR587_0:=zm hi587_0;have HC587_0:=zm hl587_0;clear hi587_0 hl587_0
          replace p587:=eq_true p587
          replace q587:=eq_true q587
          go_wp2_with (first|(go_at_call 24;(with_reducible refine (psalteryref12_Same.calls k2 _ _ (rd_L2 l0_2 x5_2) _ _ (rd_L2 l1_2 x5_2) true _ ?side1 HC586_0.out ?side3 HC587_0.out A22.out).mono ?_);(case side1=>exact ycb HR586_0);(case side3=>exact ycb HR587_0);rintro e w' ⟨rfl,⟨nd,rfl⟩⟩;(try exact yww)))
          repeat (go_quiet (first|(go_at_call 24;(with_reducible refine (psalteryref12_Same.calls k2 _ _ (rd_L2 l0_2 x5_2) _ _ (rd_L2 l1_2 x5_2) true _ ?side1 HC586_0.out ?side3 HC587_0.out A22.out).mono ?_);(case side1=>exact ycb HR586_0);(case side3=>exact ycb HR587_0);rintro e w' ⟨rfl,⟨nd,rfl⟩⟩;(try exact yww)));try go_wp2_with (first|(go_at_call 24;(with_reducible refine (psalteryref12_Same.calls k2 _ _ (rd_L2 l0_2 x5_2) _ _ (rd_L2 l1_2 x5_2) true _ ?side1 HC586_0.out ?side3 HC587_0.out A22.out).mono ?_);(case side1=>exact ycb HR586_0);(case side3=>exact ycb HR587_0);rintro e w' ⟨rfl,⟨nd,rfl⟩⟩;(try exact yww))))
          go_roundg k2
          case measure=>have:=HJ2.out;have:=HK2.out;omega
          case rel=>exact ⟨(wrap64 (x5_2+1)),yq,H',⟨by have:=HJ2.out;have:=HK2.out;omega⟩,⟨yk BK583⟩,⟨yk BK584⟩,⟨yhb⟩⟩
         ·
          replace c23:=Bool.eq_false_iff.mpr c23
          subst c23
          rw [ynf] at H
          obtain rfl:=Option.some.inj H
          have hnb27:=NB583_584.out;have hnc27:=NB584_583.out
          obtain ⟨_,_,_,_,_,_⟩:=yc3 BK583
          have p586 : 0≤(x5_2 : Int):=yt
          have q586 : x5_2 < (l0_2.length : Int):=yt
          obtain ⟨ad586,A586_0,c586_0,e586,hx586_0,hl586_0,hi586_0⟩:=at_L2 HR0_2.out x5_2 p586 q586
          cases e586
          replace hx586_0:=(HB.out.cell (zb w _ hx586_0)).trans hx586_0
          have HR586_0:=zm hi586_0;have HC586_0:=zm hl586_0;clear hi586_0 hl586_0
          replace p586:=eq_true p586
          replace q586:=eq_true q586
          obtain ⟨_,_,_,_,_,_⟩:=yc3 BK584
          have p587 : 0≤(x5_2 : Int):=yt
          have q587 : x5_2 < (l1_2.length : Int):=yt
          obtain ⟨ad587,A587_0,c587_0,e587,hx587_0,hl587_0,hi587_0⟩:=at_L2 HR1_2.out x5_2 p587 q587
          cases e587
          replace hx587_0:=(HB.out.cell (zb w _ hx587_0)).trans hx587_0
          have HR587_0:=zm hi587_0;have HC587_0:=zm hl587_0;clear hi587_0 hl587_0
          replace p587:=eq_true p587
          replace q587:=eq_true q587
          go_wp2_with (first|(go_at_call 24;(with_reducible refine (psalteryref12_Same.calls k2 _ _ (rd_L2 l0_2 x5_2) _ _ (rd_L2 l1_2 x5_2) false _ ?side1 HC586_0.out ?side3 HC587_0.out A22.out).mono ?_);(case side1=>exact ycb HR586_0);(case side3=>exact ycb HR587_0);rintro e w' ⟨rfl,⟨nd,rfl⟩⟩;(try exact yww)))
          repeat (go_quiet (first|(go_at_call 24;(with_reducible refine (psalteryref12_Same.calls k2 _ _ (rd_L2 l0_2 x5_2) _ _ (rd_L2 l1_2 x5_2) false _ ?side1 HC586_0.out ?side3 HC587_0.out A22.out).mono ?_);(case side1=>exact ycb HR586_0);(case side3=>exact ycb HR587_0);rintro e w' ⟨rfl,⟨nd,rfl⟩⟩;(try exact yww)));try go_wp2_with (first|(go_at_call 24;(with_reducible refine (psalteryref12_Same.calls k2 _ _ (rd_L2 l0_2 x5_2) _ _ (rd_L2 l1_2 x5_2) false _ ?side1 HC586_0.out ?side3 HC587_0.out A22.out).mono ?_);(case side1=>exact ycb HR586_0);(case side3=>exact ycb HR587_0);rintro e w' ⟨rfl,⟨nd,rfl⟩⟩;(try exact yww))))
          go_ret
          exact ⟨ye,yhb⟩
        ·
         rw [if_neg c21] at H
         exact absurd H (by simp)
       ·
        rw [if_neg c20] at H
        exact absurd H (by simp)
      ·
       rw [if_neg c19] at H
       have c19b0 : decide (x5_2 < (l0_2.length : Int))=false:=decide_eq_false c19
       clear c19
       obtain rfl:=Option.some.inj H
       have hnb30:=NB583_584.out;have hnc30:=NB584_583.out
       obtain ⟨_,_,_,_,_,_⟩:=yc3 BK583
       go_wp2
       repeat (go_quiet (fail);try go_wp2)
       go_ret
       exact ⟨ye,yhb⟩

end Go.Proofs.Ytnmbndkojpjkmaa.Prt
