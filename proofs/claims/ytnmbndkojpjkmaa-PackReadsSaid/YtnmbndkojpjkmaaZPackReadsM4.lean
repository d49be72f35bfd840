-- Functions of the program and of the document as plain Lean, each with the proof that the code comes to it. Written by a program of this session (wip/tools/myprint.py, pack.py) over the kit's printer; Lean checks it.
import Derived.Test.YtnmbndkojpjkmaaZPackReadsPrt0
import Derived.Test.YtnmbndkojpjkmaaZPackReadsSh2
import Derived.Test.YtnmbndkojpjkmaaZPackReadsSh
import Derived.Test.YtnmbndkojpjkmaaZPackReadsM3
import Derived.Test.YtnmbndkojpjkmaaZPackReadsM2
namespace Go.Proofs.Ytnmbndkojpjkmaa.Prt
open Go.RowKit Go.Proofs.YtnmbndkojpjkmaaW.PrintWords Go.Proofs.YtnmbndkojpjkmaaW.PrintLast Go.Proofs.YtnmbndkojpjkmaaW.PrintMore
attribute [local go_sem] max2_int min2_int max_two min_two max_three min_three max_four min_four   -- for this text's walks alone
set_option linter.unusedVariables false
set_option linter.unusedSimpArgs false
set_option maxHeartbeats 8000000
set_option maxRecDepth 100000


def r12_Right.f (a0 : Int) (a1 : Int) : Option (Bool):=if a0≤60 then (if a1=1 then (if a0 ≥ 11 then (some true) else (if a1=2 then (some (decide (a0 ≥ 17))) else (some false))) else (if a1=2 then (some (decide (a0 ≥ 17))) else (some false))) else (some false)
theorem r12_Right.calls (a0 : Int) (a1 : Int) (r : Bool) (w : World) (h : r12_Right.f a0 a1=some r) :
  Calls Try.prog 23 #[.int .i64 a0, .int .i64 a1] w fun e w' => e=.returned (.bool r)∧Drawn0 w w' := by
 have H:=h
 unfold r12_Right.f at H
 clear h
 replace H:=yId H
 obtain ⟨aa,H⟩ | ⟨aa,H⟩:=H
 ·
  by_cases c4 : a1=1
  ·
   rw [za4 c4] at H
   obtain ⟨ac,ae⟩:=yE c4
   clear c4
   replace H:=yIl H
   obtain ⟨af,H⟩ | ⟨af,H⟩:=H
   ·
    obtain rfl:=zO H
    go_enter Try.func23,Try.ntmps23
    go_wp2
    go_ret
    exact ⟨yq,yd⟩
   by_cases c6 : a1=2
   ·
    rw [za4 c6] at H
    obtain ⟨ag,ah⟩:=yE c6
    clear c6
    obtain rfl:=zO H
    go_enter Try.func23,Try.ntmps23
    go_wp2
    go_ret
    exact ⟨yq,yd⟩
   rw [za5 c6] at H
   obtain ⟨ag,ah⟩:=yF c6
   obtain rfl:=zO H
   go_enter Try.func23,Try.ntmps23
   go_wp2
   go_ret
   exact ⟨yq,yd⟩
  rw [za5 c4] at H
  obtain ⟨ac,ae⟩:=yF c4
  by_cases c7 : a1=2
  ·
   rw [za4 c7] at H
   obtain ⟨ai,aj⟩:=yE c7
   clear c7
   obtain rfl:=zO H
   go_enter Try.func23,Try.ntmps23
   go_wp2
   go_ret
   exact ⟨yq,yd⟩
  rw [za5 c7] at H
  obtain ⟨ai,aj⟩:=yF c7
  obtain rfl:=zO H
  go_enter Try.func23,Try.ntmps23
  go_wp2
  go_ret
  exact ⟨yq,yd⟩
 obtain rfl:=zO H
 go_enter Try.func23,Try.ntmps23
 go_wp2
 go_ret
 exact ⟨yq,yd⟩
def r12_Room.f (a0 : Int) (a1 : Int) : Option (Int):=(r12_Right.f a0 a1).bind fun aa=>(if aa=true then (if a1=1 then (some (wrap64 ((wrap64 (8 * a0)) - 86))) else (some (wrap64 (Int.tdiv (wrap64 ((wrap64 (8 * a0)) - 131)) 2)))) else (some 0))
theorem r12_Room.calls (a0 : Int) (a1 : Int) (r : Int) (w : World) (h : r12_Room.f a0 a1=some r) :
  Calls Try.prog 84 #[.int .i64 a0, .int .i64 a1] w fun e w' => e=.returned (.int .i64 r)∧Drawn0 w w' := by
 have H:=h
 unfold r12_Room.f at H
 clear h
 obtain ⟨aa,A3,H⟩:=ybi H
 by_cases c4 : aa=true
 ·
  subst c4
  rw [za4 rfl] at H
  by_cases c5 : a1=1
  ·
   rw [za4 c5] at H
   obtain ⟨ac,ae⟩:=yE c5
   clear c5
   obtain rfl:=zO H
   go_enter Try.func84,Try.ntmps84
   go_wp2_with (first|((with_reducible refine zK (f:=23) rfl ?_);refine ygl 7 Try.func23 #[.int .i64 a0, .int .i64 a1] ?_;(with_reducible refine (r12_Right.calls a0 a1 true _ A3.out).mono ?_);rintro e w' ⟨rfl,⟨nd,rfl⟩⟩;refine ⟨_,rfl, ?_⟩))
   go_ret
   exact ⟨yq,yd⟩
  rw [za5 c5] at H
  obtain ⟨ac,ae⟩:=yF c5
  obtain rfl:=zO H
  go_enter Try.func84,Try.ntmps84
  go_wp2_with (first|((with_reducible refine zK (f:=23) rfl ?_);refine ygl 7 Try.func23 #[.int .i64 a0, .int .i64 a1] ?_;(with_reducible refine (r12_Right.calls a0 a1 true _ A3.out).mono ?_);rintro e w' ⟨rfl,⟨nd,rfl⟩⟩;refine ⟨_,rfl, ?_⟩))
  go_ret
  exact ⟨yq,yd⟩
 replace c4:=za3.mpr c4
 subst c4
 rw [ynf] at H
 obtain rfl:=zO H
 go_enter Try.func84,Try.ntmps84
 go_wp2_with (first|((with_reducible refine zK (f:=23) rfl ?_);refine ygl 7 Try.func23 #[.int .i64 a0, .int .i64 a1] ?_;(with_reducible refine (r12_Right.calls a0 a1 false _ A3.out).mono ?_);rintro e w' ⟨rfl,⟨nd,rfl⟩⟩;refine ⟨_,rfl, ?_⟩))
 go_ret
 exact ⟨yq,yd⟩
def r12_Pulses.l0 : Nat→Int→Int→List (List Int)→List (List Int)→Int→Option ((List (List Int)))
 | 0,_,_,_,_,_=>none
 | k+1,x0,x1,x2,x7,x8=>if x8 < (x2.length : Int) then (if 0≤x8 then ((r12_Room.f x0 x1).bind fun ak=>((r12_Channel.f k (rd_L1 x2 x8) ak).bind fun af=>(if x7.length < 5864062014805 then (r12_Pulses.l0 k x0 x1 x2 (x7 ++ [af]) (wrap64 (x8+1))) else (none)))) else (none)) else (some x7)
def r12_Pulses.f (k : Nat) (a0 : Int) (a1 : Int) (l2 : List (List Int)) : Option ((List (List Int))):=r12_Pulses.l0 k a0 a1 l2 ([] : List (List Int)) 0
theorem r12_Pulses.mono_l : ∀ k,(∀ y0 y1 y2 y3 y4,LeO (r12_Pulses.l0 k y0 y1 y2 y3 y4) (r12_Pulses.l0 (k+1) y0 y1 y2 y3 y4))
 | 0=>fun _ _ _ _ _ r h=>by simp [r12_Pulses.l0] at h
 | k+1=>by
  have ih0:=r12_Pulses.mono_l k
  ·
   intro y0 y1 y2 y3 y4
   unfold r12_Pulses.l0
   have i0:=@r12_Channel.mono
   exact yLm
theorem r12_Pulses.mono : ∀ a0 a1 a2 k,LeO (r12_Pulses.f k a0 a1 a2) (r12_Pulses.f (k+1) a0 a1 a2):=by
 intro a0 a1 a2 k
 have ih0:=r12_Pulses.mono_l k
 unfold r12_Pulses.f
 have i0:=@r12_Channel.mono
 exact yLm
def r12_Pulses.T5 : Bool × List (List Nat × List Nat):=(true, [([], []),([], []),([], []),([1,2], [1,2]),([3], [3]),([], []),([], []),([5,6], [5,6]),([4,7,7], [4,7]),([8], [8]),([0,9,8], [0,9]),([10,10,0,1,2,3,4,5,6,7,8,9,10], [0,10])])
def r12_Pulses.B5 : List Nat := [0,0,0,6,14,0,0,96,254,510,1023,2047]
theorem r12_Pulses.tab5 : rtab .any (opsOf Try.f45 5)=r12_Pulses.T5:=by kernel_rfl
theorem r12_Pulses.bits5 : waitsOk r12_Pulses.T5.2 r12_Pulses.B5=true:=by kernel_rfl
theorem r12_Pulses.calls (k : Nat) (a0 : Int) (a1 : Int) (A2 : Option Addr) (c2 : Nat) (l2 : List (List Int)) (r : List (List Int)) (w : World) (hr2 : Kd.C (Kd.slice 3 (Kd.int .i64)) w A2 l2.length l2) (hc2 : l2.length≤c2) (h : r12_Pulses.f k a0 a1 l2=some r) :
  Calls Try.prog 45 #[.int .i64 a0, .int .i64 a1, .slice A2 l2.length c2] w fun e w' => ∃ v0_ : Value,e=.returned (v0_)∧Kd.S (Kd.slice 3 (Kd.int .i64)) 49 w' w.heap.size (fun _=>True) v0_ r∧Below w.heap.size w w' := by
 have HR2:=zm hr2;have HC2:=zm hc2;clear hr2 hc2;have HB:=zm (zY w.heap.size w);have H:=h
 unfold r12_Pulses.f at H
 clear h
 have H' := zm H
 clear H
 go_enter Try.func45,Try.ntmps45
 go_wp2
 go_loopg [7,8] k (fun kq v7 v8 w' => ∃ (al : List (List Int)) (ac : Int),v8=.int .i64 ac∧Aside0 (r12_Pulses.l0 kq a0 a1 l2 al ac=some r)∧Aside0 (kq≤k)∧Aside0 (Kd.S (Kd.slice 3 (Kd.int .i64)) 49 w' w.heap.size (fun _=>True) v7 al)∧Aside0 (Below w.heap.size w w'))
 case atStart=>exact ⟨(([] : List (List Int))),(0),yq,H',⟨zX _⟩,⟨yn⟩,⟨yhb⟩⟩
 case round =>
  clear H'
  try clear c2
  obtain ⟨al,ac,rfl,HA,HK1,ae,HB⟩:=hrel
  obtain ⟨k1,rfl⟩:=ysu gk (fun h=>by subst h;exact absurd HA.out (by simp [r12_Pulses.l0]))
  have H:=HA.out;clear HA
  simp only [r12_Pulses.l0] at H
  replace H:=yId H
  obtain ⟨aE,H⟩ | ⟨aE,H⟩:=H
  ·
   obtain ⟨c5,H⟩:=yif H
   have aH : decide (0≤ac)=true:=decide_eq_true c5
   clear c5
   obtain ⟨ak,A6,H⟩:=ybi H
   obtain ⟨af,A7,H⟩:=ybi H
   obtain ⟨c8,H⟩:=yif H
   have LMc8:=zm c8;clear c8
   obtain ⟨au,am⟩ : ∃ y_ : List (List Int),y_=(al ++ [af]):=⟨_,rfl⟩
   replace H : (r12_Pulses.l0 k1 a0 a1 l2 au (wrap64 (ac+1)))=some r:=yrw am H
   have av:=zm am;clear am
   have H' := zm H
   clear H
   try go_wp2
   replace ae:=zm (Kd.S_drew ae.out)
   replace HB:=zm (zf HB.out)
   obtain ⟨⟨aw,ao,ap,aG,aa,ag,ah⟩,aI,aJ⟩:=yat (at_L1 HR2.out ac)
   have hw726_0:=aa
   cases aG
   replace aa:=yhx HB aa
   have ai:=zm ah;have aq:=zm ag;clear ah ag
   refine start_ (n:=12) (S:=fun w' => w'.cell? (aw.add (ac).toNat)=some (.slice ao (rd_L1 l2 ac).length ap)) (ds := []) #[false,false,false,false,false,false,false,false,false,false,false,false] (by kernel_rfl) rfl rfl ((yhx HB hw726_0 :)) (fun hHeld => ?_);refine with_tabW r12_Pulses.tab5 r12_Pulses.bits5 (fun HT_ HW_ => ?_)
   generalize wr.drew=w9 at ae HB ai aa hHeld ⊢
   refine yp 0 15 HT_ ?_
   refine yp 1 16 HT_ ?_
   refine yp 2 17 HT_ ?_
   refine yp 3 18 HT_ ?_
   refine yp 5 20 HT_ ?_
   refine yp 6 21 HT_ ?_
   refine yl 4 19 HT_ HW_ hHeld ?_
   refine yw 7 22 HT_ (fun K hK => ?_)
   refine ygs Try.func84 #[.int .i64 a0, .int .i64 a1] ?_
   with_reducible refine (r12_Room.calls a0 a1 ak _ A6.out).mono ?_
   rintro e w' ⟨rfl,⟨nd,rfl⟩⟩
   refine ⟨_,rfl, ?_⟩
   refine hK.out _ _ ((yhx HB hw726_0 :)) (fun hHeld => ?_)
   clear hK K
   refine ym (some 22) ?_
   refine yw 8 23 HT_ (fun K hK => ?_)
   refine ygs Try.func83 #[.slice ao (rd_L1 l2 ac).length ap, .int .i64 ak] ?_
   with_reducible refine (r12_Channel.calls k1 _ _ (rd_L1 l2 ac) ak af _ ?ax ?ay A7.out).mono ?_
   (case ax=>exact ycb ai)
   (case ay=>exact aq.out)
   rintro e w10 ⟨aK,rfl,ho0,hb⟩
   refine ⟨_,rfl, ?_⟩
   replace ae:=zm (za8 (yr ae) (zW ho0) hb)
   have aj:=zm (za0 ho0 (zE yhb))
   replace HB:=ybs hb
   (try clear hb)
   (try clear ho0)
   obtain ⟨az,aA,aC⟩:=zT aj.out
   (first|subst aC|(injection aC with f1_ f2_ f3_;have f4_:=f1_.symm;have f5_:=f3_.symm;clear f1_ f2_ f3_;subst f4_;subst f5_))
   refine hK.out _ _ ((yhx HB hw726_0 :)) (fun hHeld => ?_)
   clear hK K
   refine ym (some 23) ?_
   refine yw 9 24 HT_ (fun K hK => ?_)
   refine value_ (w1 := ?_) (v := ?_) (by rfl) rfl ?_ ?_
   rotate_left 2
   ·
    go_simp
    constructor
    ·
     rfl
    rfl
   refine hK.out _ _ ((World.cell?_alloc_lt _ _ _ (zb _ _ ((yhx HB hw726_0 :)))).trans ((yhx HB hw726_0 :))) (fun hHeld => ?_)
   clear hK K
   refine ym (some 24) ?_
   refine yw 10 25 HT_ (fun K hK => ?_)
   refine Kd.S_append_step (Kd.slice 3 (Kd.int .i64)) (w0:=w) w.heap.size (by rfl) (.tmp 15) (.tmp 24) 22 49 (.slice none 0 0) 24 rfl Try.underlying22 info49 rfl (by decide) (by omega) u7 al af [.slice az af.length aA] (fun _=>True) (fun k_=>some k_=(.slice az af.length aA : Value).ownBlock) rfl rfl ?aP (fun k_ hk_=>((zG (ok' := fun k_=>((fun _=>True)) k_∧some k_≠(u7 : Value).ownBlock) (zZ (aj.out) (Kd.S_typed ae.out) (by decide)) (fun k_ hk=>⟨trivial,hk.2⟩))).1 k_ hk_.symm) ?aF ?aO ?aB ?aS ?aL ?_
   (case aP=>exact Kd.M_row (zG (Kd.R_tight rfl (zG (ok' := fun k_=>((fun _=>True)) k_∧some k_≠(u7 : Value).ownBlock) (zZ (aj.out) (Kd.S_typed ae.out) (by decide)) (fun k_ hk=>⟨trivial,hk.2⟩))) (fun _ h_=>h_)))
   (case aB=>exact yhb)
   (case aF=>exact (fun _ _=>trivial))
   (case aO=>exact (yS0 ae))
   (case aS=>exact (zE yhb))
   (case aL=>have:=LMc8.out;omega)
   intro aM w11 ho hb hg hat
   rw [← av.out] at ho
   replace HB:=zm (hb)
   have aD:=zm (ho);clear ae aj ho hb hg hat
   refine hK.out _ _ ((yhx HB hw726_0 :)) (fun hHeld => ?_)
   clear hK K
   refine ym (some 25) ?_
   refine yp 11 7 HT_ ?_
   refine done_ (done_of HT_.out (by kernel_rfl)) ?_
   try go_wp2
   go_roundg k1
   case measure=>exact yom1 HK1
   case rel=>exact ⟨(au),(wrap64 (ac+1)),yq,H',⟨yom1 HK1⟩,⟨yr aD⟩,⟨yhb⟩⟩
  obtain rfl:=zO H
  go_wp2
  go_ret
  exact ⟨_,ye,yr ae,yhb⟩
def r13_At.f (l0 : List (List Int)) (a1 : Int) : Option (List Int):=if a1 < (l0.length : Int) then (if 0≤a1 then (some (rd_L1 l0 a1)) else (none)) else (some ([] : List Int))
theorem r13_At.calls (P0_ : Nat→Prop) (A0 : Option Addr) (c0 : Nat) (l0 : List (List Int)) (a1 : Int) (r : List Int) (w : World) (hs0 : Kd.V (Kd.slice 3 (Kd.int .i64)) 49 w w.heap.size (fun k_=>P0_ k_) (.slice A0 l0.length c0) l0) (h : r13_At.f l0 a1=some r) :
  Calls Try.prog 39 #[.slice A0 l0.length c0, .int .i64 a1] w fun e w' => ∃ v0_ : Value,e=.returned (v0_)∧Kd.V (Kd.int .i64) 3 w' w.heap.size (fun k_=>(P0_ k_∨w.heap.size≤k_)) v0_ r∧Below w.heap.size w w' := by
 have HO0:=zm (show Kd.V (Kd.slice 3 (Kd.int .i64)) 49 w w.heap.size (fun k_=>(P0_ k_∨w.heap.size≤k_)) (.slice A0 l0.length c0) l0 from zy hs0 (fun k_ hk => .inl hk))
 have HB:=zm (zY w.heap.size w);have H:=h
 unfold r13_At.f at H
 clear h
 replace H:=yId H
 obtain ⟨ak,H⟩ | ⟨ak,H⟩:=H
 ·
  obtain ⟨c4,H⟩:=yif H
  have aq : decide (0≤a1)=true:=decide_eq_true c4
  clear c4
  obtain rfl:=zO H
  have ae : 0≤(a1 : Int):=yt
  have af : a1 < (l0.length : Int):=yt
  obtain ⟨ap,al,am,ao,ag,aa,ac⟩:=at_L1 (zR HO0.out).2.2 a1 ae af
  cases ao
  obtain ⟨ce828,hce828,hMe828,hcc828⟩:=Kd.V_get HO0.out [] a1 ae (by first|exact af|exact yt|(have e_:=(zR HO0.out).1;omega))
  obtain ⟨ua828_0,uc828_0,rfl,ul828_0,ge828_0⟩:=Kd.FK_slice_open hMe828
  have hv828_0:=hcc828 0 _ rfl
  rw [Nat.add_zero,show ((Kd.slice 3 (Kd.int .i64))).sz=1 from rfl,Nat.mul_one] at hv828_0
  replace hv828_0:=zO (hv828_0.symm.trans ag)
  injection hv828_0 with hva_ hvn_ hvc_
  rw [hva_] at ge828_0
  rw [hvc_] at ul828_0
  have ah:=zm (show Kd.V (Kd.int .i64) 3 _ w.heap.size _ _ (rd_L1 l0 a1) from Kd.V_mk ul828_0 ge828_0)
  clear hva_ hvn_ hvc_ ge828_0 ul828_0 hcc828 hce828;have ai:=zm ac;have aj:=zm aa;clear ac aa
  replace ae:=zP ae
  replace af:=zP af
  go_enter Try.func39,Try.ntmps39
  go_wp2
  go_ret
  exact ⟨_,ye,yr ah,yhb⟩
 obtain rfl:=zO H
 go_enter Try.func39,Try.ntmps39
 go_wp2
 go_ret
 exact ⟨_,ye,(by first|exact Kd.V_nil _ _ _ _ _|exact zy (Kd.R_V (yn)) (fun k_ hk=>by first|exact ⟨(.inr (hk.1)),hk.2⟩|exact (.inr (hk)))),yhb⟩
mutual
def r13_Read.j0 : Nat→Int→Int→List (List Int)→Bool→Int→Int→List Int→Int→Bool→Option (Bool × (List (List Int)) × (List (List (List Int))) × Int)
 | 0,_,_,_,_,_,_,_,_,_=>none
 | k+1,x0,x1,x3,x54,bx,bz,bA,bB,bq=>if x54=true then (some (false,([] : List (List Int)),([] : List (List (List Int))),1)) else (r13_Read.l0 k x0 x1 x3 0 bx bz bA bB bq ([] : List (List Int)))
def r13_Read.l0 : Nat→Int→Int→List (List Int)→Int→Int→Int→List Int→Int→Bool→List (List Int)→Option (Bool × (List (List Int)) × (List (List (List Int))) × Int)
 | 0,_,_,_,_,_,_,_,_,_,_=>none
 | k+1,x0,x1,x3,x13,bx,bz,bA,bB,bq,bs=>if x13 < x1 then ((r13_At.f x3 x13).bind fun bG=>((r11_Take.f k bx bz bA bB bG bq).bind fun cv=>(if bs.length < 5864062014805 then (r13_Read.l0 k x0 x1 x3 (wrap64 (x13+1)) cv.1 cv.2.1 cv.2.2.1 cv.2.2.2.1 bq (bs ++ [cv.2.2.2.2])) else (none)))) else ((r12_Pulses.f k x0 x1 bs).bind fun am=>(r13_Read.l1 k x1 am 0 bx bz bA bB bq bs ([] : List (List (List Int)))))
def r13_Read.l1 : Nat→Int→List (List Int)→Int→Int→Int→List Int→Int→Bool→List (List Int)→List (List (List Int))→Option (Bool × (List (List Int)) × (List (List (List Int))) × Int)
 | 0,_,_,_,_,_,_,_,_,_,_=>none
 | k+1,x1,x16,x17,bx,bz,bA,bB,bq,bs,bJ=>if x17 < x1 then (r13_Read.l2 k x1 x16 x17 ([] : List (List Int)) 0 bx bz bA bB bq bs bJ) else (some (bq,bs,bJ,0))
def r13_Read.l2 : Nat→Int→List (List Int)→Int→List (List Int)→Int→Int→Int→List Int→Int→Bool→List (List Int)→List (List (List Int))→Option (Bool × (List (List Int)) × (List (List (List Int))) × Int)
 | 0,_,_,_,_,_,_,_,_,_,_,_,_=>none
 | k+1,x1,x16,x17,x18,x19,bx,bz,bA,bB,bq,bs,bJ=>if x19 < 5 then ((r10_Width.f k x19).bind fun bL=>(if 0≤x17 then (if x17 < (x16.length : Int) then (if 0≤x19 then (if x19 < ((rd_L1 x16 x17).length : Int) then (if (rd (rd_L1 x16 x17) x19) > 0 then ((r06_Count.f k bL (rd (rd_L1 x16 x17) x19)).bind fun b4=>((r05_TakeNum.f k bx bz bA bB b4).bind fun cw=>((r06_Vector.f k bL (rd (rd_L1 x16 x17) x19) cw.2.2.2.2).bind fun bK=>(if x18.length < 5864062014805 then (r13_Read.l2 k x1 x16 x17 (x18 ++ [bK]) (wrap64 (x19+1)) cw.1 cw.2.1 cw.2.2.1 cw.2.2.2.1 bq bs bJ) else (none))))) else ((r06_Vector.f k bL (rd (rd_L1 x16 x17) x19) 0).bind fun bN=>(if x18.length < 5864062014805 then (r13_Read.l2 k x1 x16 x17 (x18 ++ [bN]) (wrap64 (x19+1)) bx bz bA bB bq bs bJ) else (none)))) else (none)) else (none)) else (none)) else (none))) else (if bJ.length < 5864062014805 then (r13_Read.l1 k x1 x16 (wrap64 (x17+1)) bx bz bA bB bq bs (bJ ++ [x18])) else (none))
end
def r13_Read.f (k : Nat) (a0 : Int) (a1 : Int) (l2 : List Int) (l3 : List (List Int)) : Option (Bool × (List (List Int)) × (List (List (List Int))) × Int):=(r12_Right.f a0 a1).bind fun dq=>(if dq=true then (if (l2.length : Int)=a0 then ((r05_Open.f k l2).bind fun b5=>((r05_Get.f b5.1 b5.2.1 b5.2.2.1 b5.2.2.2 2).bind fun aX=>((r05_Take.f k b5.1 b5.2.1 b5.2.2.1 b5.2.2.2 aX (wrap64 (aX+1)) 2).bind fun b6=>(if aX > 0 then (r13_Read.j0 k a0 a1 l3 false b6.1 b6.2.1 b6.2.2.1 b6.2.2.2 (decide (aX > 0))) else ((r12_Fair.f k a1 l3).bind fun di=>(r13_Read.j0 k a0 a1 l3 (!di) b6.1 b6.2.1 b6.2.2.1 b6.2.2.2 (decide (aX > 0)))))))) else (some (false,([] : List (List Int)),([] : List (List (List Int))),2))) else (some (false,([] : List (List Int)),([] : List (List (List Int))),1)))
theorem r13_Read.mono_l : ∀ k,(∀ y0 y1 y2 y3 y4 y5 y6 y7 y8,LeO (r13_Read.j0 k y0 y1 y2 y3 y4 y5 y6 y7 y8) (r13_Read.j0 (k+1) y0 y1 y2 y3 y4 y5 y6 y7 y8))∧(∀ y0 y1 y2 y3 y4 y5 y6 y7 y8 y9,LeO (r13_Read.l0 k y0 y1 y2 y3 y4 y5 y6 y7 y8 y9) (r13_Read.l0 (k+1) y0 y1 y2 y3 y4 y5 y6 y7 y8 y9))∧(∀ y0 y1 y2 y3 y4 y5 y6 y7 y8 y9,LeO (r13_Read.l1 k y0 y1 y2 y3 y4 y5 y6 y7 y8 y9) (r13_Read.l1 (k+1) y0 y1 y2 y3 y4 y5 y6 y7 y8 y9))∧(∀ y0 y1 y2 y3 y4 y5 y6 y7 y8 y9 y10 y11,LeO (r13_Read.l2 k y0 y1 y2 y3 y4 y5 y6 y7 y8 y9 y10 y11) (r13_Read.l2 (k+1) y0 y1 y2 y3 y4 y5 y6 y7 y8 y9 y10 y11))
 | 0=>⟨fun _ _ _ _ _ _ _ _ _ r h=>by simp [r13_Read.j0] at h,fun _ _ _ _ _ _ _ _ _ _ r h=>by simp [r13_Read.l0] at h,fun _ _ _ _ _ _ _ _ _ _ r h=>by simp [r13_Read.l1] at h,fun _ _ _ _ _ _ _ _ _ _ _ _ r h=>by simp [r13_Read.l2] at h⟩
 | k+1=>by
  obtain ⟨ih0,ih1,ih2,ih3⟩:=r13_Read.mono_l k
  have i0:=@r05_Open.mono;have i1:=@r05_Take.mono;have i2:=@r05_TakeNum.mono;have i3:=@r06_Count.mono;have i4:=@r06_Vector.mono;have i5:=@r10_Width.mono;have i6:=@r11_Take.mono;have i7:=@r12_Fair.mono;have i8:=@r12_Pulses.mono
  refine ⟨?_, ?_, ?_, ?_⟩
  ·
   intro y0 y1 y2 y3 y4 y5 y6 y7 y8
   unfold r13_Read.j0
   exact yLm
  ·
   intro y0 y1 y2 y3 y4 y5 y6 y7 y8 y9
   unfold r13_Read.l0
   exact yLm
  ·
   intro y0 y1 y2 y3 y4 y5 y6 y7 y8 y9
   unfold r13_Read.l1
   exact yLm
  intro y0 y1 y2 y3 y4 y5 y6 y7 y8 y9 y10 y11
  unfold r13_Read.l2
  exact yLm
theorem r13_Read.mono : ∀ a0 a1 a2 a3 k,LeO (r13_Read.f k a0 a1 a2 a3) (r13_Read.f (k+1) a0 a1 a2 a3):=by
 intro a0 a1 a2 a3 k
 obtain ⟨ih0,ih1,ih2,ih3⟩:=r13_Read.mono_l k
 have i0:=@r05_Open.mono;have i1:=@r05_Take.mono;have i2:=@r05_TakeNum.mono;have i3:=@r06_Count.mono;have i4:=@r06_Vector.mono;have i5:=@r10_Width.mono;have i6:=@r11_Take.mono;have i7:=@r12_Fair.mono;have i8:=@r12_Pulses.mono
 unfold r13_Read.f
 exact yLm
def r13_Read.T14 : Bool × List (List Nat × List Nat):=(true, [([], []),([], []),([], []),([1,2], [1,2]),([], []),([4], [4]),([0,3,5,3], [0,3,5]),([6], [6]),([7], [7]),([7], [7]),([], []),([10,8,6,0,1,2,3,4,5,6,7,8,10], [8,10]),([9,11,0,1,2,3,4,5,6,7,8,9,10,11], [9])])
def r13_Read.B14 : List Nat := [0,0,0,6,0,16,63,127,255,255,0,1535,4095]
theorem r13_Read.tab14 : rtab .any (opsOf Try.f21 14)=r13_Read.T14:=by kernel_rfl
theorem r13_Read.bits14 : waitsOk r13_Read.T14.2 r13_Read.B14=true:=by kernel_rfl
def r13_Read.T28 : Bool × List (List Nat × List Nat):=(true, [([], []),([], []),([], []),([], []),([2,3], [2,3]),([4], [4]),([], []),([5,6], [5,6]),([7], [7]),([1,8], [1,8]),([0,9,9], [0,9]),([10], [10]),([11], [11]),([11], [11]),([], []),([14,12,10,0,1,2,3,4,5,6,7,8,9,10,11,12,14], [12,14]),([13,15,0,1,2,3,4,5,6,7,8,9,10,11,12,13,14,15], [13])])
def r13_Read.B28 : List Nat := [0,0,0,0,12,28,0,124,252,510,1023,2047,4095,4095,0,24575,65535]
theorem r13_Read.tab28 : rtab .any (opsOf Try.f21 28)=r13_Read.T28:=by kernel_rfl
theorem r13_Read.bits28 : waitsOk r13_Read.T28.2 r13_Read.B28=true:=by kernel_rfl
theorem r13_Read.calls (k : Nat) (a0 : Int) (a1 : Int) (A2 : Option Addr) (c2 : Nat) (l2 : List Int) (A3 : Option Addr) (c3 : Nat) (l3 : List (List Int)) (r1 : Bool) (r2 : List (List Int)) (r3 : List (List (List Int))) (r4 : Int) (w : World) (hr2 : Kd.C (Kd.int .u8) w A2 l2.length l2) (hc2 : l2.length≤c2) (hr3 : Kd.C (Kd.slice 3 (Kd.int .i64)) w A3 l3.length l3) (hc3 : l3.length≤c3) (h : r13_Read.f k a0 a1 l2 l3=some (r1,r2,r3,r4)) :
  Calls Try.prog 21 #[.int .i64 a0, .int .i64 a1, .slice A2 l2.length c2, .slice A3 l3.length c3] w fun e w' => ∃ v1_ v2_ : Value,e=.returned (.tuple #[.agg #[.bool r1,v1_,v2_], .int .i64 r4])∧Kd.S (Kd.slice 3 (Kd.int .i64)) 49 w' w.heap.size (fun _=>True) v1_ r2∧Kd.R (Kd.slice 49 (Kd.slice 3 (Kd.int .i64))) 22 w' w.heap.size (fun k_=>some k_≠(v1_ : Value).ownBlock) v2_ r3∧Below w.heap.size w w' := by
 have hu33:=Try.underlying33;have hu95:=Try.underlying95;have HR2:=zm hr2;have HC2:=zm hc2;clear hr2 hc2;have HR3:=zm hr3;have HC3:=zm hc3;clear hr3 hc3;have HB:=zm (zY w.heap.size w);have H:=h
 unfold r13_Read.f at H
 clear h
 replace H:=ybi H;obtain ⟨dq,A5,H⟩:=H
 by_cases c6 : dq=true
 ·
  subst c6
  rw [za4 rfl] at H
  by_cases c7 : (l2.length : Int)=a0
  ·
   rw [za4 c7] at H
   obtain ⟨fI,fJ⟩:=yE c7
   clear c7
   replace H:=ybi H;obtain ⟨⟨cJ,cK,cx,cL⟩,A8,H⟩:=H
   try dsimp only at H
   replace H:=ybi H;obtain ⟨aX,A9,H⟩:=H
   replace H:=ybi H;obtain ⟨⟨cy,cz,b9,cA⟩,A10,H⟩:=H
   try dsimp only at H
   have fu:=zm H;clear H
   go_enter Try.func21,Try.ntmps21
   go_upto_region 9 with (first|((with_reducible refine zL (N:=8) rfl ?_);refine ybx 8 #[.bool false, .slice none 0 0, .slice none 0 0] 33 ?_;intro ao hg w12 hbox hb;have af:=zm (hbox);have dr:=ygw hg;have dt:=ygw hg;replace HB:=ybs hb;clear hb hbox hg)|((with_reducible refine zK (f:=23) rfl ?_);refine ygl 26 Try.func23 #[.int .i64 a0, .int .i64 a1] ?_;(with_reducible refine (r12_Right.calls a0 a1 true _ A5.out).mono ?_);rintro e w' ⟨rfl,⟨nd,rfl⟩⟩;refine ⟨_,rfl, ?_⟩;(try (rw [drewN_self w12];generalize hq_ : World.drewN w12 _=w12;replace af:=ykq hq_ af;replace HB:=ysq hq_;clear hq_)))|((with_reducible refine zK (f:=55) rfl ?_);refine ygl 35 Try.func55 #[.slice A2 l2.length c2] ?_;(with_reducible refine (r05_Open.calls k (fun k_=>k_ < w.heap.size) _ _ l2 cJ cK cx cL _ ?bu A8.out).mono ?_);(case bu=>exact Kd.V_mk HC2.out (Kd.F_below (Kd.C_F (Kd.heap_int .u8) HR2.out) yhb));rintro e w13 ⟨gY,rfl,ho0,hb⟩;refine ⟨_,rfl, ?_⟩;have bF:=yho (fun k_=>k_≠ao) ho0 (fun k_ hk_=>yoB af hk_);replace af:=ybb af hb;replace HB:=ybs hb;(try clear hb);(try clear ho0))|((with_reducible refine zL (N:=10) rfl ?_);refine ybx 10 #[.int .u64 0, .int .u64 0, .slice none 0 0, .int .i64 0] 95 ?_;intro aj hg w14 hbox hb;replace bF:=yVe bF hg hb;have ag:=zm (hbox);have gH:=ygw hg;have gI:=ygw hg;replace HB:=ybs hb;have bD:=ynl af hg;have bE:=yng af hg;replace af:=ybb af hb;clear hb hbox hg;have:=bE.out;have:=bD.out;obtain ⟨dZ,d5,d6,d7,d8,d9,ea,eb⟩:=yc4 ag;obtain ⟨fv,ec,gJ⟩:=zU bF.out;subst gJ)|((with_reducible refine zK (f:=56) rfl ?_);refine ygl 37 Try.func56 #[.agg #[.int .u64 cJ, .int .u64 cK, .slice fv cx.length ec, .int .i64 cL], .int .i64 2] ?_;(with_reducible refine (r05_Get.calls cJ cK _ _ cx cL 2 aX _ ?bu ?cg A9.out).mono ?_);(case bu=>refine (zR (e:=5) (base:=w.heap.size) (ok:=fun k_=>(k_≠ao∧k_≠aj)) (n:=cx.length) (c:=ec) ?_).2.2;exact (yV0 bF));(case cg=>exact (zR bF.out).2.1);rintro e w18 ⟨rfl,hb⟩;refine ⟨_,rfl, ?_⟩;replace bF:=zm (Kd.V_below (yV0 bF) hb);replace af:=ybb af hb;replace ag:=zm (zF (g:=aj) (o:=.cells #[.int .u64 cJ, .int .u64 cK, .slice fv cx.length ec, .int .i64 cL] 95 (0,0)) (ykp ag) hb);replace HB:=ybs hb;(try clear hb);obtain ⟨ed,ee,ef,eg,eh,ei,ej,ek⟩:=yc4 ag)|((with_reducible refine zK (f:=57) rfl ?_);refine ygl 42 Try.func57 #[.agg #[.int .u64 cJ, .int .u64 cK, .slice fv cx.length ec, .int .i64 cL], .int .i64 aX, .int .i64 (wrap64 (aX+1)), .int .i64 2] ?_;(with_reducible refine (r05_Take.calls k cJ cK (fun k_=>(k_≠ao∧k_≠aj)) _ _ cx cL aX (wrap64 (aX+1)) 2 cy cz b9 cA _ bF.out A10.out).mono ?_);rintro e w20 ⟨gZ,rfl,ho0,hb⟩;refine ⟨_,rfl, ?_⟩;replace bF:=yVb bF hb;have cB:=yho (fun k_=>k_≠ao∧k_≠aj) ho0 (fun k_ hk_=>⟨yoB af hk_,yoB ag hk_⟩);replace af:=ybb af hb;replace ag:=ybb ag hb;replace HB:=ybs hb;(try clear hb);(try clear ho0);obtain ⟨el,em,en,eo,ep,eq,er,es⟩:=yc4 ag;obtain ⟨dm,dp,gK⟩:=zU cB.out;subst gK)|((with_reducible refine zL (N:=12) rfl ?_);refine ybx 12 #[.bool false, .slice none 0 0, .slice none 0 0] 33 ?_;intro ap hg w23 hbox hb;replace bF:=zm (Kd.V_below (Kd.V_elderB (yV0 bF) ap (Nat.le_of_eq hg.symm)) hb);replace cB:=zm (Kd.V_below (Kd.V_elderB (yV0 cB) ap (Nat.le_of_eq hg.symm)) hb);have ah:=zm (hbox);have gL:=ygw hg;have gM:=ygw hg;replace HB:=ybs hb;have bm:=ynl af hg;have bn:=yng af hg;replace af:=ybb af hb;have bo:=zm ((by rw [hg];exact zn (zD (g:=aj) (o:=.cells #[.int .u64 cy, .int .u64 cz, .slice dm b9.length dp, .int .i64 cA] 95 (0,0)) (ykp ag)) : aj≠ap));have bp:=zm ((by rw [hg];exact zg (zD (g:=aj) (o:=.cells #[.int .u64 cy, .int .u64 cz, .slice dm b9.length dp, .int .i64 cA] 95 (0,0)) (ykp ag)) : ap≠aj));replace ag:=zm (zF (g:=aj) (o:=.cells #[.int .u64 cy, .int .u64 cz, .slice dm b9.length dp, .int .i64 cA] 95 (0,0)) (ykp ag) hb);clear hb hbox hg;have:=bn.out;have:=bm.out;have:=bp.out;have:=bo.out;obtain ⟨et,eu,ev,ew,ex,ey⟩:=yc3 ah))
   (try simp only [Act.put,za9,zb0,zb1])
   go_cut [54] (fun v54 wc => ∃ (kq : Nat) (cO : Bool),v54=.bool cO∧Aside0 (r13_Read.j0 kq a0 a1 l3 cO cy cz b9 cA (decide (aX > 0))=some (r1,r2,r3,r4))∧Aside0 (kq≤k)∧Aside0 (Kd.V (Kd.int .u8) 5 wc w.heap.size (fun k_=>k_≠ao∧k_≠aj∧k_≠ap) (.slice dm b9.length dp) b9)∧Aside0 (wc.heap[ao]? = some (.cells #[.bool false,(.slice none 0 0),(.slice none 0 0)] 33 (0,0)))∧Aside0 (wc.heap[aj]? = some (.cells #[.int .u64 cy, .int .u64 cz,(.slice dm b9.length dp), .int .i64 cA] 95 (0,0)))∧Aside0 (wc.heap[ap]? = some (.cells #[.bool (decide (aX > 0)),(.slice none 0 0),(.slice none 0 0)] 33 (0,0)))∧Aside0 (Below w.heap.size w wc))
   case first =>
    have H:=fu.out;clear fu
    replace H:=yIs H
    obtain ⟨cC,H⟩ | ⟨cC,H⟩:=H
    ·
     (first|rw [cC]|(simp only [i64_w,i32_w];rw [cC])|skip)
     have H' := zm H
     clear H
     have:=bn.out
     have:=bm.out
     have:=bp.out
     have:=bo.out
     obtain ⟨_,_,_,_,_,_⟩:=yc3 ah
     go_wp2
     go_meet
     case rel=>exact ⟨_,(false),yq,H',⟨yo⟩,⟨yV0 cB⟩,⟨yk af⟩,⟨yk ag⟩,⟨by rw [cC];(with_reducible repeat (first|refine zh ?_ _|refine zj ?_|refine zi ?_ _));refine zw (cs := #[.bool true, .slice none 0 0, .slice none 0 0]) ?_ 2 _ rfl;(with_reducible repeat (first|refine zh ?_ _|refine zj ?_|refine zi ?_ _));refine zw (cs := #[.bool true, .slice none 0 0, .slice none 0 0]) ?_ 1 _ rfl;(with_reducible repeat (first|refine zh ?_ _|refine zj ?_|refine zi ?_ _));refine zw (cs := #[.bool false, .slice none 0 0, .slice none 0 0]) ?_ 0 _ rfl;(with_reducible repeat (first|refine zh ?_ _|refine zj ?_|refine zi ?_ _));exact ah.out⟩,⟨yhb⟩⟩
    (first|rw [cC]|(simp only [i64_w,i32_w];rw [cC])|skip)
    replace H:=ybi H;obtain ⟨di,A31,H⟩:=H
    have H' := zm H
    clear H
    have:=bn.out
    have:=bm.out
    have:=bp.out
    have:=bo.out
    obtain ⟨_,_,_,_,_,_⟩:=yc3 ah
    go_wp2_with (first|(go_at_call 17;(with_reducible refine (r12_Fair.calls k a1 _ _ l3 di _ ?bu HC3.out A31.out).mono ?_);(case bu=>exact Kd.C_below HR3.out yhb);rintro e w' ⟨rfl,⟨nd,rfl⟩⟩))
    go_meet
    case rel=>exact ⟨_,(!di),yq,H',⟨yo⟩,⟨yV0 cB⟩,⟨yk af⟩,⟨yk ag⟩,⟨by rw [cC];(with_reducible repeat (first|refine zh ?_ _|refine zj ?_|refine zi ?_ _));refine zw (cs := #[.bool false, .slice none 0 0, .slice none 0 0]) ?_ 2 _ rfl;(with_reducible repeat (first|refine zh ?_ _|refine zj ?_|refine zi ?_ _));refine zw (cs := #[.bool false, .slice none 0 0, .slice none 0 0]) ?_ 1 _ rfl;(with_reducible repeat (first|refine zh ?_ _|refine zj ?_|refine zi ?_ _));refine zw (cs := #[.bool false, .slice none 0 0, .slice none 0 0]) ?_ 0 _ rfl;(with_reducible repeat (first|refine zh ?_ _|refine zj ?_|refine zi ?_ _));exact ah.out⟩,⟨yhb⟩⟩
   case rest =>
    clear fu
    try clear c2
    try clear c3
    try clear fI
    try clear fJ
    try clear dZ
    try clear d5
    try clear d6
    try clear d7
    try clear ed
    try clear ee
    try clear ef
    try clear eg
    try clear el
    try clear em
    try clear en
    try clear eo
    try clear et
    try clear eu
    try clear ev
    try clear d8
    try clear d9
    try clear ea
    try clear eb
    try clear eh
    try clear ei
    try clear ej
    try clear ek
    try clear ep
    try clear eq
    try clear er
    try clear es
    try clear ew
    try clear ex
    try clear ey
    obtain ⟨kq,cO,rfl,HA,cS,ac,af,ag,ah,HB⟩:=hcut
    obtain ⟨fK,rfl⟩:=ysu kq (fun h=>by subst h;exact absurd HA.out (by simp [r13_Read.j0]))
    have H:=HA.out;clear HA
    simp only [r13_Read.j0] at H
    by_cases c35 : cO=true
    ·
     subst c35
     rw [za4 rfl] at H
     simp only [zM,zN] at H
     obtain ⟨rfl,rfl,rfl,rfl⟩:=H
     have:=bD.out
     have:=bE.out
     have:=bm.out
     have:=bn.out
     obtain ⟨ez,eA,eB,eC,eD,eE⟩:=yc3 af
     go_wp2
     refine za1 (results_ct rfl _ _ ao 33 #[.bool false, .slice none 0 0, .slice none 0 0] (0,0) _ rfl (ykp af) Try.underlying33 rfl (by kernel_rfl)) rfl ?_
     exact ⟨_,_,ye,yn,yn,yhb⟩
    replace c35:=za3.mpr c35
    subst c35
    rw [ynf] at H
    have H' := zm H
    clear H
    go_wp2
    go_loopg [13] fK (fun kq v13 w' => ∃ (ch : Int) (aU : Int) (aV : Int) (aC : List Int) (aW : Int) (ae : List (List Int)) (bj : Value) (ay : Value),v13=.int .i64 ch∧Aside0 (r13_Read.l0 kq a0 a1 l3 ch aU aV aC aW (decide (aX > 0)) ae=some (r1,r2,r3,r4))∧Aside0 (kq≤fK)∧Aside0 (Kd.V (Kd.int .u8) 5 w' w.heap.size (fun k_=>some k_≠(ay : Value).ownBlock∧k_≠ao∧k_≠aj∧k_≠ap) bj aC)∧Aside0 (Kd.S (Kd.slice 3 (Kd.int .i64)) 49 w' w.heap.size (fun _=>True) ay ae)∧Aside0 (w'.heap[ao]? = some (.cells #[.bool false,(.slice none 0 0),(.slice none 0 0)] 33 (0,0)))∧Aside0 (w'.heap[aj]? = some (.cells #[.int .u64 aU, .int .u64 aV,bj, .int .i64 aW] 95 (0,0)))∧Aside0 (w'.heap[ap]? = some (.cells #[.bool (decide (aX > 0)),ay,(.slice none 0 0)] 33 (0,0)))∧Aside0 (Below w.heap.size w w'))
    case atStart=>exact ⟨(0),(cy),(cz),(b9),(cA),(([] : List (List Int))),(.slice dm b9.length dp),(.slice none 0 0),yq,H',⟨zX _⟩,⟨yV0 ac⟩,⟨yn⟩,⟨yk af⟩,⟨yk ag⟩,⟨yk ah⟩,⟨yhb⟩⟩
    case round =>
     clear H'
     try clear ez
     try clear eA
     try clear eB
     try clear eC
     try clear eD
     try clear eE
     obtain ⟨ch,aU,aV,aC,aW,ae,bj,ay,rfl,HA,HK2,ac,aa,af,ag,ah,HB⟩:=hrel
     obtain ⟨k2,rfl⟩:=ysu gk (fun h=>by subst h;exact absurd HA.out (by simp [r13_Read.l0]))
     have H:=HA.out;clear HA
     simp only [r13_Read.l0] at H
     replace H:=yId H
     obtain ⟨fl,H⟩ | ⟨fl,H⟩:=H
     ·
      replace H:=ybi H;obtain ⟨bG,A40,H⟩:=H
      replace H:=ybi H;obtain ⟨⟨bO,bP,bH,bQ,bR⟩,A41,H⟩:=H
      try dsimp only at H
      replace H:=yif H;obtain ⟨c42,H⟩:=H
      have LMc42:=zm c42;clear c42
      obtain ⟨du,dc⟩ : ∃ y_ : List (List Int),y_=(ae ++ [bR]):=⟨_,rfl⟩
      replace H : (r13_Read.l0 k2 a0 a1 l3 (wrap64 (ch+1)) bO bP bH bQ (decide (aX > 0)) du)=some (r1,r2,r3,r4):=yrw dc H
      have fw:=zm dc;clear dc
      have H' := zm H
      clear H
      obtain ⟨cF,cG,gN⟩:=zU ac.out
      subst gN
      try go_wp2
      replace ac:=zm (zC ac.out)
      replace aa:=zm (Kd.S_drew aa.out)
      replace af:=zm (zj af.out)
      replace ag:=zm (zj ag.out)
      replace ah:=zm (zj ah.out)
      replace HB:=zm (zf HB.out)
      refine yst (fun w' => w'.cell? ⟨aj,0,none⟩=some (.int .u64 aU)∧w'.cell? ⟨aj,1,none⟩=some (.int .u64 aV)∧w'.cell? ⟨aj,2,none⟩=some (.slice cF aC.length cG)∧w'.cell? ⟨aj,3,none⟩=some (.int .i64 aW)∧w'.cell? ⟨ap,0,none⟩=some (.bool (decide (aX > 0)))∧w'.cell? ⟨ap,1,none⟩=some (ay)∧w'.cell? ⟨ap,2,none⟩=some (.slice none 0 0)) [] 13 r13_Read.tab14 r13_Read.bits14 (fun hHeld HT_ HW_ => ?_)
      generalize wr.drew=w44 at ac aa af ag ah HB hHeld ⊢
      refine yp 1 63 HT_ ?_
      refine yp 2 64 HT_ ?_
      refine yp 4 66 HT_ ?_
      refine yl 0 62 HT_ HW_ hHeld ?_
      refine yl 5 67 HT_ HW_ hHeld ?_
      refine join_ (σ:=Value × Value × Value × Nat) 2 #[true,true,true,true,true,true,true,true,true,true,true,false,false] (fun s_ => [(65,s_.1),(68, .tuple #[.agg #[.int .u64 bO, .int .u64 bP,s_.2.1, .int .i64 bQ],s_.2.2.1]),(14, .pointer (some ⟨s_.2.2.2,0,none⟩)),(61, .tuple #[.agg #[.int .u64 bO, .int .u64 bP,s_.2.1, .int .i64 bQ],s_.2.2.1]),(69, .agg #[.int .u64 bO, .int .u64 bP,s_.2.1, .int .i64 bQ]),(70,s_.2.2.1)]) (fun s_ w' => (w'.cell? ⟨aj,0,none⟩=some (.int .u64 aU)∧w'.cell? ⟨aj,1,none⟩=some (.int .u64 aV)∧w'.cell? ⟨aj,2,none⟩=some (.slice cF aC.length cG)∧w'.cell? ⟨aj,3,none⟩=some (.int .i64 aW)∧w'.cell? ⟨ap,0,none⟩=some (.bool (decide (aX > 0)))∧w'.cell? ⟨ap,1,none⟩=some (ay)∧w'.cell? ⟨ap,2,none⟩=some (.slice none 0 0))∧(Kd.V (Kd.int .i64) 3 w' w.heap.size (fun k_=>some k_≠(s_.2.2.1 : Value).ownBlock∧some k_≠(ay : Value).ownBlock∧k_≠ao∧k_≠aj∧k_≠ap∧k_≠s_.2.2.2) s_.1 bG)∧(Kd.V (Kd.int .u8) 5 w' w.heap.size (fun k_=>some k_≠(s_.2.2.1 : Value).ownBlock∧some k_≠(ay : Value).ownBlock∧k_≠ao∧k_≠aj∧k_≠ap∧k_≠s_.2.2.2) s_.2.1 bH)∧(Kd.R (Kd.int .i64) 3 w' w.heap.size (fun _=>True) s_.2.2.1 bR)∧(Kd.V (Kd.int .u8) 5 w' w.heap.size (fun k_=>some k_≠(s_.2.2.1 : Value).ownBlock∧some k_≠(ay : Value).ownBlock∧k_≠ao∧k_≠aj∧k_≠ap∧k_≠s_.2.2.2) (.slice cF aC.length cG) aC)∧(Kd.S (Kd.slice 3 (Kd.int .i64)) 49 w' w.heap.size (fun k_=>some k_≠(s_.2.2.1 : Value).ownBlock) ay ae)∧(w'.heap[ao]? = some (.cells #[.bool false, .slice none 0 0, .slice none 0 0] 33 (0,0)))∧(w'.heap[aj]? = some (.cells #[.int .u64 aU, .int .u64 aV, .slice cF aC.length cG, .int .i64 aW] 95 (0,0)))∧(w'.heap[ap]? = some (.cells #[.bool (decide (aX > 0)),ay, .slice none 0 0] 33 (0,0)))∧(w'.heap[s_.2.2.2]? = some (.cells #[.int .u64 0, .int .u64 0, .slice none 0 0, .int .i64 0] 95 (0,0)))∧(w.heap.size≤s_.2.2.2)∧(w.heap.size≤s_.2.2.2)∧(ao≠s_.2.2.2)∧(s_.2.2.2≠ao)∧(aj≠s_.2.2.2)∧(s_.2.2.2≠aj)∧(ap≠s_.2.2.2)∧(s_.2.2.2≠ap)∧(Below w.heap.size w w')) ?_ ?_
      rotate_left
      ·
       intro hCont
       refine two_ (i:=3) (j:=10) (Ni:=some 65) (Nj:=some 14) #[true,true,true,true,true,true,false,false,false,false,false,false,false] #[true,true,true,false,true,true,false,false,false,false,true,false,false] rfl rfl rfl rfl (two_of HT_.out (by kernel_rfl)) (by decide) (by decide) (fun K hK => ?_) (fun K hK => ?_)
       ·
        skip
        refine ygs Try.func39 #[.slice A3 l3.length c3, .int .i64 ch] ?_
        with_reducible refine (r13_At.calls (fun k_=>k_ < w.heap.size) _ _ l3 ch bG _ ?bu A40.out).mono ?_
        (case bu=>exact Kd.V_mk HC3.out (Kd.F_below (Kd.C_F (Kd.heap_slice 3 (Kd.heap_int .i64)) HR3.out) yhb))
        rintro e w45 ⟨dj,rfl,ho0,hb⟩
        refine ⟨_,rfl, ?_⟩
        replace ac:=yVb ac hb
        have aQ:=yho (fun k_=>some k_≠(ay : Value).ownBlock∧k_≠ao∧k_≠aj∧k_≠ap) ho0 (fun k_ hk_=>⟨yoS aa hk_,yoB af hk_,yoB ag hk_,yoB ah hk_⟩)
        replace aa:=ySb aa hb
        replace af:=ybb af hb
        replace ag:=ybb ag hb
        replace ah:=ybb ah hb
        replace HB:=ybs hb
        (try clear hb)
        (try clear ho0)
        obtain ⟨fL,fM,fN⟩:=zU aQ.out
        (first|subst fN|(injection fN with f1_ f2_ f3_;have f4_:=f1_.symm;have f5_:=f3_.symm;clear f1_ f2_ f3_;subst f4_;subst f5_))
        refine hK.out _ _ yH (fun hHeld => ?_)
        clear hK K
        refine ym (some 65) ?_
        refine two_ (i:=6) (j:=10) (Ni:=some 68) (Nj:=some 14) #[true,true,true,true,true,true,true,false,false,false,false,false,false] #[true,true,true,true,true,true,false,false,false,false,true,false,false] rfl rfl rfl rfl (two_of HT_.out (by kernel_rfl)) (by decide) (by decide) (fun K hK => ?_) (fun K hK => ?_)
        ·
         skip
         refine ygs Try.func58 #[.agg #[.int .u64 aU, .int .u64 aV, .slice cF aC.length cG, .int .i64 aW], .slice fL bG.length fM, .bool (decide (aX > 0))] ?_
         with_reducible refine (r11_Take.calls k2 aU aV (fun k_=>(some k_≠(ay : Value).ownBlock∧(k_≠ao∧(k_≠aj∧k_≠ap)))) _ _ aC aW _ _ bG (decide (aX > 0)) bO bP bH bQ bR _ ?bu ?cg ?cT A41.out).mono ?_
         (case bu=>exact ac.out)
         (case cg=>exact yce (zR aQ.out).2.2)
         (case cT=>exact (zR aQ.out).2.1)
         rintro e w47 ⟨cM,bC,rfl,ho0,ho1,hb⟩
         refine ⟨_,rfl, ?_⟩
         replace ac:=zm (za7 (yr ac) (zW ho1) hb)
         replace aQ:=zm (za7 (yr aQ) (zW ho1) hb)
         have bv:=yho (fun k_=>some k_≠(bC : Value).ownBlock∧some k_≠(ay : Value).ownBlock∧k_≠ao∧k_≠aj∧k_≠ap) ho0 (fun k_ hk_=>⟨hk_.2,Or.elim hk_.1 (fun hs_=>hs_.1) (fun hn_=>(zc2 (Kd.S_lt (yr aa)) k_ hn_)),Or.elim hk_.1 (fun hs_=>hs_.2.1) (fun hn_=>(Kd.freshB (yk af) k_ hn_)),Or.elim hk_.1 (fun hs_=>hs_.2.2.1) (fun hn_=>(Kd.freshB (yk ag) k_ hn_)),Or.elim hk_.1 (fun hs_=>hs_.2.2.2) (fun hn_=>(Kd.freshB (yk ah) k_ hn_))⟩)
         replace aa:=zm (za8 (yr aa) (zW ho1) hb)
         have bw:=zm (za0 (zG (ok' := fun k_=>True) ho1 (fun _ hk_=>trivial)) (zE yhb))
         replace af:=ybb af hb
         replace ag:=ybb ag hb
         replace ah:=ybb ah hb
         replace HB:=ybs hb
         (try clear hb)
         (try clear ho0)
         (try clear ho1)
         refine hK.out _ _ yH (fun hHeld => ?_)
         clear hK K
         refine ym (some 68) ?_
         refine yp 7 61 HT_ ?_
         refine yp 8 69 HT_ ?_
         refine yp 9 70 HT_ ?_
         refine yw 10 14 HT_ (fun K hK => ?_)
         refine box_step ?hg (N:=14) ?hd (cs := #[.int .u64 0, .int .u64 0, .slice none 0 0, .int .i64 0]) (t:=95) ?hr ?_;(case hd=>rfl);(case hg=>rfl);(case hr=>first|(go_simp;done)|(go_simp;rfl))
         intro aT hg w48 hbox hb
         replace ac:=yVe ac hg hb
         replace aa:=ySb aa hb
         replace aQ:=yVe aQ hg hb
         replace bv:=yVe bv hg hb
         replace bw:=yRb bw hb
         have aK:=zm (hbox)
         have ck:=ygw hg
         have cl:=ygw hg
         replace HB:=ybs hb
         have a7:=ynl af hg
         have a8:=yng af hg
         replace af:=ybb af hb
         have a9:=ynl ag hg
         have ba:=yng ag hg
         replace ag:=ybb ag hb
         have bb:=ynl ah hg
         have bc:=yng ah hg
         replace ah:=ybb ah hb
         clear hb hbox hg
         refine hK.out _ _ yH (fun hHeld => ?_)
         clear hK K
         refine ym (some 14) ?_
         exact norm_ (by simp only [putAll,Act.put,za9,zb0,zb1]) (hCont (.slice fL bG.length fM,cM,bC,aT) _ ⟨hHeld,(yV0 aQ),(yV0 bv),(yr bw),(yV0 ac),(yS0 aa),(yk af),(yk ag),(yk ah),(yk aK),ck.out,cl.out,a7.out,a8.out,a9.out,ba.out,bb.out,bc.out,yhb⟩)
        skip
        refine box_step ?hg (N:=14) ?hd (cs := #[.int .u64 0, .int .u64 0, .slice none 0 0, .int .i64 0]) (t:=95) ?hr ?_;(case hd=>rfl);(case hg=>rfl);(case hr=>first|(go_simp;done)|(go_simp;rfl))
        intro aT hg w46 hbox hb
        replace ac:=yVe ac hg hb
        replace aa:=ySb aa hb
        replace aQ:=yVe aQ hg hb
        have aK:=zm (hbox)
        have ck:=ygw hg
        have cl:=ygw hg
        replace HB:=ybs hb
        have a7:=ynl af hg
        have a8:=yng af hg
        replace af:=ybb af hb
        have a9:=ynl ag hg
        have ba:=yng ag hg
        replace ag:=ybb ag hb
        have bb:=ynl ah hg
        have bc:=yng ah hg
        replace ah:=ybb ah hb
        clear hb hbox hg
        obtain ⟨dv,dw,dx⟩:=zU aQ.out
        (first|subst dx|(injection dx with f1_ f2_ f3_;have f4_:=f1_.symm;have f5_:=f3_.symm;clear f1_ f2_ f3_;subst f4_;subst f5_))
        refine hK.out _ _ yH (fun hHeld => ?_)
        clear hK K
        refine ym (some 14) ?_
        refine yw 6 68 HT_ (fun K hK => ?_)
        refine ygs Try.func58 #[.agg #[.int .u64 aU, .int .u64 aV, .slice cF aC.length cG, .int .i64 aW], .slice dv bG.length dw, .bool (decide (aX > 0))] ?_
        with_reducible refine (r11_Take.calls k2 aU aV (fun k_=>((some k_≠(ay : Value).ownBlock∧(k_≠ao∧(k_≠aj∧k_≠ap)))∧k_≠aT)) _ _ aC aW _ _ bG (decide (aX > 0)) bO bP bH bQ bR _ ?bu ?cg ?cT A41.out).mono ?_
        (case bu=>exact ac.out)
        (case cg=>exact yce (zR aQ.out).2.2)
        (case cT=>exact (zR aQ.out).2.1)
        rintro e w48 ⟨cM,bC,rfl,ho0,ho1,hb⟩
        refine ⟨_,rfl, ?_⟩
        replace ac:=zm (za7 (yr ac) (zW ho1) hb)
        replace aQ:=zm (za7 (yr aQ) (zW ho1) hb)
        have bv:=yho (fun k_=>some k_≠(bC : Value).ownBlock∧some k_≠(ay : Value).ownBlock∧k_≠ao∧k_≠aj∧k_≠ap∧k_≠aT) ho0 (fun k_ hk_=>⟨hk_.2,Or.elim hk_.1 (fun hs_=>hs_.1.1) (fun hn_=>(zc2 (Kd.S_lt (yr aa)) k_ hn_)),Or.elim hk_.1 (fun hs_=>hs_.1.2.1) (fun hn_=>(Kd.freshB (yk af) k_ hn_)),Or.elim hk_.1 (fun hs_=>hs_.1.2.2.1) (fun hn_=>(Kd.freshB (yk ag) k_ hn_)),Or.elim hk_.1 (fun hs_=>hs_.1.2.2.2) (fun hn_=>(Kd.freshB (yk ah) k_ hn_)),Or.elim hk_.1 (fun hs_=>hs_.2) (fun hn_=>(Kd.freshB (yk aK) k_ hn_))⟩)
        replace aa:=zm (za8 (yr aa) (zW ho1) hb)
        have bw:=zm (za0 (zG (ok' := fun k_=>True) ho1 (fun _ hk_=>trivial)) (zE yhb))
        replace af:=ybb af hb
        replace ag:=ybb ag hb
        replace ah:=ybb ah hb
        replace aK:=ybb aK hb
        replace HB:=ybs hb
        (try clear hb)
        (try clear ho0)
        (try clear ho1)
        refine hK.out _ _ yH (fun hHeld => ?_)
        clear hK K
        refine ym (some 68) ?_
        refine yp 7 61 HT_ ?_
        refine yp 8 69 HT_ ?_
        refine yp 9 70 HT_ ?_
        exact norm_ (by simp only [putAll,Act.put,za9,zb0,zb1]) (hCont (.slice dv bG.length dw,cM,bC,aT) _ ⟨hHeld,(yV0 aQ),(yr bv),(yr bw),(yV0 ac),(yS0 aa),(yk af),(yk ag),(yk ah),(yk aK),ck.out,cl.out,a7.out,a8.out,a9.out,ba.out,bb.out,bc.out,yhb⟩)
       skip
       refine box_step ?hg (N:=14) ?hd (cs := #[.int .u64 0, .int .u64 0, .slice none 0 0, .int .i64 0]) (t:=95) ?hr ?_;(case hd=>rfl);(case hg=>rfl);(case hr=>first|(go_simp;done)|(go_simp;rfl))
       intro aT hg w45 hbox hb
       replace ac:=yVe ac hg hb
       replace aa:=ySb aa hb
       have aK:=zm (hbox)
       have ck:=ygw hg
       have cl:=ygw hg
       replace HB:=ybs hb
       have a7:=ynl af hg
       have a8:=yng af hg
       replace af:=ybb af hb
       have a9:=ynl ag hg
       have ba:=yng ag hg
       replace ag:=ybb ag hb
       have bb:=ynl ah hg
       have bc:=yng ah hg
       replace ah:=ybb ah hb
       clear hb hbox hg
       refine hK.out _ _ yH (fun hHeld => ?_)
       clear hK K
       refine ym (some 14) ?_
       refine yw 3 65 HT_ (fun K hK => ?_)
       refine ygs Try.func39 #[.slice A3 l3.length c3, .int .i64 ch] ?_
       with_reducible refine (r13_At.calls (fun k_=>k_ < w.heap.size) _ _ l3 ch bG _ ?bu A40.out).mono ?_
       (case bu=>exact Kd.V_mk HC3.out (Kd.F_below (Kd.C_F (Kd.heap_slice 3 (Kd.heap_int .i64)) HR3.out) yhb))
       rintro e w46 ⟨dj,rfl,ho0,hb⟩
       refine ⟨_,rfl, ?_⟩
       replace ac:=yVb ac hb
       have aQ:=yho (fun k_=>some k_≠(ay : Value).ownBlock∧k_≠ao∧k_≠aj∧k_≠ap∧k_≠aT) ho0 (fun k_ hk_=>⟨yoS aa hk_,yoB af hk_,yoB ag hk_,yoB ah hk_,yoB aK hk_⟩)
       replace aa:=ySb aa hb
       replace af:=ybb af hb
       replace ag:=ybb ag hb
       replace ah:=ybb ah hb
       replace aK:=ybb aK hb
       replace HB:=ybs hb
       (try clear hb)
       (try clear ho0)
       obtain ⟨dv,dw,dx⟩:=zU aQ.out
       (first|subst dx|(injection dx with f1_ f2_ f3_;have f4_:=f1_.symm;have f5_:=f3_.symm;clear f1_ f2_ f3_;subst f4_;subst f5_))
       refine hK.out _ _ yH (fun hHeld => ?_)
       clear hK K
       refine ym (some 65) ?_
       refine yw 6 68 HT_ (fun K hK => ?_)
       refine ygs Try.func58 #[.agg #[.int .u64 aU, .int .u64 aV, .slice cF aC.length cG, .int .i64 aW], .slice dv bG.length dw, .bool (decide (aX > 0))] ?_
       with_reducible refine (r11_Take.calls k2 aU aV (fun k_=>((some k_≠(ay : Value).ownBlock∧(k_≠ao∧(k_≠aj∧k_≠ap)))∧k_≠aT)) _ _ aC aW _ _ bG (decide (aX > 0)) bO bP bH bQ bR _ ?bu ?cg ?cT A41.out).mono ?_
       (case bu=>exact ac.out)
       (case cg=>exact yce (zR aQ.out).2.2)
       (case cT=>exact (zR aQ.out).2.1)
       rintro e w48 ⟨cM,bC,rfl,ho0,ho1,hb⟩
       refine ⟨_,rfl, ?_⟩
       replace ac:=zm (za7 (yr ac) (zW ho1) hb)
       replace aQ:=zm (za7 (yr aQ) (zW ho1) hb)
       have bv:=yho (fun k_=>some k_≠(bC : Value).ownBlock∧some k_≠(ay : Value).ownBlock∧k_≠ao∧k_≠aj∧k_≠ap∧k_≠aT) ho0 (fun k_ hk_=>⟨hk_.2,Or.elim hk_.1 (fun hs_=>hs_.1.1) (fun hn_=>(zc2 (Kd.S_lt (yr aa)) k_ hn_)),Or.elim hk_.1 (fun hs_=>hs_.1.2.1) (fun hn_=>(Kd.freshB (yk af) k_ hn_)),Or.elim hk_.1 (fun hs_=>hs_.1.2.2.1) (fun hn_=>(Kd.freshB (yk ag) k_ hn_)),Or.elim hk_.1 (fun hs_=>hs_.1.2.2.2) (fun hn_=>(Kd.freshB (yk ah) k_ hn_)),Or.elim hk_.1 (fun hs_=>hs_.2) (fun hn_=>(Kd.freshB (yk aK) k_ hn_))⟩)
       replace aa:=zm (za8 (yr aa) (zW ho1) hb)
       have bw:=zm (za0 (zG (ok' := fun k_=>True) ho1 (fun _ hk_=>trivial)) (zE yhb))
       replace af:=ybb af hb
       replace ag:=ybb ag hb
       replace ah:=ybb ah hb
       replace aK:=ybb aK hb
       replace HB:=ybs hb
       (try clear hb)
       (try clear ho0)
       (try clear ho1)
       refine hK.out _ _ yH (fun hHeld => ?_)
       clear hK K
       refine ym (some 68) ?_
       refine yp 7 61 HT_ ?_
       refine yp 8 69 HT_ ?_
       refine yp 9 70 HT_ ?_
       exact norm_ (by simp only [putAll,Act.put,za9,zb0,zb1]) (hCont (.slice dv bG.length dw,cM,bC,aT) _ ⟨hHeld,(yV0 aQ),(yr bv),(yr bw),(yV0 ac),(yS0 aa),(yk af),(yk ag),(yk ah),(yk aK),ck.out,cl.out,a7.out,a8.out,a9.out,ba.out,bb.out,bc.out,yhb⟩)
      rintro ⟨dj,cM,bC,aT⟩ w49 hS_
      try dsimp only at hS_
      obtain ⟨hS_,h0_,h1_,h2_,h3_,h4_,h5_,h6_,h7_,h8_,h9_,dy,dz,dA,dB,dC,dD,dE,dF⟩:=hS_
      have n0_:=zm h0_;have n1_:=zm h1_;have n2_:=zm h2_;have n3_:=zm h3_;have n4_:=zm h4_;have n5_:=zm h5_;have n6_:=zm h6_;have n7_:=zm h7_;have n8_:=zm h8_;have n9_:=zm h9_;have dG:=zm dy;have dH:=zm dz;have dI:=zm dA;have dJ:=zm dB;have dK:=zm dC;have dL:=zm dD;have dM:=zm dE;have dN:=zm dF;clear ac aa af ag ah HB h0_ h1_ h2_ h3_ h4_ h5_ h6_ h7_ h8_ h9_ dy dz dA dB dC dD dE dF;have aQ:=n0_;have bv:=n1_;have bw:=n2_;have ac:=n3_;have aa:=n4_;have af:=n5_;have ag:=n6_;have ah:=n7_;have aK:=n8_;have ck:=n9_;have cl:=dG;have a7:=dH;have a8:=dI;have a9:=dJ;have ba:=dK;have bb:=dL;have bc:=dM;have HB:=dN;clear n0_ n1_ n2_ n3_ n4_ n5_ n6_ n7_ n8_ n9_ dG dH dI dJ dK dL dM dN
      have hHeld:=hS_
      obtain ⟨cU,cV,fO⟩:=zU bv.out
      (first|subst fO|(injection fO with f1_ f2_ f3_;have f4_:=f1_.symm;have f5_:=f3_.symm;clear f1_ f2_ f3_;subst f4_;subst f5_))
      refine norm_ (a' := ?_) ?_ ?_
      rotate_left
      ·
       simp only [putAll,Act.put,za9,zb0,zb1]
       rfl
      refine yv 11 HT_ (fun K hK => ?_)
      have im : w49.cell? ⟨aT,0,none⟩=some (.int .u64 0):=(zs aK.out 0).trans rfl
      have hfs50:=zx aK.out 0
      have:=a7.out
      have:=a9.out
      have:=bb.out
      have:=a8.out
      have:=ba.out
      have:=bc.out
      have io : w49.cell? ⟨aT,1,none⟩=some (.int .u64 0):=(zs aK.out 1).trans rfl
      have hfs51:=zx aK.out 1
      have:=a7.out
      have:=a9.out
      have:=bb.out
      have:=a8.out
      have:=ba.out
      have:=bc.out
      have ip : w49.cell? ⟨aT,2,none⟩=some (.slice none 0 0):=(zs aK.out 2).trans rfl
      have hfs53:=zx aK.out 2
      have:=a7.out
      have:=a9.out
      have:=bb.out
      have:=a8.out
      have:=ba.out
      have:=bc.out
      have iq : w49.cell? ⟨aT,3,none⟩=some (.int .i64 0):=(zs aK.out 3).trans rfl
      have hfs54:=zx aK.out 3
      have:=a7.out
      have:=a9.out
      have:=bb.out
      have:=a8.out
      have:=ba.out
      have:=bc.out
      refine skip_ (w1 := ?_) (by rfl) rfl ?_ ?_
      rotate_left
      ·
       go_simp
       rfl
      refine hK.out _ _ yH (fun hHeld => ?_)
      clear hK K
      refine yp 12 15 HT_ ?_
      refine done_ (done_of HT_.out (by kernel_rfl)) ?_
      obtain ⟨w55,hw_⟩ : ∃ x,x=((((w49.setCell ⟨aT,0,none⟩ (.int .u64 bO)).setCell ⟨aT,1,none⟩ (.int .u64 bP)).setCell ⟨aT,2,none⟩ (.slice cU bH.length cV)).setCell ⟨aT,3,none⟩ (.int .i64 bQ)):=⟨_,rfl⟩
      rw [← hw_]
      replace ac : Aside0 (Kd.V (Kd.int .u8) 5 w55 w.heap.size (fun k_=>some k_≠(ay : Value).ownBlock∧some k_≠(bC : Value).ownBlock∧k_≠ao∧k_≠aj∧k_≠ap∧k_≠aT) (.slice cF aC.length cG) aC):=⟨by rw [hw_];exact (yV0 ac)⟩
      replace aa : Aside0 (Kd.S (Kd.slice 3 (Kd.int .i64)) 49 w55 w.heap.size (fun k_=>some k_≠(bC : Value).ownBlock) ay ae):=⟨by rw [hw_];exact (yS1 aa aK)⟩
      replace aQ : Aside0 (Kd.V (Kd.int .i64) 3 w55 w.heap.size (fun k_=>some k_≠(ay : Value).ownBlock∧some k_≠(bC : Value).ownBlock∧k_≠ao∧k_≠aj∧k_≠ap∧k_≠aT) dj bG):=⟨by rw [hw_];exact (yV0 aQ)⟩
      replace bv : Aside0 (Kd.V (Kd.int .u8) 5 w55 w.heap.size (fun k_=>some k_≠(ay : Value).ownBlock∧some k_≠(bC : Value).ownBlock∧k_≠ao∧k_≠aj∧k_≠ap∧k_≠aT) (.slice cU bH.length cV) bH):=⟨by rw [hw_];exact (yV0 bv)⟩
      replace bw : Aside0 (Kd.R (Kd.int .i64) 3 w55 w.heap.size (fun _=>True) bC bR):=⟨by rw [hw_];exact (yR1 bw aK)⟩
      replace af : Aside0 (w55.heap[ao]? = some (.cells #[.bool false, .slice none 0 0, .slice none 0 0] 33 (0,0))):=⟨by rw [hw_];exact (yk af)⟩
      replace ag : Aside0 (w55.heap[aj]? = some (.cells #[.int .u64 aU, .int .u64 aV, .slice cF aC.length cG, .int .i64 aW] 95 (0,0))):=⟨by rw [hw_];exact (yk ag)⟩
      replace ah : Aside0 (w55.heap[ap]? = some (.cells #[.bool (decide (aX > 0)),ay, .slice none 0 0] 33 (0,0))):=⟨by rw [hw_];exact (yk ah)⟩
      replace aK : Aside0 (w55.heap[aT]? = some (.cells #[.int .u64 bO, .int .u64 bP, .slice cU bH.length cV, .int .i64 bQ] 95 (0,0))):=⟨by rw [hw_];exact (ykp aK)⟩
      replace HB : Aside0 (Below w.heap.size w w55):=⟨by rw [hw_];exact (yhb)⟩
      clear hw_
      have:=a8.out
      have:=a7.out
      have:=ba.out
      have:=a9.out
      have:=bc.out
      have:=bb.out
      obtain ⟨eF,eG,eH,eI,eJ,eK,eL,eM⟩:=yc4 aK
      have:=bE.out
      have:=bD.out
      have:=bo.out
      have:=bp.out
      obtain ⟨eN,eO,eP,eQ,eR,eS,eT,eU⟩:=yc4 ag
      try go_wp2_with (first|((with_reducible refine zb8 (t:=95) (p:=10) rfl ?_);refine za2 (t:=95) (p:=10) (v := ?vo_w63) (w1:=((((w55.setCell ⟨aj,0,none⟩ (.int .u64 bO)).setCell ⟨aj,1,none⟩ (.int .u64 bP)).setCell ⟨aj,2,none⟩ (.slice cU bH.length cV)).setCell ⟨aj,3,none⟩ (.int .i64 bQ))) ?hg ?ho ?hn ?hr ?_;(case ho=>rfl);(case hg=>rfl);(case hn=>rfl);(case hr=>first|(go_simp;done)|(go_simp;rfl));intro w63 hw;replace ac : Aside0 (Kd.V (Kd.int .u8) 5 w63 w.heap.size (fun k_=>some k_≠(ay : Value).ownBlock∧some k_≠(bC : Value).ownBlock∧k_≠ao∧k_≠aj∧k_≠ap∧k_≠aT) (.slice cF aC.length cG) aC):=⟨(by rw [hw];exact (yV0 ac))⟩;replace aa : Aside0 (Kd.S (Kd.slice 3 (Kd.int .i64)) 49 w63 w.heap.size (fun k_=>some k_≠(bC : Value).ownBlock) ay ae):=⟨(by rw [hw];exact (yS1 aa ag))⟩;replace aQ : Aside0 (Kd.V (Kd.int .i64) 3 w63 w.heap.size (fun k_=>some k_≠(ay : Value).ownBlock∧some k_≠(bC : Value).ownBlock∧k_≠ao∧k_≠aj∧k_≠ap∧k_≠aT) dj bG):=⟨(by rw [hw];exact (yV0 aQ))⟩;replace bv : Aside0 (Kd.V (Kd.int .u8) 5 w63 w.heap.size (fun k_=>some k_≠(ay : Value).ownBlock∧some k_≠(bC : Value).ownBlock∧k_≠ao∧k_≠aj∧k_≠ap∧k_≠aT) (.slice cU bH.length cV) bH):=⟨(by rw [hw];exact (yV0 bv))⟩;replace bw : Aside0 (Kd.R (Kd.int .i64) 3 w63 w.heap.size (fun _=>True) bC bR):=⟨(by rw [hw];exact (yR1 bw ag))⟩;replace af : Aside0 (w63.heap[ao]? = some (.cells #[.bool false, .slice none 0 0, .slice none 0 0] 33 (0,0))):=⟨(by rw [hw];exact (yk af))⟩;replace ag : Aside0 (w63.heap[aj]? = some (.cells #[.int .u64 bO, .int .u64 bP, .slice cU bH.length cV, .int .i64 bQ] 95 (0,0))):=⟨(by rw [hw];exact (ykp ag))⟩;replace ah : Aside0 (w63.heap[ap]? = some (.cells #[.bool (decide (aX > 0)),ay, .slice none 0 0] 33 (0,0))):=⟨(by rw [hw];exact (yk ah))⟩;replace aK : Aside0 (w63.heap[aT]? = some (.cells #[.int .u64 bO, .int .u64 bP, .slice cU bH.length cV, .int .i64 bQ] 95 (0,0))):=⟨(by rw [hw];exact (yk aK))⟩;replace HB : Aside0 (Below w.heap.size w w63):=⟨(by rw [hw];exact yhb)⟩;clear hw;have:=bn.out;have:=bm.out;obtain ⟨eV,eW,eX,eY,eZ,e7⟩:=yc3 ah;obtain ⟨dO,dP,gO⟩:=zT bw.out;subst gO)|((with_reducible refine zb9 (b:=.append) (xs := #[.tmp 73, .tmp 75]) rfl ?_);at_builtin;refine Kd.S_append (Kd.slice 3 (Kd.int .i64)) (w0:=w) w.heap.size rfl (.tmp 73) (.tmp 75) 22 49 (.slice none 0 0) 24 rfl Try.underlying22 info49 rfl (by decide) (by omega) ay ae bR [.slice dO bR.length dP] (fun _=>True) (fun k_=>some k_=(.slice dO bR.length dP : Value).ownBlock) rfl rfl ?aP ?aQ ?aF ?aO ?aB ?aS ?aL ?_;(case aQ=>exact (fun k_ hk_=>((zG (ok' := fun k_=>((fun _=>True)) k_∧some k_≠(ay : Value).ownBlock) (zZ (bw.out) (Kd.S_typed aa.out) (by decide)) (fun k_ hk=>⟨trivial,hk.2⟩))).1 k_ hk_.symm));(case aP=>exact Kd.M_row (zG (Kd.R_tight rfl (zG (ok' := fun k_=>((fun _=>True)) k_∧some k_≠(ay : Value).ownBlock) (zZ (bw.out) (Kd.S_typed aa.out) (by decide)) (fun k_ hk=>⟨trivial,hk.2⟩))) (fun _ h_=>h_)));(case aB=>exact yhb);(case aF=>exact (fun _ _=>trivial));(case aO=>exact (yS0 aa));(case aS=>exact (zE yhb));(case aL=>have:=LMc42.out;omega);intro g6 w66 ho hb hg hat;rw [← fw.out] at ho;replace ac:=zm (zc1 (ok:=(fun k_=>some k_≠(.slice dO bR.length dP : Value).ownBlock∧k_≠ao∧k_≠aj∧k_≠ap∧k_≠aT)) (yV0 ac) hg hat);replace af:=zm (zc3 (yk af) hg (Kd.S_ne aa.out af.out (by decide)));replace ag:=zm (zc3 (yk ag) hg (Kd.S_ne aa.out ag.out (by decide)));replace ah:=zm (zc3 (yk ah) hg (Kd.S_ne aa.out ah.out (by decide)));replace aQ:=zm (zc1 (ok:=(fun k_=>some k_≠(.slice dO bR.length dP : Value).ownBlock∧k_≠ao∧k_≠aj∧k_≠ap∧k_≠aT)) (yV0 aQ) hg hat);replace bv:=zm (zc1 (ok:=(fun k_=>some k_≠(.slice dO bR.length dP : Value).ownBlock∧k_≠ao∧k_≠aj∧k_≠ap∧k_≠aT)) (yV0 bv) hg hat);replace aK:=zm (zc3 (yk aK) hg (Kd.S_ne aa.out aK.out (by decide)));replace HB:=zm (hb);have dQ:=zm (ho);clear aa;clear bw;clear ho hb hg hat;obtain ⟨gP,gQ,gR⟩:=zV dQ.out;subst gR;obtain ⟨e8,e9,fa,fb,fc,fd⟩:=yc3 ah))
      go_roundg k2
      case measure=>exact yom2 cS HK2
      case rel=>exact ⟨(wrap64 (ch+1)),(bO),(bP),(bH),(bQ),(du),(.slice cU bH.length cV),(.slice gP du.length gQ),yq,H',⟨yom2 cS HK2⟩,⟨yV0 bv⟩,⟨yS1 dQ ah⟩,⟨yk af⟩,⟨yk ag⟩,⟨ykp ah⟩,⟨yhb⟩⟩
     replace H:=ybi H;obtain ⟨am,A70,H⟩:=H
     have H' := zm H
     clear H
     have:=bn.out
     have:=bm.out
     have:=bp.out
     have:=bo.out
     obtain ⟨fe,ff,fg,fh,fi,fj⟩:=yc3 ah
     obtain ⟨aM,aN,gS⟩:=zV aa.out
     subst gS
     go_wp2_with (first|((with_reducible refine zK (f:=45) rfl ?_);refine ygl 82 Try.func45 #[.int .i64 a0, .int .i64 a1, .slice aM ae.length aN] ?_;(with_reducible refine (r12_Pulses.calls k2 a0 a1 _ _ ae am _ ?bu ?cg A70.out).mono ?_);(case bu=>exact yce (zS aa.out).2.2);(case cg=>exact (zS aa.out).2.1);rintro e w75 ⟨bZ,rfl,ho0,hb⟩;refine ⟨_,rfl, ?_⟩;replace ac:=zm (za7 (yr ac) (Kd.S_base ho0) hb);have fx:=zm (Kd.S_lower (Kd.S_new' ho0 (Kd.S_lt (yr aa))) (zE yhb));replace aa:=zm (za8 (yr aa) (Kd.S_base ho0) hb);replace af:=ybb af hb;replace ag:=ybb ag hb;replace ah:=ybb ah hb;replace HB:=ybs hb;(try clear hb);(try clear ho0)))
     go_loopg [17] k2 (fun kq v17 w' => ∃ (aJ : Int) (bV : Int) (bW : Int) (bX : List Int) (bY : Int) (aZ : List (List (List Int))) (bj : Value) (aA : Value),v17=.int .i64 aJ∧Aside0 (r13_Read.l1 kq a1 am aJ bV bW bX bY (decide (aX > 0)) ae aZ=some (r1,r2,r3,r4))∧Aside0 (kq≤k2)∧Aside0 (Kd.S (Kd.slice 3 (Kd.int .i64)) 49 w' w.heap.size (fun k_=>some k_≠((.slice aM ae.length aN) : Value).ownBlock) bZ am)∧Aside0 (Kd.V (Kd.int .u8) 5 w' w.heap.size (fun k_=>some k_≠(bZ : Value).ownBlock∧some k_≠((.slice aM ae.length aN) : Value).ownBlock∧some k_≠(aA : Value).ownBlock∧k_≠ao∧k_≠aj∧k_≠ap) bj bX)∧Aside0 (Kd.S (Kd.slice 3 (Kd.int .i64)) 49 w' w.heap.size (fun k_=>some k_≠(bZ : Value).ownBlock) (.slice aM ae.length aN) ae)∧Aside0 (Kd.R (Kd.slice 49 (Kd.slice 3 (Kd.int .i64))) 22 w' w.heap.size (fun k_=>some k_≠(bZ : Value).ownBlock∧some k_≠((.slice aM ae.length aN) : Value).ownBlock) aA aZ)∧Aside0 (w'.heap[ao]? = some (.cells #[.bool false,(.slice none 0 0),(.slice none 0 0)] 33 (0,0)))∧Aside0 (w'.heap[aj]? = some (.cells #[.int .u64 bV, .int .u64 bW,bj, .int .i64 bY] 95 (0,0)))∧Aside0 (w'.heap[ap]? = some (.cells #[.bool (decide (aX > 0)),(.slice aM ae.length aN),aA] 33 (0,0)))∧Aside0 (Below w.heap.size w w'))
     case atStart=>exact ⟨(0),(aU),(aV),(aC),(aW),(([] : List (List (List Int)))),(bj),(.slice none 0 0),yq,H',⟨zX _⟩,⟨yS0 fx⟩,⟨yV0 ac⟩,⟨yS0 aa⟩,⟨yn⟩,⟨yk af⟩,⟨yk ag⟩,⟨yk ah⟩,⟨yhb⟩⟩
     case round =>
      clear H'
      try clear fl
      try clear eF
      try clear eG
      try clear eH
      try clear eI
      try clear eN
      try clear eO
      try clear eP
      try clear eQ
      try clear eV
      try clear eW
      try clear eX
      try clear e8
      try clear e9
      try clear fa
      try clear fe
      try clear ff
      try clear fg
      try clear eJ
      try clear eK
      try clear eL
      try clear eM
      try clear eR
      try clear eS
      try clear eT
      try clear eU
      try clear eY
      try clear eZ
      try clear e7
      try clear fb
      try clear fc
      try clear fd
      try clear fh
      try clear fi
      try clear fj
      obtain ⟨aJ,bV,bW,bX,bY,aZ,bj,aA,rfl,HA,HK3,au,ac,aa,ai,af,ag,ah,HB⟩:=hrel
      obtain ⟨k3,rfl⟩:=ysu gk (fun h=>by subst h;exact absurd HA.out (by simp [r13_Read.l1]))
      have H:=HA.out;clear HA
      simp only [r13_Read.l1] at H
      replace H:=yId H
      obtain ⟨fm,H⟩ | ⟨fm,H⟩:=H
      ·
       have H' := zm H
       clear H
       go_wp2
       go_loopg [18,19] k3 (fun kq v18 v19 w' => ∃ (bM : List (List Int)) (bk : Int) (aG : Int) (aH : Int) (az : List Int) (aI : Int) (bj : Value),v19=.int .i64 bk∧Aside0 (r13_Read.l2 kq a1 am aJ bM bk aG aH az aI (decide (aX > 0)) ae aZ=some (r1,r2,r3,r4))∧Aside0 (kq≤k3)∧Aside0 (Kd.S (Kd.slice 3 (Kd.int .i64)) 49 w' w.heap.size (fun k_=>some k_≠(v18 : Value).ownBlock∧some k_≠((.slice aM ae.length aN) : Value).ownBlock) bZ am)∧Aside0 (Kd.S (Kd.slice 3 (Kd.int .i64)) 49 w' w.heap.size (fun k_=>some k_≠(bZ : Value).ownBlock∧some k_≠((.slice aM ae.length aN) : Value).ownBlock) v18 bM)∧Aside0 (Kd.V (Kd.int .u8) 5 w' w.heap.size (fun k_=>some k_≠(bZ : Value).ownBlock∧some k_≠(v18 : Value).ownBlock∧some k_≠((.slice aM ae.length aN) : Value).ownBlock∧some k_≠(aA : Value).ownBlock∧k_≠ao∧k_≠aj∧k_≠ap) bj az)∧Aside0 (Kd.S (Kd.slice 3 (Kd.int .i64)) 49 w' w.heap.size (fun k_=>some k_≠(bZ : Value).ownBlock∧some k_≠(v18 : Value).ownBlock) (.slice aM ae.length aN) ae)∧Aside0 (Kd.R (Kd.slice 49 (Kd.slice 3 (Kd.int .i64))) 22 w' w.heap.size (fun k_=>some k_≠(bZ : Value).ownBlock∧some k_≠(v18 : Value).ownBlock∧some k_≠((.slice aM ae.length aN) : Value).ownBlock) aA aZ)∧Aside0 (w'.heap[ao]? = some (.cells #[.bool false,(.slice none 0 0),(.slice none 0 0)] 33 (0,0)))∧Aside0 (w'.heap[aj]? = some (.cells #[.int .u64 aG, .int .u64 aH,bj, .int .i64 aI] 95 (0,0)))∧Aside0 (w'.heap[ap]? = some (.cells #[.bool (decide (aX > 0)),(.slice aM ae.length aN),aA] 33 (0,0)))∧Aside0 (Below w.heap.size w w'))
       case atStart=>exact ⟨(([] : List (List Int))),(0),(bV),(bW),(bX),(bY),(bj),yq,H',⟨zX _⟩,⟨yS0 au⟩,⟨yn⟩,⟨yV0 ac⟩,⟨yS0 aa⟩,⟨yR0 ai⟩,⟨yk af⟩,⟨yk ag⟩,⟨yk ah⟩,⟨yhb⟩⟩
       case round =>
        clear H'
        try clear fm
        obtain ⟨bM,bk,aG,aH,az,aI,bj,rfl,HA,HK4,au,aD,ac,aa,ai,af,ag,ah,HB⟩:=hrel
        obtain ⟨k4,rfl⟩:=ysu gk (fun h=>by subst h;exact absurd HA.out (by simp [r13_Read.l2]))
        have H:=HA.out;clear HA
        simp only [r13_Read.l2] at H
        replace H:=yId H
        obtain ⟨fP,H⟩ | ⟨fP,H⟩:=H
        ·
         replace H:=ybi H;obtain ⟨bL,A78,H⟩:=H
         replace H:=yif H;obtain ⟨c79,H⟩:=H
         have g7 : decide (0≤aJ)=true:=decide_eq_true c79
         clear c79
         replace H:=yif H;obtain ⟨c80,H⟩:=H
         have g8 : decide (aJ < (am.length : Int))=true:=decide_eq_true c80
         clear c80
         replace H:=yif H;obtain ⟨c81,H⟩:=H
         have g9 : decide (0≤bk)=true:=decide_eq_true c81
         clear c81
         replace H:=yif H;obtain ⟨c82,H⟩:=H
         have hD : decide (bk < ((rd_L1 am aJ).length : Int))=true:=decide_eq_true c82
         clear c82
         replace H:=yIs H
         obtain ⟨fQ,H⟩ | ⟨fQ,H⟩:=H
         ·
          replace H:=ybi H;obtain ⟨b4,A84,H⟩:=H
          replace H:=ybi H;obtain ⟨⟨bS,bT,bI,bU,cp⟩,A85,H⟩:=H
          try dsimp only at H
          replace H:=ybi H;obtain ⟨bK,A86,H⟩:=H
          replace H:=yif H;obtain ⟨c87,H⟩:=H
          have LMc87:=zm c87;clear c87
          obtain ⟨fo,dd⟩ : ∃ y_ : List (List Int),y_=(bM ++ [bK]):=⟨_,rfl⟩
          replace H : (r13_Read.l2 k4 a1 am aJ fo (wrap64 (bk+1)) bS bT bI bU (decide (aX > 0)) ae aZ)=some (r1,r2,r3,r4):=yrw dd H
          have fy:=zm dd;clear dd
          have H' := zm H
          clear H
          try go_wp2_with (first|((with_reducible refine zK (f:=46) rfl ?_);refine ygl 93 Try.func46 #[.int .i64 bk] ?_;(with_reducible refine (r10_Width.calls k4 bk bL _ A78.out).mono ?_);rintro e w' ⟨rfl,⟨nd,rfl⟩⟩;refine ⟨_,rfl, ?_⟩;(try (rw [drewN_self wr];generalize hq_ : World.drewN wr _=wr;replace ac:=yVq hq_ ac;replace aa:=ySq hq_ aa;replace ai:=yRq hq_ ai;replace au:=ySq hq_ au;replace aD:=ySq hq_ aD;replace af:=ykq hq_ af;replace ag:=ykq hq_ ag;replace ah:=ykq hq_ ah;replace HB:=ysq hq_;clear hq_));obtain ⟨ir,bl,gT⟩:=zV au.out;subst gT;obtain ⟨aw,fk,cu,dR,cW,dS,aE,av,fR,fS⟩:=ysl au.out aJ;cases dR;obtain ⟨cP,dT,dU,fT,fU⟩:=yai aE bk;cases dT;obtain ⟨cH,cI,gU⟩:=zU ac.out;subst gU))
          replace au:=zm (Kd.S_drew au.out)
          replace aD:=zm (Kd.S_drew aD.out)
          replace ac:=zm (zC ac.out)
          replace aa:=zm (Kd.S_drew aa.out)
          replace ai:=zm (zq ai.out)
          replace av:=zm (zq av.out)
          replace af:=zm (zj af.out)
          replace ag:=zm (zj ag.out)
          replace ah:=zm (zj ah.out)
          replace aE:=zm (Kd.C_drew aE.out)
          replace HB:=zm (zf HB.out)
          have dk : 0≤(aJ : Int):=yt
          have dl : aJ < (am.length : Int):=yt
          obtain ⟨fz,gC,ci,fV,cX,cY,cZ⟩:=at_L1 (zS au.out).2.2 aJ dk dl
          obtain rfl : aw=fz:=(by injection fV)
          obtain ⟨ce1049,hce1049,hMe1049,hcc1049⟩:=Kd.S_get au.out [] aJ dk (by first|exact dl|exact yt|(have e_:=(zS au.out).1;omega))
          obtain ⟨ve1049_0,rfl,ge1049_0⟩:=hMe1049
          have hv1049_0:=hcc1049 0 _ rfl
          rw [Nat.add_zero,show ((Kd.slice 3 (Kd.int .i64))).sz=1 from rfl,Nat.mul_one] at hv1049_0
          replace hv1049_0:=zO (hv1049_0.symm.trans cX)
          rw [hv1049_0] at ge1049_0
          have al:=zm (show Kd.R (Kd.int .i64) 3 _ _ _ _ (rd_L1 am aJ) from ge1049_0)
          clear hv1049_0 ge1049_0 hcc1049 hce1049;have aY:=zm cZ;have fW:=zm cY;clear cZ cY
          replace dk:=zP dk
          replace dl:=zP dl
          obtain ⟨cf,fX,dV,hH,hI⟩:=yai aY bk
          cases fX
          refine yst (fun w' => w'.cell? ⟨aj,0,none⟩=some (.int .u64 aG)∧w'.cell? ⟨aj,1,none⟩=some (.int .u64 aH)∧w'.cell? ⟨aj,2,none⟩=some (.slice cH az.length cI)∧w'.cell? ⟨aj,3,none⟩=some (.int .i64 aI)∧w'.cell? (aw.add (aJ).toNat)=some (.slice (some cf) (rd_L1 am aJ).length ci)∧w'.cell? (cf.add (bk).toNat)=some (.int .i64 (rd (rd_L1 am aJ) bk))) [] 17 r13_Read.tab28 r13_Read.bits28 (fun hHeld HT_ HW_ => ?_)
          generalize wr.drew=w90 at au aD ac aa ai av af ag ah aE HB al aY cX dV hHeld ⊢
          refine yp 1 104 HT_ ?_
          refine yp 2 105 HT_ ?_
          refine yp 3 106 HT_ ?_
          refine yp 4 107 HT_ ?_
          refine yp 6 109 HT_ ?_
          refine yl 0 103 HT_ HW_ hHeld ?_
          refine yl 5 108 HT_ HW_ hHeld ?_
          refine yp 7 110 HT_ ?_
          refine yl 8 111 HT_ HW_ hHeld ?_
          refine join_ (σ:=Value × Nat) 2 #[true,true,true,true,true,true,true,true,true,true,true,true,true,true,true,false,false] (fun s_ => [(112, .int .u64 b4),(113, .tuple #[.agg #[.int .u64 bS, .int .u64 bT,s_.1, .int .i64 bU], .int .u64 cp]),(22, .pointer (some ⟨s_.2,0,none⟩)),(102, .tuple #[.agg #[.int .u64 bS, .int .u64 bT,s_.1, .int .i64 bU], .int .u64 cp]),(114, .agg #[.int .u64 bS, .int .u64 bT,s_.1, .int .i64 bU]),(115, .int .u64 cp)]) (fun s_ w' => (w'.cell? ⟨aj,0,none⟩=some (.int .u64 aG)∧w'.cell? ⟨aj,1,none⟩=some (.int .u64 aH)∧w'.cell? ⟨aj,2,none⟩=some (.slice cH az.length cI)∧w'.cell? ⟨aj,3,none⟩=some (.int .i64 aI)∧w'.cell? (aw.add (aJ).toNat)=some (.slice (some cf) (rd_L1 am aJ).length ci)∧w'.cell? (cf.add (bk).toNat)=some (.int .i64 (rd (rd_L1 am aJ) bk)))∧(Kd.R (Kd.int .i64) 3 w' w.heap.size (fun k_=>some k_≠(.slice aM ae.length aN : Value).ownBlock∧some k_≠(.slice (some aw) am.length bl : Value).ownBlock∧some k_≠(u18 : Value).ownBlock) (.slice (some cP) (rd_L1 am aJ).length cu) (rd_L1 am aJ))∧(Kd.R (Kd.int .i64) 3 w' w.heap.size (fun k_=>some k_≠(.slice aM ae.length aN : Value).ownBlock∧some k_≠(.slice (some aw) am.length bl : Value).ownBlock∧some k_≠(u18 : Value).ownBlock) (.slice (some cf) (rd_L1 am aJ).length ci) (rd_L1 am aJ))∧(Kd.V (Kd.int .u8) 5 w' w.heap.size (fun k_=>some k_≠(.slice aM ae.length aN : Value).ownBlock∧some k_≠(aA : Value).ownBlock∧some k_≠(.slice (some aw) am.length bl : Value).ownBlock∧some k_≠(u18 : Value).ownBlock∧k_≠ao∧k_≠aj∧k_≠ap∧k_≠s_.2) s_.1 bI)∧(Kd.V (Kd.int .u8) 5 w' w.heap.size (fun k_=>some k_≠(.slice aM ae.length aN : Value).ownBlock∧some k_≠(aA : Value).ownBlock∧some k_≠(.slice (some aw) am.length bl : Value).ownBlock∧some k_≠(u18 : Value).ownBlock∧k_≠ao∧k_≠aj∧k_≠ap∧k_≠s_.2) (.slice cH az.length cI) az)∧(Kd.S (Kd.slice 3 (Kd.int .i64)) 49 w' w.heap.size (fun k_=>some k_≠(.slice (some aw) am.length bl : Value).ownBlock∧some k_≠(u18 : Value).ownBlock) (.slice aM ae.length aN) ae)∧(Kd.R (Kd.slice 49 (Kd.slice 3 (Kd.int .i64))) 22 w' w.heap.size (fun k_=>some k_≠(.slice aM ae.length aN : Value).ownBlock∧some k_≠(.slice (some aw) am.length bl : Value).ownBlock∧some k_≠(u18 : Value).ownBlock) aA aZ)∧(Kd.S (Kd.slice 3 (Kd.int .i64)) 49 w' w.heap.size (fun k_=>some k_≠(.slice aM ae.length aN : Value).ownBlock∧some k_≠(u18 : Value).ownBlock) (.slice (some aw) am.length bl) am)∧(Kd.S (Kd.slice 3 (Kd.int .i64)) 49 w' w.heap.size (fun k_=>some k_≠(.slice aM ae.length aN : Value).ownBlock∧some k_≠(.slice (some aw) am.length bl : Value).ownBlock) u18 bM)∧(w'.heap[ao]? = some (.cells #[.bool false, .slice none 0 0, .slice none 0 0] 33 (0,0)))∧(w'.heap[aj]? = some (.cells #[.int .u64 aG, .int .u64 aH, .slice cH az.length cI, .int .i64 aI] 95 (0,0)))∧(w'.heap[ap]? = some (.cells #[.bool (decide (aX > 0)), .slice aM ae.length aN,aA] 33 (0,0)))∧(w'.heap[s_.2]? = some (.cells #[.int .u64 0, .int .u64 0, .slice none 0 0, .int .i64 0] 95 (0,0)))∧(w.heap.size≤s_.2)∧(w.heap.size≤s_.2)∧(ao≠s_.2)∧(s_.2≠ao)∧(aj≠s_.2)∧(s_.2≠aj)∧(ap≠s_.2)∧(s_.2≠ap)∧(Below w.heap.size w w')) ?_ ?_
          rotate_left
          ·
           intro hCont
           refine two_ (i:=9) (j:=14) (Ni:=some 112) (Nj:=some 22) #[true,true,true,true,true,true,true,true,true,true,false,false,false,false,false,false,false] #[true,true,true,true,true,true,true,true,true,false,false,false,false,false,true,false,false] rfl rfl rfl rfl (two_of HT_.out (by kernel_rfl)) (by decide) (by decide) (fun K hK => ?_) (fun K hK => ?_)
           ·
            skip
            refine ygs Try.func43 #[.int .i64 bL, .int .i64 (rd (rd_L1 am aJ) bk)] ?_
            with_reducible refine (r06_Count.calls k4 bL (rd (rd_L1 am aJ) bk) b4 _ A84.out).mono ?_
            rintro e w91 ⟨rfl,hb⟩
            have de:=yhs hb hHeld.2.2.2.2.1
            have df:=yhs hb hHeld.2.2.2.2.2
            refine ⟨_,rfl, ?_⟩
            replace au:=ySb au hb
            replace aD:=ySb aD hb
            replace ac:=yVb ac hb
            replace aa:=ySb aa hb
            replace ai:=yRb ai hb
            replace av:=yRb av hb
            replace al:=yRb al hb
            replace af:=ybb af hb
            replace ag:=ybb ag hb
            replace ah:=ybb ah hb
            replace aE:=yCb aE hb
            replace aY:=yCb aY hb
            replace HB:=ybs hb
            (try clear hb)
            refine hK.out _ _ yH (fun hHeld => ?_)
            clear hK K
            refine ym (some 112) ?_
            refine two_ (i:=10) (j:=14) (Ni:=some 113) (Nj:=some 22) #[true,true,true,true,true,true,true,true,true,true,true,false,false,false,false,false,false] #[true,true,true,true,true,true,true,true,true,true,false,false,false,false,true,false,false] rfl rfl rfl rfl (two_of HT_.out (by kernel_rfl)) (by decide) (by decide) (fun K hK => ?_) (fun K hK => ?_)
            ·
             skip
             refine ygs Try.func59 #[.agg #[.int .u64 aG, .int .u64 aH, .slice cH az.length cI, .int .i64 aI], .int .u64 b4] ?_
             with_reducible refine (r05_TakeNum.calls k4 aG aH (fun k_=>(some k_≠(.slice (some aw) am.length bl : Value).ownBlock∧(some k_≠(u18 : Value).ownBlock∧(some k_≠(.slice aM ae.length aN : Value).ownBlock∧(some k_≠(aA : Value).ownBlock∧(k_≠ao∧(k_≠aj∧k_≠ap))))))) _ _ az aI b4 bS bT bI bU cp _ ?bu A85.out).mono ?_
             (case bu=>first|exact ac.out|exact zy ac.out (fun _ hk=>⟨hk.2.2.1,hk.2.2.2.1,hk.1,hk.2.1,hk.2.2.2.2⟩))
             rintro e w92 ⟨cN,rfl,ho0,hb⟩
             have de:=yhs hb hHeld.2.2.2.2.1
             have df:=yhs hb hHeld.2.2.2.2.2
             refine ⟨_,rfl, ?_⟩
             replace ac:=yVb ac hb
             replace av:=yRb av hb
             replace al:=yRb al hb
             have br:=yho (fun k_=>some k_≠(.slice (some aw) am.length bl : Value).ownBlock∧some k_≠(u18 : Value).ownBlock∧some k_≠(.slice aM ae.length aN : Value).ownBlock∧some k_≠(aA : Value).ownBlock∧k_≠ao∧k_≠aj∧k_≠ap) ho0 (fun k_ hk_=>⟨yoS au hk_,yoS aD hk_,yoS aa hk_,yoR ai hk_,yoB af hk_,yoB ag hk_,yoB ah hk_⟩)
             replace au:=ySb au hb
             replace aD:=ySb aD hb
             replace aa:=ySb aa hb
             replace ai:=yRb ai hb
             replace af:=ybb af hb
             replace ag:=ybb ag hb
             replace ah:=ybb ah hb
             replace aE:=yCb aE hb
             replace aY:=yCb aY hb
             replace HB:=ybs hb
             (try clear hb)
             (try clear ho0)
             refine hK.out _ _ yH (fun hHeld => ?_)
             clear hK K
             refine ym (some 113) ?_
             refine yp 11 102 HT_ ?_
             refine yp 12 114 HT_ ?_
             refine yp 13 115 HT_ ?_
             refine yw 14 22 HT_ (fun K hK => ?_)
             refine box_step ?hg (N:=22) ?hd (cs := #[.int .u64 0, .int .u64 0, .slice none 0 0, .int .i64 0]) (t:=95) ?hr ?_;(case hd=>rfl);(case hg=>rfl);(case hr=>first|(go_simp;done)|(go_simp;rfl))
             intro ax hg w93 hbox hb
             have de:=yhs hb hHeld.2.2.2.2.1
             have df:=yhs hb hHeld.2.2.2.2.2
             replace au:=ySb au hb
             replace aD:=ySb aD hb
             replace ac:=yVe ac hg hb
             replace aa:=ySb aa hb
             replace ai:=yRb ai hb
             replace av:=yRb av hb
             replace al:=yRb al hb
             replace br:=yVe br hg hb
             replace aE:=yCb aE hb
             replace aY:=yCb aY hb
             have ak:=zm (hbox)
             have cm:=ygw hg
             have cn:=ygw hg
             replace HB:=ybs hb
             have bd:=ynl af hg
             have bf:=yng af hg
             replace af:=ybb af hb
             have aq:=ynl ag hg
             have bg:=yng ag hg
             replace ag:=ybb ag hb
             have bh:=ynl ah hg
             have bi:=yng ah hg
             replace ah:=ybb ah hb
             clear hb hbox hg
             refine hK.out _ _ yH (fun hHeld => ?_)
             clear hK K
             refine ym (some 22) ?_
             exact norm_ (by simp only [putAll,Act.put,za9,zb0,zb1]) (hCont (cN,ax) _ ⟨hHeld,(yR0 av),(yR0 al),(yV0 br),(yV0 ac),(yr aa),(yR0 ai),(yS0 au),(yS0 aD),(yk af),(yk ag),(yk ah),(yk ak),cm.out,cn.out,bd.out,bf.out,aq.out,bg.out,bh.out,bi.out,yhb⟩)
            skip
            refine box_step ?hg (N:=22) ?hd (cs := #[.int .u64 0, .int .u64 0, .slice none 0 0, .int .i64 0]) (t:=95) ?hr ?_;(case hd=>rfl);(case hg=>rfl);(case hr=>first|(go_simp;done)|(go_simp;rfl))
            intro ax hg w92 hbox hb
            have de:=yhs hb hHeld.2.2.2.2.1
            have df:=yhs hb hHeld.2.2.2.2.2
            replace au:=ySb au hb
            replace aD:=ySb aD hb
            replace ac:=yVe ac hg hb
            replace aa:=ySb aa hb
            replace ai:=yRb ai hb
            replace av:=yRb av hb
            replace al:=yRb al hb
            replace aE:=yCb aE hb
            replace aY:=yCb aY hb
            have ak:=zm (hbox)
            have cm:=ygw hg
            have cn:=ygw hg
            replace HB:=ybs hb
            have bd:=ynl af hg
            have bf:=yng af hg
            replace af:=ybb af hb
            have aq:=ynl ag hg
            have bg:=yng ag hg
            replace ag:=ybb ag hb
            have bh:=ynl ah hg
            have bi:=yng ah hg
            replace ah:=ybb ah hb
            clear hb hbox hg
            refine hK.out _ _ yH (fun hHeld => ?_)
            clear hK K
            refine ym (some 22) ?_
            refine yw 10 113 HT_ (fun K hK => ?_)
            refine ygs Try.func59 #[.agg #[.int .u64 aG, .int .u64 aH, .slice cH az.length cI, .int .i64 aI], .int .u64 b4] ?_
            with_reducible refine (r05_TakeNum.calls k4 aG aH (fun k_=>((some k_≠(.slice (some aw) am.length bl : Value).ownBlock∧(some k_≠(u18 : Value).ownBlock∧(some k_≠(.slice aM ae.length aN : Value).ownBlock∧(some k_≠(aA : Value).ownBlock∧(k_≠ao∧(k_≠aj∧k_≠ap))))))∧k_≠ax)) _ _ az aI b4 bS bT bI bU cp _ ?bu A85.out).mono ?_
            (case bu=>first|exact ac.out|exact zy ac.out (fun _ hk=>⟨⟨hk.1.2.2.1,hk.1.2.2.2.1,hk.1.1,hk.1.2.1,hk.1.2.2.2.2⟩,hk.2⟩))
            rintro e w93 ⟨cN,rfl,ho0,hb⟩
            have de:=yhs hb hHeld.2.2.2.2.1
            have df:=yhs hb hHeld.2.2.2.2.2
            refine ⟨_,rfl, ?_⟩
            replace ac:=yVb ac hb
            replace av:=yRb av hb
            replace al:=yRb al hb
            have br:=yho (fun k_=>some k_≠(.slice (some aw) am.length bl : Value).ownBlock∧some k_≠(u18 : Value).ownBlock∧some k_≠(.slice aM ae.length aN : Value).ownBlock∧some k_≠(aA : Value).ownBlock∧k_≠ao∧k_≠aj∧k_≠ap∧k_≠ax) ho0 (fun k_ hk_=>⟨yoS au hk_,yoS aD hk_,yoS aa hk_,yoR ai hk_,yoB af hk_,yoB ag hk_,yoB ah hk_,yoB ak hk_⟩)
            replace au:=ySb au hb
            replace aD:=ySb aD hb
            replace aa:=ySb aa hb
            replace ai:=yRb ai hb
            replace af:=ybb af hb
            replace ag:=ybb ag hb
            replace ah:=ybb ah hb
            replace aE:=yCb aE hb
            replace aY:=yCb aY hb
            replace ak:=ybb ak hb
            replace HB:=ybs hb
            (try clear hb)
            (try clear ho0)
            refine hK.out _ _ yH (fun hHeld => ?_)
            clear hK K
            refine ym (some 113) ?_
            refine yp 11 102 HT_ ?_
            refine yp 12 114 HT_ ?_
            refine yp 13 115 HT_ ?_
            exact norm_ (by simp only [putAll,Act.put,za9,zb0,zb1]) (hCont (cN,ax) _ ⟨hHeld,(yR0 av),(yR0 al),(yV0 br),(yV0 ac),(yr aa),(yR0 ai),(yS0 au),(yS0 aD),(yk af),(yk ag),(yk ah),(yk ak),cm.out,cn.out,bd.out,bf.out,aq.out,bg.out,bh.out,bi.out,yhb⟩)
           skip
           refine box_step ?hg (N:=22) ?hd (cs := #[.int .u64 0, .int .u64 0, .slice none 0 0, .int .i64 0]) (t:=95) ?hr ?_;(case hd=>rfl);(case hg=>rfl);(case hr=>first|(go_simp;done)|(go_simp;rfl))
           intro ax hg w91 hbox hb
           have de:=yhs hb hHeld.2.2.2.2.1
           have df:=yhs hb hHeld.2.2.2.2.2
           replace au:=ySb au hb
           replace aD:=ySb aD hb
           replace ac:=yVe ac hg hb
           replace aa:=ySb aa hb
           replace ai:=yRb ai hb
           replace av:=yRb av hb
           replace al:=yRb al hb
           replace aE:=yCb aE hb
           replace aY:=yCb aY hb
           have ak:=zm (hbox)
           have cm:=ygw hg
           have cn:=ygw hg
           replace HB:=ybs hb
           have bd:=ynl af hg
           have bf:=yng af hg
           replace af:=ybb af hb
           have aq:=ynl ag hg
           have bg:=yng ag hg
           replace ag:=ybb ag hb
           have bh:=ynl ah hg
           have bi:=yng ah hg
           replace ah:=ybb ah hb
           clear hb hbox hg
           refine hK.out _ _ yH (fun hHeld => ?_)
           clear hK K
           refine ym (some 22) ?_
           refine yw 9 112 HT_ (fun K hK => ?_)
           refine ygs Try.func43 #[.int .i64 bL, .int .i64 (rd (rd_L1 am aJ) bk)] ?_
           with_reducible refine (r06_Count.calls k4 bL (rd (rd_L1 am aJ) bk) b4 _ A84.out).mono ?_
           rintro e w92 ⟨rfl,hb⟩
           have de:=yhs hb hHeld.2.2.2.2.1
           have df:=yhs hb hHeld.2.2.2.2.2
           refine ⟨_,rfl, ?_⟩
           replace au:=ySb au hb
           replace aD:=ySb aD hb
           replace ac:=yVb ac hb
           replace aa:=ySb aa hb
           replace ai:=yRb ai hb
           replace av:=yRb av hb
           replace al:=yRb al hb
           replace af:=ybb af hb
           replace ag:=ybb ag hb
           replace ah:=ybb ah hb
           replace aE:=yCb aE hb
           replace aY:=yCb aY hb
           replace ak:=ybb ak hb
           replace HB:=ybs hb
           (try clear hb)
           refine hK.out _ _ yH (fun hHeld => ?_)
           clear hK K
           refine ym (some 112) ?_
           refine yw 10 113 HT_ (fun K hK => ?_)
           refine ygs Try.func59 #[.agg #[.int .u64 aG, .int .u64 aH, .slice cH az.length cI, .int .i64 aI], .int .u64 b4] ?_
           with_reducible refine (r05_TakeNum.calls k4 aG aH (fun k_=>((some k_≠(.slice (some aw) am.length bl : Value).ownBlock∧(some k_≠(u18 : Value).ownBlock∧(some k_≠(.slice aM ae.length aN : Value).ownBlock∧(some k_≠(aA : Value).ownBlock∧(k_≠ao∧(k_≠aj∧k_≠ap))))))∧k_≠ax)) _ _ az aI b4 bS bT bI bU cp _ ?bu A85.out).mono ?_
           (case bu=>first|exact ac.out|exact zy ac.out (fun _ hk=>⟨⟨hk.1.2.2.1,hk.1.2.2.2.1,hk.1.1,hk.1.2.1,hk.1.2.2.2.2⟩,hk.2⟩))
           rintro e w93 ⟨cN,rfl,ho0,hb⟩
           have de:=yhs hb hHeld.2.2.2.2.1
           have df:=yhs hb hHeld.2.2.2.2.2
           refine ⟨_,rfl, ?_⟩
           replace ac:=yVb ac hb
           replace av:=yRb av hb
           replace al:=yRb al hb
           have br:=yho (fun k_=>some k_≠(.slice (some aw) am.length bl : Value).ownBlock∧some k_≠(u18 : Value).ownBlock∧some k_≠(.slice aM ae.length aN : Value).ownBlock∧some k_≠(aA : Value).ownBlock∧k_≠ao∧k_≠aj∧k_≠ap∧k_≠ax) ho0 (fun k_ hk_=>⟨yoS au hk_,yoS aD hk_,yoS aa hk_,yoR ai hk_,yoB af hk_,yoB ag hk_,yoB ah hk_,yoB ak hk_⟩)
           replace au:=ySb au hb
           replace aD:=ySb aD hb
           replace aa:=ySb aa hb
           replace ai:=yRb ai hb
           replace af:=ybb af hb
           replace ag:=ybb ag hb
           replace ah:=ybb ah hb
           replace aE:=yCb aE hb
           replace aY:=yCb aY hb
           replace ak:=ybb ak hb
           replace HB:=ybs hb
           (try clear hb)
           (try clear ho0)
           refine hK.out _ _ yH (fun hHeld => ?_)
           clear hK K
           refine ym (some 113) ?_
           refine yp 11 102 HT_ ?_
           refine yp 12 114 HT_ ?_
           refine yp 13 115 HT_ ?_
           exact norm_ (by simp only [putAll,Act.put,za9,zb0,zb1]) (hCont (cN,ax) _ ⟨hHeld,(yR0 av),(yR0 al),(yV0 br),(yV0 ac),(yr aa),(yR0 ai),(yS0 au),(yS0 aD),(yk af),(yk ag),(yk ah),(yk ak),cm.out,cn.out,bd.out,bf.out,aq.out,bg.out,bh.out,bi.out,yhb⟩)
          rintro ⟨cN,ax⟩ w94 hS_
          try dsimp only at hS_
          obtain ⟨hS_,h0_,h1_,h2_,h3_,h4_,h5_,h6_,h7_,h8_,h9_,dy,dz,dA,dB,dC,dD,dE,dF,fY,fZ,f5⟩:=hS_
          have n0_:=zm h0_;have n1_:=zm h1_;have n2_:=zm h2_;have n3_:=zm h3_;have n4_:=zm h4_;have n5_:=zm h5_;have n6_:=zm h6_;have n7_:=zm h7_;have n8_:=zm h8_;have n9_:=zm h9_;have dG:=zm dy;have dH:=zm dz;have dI:=zm dA;have dJ:=zm dB;have dK:=zm dC;have dL:=zm dD;have dM:=zm dE;have dN:=zm dF;have f7:=zm fY;have f8:=zm fZ;have f9:=zm f5;clear au aD ac aa ai av af ag ah aE HB h0_ h1_ h2_ h3_ h4_ h5_ h6_ h7_ h8_ h9_ dy dz dA dB dC dD dE dF fY fZ f5;have av:=n0_;have al:=n1_;have br:=n2_;have ac:=n3_;have aa:=n4_;have ai:=n5_;have au:=n6_;have aD:=n7_;have af:=n8_;have ag:=n9_;have ah:=dG;have ak:=dH;have cm:=dI;have cn:=dJ;have bd:=dK
          have bf:=dL;have aq:=dM;have bg:=dN;have bh:=f7;have bi:=f8;have HB:=f9;clear n0_ n1_ n2_ n3_ n4_ n5_ n6_ n7_ n8_ n9_ dG dH dI dJ dK dL dM dN f7 f8 f9;have hHeld:=hS_
          obtain ⟨da,db,ga⟩:=zU br.out
          (first|subst ga|(injection ga with f1_ f2_ f3_;have f4_:=f1_.symm;have f5_:=f3_.symm;clear f1_ f2_ f3_;subst f4_;subst f5_))
          refine norm_ (a' := ?_) ?_ ?_
          rotate_left
          ·
           simp only [putAll,Act.put,za9,zb0,zb1]
           rfl
          refine yv 15 HT_ (fun K hK => ?_)
          have iu : w94.cell? ⟨ax,0,none⟩=some (.int .u64 0):=(zs ak.out 0).trans rfl
          have hfs95:=zx ak.out 0
          have:=bd.out
          have:=aq.out
          have:=bh.out
          have:=bf.out
          have:=bg.out
          have:=bi.out
          have iv : w94.cell? ⟨ax,1,none⟩=some (.int .u64 0):=(zs ak.out 1).trans rfl
          have hfs96:=zx ak.out 1
          have:=bd.out
          have:=aq.out
          have:=bh.out
          have:=bf.out
          have:=bg.out
          have:=bi.out
          have iw : w94.cell? ⟨ax,2,none⟩=some (.slice none 0 0):=(zs ak.out 2).trans rfl
          have hfs98:=zx ak.out 2
          have:=bd.out
          have:=aq.out
          have:=bh.out
          have:=bf.out
          have:=bg.out
          have:=bi.out
          have ix : w94.cell? ⟨ax,3,none⟩=some (.int .i64 0):=(zs ak.out 3).trans rfl
          have hfs99:=zx ak.out 3
          have:=bd.out
          have:=aq.out
          have:=bh.out
          have:=bf.out
          have:=bg.out
          have:=bi.out
          refine skip_ (w1 := ?_) (by rfl) rfl ?_ ?_
          rotate_left
          ·
           go_simp
           rfl
          refine hK.out _ _ ⟨((zr (p:=⟨ax,_,none⟩) aq.out _).trans (((zr (p:=⟨ax,_,none⟩) aq.out _).trans (((zr (p:=⟨ax,_,none⟩) aq.out _).trans (((zr (p:=⟨ax,_,none⟩) aq.out _).trans (hHeld.1)))))))),((zr (p:=⟨ax,_,none⟩) aq.out _).trans (((zr (p:=⟨ax,_,none⟩) aq.out _).trans (((zr (p:=⟨ax,_,none⟩) aq.out _).trans (((zr (p:=⟨ax,_,none⟩) aq.out _).trans (hHeld.2.1)))))))),((zr (p:=⟨ax,_,none⟩) aq.out _).trans (((zr (p:=⟨ax,_,none⟩) aq.out _).trans (((zr (p:=⟨ax,_,none⟩) aq.out _).trans (((zr (p:=⟨ax,_,none⟩) aq.out _).trans (hHeld.2.2.1)))))))),((zr (p:=⟨ax,_,none⟩) aq.out _).trans (((zr (p:=⟨ax,_,none⟩) aq.out _).trans (((zr (p:=⟨ax,_,none⟩) aq.out _).trans (((zr (p:=⟨ax,_,none⟩) aq.out _).trans (hHeld.2.2.2.1)))))))),((zr (p:=⟨ax,_,none⟩) (by first|exact zt (Kd.S_ne au.out ak.out (by decide))|(rw [za];exact zt (Kd.S_ne au.out ak.out (by decide)))|(show (Addr.add _ _).block≠_;rw [za];exact zt (Kd.S_ne au.out ak.out (by decide)))|(dsimp only;exact zt (Kd.S_ne au.out ak.out (by decide)))) _).trans (((zr (p:=⟨ax,_,none⟩) (by first|exact zt (Kd.S_ne au.out ak.out (by decide))|(rw [za];exact zt (Kd.S_ne au.out ak.out (by decide)))|(show (Addr.add _ _).block≠_;rw [za];exact zt (Kd.S_ne au.out ak.out (by decide)))|(dsimp only;exact zt (Kd.S_ne au.out ak.out (by decide)))) _).trans (((zr (p:=⟨ax,_,none⟩) (by first|exact zt (Kd.S_ne au.out ak.out (by decide))|(rw [za];exact zt (Kd.S_ne au.out ak.out (by decide)))|(show (Addr.add _ _).block≠_;rw [za];exact zt (Kd.S_ne au.out ak.out (by decide)))|(dsimp only;exact zt (Kd.S_ne au.out ak.out (by decide)))) _).trans (((zr (p:=⟨ax,_,none⟩) (by first|exact zt (Kd.S_ne au.out ak.out (by decide))|(rw [za];exact zt (Kd.S_ne au.out ak.out (by decide)))|(show (Addr.add _ _).block≠_;rw [za];exact zt (Kd.S_ne au.out ak.out (by decide)))|(dsimp only;exact zt (Kd.S_ne au.out ak.out (by decide)))) _).trans (hHeld.2.2.2.2.1)))))))),((zr (p:=⟨ax,_,none⟩) (by first|exact zt (zu al.out ak.out (by decide))|(rw [za];exact zt (zu al.out ak.out (by decide)))|(show (Addr.add _ _).block≠_;rw [za];exact zt (zu al.out ak.out (by decide)))|(dsimp only;exact zt (zu al.out ak.out (by decide)))) _).trans (((zr (p:=⟨ax,_,none⟩) (by first|exact zt (zu al.out ak.out (by decide))|(rw [za];exact zt (zu al.out ak.out (by decide)))|(show (Addr.add _ _).block≠_;rw [za];exact zt (zu al.out ak.out (by decide)))|(dsimp only;exact zt (zu al.out ak.out (by decide)))) _).trans (((zr (p:=⟨ax,_,none⟩) (by first|exact zt (zu al.out ak.out (by decide))|(rw [za];exact zt (zu al.out ak.out (by decide)))|(show (Addr.add _ _).block≠_;rw [za];exact zt (zu al.out ak.out (by decide)))|(dsimp only;exact zt (zu al.out ak.out (by decide)))) _).trans (((zr (p:=⟨ax,_,none⟩) (by first|exact zt (zu al.out ak.out (by decide))|(rw [za];exact zt (zu al.out ak.out (by decide)))|(show (Addr.add _ _).block≠_;rw [za];exact zt (zu al.out ak.out (by decide)))|(dsimp only;exact zt (zu al.out ak.out (by decide)))) _).trans (hHeld.2.2.2.2.2))))))))⟩ (fun hHeld => ?_)
          clear hK K
          refine yp 16 23 HT_ ?_
          refine done_ (done_of HT_.out (by kernel_rfl)) ?_
          obtain ⟨cj,hw_⟩ : ∃ x,x=((((w94.setCell ⟨ax,0,none⟩ (.int .u64 bS)).setCell ⟨ax,1,none⟩ (.int .u64 bT)).setCell ⟨ax,2,none⟩ (.slice da bI.length db)).setCell ⟨ax,3,none⟩ (.int .i64 bU)):=⟨_,rfl⟩
          rw [← hw_]
          replace au : Aside0 (Kd.S (Kd.slice 3 (Kd.int .i64)) 49 cj w.heap.size (fun k_=>some k_≠(u18 : Value).ownBlock∧some k_≠(.slice aM ae.length aN : Value).ownBlock) (.slice (some aw) am.length bl) am):=⟨by rw [hw_];exact (yS1 au ak)⟩
          replace aD : Aside0 (Kd.S (Kd.slice 3 (Kd.int .i64)) 49 cj w.heap.size (fun k_=>some k_≠(.slice (some aw) am.length bl : Value).ownBlock∧some k_≠(.slice aM ae.length aN : Value).ownBlock) u18 bM):=⟨by rw [hw_];exact (yS1 aD ak)⟩
          replace ac : Aside0 (Kd.V (Kd.int .u8) 5 cj w.heap.size (fun k_=>some k_≠(.slice (some aw) am.length bl : Value).ownBlock∧some k_≠(u18 : Value).ownBlock∧some k_≠(.slice aM ae.length aN : Value).ownBlock∧some k_≠(aA : Value).ownBlock∧k_≠ao∧k_≠aj∧k_≠ap∧k_≠ax) (.slice cH az.length cI) az):=⟨by rw [hw_];exact (yV0 ac)⟩
          replace aa : Aside0 (Kd.S (Kd.slice 3 (Kd.int .i64)) 49 cj w.heap.size (fun k_=>some k_≠(.slice (some aw) am.length bl : Value).ownBlock∧some k_≠(u18 : Value).ownBlock) (.slice aM ae.length aN) ae):=⟨by rw [hw_];exact (yS1 aa ak)⟩
          replace ai : Aside0 (Kd.R (Kd.slice 49 (Kd.slice 3 (Kd.int .i64))) 22 cj w.heap.size (fun k_=>some k_≠(.slice (some aw) am.length bl : Value).ownBlock∧some k_≠(u18 : Value).ownBlock∧some k_≠(.slice aM ae.length aN : Value).ownBlock) aA aZ):=⟨by rw [hw_];exact (yR1 ai ak)⟩
          replace av : Aside0 (Kd.R (Kd.int .i64) 3 cj w.heap.size (fun k_=>some k_≠(.slice (some aw) am.length bl : Value).ownBlock∧some k_≠(u18 : Value).ownBlock∧some k_≠(.slice aM ae.length aN : Value).ownBlock) (.slice (some cP) (rd_L1 am aJ).length cu) (rd_L1 am aJ)):=⟨by rw [hw_];exact (yR1 av ak)⟩
          replace al : Aside0 (Kd.R (Kd.int .i64) 3 cj w.heap.size (fun k_=>some k_≠(.slice (some aw) am.length bl : Value).ownBlock∧some k_≠(u18 : Value).ownBlock∧some k_≠(.slice aM ae.length aN : Value).ownBlock) (.slice (some cf) (rd_L1 am aJ).length ci) (rd_L1 am aJ)):=⟨by rw [hw_];exact (yR1 al ak)⟩
          replace br : Aside0 (Kd.V (Kd.int .u8) 5 cj w.heap.size (fun k_=>some k_≠(.slice (some aw) am.length bl : Value).ownBlock∧some k_≠(u18 : Value).ownBlock∧some k_≠(.slice aM ae.length aN : Value).ownBlock∧some k_≠(aA : Value).ownBlock∧k_≠ao∧k_≠aj∧k_≠ap∧k_≠ax) (.slice da bI.length db) bI):=⟨by rw [hw_];exact (yV0 br)⟩
          replace af : Aside0 (cj.heap[ao]? = some (.cells #[.bool false, .slice none 0 0, .slice none 0 0] 33 (0,0))):=⟨by rw [hw_];exact (yk af)⟩
          replace ag : Aside0 (cj.heap[aj]? = some (.cells #[.int .u64 aG, .int .u64 aH, .slice cH az.length cI, .int .i64 aI] 95 (0,0))):=⟨by rw [hw_];exact (yk ag)⟩
          replace ah : Aside0 (cj.heap[ap]? = some (.cells #[.bool (decide (aX > 0)), .slice aM ae.length aN,aA] 33 (0,0))):=⟨by rw [hw_];exact (yk ah)⟩
          replace ak : Aside0 (cj.heap[ax]? = some (.cells #[.int .u64 bS, .int .u64 bT, .slice da bI.length db, .int .i64 bU] 95 (0,0))):=⟨by rw [hw_];exact (ykp ak)⟩
          replace HB : Aside0 (Below w.heap.size w cj):=⟨by rw [hw_];exact (yhb)⟩
          clear hw_
          have:=bf.out
          have:=bd.out
          have:=bg.out
          have:=aq.out
          have:=bi.out
          have:=bh.out
          obtain ⟨_,_,_,_,_,_,_,_⟩:=yc4 ak
          have:=bE.out
          have:=bD.out
          have:=bo.out
          have:=bp.out
          obtain ⟨_,_,_,_,_,_,_,_⟩:=yc4 ag
          try go_wp2_with (first|((with_reducible refine zb8 (t:=95) (p:=10) rfl ?_);refine za2 (t:=95) (p:=10) (v := ?vo_w108) (w1:=((((cj.setCell ⟨aj,0,none⟩ (.int .u64 bS)).setCell ⟨aj,1,none⟩ (.int .u64 bT)).setCell ⟨aj,2,none⟩ (.slice da bI.length db)).setCell ⟨aj,3,none⟩ (.int .i64 bU))) ?hg ?ho ?hn ?hr ?_;(case ho=>rfl);(case hg=>rfl);(case hn=>rfl);(case hr=>first|(go_simp;done)|(go_simp;rfl));intro co hw;replace au : Aside0 (Kd.S (Kd.slice 3 (Kd.int .i64)) 49 co w.heap.size (fun k_=>some k_≠(u18 : Value).ownBlock∧some k_≠(.slice aM ae.length aN : Value).ownBlock) (.slice (some aw) am.length bl) am):=⟨(by rw [hw];exact (yS1 au ag))⟩;replace aD : Aside0 (Kd.S (Kd.slice 3 (Kd.int .i64)) 49 co w.heap.size (fun k_=>some k_≠(.slice (some aw) am.length bl : Value).ownBlock∧some k_≠(.slice aM ae.length aN : Value).ownBlock) u18 bM):=⟨(by rw [hw];exact (yS1 aD ag))⟩;replace ac : Aside0 (Kd.V (Kd.int .u8) 5 co w.heap.size (fun k_=>some k_≠(.slice (some aw) am.length bl : Value).ownBlock∧some k_≠(u18 : Value).ownBlock∧some k_≠(.slice aM ae.length aN : Value).ownBlock∧some k_≠(aA : Value).ownBlock∧k_≠ao∧k_≠aj∧k_≠ap∧k_≠ax) (.slice cH az.length cI) az):=⟨(by rw [hw];exact (yV0 ac))⟩;replace aa : Aside0 (Kd.S (Kd.slice 3 (Kd.int .i64)) 49 co w.heap.size (fun k_=>some k_≠(.slice (some aw) am.length bl : Value).ownBlock∧some k_≠(u18 : Value).ownBlock) (.slice aM ae.length aN) ae):=⟨(by rw [hw];exact (yS1 aa ag))⟩;replace ai : Aside0 (Kd.R (Kd.slice 49 (Kd.slice 3 (Kd.int .i64))) 22 co w.heap.size (fun k_=>some k_≠(.slice (some aw) am.length bl : Value).ownBlock∧some k_≠(u18 : Value).ownBlock∧some k_≠(.slice aM ae.length aN : Value).ownBlock) aA aZ):=⟨(by rw [hw];exact (yR1 ai ag))⟩;replace av : Aside0 (Kd.R (Kd.int .i64) 3 co w.heap.size (fun k_=>some k_≠(.slice (some aw) am.length bl : Value).ownBlock∧some k_≠(u18 : Value).ownBlock∧some k_≠(.slice aM ae.length aN : Value).ownBlock) (.slice (some cP) (rd_L1 am aJ).length cu) (rd_L1 am aJ)):=⟨(by rw [hw];exact (yR1 av ag))⟩;replace al : Aside0 (Kd.R (Kd.int .i64) 3 co w.heap.size (fun k_=>some k_≠(.slice (some aw) am.length bl : Value).ownBlock∧some k_≠(u18 : Value).ownBlock∧some k_≠(.slice aM ae.length aN : Value).ownBlock) (.slice (some cf) (rd_L1 am aJ).length ci) (rd_L1 am aJ)):=⟨(by rw [hw];exact (yR1 al ag))⟩;replace br : Aside0 (Kd.V (Kd.int .u8) 5 co w.heap.size (fun k_=>some k_≠(.slice (some aw) am.length bl : Value).ownBlock∧some k_≠(u18 : Value).ownBlock∧some k_≠(.slice aM ae.length aN : Value).ownBlock∧some k_≠(aA : Value).ownBlock∧k_≠ao∧k_≠aj∧k_≠ap∧k_≠ax) (.slice da bI.length db) bI):=⟨(by rw [hw];exact (yV0 br))⟩;replace af : Aside0 (co.heap[ao]? = some (.cells #[.bool false, .slice none 0 0, .slice none 0 0] 33 (0,0))):=⟨(by rw [hw];exact (yk af))⟩;replace ag : Aside0 (co.heap[aj]? = some (.cells #[.int .u64 bS, .int .u64 bT, .slice da bI.length db, .int .i64 bU] 95 (0,0))):=⟨(by rw [hw];exact (ykp ag))⟩;replace ah : Aside0 (co.heap[ap]? = some (.cells #[.bool (decide (aX > 0)), .slice aM ae.length aN,aA] 33 (0,0))):=⟨(by rw [hw];exact (yk ah))⟩;replace ak : Aside0 (co.heap[ax]? = some (.cells #[.int .u64 bS, .int .u64 bT, .slice da bI.length db, .int .i64 bU] 95 (0,0))):=⟨(by rw [hw];exact (yk ak))⟩;replace HB : Aside0 (Below w.heap.size w co):=⟨(by rw [hw];exact yhb)⟩;clear hw;obtain ⟨fA,gD,gE,gb,gc,gf,cD,b7,hJ,hL⟩:=ysl au.out aJ;obtain rfl : aw=fA:=(by injection gb);obtain ⟨gV,gg,gh,hO,hU⟩:=yai cD bk;cases gg)|((with_reducible refine zK (f:=60) rfl ?_);refine ygl 128 Try.func60 #[.int .i64 bL, .int .i64 (rd (rd_L1 am aJ) bk), .int .u64 cp] ?_;(with_reducible refine (r06_Vector.calls k4 bL (rd (rd_L1 am aJ) bk) cp bK _ A86.out).mono ?_);rintro e iy ⟨hX,rfl,ho0,hb⟩;refine ⟨_,rfl, ?_⟩;replace au:=zm (za8 (yr au) (zW ho0) hb);replace aD:=zm (za8 (yr aD) (zW ho0) hb);replace ac:=zm (za7 (yr ac) (zW ho0) hb);replace aa:=zm (za8 (yr aa) (zW ho0) hb);replace ai:=zm (za6 (yr ai) (zW ho0) hb);replace br:=zm (za7 (yr br) (zW ho0) hb);have cQ:=zm (za0 (Kd.R_new' (Kd.R_new' (Kd.R_new' ho0 (Kd.R_lt (yr av))) (Kd.R_lt (yr al))) (Kd.R_lt (yr b7))) (zE yhb));replace av:=zm (za6 (yr av) (zW ho0) hb);replace al:=zm (za6 (yr al) (zW ho0) hb);replace b7:=zm (za6 (yr b7) (zW ho0) hb);replace af:=ybb af hb;replace ag:=ybb ag hb;replace ah:=ybb ah hb;replace ak:=ybb ak hb;replace cD:=yCb cD hb;replace HB:=ybs hb;(try clear hb);(try clear ho0);obtain ⟨ca,cb,gi⟩:=zT cQ.out;subst gi)|((with_reducible refine zb9 (b:=.append) (xs := #[.tmp 118, .tmp 129]) rfl ?_);at_builtin;refine Kd.S_append (Kd.slice 3 (Kd.int .i64)) (w0:=w) w.heap.size rfl (.tmp 118) (.tmp 129) 22 49 (.slice none 0 0) 24 rfl Try.underlying22 info49 rfl (by decide) (by omega) u18 bM bK [.slice ca bK.length cb] (fun k_=>some k_≠(.slice (some aw) am.length bl : Value).ownBlock∧some k_≠(.slice aM ae.length aN : Value).ownBlock) (fun k_=>some k_=(.slice ca bK.length cb : Value).ownBlock) rfl rfl ?aP ?aQ ?aF ?aO ?aB ?aS ?aL ?_;(case aQ=>exact (fun k_ hk_=>((zG (ok' := fun k_=>((fun k_=>some k_≠(.slice (some aw) am.length bl : Value).ownBlock∧some k_≠(.slice aM ae.length aN : Value).ownBlock)) k_∧some k_≠(u18 : Value).ownBlock) (zZ (zZ (zZ (cQ.out) (Kd.S_typed au.out) (by decide)) (Kd.S_typed aa.out) (by decide)) (Kd.S_typed aD.out) (by decide)) (fun k_ hk=>⟨⟨hk.1.1.2,hk.1.2⟩,hk.2⟩))).1 k_ hk_.symm));(case aP=>exact Kd.M_row (zG (Kd.R_tight rfl (zG (ok' := fun k_=>((fun k_=>some k_≠(.slice (some aw) am.length bl : Value).ownBlock∧some k_≠(.slice aM ae.length aN : Value).ownBlock)) k_∧some k_≠(u18 : Value).ownBlock) (zZ (zZ (zZ (cQ.out) (Kd.S_typed au.out) (by decide)) (Kd.S_typed aa.out) (by decide)) (Kd.S_typed aD.out) (by decide)) (fun k_ hk=>⟨⟨hk.1.1.2,hk.1.2⟩,hk.2⟩))) (fun _ h_=>h_)));(case aB=>exact yhb);(case aF=>exact (fun k_ hk=>⟨zc2 (Kd.S_lt (yr au)) k_ hk,zc2 (Kd.S_lt (yr aa)) k_ hk⟩));(case aO=>exact (yS0 aD));(case aS=>exact (zE yhb));(case aL=>have:=LMc87.out;omega);intro ia iz ho hb hg hat;rw [← fy.out] at ho;replace au:=zm (Kd.S_after (ok:=(fun k_=>some k_≠(.slice aM ae.length aN : Value).ownBlock∧some k_≠(.slice ca bK.length cb : Value).ownBlock)) (yS0 au) hg hat);replace ac:=zm (zc1 (ok:=(fun k_=>some k_≠(.slice (some aw) am.length bl : Value).ownBlock∧some k_≠(.slice aM ae.length aN : Value).ownBlock∧some k_≠(aA : Value).ownBlock∧some k_≠(.slice ca bK.length cb : Value).ownBlock∧k_≠ao∧k_≠aj∧k_≠ap∧k_≠ax)) (yV0 ac) hg hat);replace aa:=zm (Kd.S_after (ok:=(fun k_=>some k_≠(.slice (some aw) am.length bl : Value).ownBlock∧some k_≠(.slice ca bK.length cb : Value).ownBlock)) (yS0 aa) hg hat);replace ai:=zm (zc0 (ok:=(fun k_=>some k_≠(.slice (some aw) am.length bl : Value).ownBlock∧some k_≠(.slice aM ae.length aN : Value).ownBlock∧some k_≠(.slice ca bK.length cb : Value).ownBlock)) (yR0 ai) hg hat);replace af:=zm (zc3 (yk af) hg (Kd.S_ne aD.out af.out (by decide)));replace ag:=zm (zc3 (yk ag) hg (Kd.S_ne aD.out ag.out (by decide)));replace ah:=zm (zc3 (yk ah) hg (Kd.S_ne aD.out ah.out (by decide)));replace av:=zm (zc0 (ok:=(fun k_=>some k_≠(.slice (some aw) am.length bl : Value).ownBlock∧some k_≠(.slice aM ae.length aN : Value).ownBlock∧some k_≠(.slice ca bK.length cb : Value).ownBlock)) (yR0 av) hg hat);replace al:=zm (zc0 (ok:=(fun k_=>some k_≠(.slice (some aw) am.length bl : Value).ownBlock∧some k_≠(.slice aM ae.length aN : Value).ownBlock∧some k_≠(.slice ca bK.length cb : Value).ownBlock)) (yR0 al) hg hat);replace br:=zm (zc1 (ok:=(fun k_=>some k_≠(.slice (some aw) am.length bl : Value).ownBlock∧some k_≠(.slice aM ae.length aN : Value).ownBlock∧some k_≠(aA : Value).ownBlock∧some k_≠(.slice ca bK.length cb : Value).ownBlock∧k_≠ao∧k_≠aj∧k_≠ap∧k_≠ax)) (yV0 br) hg hat);replace ak:=zm (zc3 (yk ak) hg (Kd.S_ne aD.out ak.out (by decide)));replace b7:=zm (zc0 (ok:=(fun k_=>some k_≠(.slice (some aw) am.length bl : Value).ownBlock∧some k_≠(.slice aM ae.length aN : Value).ownBlock∧some k_≠(.slice ca bK.length cb : Value).ownBlock)) (yR0 b7) hg hat);replace HB:=zm (hb);have fB:=zm (ho);clear aD;clear cQ;clear ho hb hg hat))
          go_roundg k4
          case measure=>exact yom4 cS HK2 HK3 HK4
          case rel=>exact ⟨(fo),(wrap64 (bk+1)),(bS),(bT),(bI),(bU),(.slice da bI.length db),yq,H',⟨yom4 cS HK2 HK3 HK4⟩,⟨yS0 au⟩,⟨yr fB⟩,⟨yV0 br⟩,⟨yS0 aa⟩,⟨yR0 ai⟩,⟨yk af⟩,⟨yk ag⟩,⟨yk ah⟩,⟨yhb⟩⟩
         replace H:=ybi H;obtain ⟨bN,gW,H⟩:=H
         replace H:=yif H;obtain ⟨gj,H⟩:=H
         have LMc113:=zm gj;clear gj
         obtain ⟨fp,dg⟩ : ∃ y_ : List (List Int),y_=(bM ++ [bN]):=⟨_,rfl⟩
         replace H : (r13_Read.l2 k4 a1 am aJ fp (wrap64 (bk+1)) aG aH az aI (decide (aX > 0)) ae aZ)=some (r1,r2,r3,r4):=yrw dg H
         have fC:=zm dg;clear dg
         have H' := zm H
         clear H
         go_wp2_with (first|((with_reducible refine zK (f:=46) rfl ?_);refine ygl 93 Try.func46 #[.int .i64 bk] ?_;(with_reducible refine (r10_Width.calls k4 bk bL _ A78.out).mono ?_);rintro e w' ⟨rfl,⟨nd,rfl⟩⟩;refine ⟨_,rfl, ?_⟩;obtain ⟨ib,cq,gl⟩:=zV au.out;subst gl;obtain ⟨aw,fk,cu,dR,cW,dS,aE,av,fR,fS⟩:=ysl au.out aJ;cases dR;obtain ⟨cP,dT,dU,fT,fU⟩:=yai aE bk;cases dT;obtain ⟨fD,gF,gG,gm,dW,gn,cE,b8,ic,ie⟩:=ysl au.out aJ;obtain rfl : aw=fD:=(by injection gm);have ea_:=zO (cW.symm.trans dW);injection ea_ with ea_ en_ ec_;subst ea_;subst ec_;clear en_;obtain ⟨gX,go,gp,ig,ii⟩:=yai cE bk;cases go)|((with_reducible refine zK (f:=60) rfl ?_);refine ygl 128 Try.func60 #[.int .i64 bL, .int .i64 (rd (rd_L1 am aJ) bk), .int .u64 0] ?_;(with_reducible refine (r06_Vector.calls k4 bL (rd (rd_L1 am aJ) bk) 0 bN _ gW.out).mono ?_);rintro e iA ⟨ij,rfl,ho0,hb⟩;refine ⟨_,rfl, ?_⟩;replace au:=zm (za8 (yr au) (zW ho0) hb);replace aD:=zm (za8 (yr aD) (zW ho0) hb);replace ac:=zm (za7 (yr ac) (zW ho0) hb);replace aa:=zm (za8 (yr aa) (zW ho0) hb);replace ai:=zm (za6 (yr ai) (zW ho0) hb);have cR:=zm (za0 (Kd.R_new' (Kd.R_new' ho0 (Kd.R_lt (yr av))) (Kd.R_lt (yr b8))) (zE yhb));replace av:=zm (za6 (yr av) (zW ho0) hb);replace b8:=zm (za6 (yr b8) (zW ho0) hb);replace af:=ybb af hb;replace ag:=ybb ag hb;replace ah:=ybb ah hb;replace aE:=zm (Kd.C_below (Kd.C_drewN aE.out _) hb);replace cE:=zm (Kd.C_below (Kd.C_drewN cE.out _) hb);replace HB:=ybs hb;(try clear hb);(try clear ho0);obtain ⟨cr,ct,gq⟩:=zT cR.out;subst gq)|((with_reducible refine zb9 (b:=.append) (xs := #[.tmp 118, .tmp 129]) rfl ?_);at_builtin;refine Kd.S_append (Kd.slice 3 (Kd.int .i64)) (w0:=w) w.heap.size rfl (.tmp 118) (.tmp 129) 22 49 (.slice none 0 0) 24 rfl Try.underlying22 info49 rfl (by decide) (by omega) u18 bM bN [.slice cr bN.length ct] (fun k_=>some k_≠(.slice (some aw) am.length cq : Value).ownBlock∧some k_≠(.slice aM ae.length aN : Value).ownBlock) (fun k_=>some k_=(.slice cr bN.length ct : Value).ownBlock) rfl rfl ?aP ?aQ ?aF ?aO ?aB ?aS ?aL ?_;(case aQ=>exact (fun k_ hk_=>((zG (ok' := fun k_=>((fun k_=>some k_≠(.slice (some aw) am.length cq : Value).ownBlock∧some k_≠(.slice aM ae.length aN : Value).ownBlock)) k_∧some k_≠(u18 : Value).ownBlock) (zZ (zZ (zZ (cR.out) (Kd.S_typed au.out) (by decide)) (Kd.S_typed aa.out) (by decide)) (Kd.S_typed aD.out) (by decide)) (fun k_ hk=>⟨⟨hk.1.1.2,hk.1.2⟩,hk.2⟩))).1 k_ hk_.symm));(case aP=>exact Kd.M_row (zG (Kd.R_tight rfl (zG (ok' := fun k_=>((fun k_=>some k_≠(.slice (some aw) am.length cq : Value).ownBlock∧some k_≠(.slice aM ae.length aN : Value).ownBlock)) k_∧some k_≠(u18 : Value).ownBlock) (zZ (zZ (zZ (cR.out) (Kd.S_typed au.out) (by decide)) (Kd.S_typed aa.out) (by decide)) (Kd.S_typed aD.out) (by decide)) (fun k_ hk=>⟨⟨hk.1.1.2,hk.1.2⟩,hk.2⟩))) (fun _ h_=>h_)));(case aB=>exact yhb);(case aF=>exact (fun k_ hk=>⟨zc2 (Kd.S_lt (yr au)) k_ hk,zc2 (Kd.S_lt (yr aa)) k_ hk⟩));(case aO=>exact (yS0 aD));(case aS=>exact (zE yhb));(case aL=>have:=LMc113.out;omega);intro ik iB ho hb hg hat;rw [← fC.out] at ho;replace au:=zm (Kd.S_after (ok:=(fun k_=>some k_≠(.slice aM ae.length aN : Value).ownBlock∧some k_≠(.slice cr bN.length ct : Value).ownBlock)) (yS0 au) hg hat);replace ac:=zm (zc1 (ok:=(fun k_=>some k_≠(.slice (some aw) am.length cq : Value).ownBlock∧some k_≠(.slice aM ae.length aN : Value).ownBlock∧some k_≠(aA : Value).ownBlock∧some k_≠(.slice cr bN.length ct : Value).ownBlock∧k_≠ao∧k_≠aj∧k_≠ap)) (yV0 ac) hg hat);replace aa:=zm (Kd.S_after (ok:=(fun k_=>some k_≠(.slice (some aw) am.length cq : Value).ownBlock∧some k_≠(.slice cr bN.length ct : Value).ownBlock)) (yS0 aa) hg hat);replace ai:=zm (zc0 (ok:=(fun k_=>some k_≠(.slice (some aw) am.length cq : Value).ownBlock∧some k_≠(.slice aM ae.length aN : Value).ownBlock∧some k_≠(.slice cr bN.length ct : Value).ownBlock)) (yR0 ai) hg hat);replace af:=zm (zc3 (yk af) hg (Kd.S_ne aD.out af.out (by decide)));replace ag:=zm (zc3 (yk ag) hg (Kd.S_ne aD.out ag.out (by decide)));replace ah:=zm (zc3 (yk ah) hg (Kd.S_ne aD.out ah.out (by decide)));replace av:=zm (zc0 (ok:=(fun k_=>some k_≠(.slice (some aw) am.length cq : Value).ownBlock∧some k_≠(.slice aM ae.length aN : Value).ownBlock∧some k_≠(.slice cr bN.length ct : Value).ownBlock)) (yR0 av) hg hat);replace b8:=zm (zc0 (ok:=(fun k_=>some k_≠(.slice (some aw) am.length cq : Value).ownBlock∧some k_≠(.slice aM ae.length aN : Value).ownBlock∧some k_≠(.slice cr bN.length ct : Value).ownBlock)) (yR0 b8) hg hat);replace HB:=zm (hb);have fE:=zm (ho);clear aD;clear cR;clear ho hb hg hat))
         go_roundg k4
         case measure=>exact yom4 cS HK2 HK3 HK4
         case rel=>exact ⟨(fp),(wrap64 (bk+1)),(aG),(aH),(az),(aI),(bj),yq,H',⟨yom4 cS HK2 HK3 HK4⟩,⟨yS0 au⟩,⟨yr fE⟩,⟨yV0 ac⟩,⟨yS0 aa⟩,⟨yR0 ai⟩,⟨yk af⟩,⟨yk ag⟩,⟨yk ah⟩,⟨yhb⟩⟩
        replace H:=yif H;obtain ⟨gu,H⟩:=H
        have LMc118:=zm gu;clear gu
        obtain ⟨dX,dh⟩ : ∃ y_ : List (List (List Int)),y_=(aZ ++ [bM]):=⟨_,rfl⟩
        replace H : (r13_Read.l1 k4 a1 am (wrap64 (aJ+1)) aG aH az aI (decide (aX > 0)) ae dX)=some (r1,r2,r3,r4):=yrw dh H
        have fF:=zm dh;clear dh
        have H' := zm H
        clear H
        have:=bn.out
        have:=bm.out
        have:=bp.out
        have:=bo.out
        obtain ⟨_,_,_,_,_,_⟩:=yc3 ah
        obtain ⟨fq,ft,gv⟩:=zV aD.out
        subst gv
        go_wp2_with (first|((with_reducible refine zb9 (b:=.append) (xs := #[.tmp 132, .tmp 134]) rfl ?_);at_builtin;refine Kd.R_append (Kd.slice 49 (Kd.slice 3 (Kd.int .i64))) (w0:=w) w.heap.size rfl (.tmp 132) (.tmp 134) 23 22 (.slice none 0 0) 24 rfl Try.underlying23 info22 rfl (by decide) (by omega) aA aZ bM [.slice fq bM.length ft] (fun k_=>some k_≠(bZ : Value).ownBlock∧some k_≠(.slice aM ae.length aN : Value).ownBlock) (fun k_=>((fun k_=>some k_≠(bZ : Value).ownBlock∧some k_≠(.slice aM ae.length aN : Value).ownBlock)) k_∧some k_≠(aA : Value).ownBlock) rfl rfl ?aP (fun _ hk=>hk) ?aF ?aO ?aB ?aS ?aL ?_;(case aP=>exact Kd.M_row (zG (zZ ((Kd.S_R aD.out)) (Kd.R_typed ai.out) (by decide)) (fun k_ hk=>⟨⟨hk.1.1,hk.1.2⟩,hk.2⟩)));(case aB=>exact yhb);(case aF=>exact (fun k_ hk=>⟨zc2 (Kd.S_lt (yr au)) k_ hk,zc2 (Kd.S_lt (yr aa)) k_ hk⟩));(case aO=>exact (yR0 ai));(case aS=>exact (zE yhb));(case aL=>have:=LMc118.out;omega);intro il iC ho hb hg hat;rw [← fF.out] at ho;replace au:=zm (Kd.S_over' (yr au) (Kd.R_typed (yr ai)) (by decide) hg);replace ac:=zm (zc1 (ok:=(fun k_=>some k_≠(bZ : Value).ownBlock∧some k_≠(.slice fq bM.length ft : Value).ownBlock∧some k_≠(.slice aM ae.length aN : Value).ownBlock∧k_≠ao∧k_≠aj∧k_≠ap)) (yV0 ac) hg hat);replace aa:=zm (Kd.S_over' (yr aa) (Kd.R_typed (yr ai)) (by decide) hg);replace af:=zm (zc3 (yk af) hg (zu ai.out af.out (by decide)));replace ag:=zm (zc3 (yk ag) hg (zu ai.out ag.out (by decide)));replace ah:=zm (zc3 (yk ah) hg (zu ai.out ah.out (by decide)));replace HB:=zm (hb);have dY:=zm (ho);clear ai;clear aD;clear ho hb hg hat;obtain ⟨gw,gx,gy⟩:=zT dY.out;subst gy;obtain ⟨_,_,_,_,_,_⟩:=yc3 ah))
        go_roundg k4
        case measure=>exact yom4 cS HK2 HK3 HK4
        case rel=>exact ⟨(wrap64 (aJ+1)),(aG),(aH),(az),(aI),(dX),(bj),(.slice gw dX.length gx),yq,H',⟨yom4 cS HK2 HK3 HK4⟩,⟨yS1 au ah⟩,⟨yV0 ac⟩,⟨yS1 aa ah⟩,⟨yR1 dY ah⟩,⟨yk af⟩,⟨yk ag⟩,⟨ykp ah⟩,⟨yhb⟩⟩
      simp only [zM,zN] at H
      obtain ⟨rfl,rfl,rfl,rfl⟩:=H
      have:=bn.out
      have:=bm.out
      have:=bp.out
      have:=bo.out
      obtain ⟨_,_,_,_,_,_⟩:=yc3 ah
      have:=bD.out
      have:=bE.out
      obtain ⟨_,_,_,_,_,_⟩:=yc3 af
      obtain ⟨gz,gA,gB⟩:=zT ai.out
      subst gB
      go_wp2
      refine za1 (results_ct rfl _ _ ao 33 #[.bool (decide (aX > 0)), .slice aM ae.length aN, .slice gz aZ.length gA] (0,0) _ rfl (ykp af) Try.underlying33 rfl (by kernel_rfl)) rfl ?_
      exact ⟨_,_,ye,yS1 aa af,yR1 ai af,yhb⟩
  rw [za5 c7] at H
  obtain ⟨fI,fJ⟩:=yF c7
  simp only [zM,zN] at H
  obtain ⟨rfl,rfl,rfl,rfl⟩:=H
  go_enter Try.func21,Try.ntmps21
  go_wp2_with (first|((with_reducible refine zL (N:=8) rfl ?_);refine ybx 8 #[.bool false, .slice none 0 0, .slice none 0 0] 33 ?_;intro ao hg fG hbox hb;have af:=zm (hbox);have dr:=ygw hg;have dt:=ygw hg;replace HB:=ybs hb;clear hb hbox hg)|((with_reducible refine zK (f:=23) rfl ?_);refine ygl 26 Try.func23 #[.int .i64 a0, .int .i64 a1] ?_;(with_reducible refine (r12_Right.calls a0 a1 true _ A5.out).mono ?_);rintro e w' ⟨rfl,⟨nd,rfl⟩⟩;refine ⟨_,rfl, ?_⟩;(try (rw [drewN_self fG];generalize hq_ : World.drewN fG _=fG;replace af:=ykq hq_ af;replace HB:=ysq hq_;clear hq_));obtain ⟨_,_,_,_,_,_⟩:=yc3 af))
  refine za1 (results_ct rfl _ _ ao 33 #[.bool false, .slice none 0 0, .slice none 0 0] (0,0) _ rfl (ykp af) Try.underlying33 rfl (by kernel_rfl)) rfl ?_
  exact ⟨_,_,ye,yn,yn,yhb⟩
 replace c6:=za3.mpr c6
 subst c6
 rw [ynf] at H
 simp only [zM,zN] at H
 obtain ⟨rfl,rfl,rfl,rfl⟩:=H
 go_enter Try.func21,Try.ntmps21
 go_wp2_with (first|((with_reducible refine zL (N:=8) rfl ?_);refine ybx 8 #[.bool false, .slice none 0 0, .slice none 0 0] 33 ?_;intro ao hg fH hbox hb;have af:=zm (hbox);have dr:=ygw hg;have dt:=ygw hg;replace HB:=ybs hb;clear hb hbox hg)|((with_reducible refine zK (f:=23) rfl ?_);refine ygl 26 Try.func23 #[.int .i64 a0, .int .i64 a1] ?_;(with_reducible refine (r12_Right.calls a0 a1 false _ A5.out).mono ?_);rintro e w' ⟨rfl,⟨nd,rfl⟩⟩;refine ⟨_,rfl, ?_⟩;(try (rw [drewN_self fH];generalize hq_ : World.drewN fH _=fH;replace af:=ykq hq_ af;replace HB:=ysq hq_;clear hq_));obtain ⟨_,_,_,_,_,_⟩:=yc3 af))
 refine za1 (results_ct rfl _ _ ao 33 #[.bool false, .slice none 0 0, .slice none 0 0] (0,0) _ rfl (ykp af) Try.underlying33 rfl (by kernel_rfl)) rfl ?_
 exact ⟨_,_,ye,yn,yn,yhb⟩
def w13_PackReads.j0 : Nat→Int→Int→List Int→List (List Int)→Bool→Option (Bool)
 | 0,_,_,_,_,_=>none
 | k+1,x0,x1,x2,x3,x19=>if x19=true then ((w13_knows.f k).bind fun bb=>(some bb)) else ((some (([] : List Int) : List Int)).bind fun aD=>(if aD.length+x2.length < 140737488355328 then ((cpack_Read.f k x0 x1 (aD ++ x2) x3).bind fun aj=>((r13_Read.f k x0 x1 x2 x3).bind fun ak=>((w13_As.f aj.1 aj.2.1 aj.2.2.1).bind fun al=>((r13_Same.f k al.1 al.2.1 al.2.2 ak.1 ak.2.1 ak.2.2.1).bind fun aI=>(if aI=true then (if aj.2.2.2=ak.2.2.2 then ((w13_knows.f k).bind fun aE=>(some aE)) else (none)) else (none)))))) else (none)))
def w13_PackReads.f (k : Nat) (a0 : Int) (a1 : Int) (l2 : List Int) (l3 : List (List Int)) : Option (Bool):=if (l2.length : Int) > 200 then (w13_PackReads.j0 k a0 a1 l2 l3 true) else ((w13_wide.f k l3).bind fun a7=>(w13_PackReads.j0 k a0 a1 l2 l3 a7))
theorem w13_PackReads.mono_l : ∀ k,(∀ y0 y1 y2 y3 y4,LeO (w13_PackReads.j0 k y0 y1 y2 y3 y4) (w13_PackReads.j0 (k+1) y0 y1 y2 y3 y4))
 | 0=>fun _ _ _ _ _ r h=>by simp [w13_PackReads.j0] at h
 | k+1=>by
  have ih0:=w13_PackReads.mono_l k
  ·
   intro y0 y1 y2 y3 y4
   unfold w13_PackReads.j0
   have i0:=@cpack_Read.mono;have i1:=@w13_knows.mono;have i2:=@w13_wide.mono;have i3:=@r13_Read.mono;have i4:=@r13_Same.mono
   exact yLm
theorem w13_PackReads.mono : ∀ a0 a1 a2 a3 k,LeO (w13_PackReads.f k a0 a1 a2 a3) (w13_PackReads.f (k+1) a0 a1 a2 a3):=by
 intro a0 a1 a2 a3 k
 have ih0:=w13_PackReads.mono_l k
 unfold w13_PackReads.f
 have i0:=@cpack_Read.mono;have i1:=@w13_knows.mono;have i2:=@w13_wide.mono;have i3:=@r13_Read.mono;have i4:=@r13_Same.mono
 exact yLm
def w13_PackReads.T5 : Bool × List (List Nat × List Nat):=(true, [([], []),([0], [0]),([], []),([1,2,1], [1,2]),([3,3], [3]),([4], [4]),([4], [4]),([5,6,4], [4,5,6]),([4,7], [4,7]),([8,4], [8]),([9,9], [9]),([9,10], [9,10]),([11,10,0,1,2,3,4,5,6,7,8,9,10,11], [11])])
def w13_PackReads.B5 : List Nat := [0,1,0,7,15,31,31,127,255,511,1023,2047,4095]
theorem w13_PackReads.tab5 : rtab .any (opsOf Try.f6 5)=w13_PackReads.T5:=by kernel_rfl
theorem w13_PackReads.bits5 : waitsOk w13_PackReads.T5.2 w13_PackReads.B5=true:=by kernel_rfl
theorem w13_PackReads.calls (k : Nat) (a0 : Int) (a1 : Int) (A2 : Option Addr) (c2 : Nat) (l2 : List Int) (A3 : Option Addr) (c3 : Nat) (l3 : List (List Int)) (r : Bool) (w : World) (hr2 : Kd.C (Kd.int .u8) w A2 l2.length l2) (hc2 : l2.length≤c2) (hr3 : Kd.C (Kd.slice 3 (Kd.int .i64)) w A3 l3.length l3) (hc3 : l3.length≤c3) (h : w13_PackReads.f k a0 a1 l2 l3=some r) :
  Calls Try.prog 6 #[.int .i64 a0, .int .i64 a1, .slice A2 l2.length c2, .slice A3 l3.length c3] w fun e w' => e=.returned (.bool r)∧Below w.heap.size w w' := by
 have hu25:=Try.underlying25;have hu33:=Try.underlying33;have HR2:=zm hr2;have HC2:=zm hc2;clear hr2 hc2;have HR3:=zm hr3;have HC3:=zm hc3;clear hr3 hc3;have HB:=zm (zY w.heap.size w);have H:=h
 unfold w13_PackReads.f at H
 clear h;have HC5:=zm H;clear H
 go_enter Try.func6,Try.ntmps6
 go_upto_region 1 with (fail)
 go_cut [19] (fun v19 wc => ∃ (kq : Nat) (a8 : Bool),v19=.bool a8∧Aside0 (w13_PackReads.j0 kq a0 a1 l2 l3 a8=some r)∧Aside0 (kq≤k)∧Aside0 (Below w.heap.size w wc))
 case first =>
  have H:=HC5.out;clear HC5
  by_cases c6 : (l2.length : Int) > 200
  ·
   rw [za4 c6] at H
   have bc:=yDs c6
   have bz : decide (200 < l2.length)=true:=decide_eq_true (by omega)
   clear c6
   (first|rw [bc]|(simp only [i64_w,i32_w];rw [bc])|skip)
   have H' := zm H
   clear H
   go_wp2
   go_meet
   case rel=>exact ⟨_,(true),yq,H',⟨yo⟩,⟨yhb⟩⟩
  rw [za5 c6] at H
  have bc:=yGs c6
  have bz : decide (200 < l2.length)=false:=decide_eq_false (by omega)
  clear c6
  (first|rw [bc]|(simp only [i64_w,i32_w];rw [bc])|skip)
  obtain ⟨a7,A7,H⟩:=ybi H
  have H' := zm H
  clear H
  go_wp2_with (first|(go_at_call 19;(with_reducible refine (w13_wide.calls k _ _ l3 a7 _ ?ay HC3.out A7.out).mono ?_);(case ay=>exact ycb HR3);rintro e w' ⟨rfl,⟨nd,rfl⟩⟩))
  go_meet
  case rel=>exact ⟨_,(a7),yq,H',⟨yo⟩,⟨yhb⟩⟩
 case rest =>
  clear HC5
  try clear c2
  try clear c3
  obtain ⟨kq,a8,rfl,HA,HJ4,HB⟩:=hcut
  obtain ⟨kj4,rfl⟩:=ysu kq (fun h=>by subst h;exact absurd HA.out (by simp [w13_PackReads.j0]))
  have H:=HA.out;clear HA
  simp only [w13_PackReads.j0] at H
  by_cases c8 : a8=true
  ·
   subst c8
   rw [za4 rfl] at H
   obtain ⟨bb,A9,H⟩:=ybi H
   obtain rfl:=zO H
   go_wp2_with (first|((with_reducible refine zK (f:=11) rfl ?_);refine ygl 20 Try.func11 #[] ?_;(with_reducible refine (w13_knows.calls kj4  bb _ A9.out).mono ?_);rintro e w10 ⟨rfl,hb⟩;refine ⟨_,rfl, ?_⟩;replace HB:=ybs hb;(try clear hb)))
   go_ret
   exact ⟨ye,yhb⟩
  replace c8:=za3.mpr c8
  subst c8
  rw [ynf] at H
  obtain ⟨aD,aW⟩ : ∃ y_ : List Int,y_=(([] : List Int)):=⟨_,rfl⟩
  replace H : (if aD.length+l2.length < 140737488355328 then ((cpack_Read.f kj4 a0 a1 (aD ++ l2) l3).bind fun aj=>((r13_Read.f kj4 a0 a1 l2 l3).bind fun ak=>((w13_As.f aj.1 aj.2.1 aj.2.2.1).bind fun al=>((r13_Same.f kj4 al.1 al.2.1 al.2.2 ak.1 ak.2.1 ak.2.2.1).bind fun aI=>(if aI=true then (if aj.2.2.2=ak.2.2.2 then ((w13_knows.f kj4).bind fun aE=>(some aE)) else (none)) else (none)))))) else (none))=some r:=yrw aW H
  have bd:=zm aW;clear aW
  obtain ⟨c11,H⟩:=yif H
  have LMc11:=zm c11;clear c11
  obtain ⟨az,aX⟩ : ∃ y_ : List Int,y_=(aD ++ l2):=⟨_,rfl⟩
  replace H : ((cpack_Read.f kj4 a0 a1 az l3).bind fun aj=>((r13_Read.f kj4 a0 a1 l2 l3).bind fun ak=>((w13_As.f aj.1 aj.2.1 aj.2.2.1).bind fun al=>((r13_Same.f kj4 al.1 al.2.1 al.2.2 ak.1 ak.2.1 ak.2.2.1).bind fun aI=>(if aI=true then (if aj.2.2.2=ak.2.2.2 then ((w13_knows.f kj4).bind fun aE=>(some aE)) else (none)) else (none))))))=some r:=yrw aX H
  have bm:=zm aX;clear aX
  obtain ⟨⟨aJ,au,av,bk⟩,A12,H⟩:=ybi H
  try dsimp only at H
  obtain ⟨⟨aK,am,ap,bl⟩,A13,H⟩:=ybi H
  try dsimp only at H
  obtain ⟨⟨bf,bg,bh⟩,A14,H⟩:=ybi H
  try dsimp only at H
  obtain ⟨aI,A15,H⟩:=ybi H
  obtain ⟨c16,H⟩:=yif H
  subst c16
  by_cases c17 : bk=bl
  ·
   rw [za4 c17] at H
   obtain ⟨bn,bo⟩:=yE c17
   clear c17
   obtain ⟨aE,A18,H⟩:=ybi H
   obtain rfl:=zO H
   try go_wp2_with (first|((with_reducible refine zL (N:=24) rfl ?_);refine Kd.R_lit (Kd.int .u8) _ 5 ?hg (N:=24) ?hd (xs:=([] : List Int)) (inner := []) (ok:=fun _=>True) (okp:=fun _=>True) ?hr ?hp (fun _ hk=>hk) trivial (zY _ _) (zX _) (by simp) ?_;(case hd=>rfl);(case hg=>rfl);(case hr=>first|(go_simp;done)|(go_simp;rfl));(case hp=>exact (Reps.none _ _));intro bp w19 bi hb hg_ hnew_;clear hg_ hnew_;(first|rw [← bd.out] at bi|(simp only [Int.reduceToNat] at bi;rw [← bd.out] at bi));have bj:=zm (za0 bi (zE yhb));replace HB:=ybs hb;clear hb bi)|((with_reducible refine zb9 (b:=.append) (xs := #[.tmp 24, .tmp 25]) rfl ?_);at_builtin;refine Kd.R_append_rows (Kd.int .u8) (w0:=w) w.heap.size rfl (.tmp 24) (.tmp 25) 28 5 (.int .u8 0) 1 rfl Try.underlying28 info5 rfl (by decide) (by omega) bp aD l2 _ _ _ (fun _=>True) (fun _=>False) rfl rfl ?aO ?aR (fun _ _ h=>h) (fun _ h=>h.elim) ?aF ?aB ?aS ?aL ?_;(case aR=>exact ycb HR2);(case aB=>exact yhb);(case aF=>exact (fun _ _=>trivial));(case aO=>exact (yr bj));(case aS=>exact (zE yhb));(case aL=>have:=LMc11.out;omega);intro bN w21 ho hb hg hat;rw [← bm.out] at ho;replace HB:=zm (hb);have ac:=zm (ho);clear bj;clear ho hb hg hat;obtain ⟨a9,ba,bA⟩:=zT ac.out;subst bA)|((with_reducible refine zK (f:=20) rfl ?_);refine ygl 28 Try.func20 #[.int .i64 a0, .int .i64 a1, .slice a9 az.length ba, .slice A3 l3.length c3] ?_;(with_reducible refine (cpack_Read.calls kj4 a0 a1 _ _ az _ _ l3 aJ au av bk _ ?ay ?aQ ?aT HC3.out A12.out).mono ?_);(case ay=>exact yce (zQ ac.out).2.2);(case aQ=>exact (zQ ac.out).2.1);(case aT=>exact ycb HR3);rintro e w23 ⟨bO,bP,rfl,ho0,ho1,hb⟩;refine ⟨_,rfl, ?_⟩;replace ac:=yRb ac hb;have ae:=zm (Kd.S_lower ho0 (zE yhb));have af:=zm (za0 ho1 (zE yhb));replace HB:=ybs hb;(try clear hb);(try clear ho0);(try clear ho1))|((with_reducible refine zL (N:=9) rfl ?_);refine ybx 9 #[.bool false, .slice none 0 0, .slice none 0 0] 25 ?_;intro aq hg w24 hbox hb;replace ac:=yRb ac hb;replace ae:=ySb ae hb;replace af:=yRb af hb;have aa:=zm (hbox);have bB:=ygw hg;have bC:=ygw hg;replace HB:=ybs hb;clear hb hbox hg;obtain ⟨_,_,_,_,_,_⟩:=yc3 aa;obtain ⟨aM,aN,bD⟩:=zV ae.out;subst bD;obtain ⟨aY,aZ,bE⟩:=zT af.out;subst bE)|((with_reducible refine zK (f:=21) rfl ?_);refine ygl 36 Try.func21 #[.int .i64 a0, .int .i64 a1, .slice A2 l2.length c2, .slice A3 l3.length c3] ?_;(with_reducible refine (r13_Read.calls kj4 a0 a1 _ _ l2 _ _ l3 aK am ap bl _ ?ay HC2.out ?aT HC3.out A13.out).mono ?_);(case ay=>exact Kd.C_below HR2.out yhb);(case aT=>exact Kd.C_below HR3.out yhb);rintro e w28 ⟨bQ,bR,rfl,ho0,ho1,hb⟩;refine ⟨_,rfl, ?_⟩;replace ac:=zm (Kd.R_below (yR1 ac aa) hb);have ai:=zm (Kd.S_lower (Kd.S_new' ho0 (Kd.S_lt (yS1 ae aa))) (zE yhb));have ah:=zm (za0 (Kd.R_new' (Kd.R_new' ho1 (Kd.S_lt (yS1 ae aa))) (Kd.R_lt (yR1 af aa))) (zE yhb));replace ae:=zm (za8 (yS1 ae aa) (Kd.S_base ho0) hb);replace af:=zm (zG (Kd.R_told (Kd.R_told (Kd.R_old (yR1 af aa) hb) (Kd.S_base ho0)) (zW ho1)) (fun _ h_=>h_.1));replace aa:=zm (zF (g:=aq) (o:=.cells #[.bool aJ, .slice aM au.length aN, .slice aY av.length aZ] 25 (0,0)) (ykp aa) hb);replace HB:=ybs hb;(try clear hb);(try clear ho0);(try clear ho1))|((with_reducible refine zL (N:=11) rfl ?_);refine ybx 11 #[.bool false, .slice none 0 0, .slice none 0 0] 33 ?_;intro ao hg w29 hbox hb;replace ac:=yRb ac hb;replace ae:=ySb ae hb;replace af:=yRb af hb;replace ai:=ySb ai hb;replace ah:=yRb ah hb;have ag:=zm (hbox);have bF:=ygw hg;have bG:=ygw hg;replace HB:=ybs hb;have aU:=ynl aa hg;have aV:=yng aa hg;replace aa:=ybb aa hb;clear hb hbox hg;have:=aV.out;have:=aU.out;obtain ⟨_,_,_,_,_,_⟩:=yc3 ag;obtain ⟨aA,aC,bH⟩:=zV ai.out;subst bH;obtain ⟨aG,aH,bI⟩:=zT ah.out;subst bI))
   obtain ⟨w34,hw_⟩ : ∃ x,x=(((w29.setCell ⟨ao,0,none⟩ (.bool aK)).setCell ⟨ao,1,none⟩ (.slice aA am.length aC)).setCell ⟨ao,2,none⟩ (.slice aG ap.length aH)):=⟨_,rfl⟩
   rw [← hw_]
   replace ac : Aside0 (Kd.R (Kd.int .u8) 5 w34 w.heap.size (fun _=>True) (.slice a9 az.length ba) az):=⟨by rw [hw_];exact (yR1 ac ag)⟩
   replace ae : Aside0 (Kd.S (Kd.slice 3 (Kd.int .i64)) 49 w34 w.heap.size (fun k_=>some k_≠(.slice aA am.length aC : Value).ownBlock) (.slice aM au.length aN) au):=⟨by rw [hw_];exact (yS1 ae ag)⟩
   replace af : Aside0 (Kd.R (Kd.slice 49 (Kd.slice 3 (Kd.int .i64))) 22 w34 w.heap.size (fun k_=>some k_≠(.slice aM au.length aN : Value).ownBlock∧some k_≠(.slice aA am.length aC : Value).ownBlock∧some k_≠(.slice aG ap.length aH : Value).ownBlock) (.slice aY av.length aZ) av):=⟨by rw [hw_];exact (yR1 af ag)⟩
   replace ai : Aside0 (Kd.S (Kd.slice 3 (Kd.int .i64)) 49 w34 w.heap.size (fun k_=>some k_≠(.slice aM au.length aN : Value).ownBlock) (.slice aA am.length aC) am):=⟨by rw [hw_];exact (yS1 ai ag)⟩
   replace ah : Aside0 (Kd.R (Kd.slice 49 (Kd.slice 3 (Kd.int .i64))) 22 w34 w.heap.size (fun k_=>some k_≠(.slice aM au.length aN : Value).ownBlock∧some k_≠(.slice aY av.length aZ : Value).ownBlock∧some k_≠(.slice aA am.length aC : Value).ownBlock) (.slice aG ap.length aH) ap):=⟨by rw [hw_];exact (yR1 ah ag)⟩
   replace aa : Aside0 (w34.heap[aq]? = some (.cells #[.bool aJ, .slice aM au.length aN, .slice aY av.length aZ] 25 (0,0))):=⟨by rw [hw_];exact (yk aa)⟩
   replace ag : Aside0 (w34.heap[ao]? = some (.cells #[.bool aK, .slice aA am.length aC, .slice aG ap.length aH] 33 (0,0))):=⟨by rw [hw_];exact (ykp ag)⟩
   replace HB : Aside0 (Below w.heap.size w w34):=⟨by rw [hw_];exact (yhb)⟩
   clear hw_
   replace ac:=zm (zq ac.out)
   replace ae:=zm (Kd.S_drew ae.out)
   replace af:=zm (zq af.out)
   replace ai:=zm (Kd.S_drew ai.out)
   replace ah:=zm (zq ah.out)
   replace aa:=zm (zj aa.out)
   replace ag:=zm (zj ag.out)
   replace HB:=zm (zf HB.out)
   refine yst (fun w' => w'.cell? ⟨aq,0,none⟩=some (.bool aJ)∧w'.cell? ⟨aq,1,none⟩=some (.slice aM au.length aN)∧w'.cell? ⟨aq,2,none⟩=some (.slice aY av.length aZ)∧w'.cell? ⟨ao,0,none⟩=some (.bool aK)∧w'.cell? ⟨ao,1,none⟩=some (.slice aA am.length aC)∧w'.cell? ⟨ao,2,none⟩=some (.slice aG ap.length aH)) [] 13 w13_PackReads.tab5 w13_PackReads.bits5 (fun hHeld HT_ HW_ => ?_)
   generalize w34.drew=w35 at ac ae af ai ah aa ag HB hHeld ⊢
   refine yl 0 39 HT_ HW_ hHeld ?_
   refine yl 2 41 HT_ HW_ hHeld ?_
   refine yw 1 40 HT_ (fun K hK => ?_)
   refine ygs Try.func14 #[.agg #[.bool aJ, .slice aM au.length aN, .slice aY av.length aZ]] ?_
   with_reducible refine (w13_As.calls aJ (fun k_=>(((((some k_≠(.slice aA am.length aC : Value).ownBlock∧some k_≠(.slice a9 az.length ba : Value).ownBlock)∧some k_≠(.slice aY av.length aZ : Value).ownBlock)∧some k_≠(.slice aG ap.length aH : Value).ownBlock)∧k_≠aq)∧k_≠ao)) _ _ au (fun k_=>((((some k_≠(.slice aM au.length aN : Value).ownBlock∧(some k_≠(.slice aA am.length aC : Value).ownBlock∧some k_≠(.slice aG ap.length aH : Value).ownBlock))∧some k_≠(.slice a9 az.length ba : Value).ownBlock)∧k_≠aq)∧k_≠ao)) _ _ av bf bg bh _ ?ay ?aQ A14.out).mono ?_
   (case ay=>exact Kd.S_V (Kd.S_types (Kd.S_types (Kd.S_apart' (Kd.S_apart' (Kd.S_apart' (ae.out) (Kd.R_typed ac.out) (by decide)) (Kd.R_typed af.out) (by decide)) (Kd.R_typed ah.out) (by decide)) aa.out (by decide)) ag.out (by decide)))
   (case aQ=>exact Kd.R_V (Kd.R_types (Kd.R_types (zZ (af.out) (Kd.R_typed ac.out) (by decide)) aa.out (by decide)) ag.out (by decide)))
   rintro e w36 ⟨bS,bT,rfl,ho0,ho1,hb⟩
   refine ⟨_,rfl, ?_⟩
   replace ae:=ySb ae hb
   replace af:=yRb af hb
   have aw:=yho (fun k_=>some k_≠(.slice a9 az.length ba : Value).ownBlock∧some k_≠(.slice aA am.length aC : Value).ownBlock∧some k_≠(.slice aG ap.length aH : Value).ownBlock∧k_≠aq∧k_≠ao) ho0 (fun k_ hk_=>⟨yoR ac hk_,yoS ai hk_,yoR ah hk_,yoB aa hk_,yoB ag hk_⟩)
   have ax:=yho (fun k_=>some k_≠(.slice a9 az.length ba : Value).ownBlock∧some k_≠(.slice aA am.length aC : Value).ownBlock∧some k_≠(.slice aG ap.length aH : Value).ownBlock∧k_≠aq∧k_≠ao) ho1 (fun k_ hk_=>⟨yoR ac hk_,yoS ai hk_,yoR ah hk_,yoB aa hk_,yoB ag hk_⟩)
   replace ac:=yRb ac hb
   replace ai:=ySb ai hb
   replace ah:=yRb ah hb
   replace aa:=ybb aa hb
   replace ag:=ybb ag hb
   replace HB:=ybs hb
   (try clear hb)
   (try clear ho0)
   (try clear ho1)
   obtain ⟨bJ,bK,bq⟩:=zU aw.out
   (first|subst bq|(injection bq with f1_ f2_ f3_;have f4_:=f1_.symm;have f5_:=f3_.symm;clear f1_ f2_ f3_;subst f4_;subst f5_))
   obtain ⟨bL,bM,br⟩:=zU ax.out
   (first|subst br|(injection br with f1_ f2_ f3_;have f4_:=f1_.symm;have f5_:=f3_.symm;clear f1_ f2_ f3_;subst f4_;subst f5_))
   refine hK.out _ _ yH (fun hHeld => ?_)
   clear hK K
   refine ym (some 40) ?_
   refine yw 3 42 HT_ (fun K hK => ?_)
   refine ygs Try.func22 #[.agg #[.bool bf, .slice bJ bg.length bK, .slice bL bh.length bM], .agg #[.bool aK, .slice aA am.length aC, .slice aG ap.length aH]] ?_
   with_reducible refine (r13_Same.calls kj4 bf _ _ bg _ _ bh aK _ _ am _ _ ap true _ ?ay ?aQ ?aT ?bs ?bu ?bv ?bw ?bx A15.out).mono ?_
   (case ay=>exact yce (zR aw.out).2.2)
   (case aQ=>exact (zR aw.out).2.1)
   (case aT=>exact yce (zR ax.out).2.2)
   (case bs=>exact (zR ax.out).2.1)
   (case bu=>exact yce (zS ai.out).2.2)
   (case bv=>exact (zS ai.out).2.1)
   (case bw=>exact yce (zQ ah.out).2.2)
   (case bx=>exact (zQ ah.out).2.1)
   rintro e w39 ⟨rfl,hb⟩
   refine ⟨_,rfl, ?_⟩
   replace ac:=yRb ac hb
   replace ae:=ySb ae hb
   replace af:=yRb af hb
   replace ai:=ySb ai hb
   replace ah:=yRb ah hb
   replace aw:=yVb aw hb
   replace ax:=yVb ax hb
   replace aa:=ybb aa hb
   replace ag:=ybb ag hb
   replace HB:=ybs hb
   (try clear hb)
   refine hK.out _ _ yH (fun hHeld => ?_)
   clear hK K
   refine ym (some 42) ?_
   refine yp 4 43 HT_ ?_
   refine yp 5 44 HT_ ?_
   refine yp 6 45 HT_ ?_
   refine yp 7 46 HT_ ?_
   refine yp 8 47 HT_ ?_
   refine yp 9 48 HT_ ?_
   refine yw 10 49 HT_ (fun K hK => ?_)
   refine ygs Try.func11 #[] ?_
   with_reducible refine (w13_knows.calls kj4  aE _ A18.out).mono ?_
   rintro e w40 ⟨rfl,hb⟩
   refine ⟨_,rfl, ?_⟩
   replace ac:=yRb ac hb
   replace ae:=ySb ae hb
   replace af:=yRb af hb
   replace ai:=ySb ai hb
   replace ah:=yRb ah hb
   replace aw:=yVb aw hb
   replace ax:=yVb ax hb
   replace aa:=ybb aa hb
   replace ag:=ybb ag hb
   replace HB:=ybs hb
   (try clear hb)
   refine hK.out _ _ yH (fun hHeld => ?_)
   clear hK K
   refine ym (some 49) ?_
   refine yp 11 50 HT_ ?_
   refine yp 12 8 HT_ ?_
   refine done_ (done_of HT_.out (by kernel_rfl)) ?_
   try go_wp2
   go_ret
   exact ⟨ye,yhb⟩
  rw [za5 c17] at H
  obtain ⟨bn,bo⟩:=yF c17
  exact absurd H (by simp)
end Go.Proofs.Ytnmbndkojpjkmaa.Prt
