-- Functions of the program and of the document as plain Lean, each with the proof that the code comes to it. Written by a program of this session (wip/tools/myprint.py, pack.py) over the kit's printer; Lean checks it.
import Derived.Test.YtifkhfnmbiefaaaZToneNormsPrt0
import Derived.Test.YtifkhfnmbiefaaaZToneNormsM1
import Derived.Test.YtifkhfnmbiefaaaZToneNormsSh
namespace Go.Proofs.Ytifkhfnmbiefaaa.Prt
open Go.RowKit Go.Proofs.YtifkhfnmbiefaaaW.PrintWords Go.Proofs.YtifkhfnmbiefaaaW.PrintLast Go.Proofs.YtifkhfnmbiefaaaW.PrintMore
attribute [local go_sem] max2_int min2_int max_two min_two max_three min_three max_four min_four   -- for this text's walks alone
set_option linter.unusedVariables false
set_option linter.unusedSimpArgs false


def pvq_Square.l0 : Nat→Int→List Int→Int→Int→Option (Int × Int)
 | 0,_,_,_,_=>none
 | k+1,x4,x10,x11,x12=>if x12 < x11 then (if 0≤x12 then (if x12 < (x10.length : Int) then (pvq_Square.l0 k (IntKind.u64.wrap (x4+(IntKind.u64.wrap (wrap64 ((rd x10 x12) * (rd x10 x12)))))) x10 x11 (wrap64 (x12+1))) else (none)) else (none)) else (some (x4,0))
def pvq_Square.f (k : Nat) (l0 : List Int) : Option (Int × Int):=(pvq_fair.f k l0).bind fun t108=>(if t108=true then (pvq_Square.l0 k 0 l0 (l0.length : Int) 0) else (some (0,1)))
theorem pvq_Square.mono_l : ∀ k,(∀ y0 y1 y2 y3,LeO (pvq_Square.l0 k y0 y1 y2 y3) (pvq_Square.l0 (k+1) y0 y1 y2 y3))
 | 0=>fun _ _ _ _ r h=>by simp [pvq_Square.l0] at h
 | k+1=>by
  have ih0:=pvq_Square.mono_l k
  ·
   intro y0 y1 y2 y3
   unfold pvq_Square.l0
   repeat' with_reducible first|apply ih0|apply pvq_fair.mono|apply yLr|apply yLn|apply yLi|apply yLb|intro _
theorem pvq_Square.mono : ∀ a0 k,LeO (pvq_Square.f k a0) (pvq_Square.f (k+1) a0):=by
 intro a0 k
 have ih0:=pvq_Square.mono_l k
 unfold pvq_Square.f
 repeat' with_reducible first|apply ih0|apply pvq_fair.mono|apply yLr|apply yLn|apply yLi|apply yLb|intro _
set_option maxHeartbeats 8000000 in
set_option maxRecDepth 100000 in
theorem pvq_Square.calls (k : Nat) (A0 : Option Addr) (c0 : Nat) (l0 : List Int) (r1 : Int) (r2 : Int) (w : World) (hr0 : Kd.C (Kd.int .i64) w A0 l0.length l0) (hc0 : l0.length≤c0) (h : pvq_Square.f k l0=some (r1,r2)) :
  Calls Try.prog 76 #[.slice A0 l0.length c0] w fun e w' => e=.returned (.tuple #[.int .u64 r1, .int .i64 r2])∧Drawn0 w w' := by
 have HR0:=zm hr0;have HC0:=zm hc0;clear hr0 hc0
 have H : ((pvq_fair.f k l0).bind fun t108=>(if t108=true then (pvq_Square.l0 k 0 l0 (l0.length : Int) 0) else (some (0,1))))=some (r1,r2):=h
 clear h
 replace H:=ybi H;obtain ⟨t108,A2,H⟩:=H
 by_cases c3 : t108=true
 ·
  subst c3
  rw [if_pos rfl] at H
  have H' := zm H
  clear H
  go_enter Try.func76,Try.ntmps76
  go_wp2_with (first|((with_reducible refine gate_callee (f:=78) rfl ?_);refine ygl 8 Try.func78 #[.slice A0 l0.length c0] ?_;(with_reducible refine (pvq_fair.calls k _ _ l0 true _ ?side1 HC0.out A2.out).mono ?_);(case side1=>exact yce HR0.out);rintro e w' ⟨rfl,⟨nd,rfl⟩⟩;refine ⟨_,rfl, ?_⟩))
  go_loopg [4,12] k (fun kq v4 v12 w' => ∃ (x4_1 : Int) (x12_1 : Int),v4=.int .u64 x4_1∧v12=.int .i64 x12_1∧Aside0 (pvq_Square.l0 kq x4_1 l0 (l0.length : Int) x12_1=some (r1,r2))∧Aside0 (kq≤k)∧Drawn0 w w')
  case atStart=>exact ⟨(0),(0),yq,yq,H',⟨Nat.le_refl _⟩,yd⟩
  case round =>
   clear H'
   obtain ⟨x4_1,x12_1,rfl,rfl,HA,HK1,⟨m1,rfl⟩⟩:=hrel
   obtain ⟨k1,rfl⟩:=ysu gk (fun h=>by subst h;exact absurd HA.out (by simp [pvq_Square.l0]))
   have H:=HA.out;clear HA
   simp only [pvq_Square.l0] at H
   by_cases c4 : x12_1 < (l0.length : Int)
   ·
    rw [if_pos c4] at H
    have c4b0 : decide (x12_1 < (l0.length : Int))=true:=decide_eq_true c4
    clear c4
    replace H:=yif H;obtain ⟨c5,H⟩:=H
    have c5b0 : decide (0≤x12_1)=true:=decide_eq_true c5
    clear c5
    replace H:=yif H;obtain ⟨c6,H⟩:=H
    have c6b0 : decide (x12_1 < (l0.length : Int))=true:=decide_eq_true c6
    clear c6
    have H' := zm H
    clear H
    obtain ⟨ad109,e109,hx109_0,p109,q109⟩:=yai HR0 x12_1
    cases e109
    go_wp2
    go_roundg k1
    case measure=>exact yom1 HK1
    case rel=>exact ⟨(IntKind.u64.wrap (x4_1+(IntKind.u64.wrap (wrap64 ((rd l0 x12_1) * (rd l0 x12_1)))))),(wrap64 (x12_1+1)),yq,yq,H',⟨yom1 HK1⟩,yd⟩
   ·
    rw [if_neg c4] at H
    have c4b0 : decide (x12_1 < (l0.length : Int))=false:=decide_eq_false c4
    clear c4
    simp only [Option.some.injEq,Prod.mk.injEq] at H
    obtain ⟨rfl,rfl⟩:=H
    go_wp2
    go_ret2
    exact ⟨yq,yd⟩
 ·
  replace c3:=Bool.eq_false_iff.mpr c3
  subst c3
  rw [ynf] at H
  simp only [Option.some.injEq,Prod.mk.injEq] at H
  obtain ⟨rfl,rfl⟩:=H
  go_enter Try.func76,Try.ntmps76
  go_wp2_with (first|((with_reducible refine gate_callee (f:=78) rfl ?_);refine ygl 8 Try.func78 #[.slice A0 l0.length c0] ?_;(with_reducible refine (pvq_fair.calls k _ _ l0 false _ ?side1 HC0.out A2.out).mono ?_);(case side1=>exact yce HR0.out);rintro e w' ⟨rfl,⟨nd,rfl⟩⟩;refine ⟨_,rfl, ?_⟩))
  go_ret2
  exact ⟨yq,yd⟩
def band_Gain.f (k : Nat) (l0 : List Int) : Option (Int × Int):=(pvq_Square.f k l0).bind fun bt136=>(if bt136.2=0 then (if (l0.length : Int) > 8 then (some (0,1)) else ((band_gain.f k bt136.1).bind fun t138=>(some (t138,0)))) else (some (0,1)))
theorem band_Gain.mono : ∀ a0 k,LeO (band_Gain.f k a0) (band_Gain.f (k+1) a0):=by
 intro a0 k
 unfold band_Gain.f
 repeat' with_reducible first|apply band_gain.mono|apply pvq_Square.mono|apply yLr|apply yLn|apply yLi|apply yLb|intro _
set_option maxHeartbeats 8000000 in
set_option maxRecDepth 100000 in
theorem band_Gain.calls (k : Nat) (A0 : Option Addr) (c0 : Nat) (l0 : List Int) (r1 : Int) (r2 : Int) (w : World) (hr0 : Kd.C (Kd.int .i64) w A0 l0.length l0) (hc0 : l0.length≤c0) (h : band_Gain.f k l0=some (r1,r2)) :
  Calls Try.prog 71 #[.slice A0 l0.length c0] w fun e w' => e=.returned (.tuple #[.int .i64 r1, .int .i64 r2])∧Drawn0 w w' := by
 have HR0:=zm hr0;have HC0:=zm hc0;clear hr0 hc0
 have H : ((pvq_Square.f k l0).bind fun bt136=>(if bt136.2=0 then (if (l0.length : Int) > 8 then (some (0,1)) else ((band_gain.f k bt136.1).bind fun t138=>(some (t138,0)))) else (some (0,1))))=some (r1,r2):=h
 clear h
 replace H:=ybi H;obtain ⟨⟨t136,t137⟩,A2,H⟩:=H
 try dsimp only at H
 by_cases c3 : t137=0
 ·
  rw [if_pos c3] at H
  have c3b0 : (t137 == 0)=true:=beq_iff_eq.mpr c3
  have c3b1 : (t137 != 0)=false:=bne_eq_false_iff_eq.mpr c3
  clear c3
  by_cases c4 : (l0.length : Int) > 8
  ·
   rw [if_pos c4] at H
   have c4b0 : decide (8 < (l0.length : Int))=true:=decide_eq_true c4
   have c4b1 : decide (8 < l0.length)=true:=decide_eq_true (by omega)
   clear c4
   simp only [Option.some.injEq,Prod.mk.injEq] at H
   obtain ⟨rfl,rfl⟩:=H
   go_enter Try.func71,Try.ntmps71
   go_wp2_with (first|((with_reducible refine gate_callee (f:=76) rfl ?_);refine ygl 8 Try.func76 #[.slice A0 l0.length c0] ?_;(with_reducible refine (pvq_Square.calls k _ _ l0 t136 t137 _ ?side1 HC0.out A2.out).mono ?_);(case side1=>exact yce HR0.out);rintro e w' ⟨rfl,⟨nd,rfl⟩⟩;refine ⟨_,rfl, ?_⟩))
   go_ret2
   exact ⟨yq,yd⟩
  ·
   rw [if_neg c4] at H
   have c4b0 : decide (8 < (l0.length : Int))=false:=decide_eq_false c4
   have c4b1 : decide (8 < l0.length)=false:=decide_eq_false (by omega)
   clear c4
   replace H:=ybi H;obtain ⟨t138,A5,H⟩:=H
   simp only [Option.some.injEq,Prod.mk.injEq] at H
   obtain ⟨rfl,rfl⟩:=H
   go_enter Try.func71,Try.ntmps71
   go_wp2_with (first|((with_reducible refine gate_callee (f:=76) rfl ?_);refine ygl 8 Try.func76 #[.slice A0 l0.length c0] ?_;(with_reducible refine (pvq_Square.calls k _ _ l0 t136 t137 _ ?side1 HC0.out A2.out).mono ?_);(case side1=>exact yce HR0.out);rintro e w' ⟨rfl,⟨nd,rfl⟩⟩;refine ⟨_,rfl, ?_⟩)|((with_reducible refine gate_callee (f:=110) rfl ?_);refine ygl 19 Try.func110 #[.int .u64 t136] ?_;(with_reducible refine (band_gain.calls k t136 t138 _ A5.out).mono ?_);rintro e w' ⟨rfl,⟨nd,rfl⟩⟩;refine ⟨_,rfl, ?_⟩))
   go_ret2
   exact ⟨yq,yd⟩
 ·
  rw [if_neg c3] at H
  have c3b0 : (t137 == 0)=false:=beq_eq_false_iff_ne.mpr c3
  have c3b1 : (t137 != 0)=true:=bne_iff_ne.mpr c3
  simp only [Option.some.injEq,Prod.mk.injEq] at H
  obtain ⟨rfl,rfl⟩:=H
  go_enter Try.func71,Try.ntmps71
  go_wp2_with (first|((with_reducible refine gate_callee (f:=76) rfl ?_);refine ygl 8 Try.func76 #[.slice A0 l0.length c0] ?_;(with_reducible refine (pvq_Square.calls k _ _ l0 t136 t137 _ ?side1 HC0.out A2.out).mono ?_);(case side1=>exact yce HR0.out);rintro e w' ⟨rfl,⟨nd,rfl⟩⟩;refine ⟨_,rfl, ?_⟩))
  go_ret2
  exact ⟨yq,yd⟩
mutual
def band_Split.j0 : Nat→List Int→Bool→Option ((List (List Int)) × Int)
 | 0,_,_=>none
 | k+1,x0,x22=>if x22=true then (some (([] : List (List Int)),1)) else ((some (([] : List Int) : List Int)).bind fun y112=>(if y112.length+x0.length < 17592186044416 then (band_Split.l0 k (y112 ++ x0) ([] : List (List Int)) 0) else (none)))
def band_Split.l0 : Nat→List Int→List (List Int)→Int→Option ((List (List Int)) × Int)
 | 0,_,_,_=>none
 | k+1,x6,x7,x26=>if x26 < 5 then ((band_From.f x26).bind fun t118=>((band_Width.f x26).bind fun t119=>(if 0≤t118 then (if t118≤(wrap64 (t118+t119)) then (if (wrap64 (t118+t119))≤(x6.length : Int) then (if x7.length < 5864062014805 then (band_Split.l0 k x6 (x7 ++ [((x6.take ((wrap64 (t118+t119)) : Int).toNat).drop (t118 : Int).toNat)]) (wrap64 (x26+1))) else (none)) else (none)) else (none)) else (none)))) else (some (x7,0))
end
def band_Split.f (k : Nat) (l0 : List Int) : Option ((List (List Int)) × Int):=(pvq_Square.f k l0).bind fun bt110=>(if bt110.2=0 then (band_Split.j0 k l0 ((l0.length : Int) != 16)) else (band_Split.j0 k l0 true))
theorem band_Split.mono_l : ∀ k,(∀ y0 y1,LeO (band_Split.j0 k y0 y1) (band_Split.j0 (k+1) y0 y1))∧(∀ y0 y1 y2,LeO (band_Split.l0 k y0 y1 y2) (band_Split.l0 (k+1) y0 y1 y2))
 | 0=>⟨fun _ _ r h=>by simp [band_Split.j0] at h,fun _ _ _ r h=>by simp [band_Split.l0] at h⟩
 | k+1=>by
  obtain ⟨ih0,ih1⟩:=band_Split.mono_l k
  refine ⟨?_, ?_⟩
  ·
   intro y0 y1
   unfold band_Split.j0
   repeat' with_reducible first|apply ih0|apply ih1|apply pvq_Square.mono|apply yLr|apply yLn|apply yLi|apply yLb|intro _
  ·
   intro y0 y1 y2
   unfold band_Split.l0
   repeat' with_reducible first|apply ih0|apply ih1|apply pvq_Square.mono|apply yLr|apply yLn|apply yLi|apply yLb|intro _
theorem band_Split.mono : ∀ a0 k,LeO (band_Split.f k a0) (band_Split.f (k+1) a0):=by
 intro a0 k
 obtain ⟨ih0,ih1⟩:=band_Split.mono_l k
 unfold band_Split.f
 repeat' with_reducible first|apply ih0|apply ih1|apply pvq_Square.mono|apply yLr|apply yLn|apply yLi|apply yLb|intro _
/-- A cut with a capacity: all[lo:hi:hi]. -/
theorem band_Split.cut3 {P : Program} (t e : TypeId) (kl kh km : IntKind) {i : TypeInfo} (ht : P.underlying t=some (.slice e)) (hi : P.info? e=some i) (size : Nat) (hsz : i.size=size) (A : Option Addr) (n c : Nat) (lo hi' : Int) (h0 : 0≤lo) (h1 : lo≤hi') (h2 : hi'≤c) :
  ∀ W : World,(Instr.slice t (.slice A n c) (some (.int kl lo)) (some (.int kh hi')) (some (.int km hi'))).run P W=.ok (.slice (if hi'.toNat=lo.toNat then A else A.map (·.add (lo.toNat * size))) (hi'.toNat - lo.toNat) (hi'.toNat - lo.toNat)) W:=by
 intro W
 have hel : P.elem t=e:=by simp [Program.elem,ht]
 have hu : P.underlying t=some (.slice (P.elem t)):=by rw [hel];exact ht
 rw [run_slice_lhm W t A n c hu kl kh km lo hi' hi' h0 h1 (Int.le_refl _) h2,hel]
 simp [sizeOf,typeInfo,hi,hsz,sliced,Result.andThen]
set_option maxHeartbeats 8000000 in
set_option maxRecDepth 100000 in
theorem band_Split.calls (k : Nat) (A0 : Option Addr) (c0 : Nat) (l0 : List Int) (r1 : List (List Int)) (r2 : Int) (w : World) (hr0 : Kd.C (Kd.int .i64) w A0 l0.length l0) (hc0 : l0.length≤c0) (h : band_Split.f k l0=some (r1,r2)) :
  Calls Try.prog 38 #[.slice A0 l0.length c0] w fun e w' => ∃ v0_ : Value,e=.returned (.tuple #[v0_, .int .i64 r2])∧Kd.N (Kd.slice 2 (Kd.int .i64)) 53 w' w.heap.size (fun k_=>(w.heap.size≤k_)) v0_ r1∧Below w.heap.size w w' := by
 have HR0:=zm hr0;have HC0:=zm hc0;clear hr0 hc0;have HB:=zm (Below.refl w.heap.size w)
 have H : ((pvq_Square.f k l0).bind fun bt110=>(if bt110.2=0 then (band_Split.j0 k l0 ((l0.length : Int) != 16)) else (band_Split.j0 k l0 true)))=some (r1,r2):=h
 clear h
 replace H:=ybi H;obtain ⟨⟨t110,t111⟩,A2,H⟩:=H
 try dsimp only at H
 have HC3:=zm H;clear H
 go_enter Try.func38,Try.ntmps38
 go_upto_region 2 with (first|((with_reducible refine gate_callee (f:=76) rfl ?_);refine ygl 13 Try.func76 #[.slice A0 l0.length c0] ?_;(with_reducible refine (pvq_Square.calls k _ _ l0 t110 t111 _ ?side1 HC0.out A2.out).mono ?_);(case side1=>exact yce HR0.out);rintro e w' ⟨rfl,⟨nd,rfl⟩⟩;refine ⟨_,rfl, ?_⟩))
 (try simp only [Act.put,List.setIfInBounds_toArray,List.set_cons_zero,List.set_cons_succ])
 go_cut [22] (fun v22 wc => ∃ (kq : Nat) (x22_2 : Bool),v22=.bool x22_2∧Aside0 (band_Split.j0 kq l0 x22_2=some (r1,r2))∧Aside0 (kq≤k)∧Aside0 (Below w.heap.size w wc))
 case first =>
  have H:=HC3.out;clear HC3
  by_cases c4 : t111=0
  ·
   rw [if_pos c4] at H
   have c4b0 : (t111 == 0)=true:=beq_iff_eq.mpr c4
   have c4b1 : (t111 != 0)=false:=bne_eq_false_iff_eq.mpr c4
   clear c4
   (first|rw [c4b0]|(simp only [i64_w,i32_w];rw [c4b0])|skip)
   have H' := zm H
   clear H
   go_wp2
   go_meet
   case rel=>exact ⟨_,(((l0.length : Int) != 16)),yq,H',⟨yo⟩,⟨yhb⟩⟩
  ·
   rw [if_neg c4] at H
   have c4b0 : (t111 == 0)=false:=beq_eq_false_iff_ne.mpr c4
   have c4b1 : (t111 != 0)=true:=bne_iff_ne.mpr c4
   (first|rw [c4b0]|(simp only [i64_w,i32_w];rw [c4b0])|skip)
   have H' := zm H
   clear H
   go_wp2
   go_meet
   case rel=>exact ⟨_,(true),yq,H',⟨yo⟩,⟨yhb⟩⟩
 case rest =>
  clear HC3
  obtain ⟨kq,x22_2,rfl,HA,HJ2,HB⟩:=hcut
  obtain ⟨kj2,rfl⟩:=ysu kq (fun h=>by subst h;exact absurd HA.out (by simp [band_Split.j0]))
  have H:=HA.out;clear HA
  simp only [band_Split.j0] at H
  by_cases c5 : x22_2=true
  ·
   subst c5
   rw [if_pos rfl] at H
   simp only [Option.some.injEq,Prod.mk.injEq] at H
   obtain ⟨rfl,rfl⟩:=H
   go_wp2
   go_ret2
   exact ⟨_,ye,yn,yhb⟩
  ·
   replace c5:=Bool.eq_false_iff.mpr c5
   subst c5
   rw [ynf] at H
   obtain ⟨y112,hy112⟩ : ∃ y_ : List Int,y_=(([] : List Int)):=⟨_,rfl⟩
   replace H : (if y112.length+l0.length < 17592186044416 then (band_Split.l0 kj2 (y112 ++ l0) ([] : List (List Int)) 0) else (none))=some (r1,r2):=yrw hy112 H
   have Ny112:=zm hy112;clear hy112
   replace H:=yif H;obtain ⟨c6,H⟩:=H
   have LMc6:=zm c6;clear c6
   obtain ⟨y115,hy115⟩ : ∃ y_ : List Int,y_=(y112 ++ l0):=⟨_,rfl⟩
   replace H : (band_Split.l0 kj2 y115 ([] : List (List Int)) 0)=some (r1,r2):=yrw hy115 H
   have Ny115:=zm hy115;clear hy115
   have H' := zm H
   clear H
   go_wp2_with (first|((with_reducible refine gate_dst (N:=23) rfl ?_);(try (refine gate_guard (by rfl) ?_;dsimp only));refine Kd.R_lit (Kd.int .i64) _ 2 ?hg (N:=23) ?hd (xs:=([] : List Int)) (inner := []) (ok:=fun _=>True) (okp:=fun _=>True) ?hr ?hp (fun _ hk=>hk) trivial (Below.refl _ _) (Nat.le_refl _) (by simp) ?_;(case hd=>rfl);(case hg=>rfl);(case hr=>first|(go_simp;done)|(go_simp;rfl));(case hp=>exact (Reps.none _ _));intro v113 w7 ho8 hb hg_ hnew_;clear hg_ hnew_;(first|rw [← Ny112.out] at ho8|(simp only [Int.reduceToNat] at ho8;rw [← Ny112.out] at ho8));have HO114:=zm (Kd.R_lower (Kd.R_newM (M:=fun k_=>(w.heap.size≤k_)) ho8 (zE yhb) (fun k_ h_=>h_)) (zE yhb));replace HB:=ybs hb;clear hb ho8)|((with_reducible refine gate_builtin (b:=.append) (xs := #[.tmp 23, .tmp 24]) rfl ?_);(try (refine gate_guard (by rfl) ?_;dsimp only));at_builtin;refine Kd.R_append_rows (Kd.int .i64) (w0:=w) w.heap.size rfl (.tmp 23) (.tmp 24) 53 2 (.int .i64 0) 8 rfl Try.underlying53 info2 rfl (by decide) (by omega) v113 y112 l0 _ _ _ (fun k_=>(w.heap.size≤k_)) (fun _=>False) rfl rfl ?aO ?aR (fun _ _ h=>h) (fun _ h=>h.elim) ?aF ?aB ?aS ?aL ?_;(case aR=>exact ycb HR0);(case aB=>exact yhb);(case aF=>exact (fun k_ hk=>(Nat.le_trans (zE yhb) hk)));(case aO=>exact (yR0 HO114));(case aS=>exact (zE yhb));(case aL=>have:=LMc6.out;omega);intro v116 w9 ho hb hg hat;rw [← Ny115.out] at ho;replace HB:=zm (hb);have HO117:=zm (ho);clear HO114;clear ho hb hg hat))
   go_loopg [7,26] kj2 (fun kq v7 v26 w' => ∃ (x7_2 : List (List Int)) (x26_2 : Int),v26=.int .i64 x26_2∧Aside0 (band_Split.l0 kq y115 x7_2 x26_2=some (r1,r2))∧Aside0 (kq≤kj2)∧Aside0 (Kd.R (Kd.int .i64) 2 w' w.heap.size (fun k_=>(w.heap.size≤k_)) v116 y115)∧Aside0 (Kd.N (Kd.slice 2 (Kd.int .i64)) 53 w' w.heap.size (fun k_=>(w.heap.size≤k_)) v7 x7_2)∧Aside0 (Below w.heap.size w w'))
   case atStart=>exact ⟨(([] : List (List Int))),(0),yq,H',⟨Nat.le_refl _⟩,⟨yr HO117⟩,⟨yn⟩,⟨yhb⟩⟩
   case round =>
    clear H'
    obtain ⟨x7_2,x26_2,rfl,HA,HK2,HO_6,HO_7,HB⟩:=hrel
    obtain ⟨k2,rfl⟩:=ysu gk (fun h=>by subst h;exact absurd HA.out (by simp [band_Split.l0]))
    have H:=HA.out;clear HA
    simp only [band_Split.l0] at H
    by_cases c10 : x26_2 < 5
    ·
     rw [if_pos c10] at H
     have c10b0 : decide (x26_2 < 5)=true:=decide_eq_true c10
     clear c10
     replace H:=ybi H;obtain ⟨t118,A11,H⟩:=H
     replace H:=ybi H;obtain ⟨t119,A12,H⟩:=H
     replace H:=yif H;obtain ⟨c13,H⟩:=H
     have c13b0:=eq_true c13
     have c13b1 : decide (0≤t118)=true:=decide_eq_true c13
     clear c13
     replace H:=yif H;obtain ⟨c14,H⟩:=H
     have c14b0:=eq_true c14
     have c14b1 : decide (t118≤(wrap64 (t118+t119)))=true:=decide_eq_true c14
     replace H:=yif H;obtain ⟨c15,H⟩:=H
     have c15b0:=eq_true c15
     have c15b1 : decide ((wrap64 (t118+t119))≤(y115.length : Int))=true:=decide_eq_true c15
     obtain ⟨y120,hy120⟩ : ∃ y_ : List Int,y_=((y115.take ((wrap64 (t118+t119)) : Int).toNat).drop (t118 : Int).toNat):=⟨_,rfl⟩
     replace H : (if x7_2.length < 5864062014805 then (band_Split.l0 k2 y115 (x7_2 ++ [y120]) (wrap64 (x26_2+1))) else (none))=some (r1,r2):=yrw hy120 H
     have Ny120:=zm hy120;clear hy120
     replace H:=yif H;obtain ⟨c16,H⟩:=H
     have LMc16:=zm c16;clear c16
     obtain ⟨y125,hy125⟩ : ∃ y_ : List (List Int),y_=(x7_2 ++ [y120]):=⟨_,rfl⟩
     replace H : (band_Split.l0 k2 y115 y125 (wrap64 (x26_2+1)))=some (r1,r2):=yrw hy125 H
     have Ny125:=zm hy125;clear hy125
     have H' := zm H
     clear H
     go_wp2_with (first|((with_reducible refine gate_callee (f:=77) rfl ?_);refine ygl 30 Try.func77 #[.int .i64 x26_2] ?_;(with_reducible refine (band_From.calls x26_2 t118 _ A11.out).mono ?_);rintro e w' ⟨rfl,⟨nd,rfl⟩⟩;refine ⟨_,rfl, ?_⟩)|((with_reducible refine gate_callee (f:=48) rfl ?_);refine ygl 32 Try.func48 #[.int .i64 x26_2] ?_;(with_reducible refine (band_Width.calls x26_2 t119 _ A12.out).mono ?_);rintro e w17 ⟨rfl,hb⟩;refine ⟨_,rfl, ?_⟩;replace HO_6:=yRb HO_6 hb;replace HO_7:=yNb HO_7 hb;replace HB:=ybs hb;(try clear hb);obtain ⟨Ao19,co19,eo19⟩:=Kd.R_slice HO_6.out;subst eo19;have q18 : ((wrap64 (t118+t119)) : Int)≤((y115.length : Int) : Int):=yt;obtain ⟨i018,hi018,_,hsz18,_⟩:=info_parts info2;have hroom18 : y115.length≤co19:=(Kd.R_reads' HO_6.out).2.1;have hC18 : Kd.F (Kd.int .i64) _ _ Ao19 y115.length y115:=(Kd.V_at (base:=w.heap.size) (Kd.R_V (Kd.R_apart' (HO_6.out) (Kd.N_typed HO_7.out) (by decide)))).2.2;have ql18 : (t118 : Int)≤((wrap64 (t118+t119)) : Int):=yt;have q018 : (0 : Int)≤(t118 : Int):=yt;have hcut18:=band_Split.cut3 (P:=Try.prog) 53 2 .i64 .i64 .i64 Try.underlying53 hi018 1 hsz18 Ao19 y115.length co19 t118 (wrap64 (t118+t119)) q018 ql18 (by omega);have hr18:=Kd.F_cut (m:=(t118 : Int).toNat) (c:=((wrap64 (t118+t119)) : Int).toNat) (Kd.F_take (m:=((wrap64 (t118+t119)) : Int).toNat) hC18 (by omega)) (by rw [List.length_take];omega) (by rw [List.length_take];omega);obtain ⟨A18,hA18⟩ : ∃ A1,A1=(if ((wrap64 (t118+t119)) : Int).toNat=(t118 : Int).toNat then Ao19 else (Ao19 : Option Addr).map (·.add ((t118 : Int).toNat * 1))):=⟨_,rfl⟩;have hy18 : y120.length=((wrap64 (t118+t119)) : Int).toNat - (t118 : Int).toNat:=(by rw [Ny120.out,List.length_drop,List.length_take] <;> omega);rw [show ((y115).take ((wrap64 (t118+t119)) : Int).toNat).drop (t118 : Int).toNat=y120 from Ny120.out.symm] at hr18;replace hr18 : Kd.F (Kd.int .i64) _ _ A18 y120.length y120:=(by rw [hA18];exact hr18);rw [← hy18, ← hA18] at hcut18;have HO124:=zm (show Kd.V (Kd.int .i64) 2 _ w.heap.size _ (.slice A18 y120.length y120.length) y120 from Kd.V_mk (Nat.le_refl _) hr18);have HC124:=zm (show y120.length≤y120.length from Nat.le_refl _);clear hr18 hC18 hroom18 hi018 hsz18;have KY18:=zm hy18;have KA18:=zm hA18;clear hy18 hA18;replace q18:=eq_true q18)|((with_reducible refine gate_builtin (b:=.append) (xs := #[.tmp 33, .tmp 43]) rfl ?_);(try (refine gate_guard (by rfl) ?_;dsimp only));at_builtin;refine Kd.N_append (Kd.slice 2 (Kd.int .i64)) (w0:=w) w.heap.size rfl (.tmp 33) (.tmp 43) 22 53 (.slice none 0 0) 24 rfl Try.underlying22 info53 rfl (by decide) (by omega) u7 x7_2 y120 [.slice A18 y120.length y120.length] (fun k_=>(w.heap.size≤k_)) (fun k_=>((fun k_=>(w.heap.size≤k_))) k_∧some k_≠(u7 : Value).ownBlock) rfl rfl ?aP (fun _ hk=>hk) ?aF ?aO ?aB ?aS ?aL ?_;(case aP=>exact (Kd.FK_slice_mk (Kd.V_reads' (zy (ok' := (fun k_=>((fun k_=>(w.heap.size≤k_))) k_∧some k_≠(u7 : Value).ownBlock)) (HO124.out) (fun k_ hk=>⟨hk.1,hk.2⟩))).2.1 (Kd.V_F (zy (ok' := (fun k_=>((fun k_=>(w.heap.size≤k_))) k_∧some k_≠(u7 : Value).ownBlock)) (HO124.out) (fun k_ hk=>⟨hk.1,hk.2⟩)))));(case aB=>exact yhb);(case aF=>exact (fun k_ hk=>(Nat.le_trans (zE yhb) hk)));(case aO=>exact (yr HO_7));(case aS=>exact (zE yhb));(case aL=>have:=LMc16.out;omega);intro v126 w20 ho hb hg hat;rw [← Ny125.out] at ho;replace HO_6:=zm (Kd.R_over' (yr HO_6) (Kd.N_typed (yr HO_7)) (by decide) hg);replace HO124:=zm (Kd.V_afterv (ok:=(fun k_=>(w.heap.size≤k_))) (yr HO124) hg hat);replace HB:=zm (hb);have HO127:=zm (ho);clear HO_7;clear ho hb hg hat))
     go_roundg k2
     case measure=>exact yom2 HJ2 HK2
     case rel=>exact ⟨(y125),(wrap64 (x26_2+1)),yq,H',⟨yom2 HJ2 HK2⟩,⟨yr HO_6⟩,⟨yr HO127⟩,⟨yhb⟩⟩
    ·
     rw [if_neg c10] at H
     have c10b0 : decide (x26_2 < 5)=false:=decide_eq_false c10
     clear c10
     simp only [Option.some.injEq,Prod.mk.injEq] at H
     obtain ⟨rfl,rfl⟩:=H
     go_wp2
     go_ret2
     exact ⟨_,ye,yr HO_7,yhb⟩
def band_Gains.l0 : Nat→List Int→List (List Int)→Int→Int→Option (List Int × Int)
 | 0,_,_,_,_=>none
 | k+1,x6,x19,x20,x21=>if x21 < x20 then (if 0≤x21 then (if x21 < (x19.length : Int) then ((band_Gain.f k (rd_L1 x19 x21)).bind fun bt144=>(if x6.length < 17592186044416 then (band_Gains.l0 k (x6 ++ [bt144.1]) x19 x20 (wrap64 (x21+1))) else (none))) else (none)) else (none)) else (some (x6,0))
def band_Gains.f (k : Nat) (l0 : List Int) : Option (List Int × Int):=(band_Split.f k l0).bind fun bt139=>(if bt139.2=0 then (band_Gains.l0 k ([] : List Int) bt139.1 (bt139.1.length : Int) 0) else (some (([] : List Int),bt139.2)))
theorem band_Gains.mono_l : ∀ k,(∀ y0 y1 y2 y3,LeO (band_Gains.l0 k y0 y1 y2 y3) (band_Gains.l0 (k+1) y0 y1 y2 y3))
 | 0=>fun _ _ _ _ r h=>by simp [band_Gains.l0] at h
 | k+1=>by
  have ih0:=band_Gains.mono_l k
  ·
   intro y0 y1 y2 y3
   unfold band_Gains.l0
   repeat' with_reducible first|apply ih0|apply band_Gain.mono|apply band_Split.mono|apply yLr|apply yLn|apply yLi|apply yLb|intro _
theorem band_Gains.mono : ∀ a0 k,LeO (band_Gains.f k a0) (band_Gains.f (k+1) a0):=by
 intro a0 k
 have ih0:=band_Gains.mono_l k
 unfold band_Gains.f
 repeat' with_reducible first|apply ih0|apply band_Gain.mono|apply band_Split.mono|apply yLr|apply yLn|apply yLi|apply yLb|intro _
set_option maxHeartbeats 8000000 in
set_option maxRecDepth 100000 in
theorem band_Gains.calls (k : Nat) (A0 : Option Addr) (c0 : Nat) (l0 : List Int) (r1 : List Int) (r2 : Int) (w : World) (hr0 : Kd.C (Kd.int .i64) w A0 l0.length l0) (hc0 : l0.length≤c0) (h : band_Gains.f k l0=some (r1,r2)) :
  Calls Try.prog 36 #[.slice A0 l0.length c0] w fun e w' => ∃ v0_ : Value,e=.returned (.tuple #[v0_, .int .i64 r2])∧Kd.R (Kd.int .i64) 3 w' w.heap.size (fun _=>True) v0_ r1∧Below w.heap.size w w' := by
 have HR0:=zm hr0;have HC0:=zm hc0;clear hr0 hc0;have HB:=zm (Below.refl w.heap.size w)
 have H : ((band_Split.f k l0).bind fun bt139=>(if bt139.2=0 then (band_Gains.l0 k ([] : List Int) bt139.1 (bt139.1.length : Int) 0) else (some (([] : List Int),bt139.2))))=some (r1,r2):=h
 clear h
 replace H:=ybi H;obtain ⟨⟨t139,t142⟩,A2,H⟩:=H
 try dsimp only at H
 by_cases c3 : t142=0
 ·
  rw [if_pos c3] at H
  have c3b0 : (t142 == 0)=true:=beq_iff_eq.mpr c3
  have c3b1 : (t142 != 0)=false:=bne_eq_false_iff_eq.mpr c3
  clear c3
  have H' := zm H
  clear H
  go_enter Try.func36,Try.ntmps36
  go_wp2_with (first|((with_reducible refine gate_callee (f:=38) rfl ?_);refine ygl 13 Try.func38 #[.slice A0 l0.length c0] ?_;(with_reducible refine (band_Split.calls k _ _ l0 t139 t142 _ ?side1 HC0.out A2.out).mono ?_);(case side1=>exact yce HR0.out);rintro e w4 ⟨v140,rfl,ho0,hb⟩;refine ⟨_,rfl, ?_⟩;have HO141:=zm (Kd.N_lower (Kd.N_mono (ok' := fun k_=>True) ho0 (fun k_ hk_=>trivial)) (zE yhb));replace HB:=ybs hb;(try clear hb);(try clear ho0);obtain ⟨Ao5,co5,eo5⟩:=Kd.N_slice HO141.out;subst eo5))
  go_loopg [6,21] k (fun kq v6 v21 w' => ∃ (x6_1 : List Int) (x21_1 : Int),v21=.int .i64 x21_1∧Aside0 (band_Gains.l0 kq x6_1 t139 (t139.length : Int) x21_1=some (r1,r2))∧Aside0 (kq≤k)∧Aside0 (Kd.R (Kd.int .i64) 3 w' w.heap.size (fun _=>True) v6 x6_1)∧Aside0 (Kd.N (Kd.slice 2 (Kd.int .i64)) 53 w' w.heap.size (fun k_=>some k_≠(v6 : Value).ownBlock) (.slice Ao5 t139.length co5) t139)∧Aside0 (Below w.heap.size w w'))
  case atStart=>exact ⟨(([] : List Int)),(0),yq,H',⟨Nat.le_refl _⟩,⟨yn⟩,⟨yN0 HO141⟩,⟨yhb⟩⟩
  case round =>
   clear H'
   try clear c3b0
   try clear c3b1
   obtain ⟨x6_1,x21_1,rfl,HA,HK1,HO_6,HO_19,HB⟩:=hrel
   obtain ⟨k1,rfl⟩:=ysu gk (fun h=>by subst h;exact absurd HA.out (by simp [band_Gains.l0]))
   have H:=HA.out;clear HA
   simp only [band_Gains.l0] at H
   by_cases c6 : x21_1 < (t139.length : Int)
   ·
    rw [if_pos c6] at H
    have c6b0 : decide (x21_1 < (t139.length : Int))=true:=decide_eq_true c6
    clear c6
    replace H:=yif H;obtain ⟨c7,H⟩:=H
    have c7b0 : decide (0≤x21_1)=true:=decide_eq_true c7
    clear c7
    replace H:=yif H;obtain ⟨c8,H⟩:=H
    have c8b0 : decide (x21_1 < (t139.length : Int))=true:=decide_eq_true c8
    clear c8
    replace H:=ybi H;obtain ⟨⟨t144,t145⟩,A9,H⟩:=H
    try dsimp only at H
    replace H:=yif H;obtain ⟨c10,H⟩:=H
    have LMc10:=zm c10;clear c10
    obtain ⟨y146,hy146⟩ : ∃ y_ : List Int,y_=(x6_1 ++ [t144]):=⟨_,rfl⟩
    replace H : (band_Gains.l0 k1 y146 t139 (t139.length : Int) (wrap64 (x21_1+1)))=some (r1,r2):=yrw hy146 H
    have Ny146:=zm hy146;clear hy146
    have H' := zm H
    clear H
    have p143 : 0≤(x21_1 : Int):=yt
    have q143 : x21_1 < (t139.length : Int):=yt
    obtain ⟨ad143,A143_0,c143_0,e143,hx143_0,hl143_0,hi143_0⟩:=at_L1 (Kd.N_reads' HO_19.out).2.2 x21_1 p143 q143
    cases e143
    obtain ⟨ce143,hce143,hMe143,hcc143⟩:=Kd.N_get HO_19.out [] x21_1 p143 (by first|exact q143|exact yt|(have e_:=(Kd.N_reads' HO_19.out).1;omega))
    obtain ⟨ua143_0,uc143_0,rfl,ul143_0,ge143_0⟩:=Kd.FK_slice_open hMe143
    have hv143_0:=hcc143 0 _ rfl
    rw [Nat.add_zero,show ((Kd.slice 2 (Kd.int .i64))).sz=1 from rfl,Nat.mul_one] at hv143_0
    replace hv143_0:=Option.some.inj (hv143_0.symm.trans hx143_0)
    injection hv143_0 with hva_ hvn_ hvc_
    rw [hva_] at ge143_0
    rw [hvc_] at ul143_0
    have HL143_0:=zm (show Kd.V (Kd.int .i64) 2 _ w.heap.size _ _ (rd_L1 t139 x21_1) from Kd.V_mk ul143_0 ge143_0)
    clear hva_ hvn_ hvc_ ge143_0 ul143_0;clear hcc143 hce143;have HR143_0:=zm hi143_0;have HC143_0:=zm hl143_0;clear hi143_0 hl143_0
    replace p143:=eq_true p143
    replace q143:=eq_true q143
    go_wp2_with (first|((with_reducible refine gate_callee (f:=71) rfl ?_);refine ygl 27 Try.func71 #[.slice A143_0 (rd_L1 t139 x21_1).length c143_0] ?_;(with_reducible refine (band_Gain.calls k1 _ _ (rd_L1 t139 x21_1) t144 t145 _ ?side1 HC143_0.out A9.out).mono ?_);(case side1=>exact yce (yrc HR143_0));rintro e w' ⟨rfl,⟨nd,rfl⟩⟩;refine ⟨_,rfl, ?_⟩)|((with_reducible refine gate_builtin (b:=.append) (xs := #[.tmp 30, .tmp 32]) rfl ?_);at_builtin;refine Kd.R_append (Kd.int .i64) (w0:=w) w.heap.size rfl (.tmp 30) (.tmp 32) 55 3 (.int .i64 0) 8 rfl Try.underlying55 info3 rfl (by decide) (by omega) u6 x6_1 t144 [.int .i64 t144] (fun _=>True) (fun _=>False) rfl rfl ?aP (fun _ hk=>hk.elim) ?aF ?aO ?aB ?aS ?aL ?_;(case aP=>exact rfl);(case aB=>exact yhb);(case aF=>exact (fun _ _=>trivial));(case aO=>exact (yr HO_6));(case aS=>exact (zE yhb));(case aL=>have:=LMc10.out;omega);intro v147 w11 ho hb hg hat;rw [← Ny146.out] at ho;replace HO_19:=zm (Kd.N_afterv (ok:=(fun _=>True)) (yN0 HO_19) hg hat);replace HL143_0:=zm (Kd.V_afterv (ok:=(fun k_=>some k_≠(.slice (some ad143) t139.length co5 : Value).ownBlock)) (yV0 HL143_0) hg hat);replace HB:=zm (hb);have HO148:=zm (ho);clear HO_6;clear ho hb hg hat))
    go_roundg k1
    case measure=>exact yom1 HK1
    case rel=>exact ⟨(y146),(wrap64 (x21_1+1)),yq,H',⟨yom1 HK1⟩,⟨yr HO148⟩,⟨yN0 HO_19⟩,⟨yhb⟩⟩
   ·
    rw [if_neg c6] at H
    have c6b0 : decide (x21_1 < (t139.length : Int))=false:=decide_eq_false c6
    clear c6
    simp only [Option.some.injEq,Prod.mk.injEq] at H
    obtain ⟨rfl,rfl⟩:=H
    go_wp2
    go_ret2
    exact ⟨_,ye,yr HO_6,yhb⟩
 ·
  rw [if_neg c3] at H
  have c3b0 : (t142 == 0)=false:=beq_eq_false_iff_ne.mpr c3
  have c3b1 : (t142 != 0)=true:=bne_iff_ne.mpr c3
  simp only [Option.some.injEq,Prod.mk.injEq] at H
  obtain ⟨rfl,rfl⟩:=H
  go_enter Try.func36,Try.ntmps36
  go_wp2_with (first|((with_reducible refine gate_callee (f:=38) rfl ?_);refine ygl 13 Try.func38 #[.slice A0 l0.length c0] ?_;(with_reducible refine (band_Split.calls k _ _ l0 t139 t142 _ ?side1 HC0.out A2.out).mono ?_);(case side1=>exact yce HR0.out);rintro e w12 ⟨v140,rfl,ho0,hb⟩;refine ⟨_,rfl, ?_⟩;have HO141:=zm (Kd.N_lower (Kd.N_mono (ok' := fun k_=>True) ho0 (fun k_ hk_=>trivial)) (zE yhb));replace HB:=ybs hb;(try clear hb);(try clear ho0)))
  go_ret2
  exact ⟨_,ye,yn,yhb⟩
mutual
def ccodec_Right.j0 : Nat→Bool→List (List Int)→Option (Bool)
 | 0,_,_=>none
 | k+1,x21,x129000=>if x21=true then (some false) else (ccodec_Right.l0 k x129000 (x129000.length : Int) 0)
def ccodec_Right.l0 : Nat→List (List Int)→Int→Int→Option (Bool)
 | 0,_,_,_=>none
 | k+1,x23,x24,x25=>if x25 < x24 then (if 0≤x25 then (if x25 < (x23.length : Int) then ((band_Split.f k (rd_L1 x23 x25)).bind fun bt131=>(if bt131.2=0 then (ccodec_Right.l0 k x23 x24 (wrap64 (x25+1))) else (some false))) else (none)) else (none)) else (some true)
end
def ccodec_Right.f (k : Nat) (a0 : Int) (a1 : Int) (l2_0 : List (List Int)) : Option (Bool):=(alloc_Right.f a0 a1).bind fun t129=>(if t129=true then (ccodec_Right.j0 k ((l2_0.length : Int) != a1) l2_0) else (ccodec_Right.j0 k true l2_0))
theorem ccodec_Right.mono_l : ∀ k,(∀ y0 y1,LeO (ccodec_Right.j0 k y0 y1) (ccodec_Right.j0 (k+1) y0 y1))∧(∀ y0 y1 y2,LeO (ccodec_Right.l0 k y0 y1 y2) (ccodec_Right.l0 (k+1) y0 y1 y2))
 | 0=>⟨fun _ _ r h=>by simp [ccodec_Right.j0] at h,fun _ _ _ r h=>by simp [ccodec_Right.l0] at h⟩
 | k+1=>by
  obtain ⟨ih0,ih1⟩:=ccodec_Right.mono_l k
  refine ⟨?_, ?_⟩
  ·
   intro y0 y1
   unfold ccodec_Right.j0
   repeat' with_reducible first|apply ih0|apply ih1|apply band_Split.mono|apply yLr|apply yLn|apply yLi|apply yLb|intro _
  ·
   intro y0 y1 y2
   unfold ccodec_Right.l0
   repeat' with_reducible first|apply ih0|apply ih1|apply band_Split.mono|apply yLr|apply yLn|apply yLi|apply yLb|intro _
theorem ccodec_Right.mono : ∀ a0 a1 a2 k,LeO (ccodec_Right.f k a0 a1 a2) (ccodec_Right.f (k+1) a0 a1 a2):=by
 intro a0 a1 a2 k
 obtain ⟨ih0,ih1⟩:=ccodec_Right.mono_l k
 unfold ccodec_Right.f
 repeat' with_reducible first|apply ih0|apply ih1|apply band_Split.mono|apply yLr|apply yLn|apply yLi|apply yLb|intro _
set_option maxHeartbeats 8000000 in
set_option maxRecDepth 100000 in
theorem ccodec_Right.calls (k : Nat) (a0 : Int) (a1 : Int) (A2_0 : Option Addr) (c2_0 : Nat) (l2_0 : List (List Int)) (r : Bool) (w : World) (hr2_0 : Kd.C (Kd.slice 2 (Kd.int .i64)) w A2_0 l2_0.length l2_0) (hc2_0 : l2_0.length≤c2_0) (h : ccodec_Right.f k a0 a1 l2_0=some r) :
  Calls Try.prog 20 #[.int .i64 a0, .int .i64 a1, .agg #[.slice A2_0 l2_0.length c2_0]] w fun e w' => e=.returned (.bool r)∧Below w.heap.size w w' := by
 have hu24:=Try.underlying24;have HR2_0:=zm hr2_0;have HC2_0:=zm hc2_0;clear hr2_0 hc2_0;have HB:=zm (Below.refl w.heap.size w)
 have H : ((alloc_Right.f a0 a1).bind fun t129=>(if t129=true then (ccodec_Right.j0 k ((l2_0.length : Int) != a1) l2_0) else (ccodec_Right.j0 k true l2_0)))=some r:=h
 clear h;have HC4:=zm H;clear H
 go_enter Try.func20,Try.ntmps20
 go_upto_region 1 with (first|((with_reducible refine gate_dst (N:=5) rfl ?_);(try (refine gate_guard (by rfl) ?_;dsimp only));refine ybx 5 #[.slice A2_0 l2_0.length c2_0] 24 ?_;intro gb128 hg w5 hbox hb;have BK128:=zm (hbox);have GW128:=ygw hg;have GE128:=ygw hg;replace HB:=ybs hb;clear hb hbox hg))
 (try simp only [Act.put,List.setIfInBounds_toArray,List.set_cons_zero,List.set_cons_succ])
 go_cut [21] (fun v21 wc => ∃ (kq : Nat) (x21_3 : Bool),v21=.bool x21_3∧Aside0 (ccodec_Right.j0 kq x21_3 l2_0=some r)∧Aside0 (kq≤k)∧Aside0 (wc.heap[gb128]? = some (.cells #[(.slice A2_0 l2_0.length c2_0)] 24 (0,0)))∧Aside0 (Below w.heap.size w wc))
 case first =>
  have H:=HC4.out;clear HC4
  replace H:=ybi H;obtain ⟨t129,A6,H⟩:=H
  by_cases c7 : t129=true
  ·
   subst c7
   rw [if_pos rfl] at H
   have H' := zm H
   clear H
   go_wp2_with (first|((with_reducible refine gate_callee (f:=52) rfl ?_);refine ygl 13 Try.func52 #[.int .i64 a0, .int .i64 a1] ?_;(with_reducible refine (alloc_Right.calls a0 a1 true _ A6.out).mono ?_);rintro e w' ⟨rfl,⟨nd,rfl⟩⟩;refine ⟨_,rfl, ?_⟩;obtain ⟨_,_⟩:=yc1 BK128))
   go_meet
   case rel=>exact ⟨_,(((l2_0.length : Int) != a1)),yq,H',⟨yo⟩,⟨yk BK128⟩,⟨yhb⟩⟩
  ·
   replace c7:=Bool.eq_false_iff.mpr c7
   subst c7
   rw [ynf] at H
   have H' := zm H
   clear H
   go_wp2_with (first|((with_reducible refine gate_callee (f:=52) rfl ?_);refine ygl 13 Try.func52 #[.int .i64 a0, .int .i64 a1] ?_;(with_reducible refine (alloc_Right.calls a0 a1 false _ A6.out).mono ?_);rintro e w' ⟨rfl,⟨nd,rfl⟩⟩;refine ⟨_,rfl, ?_⟩))
   go_meet
   case rel=>exact ⟨_,(true),yq,H',⟨yo⟩,⟨yk BK128⟩,⟨yhb⟩⟩
 case rest =>
  clear HC4
  obtain ⟨kq,x21_3,rfl,HA,HJ3,BK128,HB⟩:=hcut
  obtain ⟨kj3,rfl⟩:=ysu kq (fun h=>by subst h;exact absurd HA.out (by simp [ccodec_Right.j0]))
  have H:=HA.out;clear HA
  simp only [ccodec_Right.j0] at H
  by_cases c9 : x21_3=true
  ·
   subst c9
   rw [if_pos rfl] at H
   obtain rfl:=Option.some.inj H
   go_wp2
   go_ret
   exact ⟨ye,yhb⟩
  ·
   replace c9:=Bool.eq_false_iff.mpr c9
   subst c9
   rw [ynf] at H
   have H' := zm H
   clear H
   obtain ⟨hcz10_0,hfz10_0⟩:=yc1 BK128
   go_wp2
   go_loopg [25] kj3 (fun kq v25 w' => ∃ (x25_2 : Int),v25=.int .i64 x25_2∧Aside0 (ccodec_Right.l0 kq l2_0 (l2_0.length : Int) x25_2=some r)∧Aside0 (kq≤kj3)∧Aside0 (w'.heap[gb128]? = some (.cells #[(.slice A2_0 l2_0.length c2_0)] 24 (0,0)))∧Aside0 (Below w.heap.size w w'))
   case atStart=>exact ⟨(0),yq,H',⟨Nat.le_refl _⟩,⟨yk BK128⟩,⟨yhb⟩⟩
   case round =>
    clear H'
    try clear hcz10_0
    try clear hfz10_0
    obtain ⟨x25_2,rfl,HA,HK2,BK128,HB⟩:=hrel
    obtain ⟨k2,rfl⟩:=ysu gk (fun h=>by subst h;exact absurd HA.out (by simp [ccodec_Right.l0]))
    have H:=HA.out;clear HA
    simp only [ccodec_Right.l0] at H
    by_cases c11 : x25_2 < (l2_0.length : Int)
    ·
     rw [if_pos c11] at H
     have c11b0 : decide (x25_2 < (l2_0.length : Int))=true:=decide_eq_true c11
     clear c11
     replace H:=yif H;obtain ⟨c12,H⟩:=H
     have c12b0 : decide (0≤x25_2)=true:=decide_eq_true c12
     clear c12
     replace H:=yif H;obtain ⟨c13,H⟩:=H
     have c13b0 : decide (x25_2 < (l2_0.length : Int))=true:=decide_eq_true c13
     clear c13
     replace H:=ybi H;obtain ⟨⟨t131,t134⟩,A14,H⟩:=H
     try dsimp only at H
     by_cases c15 : t134=0
     ·
      rw [if_pos c15] at H
      have c15b0 : (t134 == 0)=true:=beq_iff_eq.mpr c15
      have c15b1 : (t134 != 0)=false:=bne_eq_false_iff_eq.mpr c15
      clear c15
      have H' := zm H
      clear H
      have p130 : 0≤(x25_2 : Int):=yt
      have q130 : x25_2 < (l2_0.length : Int):=yt
      obtain ⟨ad130,A130_0,c130_0,e130,hx130_0,hl130_0,hi130_0⟩:=at_L1 HR2_0.out x25_2 p130 q130
      cases e130
      replace hx130_0:=yhx HB hx130_0
      have HR130_0:=zm hi130_0;have HC130_0:=zm hl130_0;clear hi130_0 hl130_0
      replace p130:=eq_true p130
      replace q130:=eq_true q130
      go_wp2_with (first|((with_reducible refine gate_callee (f:=38) rfl ?_);refine ygl 31 Try.func38 #[.slice A130_0 (rd_L1 l2_0 x25_2).length c130_0] ?_;(with_reducible refine (band_Split.calls k2 _ _ (rd_L1 l2_0 x25_2) t131 t134 _ ?side1 HC130_0.out A14.out).mono ?_);(case side1=>exact ycb HR130_0);rintro e w16 ⟨v132,rfl,ho0,hb⟩;refine ⟨_,rfl, ?_⟩;have HO133:=zm (Kd.N_lower (Kd.N_mono (ok' := fun k_=>k_≠gb128) ho0 (fun k_ hk_=>(Kd.freshB (yk BK128) k_ hk_))) (zE yhb));replace BK128:=ybb BK128 hb;replace HB:=ybs hb;(try clear hb);(try clear ho0)))
      go_roundg k2
      case measure=>exact yom2 HJ3 HK2
      case rel=>exact ⟨(wrap64 (x25_2+1)),yq,H',⟨yom2 HJ3 HK2⟩,⟨yk BK128⟩,⟨yhb⟩⟩
     ·
      rw [if_neg c15] at H
      have c15b0 : (t134 == 0)=false:=beq_eq_false_iff_ne.mpr c15
      have c15b1 : (t134 != 0)=true:=bne_iff_ne.mpr c15
      obtain rfl:=Option.some.inj H
      have p130 : 0≤(x25_2 : Int):=yt
      have q130 : x25_2 < (l2_0.length : Int):=yt
      obtain ⟨ad130,A130_0,c130_0,e130,hx130_0,hl130_0,hi130_0⟩:=at_L1 HR2_0.out x25_2 p130 q130
      cases e130
      replace hx130_0:=yhx HB hx130_0
      have HR130_0:=zm hi130_0;have HC130_0:=zm hl130_0;clear hi130_0 hl130_0
      replace p130:=eq_true p130
      replace q130:=eq_true q130
      go_wp2_with (first|((with_reducible refine gate_callee (f:=38) rfl ?_);refine ygl 31 Try.func38 #[.slice A130_0 (rd_L1 l2_0 x25_2).length c130_0] ?_;(with_reducible refine (band_Split.calls k2 _ _ (rd_L1 l2_0 x25_2) t131 t134 _ ?side1 HC130_0.out A14.out).mono ?_);(case side1=>exact ycb HR130_0);rintro e w17 ⟨v132,rfl,ho0,hb⟩;refine ⟨_,rfl, ?_⟩;have HO133:=zm (Kd.N_lower (Kd.N_mono (ok' := fun k_=>k_≠gb128) ho0 (fun k_ hk_=>(Kd.freshB (yk BK128) k_ hk_))) (zE yhb));replace BK128:=ybb BK128 hb;replace HB:=ybs hb;(try clear hb);(try clear ho0)))
      go_ret
      exact ⟨ye,yhb⟩
    ·
     rw [if_neg c11] at H
     have c11b0 : decide (x25_2 < (l2_0.length : Int))=false:=decide_eq_false c11
     clear c11
     obtain rfl:=Option.some.inj H
     go_wp2
     go_ret
     exact ⟨ye,yhb⟩
def pvq_above.f (a0_0 : Int) (a0_1 : Int) (a1_0 : Int) (a1_1 : Int) : Option (Bool):=some (decide ((wrap64 ((wrap64 (a0_0 * a0_0)) * a1_1)) > (wrap64 ((wrap64 (a1_0 * a1_0)) * a0_1))))
set_option maxHeartbeats 8000000 in
set_option maxRecDepth 100000 in
theorem pvq_above.calls (a0_0 : Int) (a0_1 : Int) (a1_0 : Int) (a1_1 : Int) (r : Bool) (w : World) (h : pvq_above.f a0_0 a0_1 a1_0 a1_1=some r) :
  Calls Try.prog 115 #[.agg #[.int .i64 a0_0, .int .i64 a0_1], .agg #[.int .i64 a1_0, .int .i64 a1_1]] w fun e w' => e=.returned (.bool r)∧Below w.heap.size w w' := by
 have hu117:=Try.underlying117;have HB:=zm (Below.refl w.heap.size w)
 have H : (some (decide ((wrap64 ((wrap64 (a0_0 * a0_0)) * a1_1)) > (wrap64 ((wrap64 (a1_0 * a1_0)) * a0_1)))))=some r:=h
 clear h
 obtain rfl:=Option.some.inj H
 go_enter Try.func115,Try.ntmps115
 go_wp2_with (first|((with_reducible refine gate_dst (N:=2) rfl ?_);refine ybx 2 #[.int .i64 a0_0, .int .i64 a0_1] 117 ?_;intro gb207 hg w3 hbox hb;have BK207:=zm (hbox);have GW207:=ygw hg;have GE207:=ygw hg;replace HB:=ybs hb;clear hb hbox hg)|((with_reducible refine gate_dst (N:=3) rfl ?_);refine ybx 3 #[.int .i64 a1_0, .int .i64 a1_1] 117 ?_;intro gb208 hg w4 hbox hb;have BK208:=zm (hbox);have GW208:=ygw hg;have GE208:=ygw hg;replace HB:=ybs hb;have NB207_208:=ynl BK207 hg;have NB208_207:=yng BK207 hg;replace BK207:=ybb BK207 hb;clear hb hbox hg;have:=NB207_208.out;have:=NB208_207.out;obtain ⟨_,_,_,_⟩:=yc2 BK207;obtain ⟨_,_,_,_⟩:=yc2 BK208))
 go_ret
 exact ⟨ye,yhb⟩
def pvq_best.l0 : Nat→List (S117)→Int→Int→Int→Option (Int)
 | 0,_,_,_,_=>none
 | k+1,x0,x3,x7,x8=>if x8 < x7 then (if 0≤x8 then (if x8 < (x0.length : Int) then (if 0≤x3 then (if x3 < (x0.length : Int) then (if (!(((rd_T117 x0 x8).f0) == ((rd_T117 x0 x3).f0)) || (!(((rd_T117 x0 x8).f1) == ((rd_T117 x0 x3).f1))))=true then ((pvq_above.f ((rd_T117 x0 x8).f0) ((rd_T117 x0 x8).f1) ((rd_T117 x0 x3).f0) ((rd_T117 x0 x3).f1)).bind fun t213=>(if t213=true then (pvq_best.l0 k x0 x8 x7 (wrap64 (x8+1))) else (pvq_best.l0 k x0 x3 x7 (wrap64 (x8+1))))) else (pvq_best.l0 k x0 x3 x7 (wrap64 (x8+1)))) else (none)) else (none)) else (none)) else (none)) else (some x3)
def pvq_best.f (k : Nat) (l0 : List (S117)) : Option (Int):=pvq_best.l0 k l0 0 (l0.length : Int) 0
theorem pvq_best.mono_l : ∀ k,(∀ y0 y1 y2 y3,LeO (pvq_best.l0 k y0 y1 y2 y3) (pvq_best.l0 (k+1) y0 y1 y2 y3))
 | 0=>fun _ _ _ _ r h=>by simp [pvq_best.l0] at h
 | k+1=>by
  have ih0:=pvq_best.mono_l k
  ·
   intro y0 y1 y2 y3
   unfold pvq_best.l0
   repeat' with_reducible first|apply ih0|apply yLr|apply yLn|apply yLi|apply yLb|intro _
theorem pvq_best.mono : ∀ a0 k,LeO (pvq_best.f k a0) (pvq_best.f (k+1) a0):=by
 intro a0 k
 have ih0:=pvq_best.mono_l k
 unfold pvq_best.f
 repeat' with_reducible first|apply ih0|apply yLr|apply yLn|apply yLi|apply yLb|intro _
def pvq_best.T6 : Bool × List (List Nat × List Nat):=(true, [([], []),([], []),([0,1], [0,1]),([2], [2]),([], []),([], []),([4,5], [4,5]),([6], [6]),([3,7], [3,7]),([8], [8]),([9], [9]),([9], [9]),([9], [9]),([11,12,9], [9,11,12]),([13,9], [9,13]),([9], [9]),([9], [9]),([15,16,9], [9,15,16]),([17,9], [9,17]),([10,14,18,9,9], [9,10,14,18]),([9,19], [9,19])])
def pvq_best.B6 : List Nat := [0,0,3,7,0,0,48,112,255,511,1023,1023,1023,7167,15359,1023,1023,99327,230399,524287,1048575]
theorem pvq_best.tab6 : rtab .any (opsOf Try.f81 6)=pvq_best.T6:=by kernel_rfl
theorem pvq_best.bits6 : waitsOk pvq_best.T6.2 pvq_best.B6=true:=by kernel_rfl
set_option maxHeartbeats 8000000 in
set_option maxRecDepth 100000 in
theorem pvq_best.calls (k : Nat) (A0 : Option Addr) (c0 : Nat) (l0 : List (S117)) (r : Int) (w : World) (hr0 : Kd.C k117 w A0 l0.length l0) (hc0 : l0.length≤c0) (h : pvq_best.f k l0=some r) :
  Calls Try.prog 81 #[.slice A0 l0.length c0] w fun e w' => e=.returned (.int .i64 r)∧Below w.heap.size w w' := by
 have hu117:=Try.underlying117;have HR0:=zm hr0;have HC0:=zm hc0;clear hr0 hc0;have HB:=zm (Below.refl w.heap.size w)
 have H : (pvq_best.l0 k l0 0 (l0.length : Int) 0)=some r:=h
 clear h
 have H' := zm H
 clear H
 go_enter Try.func81,Try.ntmps81
 go_wp2
 go_loopg [3,8] k (fun kq v3 v8 w' => ∃ (x3_1 : Int) (x8_1 : Int),v3=.int .i64 x3_1∧v8=.int .i64 x8_1∧Aside0 (pvq_best.l0 kq l0 x3_1 (l0.length : Int) x8_1=some r)∧Aside0 (kq≤k)∧Aside0 (Below w.heap.size w w'))
 case atStart=>exact ⟨(0),(0),yq,yq,H',⟨Nat.le_refl _⟩,⟨yhb⟩⟩
 case round =>
  clear H'
  obtain ⟨x3_1,x8_1,rfl,rfl,HA,HK1,HB⟩:=hrel
  obtain ⟨k1,rfl⟩:=ysu gk (fun h=>by subst h;exact absurd HA.out (by simp [pvq_best.l0]))
  have H:=HA.out;clear HA
  simp only [pvq_best.l0] at H
  by_cases c2 : x8_1 < (l0.length : Int)
  ·
   rw [if_pos c2] at H
   have c2b0 : decide (x8_1 < (l0.length : Int))=true:=decide_eq_true c2
   clear c2
   replace H:=yif H;obtain ⟨c3,H⟩:=H
   have c3b0 : decide (0≤x8_1)=true:=decide_eq_true c3
   clear c3
   replace H:=yif H;obtain ⟨c4,H⟩:=H
   have c4b0 : decide (x8_1 < (l0.length : Int))=true:=decide_eq_true c4
   clear c4
   replace H:=yif H;obtain ⟨c5,H⟩:=H
   have c5b0 : decide (0≤x3_1)=true:=decide_eq_true c5
   clear c5
   replace H:=yif H;obtain ⟨c6,H⟩:=H
   have c6b0 : decide (x3_1 < (l0.length : Int))=true:=decide_eq_true c6
   clear c6
   by_cases c7 : (!(((rd_T117 l0 x8_1).f0) == ((rd_T117 l0 x3_1).f0)) || (!(((rd_T117 l0 x8_1).f1) == ((rd_T117 l0 x3_1).f1))))=true
   ·
    rw [if_pos c7] at H
    have c7b0 : (!(((rd_T117 l0 x8_1).f0) == ((rd_T117 l0 x3_1).f0)) || (!(((rd_T117 l0 x8_1).f1) == ((rd_T117 l0 x3_1).f1))))=true:=c7
    clear c7
    replace H:=ybi H;obtain ⟨t213,A8,H⟩:=H
    by_cases c9 : t213=true
    ·
     subst c9
     rw [if_pos rfl] at H
     have H' := zm H
     clear H
     try go_wp2
     replace HB:=zm (zf HB.out)
     have p209 : 0≤(x8_1 : Int):=yt
     have q209 : x8_1 < (l0.length : Int):=yt
     obtain ⟨ad209,e209,hx209_0,hx209_1⟩:=at_T117 HR0.out x8_1 p209 q209
     have hw209_1:=hx209_1;have hw209_0:=hx209_0
     cases e209
     replace hx209_0:=yhx HB hx209_0
     replace hx209_1:=yhx HB hx209_1
     replace p209:=eq_true p209
     replace q209:=eq_true q209
     have p210 : 0≤(x3_1 : Int):=yt
     have q210 : x3_1 < (l0.length : Int):=yt
     obtain ⟨ad210,e210,hx210_0,hx210_1⟩:=at_T117 HR0.out x3_1 p210 q210
     have hw210_1:=hx210_1;have hw210_0:=hx210_0
     obtain rfl : ad209=ad210:=(by injection e210)
     replace hx210_0:=yhx HB hx210_0
     replace hx210_1:=yhx HB hx210_1
     replace p210:=eq_true p210
     replace q210:=eq_true q210
     have p211 : 0≤(x8_1 : Int):=yt
     have q211 : x8_1 < (l0.length : Int):=yt
     obtain ⟨ad211,e211,hx211_0,hx211_1⟩:=at_T117 HR0.out x8_1 p211 q211
     have hw211_1:=hx211_1;have hw211_0:=hx211_0
     obtain rfl : ad209=ad211:=(by injection e211)
     replace hx211_0:=yhx HB hx211_0
     replace hx211_1:=yhx HB hx211_1
     replace p211:=eq_true p211
     replace q211:=eq_true q211
     have p212 : 0≤(x3_1 : Int):=yt
     have q212 : x3_1 < (l0.length : Int):=yt
     obtain ⟨ad212,e212,hx212_0,hx212_1⟩:=at_T117 HR0.out x3_1 p212 q212
     have hw212_1:=hx212_1;have hw212_0:=hx212_0
     obtain rfl : ad209=ad212:=(by injection e212)
     replace hx212_0:=yhx HB hx212_0
     replace hx212_1:=yhx HB hx212_1
     replace p212:=eq_true p212
     replace q212:=eq_true q212
     refine yst (fun w' => w'.cell? (ad209.add ((x8_1).toNat * 2))=some (.int .i64 ((rd_T117 l0 x8_1).f0))∧w'.cell? ⟨(ad209.add ((x8_1).toNat * 2)).block,(ad209.add ((x8_1).toNat * 2)).off+1,none⟩=some (.int .i64 ((rd_T117 l0 x8_1).f1))∧w'.cell? (ad209.add ((x3_1).toNat * 2))=some (.int .i64 ((rd_T117 l0 x3_1).f0))∧w'.cell? ⟨(ad209.add ((x3_1).toNat * 2)).block,(ad209.add ((x3_1).toNat * 2)).off+1,none⟩=some (.int .i64 ((rd_T117 l0 x3_1).f1))∧w'.cell? (ad209.add ((x8_1).toNat * 2))=some (.int .i64 ((rd_T117 l0 x8_1).f0))∧w'.cell? ⟨(ad209.add ((x8_1).toNat * 2)).block,(ad209.add ((x8_1).toNat * 2)).off+1,none⟩=some (.int .i64 ((rd_T117 l0 x8_1).f1))∧w'.cell? (ad209.add ((x3_1).toNat * 2))=some (.int .i64 ((rd_T117 l0 x3_1).f0))∧w'.cell? ⟨(ad209.add ((x3_1).toNat * 2)).block,(ad209.add ((x3_1).toNat * 2)).off+1,none⟩=some (.int .i64 ((rd_T117 l0 x3_1).f1))) [] 21 pvq_best.tab6 pvq_best.bits6 (fun hHeld HT_ HW_ => ?_)
     generalize wr.drew=w10 at HB hx209_0 hx209_1 hx210_0 hx210_1 hx211_0 hx211_1 hx212_0 hx212_1 hHeld ⊢
     refine yp 0 11 HT_ ?_
     refine yp 1 12 HT_ ?_
     refine yp 2 13 HT_ ?_
     refine yp 4 15 HT_ ?_
     refine yp 5 16 HT_ ?_
     refine yp 6 17 HT_ ?_
     refine yl 3 14 HT_ HW_ hHeld ?_
     refine yl 7 18 HT_ HW_ hHeld ?_
     refine pure_ (i:=8) (N:=some 19) (v:=.bool true) (a' := ?_) #[true,true,true,true,true,true,true,true,true,false,false,false,false,false,false,false,false,false,false,false,false] rfl rfl (any_of HT_.out (by kernel_rfl)) (fun _ _ _ h=>h) (Or.inl ⟨by rfl, ?_⟩) ?_ ?_

     ·
      intro w'
      go_simp
      (rcases Decidable.em ((rd_T117 l0 x8_1).f0=(rd_T117 l0 x3_1).f0) with e0_|e0_ <;> rcases Decidable.em ((rd_T117 l0 x8_1).f1=(rd_T117 l0 x3_1).f1) with e1_|e1_ <;> simp [e0_,e1_] at c7b0 ⊢)
     rotate_left
     ·
      simp only [Act.put,List.setIfInBounds_toArray,List.set_cons_zero,List.set_cons_succ,i64_w,i32_w]
      rfl
     refine yp 9 20 HT_ ?_
     refine yp 10 21 HT_ ?_
     refine yp 11 22 HT_ ?_
     refine yp 12 23 HT_ ?_
     refine yp 13 24 HT_ ?_
     refine yp 15 26 HT_ ?_
     refine yp 16 27 HT_ ?_
     refine yp 17 28 HT_ ?_
     refine yl 14 25 HT_ HW_ hHeld ?_
     refine yl 18 29 HT_ HW_ hHeld ?_
     refine yw 19 30 HT_ (fun K hK => ?_)
     refine call_ 115 #[.agg #[.int .i64 ((rd_T117 l0 x8_1).f0), .int .i64 ((rd_T117 l0 x8_1).f1)], .agg #[.int .i64 ((rd_T117 l0 x3_1).f0), .int .i64 ((rd_T117 l0 x3_1).f1)]] (by rfl) rfl ?hrun ?_
     (case hrun =>
      have he:=fun x W=>enters_ Try.func115 (by kernel_rfl) rfl x W
      unfold execOp
      simp [resolve,Deferred.ofValue,invoke,Act.eval,he])
     with_reducible refine (pvq_above.calls ((rd_T117 l0 x8_1).f0) ((rd_T117 l0 x8_1).f1) ((rd_T117 l0 x3_1).f0) ((rd_T117 l0 x3_1).f1) true _ A8.out).mono ?_
     rintro e w11 ⟨rfl,hb⟩
     refine ⟨_,rfl, ?_⟩
     replace HB:=ybs hb
     (try clear hb)
     refine hK.out _ _ yH (fun hHeld => ?_)
     clear hK K
     refine ym (some 30) ?_
     refine yp 20 31 HT_ ?_
     refine done_ (done_of HT_.out (by kernel_rfl)) ?_
     try go_wp2
     go_roundg k1
     case measure=>exact yom1 HK1
     case rel=>exact ⟨(x8_1),(wrap64 (x8_1+1)),yq,yq,H',⟨yom1 HK1⟩,⟨yhb⟩⟩
    ·
     replace c9:=Bool.eq_false_iff.mpr c9
     subst c9
     rw [ynf] at H
     have H' := zm H
     clear H
     try go_wp2
     replace HB:=zm (zf HB.out)
     have p209 : 0≤(x8_1 : Int):=yt
     have q209 : x8_1 < (l0.length : Int):=yt
     obtain ⟨ad209,e209,hx209_0,hx209_1⟩:=at_T117 HR0.out x8_1 p209 q209
     have hw209_1:=hx209_1;have hw209_0:=hx209_0
     cases e209
     replace hx209_0:=yhx HB hx209_0
     replace hx209_1:=yhx HB hx209_1
     replace p209:=eq_true p209
     replace q209:=eq_true q209
     have p210 : 0≤(x3_1 : Int):=yt
     have q210 : x3_1 < (l0.length : Int):=yt
     obtain ⟨ad210,e210,hx210_0,hx210_1⟩:=at_T117 HR0.out x3_1 p210 q210
     have hw210_1:=hx210_1;have hw210_0:=hx210_0
     obtain rfl : ad209=ad210:=(by injection e210)
     replace hx210_0:=yhx HB hx210_0
     replace hx210_1:=yhx HB hx210_1
     replace p210:=eq_true p210
     replace q210:=eq_true q210
     have p211 : 0≤(x8_1 : Int):=yt
     have q211 : x8_1 < (l0.length : Int):=yt
     obtain ⟨ad211,e211,hx211_0,hx211_1⟩:=at_T117 HR0.out x8_1 p211 q211
     have hw211_1:=hx211_1;have hw211_0:=hx211_0
     obtain rfl : ad209=ad211:=(by injection e211)
     replace hx211_0:=yhx HB hx211_0
     replace hx211_1:=yhx HB hx211_1
     replace p211:=eq_true p211
     replace q211:=eq_true q211
     have p212 : 0≤(x3_1 : Int):=yt
     have q212 : x3_1 < (l0.length : Int):=yt
     obtain ⟨ad212,e212,hx212_0,hx212_1⟩:=at_T117 HR0.out x3_1 p212 q212
     have hw212_1:=hx212_1;have hw212_0:=hx212_0
     obtain rfl : ad209=ad212:=(by injection e212)
     replace hx212_0:=yhx HB hx212_0
     replace hx212_1:=yhx HB hx212_1
     replace p212:=eq_true p212
     replace q212:=eq_true q212
     refine yst (fun w' => w'.cell? (ad209.add ((x8_1).toNat * 2))=some (.int .i64 ((rd_T117 l0 x8_1).f0))∧w'.cell? ⟨(ad209.add ((x8_1).toNat * 2)).block,(ad209.add ((x8_1).toNat * 2)).off+1,none⟩=some (.int .i64 ((rd_T117 l0 x8_1).f1))∧w'.cell? (ad209.add ((x3_1).toNat * 2))=some (.int .i64 ((rd_T117 l0 x3_1).f0))∧w'.cell? ⟨(ad209.add ((x3_1).toNat * 2)).block,(ad209.add ((x3_1).toNat * 2)).off+1,none⟩=some (.int .i64 ((rd_T117 l0 x3_1).f1))∧w'.cell? (ad209.add ((x8_1).toNat * 2))=some (.int .i64 ((rd_T117 l0 x8_1).f0))∧w'.cell? ⟨(ad209.add ((x8_1).toNat * 2)).block,(ad209.add ((x8_1).toNat * 2)).off+1,none⟩=some (.int .i64 ((rd_T117 l0 x8_1).f1))∧w'.cell? (ad209.add ((x3_1).toNat * 2))=some (.int .i64 ((rd_T117 l0 x3_1).f0))∧w'.cell? ⟨(ad209.add ((x3_1).toNat * 2)).block,(ad209.add ((x3_1).toNat * 2)).off+1,none⟩=some (.int .i64 ((rd_T117 l0 x3_1).f1))) [] 21 pvq_best.tab6 pvq_best.bits6 (fun hHeld HT_ HW_ => ?_)
     generalize wr.drew=w12 at HB hx209_0 hx209_1 hx210_0 hx210_1 hx211_0 hx211_1 hx212_0 hx212_1 hHeld ⊢
     refine yp 0 11 HT_ ?_
     refine yp 1 12 HT_ ?_
     refine yp 2 13 HT_ ?_
     refine yp 4 15 HT_ ?_
     refine yp 5 16 HT_ ?_
     refine yp 6 17 HT_ ?_
     refine yl 3 14 HT_ HW_ hHeld ?_
     refine yl 7 18 HT_ HW_ hHeld ?_
     refine pure_ (i:=8) (N:=some 19) (v:=.bool true) (a' := ?_) #[true,true,true,true,true,true,true,true,true,false,false,false,false,false,false,false,false,false,false,false,false] rfl rfl (any_of HT_.out (by kernel_rfl)) (fun _ _ _ h=>h) (Or.inl ⟨by rfl, ?_⟩) ?_ ?_

     ·
      intro w'
      go_simp
      (rcases Decidable.em ((rd_T117 l0 x8_1).f0=(rd_T117 l0 x3_1).f0) with e0_|e0_ <;> rcases Decidable.em ((rd_T117 l0 x8_1).f1=(rd_T117 l0 x3_1).f1) with e1_|e1_ <;> simp [e0_,e1_] at c7b0 ⊢)
     rotate_left
     ·
      simp only [Act.put,List.setIfInBounds_toArray,List.set_cons_zero,List.set_cons_succ,i64_w,i32_w]
      rfl
     refine yp 9 20 HT_ ?_
     refine yp 10 21 HT_ ?_
     refine yp 11 22 HT_ ?_
     refine yp 12 23 HT_ ?_
     refine yp 13 24 HT_ ?_
     refine yp 15 26 HT_ ?_
     refine yp 16 27 HT_ ?_
     refine yp 17 28 HT_ ?_
     refine yl 14 25 HT_ HW_ hHeld ?_
     refine yl 18 29 HT_ HW_ hHeld ?_
     refine yw 19 30 HT_ (fun K hK => ?_)
     refine call_ 115 #[.agg #[.int .i64 ((rd_T117 l0 x8_1).f0), .int .i64 ((rd_T117 l0 x8_1).f1)], .agg #[.int .i64 ((rd_T117 l0 x3_1).f0), .int .i64 ((rd_T117 l0 x3_1).f1)]] (by rfl) rfl ?hrun ?_
     (case hrun =>
      have he:=fun x W=>enters_ Try.func115 (by kernel_rfl) rfl x W
      unfold execOp
      simp [resolve,Deferred.ofValue,invoke,Act.eval,he])
     with_reducible refine (pvq_above.calls ((rd_T117 l0 x8_1).f0) ((rd_T117 l0 x8_1).f1) ((rd_T117 l0 x3_1).f0) ((rd_T117 l0 x3_1).f1) false _ A8.out).mono ?_
     rintro e w13 ⟨rfl,hb⟩
     refine ⟨_,rfl, ?_⟩
     replace HB:=ybs hb
     (try clear hb)
     refine hK.out _ _ yH (fun hHeld => ?_)
     clear hK K
     refine ym (some 30) ?_
     refine yp 20 31 HT_ ?_
     refine done_ (done_of HT_.out (by kernel_rfl)) ?_
     try go_wp2
     go_roundg k1
     case measure=>exact yom1 HK1
     case rel=>exact ⟨(x3_1),(wrap64 (x8_1+1)),yq,yq,H',⟨yom1 HK1⟩,⟨yhb⟩⟩
   ·
    rw [if_neg c7] at H
    have c7b0 : (!(((rd_T117 l0 x8_1).f0) == ((rd_T117 l0 x3_1).f0)) || (!(((rd_T117 l0 x8_1).f1) == ((rd_T117 l0 x3_1).f1))))=false:=by simpa using c7
    clear c7
    have H' := zm H
    clear H
    try go_wp2
    replace HB:=zm (zf HB.out)
    have p209 : 0≤(x8_1 : Int):=yt
    have q209 : x8_1 < (l0.length : Int):=yt
    obtain ⟨ad209,e209,hx209_0,hx209_1⟩:=at_T117 HR0.out x8_1 p209 q209
    have hw209_1:=hx209_1;have hw209_0:=hx209_0
    cases e209
    replace hx209_0:=yhx HB hx209_0
    replace hx209_1:=yhx HB hx209_1
    replace p209:=eq_true p209
    replace q209:=eq_true q209
    have p210 : 0≤(x3_1 : Int):=yt
    have q210 : x3_1 < (l0.length : Int):=yt
    obtain ⟨ad210,e210,hx210_0,hx210_1⟩:=at_T117 HR0.out x3_1 p210 q210
    have hw210_1:=hx210_1;have hw210_0:=hx210_0
    obtain rfl : ad209=ad210:=(by injection e210)
    replace hx210_0:=yhx HB hx210_0
    replace hx210_1:=yhx HB hx210_1
    replace p210:=eq_true p210
    replace q210:=eq_true q210
    refine yst (fun w' => w'.cell? (ad209.add ((x8_1).toNat * 2))=some (.int .i64 ((rd_T117 l0 x8_1).f0))∧w'.cell? ⟨(ad209.add ((x8_1).toNat * 2)).block,(ad209.add ((x8_1).toNat * 2)).off+1,none⟩=some (.int .i64 ((rd_T117 l0 x8_1).f1))∧w'.cell? (ad209.add ((x3_1).toNat * 2))=some (.int .i64 ((rd_T117 l0 x3_1).f0))∧w'.cell? ⟨(ad209.add ((x3_1).toNat * 2)).block,(ad209.add ((x3_1).toNat * 2)).off+1,none⟩=some (.int .i64 ((rd_T117 l0 x3_1).f1))) [] 21 pvq_best.tab6 pvq_best.bits6 (fun hHeld HT_ HW_ => ?_)
    generalize wr.drew=w14 at HB hx209_0 hx209_1 hx210_0 hx210_1 hHeld ⊢
    refine yp 0 11 HT_ ?_
    refine yp 1 12 HT_ ?_
    refine yp 2 13 HT_ ?_
    refine yp 4 15 HT_ ?_
    refine yp 5 16 HT_ ?_
    refine yp 6 17 HT_ ?_
    refine yl 3 14 HT_ HW_ hHeld ?_
    refine yl 7 18 HT_ HW_ hHeld ?_
    refine pure_ (i:=8) (N:=some 19) (v:=.bool false) (a' := ?_) #[true,true,true,true,true,true,true,true,true,false,false,false,false,false,false,false,false,false,false,false,false] rfl rfl (any_of HT_.out (by kernel_rfl)) (fun _ _ _ h=>h) (Or.inl ⟨by rfl, ?_⟩) ?_ ?_

    ·
     intro w'
     go_simp
     (rcases Decidable.em ((rd_T117 l0 x8_1).f0=(rd_T117 l0 x3_1).f0) with e0_|e0_ <;> rcases Decidable.em ((rd_T117 l0 x8_1).f1=(rd_T117 l0 x3_1).f1) with e1_|e1_ <;> simp [e0_,e1_] at c7b0 ⊢)
    rotate_left
    ·
     simp only [Act.put,List.setIfInBounds_toArray,List.set_cons_zero,List.set_cons_succ,i64_w,i32_w]
     rfl
    refine yp 9 20 HT_ ?_
    refine yu 10 21 HT_ ?_
    refine yu 11 22 HT_ ?_
    refine yu 12 23 HT_ ?_
    refine yu 13 24 HT_ ?_
    refine yu 14 25 HT_ ?_
    refine yu 15 26 HT_ ?_
    refine yu 16 27 HT_ ?_
    refine yu 17 28 HT_ ?_
    refine yu 18 29 HT_ ?_
    refine yu 19 30 HT_ ?_
    refine yp 20 31 HT_ ?_
    refine done_ (done_of HT_.out (by kernel_rfl)) ?_
    try go_wp2
    go_roundg k1
    case measure=>exact yom1 HK1
    case rel=>exact ⟨(x3_1),(wrap64 (x8_1+1)),yq,yq,H',⟨yom1 HK1⟩,⟨yhb⟩⟩
  ·
   rw [if_neg c2] at H
   have c2b0 : decide (x8_1 < (l0.length : Int))=false:=decide_eq_false c2
   clear c2
   obtain rfl:=Option.some.inj H
   go_wp2
   go_ret
   exact ⟨ye,yhb⟩
def num_Shift.f (a0 : Int) (a1 : Int) : Option (Int × Int):=if a1 < 0 then (some (0,1)) else (if a1 > 62 then (some (0,1)) else (if 0≤(IntKind.u64.wrap (a1)) then (some (shr .i64 a0 (IntKind.u64.wrap (a1)),0)) else (none)))
set_option maxHeartbeats 8000000 in
set_option maxRecDepth 100000 in
theorem num_Shift.calls (a0 : Int) (a1 : Int) (r1 : Int) (r2 : Int) (w : World) (h : num_Shift.f a0 a1=some (r1,r2)) :
  Calls Try.prog 114 #[.int .i64 a0, .int .i64 a1] w fun e w' => e=.returned (.tuple #[.int .i64 r1, .int .i64 r2])∧Drawn0 w w' := by
 have H : (if a1 < 0 then (some (0,1)) else (if a1 > 62 then (some (0,1)) else (if 0≤(IntKind.u64.wrap (a1)) then (some (shr .i64 a0 (IntKind.u64.wrap (a1)),0)) else (none))))=some (r1,r2):=h
 clear h
 by_cases c3 : a1 < 0
 ·
  rw [if_pos c3] at H
  have c3b0 : decide (a1 < 0)=true:=decide_eq_true c3
  clear c3
  simp only [Option.some.injEq,Prod.mk.injEq] at H
  obtain ⟨rfl,rfl⟩:=H
  go_enter Try.func114,Try.ntmps114
  go_wp2
  go_ret2
  exact ⟨yq,yd⟩
 ·
  rw [if_neg c3] at H
  have c3b0 : decide (a1 < 0)=false:=decide_eq_false c3
  clear c3
  by_cases c4 : a1 > 62
  ·
   rw [if_pos c4] at H
   have c4b0 : decide (62 < a1)=true:=decide_eq_true c4
   clear c4
   simp only [Option.some.injEq,Prod.mk.injEq] at H
   obtain ⟨rfl,rfl⟩:=H
   go_enter Try.func114,Try.ntmps114
   go_wp2
   go_ret2
   exact ⟨yq,yd⟩
  ·
   rw [if_neg c4] at H
   have c4b0 : decide (62 < a1)=false:=decide_eq_false c4
   clear c4
   obtain ⟨ji5,hji5⟩ : ∃ j_ : Int,(IntKind.u64.wrap (a1))=j_:=⟨_,rfl⟩
   replace H : (if 0≤(ji5) then (some (shr .i64 a0 (ji5),0)) else (none))=some (r1,r2):=by first|(rw [hji5] at H;exact H)|(simp only [hji5] at H ⊢; exact H)
   replace H:=yif H;obtain ⟨c6,H⟩:=H
   have c6b0:=eq_true c6
   have c6b1 : decide (0≤(ji5))=true:=decide_eq_true c6
   clear c6
   obtain ⟨ji7,hji7⟩ : ∃ j_ : Int,(shr .i64 a0 (ji5))=j_:=⟨_,rfl⟩
   replace H : (some (ji7,0))=some (r1,r2):=by first|(rw [hji7] at H;exact H)|(simp only [hji7] at H ⊢; exact H)
   have hji7_ : (a0 / 2 ^ min (ji5).toNat 64)=ji7:=hji7
   have hji7z : (ji5)≤64→(a0 / 2 ^ (ji5).toNat)=ji7:=shr_small hji7
   simp only [Option.some.injEq,Prod.mk.injEq] at H
   obtain ⟨rfl,rfl⟩:=H
   go_enter Try.func114,Try.ntmps114
   go_wp2
   go_ret2
   exact ⟨by first|rfl|(simp;done)|(simp only [← hji5, ← hji7] <;> (first|rfl|simp))|(simp [*];done),yd⟩
mutual
def pvq_sizes.l0 : Nat→List Int→Int→List Int→Int→Int→Option (List Int)
 | 0,_,_,_,_,_=>none
 | k+1,x0,x3,x10,x11,x12=>if x12 < x11 then (if 0≤x12 then (if x12 < (x10.length : Int) then (pvq_sizes.l0 k x0 (mx (mx x3 (rd x10 x12)) (wrap64 (-(rd x10 x12)))) x10 x11 (wrap64 (x12+1))) else (none)) else (none)) else (pvq_sizes.l1 k x0 x3 0)
def pvq_sizes.l1 : Nat→List Int→Int→Int→Option (List Int)
 | 0,_,_,_=>none
 | k+1,x0,x3,x6=>if 0≤x6 then (if (shr .i64 x3 x6) ≥ 262144 then (pvq_sizes.l1 k x0 x3 (wrap64 (x6+1))) else (if 0≤(x0.length : Int) then (if ((x0.length : Int) : Int).toNat≤35184372088832 then (pvq_sizes.l2 k x6 (List.replicate ((x0.length : Int) : Int).toNat 0) x0 (x0.length : Int) 0) else (none)) else (none))) else (none)
def pvq_sizes.l2 : Nat→Int→List Int→List Int→Int→Int→Option (List Int)
 | 0,_,_,_,_,_=>none
 | k+1,x6,x7,x31,x32,x33=>if x33 < x32 then (if 0≤x33 then (if x33 < (x31.length : Int) then ((num_Shift.f (mx (rd x31 x33) (wrap64 (-(rd x31 x33)))) x6).bind fun bt202=>(if x33 < (x7.length : Int) then (pvq_sizes.l2 k x6 (x7.set (x33 : Int).toNat bt202.1) x31 x32 (wrap64 (x33+1))) else (none))) else (none)) else (none)) else (some x7)
end
def pvq_sizes.f (k : Nat) (l0 : List Int) : Option (List Int):=pvq_sizes.l0 k l0 0 l0 (l0.length : Int) 0
theorem pvq_sizes.mono_l : ∀ k,(∀ y0 y1 y2 y3 y4,LeO (pvq_sizes.l0 k y0 y1 y2 y3 y4) (pvq_sizes.l0 (k+1) y0 y1 y2 y3 y4))∧(∀ y0 y1 y2,LeO (pvq_sizes.l1 k y0 y1 y2) (pvq_sizes.l1 (k+1) y0 y1 y2))∧(∀ y0 y1 y2 y3 y4,LeO (pvq_sizes.l2 k y0 y1 y2 y3 y4) (pvq_sizes.l2 (k+1) y0 y1 y2 y3 y4))
 | 0=>⟨fun _ _ _ _ _ r h=>by simp [pvq_sizes.l0] at h,fun _ _ _ r h=>by simp [pvq_sizes.l1] at h,fun _ _ _ _ _ r h=>by simp [pvq_sizes.l2] at h⟩
 | k+1=>by
  obtain ⟨ih0,ih1,ih2⟩:=pvq_sizes.mono_l k
  refine ⟨?_, ?_, ?_⟩
  ·
   intro y0 y1 y2 y3 y4
   unfold pvq_sizes.l0
   repeat' with_reducible first|apply ih0|apply ih1|apply ih2|apply yLr|apply yLn|apply yLi|apply yLb|intro _
  ·
   intro y0 y1 y2
   unfold pvq_sizes.l1
   repeat' with_reducible first|apply ih0|apply ih1|apply ih2|apply yLr|apply yLn|apply yLi|apply yLb|intro _
  ·
   intro y0 y1 y2 y3 y4
   unfold pvq_sizes.l2
   repeat' with_reducible first|apply ih0|apply ih1|apply ih2|apply yLr|apply yLn|apply yLi|apply yLb|intro _
theorem pvq_sizes.mono : ∀ a0 k,LeO (pvq_sizes.f k a0) (pvq_sizes.f (k+1) a0):=by
 intro a0 k
 obtain ⟨ih0,ih1,ih2⟩:=pvq_sizes.mono_l k
 unfold pvq_sizes.f
 repeat' with_reducible first|apply ih0|apply ih1|apply ih2|apply yLr|apply yLn|apply yLi|apply yLb|intro _
set_option maxHeartbeats 8000000 in
set_option maxRecDepth 100000 in
theorem pvq_sizes.calls (k : Nat) (A0 : Option Addr) (c0 : Nat) (l0 : List Int) (r : List Int) (w : World) (hr0 : Kd.C (Kd.int .i64) w A0 l0.length l0) (hc0 : l0.length≤c0) (h : pvq_sizes.f k l0=some r) :
  Calls Try.prog 79 #[.slice A0 l0.length c0] w fun e w' => ∃ v0_ : Value,e=.returned (v0_)∧Kd.R (Kd.int .i64) 2 w' w.heap.size (fun _=>True) v0_ r∧Below w.heap.size w w' := by
 have HR0:=zm hr0;have HC0:=zm hc0;clear hr0 hc0;have HB:=zm (Below.refl w.heap.size w)
 have H : (pvq_sizes.l0 k l0 0 l0 (l0.length : Int) 0)=some r:=h
 clear h
 have H' := zm H
 clear H
 go_enter Try.func79,Try.ntmps79
 go_wp2
 go_loopg [3,12] k (fun kq v3 v12 w' => ∃ (x3_1 : Int) (x12_1 : Int),v3=.int .i64 x3_1∧v12=.int .i64 x12_1∧Aside0 (pvq_sizes.l0 kq l0 x3_1 l0 (l0.length : Int) x12_1=some r)∧Aside0 (kq≤k)∧Aside0 (Below w.heap.size w w'))
 case atStart=>exact ⟨(0),(0),yq,yq,H',⟨Nat.le_refl _⟩,⟨yhb⟩⟩
 case round =>
  clear H'
  obtain ⟨x3_1,x12_1,rfl,rfl,HA,HK1,HB⟩:=hrel
  obtain ⟨k1,rfl⟩:=ysu gk (fun h=>by subst h;exact absurd HA.out (by simp [pvq_sizes.l0]))
  have H:=HA.out;clear HA
  simp only [pvq_sizes.l0] at H
  by_cases c2 : x12_1 < (l0.length : Int)
  ·
   rw [if_pos c2] at H
   have c2b0 : decide (x12_1 < (l0.length : Int))=true:=decide_eq_true c2
   clear c2
   replace H:=yif H;obtain ⟨c3,H⟩:=H
   have c3b0 : decide (0≤x12_1)=true:=decide_eq_true c3
   clear c3
   replace H:=yif H;obtain ⟨c4,H⟩:=H
   have c4b0 : decide (x12_1 < (l0.length : Int))=true:=decide_eq_true c4
   clear c4
   obtain ⟨ji5,hji5⟩ : ∃ j_ : Int,(mx x3_1 (rd l0 x12_1))=j_:=⟨_,rfl⟩
   replace H : (pvq_sizes.l0 k1 l0 (mx (ji5) (wrap64 (-(rd l0 x12_1)))) l0 (l0.length : Int) (wrap64 (x12_1+1)))=some r:=by first|(rw [hji5] at H;exact H)|(simp only [hji5] at H ⊢; exact H)
   have hji5_ : (if x3_1 < (rd l0 x12_1) then (rd l0 x12_1) else x3_1)=ji5:=hji5
   obtain ⟨ji6,hji6⟩ : ∃ j_ : Int,(mx (ji5) (wrap64 (-(rd l0 x12_1))))=j_:=⟨_,rfl⟩
   replace H : (pvq_sizes.l0 k1 l0 ji6 l0 (l0.length : Int) (wrap64 (x12_1+1)))=some r:=by first|(rw [hji6] at H;exact H)|(simp only [hji6] at H ⊢; exact H)
   have hji6_ : (if (ji5) < (wrap64 (-(rd l0 x12_1))) then (wrap64 (-(rd l0 x12_1))) else (ji5))=ji6:=hji6
   have H' := zm H
   clear H
   have p197 : 0≤(x12_1 : Int):=yt
   have q197 : x12_1 < (l0.length : Int):=yt
   obtain ⟨ad197,e197,hx197_0⟩:=Kd.at_int HR0.out x12_1 p197 q197
   cases e197
   replace hx197_0:=yhx HB hx197_0
   replace p197:=eq_true p197
   replace q197:=eq_true q197
   go_wp2
   go_roundg k1
   case measure=>exact yom1 HK1
   case rel=>exact ⟨(ji6),(wrap64 (x12_1+1)),(by first|rfl|(simp;done)|(simp only [← hji6] <;> (first|rfl|simp))|(simp [*];done)),yq,H',⟨yom1 HK1⟩,⟨yhb⟩⟩
  ·
   rw [if_neg c2] at H
   have c2b0 : decide (x12_1 < (l0.length : Int))=false:=decide_eq_false c2
   clear c2
   have H' := zm H
   clear H
   go_wp2
   go_loopg [6] k1 (fun kq v6 w' => ∃ (x6_2 : Int),v6=.int .i64 x6_2∧Aside0 (pvq_sizes.l1 kq l0 x3_1 x6_2=some r)∧Aside0 (kq≤k1)∧Aside0 (Below w.heap.size w w'))
   case atStart=>exact ⟨(0),yq,H',⟨Nat.le_refl _⟩,⟨yhb⟩⟩
   case round =>
    clear H'
    try clear c2b0
    try clear c3b0
    try clear c4b0
    try clear hx197_0
    try clear p197
    try clear q197
    obtain ⟨x6_2,rfl,HA,HK2,HB⟩:=hrel
    obtain ⟨k2,rfl⟩:=ysu gk (fun h=>by subst h;exact absurd HA.out (by simp [pvq_sizes.l1]))
    have H:=HA.out;clear HA
    simp only [pvq_sizes.l1] at H
    replace H:=yif H;obtain ⟨c7,H⟩:=H
    have c7b0:=eq_true c7
    have c7b1 : decide (0≤x6_2)=true:=decide_eq_true c7
    clear c7
    obtain ⟨ji8,hji8⟩ : ∃ j_ : Int,(shr .i64 x3_1 x6_2)=j_:=⟨_,rfl⟩
    replace H : (if (ji8) ≥ 262144 then (pvq_sizes.l1 k2 l0 x3_1 (wrap64 (x6_2+1))) else (if 0≤(l0.length : Int) then (if ((l0.length : Int) : Int).toNat≤35184372088832 then (pvq_sizes.l2 k2 x6_2 (List.replicate ((l0.length : Int) : Int).toNat 0) l0 (l0.length : Int) 0) else (none)) else (none)))=some r:=by first|(rw [hji8] at H;exact H)|(simp only [hji8] at H ⊢; exact H)
    have hji8_ : (x3_1 / 2 ^ min x6_2.toNat 64)=ji8:=hji8
    have hji8z : x6_2≤64→(x3_1 / 2 ^ x6_2.toNat)=ji8:=shr_small hji8
    by_cases c9 : (ji8) ≥ 262144
    ·
     rw [if_pos c9] at H
     have c9b0 : decide (262144≤(ji8))=true:=decide_eq_true c9
     clear c9
     have H' := zm H
     clear H
     go_wp2
     go_roundg k2
     case measure=>exact yom2 HK1 HK2
     case rel=>exact ⟨(wrap64 (x6_2+1)),yq,H',⟨yom2 HK1 HK2⟩,⟨yhb⟩⟩
    ·
     rw [if_neg c9] at H
     have c9b0 : decide (262144≤(ji8))=false:=decide_eq_false c9
     clear c9
     replace H:=yif H;obtain ⟨c10,H⟩:=H
     have c10b0:=eq_true c10
     have c10b1 : decide (0≤(l0.length : Int))=true:=decide_eq_true c10
     clear c10
     replace H:=yif H;obtain ⟨c11,H⟩:=H
     have c11b0:=eq_true c11
     have c11b1 : decide (((l0.length : Int) : Int).toNat≤35184372088832)=true:=decide_eq_true c11
     clear c11
     obtain ⟨y198,hy198⟩ : ∃ y_ : List Int,y_=(List.replicate ((l0.length : Int) : Int).toNat 0):=⟨_,rfl⟩
     replace H : (pvq_sizes.l2 k2 x6_2 y198 l0 (l0.length : Int) 0)=some r:=yrw hy198 H
     have Ny198:=zm hy198;clear hy198
     have H' := zm H
     clear H
     go_wp2_with (first|((with_reducible refine gate_dst (N:=30) rfl ?_);refine Kd.R_make (Kd.int .i64) _ 2 rfl (N:=30) rfl 53 _ _ rfl (l0.length : Int) rfl rfl Try.underlying53 (.int .i64 0) 8 info2 rfl (by decide) (by omega) 0 (ok:=fun _=>True) (okp:=fun _=>True) rfl (fun _ hk=>hk) trivial (yt) (Nat.le_trans (Nat.mul_le_mul_right _ (yt : (l0.length : Int).toNat≤35184372088832)) (by omega)) (Below.refl _ _) (Nat.le_refl _) ?_;intro v199 w12 ho13 hb hg_ hnew_;clear hg_ hnew_;(first|rw [← Ny198.out] at ho13|(simp only [Int.reduceToNat] at ho13;rw [← Ny198.out] at ho13));have HO200:=zm (Kd.R_lower ho13 (zE yhb));replace HB:=ybs hb;clear hb ho13))
     go_loopg [33] k2 (fun kq v33 w' => ∃ (x7_3 : List Int) (x33_3 : Int),v33=.int .i64 x33_3∧Aside0 (pvq_sizes.l2 kq x6_2 x7_3 l0 (l0.length : Int) x33_3=some r)∧Aside0 (kq≤k2)∧Aside0 (Kd.R (Kd.int .i64) 2 w' w.heap.size (fun _=>True) v199 x7_3)∧Aside0 (Below w.heap.size w w'))
     case atStart=>exact ⟨(y198),(0),yq,H',⟨Nat.le_refl _⟩,⟨yr HO200⟩,⟨yhb⟩⟩
     case round =>
      clear H'
      try clear c7b0
      try clear c7b1
      try clear c9b0
      try clear c10b0
      try clear c10b1
      try clear c11b0
      try clear c11b1
      obtain ⟨x7_3,x33_3,rfl,HA,HK3,HO_7,HB⟩:=hrel
      obtain ⟨k3,rfl⟩:=ysu gk (fun h=>by subst h;exact absurd HA.out (by simp [pvq_sizes.l2]))
      have H:=HA.out;clear HA
      simp only [pvq_sizes.l2] at H
      by_cases c14 : x33_3 < (l0.length : Int)
      ·
       rw [if_pos c14] at H
       have c14b0 : decide (x33_3 < (l0.length : Int))=true:=decide_eq_true c14
       clear c14
       replace H:=yif H;obtain ⟨c15,H⟩:=H
       have c15b0 : decide (0≤x33_3)=true:=decide_eq_true c15
       clear c15
       replace H:=yif H;obtain ⟨c16,H⟩:=H
       have c16b0 : decide (x33_3 < (l0.length : Int))=true:=decide_eq_true c16
       clear c16
       obtain ⟨ji17,hji17⟩ : ∃ j_ : Int,(mx (rd l0 x33_3) (wrap64 (-(rd l0 x33_3))))=j_:=⟨_,rfl⟩
       replace H : ((num_Shift.f (ji17) x6_2).bind fun bt202=>(if x33_3 < (x7_3.length : Int) then (pvq_sizes.l2 k3 x6_2 (x7_3.set (x33_3 : Int).toNat bt202.1) l0 (l0.length : Int) (wrap64 (x33_3+1))) else (none)))=some r:=by first|(rw [hji17] at H;exact H)|(simp only [hji17] at H ⊢; exact H)
       have hji17_ : (if (rd l0 x33_3) < (wrap64 (-(rd l0 x33_3))) then (wrap64 (-(rd l0 x33_3))) else (rd l0 x33_3))=ji17:=hji17
       replace H:=ybi H;obtain ⟨⟨t202,t203⟩,A18,H⟩:=H
       try dsimp only at H
       replace H:=yif H;obtain ⟨c19,H⟩:=H
       have c19b0 : decide (x33_3 < (x7_3.length : Int))=true:=decide_eq_true c19
       clear c19
       obtain ⟨y204,hy204⟩ : ∃ y_ : List Int,y_=(x7_3.set (x33_3 : Int).toNat t202):=⟨_,rfl⟩
       replace H : (pvq_sizes.l2 k3 x6_2 y204 l0 (l0.length : Int) (wrap64 (x33_3+1)))=some r:=yrw hy204 H
       have Ny204:=zm hy204;clear hy204
       have H' := zm H
       clear H
       have p201 : 0≤(x33_3 : Int):=yt
       have q201 : x33_3 < (l0.length : Int):=yt
       obtain ⟨ad201,e201,hx201_0⟩:=Kd.at_int HR0.out x33_3 p201 q201
       cases e201
       replace hx201_0:=yhx HB hx201_0
       replace p201:=eq_true p201
       replace q201:=eq_true q201
       go_wp2_with (first|((with_reducible refine gate_callee (f:=114) rfl ?_);refine goesL_ (some 46) rfl rfl Try.func114 (by kernel_rfl) rfl #[.int .i64 ji17, .int .i64 x6_2] rfl (by (try simp only [List.map_toArray,List.map_cons,List.map_nil]);first|done|(simp only [hji17];rfl)|rfl|(simp only [List.length_drop,List.length_take];rfl)) ?_;(with_reducible refine (num_Shift.calls ji17 x6_2 t202 t203 _ A18.out).mono ?_);rintro e w' ⟨rfl,⟨nd,rfl⟩⟩;refine ⟨_,rfl, ?_⟩;(try (rw [drewN_self wr];generalize hq_ : World.drewN wr _=wr;have n0_ : Aside0 (Kd.R (Kd.int .i64) 2 wr w.heap.size (fun _=>True) v199 x7_3):=⟨by rw [← hq_];exact (yr HO_7)⟩;have n1_ : Aside0 (Below w.heap.size w wr):=⟨by rw [← hq_];exact yhb⟩;clear HO_7 HB hq_;have HO_7:=n0_;have HB:=n1_;clear n0_ n1_));have p20 : 0≤(x33_3 : Int):=yt;have q20 : (x33_3 : Int) < ((x7_3.length : Int) : Int):=yt;obtain ⟨go20,co20,eo20,gb20,gl20,cl20,HG20⟩:=Kd.R_form HO_7.out (by omega);(first|cases eo20|(injection eo20 with ea_ en_ ec_;(first|subst ea_|(injection ea_ with ea_;subst ea_));subst ec_;clear en_));have GB20:=zm gb20;have GG20:=zm HG20;clear gb20 gl20 HG20;obtain ⟨hx20_0,hf20_0⟩:=Kd.R_celln 0 HO_7.out (x33_3 : Int) p20 q20;replace p20:=eq_true p20;replace q20:=eq_true q20;obtain ⟨hy21_,hz21_⟩:=Kd.R_celln 0 HO_7.out (x33_3 : Int) (yt) (yt);have HP21:=Kd.R_putg HO_7.out (x33_3 : Int) t202)|((with_reducible refine gate_store (t:=2) (p:=49) rfl ?_);refine store_event (t:=2) (p:=49) (v := ?vo_w22) (w1:=(wr.setCell ⟨go20,(x33_3 : Int).toNat,none⟩ (.int .i64 t202))) ?hg ?ho ?hn ?hr ?_;(case ho=>rfl);(case hg=>rfl);(case hn=>rfl);(case hr=>first|(go_simp;done)|(go_simp;rfl));intro w22 hw;have hg : wr.grownBy w22 (some go20):=(by rw [hw];exact HP21.2);have hp_ : Kd.R (Kd.int .i64) 2 w22 w.heap.size (fun _=>True) (.slice (some ⟨go20,0,none⟩) x7_3.length co20) y204:=(by rw [hw,Ny204.out];exact HP21.1);clear HP21;replace HO_7:=zm (hp_);replace HB:=zm ((by rw [hw];exact zk (HB.out) GB20.out : Below w.heap.size w w22));clear hg hw hp_))
       go_roundg k3
       case measure=>exact yom3 HK1 HK2 HK3
       case rel=>exact ⟨(y204),(wrap64 (x33_3+1)),yq,H',⟨yom3 HK1 HK2 HK3⟩,⟨yr HO_7⟩,⟨yhb⟩⟩
      ·
       rw [if_neg c14] at H
       have c14b0 : decide (x33_3 < (l0.length : Int))=false:=decide_eq_false c14
       clear c14
       obtain rfl:=Option.some.inj H
       go_wp2
       go_ret
       exact ⟨_,by first|rfl|(simp [errW_none,errW_some] <;> rfl)|(simp only [← hji8];first|rfl|(simp [errW_none,errW_some] <;> rfl))|(simp [*,errW_none,errW_some] <;> rfl),yr HO_7,yhb⟩
def pvq_with.f (a0_0 : Int) (a0_1 : Int) (a1 : Int) (a2 : Int) : Option (Int × Int):=some (wrap64 (a0_0+a1),wrap64 (a0_1+(wrap64 ((wrap64 (2 * a2))+1))))
set_option maxHeartbeats 8000000 in
set_option maxRecDepth 100000 in
theorem pvq_with.calls (a0_0 : Int) (a0_1 : Int) (a1 : Int) (a2 : Int) (r1 : Int) (r2 : Int) (w : World) (h : pvq_with.f a0_0 a0_1 a1 a2=some (r1,r2)) :
  Calls Try.prog 80 #[.agg #[.int .i64 a0_0, .int .i64 a0_1], .int .i64 a1, .int .i64 a2] w fun e w' => e=.returned (.agg #[.int .i64 r1, .int .i64 r2])∧Below w.heap.size w w' := by
 have hu117:=Try.underlying117;have HB:=zm (Below.refl w.heap.size w)
 have H : (some (wrap64 (a0_0+a1),wrap64 (a0_1+(wrap64 ((wrap64 (2 * a2))+1)))))=some (r1,r2):=h
 clear h
 simp only [Option.some.injEq,Prod.mk.injEq] at H
 obtain ⟨rfl,rfl⟩:=H
 go_enter Try.func80,Try.ntmps80
 go_wp2_with (first|((with_reducible refine gate_dst (N:=3) rfl ?_);refine ybx 3 #[.int .i64 a0_0, .int .i64 a0_1] 117 ?_;intro gb205 hg w4 hbox hb;have BK205:=zm (hbox);have GW205:=ygw hg;have GE205:=ygw hg;replace HB:=ybs hb;clear hb hbox hg)|((with_reducible refine gate_dst (N:=6) rfl ?_);refine ybx 6 #[.int .i64 0, .int .i64 0] 117 ?_;intro gb206 hg w5 hbox hb;have BK206:=zm (hbox);have GW206:=ygw hg;have GE206:=ygw hg;replace HB:=ybs hb;have NB205_206:=ynl BK205 hg;have NB206_205:=yng BK205 hg;replace BK205:=ybb BK205 hb;clear hb hbox hg;have:=NB205_206.out;have:=NB206_205.out;obtain ⟨_,_,_,_⟩:=yc2 BK205;obtain ⟨_,_,_,_⟩:=yc2 BK206))
 refine bodyPost_ret (results_cell_row rfl _ _ gb206 117 #[.int .i64 (wrap64 (a0_0+a1)), .int .i64 (wrap64 (a0_1+(wrap64 ((wrap64 (2 * a2))+1))))] (0,0) _ rfl (ykp BK206) Try.underlying117 rfl (by kernel_rfl)) rfl ?_
 exact ⟨ye,yhb⟩
mutual
def pvq_Search.j0 : Nat→List Int→Int→Bool→Option (List Int × Int)
 | 0,_,_,_=>none
 | k+1,x0,x1,x25=>if x25=true then (some (([] : List Int),1)) else ((pvq_sizes.f k x0).bind fun t215=>(if 0≤(x0.length : Int) then (if ((x0.length : Int) : Int).toNat≤35184372088832 then (pvq_Search.l0 k x0 t215 (List.replicate ((x0.length : Int) : Int).toNat 0) x1 0 0 0) else (none)) else (none)))
def pvq_Search.l0 : Nat→List Int→List Int→List Int→Int→Int→Int→Int→Option (List Int × Int)
 | 0,_,_,_,_,_,_,_=>none
 | k+1,x0,x6,x7,x33,x34,x222000,x222001=>if x34 < x33 then (if 0≤(x0.length : Int) then (if ((x0.length : Int) : Int).toNat≤17592186044416 then ((some (List.replicate ((x0.length : Int) : Int).toNat z117 : List (S117))).bind fun y222=>(pvq_Search.l1 k x0 x6 x7 y222 x33 x34 (y222.length : Int) 0 x222000 x222001)) else (none)) else (none)) else (pvq_Search.l2 k x7 x0 (x0.length : Int) 0)
def pvq_Search.l1 : Nat→List Int→List Int→List Int→List (S117)→Int→Int→Int→Int→Int→Int→Option (List Int × Int)
 | 0,_,_,_,_,_,_,_,_,_,_=>none
 | k+1,x0,x6,x7,x10,x33,x34,x40,x41,x222000,x222001=>if x41 < x40 then (if 0≤x41 then (if x41 < (x6.length : Int) then (if x41 < (x7.length : Int) then ((pvq_with.f x222000 x222001 (rd x6 x41) (rd x7 x41)).bind fun bt227=>(if x41 < (x10.length : Int) then (pvq_Search.l1 k x0 x6 x7 (x10.set (x41 : Int).toNat (⟨bt227.1,bt227.2⟩ : S117)) x33 x34 x40 (wrap64 (x41+1)) x222000 x222001) else (none))) else (none)) else (none)) else (none)) else ((pvq_best.f k x10).bind fun t230=>(if 0≤t230 then (if t230 < (x10.length : Int) then (if t230 < (x7.length : Int) then (pvq_Search.l0 k x0 x6 (x7.set (t230 : Int).toNat (wrap64 ((rd x7 t230)+1))) x33 (wrap64 (x34+1)) ((rd_T117 x10 t230).f0) ((rd_T117 x10 t230).f1)) else (none)) else (none)) else (none)))
def pvq_Search.l2 : Nat→List Int→List Int→Int→Int→Option (List Int × Int)
 | 0,_,_,_,_=>none
 | k+1,x7,x73,x74,x75=>if x75 < x74 then (if 0≤x75 then (if x75 < (x73.length : Int) then (if (rd x73 x75) < 0 then (if x75 < (x7.length : Int) then (pvq_Search.l2 k (x7.set (x75 : Int).toNat (wrap64 (-(rd x7 x75)))) x73 x74 (wrap64 (x75+1))) else (none)) else (pvq_Search.l2 k x7 x73 x74 (wrap64 (x75+1)))) else (none)) else (none)) else (some (x7,0))
end
def pvq_Search.f (k : Nat) (l0 : List Int) (a1 : Int) : Option (List Int × Int):=(pvq_fair.f k l0).bind fun t214=>(if t214=true then (if a1 < 0 then (pvq_Search.j0 k l0 a1 true) else (pvq_Search.j0 k l0 a1 (decide (a1 > 12)))) else (pvq_Search.j0 k l0 a1 true))
theorem pvq_Search.mono_l : ∀ k,(∀ y0 y1 y2,LeO (pvq_Search.j0 k y0 y1 y2) (pvq_Search.j0 (k+1) y0 y1 y2))∧(∀ y0 y1 y2 y3 y4 y5 y6,LeO (pvq_Search.l0 k y0 y1 y2 y3 y4 y5 y6) (pvq_Search.l0 (k+1) y0 y1 y2 y3 y4 y5 y6))∧(∀ y0 y1 y2 y3 y4 y5 y6 y7 y8 y9,LeO (pvq_Search.l1 k y0 y1 y2 y3 y4 y5 y6 y7 y8 y9) (pvq_Search.l1 (k+1) y0 y1 y2 y3 y4 y5 y6 y7 y8 y9))∧(∀ y0 y1 y2 y3,LeO (pvq_Search.l2 k y0 y1 y2 y3) (pvq_Search.l2 (k+1) y0 y1 y2 y3))
 | 0=>⟨fun _ _ _ r h=>by simp [pvq_Search.j0] at h,fun _ _ _ _ _ _ _ r h=>by simp [pvq_Search.l0] at h,fun _ _ _ _ _ _ _ _ _ _ r h=>by simp [pvq_Search.l1] at h,fun _ _ _ _ r h=>by simp [pvq_Search.l2] at h⟩
 | k+1=>by
  obtain ⟨ih0,ih1,ih2,ih3⟩:=pvq_Search.mono_l k
  refine ⟨?_, ?_, ?_, ?_⟩
  ·
   intro y0 y1 y2
   unfold pvq_Search.j0
   repeat' with_reducible first|apply ih0|apply ih1|apply ih2|apply ih3|apply pvq_best.mono|apply pvq_fair.mono|apply pvq_sizes.mono|apply yLr|apply yLn|apply yLi|apply yLb|intro _
  ·
   intro y0 y1 y2 y3 y4 y5 y6
   unfold pvq_Search.l0
   repeat' with_reducible first|apply ih0|apply ih1|apply ih2|apply ih3|apply pvq_best.mono|apply pvq_fair.mono|apply pvq_sizes.mono|apply yLr|apply yLn|apply yLi|apply yLb|intro _
  ·
   intro y0 y1 y2 y3 y4 y5 y6 y7 y8 y9
   unfold pvq_Search.l1
   repeat' with_reducible first|apply ih0|apply ih1|apply ih2|apply ih3|apply pvq_best.mono|apply pvq_fair.mono|apply pvq_sizes.mono|apply yLr|apply yLn|apply yLi|apply yLb|intro _
  ·
   intro y0 y1 y2 y3
   unfold pvq_Search.l2
   repeat' with_reducible first|apply ih0|apply ih1|apply ih2|apply ih3|apply pvq_best.mono|apply pvq_fair.mono|apply pvq_sizes.mono|apply yLr|apply yLn|apply yLi|apply yLb|intro _
theorem pvq_Search.mono : ∀ a0 a1 k,LeO (pvq_Search.f k a0 a1) (pvq_Search.f (k+1) a0 a1):=by
 intro a0 a1 k
 obtain ⟨ih0,ih1,ih2,ih3⟩:=pvq_Search.mono_l k
 unfold pvq_Search.f
 repeat' with_reducible first|apply ih0|apply ih1|apply ih2|apply ih3|apply pvq_best.mono|apply pvq_fair.mono|apply pvq_sizes.mono|apply yLr|apply yLn|apply yLi|apply yLb|intro _
def pvq_Search.T12 : Bool × List (List Nat × List Nat):=(true, [([], []),([], []),([], []),([], []),([], []),([3,4], [3,4]),([5], [5]),([], []),([], []),([7,8], [7,8]),([9], [9]),([2,6,10], [2,6,10]),([0,1,0,1,2,3,4,5,6,7,8,9,10,11], [0,1]),([12,11,11,0,1,2,3,4,5,6,7,8,9,10,11], [11,12])])
def pvq_Search.B12 : List Nat := [0,0,0,0,0,24,56,0,0,384,896,2044,4095,8191]
theorem pvq_Search.tab12 : rtab .any (opsOf Try.f39 12)=pvq_Search.T12:=by kernel_rfl
theorem pvq_Search.bits12 : waitsOk pvq_Search.T12.2 pvq_Search.B12=true:=by kernel_rfl
set_option maxHeartbeats 8000000 in
set_option maxRecDepth 100000 in
theorem pvq_Search.calls (k : Nat) (A0 : Option Addr) (c0 : Nat) (l0 : List Int) (a1 : Int) (r1 : List Int) (r2 : Int) (w : World) (hr0 : Kd.C (Kd.int .i64) w A0 l0.length l0) (hc0 : l0.length≤c0) (h : pvq_Search.f k l0 a1=some (r1,r2)) :
  Calls Try.prog 39 #[.slice A0 l0.length c0, .int .i64 a1] w fun e w' => ∃ v0_ : Value,e=.returned (.tuple #[v0_, .int .i64 r2])∧Kd.R (Kd.int .i64) 3 w' w.heap.size (fun _=>True) v0_ r1∧Below w.heap.size w w' := by
 have hu117:=Try.underlying117;have HR0:=zm hr0;have HC0:=zm hc0;clear hr0 hc0;have HB:=zm (Below.refl w.heap.size w)
 have H : ((pvq_fair.f k l0).bind fun t214=>(if t214=true then (if a1 < 0 then (pvq_Search.j0 k l0 a1 true) else (pvq_Search.j0 k l0 a1 (decide (a1 > 12)))) else (pvq_Search.j0 k l0 a1 true)))=some (r1,r2):=h
 clear h;have HC3:=zm H;clear H
 go_enter Try.func39,Try.ntmps39
 go_upto_region 1 with (fail)
 go_cut [25] (fun v25 wc => ∃ (kq : Nat) (x25_2 : Bool),v25=.bool x25_2∧Aside0 (pvq_Search.j0 kq l0 a1 x25_2=some (r1,r2))∧Aside0 (kq≤k)∧Aside0 (Below w.heap.size w wc))
 case first =>
  have H:=HC3.out;clear HC3
  replace H:=ybi H;obtain ⟨t214,A4,H⟩:=H
  by_cases c5 : t214=true
  ·
   subst c5
   rw [if_pos rfl] at H
   by_cases c6 : a1 < 0
   ·
    rw [if_pos c6] at H
    have c6b0 : decide (a1 < 0)=true:=decide_eq_true c6
    clear c6
    (first|rw [c6b0]|(simp only [i64_w,i32_w];rw [c6b0])|skip)
    have H' := zm H
    clear H
    go_wp2_with (first|((with_reducible refine gate_callee (f:=78) rfl ?_);refine ygl 16 Try.func78 #[.slice A0 l0.length c0] ?_;(with_reducible refine (pvq_fair.calls k _ _ l0 true _ ?side1 HC0.out A4.out).mono ?_);(case side1=>exact ycb HR0);rintro e w' ⟨rfl,⟨nd,rfl⟩⟩;refine ⟨_,rfl, ?_⟩))
    go_meet
    case rel=>exact ⟨_,(true),yq,H',⟨yo⟩,⟨yhb⟩⟩
   ·
    rw [if_neg c6] at H
    have c6b0 : decide (a1 < 0)=false:=decide_eq_false c6
    clear c6
    (first|rw [c6b0]|(simp only [i64_w,i32_w];rw [c6b0])|skip)
    have H' := zm H
    clear H
    go_wp2_with (first|((with_reducible refine gate_callee (f:=78) rfl ?_);refine ygl 16 Try.func78 #[.slice A0 l0.length c0] ?_;(with_reducible refine (pvq_fair.calls k _ _ l0 true _ ?side1 HC0.out A4.out).mono ?_);(case side1=>exact ycb HR0);rintro e w' ⟨rfl,⟨nd,rfl⟩⟩;refine ⟨_,rfl, ?_⟩))
    go_meet
    case rel=>exact ⟨_,(decide (a1 > 12)),yq,H',⟨yo⟩,⟨yhb⟩⟩
  ·
   replace c5:=Bool.eq_false_iff.mpr c5
   subst c5
   rw [ynf] at H
   have H' := zm H
   clear H
   go_wp2_with (first|((with_reducible refine gate_callee (f:=78) rfl ?_);refine ygl 16 Try.func78 #[.slice A0 l0.length c0] ?_;(with_reducible refine (pvq_fair.calls k _ _ l0 false _ ?side1 HC0.out A4.out).mono ?_);(case side1=>exact ycb HR0);rintro e w' ⟨rfl,⟨nd,rfl⟩⟩;refine ⟨_,rfl, ?_⟩))
   go_meet
   case rel=>exact ⟨_,(true),yq,H',⟨yo⟩,⟨yhb⟩⟩
 case rest =>
  clear HC3
  obtain ⟨kq,x25_2,rfl,HA,HJ2,HB⟩:=hcut
  obtain ⟨kj2,rfl⟩:=ysu kq (fun h=>by subst h;exact absurd HA.out (by simp [pvq_Search.j0]))
  have H:=HA.out;clear HA
  simp only [pvq_Search.j0] at H
  by_cases c7 : x25_2=true
  ·
   subst c7
   rw [if_pos rfl] at H
   simp only [Option.some.injEq,Prod.mk.injEq] at H
   obtain ⟨rfl,rfl⟩:=H
   go_wp2
   go_ret2
   exact ⟨_,ye,yn,yhb⟩
  ·
   replace c7:=Bool.eq_false_iff.mpr c7
   subst c7
   rw [ynf] at H
   replace H:=ybi H;obtain ⟨t215,A8,H⟩:=H
   replace H:=yif H;obtain ⟨c9,H⟩:=H
   have c9b0:=eq_true c9
   have c9b1 : decide (0≤(l0.length : Int))=true:=decide_eq_true c9
   clear c9
   replace H:=yif H;obtain ⟨c10,H⟩:=H
   have c10b0:=eq_true c10
   have c10b1 : decide (((l0.length : Int) : Int).toNat≤35184372088832)=true:=decide_eq_true c10
   clear c10
   obtain ⟨y218,hy218⟩ : ∃ y_ : List Int,y_=(List.replicate ((l0.length : Int) : Int).toNat 0):=⟨_,rfl⟩
   replace H : (pvq_Search.l0 kj2 l0 t215 y218 a1 0 0 0)=some (r1,r2):=yrw hy218 H
   have Ny218:=zm hy218;clear hy218
   have H' := zm H
   clear H
   try go_wp2
   replace HB:=zm (zf HB.out)
   refine start_ (n:=7) (S:=fun w' => True) (ds := []) #[false,false,false,false,false,false,false] (by kernel_rfl) rfl rfl trivial (fun hHeld => ?_)
   generalize wc.drew=w11 at HB hHeld ⊢
   refine pure_ (i:=0) (N:=some 26) (v := ?_) (a' := ?_) #[true,false,false,false,false,false,false] rfl rfl (by kernel_rfl) (fun _ _ _ h=>h) (Or.inl ⟨by rfl, ?_⟩) ?_ ?_
   rotate_left
   ·
    intro w'
    go_simp
    with_reducible rfl
   rotate_left
   ·
    simp only [Act.put,List.setIfInBounds_toArray,List.set_cons_zero,List.set_cons_succ,i64_w,i32_w]
    rfl
   refine pure_ (i:=2) (N:=some 28) (v := ?_) (a' := ?_) #[true,false,true,false,false,false,false] rfl rfl (by kernel_rfl) (fun _ _ _ h=>h) (Or.inl ⟨by rfl, ?_⟩) ?_ ?_
   rotate_left
   ·
    intro w'
    go_simp
    with_reducible rfl
   rotate_left
   ·
    simp only [Act.put,List.setIfInBounds_toArray,List.set_cons_zero,List.set_cons_succ,i64_w,i32_w]
    rfl
   refine pure_ (i:=3) (N:=some 29) (v := ?_) (a' := ?_) #[true,false,true,true,false,false,false] rfl rfl (by kernel_rfl) (fun _ _ _ h=>h) (Or.inl ⟨by rfl, ?_⟩) ?_ ?_
   rotate_left
   ·
    intro w'
    go_simp
    with_reducible rfl
   rotate_left
   ·
    simp only [Act.put,List.setIfInBounds_toArray,List.set_cons_zero,List.set_cons_succ,i64_w,i32_w]
    rfl
   refine join_ (σ:=Value × Value) 1 #[true,true,true,true,true,true,false] (fun s_ => [(27,s_.1),(30,s_.2),(6,s_.1)]) (fun s_ w' => (Kd.R (Kd.int .i64) 2 w' w.heap.size (fun _=>True) s_.1 t215)∧(Kd.R (Kd.int .i64) 3 w' w.heap.size (fun _=>True) s_.2 y218)∧(Below w.heap.size w w')) ?_ ?_
   rotate_left
   ·
    intro hCont
    refine two_ (i:=1) (j:=4) (Ni:=some 27) (Nj:=some 30) #[true,true,true,true,false,false,false] #[true,false,true,true,true,false,false] rfl rfl rfl rfl (by kernel_rfl) (by decide) (by decide) (fun K hK => ?_) (fun K hK => ?_)
    ·
     skip
     refine ygs Try.func79 #[.slice A0 l0.length c0] ?_
     with_reducible refine (pvq_sizes.calls kj2 _ _ l0 t215 _ ?side1 ?side2 A8.out).mono ?_
     (case side1=>exact ycb HR0)
     (case side2=>exact HC0.out)
     rintro e w12 ⟨v216,rfl,ho0,hb⟩
     refine ⟨_,rfl, ?_⟩
     have HO217:=zm (Kd.R_lower ho0 (zE yhb))
     replace HB:=ybs hb
     (try clear hb)
     (try clear ho0)
     refine hK.out _ _ trivial (fun hHeld => ?_)
     clear hK K
     refine ym (some 27) ?_
     refine pure_ (i:=5) (N:=some 6) (v := ?_) (a' := ?_) #[true,true,true,true,false,true,false] rfl rfl (by kernel_rfl) (fun _ _ _ h=>h) (Or.inl ⟨by rfl, ?_⟩) ?_ ?_
     rotate_left
     ·
      intro w'
      go_simp
      with_reducible rfl
     rotate_left
     ·
      simp only [Act.put,List.setIfInBounds_toArray,List.set_cons_zero,List.set_cons_succ,i64_w,i32_w]
      rfl
     refine one_ (i:=4) (N:=some 30) #[true,true,true,true,true,true,false] rfl rfl (by kernel_rfl) (by decide) (fun K hK => ?_)
     refine Kd.R_make_step (Kd.int .i64) _ 3 (by rfl) (N:=30) rfl 55 _ _ rfl (l0.length : Int) rfl rfl Try.underlying55 (.int .i64 0) 8 info3 rfl (by decide) (by omega) 0 (ok:=fun _=>True) (okp:=fun _=>True) rfl (fun _ hk=>hk) trivial (yt) (Nat.le_trans (Nat.mul_le_mul_right _ (yt : (l0.length : Int).toNat≤35184372088832)) (by omega)) (Below.refl _ _) (Nat.le_refl _) ?_
     intro v219 w13 ho14 hb hg_ hnew_
     clear hg_ hnew_
     (first|rw [← Ny218.out] at ho14|(simp only [Int.reduceToNat] at ho14;rw [← Ny218.out] at ho14))
     replace HO217:=yRb HO217 hb
     have HO220:=zm (Kd.R_lower ho14 (zE yhb))
     replace HB:=ybs hb
     clear hb ho14
     refine hK.out _ _ trivial (fun hHeld => ?_)
     clear hK K
     refine ym (some 30) ?_
     exact norm_ (by simp only [putAll,Act.put,List.setIfInBounds_toArray,List.set_cons_zero,List.set_cons_succ]) (hCont (v216,v219) _ ⟨(yr HO217),(yr HO220),yhb⟩)
    ·
     skip
     refine Kd.R_make_step (Kd.int .i64) _ 3 (by rfl) (N:=30) rfl 55 _ _ rfl (l0.length : Int) rfl rfl Try.underlying55 (.int .i64 0) 8 info3 rfl (by decide) (by omega) 0 (ok:=fun _=>True) (okp:=fun _=>True) rfl (fun _ hk=>hk) trivial (yt) (Nat.le_trans (Nat.mul_le_mul_right _ (yt : (l0.length : Int).toNat≤35184372088832)) (by omega)) (Below.refl _ _) (Nat.le_refl _) ?_
     intro v219 w12 ho13 hb hg_ hnew_
     clear hg_ hnew_
     (first|rw [← Ny218.out] at ho13|(simp only [Int.reduceToNat] at ho13;rw [← Ny218.out] at ho13))
     have HO220:=zm (Kd.R_lower ho13 (zE yhb))
     replace HB:=ybs hb
     clear hb ho13
     refine hK.out _ _ trivial (fun hHeld => ?_)
     clear hK K
     refine ym (some 30) ?_
     refine one_ (i:=1) (N:=some 27) #[true,true,true,true,true,false,false] rfl rfl (by kernel_rfl) (by decide) (fun K hK => ?_)
     refine ygs Try.func79 #[.slice A0 l0.length c0] ?_
     with_reducible refine (pvq_sizes.calls kj2 _ _ l0 t215 _ ?side1 ?side2 A8.out).mono ?_
     (case side1=>exact ycb HR0)
     (case side2=>exact HC0.out)
     rintro e w14 ⟨v216,rfl,ho0,hb⟩
     refine ⟨_,rfl, ?_⟩
     replace HO220:=yRb HO220 hb
     have HO217:=zm (Kd.R_lower ho0 (zE yhb))
     replace HB:=ybs hb
     (try clear hb)
     (try clear ho0)
     refine hK.out _ _ trivial (fun hHeld => ?_)
     clear hK K
     refine ym (some 27) ?_
     refine pure_ (i:=5) (N:=some 6) (v := ?_) (a' := ?_) #[true,true,true,true,true,true,false] rfl rfl (by kernel_rfl) (fun _ _ _ h=>h) (Or.inl ⟨by rfl, ?_⟩) ?_ ?_
     rotate_left
     ·
      intro w'
      go_simp
      with_reducible rfl
     rotate_left
     ·
      simp only [Act.put,List.setIfInBounds_toArray,List.set_cons_zero,List.set_cons_succ,i64_w,i32_w]
      rfl
     exact norm_ (by simp only [putAll,Act.put,List.setIfInBounds_toArray,List.set_cons_zero,List.set_cons_succ]) (hCont (v216,v219) _ ⟨(yr HO217),(yr HO220),yhb⟩)
   rintro ⟨v216,v219⟩ w15 ⟨h0_,h1_,h2_⟩
   have n0_ : Aside0 (Kd.R (Kd.int .i64) 2 w15 w.heap.size (fun _=>True) v216 t215):=⟨h0_⟩
   have n1_ : Aside0 (Kd.R (Kd.int .i64) 3 w15 w.heap.size (fun _=>True) v219 y218):=⟨h1_⟩
   have n2_ : Aside0 (Below w.heap.size w w15):=⟨h2_⟩
   clear HB;clear h0_ h1_ h2_;have HO217:=n0_;have HO220:=n1_;have HB:=n2_;clear n0_ n1_ n2_;have hHeld:=trivial
   refine norm_ (a' := ?_) ?_ ?_
   rotate_left
   ·
    simp only [putAll,Act.put,List.setIfInBounds_toArray,List.set_cons_zero,List.set_cons_succ]
    rfl
   refine pure_ (i:=6) (N:=some 7) (v := ?_) (a' := ?_) #[true,true,true,true,true,true,true] rfl rfl (by kernel_rfl) (fun _ _ _ h=>h) (Or.inl ⟨by rfl, ?_⟩) ?_ ?_
   rotate_left
   ·
    intro w'
    go_simp
    with_reducible rfl
   rotate_left
   ·
    simp only [Act.put,List.setIfInBounds_toArray,List.set_cons_zero,List.set_cons_succ,i64_w,i32_w]
    rfl
   refine done_ (by kernel_rfl) ?_
   try go_wp2_with (first|((with_reducible refine gate_dst (N:=8) rfl ?_);refine ybx 8 #[.int .i64 0, .int .i64 0] 117 ?_;intro gb221 hg w16 hbox hb;replace HO217:=yRb HO217 hb;replace HO220:=yRb HO220 hb;have BK221:=zm (hbox);have GW221:=ygw hg;have GE221:=ygw hg;replace HB:=ybs hb;clear hb hbox hg;obtain ⟨hcz17_0,hcz17_1,hfz17_0,hfz17_1⟩:=yc2 BK221))
   go_loopg [9,34] kj2 (fun kq v9 v34 w' => ∃ (x7_2 : List Int) (x34_2 : Int) (x222000_2 : Int) (x222001_2 : Int),v9=.func (.func 80) #[.agg #[.int .i64 x222000_2, .int .i64 x222001_2]] #[]∧v34=.int .i64 x34_2∧Aside0 (pvq_Search.l0 kq l0 t215 x7_2 a1 x34_2 x222000_2 x222001_2=some (r1,r2))∧Aside0 (kq≤kj2)∧Aside0 (Kd.R (Kd.int .i64) 2 w' w.heap.size (fun _=>True) v216 t215)∧Aside0 (Kd.R (Kd.int .i64) 3 w' w.heap.size (fun _=>True) v219 x7_2)∧Aside0 (w'.heap[gb221]? = some (.cells #[.int .i64 x222000_2, .int .i64 x222001_2] 117 (0,0)))∧Aside0 (Below w.heap.size w w'))
   case atStart=>exact ⟨(y218),(0),(0),(0),yq,yq,H',⟨Nat.le_refl _⟩,⟨yr HO217⟩,⟨yr HO220⟩,⟨yk BK221⟩,⟨yhb⟩⟩
   case round =>
    clear H'
    try clear c9b0
    try clear c9b1
    try clear c10b0
    try clear c10b1
    try clear hcz17_0
    try clear hcz17_1
    try clear hfz17_0
    try clear hfz17_1
    obtain ⟨x7_2,x34_2,x222000_2,x222001_2,rfl,rfl,HA,HK2,HO_6,HO_7,BK221,HB⟩:=hrel
    obtain ⟨k2,rfl⟩:=ysu gk (fun h=>by subst h;exact absurd HA.out (by simp [pvq_Search.l0]))
    have H:=HA.out;clear HA
    simp only [pvq_Search.l0] at H
    by_cases c18 : x34_2 < a1
    ·
     rw [if_pos c18] at H
     have c18b0 : decide (x34_2 < a1)=true:=decide_eq_true c18
     clear c18
     replace H:=yif H;obtain ⟨c19,H⟩:=H
     have c19b0:=eq_true c19
     have c19b1 : decide (0≤(l0.length : Int))=true:=decide_eq_true c19
     clear c19
     replace H:=yif H;obtain ⟨c20,H⟩:=H
     have c20b0:=eq_true c20
     have c20b1 : decide (((l0.length : Int) : Int).toNat≤17592186044416)=true:=decide_eq_true c20
     clear c20
     obtain ⟨y222,hy222⟩ : ∃ y_ : List (S117),y_=(List.replicate ((l0.length : Int) : Int).toNat z117):=⟨_,rfl⟩
     replace H : (pvq_Search.l1 k2 l0 t215 x7_2 y222 a1 x34_2 (y222.length : Int) 0 x222000_2 x222001_2)=some (r1,r2):=yrw hy222 H
     have Ny222:=zm hy222;clear hy222
     have H' := zm H
     clear H
     go_wp2_with (first|((with_reducible refine gate_dst (N:=38) rfl ?_);refine Kd.R_make k117 _ 117 rfl (N:=38) rfl 119 _ _ rfl (l0.length : Int) rfl rfl Try.underlying119 (.agg #[(.int .i64 0),(.int .i64 0)]) 16 info117 rfl (by decide) (by omega) z117 (ok:=fun _=>True) (okp:=fun _=>True) (k117_mkM _ _ _ z117 ) (fun _ hk=>hk) trivial (yt) (Nat.le_trans (Nat.mul_le_mul_right _ (yt : (l0.length : Int).toNat≤17592186044416)) (by omega)) (Below.refl _ _) (Nat.le_refl _) ?_;intro v223 w21 ho22 hb hg_ hnew_;clear hg_ hnew_;(first|rw [← Ny222.out] at ho22|(simp only [Int.reduceToNat] at ho22;rw [← Ny222.out] at ho22));replace HO_6:=yRb HO_6 hb;replace HO_7:=yRb HO_7 hb;have HO224:=zm (Kd.R_lower (Kd.R_newB ho22 (g:=gb221) (o:=.cells #[.int .i64 x222000_2, .int .i64 x222001_2] 117 (0,0)) (yk BK221)) (zE yhb));replace BK221:=ybb BK221 hb;replace HB:=ybs hb;clear hb ho22;obtain ⟨Ao23,co23,eo23⟩:=Kd.R_slice HO224.out;subst eo23))
     go_loopg [41] k2 (fun kq v41 w' => ∃ (x10_3 : List (S117)) (x41_3 : Int) (x222000_3 : Int) (x222001_3 : Int),v41=.int .i64 x41_3∧Aside0 (x222000_3=x222000_2)∧Aside0 (x222001_3=x222001_2)∧Aside0 (pvq_Search.l1 kq l0 t215 x7_2 x10_3 a1 x34_2 (y222.length : Int) x41_3 x222000_3 x222001_3=some (r1,r2))∧Aside0 (kq≤k2)∧Aside0 (Kd.R (Kd.int .i64) 2 w' w.heap.size (fun _=>True) v216 t215)∧Aside0 (Kd.R (Kd.int .i64) 3 w' w.heap.size (fun _=>True) v219 x7_2)∧Aside0 (Kd.R k117 117 w' w.heap.size (fun k_=>k_≠gb221) (.slice Ao23 y222.length co23) x10_3)∧Aside0 (w'.heap[gb221]? = some (.cells #[.int .i64 x222000_3, .int .i64 x222001_3] 117 (0,0)))∧Aside0 (Below w.heap.size w w'))
     case atStart=>exact ⟨(y222),(0),(x222000_2),(x222001_2),yq,⟨rfl⟩,⟨rfl⟩,H',⟨Nat.le_refl _⟩,⟨yr HO_6⟩,⟨yr HO_7⟩,⟨yR0 HO224⟩,⟨yk BK221⟩,⟨yhb⟩⟩
     case round =>
      clear H'
      try clear c18b0
      try clear c19b0
      try clear c19b1
      try clear c20b0
      try clear c20b1
      obtain ⟨x10_3,x41_3,x222000_3,x222001_3,rfl,hq0,hq1,HA,HK3,HO_6,HO_7,HO_10,BK221,HB⟩:=hrel
      have hl10_3:=(Kd.R_reads' HO_10.out).1
      rw [hl10_3] at HO_10
      (try simp only [hl10_3])
      (try simp only [hl10_3] at BK221)
      (try simp only [hl10_3] at HO_6)
      (try simp only [hl10_3] at HO_7)
      obtain ⟨k3,rfl⟩:=ysu gk (fun h=>by subst h;exact absurd HA.out (by simp [pvq_Search.l1]))
      have H:=HA.out;clear HA
      simp only [pvq_Search.l1] at H
      by_cases c24 : x41_3 < (y222.length : Int)
      ·
       rw [if_pos c24] at H
       have c24b0 : decide (x41_3 < (y222.length : Int))=true:=decide_eq_true c24
       clear c24
       replace H:=yif H;obtain ⟨c25,H⟩:=H
       have c25b0 : decide (0≤x41_3)=true:=decide_eq_true c25
       clear c25
       replace H:=yif H;obtain ⟨c26,H⟩:=H
       have c26b0 : decide (x41_3 < (t215.length : Int))=true:=decide_eq_true c26
       clear c26
       replace H:=yif H;obtain ⟨c27,H⟩:=H
       have c27b0 : decide (x41_3 < (x7_2.length : Int))=true:=decide_eq_true c27
       clear c27
       replace H:=ybi H;obtain ⟨⟨t227,t228⟩,A28,H⟩:=H
       try dsimp only at H
       replace H:=yif H;obtain ⟨c29,H⟩:=H
       have c29b0 : decide (x41_3 < (x10_3.length : Int))=true:=decide_eq_true c29
       clear c29
       obtain ⟨y229,hy229⟩ : ∃ y_ : List (S117),y_=(x10_3.set (x41_3 : Int).toNat (⟨t227,t228⟩ : S117)):=⟨_,rfl⟩
       replace H : (pvq_Search.l1 k3 l0 t215 x7_2 y229 a1 x34_2 (y222.length : Int) (wrap64 (x41_3+1)) x222000_3 x222001_3)=some (r1,r2):=yrw hy229 H
       have Ny229:=zm hy229;clear hy229
       have H' := zm H
       clear H
       try go_wp2
       replace HO_6:=zm (zq HO_6.out)
       replace HO_7:=zm (zq HO_7.out)
       replace HO_10:=zm (zq HO_10.out)
       replace BK221:=zm (zj BK221.out)
       replace HB:=zm (zf HB.out)
       obtain ⟨Ao32,co32,eo32⟩:=Kd.R_slice HO_6.out
       (first|subst eo32|(injection eo32 with f1_ f2_ f3_;have f4_:=f1_.symm;have f5_:=f3_.symm;clear f1_ f2_ f3_;subst f4_;subst f5_))
       have p225 : 0≤(x41_3 : Int):=yt
       have q225 : x41_3 < (t215.length : Int):=yt
       obtain ⟨ad225,e225,hx225_0⟩:=Kd.at_int (Kd.R_reads' HO_6.out).2.2 x41_3 p225 q225
       cases e225
       replace p225:=eq_true p225
       replace q225:=eq_true q225
       obtain ⟨Ao33,co33,eo33⟩:=Kd.R_slice HO_7.out
       (first|subst eo33|(injection eo33 with f1_ f2_ f3_;have f4_:=f1_.symm;have f5_:=f3_.symm;clear f1_ f2_ f3_;subst f4_;subst f5_))
       have p226 : 0≤(x41_3 : Int):=yt
       have q226 : x41_3 < (x7_2.length : Int):=yt
       obtain ⟨ad226,e226,hx226_0⟩:=Kd.at_int (Kd.R_reads' HO_7.out).2.2 x41_3 p226 q226
       cases e226
       replace p226:=eq_true p226
       replace q226:=eq_true q226
       refine yst (fun w' => w'.cell? ⟨gb221,0,none⟩=some (.int .i64 x222000_3)∧w'.cell? ⟨gb221,1,none⟩=some (.int .i64 x222001_3)∧w'.cell? (ad225.add (x41_3).toNat)=some (.int .i64 (rd t215 x41_3))∧w'.cell? (ad226.add (x41_3).toNat)=some (.int .i64 (rd x7_2 x41_3))) [13] 14 pvq_Search.tab12 pvq_Search.bits12 (fun hHeld HT_ HW_ => ?_)
       generalize wr.drew=w31 at HO_6 HO_7 HO_10 BK221 HB hx225_0 hx226_0 hHeld ⊢
       refine yp 0 44 HT_ ?_
       refine yp 1 45 HT_ ?_
       refine yp 3 47 HT_ ?_
       refine yp 4 48 HT_ ?_
       refine yp 5 49 HT_ ?_
       refine yp 7 51 HT_ ?_
       refine yp 8 52 HT_ ?_
       refine yp 9 53 HT_ ?_
       refine yp 2 46 HT_ ?_
       refine yl 6 50 HT_ HW_ hHeld ?_
       refine yl 10 54 HT_ HW_ hHeld ?_
       refine yw 11 55 HT_ (fun K hK => ?_)
       refine call_ 80 #[.agg #[.int .i64 x222000_3, .int .i64 x222001_3], .int .i64 (rd t215 x41_3), .int .i64 (rd x7_2 x41_3)] (by rfl) rfl ?hrun ?_
       (case hrun =>
        have he:=fun x W=>enters_ Try.func80 (by kernel_rfl) rfl x W
        rw [hq0.out,hq1.out]
        unfold execOp
        simp [resolve,Deferred.ofValue,invoke,Act.eval,he])
       with_reducible refine (pvq_with.calls x222000_3 x222001_3 (rd t215 x41_3) (rd x7_2 x41_3) t227 t228 _ A28.out).mono ?_
       rintro e w34 ⟨rfl,hb⟩
       have HS2_:=yhs hb hHeld.2.2.1
       have HS3_:=yhs hb hHeld.2.2.2
       refine ⟨_,rfl, ?_⟩
       replace HO_6:=yRb HO_6 hb
       replace HO_7:=yRb HO_7 hb
       replace HO_10:=yRb HO_10 hb
       replace BK221:=ybb BK221 hb
       replace HB:=ybs hb
       (try clear hb)
       have p30 : 0≤(x41_3 : Int):=yt
       have q30 : (x41_3 : Int) < ((x10_3.length : Int) : Int):=yt
       obtain ⟨go30,co30,eo30,gb30,gl30,cl30,HG30⟩:=Kd.R_form HO_10.out (by omega)
       (first|cases eo30|(injection eo30 with ea_ en_ ec_;(first|subst ea_|(injection ea_ with ea_;subst ea_));subst ec_;clear en_))
       have GB30:=zm gb30;have GG30:=zm HG30;clear gb30 gl30 HG30
       obtain ⟨ce30,hcl30,hM30,hcc30,hfr30⟩:=Kd.R_elem HO_10.out z117 (x41_3 : Int) p30 q30
       obtain rfl:=k117_openM hM30
       have hx30_0 : World.cell? _ ⟨go30,(x41_3 : Int).toNat * 2,none⟩=some (.int .i64 ((rd_T117 x10_3 x41_3).f0)):=hcc30 0 _ rfl
       have hx30_1 : World.cell? _ ⟨go30,(x41_3 : Int).toNat * 2+1,none⟩=some (.int .i64 ((rd_T117 x10_3 x41_3).f1)):=hcc30 1 _ rfl
       have hf30_0 : World.frozen? _ ⟨go30,(x41_3 : Int).toNat * 2,none⟩=false:=hfr30 0
       have hf30_1 : World.frozen? _ ⟨go30,(x41_3 : Int).toNat * 2+1,none⟩=false:=hfr30 1
       clear hcl30 hcc30 hfr30 hM30
       replace p30:=eq_true p30
       replace q30:=eq_true q30
       obtain ⟨ce35,hcl35,hM35,hcc35,hfr35⟩:=Kd.R_elem HO_10.out z117 (x41_3 : Int) (yt) (by have h_ : (x41_3 : Int) < ((x10_3.length : Int) : Int):=yt;first|exact h_|(have e_:=(Kd.R_reads' HO_10.out).1;omega)|simpa using h_)
       obtain rfl:=k117_openM hM35
       have HP35:=(Kd.R_seg HO_10.out (x41_3 : Int) (yt) (by have h_ : (x41_3 : Int) < ((x10_3.length : Int) : Int):=yt;first|exact h_|(have e_:=(Kd.R_reads' HO_10.out).1;omega)|simpa using h_) (seg := [.int .i64 t227, .int .i64 t228]) (j:=0) hcl35 hcc35 (show 2≤2 from by decide) (x' := (⟨t227,t228⟩ : S117)) (k117_mkM _ _ _ (⟨t227,t228⟩ : S117) ) (fun _ hk=>hk)).1
       rw [← Ny229.out] at HP35
       have HQ35:=zm HP35;clear hcl35 hcc35 hfr35 hM35 HP35
       refine hK.out _ _ yH (fun hHeld => ?_)
       clear hK K
       refine ym (some 55) ?_
       refine yp 12 56 HT_ ?_
       refine last_ (i:=13) (N:=none) #[true,true,true,true,true,true,true,true,true,true,true,true,true,true] rfl rfl (one_of HT_.out (by kernel_rfl)) (by decide) (fun K hK => ?_)
       refine skip_ (w1 := ?_) (by rfl) rfl ?_ ?_
       rotate_left
       ·
        go_simp
        rfl
       refine hK.out _ _ ?_
       clear hK K
       refine done_ (done_of HT_.out (by kernel_rfl)) ?_
       try go_wp2
       (try simp only [← hl10_3])
       go_roundg k3
       case measure=>exact yom3 HJ2 HK2 HK3
       case rel=>exact ⟨(y229),(wrap64 (x41_3+1)),(x222000_3),(x222001_3),yq,hq0,hq1,H',⟨yom3 HJ2 HK2 HK3⟩,⟨by (try simp only [hl10_3]);(with_reducible repeat (first|apply zo|apply zp|apply zq));exact zG (zH (p:=⟨go30,(x41_3 : Int).toNat * 2+1,none⟩) (zH (p:=⟨go30,(x41_3 : Int).toNat * 2,none⟩) (Kd.R_types HO_6.out GG30.out (by decide)) (fun _ hk=>hk.2) (.int .i64 t227)) (fun _ hk=>hk.2) (.int .i64 t228)) (fun _ hk=>trivial)⟩,⟨by (try simp only [hl10_3]);(with_reducible repeat (first|apply zo|apply zp|apply zq));exact zG (zH (p:=⟨go30,(x41_3 : Int).toNat * 2+1,none⟩) (zH (p:=⟨go30,(x41_3 : Int).toNat * 2,none⟩) (Kd.R_types HO_7.out GG30.out (by decide)) (fun _ hk=>hk.2) (.int .i64 t227)) (fun _ hk=>hk.2) (.int .i64 t228)) (fun _ hk=>trivial)⟩,⟨by (try simp only [hl10_3]);(with_reducible repeat (first|apply zo|apply zp|apply zq));exact HQ35.out⟩,⟨by (try simp only [hl10_3]);(with_reducible repeat (first|refine zh ?_ _|refine zj ?_|refine zi ?_ _));refine zv ?_ (by have h_:=Kd.R_away HO_10.out (fun _ hk=>hk);intro e_;exact h_ (by rw [e_];rfl)) _;(with_reducible repeat (first|refine zh ?_ _|refine zj ?_|refine zi ?_ _));refine zv ?_ (by have h_:=Kd.R_away HO_10.out (fun _ hk=>hk);intro e_;exact h_ (by rw [e_];rfl)) _;(with_reducible repeat (first|refine zh ?_ _|refine zj ?_|refine zi ?_ _));exact BK221.out⟩,⟨yhb⟩⟩
      ·
       rw [if_neg c24] at H
       have c24b0 : decide (x41_3 < (y222.length : Int))=false:=decide_eq_false c24
       have c24x0 : decide (x41_3 < (x10_3.length : Int))=false:=by rw [← hl10_3];exact c24b0
       clear c24
       replace H:=ybi H;obtain ⟨t230,A36,H⟩:=H
       replace H:=yif H;obtain ⟨c37,H⟩:=H
       have c37b0 : decide (0≤t230)=true:=decide_eq_true c37
       clear c37
       replace H:=yif H;obtain ⟨c38,H⟩:=H
       have c38b0 : decide (t230 < (x10_3.length : Int))=true:=decide_eq_true c38
       clear c38
       replace H:=yif H;obtain ⟨c39,H⟩:=H
       have c39b0 : decide (t230 < (x7_2.length : Int))=true:=decide_eq_true c39
       clear c39
       obtain ⟨y233,hy233⟩ : ∃ y_ : List Int,y_=(x7_2.set (t230 : Int).toNat (wrap64 ((rd x7_2 t230)+1))):=⟨_,rfl⟩
       replace H : (pvq_Search.l0 k3 l0 t215 y233 a1 (wrap64 (x34_2+1)) ((rd_T117 x10_3 t230).f0) ((rd_T117 x10_3 t230).f1))=some (r1,r2):=yrw hy233 H
       have Ny233:=zm hy233;clear hy233
       have H' := zm H
       clear H
       go_wp2_with (first|((with_reducible refine gate_callee (f:=81) rfl ?_);refine ygl 59 Try.func81 #[.slice Ao23 x10_3.length co23] ?_;(with_reducible refine (pvq_best.calls k3 _ _ x10_3 t230 _ ?side1 ?side2 A36.out).mono ?_);(case side1=>exact yce (Kd.R_reads' HO_10.out).2.2);(case side2=>exact (Kd.R_reads' HO_10.out).2.1);rintro e w41 ⟨rfl,hb⟩;refine ⟨_,rfl, ?_⟩;replace HO_6:=yRb HO_6 hb;replace HO_7:=yRb HO_7 hb;replace HO_10:=yRb HO_10 hb;replace BK221:=ybb BK221 hb;replace HB:=ybs hb;(try clear hb);have p231 : 0≤(t230 : Int):=yt;have q231 : t230 < (x10_3.length : Int):=yt;obtain ⟨ad231,e231,hx231_0,hx231_1⟩:=at_T117 (Kd.R_reads' HO_10.out).2.2 t230 p231 q231;cases e231;replace p231:=eq_true p231;replace q231:=eq_true q231;obtain ⟨_,_,_,_⟩:=yc2 BK221)|((with_reducible refine gate_store (t:=117) (p:=8) rfl ?_);refine store_event (t:=117) (p:=8) (v := ?vo_w43) (w1:=((w41.setCell ⟨gb221,0,none⟩ (.int .i64 ((rd_T117 x10_3 t230).f0))).setCell ⟨gb221,1,none⟩ (.int .i64 ((rd_T117 x10_3 t230).f1)))) ?hg ?ho ?hn ?hr ?_;(case ho=>rfl);(case hg=>rfl);(case hn=>rfl);(case hr=>first|(go_simp;done)|(go_simp;rfl));intro w43 hw;replace HO_6 : Aside0 (Kd.R (Kd.int .i64) 2 w43 w.heap.size (fun _=>True) v216 t215):=⟨(by rw [hw];exact (yR1 HO_6 BK221))⟩;replace HO_7 : Aside0 (Kd.R (Kd.int .i64) 3 w43 w.heap.size (fun _=>True) v219 x7_2):=⟨(by rw [hw];exact (yR1 HO_7 BK221))⟩;replace HO_10 : Aside0 (Kd.R k117 117 w43 w.heap.size (fun k_=>k_≠gb221) (.slice (some ad231) x10_3.length co23) x10_3):=⟨(by rw [hw];exact (yR0 HO_10))⟩;replace BK221 : Aside0 (w43.heap[gb221]? = some (.cells #[.int .i64 ((rd_T117 x10_3 t230).f0), .int .i64 ((rd_T117 x10_3 t230).f1)] 117 (0,0))):=⟨(by rw [hw];exact (ykp BK221))⟩;replace HB : Aside0 (Below w.heap.size w w43):=⟨(by rw [hw];exact yhb)⟩;clear hw;obtain ⟨_,_,_,_⟩:=yc2 BK221;obtain ⟨Ao45,co45,eo45⟩:=Kd.R_slice HO_7.out;subst eo45;have p232 : 0≤(t230 : Int):=yt;have q232 : t230 < (x7_2.length : Int):=yt;obtain ⟨ad232,e232,hx232_0⟩:=Kd.at_int (Kd.R_reads' HO_7.out).2.2 t230 p232 q232;cases e232;replace p232:=eq_true p232;replace q232:=eq_true q232;have p40 : 0≤(t230 : Int):=yt;have q40 : (t230 : Int) < ((x7_2.length : Int) : Int):=yt;obtain ⟨go40,co40,eo40,gb40,gl40,cl40,HG40⟩:=Kd.R_form HO_7.out (by omega);(first|cases eo40|(injection eo40 with ea_ en_ ec_;(first|subst ea_|(injection ea_ with ea_;subst ea_));subst ec_;clear en_));have GB40:=zm gb40;have GG40:=zm HG40;clear gb40 gl40 HG40;(first|simp only [add_plain] at hx232_0|skip);obtain ⟨hx40_0,hf40_0⟩:=Kd.R_celln 0 HO_7.out (t230 : Int) p40 q40;replace p40:=eq_true p40;replace q40:=eq_true q40;obtain ⟨hy46_,hz46_⟩:=Kd.R_celln 0 HO_7.out (t230 : Int) (yt) (yt);have HP46:=Kd.R_putg HO_7.out (t230 : Int) (wrap64 ((rd x7_2 t230)+1)))|((with_reducible refine gate_store (t:=3) (p:=71) rfl ?_);refine store_event (t:=3) (p:=71) (v := ?vo_w47) (w1:=(w43.setCell ⟨go40,(t230 : Int).toNat,none⟩ (.int .i64 (wrap64 ((rd x7_2 t230)+1))))) ?hg ?ho ?hn ?hr ?_;(case ho=>rfl);(case hg=>rfl);(case hn=>rfl);(case hr=>first|(go_simp;done)|(go_simp;rfl));intro w47 hw;have hg : w43.grownBy w47 (some go40):=(by rw [hw];exact HP46.2);have hp_ : Kd.R (Kd.int .i64) 3 w47 w.heap.size (fun _=>True) (.slice (some ⟨go40,0,none⟩) x7_2.length co45) y233:=(by rw [hw,Ny233.out];exact HP46.1);clear HP46;replace HO_6:=zm (Kd.R_over' (v:=(.slice (some ⟨go40,0,none⟩) x7_2.length co45)) (yr HO_6) (Kd.R_typed HO_7.out) (by decide) hg);replace HO_10:=zm (Kd.R_over' (v:=(.slice (some ⟨go40,0,none⟩) x7_2.length co45)) (yr HO_10) (Kd.R_typed HO_7.out) (by decide) hg);replace BK221:=zm (blk_grown (yk BK221) hg (zu HO_7.out BK221.out (by decide)));replace HO_7:=zm (hp_);replace HB:=zm ((by rw [hw];exact zk (HB.out) GB40.out : Below w.heap.size w w47));clear hg hw hp_))
       (try simp only [← hl10_3])
       go_roundg k3
       case measure=>exact yom3 HJ2 HK2 HK3
       case rel=>exact ⟨(y233),(wrap64 (x34_2+1)),((rd_T117 x10_3 t230).f0),((rd_T117 x10_3 t230).f1),yq,yq,H',⟨yom3 HJ2 HK2 HK3⟩,⟨by (try simp only [hl10_3]);(with_reducible repeat (first|apply zo|apply zp|apply zq));exact HO_6.out⟩,⟨by (try simp only [hl10_3]);(with_reducible repeat (first|apply zo|apply zp|apply zq));exact HO_7.out⟩,⟨by (try simp only [hl10_3]);(with_reducible repeat (first|refine zh ?_ _|refine zj ?_|refine zi ?_ _));exact BK221.out⟩,⟨yhb⟩⟩
    ·
     rw [if_neg c18] at H
     have c18b0 : decide (x34_2 < a1)=false:=decide_eq_false c18
     clear c18
     have H' := zm H
     clear H
     go_wp2
     go_loopg [75] k2 (fun kq v75 w' => ∃ (x7_3 : List Int) (x75_3 : Int),v75=.int .i64 x75_3∧Aside0 (pvq_Search.l2 kq x7_3 l0 (l0.length : Int) x75_3=some (r1,r2))∧Aside0 (kq≤k2)∧Aside0 (Kd.R (Kd.int .i64) 3 w' w.heap.size (fun _=>True) v219 x7_3)∧Aside0 (w'.heap[gb221]? = some (.cells #[.int .i64 x222000_2, .int .i64 x222001_2] 117 (0,0)))∧Aside0 (Below w.heap.size w w'))
     case atStart=>exact ⟨(x7_2),(0),yq,H',⟨Nat.le_refl _⟩,⟨yr HO_7⟩,⟨yk BK221⟩,⟨yhb⟩⟩
     case round =>
      clear H'
      try clear c18b0
      try clear c19b0
      try clear c19b1
      try clear c20b0
      try clear c20b1
      obtain ⟨x7_3,x75_3,rfl,HA,HK3,HO_7,BK221,HB⟩:=hrel
      obtain ⟨k3,rfl⟩:=ysu gk (fun h=>by subst h;exact absurd HA.out (by simp [pvq_Search.l2]))
      have H:=HA.out;clear HA
      simp only [pvq_Search.l2] at H
      by_cases c48 : x75_3 < (l0.length : Int)
      ·
       rw [if_pos c48] at H
       have c48b0 : decide (x75_3 < (l0.length : Int))=true:=decide_eq_true c48
       clear c48
       replace H:=yif H;obtain ⟨c49,H⟩:=H
       have c49b0 : decide (0≤x75_3)=true:=decide_eq_true c49
       clear c49
       replace H:=yif H;obtain ⟨c50,H⟩:=H
       have c50b0 : decide (x75_3 < (l0.length : Int))=true:=decide_eq_true c50
       clear c50
       by_cases c51 : (rd l0 x75_3) < 0
       ·
        rw [if_pos c51] at H
        have c51b0 : decide ((rd l0 x75_3) < 0)=true:=decide_eq_true c51
        clear c51
        replace H:=yif H;obtain ⟨c52,H⟩:=H
        have c52b0 : decide (x75_3 < (x7_3.length : Int))=true:=decide_eq_true c52
        clear c52
        obtain ⟨y236,hy236⟩ : ∃ y_ : List Int,y_=(x7_3.set (x75_3 : Int).toNat (wrap64 (-(rd x7_3 x75_3)))):=⟨_,rfl⟩
        replace H : (pvq_Search.l2 k3 y236 l0 (l0.length : Int) (wrap64 (x75_3+1)))=some (r1,r2):=yrw hy236 H
        have Ny236:=zm hy236;clear hy236
        have H' := zm H
        clear H
        have p234 : 0≤(x75_3 : Int):=yt
        have q234 : x75_3 < (l0.length : Int):=yt
        obtain ⟨ad234,e234,hx234_0⟩:=Kd.at_int HR0.out x75_3 p234 q234
        cases e234
        replace hx234_0:=yhx HB hx234_0
        replace p234:=eq_true p234
        replace q234:=eq_true q234
        obtain ⟨Ao54,co54,eo54⟩:=Kd.R_slice HO_7.out
        subst eo54
        have p235 : 0≤(x75_3 : Int):=yt
        have q235 : x75_3 < (x7_3.length : Int):=yt
        obtain ⟨ad235,e235,hx235_0⟩:=Kd.at_int (Kd.R_reads' HO_7.out).2.2 x75_3 p235 q235
        cases e235
        replace p235:=eq_true p235
        replace q235:=eq_true q235
        have p53 : 0≤(x75_3 : Int):=yt
        have q53 : (x75_3 : Int) < ((x7_3.length : Int) : Int):=yt
        obtain ⟨go53,co53,eo53,gb53,gl53,cl53,HG53⟩:=Kd.R_form HO_7.out (by omega)
        (first|cases eo53|(injection eo53 with ea_ en_ ec_;(first|subst ea_|(injection ea_ with ea_;subst ea_));subst ec_;clear en_))
        have GB53:=zm gb53;have GG53:=zm HG53;clear gb53 gl53 HG53
        (first|simp only [add_plain] at hx235_0|skip)
        obtain ⟨hx53_0,hf53_0⟩:=Kd.R_celln 0 HO_7.out (x75_3 : Int) p53 q53
        replace p53:=eq_true p53
        replace q53:=eq_true q53
        have HP55:=Kd.R_putg HO_7.out (x75_3 : Int) (wrap64 (-(rd x7_3 x75_3)))
        go_wp2_with (first|((with_reducible refine gate_store (t:=3) (p:=89) rfl ?_);refine store_event (t:=3) (p:=89) (v := ?vo_w56) (w1:=(wr.setCell ⟨go53,(x75_3 : Int).toNat,none⟩ (.int .i64 (wrap64 (-(rd x7_3 x75_3)))))) ?hg ?ho ?hn ?hr ?_;(case ho=>rfl);(case hg=>rfl);(case hn=>rfl);(case hr=>first|(go_simp;done)|(go_simp;rfl));intro w56 hw;have hg : wr.grownBy w56 (some go53):=(by rw [hw];exact HP55.2);have hp_ : Kd.R (Kd.int .i64) 3 w56 w.heap.size (fun _=>True) (.slice (some ⟨go53,0,none⟩) x7_3.length co54) y236:=(by rw [hw,Ny236.out];exact HP55.1);clear HP55;replace BK221:=zm (blk_grown (yk BK221) hg (zu HO_7.out BK221.out (by decide)));replace HO_7:=zm (hp_);replace HB:=zm ((by rw [hw];exact zk (HB.out) GB53.out : Below w.heap.size w w56));clear hg hw hp_))
        go_roundg k3
        case measure=>exact yom3 HJ2 HK2 HK3
        case rel=>exact ⟨(y236),(wrap64 (x75_3+1)),yq,H',⟨yom3 HJ2 HK2 HK3⟩,⟨yr HO_7⟩,⟨yk BK221⟩,⟨yhb⟩⟩
       ·
        rw [if_neg c51] at H
        have c51b0 : decide ((rd l0 x75_3) < 0)=false:=decide_eq_false c51
        clear c51
        have H' := zm H
        clear H
        have p234 : 0≤(x75_3 : Int):=yt
        have q234 : x75_3 < (l0.length : Int):=yt
        obtain ⟨ad234,e234,hx234_0⟩:=Kd.at_int HR0.out x75_3 p234 q234
        cases e234
        replace hx234_0:=yhx HB hx234_0
        replace p234:=eq_true p234
        replace q234:=eq_true q234
        go_wp2
        go_roundg k3
        case measure=>exact yom3 HJ2 HK2 HK3
        case rel=>exact ⟨(x7_3),(wrap64 (x75_3+1)),yq,H',⟨yom3 HJ2 HK2 HK3⟩,⟨yr HO_7⟩,⟨yk BK221⟩,⟨yhb⟩⟩
      ·
       rw [if_neg c48] at H
       have c48b0 : decide (x75_3 < (l0.length : Int))=false:=decide_eq_false c48
       clear c48
       simp only [Option.some.injEq,Prod.mk.injEq] at H
       obtain ⟨rfl,rfl⟩:=H
       go_wp2
       go_ret2
       exact ⟨_,ye,yr HO_7,yhb⟩
mutual
def ccodec_Encode.l0 : Nat→Int→Int→List (List Int)→Int→Int→List (List Int)→Bool→List (List Int)→Option (Bool × (List (List Int)) × (List (List (List Int))) × Int)
 | 0,_,_,_,_,_,_,_,_=>none
 | k+1,x0,x1,x35,x36,x37,x238000,x241000,x241001=>if x37 < x36 then (if 0≤x37 then (if x37 < (x35.length : Int) then ((band_Gains.f k (rd_L1 x35 x37)).bind fun bt242=>(if x241001.length < 5864062014805 then (ccodec_Encode.l0 k x0 x1 x35 x36 (wrap64 (x37+1)) x238000 x241000 (x241001 ++ [bt242.1])) else (none))) else (none)) else (none)) else ((alloc_Pulses.f k x0 x1 x241001).bind fun bt249=>(ccodec_Encode.l1 k bt249.1 x238000 (x238000.length : Int) 0 x241000 x241001 ([] : List (List (List Int)))))
def ccodec_Encode.l1 : Nat→List (List Int)→List (List Int)→Int→Int→Bool→List (List Int)→List (List (List Int))→Option (Bool × (List (List Int)) × (List (List (List Int))) × Int)
 | 0,_,_,_,_,_,_,_=>none
 | k+1,x15,x62,x63,x64,x241000,x241001,x241002=>if x64 < x63 then (if 0≤x64 then (if x64 < (x62.length : Int) then ((band_Split.f k (rd_L1 x62 x64)).bind fun bt254=>(ccodec_Encode.l2 k x15 x64 ([] : List (List Int)) x62 x63 x64 bt254.1 (bt254.1.length : Int) 0 x241000 x241001 x241002)) else (none)) else (none)) else (some (x241000,x241001,x241002,0))
def ccodec_Encode.l2 : Nat→List (List Int)→Int→List (List Int)→List (List Int)→Int→Int→List (List Int)→Int→Int→Bool→List (List Int)→List (List (List Int))→Option (Bool × (List (List Int)) × (List (List (List Int))) × Int)
 | 0,_,_,_,_,_,_,_,_,_,_,_,_=>none
 | k+1,x15,x17,x21,x62,x63,x64,x74,x75,x76,x241000,x241001,x241002=>if x76 < x75 then (if 0≤x76 then (if x76 < (x74.length : Int) then (if 0≤x17 then (if x17 < (x15.length : Int) then (if x76 < ((rd_L2 x15 x17).length : Int) then ((pvq_Search.f k (rd_L1 x74 x76) (rd (rd_L2 x15 x17) x76)).bind fun bt261=>(if x21.length < 5864062014805 then (ccodec_Encode.l2 k x15 x17 (x21 ++ [bt261.1]) x62 x63 x64 x74 x75 (wrap64 (x76+1)) x241000 x241001 x241002) else (none))) else (none)) else (none)) else (none)) else (none)) else (none)) else (if x241002.length < 5864062014805 then (ccodec_Encode.l1 k x15 x62 x63 (wrap64 (x64+1)) x241000 x241001 (x241002 ++ [x21])) else (none))
end
def ccodec_Encode.f (k : Nat) (a0 : Int) (a1 : Int) (l2_0 : List (List Int)) (a3 : Bool) : Option (Bool × (List (List Int)) × (List (List (List Int))) × Int):=(ccodec_Right.f k a0 a1 l2_0).bind fun t239=>(if t239=true then (ccodec_Encode.l0 k a0 a1 l2_0 (l2_0.length : Int) 0 l2_0 a3 ([] : List (List Int))) else (some (false,([] : List (List Int)),([] : List (List (List Int))),1)))
theorem ccodec_Encode.mono_l : ∀ k,(∀ y0 y1 y2 y3 y4 y5 y6 y7,LeO (ccodec_Encode.l0 k y0 y1 y2 y3 y4 y5 y6 y7) (ccodec_Encode.l0 (k+1) y0 y1 y2 y3 y4 y5 y6 y7))∧(∀ y0 y1 y2 y3 y4 y5 y6,LeO (ccodec_Encode.l1 k y0 y1 y2 y3 y4 y5 y6) (ccodec_Encode.l1 (k+1) y0 y1 y2 y3 y4 y5 y6))∧(∀ y0 y1 y2 y3 y4 y5 y6 y7 y8 y9 y10 y11,LeO (ccodec_Encode.l2 k y0 y1 y2 y3 y4 y5 y6 y7 y8 y9 y10 y11) (ccodec_Encode.l2 (k+1) y0 y1 y2 y3 y4 y5 y6 y7 y8 y9 y10 y11))
 | 0=>⟨fun _ _ _ _ _ _ _ _ r h=>by simp [ccodec_Encode.l0] at h,fun _ _ _ _ _ _ _ r h=>by simp [ccodec_Encode.l1] at h,fun _ _ _ _ _ _ _ _ _ _ _ _ r h=>by simp [ccodec_Encode.l2] at h⟩
 | k+1=>by
  obtain ⟨ih0,ih1,ih2⟩:=ccodec_Encode.mono_l k
  refine ⟨?_, ?_, ?_⟩
  ·
   intro y0 y1 y2 y3 y4 y5 y6 y7
   unfold ccodec_Encode.l0
   repeat' with_reducible first|apply ih0|apply ih1|apply ih2|apply alloc_Pulses.mono|apply band_Gains.mono|apply band_Split.mono|apply ccodec_Right.mono|apply pvq_Search.mono|apply yLr|apply yLn|apply yLi|apply yLb|intro _
  ·
   intro y0 y1 y2 y3 y4 y5 y6
   unfold ccodec_Encode.l1
   repeat' with_reducible first|apply ih0|apply ih1|apply ih2|apply alloc_Pulses.mono|apply band_Gains.mono|apply band_Split.mono|apply ccodec_Right.mono|apply pvq_Search.mono|apply yLr|apply yLn|apply yLi|apply yLb|intro _
  ·
   intro y0 y1 y2 y3 y4 y5 y6 y7 y8 y9 y10 y11
   unfold ccodec_Encode.l2
   repeat' with_reducible first|apply ih0|apply ih1|apply ih2|apply alloc_Pulses.mono|apply band_Gains.mono|apply band_Split.mono|apply ccodec_Right.mono|apply pvq_Search.mono|apply yLr|apply yLn|apply yLi|apply yLb|intro _
theorem ccodec_Encode.mono : ∀ a0 a1 a2 a3 k,LeO (ccodec_Encode.f k a0 a1 a2 a3) (ccodec_Encode.f (k+1) a0 a1 a2 a3):=by
 intro a0 a1 a2 a3 k
 obtain ⟨ih0,ih1,ih2⟩:=ccodec_Encode.mono_l k
 unfold ccodec_Encode.f
 repeat' with_reducible first|apply ih0|apply ih1|apply ih2|apply alloc_Pulses.mono|apply band_Gains.mono|apply band_Split.mono|apply ccodec_Right.mono|apply pvq_Search.mono|apply yLr|apply yLn|apply yLi|apply yLb|intro _
set_option maxHeartbeats 8000000 in
set_option maxRecDepth 100000 in
theorem ccodec_Encode.calls (k : Nat) (a0 : Int) (a1 : Int) (A2_0 : Option Addr) (c2_0 : Nat) (l2_0 : List (List Int)) (a3 : Bool) (r1 : Bool) (r2 : List (List Int)) (r3 : List (List (List Int))) (r4 : Int) (w : World) (hr2_0 : Kd.C (Kd.slice 2 (Kd.int .i64)) w A2_0 l2_0.length l2_0) (hc2_0 : l2_0.length≤c2_0) (h : ccodec_Encode.f k a0 a1 l2_0 a3=some (r1,r2,r3,r4)) :
  Calls Try.prog 13 #[.int .i64 a0, .int .i64 a1, .agg #[.slice A2_0 l2_0.length c2_0], .bool a3] w fun e w' => ∃ v1_ v2_ : Value,e=.returned (.tuple #[.agg #[.bool r1,v1_,v2_], .int .i64 r4])∧Kd.N (Kd.slice 3 (Kd.int .i64)) 55 w' w.heap.size (fun k_=>(w.heap.size≤k_)∧some k_≠(v2_ : Value).ownBlock) v1_ r2∧Kd.N (Kd.slice 55 (Kd.slice 3 (Kd.int .i64))) 25 w' w.heap.size (fun k_=>(w.heap.size≤k_)∧some k_≠(v1_ : Value).ownBlock) v2_ r3∧Below w.heap.size w w' := by
 have hu24:=Try.underlying24;have hu31:=Try.underlying31;have HR2_0:=zm hr2_0;have HC2_0:=zm hc2_0;clear hr2_0 hc2_0;have HB:=zm (Below.refl w.heap.size w)
 have H : ((ccodec_Right.f k a0 a1 l2_0).bind fun t239=>(if t239=true then (ccodec_Encode.l0 k a0 a1 l2_0 (l2_0.length : Int) 0 l2_0 a3 ([] : List (List Int))) else (some (false,([] : List (List Int)),([] : List (List (List Int))),1))))=some (r1,r2,r3,r4):=h
 clear h
 replace H:=ybi H;obtain ⟨t239,A5,H⟩:=H
 by_cases c6 : t239=true
 ·
  subst c6
  rw [if_pos rfl] at H
  have H' := zm H
  clear H
  go_enter Try.func13,Try.ntmps13
  go_wp2_with (first|((with_reducible refine gate_dst (N:=6) rfl ?_);refine ybx 6 #[.slice A2_0 l2_0.length c2_0] 24 ?_;intro gb237 hg w7 hbox hb;have BK237:=zm (hbox);have GW237:=ygw hg;have GE237:=ygw hg;replace HB:=ybs hb;clear hb hbox hg)|((with_reducible refine gate_dst (N:=8) rfl ?_);refine ybx 8 #[.bool false, .slice none 0 0, .slice none 0 0] 31 ?_;intro gb238 hg w8 hbox hb;have BK238:=zm (hbox);have GW238:=ygw hg;have GE238:=ygw hg;replace HB:=ybs hb;have NB237_238:=ynl BK237 hg;have NB238_237:=yng BK237 hg;replace BK237:=ybb BK237 hb;clear hb hbox hg;have:=NB237_238.out;have:=NB238_237.out;obtain ⟨hcz10_0,hfz10_0⟩:=yc1 BK237)|((with_reducible refine gate_callee (f:=20) rfl ?_);refine ygl 29 Try.func20 #[.int .i64 a0, .int .i64 a1, .agg #[.slice A2_0 l2_0.length c2_0]] ?_;(with_reducible refine (ccodec_Right.calls k a0 a1 _ _ l2_0 true _ ?side1 HC2_0.out A5.out).mono ?_);(case side1=>exact ycb HR2_0);rintro e w11 ⟨rfl,hb⟩;refine ⟨_,rfl, ?_⟩;replace BK237:=ybb BK237 hb;replace BK238:=ybb BK238 hb;replace HB:=ybs hb;(try clear hb))|((with_reducible refine gate_dst (N:=10) rfl ?_);refine ybx 10 #[.bool false, .slice none 0 0, .slice none 0 0] 31 ?_;intro gb240 hg w12 hbox hb;have BK240:=zm (hbox);have GW240:=ygw hg;have GE240:=ygw hg;replace HB:=ybs hb;have NB237_240:=ynl BK237 hg;have NB240_237:=yng BK237 hg;replace BK237:=ybb BK237 hb;have NB238_240:=ynl BK238 hg;have NB240_238:=yng BK238 hg;replace BK238:=ybb BK238 hb;clear hb hbox hg;have:=NB240_237.out;have:=NB237_240.out;have:=NB240_238.out;have:=NB238_240.out;obtain ⟨hcz15_0,hcz15_1,hcz15_2,hfz15_0,hfz15_1,hfz15_2⟩:=yc3 BK240;obtain ⟨hcz16_0,hfz16_0⟩:=yc1 BK237))
  go_loopg [37] k (fun kq v37 w' => ∃ (x37_1 : Int) (x241001_1 : List (List Int)) (u241001 : Value),v37=.int .i64 x37_1∧Aside0 (ccodec_Encode.l0 kq a0 a1 l2_0 (l2_0.length : Int) x37_1 l2_0 a3 x241001_1=some (r1,r2,r3,r4))∧Aside0 (kq≤k)∧Aside0 (Kd.N (Kd.slice 3 (Kd.int .i64)) 55 w' w.heap.size (fun k_=>(w.heap.size≤k_)∧k_≠gb237∧k_≠gb238∧k_≠gb240) u241001 x241001_1)∧Aside0 (w'.heap[gb237]? = some (.cells #[(.slice A2_0 l2_0.length c2_0)] 24 (0,0)))∧Aside0 (w'.heap[gb238]? = some (.cells #[.bool false,(.slice none 0 0),(.slice none 0 0)] 31 (0,0)))∧Aside0 (w'.heap[gb240]? = some (.cells #[.bool a3,u241001,(.slice none 0 0)] 31 (0,0)))∧Aside0 (Below w.heap.size w w'))
  case atStart=>exact ⟨(0),(([] : List (List Int))),(.slice none 0 0),yq,H',⟨Nat.le_refl _⟩,⟨yn⟩,⟨yk BK237⟩,⟨yk BK238⟩,⟨ykp BK240⟩,⟨yhb⟩⟩
  case round =>
   clear H'
   try clear hcz10_0
   try clear hcz15_0
   try clear hcz15_1
   try clear hcz15_2
   try clear hcz16_0
   try clear hfz10_0
   try clear hfz15_0
   try clear hfz15_1
   try clear hfz15_2
   try clear hfz16_0
   obtain ⟨x37_1,x241001_1,u241001,rfl,HA,HK1,HO_241001,BK237,BK238,BK240,HB⟩:=hrel
   obtain ⟨k1,rfl⟩:=ysu gk (fun h=>by subst h;exact absurd HA.out (by simp [ccodec_Encode.l0]))
   have H:=HA.out;clear HA
   simp only [ccodec_Encode.l0] at H
   by_cases c17 : x37_1 < (l2_0.length : Int)
   ·
    rw [if_pos c17] at H
    have c17b0 : decide (x37_1 < (l2_0.length : Int))=true:=decide_eq_true c17
    clear c17
    replace H:=yif H;obtain ⟨c18,H⟩:=H
    have c18b0 : decide (0≤x37_1)=true:=decide_eq_true c18
    clear c18
    replace H:=yif H;obtain ⟨c19,H⟩:=H
    have c19b0 : decide (x37_1 < (l2_0.length : Int))=true:=decide_eq_true c19
    clear c19
    replace H:=ybi H;obtain ⟨⟨t242,t243⟩,A20,H⟩:=H
    try dsimp only at H
    replace H:=yif H;obtain ⟨c21,H⟩:=H
    have LMc21:=zm c21;clear c21
    obtain ⟨y246,hy246⟩ : ∃ y_ : List (List Int),y_=(x241001_1 ++ [t242]):=⟨_,rfl⟩
    replace H : (ccodec_Encode.l0 k1 a0 a1 l2_0 (l2_0.length : Int) (wrap64 (x37_1+1)) l2_0 a3 y246)=some (r1,r2,r3,r4):=yrw hy246 H
    have Ny246:=zm hy246;clear hy246
    have H' := zm H
    clear H
    have p241 : 0≤(x37_1 : Int):=yt
    have q241 : x37_1 < (l2_0.length : Int):=yt
    obtain ⟨ad241,A241_0,c241_0,e241,hx241_0,hl241_0,hi241_0⟩:=at_L1 HR2_0.out x37_1 p241 q241
    cases e241
    replace hx241_0:=yhx HB hx241_0
    have HR241_0:=zm hi241_0;have HC241_0:=zm hl241_0;clear hi241_0 hl241_0
    replace p241:=eq_true p241
    replace q241:=eq_true q241
    go_wp2_with (first|((with_reducible refine gate_callee (f:=36) rfl ?_);refine ygl 43 Try.func36 #[.slice A241_0 (rd_L1 l2_0 x37_1).length c241_0] ?_;(with_reducible refine (band_Gains.calls k1 _ _ (rd_L1 l2_0 x37_1) t242 t243 _ ?side1 HC241_0.out A20.out).mono ?_);(case side1=>exact ycb HR241_0);rintro e w22 ⟨v244,rfl,ho0,hb⟩;refine ⟨_,rfl, ?_⟩;replace HO_241001:=zm (Kd.N_elder' (yr HO_241001) (Kd.R_base ho0) hb);have HO245:=zm (Kd.R_lower (Kd.R_newM (M:=fun k_=>(w.heap.size≤k_)) ho0 (zE yhb) (fun k_ h_=>h_)) (zE yhb));replace BK237:=ybb BK237 hb;replace BK238:=ybb BK238 hb;replace BK240:=ybb BK240 hb;replace HB:=ybs hb;(try clear hb);(try clear ho0);have:=NB240_237.out;have:=NB237_240.out;have:=NB240_238.out;have:=NB238_240.out;obtain ⟨hcz25_0,hcz25_1,hcz25_2,hfz25_0,hfz25_1,hfz25_2⟩:=yc3 BK240;obtain ⟨Ao27,co27,eo27⟩:=Kd.R_slice HO245.out;subst eo27)|((with_reducible refine gate_builtin (b:=.append) (xs := #[.tmp 47, .tmp 49]) rfl ?_);at_builtin;refine Kd.N_append (Kd.slice 3 (Kd.int .i64)) (w0:=w) w.heap.size rfl (.tmp 47) (.tmp 49) 25 55 (.slice none 0 0) 24 rfl Try.underlying25 info55 rfl (by decide) (by omega) u241001 x241001_1 t242 [.slice Ao27 t242.length co27] (fun k_=>(w.heap.size≤k_)∧k_≠gb237∧k_≠gb238∧k_≠gb240) (fun k_=>((fun k_=>(w.heap.size≤k_)∧k_≠gb237∧k_≠gb238∧k_≠gb240)) k_∧some k_≠(u241001 : Value).ownBlock) rfl rfl ?aP (fun _ hk=>hk) ?aF ?aO ?aB ?aS ?aL ?_;(case aP=>exact (Kd.FK_slice_mk (Kd.R_reads' (zG (ok' := (fun k_=>((fun k_=>(w.heap.size≤k_)∧k_≠gb237∧k_≠gb238∧k_≠gb240)) k_∧some k_≠(u241001 : Value).ownBlock)) (Kd.R_types (Kd.R_types (Kd.R_types (Kd.R_apart' (HO245.out) (Kd.N_typed HO_241001.out) (by decide)) BK237.out (by decide)) BK238.out (by decide)) BK240.out (by decide)) (fun k_ hk=>⟨⟨hk.1.1.1.1.1,⟨hk.1.1.2,⟨hk.1.2,hk.2⟩⟩⟩,hk.1.1.1.2⟩))).2.1 (Kd.R_F (zG (ok' := (fun k_=>((fun k_=>(w.heap.size≤k_)∧k_≠gb237∧k_≠gb238∧k_≠gb240)) k_∧some k_≠(u241001 : Value).ownBlock)) (Kd.R_types (Kd.R_types (Kd.R_types (Kd.R_apart' (HO245.out) (Kd.N_typed HO_241001.out) (by decide)) BK237.out (by decide)) BK238.out (by decide)) BK240.out (by decide)) (fun k_ hk=>⟨⟨hk.1.1.1.1.1,⟨hk.1.1.2,⟨hk.1.2,hk.2⟩⟩⟩,hk.1.1.1.2⟩)))));(case aB=>exact yhb);(case aF=>exact (fun k_ hk=>⟨(Nat.le_trans (zE yhb) hk),Kd.freshB (yk BK237) k_ hk,Kd.freshB (yk BK238) k_ hk,Kd.freshB (yk BK240) k_ hk⟩));(case aO=>exact (yN0 HO_241001));(case aS=>exact (zE yhb));(case aL=>have:=LMc21.out;omega);intro v247 w26 ho hb hg hat;rw [← Ny246.out] at ho;replace BK237:=zm (blk_grown (yk BK237) hg (Kd.N_ne HO_241001.out BK237.out (by decide)));replace BK238:=zm (blk_grown (yk BK238) hg (Kd.N_ne HO_241001.out BK238.out (by decide)));replace BK240:=zm (blk_grown (yk BK240) hg (Kd.N_ne HO_241001.out BK240.out (by decide)));replace HB:=zm (hb);have HO248:=zm (ho);clear HO_241001;clear HO245;clear ho hb hg hat;obtain ⟨Ao28,co28,eo28⟩:=Kd.N_slice HO248.out;subst eo28;obtain ⟨hcz29_0,hcz29_1,hcz29_2,hfz29_0,hfz29_1,hfz29_2⟩:=yc3 BK240))
    go_roundg k1
    case measure=>exact yom1 HK1
    case rel=>exact ⟨(wrap64 (x37_1+1)),(y246),(.slice Ao28 y246.length co28),yq,H',⟨yom1 HK1⟩,⟨yN0 HO248⟩,⟨yk BK237⟩,⟨yk BK238⟩,⟨ykp BK240⟩,⟨yhb⟩⟩
   ·
    rw [if_neg c17] at H
    have c17b0 : decide (x37_1 < (l2_0.length : Int))=false:=decide_eq_false c17
    clear c17
    replace H:=ybi H;obtain ⟨⟨t249,t250⟩,A30,H⟩:=H
    try dsimp only at H
    have H' := zm H
    clear H
    have:=NB240_237.out
    have:=NB237_240.out
    have:=NB240_238.out
    have:=NB238_240.out
    obtain ⟨hcz33_0,hcz33_1,hcz33_2,hfz33_0,hfz33_1,hfz33_2⟩:=yc3 BK240
    obtain ⟨Ao34,co34,eo34⟩:=Kd.N_slice HO_241001.out
    subst eo34
    go_wp2_with (first|((with_reducible refine gate_callee (f:=37) rfl ?_);refine ygl 58 Try.func37 #[.int .i64 a0, .int .i64 a1, .slice Ao34 x241001_1.length co34] ?_;(with_reducible refine (alloc_Pulses.calls k1 a0 a1 _ _ x241001_1 t249 t250 _ ?side1 ?side2 A30.out).mono ?_);(case side1=>exact yce (Kd.N_reads' HO_241001.out).2.2);(case side2=>exact (Kd.N_reads' HO_241001.out).2.1);rintro e w35 ⟨v251,rfl,ho0,hb⟩;refine ⟨_,rfl, ?_⟩;have HO252:=zm (Kd.N_lower (Kd.N_mono (ok' := fun k_=>(w.heap.size≤k_)∧some k_≠(.slice Ao34 x241001_1.length co34 : Value).ownBlock∧k_≠gb237∧k_≠gb238∧k_≠gb240) (Kd.S_N (Kd.S_bound ho0)) (fun k_ hk_=>⟨(Nat.le_trans (zE yhb) hk_.2.1),(Kd.fresh' (Kd.N_lt (yr HO_241001)) k_ hk_.2.1),(Kd.freshB (yk BK237) k_ hk_.2.1),(Kd.freshB (yk BK238) k_ hk_.2.1),(Kd.freshB (yk BK240) k_ hk_.2.1)⟩)) (zE yhb));replace HO_241001:=zm (Kd.N_elder' (yr HO_241001) (Kd.S_base ho0) hb);replace BK237:=ybb BK237 hb;replace BK238:=ybb BK238 hb;replace BK240:=ybb BK240 hb;replace HB:=ybs hb;(try clear hb);(try clear ho0);have:=NB237_238.out;have:=NB238_237.out;obtain ⟨hcz37_0,hfz37_0⟩:=yc1 BK237))
    go_loopg [64] k1 (fun kq v64 w' => ∃ (x64_2 : Int) (x241002_2 : List (List (List Int))) (u241002 : Value),v64=.int .i64 x64_2∧Aside0 (ccodec_Encode.l1 kq t249 l2_0 (l2_0.length : Int) x64_2 a3 x241001_1 x241002_2=some (r1,r2,r3,r4))∧Aside0 (kq≤k1)∧Aside0 (Kd.N (Kd.slice 3 (Kd.int .i64)) 55 w' w.heap.size (fun k_=>(w.heap.size≤k_)∧some k_≠((.slice Ao34 x241001_1.length co34) : Value).ownBlock∧some k_≠(u241002 : Value).ownBlock∧k_≠gb237∧k_≠gb238∧k_≠gb240) v251 t249)∧Aside0 (Kd.N (Kd.slice 3 (Kd.int .i64)) 55 w' w.heap.size (fun k_=>(w.heap.size≤k_)∧some k_≠(v251 : Value).ownBlock∧some k_≠(u241002 : Value).ownBlock∧k_≠gb237∧k_≠gb238∧k_≠gb240) (.slice Ao34 x241001_1.length co34) x241001_1)∧Aside0 (Kd.N (Kd.slice 55 (Kd.slice 3 (Kd.int .i64))) 25 w' w.heap.size (fun k_=>(w.heap.size≤k_)∧some k_≠(v251 : Value).ownBlock∧some k_≠((.slice Ao34 x241001_1.length co34) : Value).ownBlock∧k_≠gb237∧k_≠gb238∧k_≠gb240) u241002 x241002_2)∧Aside0 (w'.heap[gb237]? = some (.cells #[(.slice A2_0 l2_0.length c2_0)] 24 (0,0)))∧Aside0 (w'.heap[gb238]? = some (.cells #[.bool false,(.slice none 0 0),(.slice none 0 0)] 31 (0,0)))∧Aside0 (w'.heap[gb240]? = some (.cells #[.bool a3,(.slice Ao34 x241001_1.length co34),u241002] 31 (0,0)))∧Aside0 (Below w.heap.size w w'))
    case atStart=>exact ⟨(0),(([] : List (List (List Int)))),(.slice none 0 0),yq,H',⟨Nat.le_refl _⟩,⟨yN0 HO252⟩,⟨yN0 HO_241001⟩,⟨yn⟩,⟨yk BK237⟩,⟨yk BK238⟩,⟨yk BK240⟩,⟨yhb⟩⟩
    case round =>
     clear H'
     try clear c17b0
     try clear c18b0
     try clear c19b0
     try clear hcz25_0
     try clear hcz25_1
     try clear hcz25_2
     try clear hcz29_0
     try clear hcz29_1
     try clear hcz29_2
     try clear hcz33_0
     try clear hcz33_1
     try clear hcz33_2
     try clear hcz37_0
     try clear hfz25_0
     try clear hfz25_1
     try clear hfz25_2
     try clear hfz29_0
     try clear hfz29_1
     try clear hfz29_2
     try clear hfz33_0
     try clear hfz33_1
     try clear hfz33_2
     try clear hfz37_0
     try clear hx241_0
     try clear p241
     try clear q241
     obtain ⟨x64_2,x241002_2,u241002,rfl,HA,HK2,HO_15,HO_241001,HO_241002,BK237,BK238,BK240,HB⟩:=hrel
     obtain ⟨k2,rfl⟩:=ysu gk (fun h=>by subst h;exact absurd HA.out (by simp [ccodec_Encode.l1]))
     have H:=HA.out;clear HA
     simp only [ccodec_Encode.l1] at H
     by_cases c38 : x64_2 < (l2_0.length : Int)
     ·
      rw [if_pos c38] at H
      have c38b0 : decide (x64_2 < (l2_0.length : Int))=true:=decide_eq_true c38
      clear c38
      replace H:=yif H;obtain ⟨c39,H⟩:=H
      have c39b0 : decide (0≤x64_2)=true:=decide_eq_true c39
      clear c39
      replace H:=yif H;obtain ⟨c40,H⟩:=H
      have c40b0 : decide (x64_2 < (l2_0.length : Int))=true:=decide_eq_true c40
      clear c40
      replace H:=ybi H;obtain ⟨⟨t254,t257⟩,A41,H⟩:=H
      try dsimp only at H
      have H' := zm H
      clear H
      have p253 : 0≤(x64_2 : Int):=yt
      have q253 : x64_2 < (l2_0.length : Int):=yt
      obtain ⟨ad253,A253_0,c253_0,e253,hx253_0,hl253_0,hi253_0⟩:=at_L1 HR2_0.out x64_2 p253 q253
      cases e253
      replace hx253_0:=yhx HB hx253_0
      have HR253_0:=zm hi253_0;have HC253_0:=zm hl253_0;clear hi253_0 hl253_0
      replace p253:=eq_true p253
      replace q253:=eq_true q253
      go_wp2_with (first|((with_reducible refine gate_callee (f:=38) rfl ?_);refine ygl 71 Try.func38 #[.slice A253_0 (rd_L1 l2_0 x64_2).length c253_0] ?_;(with_reducible refine (band_Split.calls k2 _ _ (rd_L1 l2_0 x64_2) t254 t257 _ ?side1 HC253_0.out A41.out).mono ?_);(case side1=>exact ycb HR253_0);rintro e w42 ⟨v255,rfl,ho0,hb⟩;refine ⟨_,rfl, ?_⟩;have HO256:=zm (Kd.N_lower (Kd.N_mono (ok' := fun k_=>(w.heap.size≤k_)∧some k_≠(v251 : Value).ownBlock∧some k_≠(.slice Ao34 x241001_1.length co34 : Value).ownBlock∧some k_≠(u241002 : Value).ownBlock∧k_≠gb237∧k_≠gb238∧k_≠gb240) ho0 (fun k_ hk_=>⟨(Nat.le_trans (zE yhb) hk_),(Kd.fresh' (Kd.N_lt (yr HO_15)) k_ hk_),(Kd.fresh' (Kd.N_lt (yr HO_241001)) k_ hk_),(Kd.fresh' (Kd.N_lt (yr HO_241002)) k_ hk_),(Kd.freshB (yk BK237) k_ hk_),(Kd.freshB (yk BK238) k_ hk_),(Kd.freshB (yk BK240) k_ hk_)⟩)) (zE yhb));replace HO_15:=zm (Kd.N_elder' (yr HO_15) (Kd.N_base ho0) hb);replace HO_241001:=zm (Kd.N_elder' (yr HO_241001) (Kd.N_base ho0) hb);replace HO_241002:=zm (Kd.N_elder' (yr HO_241002) (Kd.N_base ho0) hb);replace BK237:=ybb BK237 hb;replace BK238:=ybb BK238 hb;replace BK240:=ybb BK240 hb;replace HB:=ybs hb;(try clear hb);(try clear ho0);obtain ⟨Ao43,co43,eo43⟩:=Kd.N_slice HO256.out;subst eo43))
      go_loopg [21,76] k2 (fun kq v21 v76 w' => ∃ (x21_3 : List (List Int)) (x76_3 : Int),v76=.int .i64 x76_3∧Aside0 (ccodec_Encode.l2 kq t249 x64_2 x21_3 l2_0 (l2_0.length : Int) x64_2 t254 (t254.length : Int) x76_3 a3 x241001_1 x241002_2=some (r1,r2,r3,r4))∧Aside0 (kq≤k2)∧Aside0 (Kd.N (Kd.slice 3 (Kd.int .i64)) 55 w' w.heap.size (fun k_=>(w.heap.size≤k_)∧some k_≠(v21 : Value).ownBlock∧some k_≠((.slice Ao43 t254.length co43) : Value).ownBlock∧some k_≠((.slice Ao34 x241001_1.length co34) : Value).ownBlock∧some k_≠(u241002 : Value).ownBlock∧k_≠gb237∧k_≠gb238∧k_≠gb240) v251 t249)∧Aside0 (Kd.N (Kd.slice 3 (Kd.int .i64)) 55 w' w.heap.size (fun k_=>(w.heap.size≤k_)∧some k_≠(v251 : Value).ownBlock∧some k_≠((.slice Ao43 t254.length co43) : Value).ownBlock∧some k_≠((.slice Ao34 x241001_1.length co34) : Value).ownBlock∧some k_≠(u241002 : Value).ownBlock∧k_≠gb237∧k_≠gb238∧k_≠gb240) v21 x21_3)∧Aside0 (Kd.N (Kd.slice 2 (Kd.int .i64)) 53 w' w.heap.size (fun k_=>(w.heap.size≤k_)∧some k_≠(v251 : Value).ownBlock∧some k_≠(v21 : Value).ownBlock∧some k_≠((.slice Ao34 x241001_1.length co34) : Value).ownBlock∧some k_≠(u241002 : Value).ownBlock∧k_≠gb237∧k_≠gb238∧k_≠gb240) (.slice Ao43 t254.length co43) t254)∧Aside0 (Kd.N (Kd.slice 3 (Kd.int .i64)) 55 w' w.heap.size (fun k_=>(w.heap.size≤k_)∧some k_≠(v251 : Value).ownBlock∧some k_≠(v21 : Value).ownBlock∧some k_≠((.slice Ao43 t254.length co43) : Value).ownBlock∧some k_≠(u241002 : Value).ownBlock∧k_≠gb237∧k_≠gb238∧k_≠gb240) (.slice Ao34 x241001_1.length co34) x241001_1)∧Aside0 (Kd.N (Kd.slice 55 (Kd.slice 3 (Kd.int .i64))) 25 w' w.heap.size (fun k_=>(w.heap.size≤k_)∧some k_≠(v251 : Value).ownBlock∧some k_≠(v21 : Value).ownBlock∧some k_≠((.slice Ao43 t254.length co43) : Value).ownBlock∧some k_≠((.slice Ao34 x241001_1.length co34) : Value).ownBlock∧k_≠gb237∧k_≠gb238∧k_≠gb240) u241002 x241002_2)∧Aside0 (w'.heap[gb237]? = some (.cells #[(.slice (some ad253) l2_0.length c2_0)] 24 (0,0)))∧Aside0 (w'.heap[gb238]? = some (.cells #[.bool false,(.slice none 0 0),(.slice none 0 0)] 31 (0,0)))∧Aside0 (w'.heap[gb240]? = some (.cells #[.bool a3,(.slice Ao34 x241001_1.length co34),u241002] 31 (0,0)))∧Aside0 (Below w.heap.size w w'))
      case atStart=>exact ⟨(([] : List (List Int))),(0),yq,H',⟨Nat.le_refl _⟩,⟨yN0 HO_15⟩,⟨yn⟩,⟨yN0 HO256⟩,⟨yN0 HO_241001⟩,⟨yN0 HO_241002⟩,⟨yk BK237⟩,⟨yk BK238⟩,⟨yk BK240⟩,⟨yhb⟩⟩
      case round =>
       clear H'
       try clear c38b0
       try clear c39b0
       try clear c40b0
       try clear hx253_0
       try clear p253
       try clear q253
       obtain ⟨x21_3,x76_3,rfl,HA,HK3,HO_15,HO_21,HO_74,HO_241001,HO_241002,BK237,BK238,BK240,HB⟩:=hrel
       obtain ⟨k3,rfl⟩:=ysu gk (fun h=>by subst h;exact absurd HA.out (by simp [ccodec_Encode.l2]))
       have H:=HA.out;clear HA
       simp only [ccodec_Encode.l2] at H
       by_cases c44 : x76_3 < (t254.length : Int)
       ·
        rw [if_pos c44] at H
        have c44b0 : decide (x76_3 < (t254.length : Int))=true:=decide_eq_true c44
        clear c44
        replace H:=yif H;obtain ⟨c45,H⟩:=H
        have c45b0 : decide (0≤x76_3)=true:=decide_eq_true c45
        clear c45
        replace H:=yif H;obtain ⟨c46,H⟩:=H
        have c46b0 : decide (x76_3 < (t254.length : Int))=true:=decide_eq_true c46
        clear c46
        replace H:=yif H;obtain ⟨c47,H⟩:=H
        have c47b0 : decide (0≤x64_2)=true:=decide_eq_true c47
        clear c47
        replace H:=yif H;obtain ⟨c48,H⟩:=H
        have c48b0 : decide (x64_2 < (t249.length : Int))=true:=decide_eq_true c48
        clear c48
        replace H:=yif H;obtain ⟨c49,H⟩:=H
        have c49b0 : decide (x76_3 < ((rd_L2 t249 x64_2).length : Int))=true:=decide_eq_true c49
        clear c49
        replace H:=ybi H;obtain ⟨⟨t261,t262⟩,A50,H⟩:=H
        try dsimp only at H
        replace H:=yif H;obtain ⟨c51,H⟩:=H
        have LMc51:=zm c51;clear c51
        obtain ⟨y265,hy265⟩ : ∃ y_ : List (List Int),y_=(x21_3 ++ [t261]):=⟨_,rfl⟩
        replace H : (ccodec_Encode.l2 k3 t249 x64_2 y265 l2_0 (l2_0.length : Int) x64_2 t254 (t254.length : Int) (wrap64 (x76_3+1)) a3 x241001_1 x241002_2)=some (r1,r2,r3,r4):=yrw hy265 H
        have Ny265:=zm hy265;clear hy265
        have H' := zm H
        clear H
        have p258 : 0≤(x76_3 : Int):=yt
        have q258 : x76_3 < (t254.length : Int):=yt
        obtain ⟨ad258,A258_0,c258_0,e258,hx258_0,hl258_0,hi258_0⟩:=at_L1 (Kd.N_reads' HO_74.out).2.2 x76_3 p258 q258
        cases e258
        obtain ⟨ce258,hce258,hMe258,hcc258⟩:=Kd.N_get HO_74.out [] x76_3 p258 (by first|exact q258|exact yt|(have e_:=(Kd.N_reads' HO_74.out).1;omega))
        obtain ⟨ua258_0,uc258_0,rfl,ul258_0,ge258_0⟩:=Kd.FK_slice_open hMe258
        have hv258_0:=hcc258 0 _ rfl
        rw [Nat.add_zero,show ((Kd.slice 2 (Kd.int .i64))).sz=1 from rfl,Nat.mul_one] at hv258_0
        replace hv258_0:=Option.some.inj (hv258_0.symm.trans hx258_0)
        injection hv258_0 with hva_ hvn_ hvc_
        rw [hva_] at ge258_0
        rw [hvc_] at ul258_0
        have HL258_0:=zm (show Kd.V (Kd.int .i64) 2 _ w.heap.size _ _ (rd_L1 t254 x76_3) from Kd.V_mk ul258_0 ge258_0)
        clear hva_ hvn_ hvc_ ge258_0 ul258_0;clear hcc258 hce258;have HR258_0:=zm hi258_0;have HC258_0:=zm hl258_0;clear hi258_0 hl258_0
        replace p258:=eq_true p258
        replace q258:=eq_true q258
        obtain ⟨Ao52,co52,eo52⟩:=Kd.N_slice HO_15.out
        subst eo52
        have p259 : 0≤(x64_2 : Int):=yt
        have q259 : x64_2 < (t249.length : Int):=yt
        obtain ⟨ad259,A259_0,c259_0,e259,hx259_0,hl259_0,hi259_0⟩:=at_L2 (Kd.N_reads' HO_15.out).2.2 x64_2 p259 q259
        cases e259
        obtain ⟨ce259,hce259,hMe259,hcc259⟩:=Kd.N_get HO_15.out [] x64_2 p259 (by first|exact q259|exact yt|(have e_:=(Kd.N_reads' HO_15.out).1;omega))
        obtain ⟨ua259_0,uc259_0,rfl,ul259_0,ge259_0⟩:=Kd.FK_slice_open hMe259
        have hv259_0:=hcc259 0 _ rfl
        rw [Nat.add_zero,show ((Kd.slice 3 (Kd.int .i64))).sz=1 from rfl,Nat.mul_one] at hv259_0
        replace hv259_0:=Option.some.inj (hv259_0.symm.trans hx259_0)
        injection hv259_0 with hva_ hvn_ hvc_
        rw [hva_] at ge259_0
        rw [hvc_] at ul259_0
        have HL259_0:=zm (show Kd.V (Kd.int .i64) 3 _ w.heap.size _ _ (rd_L2 t249 x64_2) from Kd.V_mk ul259_0 ge259_0)
        clear hva_ hvn_ hvc_ ge259_0 ul259_0;clear hcc259 hce259;have HR259_0:=zm hi259_0;have HC259_0:=zm hl259_0;clear hi259_0 hl259_0
        replace p259:=eq_true p259
        replace q259:=eq_true q259
        obtain ⟨ad260,e260,hx260_0,p260,q260⟩:=yai HR259_0 x76_3
        cases e260
        go_wp2_with (first|((with_reducible refine gate_callee (f:=39) rfl ?_);refine ygl 90 Try.func39 #[.slice A258_0 (rd_L1 t254 x76_3).length c258_0, .int .i64 (rd (rd_L2 t249 x64_2) x76_3)] ?_;(with_reducible refine (pvq_Search.calls k3 _ _ (rd_L1 t254 x76_3) (rd (rd_L2 t249 x64_2) x76_3) t261 t262 _ ?side1 HC258_0.out A50.out).mono ?_);(case side1=>exact yce (yrc HR258_0));rintro e w53 ⟨v263,rfl,ho0,hb⟩;refine ⟨_,rfl, ?_⟩;replace HO_15:=zm (Kd.N_elder' (yr HO_15) (Kd.R_base ho0) hb);replace HO_21:=zm (Kd.N_elder' (yr HO_21) (Kd.R_base ho0) hb);replace HO_74:=zm (Kd.N_elder' (yr HO_74) (Kd.R_base ho0) hb);replace HO_241001:=zm (Kd.N_elder' (yr HO_241001) (Kd.R_base ho0) hb);replace HO_241002:=zm (Kd.N_elder' (yr HO_241002) (Kd.R_base ho0) hb);replace HL258_0:=zm (Kd.V_elder' (yr HL258_0) (Kd.R_base ho0) hb);replace HL259_0:=zm (Kd.V_elder' (yr HL259_0) (Kd.R_base ho0) hb);have HO264:=zm (Kd.R_lower (Kd.R_newM (M:=fun k_=>(w.heap.size≤k_)) ho0 (zE yhb) (fun k_ h_=>h_)) (zE yhb));replace BK237:=ybb BK237 hb;replace BK238:=ybb BK238 hb;replace BK240:=ybb BK240 hb;replace HR258_0:=yCb HR258_0 hb;replace HR259_0:=yCb HR259_0 hb;replace HB:=ybs hb;(try clear hb);(try clear ho0);obtain ⟨Ao55,co55,eo55⟩:=Kd.R_slice HO264.out;subst eo55)|((with_reducible refine gate_builtin (b:=.append) (xs := #[.tmp 93, .tmp 95]) rfl ?_);at_builtin;refine Kd.N_append (Kd.slice 3 (Kd.int .i64)) (w0:=w) w.heap.size rfl (.tmp 93) (.tmp 95) 25 55 (.slice none 0 0) 24 rfl Try.underlying25 info55 rfl (by decide) (by omega) u21 x21_3 t261 [.slice Ao55 t261.length co55] (fun k_=>(w.heap.size≤k_)∧some k_≠(.slice (some ad259) t249.length co52 : Value).ownBlock∧some k_≠(.slice (some ad258) t254.length co43 : Value).ownBlock∧some k_≠(.slice Ao34 x241001_1.length co34 : Value).ownBlock∧some k_≠(u241002 : Value).ownBlock∧k_≠gb237∧k_≠gb238∧k_≠gb240) (fun k_=>((fun k_=>(w.heap.size≤k_)∧some k_≠(.slice (some ad259) t249.length co52 : Value).ownBlock∧some k_≠(.slice (some ad258) t254.length co43 : Value).ownBlock∧some k_≠(.slice Ao34 x241001_1.length co34 : Value).ownBlock∧some k_≠(u241002 : Value).ownBlock∧k_≠gb237∧k_≠gb238∧k_≠gb240)) k_∧some k_≠(u21 : Value).ownBlock) rfl rfl ?aP (fun _ hk=>hk) ?aF ?aO ?aB ?aS ?aL ?_;(case aP=>exact (Kd.FK_slice_mk (Kd.R_reads' (zG (ok' := (fun k_=>((fun k_=>(w.heap.size≤k_)∧some k_≠(.slice (some ad259) t249.length co52 : Value).ownBlock∧some k_≠(.slice (some ad258) t254.length co43 : Value).ownBlock∧some k_≠(.slice Ao34 x241001_1.length co34 : Value).ownBlock∧some k_≠(u241002 : Value).ownBlock∧k_≠gb237∧k_≠gb238∧k_≠gb240)) k_∧some k_≠(u21 : Value).ownBlock)) (Kd.R_types (Kd.R_types (Kd.R_types (Kd.R_apart' (Kd.R_apart' (Kd.R_apart' (Kd.R_apart' (Kd.R_apart' (HO264.out) (Kd.N_typed HO_15.out) (by decide)) (Kd.N_typed HO_74.out) (by decide)) (Kd.N_typed HO_241001.out) (by decide)) (Kd.N_typed HO_241002.out) (by decide)) (Kd.N_typed HO_21.out) (by decide)) BK237.out (by decide)) BK238.out (by decide)) BK240.out (by decide)) (fun k_ hk=>⟨⟨hk.1.1.1.1.1.1.1.1.1,⟨hk.1.1.1.1.1.1.1.2,⟨hk.1.1.1.1.1.1.2,⟨hk.1.1.1.1.1.2,⟨hk.1.1.1.1.2,⟨hk.1.1.2,⟨hk.1.2,hk.2⟩⟩⟩⟩⟩⟩⟩,hk.1.1.1.2⟩))).2.1 (Kd.R_F (zG (ok' := (fun k_=>((fun k_=>(w.heap.size≤k_)∧some k_≠(.slice (some ad259) t249.length co52 : Value).ownBlock∧some k_≠(.slice (some ad258) t254.length co43 : Value).ownBlock∧some k_≠(.slice Ao34 x241001_1.length co34 : Value).ownBlock∧some k_≠(u241002 : Value).ownBlock∧k_≠gb237∧k_≠gb238∧k_≠gb240)) k_∧some k_≠(u21 : Value).ownBlock)) (Kd.R_types (Kd.R_types (Kd.R_types (Kd.R_apart' (Kd.R_apart' (Kd.R_apart' (Kd.R_apart' (Kd.R_apart' (HO264.out) (Kd.N_typed HO_15.out) (by decide)) (Kd.N_typed HO_74.out) (by decide)) (Kd.N_typed HO_241001.out) (by decide)) (Kd.N_typed HO_241002.out) (by decide)) (Kd.N_typed HO_21.out) (by decide)) BK237.out (by decide)) BK238.out (by decide)) BK240.out (by decide)) (fun k_ hk=>⟨⟨hk.1.1.1.1.1.1.1.1.1,⟨hk.1.1.1.1.1.1.1.2,⟨hk.1.1.1.1.1.1.2,⟨hk.1.1.1.1.1.2,⟨hk.1.1.1.1.2,⟨hk.1.1.2,⟨hk.1.2,hk.2⟩⟩⟩⟩⟩⟩⟩,hk.1.1.1.2⟩)))));(case aB=>exact yhb);(case aF=>exact (fun k_ hk=>⟨(Nat.le_trans (zE yhb) hk),Kd.fresh' (Kd.N_lt (yr HO_15)) k_ hk,Kd.fresh' (Kd.N_lt (yr HO_74)) k_ hk,Kd.fresh' (Kd.N_lt (yr HO_241001)) k_ hk,Kd.fresh' (Kd.N_lt (yr HO_241002)) k_ hk,Kd.freshB (yk BK237) k_ hk,Kd.freshB (yk BK238) k_ hk,Kd.freshB (yk BK240) k_ hk⟩));(case aO=>exact (yN0 HO_21));(case aS=>exact (zE yhb));(case aL=>have:=LMc51.out;omega);intro v266 w54 ho hb hg hat;rw [← Ny265.out] at ho;replace HO_15:=zm (Kd.N_afterv (ok:=(fun k_=>(w.heap.size≤k_)∧some k_≠(.slice (some ad258) t254.length co43 : Value).ownBlock∧some k_≠(.slice Ao34 x241001_1.length co34 : Value).ownBlock∧some k_≠(u241002 : Value).ownBlock∧some k_≠(.slice Ao55 t261.length co55 : Value).ownBlock∧k_≠gb237∧k_≠gb238∧k_≠gb240)) (yN0 HO_15) hg hat);replace HO_74:=zm (Kd.N_afterv (ok:=(fun k_=>(w.heap.size≤k_)∧some k_≠(.slice (some ad259) t249.length co52 : Value).ownBlock∧some k_≠(.slice Ao34 x241001_1.length co34 : Value).ownBlock∧some k_≠(u241002 : Value).ownBlock∧some k_≠(.slice Ao55 t261.length co55 : Value).ownBlock∧k_≠gb237∧k_≠gb238∧k_≠gb240)) (yN0 HO_74) hg hat);replace HO_241001:=zm (Kd.N_afterv (ok:=(fun k_=>(w.heap.size≤k_)∧some k_≠(.slice (some ad259) t249.length co52 : Value).ownBlock∧some k_≠(.slice (some ad258) t254.length co43 : Value).ownBlock∧some k_≠(u241002 : Value).ownBlock∧some k_≠(.slice Ao55 t261.length co55 : Value).ownBlock∧k_≠gb237∧k_≠gb238∧k_≠gb240)) (yN0 HO_241001) hg hat);replace HO_241002:=zm (Kd.N_afterv (ok:=(fun k_=>(w.heap.size≤k_)∧some k_≠(.slice (some ad259) t249.length co52 : Value).ownBlock∧some k_≠(.slice (some ad258) t254.length co43 : Value).ownBlock∧some k_≠(.slice Ao34 x241001_1.length co34 : Value).ownBlock∧some k_≠(.slice Ao55 t261.length co55 : Value).ownBlock∧k_≠gb237∧k_≠gb238∧k_≠gb240)) (yN0 HO_241002) hg hat);replace BK237:=zm (blk_grown (yk BK237) hg (Kd.N_ne HO_21.out BK237.out (by decide)));replace BK238:=zm (blk_grown (yk BK238) hg (Kd.N_ne HO_21.out BK238.out (by decide)));replace BK240:=zm (blk_grown (yk BK240) hg (Kd.N_ne HO_21.out BK240.out (by decide)));replace HL258_0:=zm (Kd.V_afterv (ok:=(fun k_=>(w.heap.size≤k_)∧some k_≠(.slice (some ad259) t249.length co52 : Value).ownBlock∧some k_≠(.slice (some ad258) t254.length co43 : Value).ownBlock∧some k_≠(.slice Ao34 x241001_1.length co34 : Value).ownBlock∧some k_≠(u241002 : Value).ownBlock∧some k_≠(.slice Ao55 t261.length co55 : Value).ownBlock∧k_≠gb237∧k_≠gb238∧k_≠gb240)) (yV0 HL258_0) hg hat);replace HL259_0:=zm (Kd.V_afterv (ok:=(fun k_=>(w.heap.size≤k_)∧some k_≠(.slice (some ad259) t249.length co52 : Value).ownBlock∧some k_≠(.slice (some ad258) t254.length co43 : Value).ownBlock∧some k_≠(.slice Ao34 x241001_1.length co34 : Value).ownBlock∧some k_≠(u241002 : Value).ownBlock∧some k_≠(.slice Ao55 t261.length co55 : Value).ownBlock∧k_≠gb237∧k_≠gb238∧k_≠gb240)) (yV0 HL259_0) hg hat);replace HB:=zm (hb);have HO267:=zm (ho);clear HO_21;clear HO264;clear ho hb hg hat))
        go_roundg k3
        case measure=>exact yom3 HK1 HK2 HK3
        case rel=>exact ⟨(y265),(wrap64 (x76_3+1)),yq,H',⟨yom3 HK1 HK2 HK3⟩,⟨yN0 HO_15⟩,⟨yr HO267⟩,⟨yN0 HO_74⟩,⟨yN0 HO_241001⟩,⟨yN0 HO_241002⟩,⟨yk BK237⟩,⟨yk BK238⟩,⟨yk BK240⟩,⟨yhb⟩⟩
       ·
        rw [if_neg c44] at H
        have c44b0 : decide (x76_3 < (t254.length : Int))=false:=decide_eq_false c44
        clear c44
        replace H:=yif H;obtain ⟨c56,H⟩:=H
        have LMc56:=zm c56;clear c56
        obtain ⟨y268,hy268⟩ : ∃ y_ : List (List (List Int)),y_=(x241002_2 ++ [x21_3]):=⟨_,rfl⟩
        replace H : (ccodec_Encode.l1 k3 t249 l2_0 (l2_0.length : Int) (wrap64 (x64_2+1)) a3 x241001_1 y268)=some (r1,r2,r3,r4):=yrw hy268 H
        have Ny268:=zm hy268;clear hy268
        have H' := zm H
        clear H
        have:=NB240_237.out
        have:=NB237_240.out
        have:=NB240_238.out
        have:=NB238_240.out
        obtain ⟨_,_,_,_,_,_⟩:=yc3 BK240
        obtain ⟨Ao61,co61,eo61⟩:=Kd.N_slice HO_21.out
        subst eo61
        go_wp2_with (first|((with_reducible refine gate_builtin (b:=.append) (xs := #[.tmp 99, .tmp 101]) rfl ?_);at_builtin;refine Kd.N_append (Kd.slice 55 (Kd.slice 3 (Kd.int .i64))) (w0:=w) w.heap.size rfl (.tmp 99) (.tmp 101) 29 25 (.slice none 0 0) 24 rfl Try.underlying29 info25 rfl (by decide) (by omega) u241002 x241002_2 x21_3 [.slice Ao61 x21_3.length co61] (fun k_=>(w.heap.size≤k_)∧some k_≠(v251 : Value).ownBlock∧some k_≠(.slice Ao43 t254.length co43 : Value).ownBlock∧some k_≠(.slice Ao34 x241001_1.length co34 : Value).ownBlock∧k_≠gb237∧k_≠gb238∧k_≠gb240) (fun k_=>((fun k_=>(w.heap.size≤k_)∧some k_≠(v251 : Value).ownBlock∧some k_≠(.slice Ao43 t254.length co43 : Value).ownBlock∧some k_≠(.slice Ao34 x241001_1.length co34 : Value).ownBlock∧k_≠gb237∧k_≠gb238∧k_≠gb240)) k_∧some k_≠(u241002 : Value).ownBlock) rfl rfl ?aP (fun _ hk=>hk) ?aF ?aO ?aB ?aS ?aL ?_;(case aP=>exact (Kd.FK_slice_mk (Kd.N_reads' (Kd.N_mono (ok' := (fun k_=>((fun k_=>(w.heap.size≤k_)∧some k_≠(v251 : Value).ownBlock∧some k_≠(.slice Ao43 t254.length co43 : Value).ownBlock∧some k_≠(.slice Ao34 x241001_1.length co34 : Value).ownBlock∧k_≠gb237∧k_≠gb238∧k_≠gb240)) k_∧some k_≠(u241002 : Value).ownBlock)) (HO_21.out) (fun k_ hk=>⟨⟨hk.1,⟨hk.2.1,⟨hk.2.2.1,⟨hk.2.2.2.1,⟨hk.2.2.2.2.2.1,⟨hk.2.2.2.2.2.2.1,hk.2.2.2.2.2.2.2⟩⟩⟩⟩⟩⟩,hk.2.2.2.2.1⟩))).2.1 (Kd.N_F (Kd.N_mono (ok' := (fun k_=>((fun k_=>(w.heap.size≤k_)∧some k_≠(v251 : Value).ownBlock∧some k_≠(.slice Ao43 t254.length co43 : Value).ownBlock∧some k_≠(.slice Ao34 x241001_1.length co34 : Value).ownBlock∧k_≠gb237∧k_≠gb238∧k_≠gb240)) k_∧some k_≠(u241002 : Value).ownBlock)) (HO_21.out) (fun k_ hk=>⟨⟨hk.1,⟨hk.2.1,⟨hk.2.2.1,⟨hk.2.2.2.1,⟨hk.2.2.2.2.2.1,⟨hk.2.2.2.2.2.2.1,hk.2.2.2.2.2.2.2⟩⟩⟩⟩⟩⟩,hk.2.2.2.2.1⟩)))));(case aB=>exact yhb);(case aF=>exact (fun k_ hk=>⟨(Nat.le_trans (zE yhb) hk),Kd.fresh' (Kd.N_lt (yr HO_15)) k_ hk,Kd.fresh' (Kd.N_lt (yr HO_74)) k_ hk,Kd.fresh' (Kd.N_lt (yr HO_241001)) k_ hk,Kd.freshB (yk BK237) k_ hk,Kd.freshB (yk BK238) k_ hk,Kd.freshB (yk BK240) k_ hk⟩));(case aO=>exact (yN0 HO_241002));(case aS=>exact (zE yhb));(case aL=>have:=LMc56.out;omega);intro v269 w60 ho hb hg hat;rw [← Ny268.out] at ho;replace HO_15:=zm (Kd.N_afterv (ok:=(fun k_=>(w.heap.size≤k_)∧some k_≠(.slice Ao61 x21_3.length co61 : Value).ownBlock∧some k_≠(.slice Ao43 t254.length co43 : Value).ownBlock∧some k_≠(.slice Ao34 x241001_1.length co34 : Value).ownBlock∧k_≠gb237∧k_≠gb238∧k_≠gb240)) (yN0 HO_15) hg hat);replace HO_74:=zm (Kd.N_afterv (ok:=(fun k_=>(w.heap.size≤k_)∧some k_≠(v251 : Value).ownBlock∧some k_≠(.slice Ao61 x21_3.length co61 : Value).ownBlock∧some k_≠(.slice Ao34 x241001_1.length co34 : Value).ownBlock∧k_≠gb237∧k_≠gb238∧k_≠gb240)) (yN0 HO_74) hg hat);replace HO_241001:=zm (Kd.N_afterv (ok:=(fun k_=>(w.heap.size≤k_)∧some k_≠(v251 : Value).ownBlock∧some k_≠(.slice Ao61 x21_3.length co61 : Value).ownBlock∧some k_≠(.slice Ao43 t254.length co43 : Value).ownBlock∧k_≠gb237∧k_≠gb238∧k_≠gb240)) (yN0 HO_241001) hg hat);replace BK237:=zm (blk_grown (yk BK237) hg (Kd.N_ne HO_241002.out BK237.out (by decide)));replace BK238:=zm (blk_grown (yk BK238) hg (Kd.N_ne HO_241002.out BK238.out (by decide)));replace BK240:=zm (blk_grown (yk BK240) hg (Kd.N_ne HO_241002.out BK240.out (by decide)));replace HB:=zm (hb);have HO270:=zm (ho);clear HO_241002;clear HO_21;clear ho hb hg hat;obtain ⟨Ao62,co62,eo62⟩:=Kd.N_slice HO270.out;subst eo62;obtain ⟨_,_,_,_,_,_⟩:=yc3 BK240))
        go_roundg k3
        case measure=>exact yom3 HK1 HK2 HK3
        case rel=>exact ⟨(wrap64 (x64_2+1)),(y268),(.slice Ao62 y268.length co62),yq,H',⟨yom3 HK1 HK2 HK3⟩,⟨yN0 HO_15⟩,⟨yN0 HO_241001⟩,⟨yN0 HO270⟩,⟨yk BK237⟩,⟨yk BK238⟩,⟨ykp BK240⟩,⟨yhb⟩⟩
     ·
      rw [if_neg c38] at H
      have c38b0 : decide (x64_2 < (l2_0.length : Int))=false:=decide_eq_false c38
      clear c38
      simp only [Option.some.injEq,Prod.mk.injEq] at H
      obtain ⟨rfl,rfl,rfl,rfl⟩:=H
      have:=NB240_237.out
      have:=NB237_240.out
      have:=NB240_238.out
      have:=NB238_240.out
      obtain ⟨_,_,_,_,_,_⟩:=yc3 BK240
      have:=NB238_237.out
      have:=NB237_238.out
      obtain ⟨_,_,_,_,_,_⟩:=yc3 BK238
      obtain ⟨Ao69,co69,eo69⟩:=Kd.N_slice HO_241002.out
      subst eo69
      go_wp2
      refine bodyPost_ret (results_ct rfl _ _ gb238 31 #[.bool a3, .slice Ao34 x241001_1.length co34, .slice Ao69 x241002_2.length co69] (0,0) _ rfl (ykp BK238) Try.underlying31 rfl (by kernel_rfl)) rfl ?_
      exact ⟨_,_,ye,yN0 HO_241001,yN0 HO_241002,yhb⟩
 ·
  replace c6:=Bool.eq_false_iff.mpr c6
  subst c6
  rw [ynf] at H
  simp only [Option.some.injEq,Prod.mk.injEq] at H
  obtain ⟨rfl,rfl,rfl,rfl⟩:=H
  go_enter Try.func13,Try.ntmps13
  go_wp2_with (first|((with_reducible refine gate_dst (N:=6) rfl ?_);refine ybx 6 #[.slice A2_0 l2_0.length c2_0] 24 ?_;intro gb237 hg w70 hbox hb;have BK237:=zm (hbox);have GW237:=ygw hg;have GE237:=ygw hg;replace HB:=ybs hb;clear hb hbox hg)|((with_reducible refine gate_dst (N:=8) rfl ?_);refine ybx 8 #[.bool false, .slice none 0 0, .slice none 0 0] 31 ?_;intro gb238 hg w71 hbox hb;have BK238:=zm (hbox);have GW238:=ygw hg;have GE238:=ygw hg;replace HB:=ybs hb;have NB237_238:=ynl BK237 hg;have NB238_237:=yng BK237 hg;replace BK237:=ybb BK237 hb;clear hb hbox hg;have:=NB237_238.out;have:=NB238_237.out;obtain ⟨_,_⟩:=yc1 BK237)|((with_reducible refine gate_callee (f:=20) rfl ?_);refine ygl 29 Try.func20 #[.int .i64 a0, .int .i64 a1, .agg #[.slice A2_0 l2_0.length c2_0]] ?_;(with_reducible refine (ccodec_Right.calls k a0 a1 _ _ l2_0 false _ ?side1 HC2_0.out A5.out).mono ?_);(case side1=>exact ycb HR2_0);rintro e w74 ⟨rfl,hb⟩;refine ⟨_,rfl, ?_⟩;replace BK237:=ybb BK237 hb;replace BK238:=ybb BK238 hb;replace HB:=ybs hb;(try clear hb);obtain ⟨_,_,_,_,_,_⟩:=yc3 BK238))
  refine bodyPost_ret (results_ct rfl _ _ gb238 31 #[.bool false, .slice none 0 0, .slice none 0 0] (0,0) _ rfl (ykp BK238) Try.underlying31 rfl (by kernel_rfl)) rfl ?_
  exact ⟨_,_,ye,yn,yn,yhb⟩
def psalterylaw23_cut.l0 : Nat→List Int→Int→Option (Bool)
 | 0,_,_=>none
 | k+1,x0,x3=>if x3 < (x0.length : Int) then (if 0≤x3 then (if (rd x0 x3)=1048576 then (some true) else (if (rd x0 x3)=(-1048576) then (some true) else (psalterylaw23_cut.l0 k x0 (wrap64 (x3+1))))) else (none)) else (some false)
def psalterylaw23_cut.f (k : Nat) (l0 : List Int) : Option (Bool):=psalterylaw23_cut.l0 k l0 0
theorem psalterylaw23_cut.mono_l : ∀ k,(∀ y0 y1,LeO (psalterylaw23_cut.l0 k y0 y1) (psalterylaw23_cut.l0 (k+1) y0 y1))
 | 0=>fun _ _ r h=>by simp [psalterylaw23_cut.l0] at h
 | k+1=>by
  have ih0:=psalterylaw23_cut.mono_l k
  ·
   intro y0 y1
   unfold psalterylaw23_cut.l0
   repeat' with_reducible first|apply ih0|apply yLr|apply yLn|apply yLi|apply yLb|intro _
theorem psalterylaw23_cut.mono : ∀ a0 k,LeO (psalterylaw23_cut.f k a0) (psalterylaw23_cut.f (k+1) a0):=by
 intro a0 k
 have ih0:=psalterylaw23_cut.mono_l k
 unfold psalterylaw23_cut.f
 repeat' with_reducible first|apply ih0|apply yLr|apply yLn|apply yLi|apply yLb|intro _
set_option maxHeartbeats 8000000 in
set_option maxRecDepth 100000 in
theorem psalterylaw23_cut.calls (k : Nat) (A0 : Option Addr) (c0 : Nat) (l0 : List Int) (r : Bool) (w : World) (hr0 : Kd.C (Kd.int .i64) w A0 l0.length l0) (hc0 : l0.length≤c0) (h : psalterylaw23_cut.f k l0=some r) :
  Calls Try.prog 29 #[.slice A0 l0.length c0] w fun e w' => e=.returned (.bool r)∧Drawn0 w w' := by
 have HR0:=zm hr0;have HC0:=zm hc0;clear hr0 hc0
 have H : (psalterylaw23_cut.l0 k l0 0)=some r:=h
 clear h
 have H' := zm H
 clear H
 go_enter Try.func29,Try.ntmps29
 go_wp2
 go_loopg [3] k (fun kq v3 w' => ∃ (x3_1 : Int),v3=.int .i64 x3_1∧Aside0 (psalterylaw23_cut.l0 kq l0 x3_1=some r)∧Aside0 (kq≤k)∧Drawn0 w w')
 case atStart=>exact ⟨(0),yq,H',⟨Nat.le_refl _⟩,yd⟩
 case round =>
  clear H'
  obtain ⟨x3_1,rfl,HA,HK1,⟨m1,rfl⟩⟩:=hrel
  obtain ⟨k1,rfl⟩:=ysu gk (fun h=>by subst h;exact absurd HA.out (by simp [psalterylaw23_cut.l0]))
  have H:=HA.out;clear HA
  simp only [psalterylaw23_cut.l0] at H
  by_cases c2 : x3_1 < (l0.length : Int)
  ·
   rw [if_pos c2] at H
   have c2b0 : decide (x3_1 < (l0.length : Int))=true:=decide_eq_true c2
   clear c2
   replace H:=yif H;obtain ⟨c3,H⟩:=H
   have c3b0 : decide (0≤x3_1)=true:=decide_eq_true c3
   clear c3
   by_cases c4 : (rd l0 x3_1)=1048576
   ·
    rw [if_pos c4] at H
    have c4b0 : ((rd l0 x3_1) == 1048576)=true:=beq_iff_eq.mpr c4
    have c4b1 : ((rd l0 x3_1) != 1048576)=false:=bne_eq_false_iff_eq.mpr c4
    clear c4
    obtain rfl:=Option.some.inj H
    obtain ⟨ad723,e723,hx723_0,p723,q723⟩:=yai HR0 x3_1
    cases e723
    go_wp2
    go_ret
    exact ⟨yq,yd⟩
   ·
    rw [if_neg c4] at H
    have c4b0 : ((rd l0 x3_1) == 1048576)=false:=beq_eq_false_iff_ne.mpr c4
    have c4b1 : ((rd l0 x3_1) != 1048576)=true:=bne_iff_ne.mpr c4
    by_cases c5 : (rd l0 x3_1)=(-1048576)
    ·
     rw [if_pos c5] at H
     have c5b0 : ((rd l0 x3_1) == (-1048576))=true:=beq_iff_eq.mpr c5
     have c5b1 : ((rd l0 x3_1) != (-1048576))=false:=bne_eq_false_iff_eq.mpr c5
     clear c5
     obtain rfl:=Option.some.inj H
     obtain ⟨ad723,e723,hx723_0,p723,q723⟩:=yai HR0 x3_1
     cases e723
     have p724 : 0≤(x3_1 : Int):=yt
     have q724 : x3_1 < (l0.length : Int):=yt
     obtain ⟨ad724,e724,hx724_0⟩:=Kd.at_int HR0.out x3_1 p724 q724
     obtain rfl : ad723=ad724:=(by injection e724)
     replace p724:=eq_true p724
     replace q724:=eq_true q724
     go_wp2
     go_ret
     exact ⟨yq,yd⟩
    ·
     rw [if_neg c5] at H
     have c5b0 : ((rd l0 x3_1) == (-1048576))=false:=beq_eq_false_iff_ne.mpr c5
     have c5b1 : ((rd l0 x3_1) != (-1048576))=true:=bne_iff_ne.mpr c5
     have H' := zm H
     clear H
     obtain ⟨ad723,e723,hx723_0,p723,q723⟩:=yai HR0 x3_1
     cases e723
     have p724 : 0≤(x3_1 : Int):=yt
     have q724 : x3_1 < (l0.length : Int):=yt
     obtain ⟨ad724,e724,hx724_0⟩:=Kd.at_int HR0.out x3_1 p724 q724
     obtain rfl : ad723=ad724:=(by injection e724)
     replace p724:=eq_true p724
     replace q724:=eq_true q724
     go_wp2
     go_roundg k1
     case measure=>exact yom1 HK1
     case rel=>exact ⟨(wrap64 (x3_1+1)),yq,H',⟨yom1 HK1⟩,yd⟩
  ·
   rw [if_neg c2] at H
   have c2b0 : decide (x3_1 < (l0.length : Int))=false:=decide_eq_false c2
   clear c2
   obtain rfl:=Option.some.inj H
   go_wp2
   go_ret
   exact ⟨yq,yd⟩
def psalterylaw23_great.l0 : Nat→Int→List (List Int)→Option (Bool)
 | 0,_,_=>none
 | k+1,x3,x102000=>if x3 < (x102000.length : Int) then (if 0≤x3 then (if ((rd_L1 x102000 x3).length : Int) > 100 then (some true) else (psalterylaw23_great.l0 k (wrap64 (x3+1)) x102000)) else (none)) else (some (decide ((x102000.length : Int) > 10)))
def psalterylaw23_great.f (k : Nat) (l0_0 : List (List Int)) : Option (Bool):=psalterylaw23_great.l0 k 0 l0_0
theorem psalterylaw23_great.mono_l : ∀ k,(∀ y0 y1,LeO (psalterylaw23_great.l0 k y0 y1) (psalterylaw23_great.l0 (k+1) y0 y1))
 | 0=>fun _ _ r h=>by simp [psalterylaw23_great.l0] at h
 | k+1=>by
  have ih0:=psalterylaw23_great.mono_l k
  ·
   intro y0 y1
   unfold psalterylaw23_great.l0
   repeat' with_reducible first|apply ih0|apply yLr|apply yLn|apply yLi|apply yLb|intro _
theorem psalterylaw23_great.mono : ∀ a0 k,LeO (psalterylaw23_great.f k a0) (psalterylaw23_great.f (k+1) a0):=by
 intro a0 k
 have ih0:=psalterylaw23_great.mono_l k
 unfold psalterylaw23_great.f
 repeat' with_reducible first|apply ih0|apply yLr|apply yLn|apply yLi|apply yLb|intro _
set_option maxHeartbeats 8000000 in
set_option maxRecDepth 100000 in
theorem psalterylaw23_great.calls (k : Nat) (A0_0 : Option Addr) (c0_0 : Nat) (l0_0 : List (List Int)) (r : Bool) (w : World) (hr0_0 : Kd.C (Kd.slice 2 (Kd.int .i64)) w A0_0 l0_0.length l0_0) (hc0_0 : l0_0.length≤c0_0) (h : psalterylaw23_great.f k l0_0=some r) :
  Calls Try.prog 10 #[.agg #[.slice A0_0 l0_0.length c0_0]] w fun e w' => e=.returned (.bool r)∧Below w.heap.size w w' := by
 have hu24:=Try.underlying24;have HR0_0:=zm hr0_0;have HC0_0:=zm hc0_0;clear hr0_0 hc0_0;have HB:=zm (Below.refl w.heap.size w)
 have H : (psalterylaw23_great.l0 k 0 l0_0)=some r:=h
 clear h
 have H' := zm H
 clear H
 go_enter Try.func10,Try.ntmps10
 go_wp2_with (first|((with_reducible refine gate_dst (N:=1) rfl ?_);refine ybx 1 #[.slice A0_0 l0_0.length c0_0] 24 ?_;intro gb101 hg w2 hbox hb;have BK101:=zm (hbox);have GW101:=ygw hg;have GE101:=ygw hg;replace HB:=ybs hb;clear hb hbox hg))
 go_loopg [3] k (fun kq v3 w' => ∃ (x3_1 : Int),v3=.int .i64 x3_1∧Aside0 (psalterylaw23_great.l0 kq x3_1 l0_0=some r)∧Aside0 (kq≤k)∧Aside0 (w'.heap[gb101]? = some (.cells #[(.slice A0_0 l0_0.length c0_0)] 24 (0,0)))∧Aside0 (Below w.heap.size w w'))
 case atStart=>exact ⟨(0),yq,H',⟨Nat.le_refl _⟩,⟨yk BK101⟩,⟨yhb⟩⟩
 case round =>
  clear H'
  obtain ⟨x3_1,rfl,HA,HK1,BK101,HB⟩:=hrel
  obtain ⟨k1,rfl⟩:=ysu gk (fun h=>by subst h;exact absurd HA.out (by simp [psalterylaw23_great.l0]))
  have H:=HA.out;clear HA
  simp only [psalterylaw23_great.l0] at H
  by_cases c3 : x3_1 < (l0_0.length : Int)
  ·
   rw [if_pos c3] at H
   have c3b0 : decide (x3_1 < (l0_0.length : Int))=true:=decide_eq_true c3
   clear c3
   replace H:=yif H;obtain ⟨c4,H⟩:=H
   have c4b0 : decide (0≤x3_1)=true:=decide_eq_true c4
   clear c4
   by_cases c5 : ((rd_L1 l0_0 x3_1).length : Int) > 100
   ·
    rw [if_pos c5] at H
    have c5b0 : decide (100 < ((rd_L1 l0_0 x3_1).length : Int))=true:=decide_eq_true c5
    have c5b1 : decide (100 < (rd_L1 l0_0 x3_1).length)=true:=decide_eq_true (by omega)
    clear c5
    obtain rfl:=Option.some.inj H
    obtain ⟨_,_⟩:=yc1 BK101
    have p102 : 0≤(x3_1 : Int):=yt
    have q102 : x3_1 < (l0_0.length : Int):=yt
    obtain ⟨ad102,A102_0,c102_0,e102,hx102_0,hl102_0,hi102_0⟩:=at_L1 HR0_0.out x3_1 p102 q102
    cases e102
    replace hx102_0:=yhx HB hx102_0
    have HR102_0:=zm hi102_0;have HC102_0:=zm hl102_0;clear hi102_0 hl102_0
    replace p102:=eq_true p102
    replace q102:=eq_true q102
    go_wp2
    go_ret
    exact ⟨ye,yhb⟩
   ·
    rw [if_neg c5] at H
    have c5b0 : decide (100 < ((rd_L1 l0_0 x3_1).length : Int))=false:=decide_eq_false c5
    have c5b1 : decide (100 < (rd_L1 l0_0 x3_1).length)=false:=decide_eq_false (by omega)
    clear c5
    have H' := zm H
    clear H
    obtain ⟨_,_⟩:=yc1 BK101
    have p102 : 0≤(x3_1 : Int):=yt
    have q102 : x3_1 < (l0_0.length : Int):=yt
    obtain ⟨ad102,A102_0,c102_0,e102,hx102_0,hl102_0,hi102_0⟩:=at_L1 HR0_0.out x3_1 p102 q102
    cases e102
    replace hx102_0:=yhx HB hx102_0
    have HR102_0:=zm hi102_0;have HC102_0:=zm hl102_0;clear hi102_0 hl102_0
    replace p102:=eq_true p102
    replace q102:=eq_true q102
    go_wp2
    go_roundg k1
    case measure=>exact yom1 HK1
    case rel=>exact ⟨(wrap64 (x3_1+1)),yq,H',⟨yom1 HK1⟩,⟨yk BK101⟩,⟨yhb⟩⟩
  ·
   rw [if_neg c3] at H
   have c3b0 : decide (x3_1 < (l0_0.length : Int))=false:=decide_eq_false c3
   clear c3
   obtain rfl:=Option.some.inj H
   obtain ⟨_,_⟩:=yc1 BK101
   go_wp2
   go_ret
   exact ⟨ye,yhb⟩
def psalteryref06_Same.l0 : Nat→List Int→List Int→Int→Option (Bool)
 | 0,_,_,_=>none
 | k+1,x0,x1,x5=>if x5 < (x0.length : Int) then (if 0≤x5 then (if x5 < (x1.length : Int) then (if (rd x0 x5)=(rd x1 x5) then (psalteryref06_Same.l0 k x0 x1 (wrap64 (x5+1))) else (some false)) else (none)) else (none)) else (some true)
def psalteryref06_Same.f (k : Nat) (l0 : List Int) (l1 : List Int) : Option (Bool):=if (l0.length : Int)=(l1.length : Int) then (psalteryref06_Same.l0 k l0 l1 0) else (some false)
theorem psalteryref06_Same.mono_l : ∀ k,(∀ y0 y1 y2,LeO (psalteryref06_Same.l0 k y0 y1 y2) (psalteryref06_Same.l0 (k+1) y0 y1 y2))
 | 0=>fun _ _ _ r h=>by simp [psalteryref06_Same.l0] at h
 | k+1=>by
  have ih0:=psalteryref06_Same.mono_l k
  ·
   intro y0 y1 y2
   unfold psalteryref06_Same.l0
   repeat' with_reducible first|apply ih0|apply yLr|apply yLn|apply yLi|apply yLb|intro _
theorem psalteryref06_Same.mono : ∀ a0 a1 k,LeO (psalteryref06_Same.f k a0 a1) (psalteryref06_Same.f (k+1) a0 a1):=by
 intro a0 a1 k
 have ih0:=psalteryref06_Same.mono_l k
 unfold psalteryref06_Same.f
 repeat' with_reducible first|apply ih0|apply yLr|apply yLn|apply yLi|apply yLb|intro _
set_option maxHeartbeats 8000000 in
set_option maxRecDepth 100000 in
theorem psalteryref06_Same.calls (k : Nat) (A0 : Option Addr) (c0 : Nat) (l0 : List Int) (A1 : Option Addr) (c1 : Nat) (l1 : List Int) (r : Bool) (w : World) (hr0 : Kd.C (Kd.int .i64) w A0 l0.length l0) (hc0 : l0.length≤c0) (hr1 : Kd.C (Kd.int .i64) w A1 l1.length l1) (hc1 : l1.length≤c1) (h : psalteryref06_Same.f k l0 l1=some r) :
  Calls Try.prog 35 #[.slice A0 l0.length c0, .slice A1 l1.length c1] w fun e w' => e=.returned (.bool r)∧Drawn0 w w' := by
 have HR0:=zm hr0;have HC0:=zm hc0;clear hr0 hc0;have HR1:=zm hr1;have HC1:=zm hc1;clear hr1 hc1
 have H : (if (l0.length : Int)=(l1.length : Int) then (psalteryref06_Same.l0 k l0 l1 0) else (some false))=some r:=h
 clear h
 by_cases c3 : (l0.length : Int)=(l1.length : Int)
 ·
  rw [if_pos c3] at H
  have c3b0 : ((l0.length : Int) == (l1.length : Int))=true:=beq_iff_eq.mpr c3
  have c3b1 : ((l0.length : Int) != (l1.length : Int))=false:=bne_eq_false_iff_eq.mpr c3
  have c3b2 : (l0.length == l1.length)=true:=by first|simpa using c3|(simp at c3 ⊢; omega)
  clear c3
  have H' := zm H
  clear H
  go_enter Try.func35,Try.ntmps35
  go_wp2
  repeat (go_quiet (fail);try go_wp2)
  go_loopg [5] k (fun kq v5 w' => ∃ (x5_1 : Int),v5=.int .i64 x5_1∧Aside0 (psalteryref06_Same.l0 kq l0 l1 x5_1=some r)∧Aside0 (kq≤k)∧Drawn0 w w')
  case atStart=>exact ⟨(0),yq,H',⟨Nat.le_refl _⟩,yd⟩
  case round =>
   clear H'
   try clear c1
   try clear c3b0
   try clear c3b1
   try clear c3b2
   obtain ⟨x5_1,rfl,HA,HK1,⟨m1,rfl⟩⟩:=hrel
   obtain ⟨k1,rfl⟩:=ysu gk (fun h=>by subst h;exact absurd HA.out (by simp [psalteryref06_Same.l0]))
   have H:=HA.out;clear HA
   simp only [psalteryref06_Same.l0] at H
   by_cases c4 : x5_1 < (l0.length : Int)
   ·
    rw [if_pos c4] at H
    have c4b0 : decide (x5_1 < (l0.length : Int))=true:=decide_eq_true c4
    clear c4
    replace H:=yif H;obtain ⟨c5,H⟩:=H
    have c5b0 : decide (0≤x5_1)=true:=decide_eq_true c5
    clear c5
    replace H:=yif H;obtain ⟨c6,H⟩:=H
    have c6b0 : decide (x5_1 < (l1.length : Int))=true:=decide_eq_true c6
    clear c6
    by_cases c7 : (rd l0 x5_1)=(rd l1 x5_1)
    ·
     rw [if_pos c7] at H
     have c7b0 : ((rd l0 x5_1) == (rd l1 x5_1))=true:=beq_iff_eq.mpr c7
     have c7b1 : ((rd l0 x5_1) != (rd l1 x5_1))=false:=bne_eq_false_iff_eq.mpr c7
     clear c7
     have H' := zm H
     clear H
     obtain ⟨ad344,e344,hx344_0,p344,q344⟩:=yai HR0 x5_1
     cases e344
     obtain ⟨ad345,e345,hx345_0,p345,q345⟩:=yai HR1 x5_1
     cases e345
     go_wp2
     repeat (go_quiet (fail);try go_wp2)
     go_roundg k1
     case measure=>exact yom1 HK1
     case rel=>exact ⟨(wrap64 (x5_1+1)),yq,H',⟨yom1 HK1⟩,yd⟩
    ·
     rw [if_neg c7] at H
     have c7b0 : ((rd l0 x5_1) == (rd l1 x5_1))=false:=beq_eq_false_iff_ne.mpr c7
     have c7b1 : ((rd l0 x5_1) != (rd l1 x5_1))=true:=bne_iff_ne.mpr c7
     obtain rfl:=Option.some.inj H
     obtain ⟨ad344,e344,hx344_0,p344,q344⟩:=yai HR0 x5_1
     cases e344
     obtain ⟨ad345,e345,hx345_0,p345,q345⟩:=yai HR1 x5_1
     cases e345
     go_wp2
     repeat (go_quiet (fail);try go_wp2)
     go_ret
     exact ⟨yq,yd⟩
   ·
    rw [if_neg c4] at H
    have c4b0 : decide (x5_1 < (l0.length : Int))=false:=decide_eq_false c4
    clear c4
    obtain rfl:=Option.some.inj H
    go_wp2
    repeat (go_quiet (fail);try go_wp2)
    go_ret
    exact ⟨yq,yd⟩
 ·
  rw [if_neg c3] at H
  have c3b0 : ((l0.length : Int) == (l1.length : Int))=false:=beq_eq_false_iff_ne.mpr c3
  have c3b1 : ((l0.length : Int) != (l1.length : Int))=true:=bne_iff_ne.mpr c3
  have c3b2 : (l0.length == l1.length)=false:=by first|simpa using c3|(simp at c3 ⊢; omega)
  obtain rfl:=Option.some.inj H
  go_enter Try.func35,Try.ntmps35
  go_wp2
  repeat (go_quiet (fail);try go_wp2)
  go_ret
  exact ⟨yq,yd⟩
def psalterylaw23_knows.f (k : Nat)  : Option (Bool):=(some (List.replicate 16 0 : List Int)).bind fun y346=>(if 0 < (y346.length : Int) then ((ccodec_Encode.f k 60 1 (([(y346.set (0 : Int).toNat 100)] : List (List Int))) true).bind fun bt353=>((ccodec_Decode.f k 60 1 bt353.1 bt353.2.1 bt353.2.2.1).bind fun bt362=>(if bt353.2.2.2=0 then (if bt353.1=true then (if (bt353.2.1.length : Int)=1 then (if 0 < (bt353.2.1.length : Int) then ((psalteryref06_Same.f k (rd_L2 bt353.2.1 0) (([14,0,0,0,0] : List Int))).bind fun t371=>(if t371=true then (if bt362.2=0 then (if (bt362.1.length : Int)=1 then (if 0 < (bt362.1.length : Int) then (if ((rd_L1 bt362.1 0).length : Int)=16 then (if 0 < ((rd_L1 bt362.1 0).length : Int) then (if (rd (rd_L1 bt362.1 0) 0)=90 then (if 1 < ((rd_L1 bt362.1 0).length : Int) then (if (rd (rd_L1 bt362.1 0) 1)=0 then ((ccodec_Right.f k 60 1 bt362.1).bind fun t377=>(some t377)) else (none)) else (none)) else (none)) else (none)) else (none)) else (none)) else (none)) else (none)) else (none))) else (none)) else (none)) else (none)) else (none)))) else (none))
theorem psalterylaw23_knows.mono : ∀ k,LeO (psalterylaw23_knows.f k ) (psalterylaw23_knows.f (k+1) ):=by
 intro  k
 unfold psalterylaw23_knows.f
 repeat' with_reducible first|apply ccodec_Decode.mono|apply ccodec_Encode.mono|apply ccodec_Right.mono|apply psalteryref06_Same.mono|apply yLr|apply yLn|apply yLi|apply yLb|intro _
set_option maxHeartbeats 8000000 in
set_option maxRecDepth 100000 in
theorem psalterylaw23_knows.calls (k : Nat)  (r : Bool) (w : World) (h : psalterylaw23_knows.f k  = some r) :
  Calls Try.prog 12 #[] w fun e w' => e=.returned (.bool r)∧Below w.heap.size w w' := by
 have hu24:=Try.underlying24;have hu31:=Try.underlying31;have HB:=zm (Below.refl w.heap.size w)
 have H : ((some (List.replicate 16 0 : List Int)).bind fun y346=>(if 0 < (y346.length : Int) then ((ccodec_Encode.f k 60 1 (([(y346.set (0 : Int).toNat 100)] : List (List Int))) true).bind fun bt353=>((ccodec_Decode.f k 60 1 bt353.1 bt353.2.1 bt353.2.2.1).bind fun bt362=>(if bt353.2.2.2=0 then (if bt353.1=true then (if (bt353.2.1.length : Int)=1 then (if 0 < (bt353.2.1.length : Int) then ((psalteryref06_Same.f k (rd_L2 bt353.2.1 0) (([14,0,0,0,0] : List Int))).bind fun t371=>(if t371=true then (if bt362.2=0 then (if (bt362.1.length : Int)=1 then (if 0 < (bt362.1.length : Int) then (if ((rd_L1 bt362.1 0).length : Int)=16 then (if 0 < ((rd_L1 bt362.1 0).length : Int) then (if (rd (rd_L1 bt362.1 0) 0)=90 then (if 1 < ((rd_L1 bt362.1 0).length : Int) then (if (rd (rd_L1 bt362.1 0) 1)=0 then ((ccodec_Right.f k 60 1 bt362.1).bind fun t377=>(some t377)) else (none)) else (none)) else (none)) else (none)) else (none)) else (none)) else (none)) else (none)) else (none))) else (none)) else (none)) else (none)) else (none)))) else (none)))=some r:=h
 clear h
 obtain ⟨y346,hy346⟩ : ∃ y_ : List Int,y_=(List.replicate 16 0):=⟨_,rfl⟩
 replace H : (if 0 < (y346.length : Int) then ((ccodec_Encode.f k 60 1 (([(y346.set (0 : Int).toNat 100)] : List (List Int))) true).bind fun bt353=>((ccodec_Decode.f k 60 1 bt353.1 bt353.2.1 bt353.2.2.1).bind fun bt362=>(if bt353.2.2.2=0 then (if bt353.1=true then (if (bt353.2.1.length : Int)=1 then (if 0 < (bt353.2.1.length : Int) then ((psalteryref06_Same.f k (rd_L2 bt353.2.1 0) (([14,0,0,0,0] : List Int))).bind fun t371=>(if t371=true then (if bt362.2=0 then (if (bt362.1.length : Int)=1 then (if 0 < (bt362.1.length : Int) then (if ((rd_L1 bt362.1 0).length : Int)=16 then (if 0 < ((rd_L1 bt362.1 0).length : Int) then (if (rd (rd_L1 bt362.1 0) 0)=90 then (if 1 < ((rd_L1 bt362.1 0).length : Int) then (if (rd (rd_L1 bt362.1 0) 1)=0 then ((ccodec_Right.f k 60 1 bt362.1).bind fun t377=>(some t377)) else (none)) else (none)) else (none)) else (none)) else (none)) else (none)) else (none)) else (none)) else (none))) else (none)) else (none)) else (none)) else (none)))) else (none))=some r:=yrw hy346 H
 have Ny346:=zm hy346;clear hy346
 replace H:=yif H;obtain ⟨c1,H⟩:=H
 have c1b0 : decide (0 < (y346.length : Int))=true:=decide_eq_true c1
 have c1b1 : decide (0 < y346.length)=true:=decide_eq_true (by omega)
 clear c1
 obtain ⟨y349,hy349⟩ : ∃ y_ : List Int,y_=(y346.set (0 : Int).toNat 100):=⟨_,rfl⟩
 replace H : ((ccodec_Encode.f k 60 1 (([y349] : List (List Int))) true).bind fun bt353=>((ccodec_Decode.f k 60 1 bt353.1 bt353.2.1 bt353.2.2.1).bind fun bt362=>(if bt353.2.2.2=0 then (if bt353.1=true then (if (bt353.2.1.length : Int)=1 then (if 0 < (bt353.2.1.length : Int) then ((psalteryref06_Same.f k (rd_L2 bt353.2.1 0) (([14,0,0,0,0] : List Int))).bind fun t371=>(if t371=true then (if bt362.2=0 then (if (bt362.1.length : Int)=1 then (if 0 < (bt362.1.length : Int) then (if ((rd_L1 bt362.1 0).length : Int)=16 then (if 0 < ((rd_L1 bt362.1 0).length : Int) then (if (rd (rd_L1 bt362.1 0) 0)=90 then (if 1 < ((rd_L1 bt362.1 0).length : Int) then (if (rd (rd_L1 bt362.1 0) 1)=0 then ((ccodec_Right.f k 60 1 bt362.1).bind fun t377=>(some t377)) else (none)) else (none)) else (none)) else (none)) else (none)) else (none)) else (none)) else (none)) else (none))) else (none)) else (none)) else (none)) else (none))))=some r:=yrw hy349 H
 have Ny349:=zm hy349;clear hy349
 obtain ⟨y350,hy350⟩ : ∃ y_ : List (List Int),y_=(([y349] : List (List Int))):=⟨_,rfl⟩
 replace H : ((ccodec_Encode.f k 60 1 y350 true).bind fun bt353=>((ccodec_Decode.f k 60 1 bt353.1 bt353.2.1 bt353.2.2.1).bind fun bt362=>(if bt353.2.2.2=0 then (if bt353.1=true then (if (bt353.2.1.length : Int)=1 then (if 0 < (bt353.2.1.length : Int) then ((psalteryref06_Same.f k (rd_L2 bt353.2.1 0) (([14,0,0,0,0] : List Int))).bind fun t371=>(if t371=true then (if bt362.2=0 then (if (bt362.1.length : Int)=1 then (if 0 < (bt362.1.length : Int) then (if ((rd_L1 bt362.1 0).length : Int)=16 then (if 0 < ((rd_L1 bt362.1 0).length : Int) then (if (rd (rd_L1 bt362.1 0) 0)=90 then (if 1 < ((rd_L1 bt362.1 0).length : Int) then (if (rd (rd_L1 bt362.1 0) 1)=0 then ((ccodec_Right.f k 60 1 bt362.1).bind fun t377=>(some t377)) else (none)) else (none)) else (none)) else (none)) else (none)) else (none)) else (none)) else (none)) else (none))) else (none)) else (none)) else (none)) else (none))))=some r:=yrw hy350 H
 have Ny350:=zm hy350;clear hy350
 replace H:=ybi H;obtain ⟨⟨t353,t354,t357,t360⟩,A3,H⟩:=H
 try dsimp only at H
 replace H:=ybi H;obtain ⟨⟨t362,t365⟩,A4,H⟩:=H
 try dsimp only at H
 replace H:=yif H;obtain ⟨c5,H⟩:=H
 have c5b0 : (t360 == 0)=true:=beq_iff_eq.mpr c5
 have c5b1 : (t360 != 0)=false:=bne_eq_false_iff_eq.mpr c5
 clear c5
 replace H:=yif H;obtain ⟨c6,H⟩:=H
 subst c6
 replace H:=yif H;obtain ⟨c7,H⟩:=H
 have c7b0 : ((t354.length : Int) == 1)=true:=beq_iff_eq.mpr c7
 have c7b1 : ((t354.length : Int) != 1)=false:=bne_eq_false_iff_eq.mpr c7
 clear c7
 replace H:=yif H;obtain ⟨c8,H⟩:=H
 have c8b0 : decide (0 < (t354.length : Int))=true:=decide_eq_true c8
 have c8b1 : decide (0 < t354.length)=true:=decide_eq_true (by omega)
 clear c8
 obtain ⟨y368,hy368⟩ : ∃ y_ : List Int,y_=(([14,0,0,0,0] : List Int)):=⟨_,rfl⟩
 replace H : ((psalteryref06_Same.f k (rd_L2 t354 0) y368).bind fun t371=>(if t371=true then (if t365=0 then (if (t362.length : Int)=1 then (if 0 < (t362.length : Int) then (if ((rd_L1 t362 0).length : Int)=16 then (if 0 < ((rd_L1 t362 0).length : Int) then (if (rd (rd_L1 t362 0) 0)=90 then (if 1 < ((rd_L1 t362 0).length : Int) then (if (rd (rd_L1 t362 0) 1)=0 then ((ccodec_Right.f k 60 1 t362).bind fun t377=>(some t377)) else (none)) else (none)) else (none)) else (none)) else (none)) else (none)) else (none)) else (none)) else (none)))=some r:=yrw hy368 H
 have Ny368:=zm hy368;clear hy368
 replace H:=ybi H;obtain ⟨t371,A9,H⟩:=H
 replace H:=yif H;obtain ⟨c10,H⟩:=H
 subst c10
 replace H:=yif H;obtain ⟨c11,H⟩:=H
 have c11b0 : (t365 == 0)=true:=beq_iff_eq.mpr c11
 have c11b1 : (t365 != 0)=false:=bne_eq_false_iff_eq.mpr c11
 clear c11
 replace H:=yif H;obtain ⟨c12,H⟩:=H
 have c12b0 : ((t362.length : Int) == 1)=true:=beq_iff_eq.mpr c12
 have c12b1 : ((t362.length : Int) != 1)=false:=bne_eq_false_iff_eq.mpr c12
 clear c12
 replace H:=yif H;obtain ⟨c13,H⟩:=H
 have c13b0 : decide (0 < (t362.length : Int))=true:=decide_eq_true c13
 have c13b1 : decide (0 < t362.length)=true:=decide_eq_true (by omega)
 clear c13
 replace H:=yif H;obtain ⟨c14,H⟩:=H
 have c14b0 : (((rd_L1 t362 0).length : Int) == 16)=true:=beq_iff_eq.mpr c14
 have c14b1 : (((rd_L1 t362 0).length : Int) != 16)=false:=bne_eq_false_iff_eq.mpr c14
 clear c14
 replace H:=yif H;obtain ⟨c15,H⟩:=H
 have c15b0 : decide (0 < ((rd_L1 t362 0).length : Int))=true:=decide_eq_true c15
 have c15b1 : decide (0 < (rd_L1 t362 0).length)=true:=decide_eq_true (by omega)
 clear c15
 replace H:=yif H;obtain ⟨c16,H⟩:=H
 have c16b0 : ((rd (rd_L1 t362 0) 0) == 90)=true:=beq_iff_eq.mpr c16
 have c16b1 : ((rd (rd_L1 t362 0) 0) != 90)=false:=bne_eq_false_iff_eq.mpr c16
 clear c16
 replace H:=yif H;obtain ⟨c17,H⟩:=H
 have c17b0 : decide (1 < ((rd_L1 t362 0).length : Int))=true:=decide_eq_true c17
 have c17b1 : decide (1 < (rd_L1 t362 0).length)=true:=decide_eq_true (by omega)
 clear c17
 replace H:=yif H;obtain ⟨c18,H⟩:=H
 have c18b0 : ((rd (rd_L1 t362 0) 1) == 0)=true:=beq_iff_eq.mpr c18
 have c18b1 : ((rd (rd_L1 t362 0) 1) != 0)=false:=bne_eq_false_iff_eq.mpr c18
 clear c18
 replace H:=ybi H;obtain ⟨t377,A19,H⟩:=H
 obtain rfl:=Option.some.inj H
 go_enter Try.func12,Try.ntmps12
 go_wp2_with (first|((with_reducible refine gate_dst (N:=6) rfl ?_);(try (refine gate_guard (by rfl) ?_;dsimp only));refine Kd.R_make (Kd.int .i64) _ 2 rfl (N:=6) rfl 53 _ _ rfl 16 rfl rfl Try.underlying53 (.int .i64 0) 8 info2 rfl (by decide) (by omega) 0 (ok:=fun _=>True) (okp:=fun _=>True) rfl (fun _ hk=>hk) trivial (by omega) (by omega) (Below.refl _ _) (Nat.le_refl _) ?_;intro v347 w20 ho21 hb hg_ hnew_;clear hg_ hnew_;(first|rw [← Ny346.out] at ho21|(simp only [Int.reduceToNat] at ho21;rw [← Ny346.out] at ho21));have HO348:=zm (Kd.R_lower ho21 (zE yhb));replace HB:=ybs hb;clear hb ho21;have p2 : 0≤(0 : Int):=(by omega);have q2 : (0 : Int) < ((y346.length : Int) : Int):=yt;have qi2 : (0 < y346.length)=True:=eq_true (by omega);obtain ⟨go2,co2,eo2,gb2,gl2,cl2,HG2⟩:=Kd.R_form HO348.out (by omega);(first|cases eo2|(injection eo2 with ea_ en_ ec_;(first|subst ea_|(injection ea_ with ea_;subst ea_));subst ec_;clear en_));have GB2:=zm gb2;have GG2:=zm HG2;clear gb2 gl2 HG2;obtain ⟨hx2_0,hf2_0⟩:=Kd.R_celln 0 HO348.out (0 : Int) p2 q2;(try rw [show ((0 : Int)).toNat=0 from rfl] at hx2_0);(try simp only [Nat.reduceMul,Nat.zero_mul,Nat.zero_add,Nat.reduceAdd] at hx2_0);(try rw [show ((0 : Int)).toNat=0 from rfl] at hf2_0);(try simp only [Nat.reduceMul,Nat.zero_mul,Nat.zero_add,Nat.reduceAdd] at hf2_0);replace p2:=eq_true p2;replace q2:=eq_true q2;obtain ⟨hy22_,hz22_⟩:=Kd.R_celln 0 HO348.out (0 : Int) (by omega) (yt);(try simp only [Int.reduceToNat,Int.toNat_zero,Int.toNat_ofNat,Nat.reduceMul,Nat.zero_mul,Nat.zero_add] at hy22_ hz22_);(try rw [show ((0 : Int)).toNat=0 from rfl] at hy22_);(try rw [show ((0 : Int)).toNat=0 from rfl] at hz22_);have HP22:=Kd.R_putg HO348.out (0 : Int) 100)|((with_reducible refine gate_store (t:=2) (p:=8) rfl ?_);refine store_event (t:=2) (p:=8) (v := ?vo_w23) (w1:=(w20.setCell ⟨go2,(0 : Int).toNat,none⟩ (.int .i64 100))) ?hg ?ho ?hn ?hr ?_;(case ho=>rfl);(case hg=>rfl);(case hn=>rfl);(case hr=>first|(go_simp;done)|(go_simp;rfl));intro w23 hw;have hg : w20.grownBy w23 (some go2):=(by rw [hw];exact HP22.2);have hp_ : Kd.R (Kd.int .i64) 2 w23 w.heap.size (fun _=>True) (.slice (some ⟨go2,0,none⟩) y346.length co2) y349:=(by rw [hw,Ny349.out];exact HP22.1);clear HP22;replace HO348:=zm (hp_);replace HB:=zm ((by rw [hw];exact zk (HB.out) GB2.out : Below w.heap.size w w23));clear hg hw hp_)|((with_reducible refine gate_dst (N:=11) rfl ?_);(try (refine gate_guard (by rfl) ?_;dsimp only));refine Kd.N_lit (Kd.slice 2 (Kd.int .i64)) _ 53 ?hg (N' := 11) ?hd (xs:=([y349] : List (List Int))) (inner := [.slice (some ⟨go2,0,none⟩) y346.length co2]) (ok:=(fun _=>True)) (okp:=(fun _=>True)) ?hr ?hpx (fun _ hk=>hk) ((show ∀ k_,w23.heap.size≤k_→(fun _=>True) k_ from fun k_ hk=>trivial) _ (Nat.le_refl _)) (Below.refl _ _) (Nat.le_refl _) (by simp) ?_;(case hd=>rfl);(case hg=>rfl);(case hr=>first|(go_simp;done)|(go_simp;rfl));(case hpx=>exact (Reps.one (show Kd.FK (Kd.slice 2 (Kd.int .i64)) _ _ y349 [.slice (some ⟨go2,0,none⟩) y346.length co2] from (by have e_:=(Kd.R_reads' HO348.out).1;have l_:=(Kd.R_reads' HO348.out).2.1;have f_:=Kd.R_F (zG (ok' := (fun _=>True)) HO348.out (fun k_ hk=>trivial));rw [e_] at l_ f_ ⊢; exact Kd.FK_slice_mk l_ f_)) (Reps.none _ _)));intro v351 w24 ho25 hb hg_ hnew_;clear hg_ hnew_;(first|rw [← Ny350.out] at ho25|(simp only [Int.reduceToNat] at ho25;rw [← Ny350.out] at ho25));have HO352:=zm (Kd.N_lower ho25 (zE yhb));replace HB:=ybs hb;clear HO348;clear hb ho25;obtain ⟨Ao26,co26,eo26⟩:=Kd.N_slice HO352.out;subst eo26)|((with_reducible refine gate_callee (f:=13) rfl ?_);refine ygl 13 Try.func13 #[.int .i64 60, .int .i64 1, .agg #[.slice Ao26 y350.length co26], .bool true] ?_;(with_reducible refine (ccodec_Encode.calls k 60 1 _ _ y350 true true t354 t357 t360 _ ?side1 ?side2 A3.out).mono ?_);(case side1=>exact yce (Kd.N_reads' HO352.out).2.2);(case side2=>exact (Kd.N_reads' HO352.out).2.1);rintro e w27 ⟨v355,v358,rfl,ho0,ho1,hb⟩;refine ⟨_,rfl, ?_⟩;have HO356:=zm (Kd.N_lower (Kd.N_mono (ok' := fun k_=>some k_≠(v358 : Value).ownBlock∧some k_≠(.slice Ao26 y350.length co26 : Value).ownBlock) ho0 (fun k_ hk_=>⟨hk_.2,(Kd.fresh' (Kd.N_lt (yr HO352)) k_ hk_.1)⟩)) (zE yhb));have HO359:=zm (Kd.N_lower (Kd.N_mono (ok' := fun k_=>some k_≠(v355 : Value).ownBlock∧some k_≠(.slice Ao26 y350.length co26 : Value).ownBlock) ho1 (fun k_ hk_=>⟨hk_.2,(Kd.fresh' (Kd.N_lt (yr HO352)) k_ hk_.1)⟩)) (zE yhb));replace HO352:=zm (Kd.N_mono (Kd.N_told (Kd.N_told (Kd.N_old (yr HO352) hb) (Kd.N_base ho0)) (Kd.N_base ho1)) (fun _ h_=>h_.1));replace HB:=ybs hb;(try clear hb);(try clear ho0);(try clear ho1))|((with_reducible refine gate_dst (N:=2) rfl ?_);(try (refine gate_guard (by rfl) ?_;dsimp only));refine ybx 2 #[.bool false, .slice none 0 0, .slice none 0 0] 31 ?_;intro gb361 hg w28 hbox hb;replace HO352:=zm (Kd.N_below (Kd.N_elderB (yr HO352) gb361 (Nat.le_of_eq hg.symm)) hb);replace HO356:=zm (Kd.N_below (Kd.N_elderB (yr HO356) gb361 (Nat.le_of_eq hg.symm)) hb);replace HO359:=zm (Kd.N_below (Kd.N_elderB (yr HO359) gb361 (Nat.le_of_eq hg.symm)) hb);have BK361:=zm (hbox);have GW361:=ygw hg;have GE361:=ygw hg;replace HB:=ybs hb;clear hb hbox hg;obtain ⟨_,_,_,_,_,_⟩:=yc3 BK361;obtain ⟨Ao30,co30,eo30⟩:=Kd.N_slice HO356.out;subst eo30;obtain ⟨Ao31,co31,eo31⟩:=Kd.N_slice HO359.out;subst eo31)|((with_reducible refine gate_callee (f:=23) rfl ?_);refine ygl 18 Try.func23 #[.int .i64 60, .int .i64 1, .agg #[.bool true, .slice Ao30 t354.length co30, .slice Ao31 t357.length co31]] ?_;(with_reducible refine (ccodec_Decode.calls k 60 1 true _ _ t354 _ _ t357 t362 t365 _ ?side1 ?side2 ?side3 ?side4 A4.out).mono ?_);(case side1=>refine (Kd.N_reads' (e:=55) (base:=w.heap.size) (ok:=fun k_=>((some k_≠(.slice Ao31 t357.length co31 : Value).ownBlock∧some k_≠(.slice Ao26 y350.length co26 : Value).ownBlock)∧k_≠gb361)) (n:=t354.length) (c:=co30) ?_).2.2;exact (yN0 HO356));(case side2=>exact (Kd.N_reads' HO356.out).2.1);(case side3=>refine (Kd.N_reads' (e:=25) (base:=w.heap.size) (ok:=fun k_=>((some k_≠(.slice Ao30 t354.length co30 : Value).ownBlock∧some k_≠(.slice Ao26 y350.length co26 : Value).ownBlock)∧k_≠gb361)) (n:=t357.length) (c:=co31) ?_).2.2;exact (yN0 HO359));(case side4=>exact (Kd.N_reads' HO359.out).2.1);rintro e w32 ⟨v363,rfl,ho0,hb⟩;refine ⟨_,rfl, ?_⟩;have HO364:=zm (Kd.N_lower (Kd.N_mono (ok' := fun k_=>some k_≠(.slice Ao26 y350.length co26 : Value).ownBlock∧some k_≠(.slice Ao30 t354.length co30 : Value).ownBlock∧some k_≠(.slice Ao31 t357.length co31 : Value).ownBlock∧k_≠gb361) (Kd.S_N (Kd.S_bound ho0)) (fun k_ hk_=>⟨(Kd.fresh' (Kd.N_lt (yN0 HO352)) k_ hk_.2.1),(Kd.fresh' (Kd.N_lt (yN0 HO356)) k_ hk_.2.1),(Kd.fresh' (Kd.N_lt (yN0 HO359)) k_ hk_.2.1),(Kd.freshB (g:=gb361) (o:=.cells #[.bool true, .slice Ao30 t354.length co30, .slice Ao31 t357.length co31] 31 (0,0)) (ykp BK361) k_ hk_.2.1)⟩)) (zE yhb));replace HO352:=zm (Kd.N_elder' (yN0 HO352) (Kd.S_base ho0) hb);replace HO356:=zm (Kd.N_elder' (yN0 HO356) (Kd.S_base ho0) hb);replace HO359:=zm (Kd.N_elder' (yN0 HO359) (Kd.S_base ho0) hb);replace BK361:=zm (zF (g:=gb361) (o:=.cells #[.bool true, .slice Ao30 t354.length co30, .slice Ao31 t357.length co31] 31 (0,0)) (ykp BK361) hb);replace HB:=ybs hb;(try clear hb);(try clear ho0))|((with_reducible refine gate_dst (N:=4) rfl ?_);(try (refine gate_guard (by rfl) ?_;dsimp only));refine ybx 4 #[.slice none 0 0] 24 ?_;intro gb366 hg w33 hbox hb;replace HO352:=zm (Kd.N_below (Kd.N_elderB (yr HO352) gb366 (Nat.le_of_eq hg.symm)) hb);replace HO356:=zm (Kd.N_below (Kd.N_elderB (yr HO356) gb366 (Nat.le_of_eq hg.symm)) hb);replace HO359:=zm (Kd.N_below (Kd.N_elderB (yr HO359) gb366 (Nat.le_of_eq hg.symm)) hb);replace HO364:=zm (Kd.N_below (Kd.N_elderB (yr HO364) gb366 (Nat.le_of_eq hg.symm)) hb);have BK366:=zm (hbox);have GW366:=ygw hg;have GE366:=ygw hg;replace HB:=ybs hb;have NB361_366:=ynl BK361 hg;have NB366_361:=yng BK361 hg;replace BK361:=ybb BK361 hb;clear hb hbox hg;obtain ⟨Ao34,co34,eo34⟩:=Kd.N_slice HO364.out;subst eo34;have:=NB366_361.out;have:=NB361_366.out;obtain ⟨_,_⟩:=yc1 BK366)|((with_reducible refine gate_store (t:=24) (p:=4) rfl ?_);refine store_event (t:=24) (p:=4) (v := ?vo_w37) (w1:=(w33.setCell ⟨gb366,0,none⟩ (.slice Ao34 t362.length co34))) ?hg ?ho ?hn ?hr ?_;(case ho=>rfl);(case hg=>rfl);(case hn=>rfl);(case hr=>first|(go_simp;done)|(go_simp;rfl));intro w37 hw;replace HO352 : Aside0 (Kd.N (Kd.slice 2 (Kd.int .i64)) 53 w37 w.heap.size (fun k_=>some k_≠(.slice Ao30 t354.length co30 : Value).ownBlock∧some k_≠(.slice Ao31 t357.length co31 : Value).ownBlock∧some k_≠(.slice Ao34 t362.length co34 : Value).ownBlock∧k_≠gb361∧k_≠gb366) (.slice Ao26 y350.length co26) y350):=⟨(by rw [hw];exact (yN0 HO352))⟩;replace HO356 : Aside0 (Kd.N (Kd.slice 3 (Kd.int .i64)) 55 w37 w.heap.size (fun k_=>some k_≠(.slice Ao26 y350.length co26 : Value).ownBlock∧some k_≠(.slice Ao31 t357.length co31 : Value).ownBlock∧some k_≠(.slice Ao34 t362.length co34 : Value).ownBlock∧k_≠gb361∧k_≠gb366) (.slice Ao30 t354.length co30) t354):=⟨(by rw [hw];exact (yN0 HO356))⟩;replace HO359 : Aside0 (Kd.N (Kd.slice 55 (Kd.slice 3 (Kd.int .i64))) 25 w37 w.heap.size (fun k_=>some k_≠(.slice Ao26 y350.length co26 : Value).ownBlock∧some k_≠(.slice Ao30 t354.length co30 : Value).ownBlock∧some k_≠(.slice Ao34 t362.length co34 : Value).ownBlock∧k_≠gb361∧k_≠gb366) (.slice Ao31 t357.length co31) t357):=⟨(by rw [hw];exact (yN0 HO359))⟩;replace HO364 : Aside0 (Kd.N (Kd.slice 2 (Kd.int .i64)) 53 w37 w.heap.size (fun k_=>some k_≠(.slice Ao26 y350.length co26 : Value).ownBlock∧some k_≠(.slice Ao30 t354.length co30 : Value).ownBlock∧some k_≠(.slice Ao31 t357.length co31 : Value).ownBlock∧k_≠gb361∧k_≠gb366) (.slice Ao34 t362.length co34) t362):=⟨(by rw [hw];exact (yN0 HO364))⟩;replace BK361 : Aside0 (w37.heap[gb361]? = some (.cells #[.bool true, .slice Ao30 t354.length co30, .slice Ao31 t357.length co31] 31 (0,0))):=⟨(by rw [hw];exact (yk BK361))⟩;replace BK366 : Aside0 (w37.heap[gb366]? = some (.cells #[.slice Ao34 t362.length co34] 24 (0,0))):=⟨(by rw [hw];exact (ykp BK366))⟩;replace HB : Aside0 (Below w.heap.size w w37):=⟨(by rw [hw];exact yhb)⟩;clear hw;obtain ⟨_,_,_,_,_,_⟩:=yc3 BK361;have p367 : 0≤(0 : Int):=(by omega);have q367 : 0 < (t354.length : Int):=yt;obtain ⟨ad367,A367_0,c367_0,e367,hx367_0,hl367_0,hi367_0⟩:=at_L2 (Kd.N_reads' HO356.out).2.2 0 p367 q367;cases e367;obtain ⟨ce367,hce367,hMe367,hcc367⟩:=Kd.N_get HO356.out [] 0 p367 (by first|exact q367|exact yt|(have e_:=(Kd.N_reads' HO356.out).1;omega));obtain ⟨ua367_0,uc367_0,rfl,ul367_0,ge367_0⟩:=Kd.FK_slice_open hMe367;have hv367_0:=hcc367 0 _ rfl;rw [Nat.add_zero,show ((Kd.slice 3 (Kd.int .i64))).sz=1 from rfl,Nat.mul_one] at hv367_0;replace hv367_0:=Option.some.inj (hv367_0.symm.trans hx367_0);injection hv367_0 with hva_ hvn_ hvc_;rw [hva_] at ge367_0;rw [hvc_] at ul367_0;have HL367_0:=zm (show Kd.V (Kd.int .i64) 3 _ w.heap.size _ _ (rd_L2 t354 0) from Kd.V_mk ul367_0 ge367_0);clear hva_ hvn_ hvc_ ge367_0 ul367_0;clear hcc367 hce367;have qi367 : (0 < t354.length)=True:=eq_true (by omega);(try rw [show ((0 : Int)).toNat=0 from rfl] at hx367_0);(try rw [Addr.add_zero'] at hx367_0);have HR367_0:=zm hi367_0;have HC367_0:=zm hl367_0;clear hi367_0 hl367_0;replace p367:=eq_true p367;replace q367:=eq_true q367)|((with_reducible refine gate_dst (N:=38) rfl ?_);(try (refine gate_guard (by rfl) ?_;dsimp only));refine Kd.R_lit (Kd.int .i64) _ 3 ?hg (N:=38) ?hd (xs:=([14,0,0,0,0] : List Int)) (inner := [.int .i64 14, .int .i64 0, .int .i64 0, .int .i64 0, .int .i64 0]) (ok:=fun _=>True) (okp:=fun _=>True) ?hr ?hpx (fun _ hk=>hk) trivial (Below.refl _ _) (Nat.le_refl _) (by simp) ?_;(case hd=>rfl);(case hg=>rfl);(case hr=>first|(go_simp;done)|(go_simp;rfl));(case hpx=>exact (Reps.one (show Kd.M (Kd.int .i64) _ _ _ 14 [.int .i64 14] from rfl) (Reps.one (show Kd.M (Kd.int .i64) _ _ _ 0 [.int .i64 0] from rfl) (Reps.one (show Kd.M (Kd.int .i64) _ _ _ 0 [.int .i64 0] from rfl) (Reps.one (show Kd.M (Kd.int .i64) _ _ _ 0 [.int .i64 0] from rfl) (Reps.one (show Kd.M (Kd.int .i64) _ _ _ 0 [.int .i64 0] from rfl) (Reps.none _ _)))))));intro v369 w39 ho40 hb hg_ hnew_;clear hg_ hnew_;(first|rw [← Ny368.out] at ho40|(simp only [Int.reduceToNat] at ho40;rw [← Ny368.out] at ho40));replace HO352:=zm (Kd.N_elder' (yr HO352) (Kd.R_base ho40) hb);replace HO356:=zm (Kd.N_elder' (yr HO356) (Kd.R_base ho40) hb);replace HO359:=zm (Kd.N_elder' (yr HO359) (Kd.R_base ho40) hb);replace HO364:=zm (Kd.N_elder' (yr HO364) (Kd.R_base ho40) hb);replace HL367_0:=zm (Kd.V_elder' (yr HL367_0) (Kd.R_base ho40) hb);have HO370:=zm (Kd.R_lower ho40 (zE yhb));replace BK361:=ybb BK361 hb;replace BK366:=ybb BK366 hb;replace HR367_0:=yCb HR367_0 hb;replace HB:=ybs hb;clear hb ho40;obtain ⟨Ao41,co41,eo41⟩:=Kd.R_slice HO370.out;subst eo41)|(go_at_call 35;(with_reducible refine (psalteryref06_Same.calls k _ _ (rd_L2 t354 0) _ _ y368 true _ ?side1 HC367_0.out ?side3 ?side4 A9.out).mono ?_);(case side1=>exact yce (yrc HR367_0));(case side3=>exact yce (Kd.R_reads' HO370.out).2.2);(case side4=>exact (Kd.R_reads' HO370.out).2.1);rintro e w' ⟨rfl,⟨nd,rfl⟩⟩;obtain ⟨_,_⟩:=yc1 BK366;have p372 : 0≤(0 : Int):=(by omega);have q372 : 0 < (t362.length : Int):=yt;obtain ⟨ad372,A372_0,c372_0,e372,hx372_0,hl372_0,hi372_0⟩:=at_L1 (Kd.N_reads' HO364.out).2.2 0 p372 q372;cases e372;obtain ⟨ce372,hce372,hMe372,hcc372⟩:=Kd.N_get HO364.out [] 0 p372 (by first|exact q372|exact yt|(have e_:=(Kd.N_reads' HO364.out).1;omega));obtain ⟨ua372_0,uc372_0,rfl,ul372_0,ge372_0⟩:=Kd.FK_slice_open hMe372;have hv372_0:=hcc372 0 _ rfl;rw [Nat.add_zero,show ((Kd.slice 2 (Kd.int .i64))).sz=1 from rfl,Nat.mul_one] at hv372_0;replace hv372_0:=Option.some.inj (hv372_0.symm.trans hx372_0);injection hv372_0 with hva_ hvn_ hvc_;rw [hva_] at ge372_0;rw [hvc_] at ul372_0;have HL372_0:=zm (show Kd.V (Kd.int .i64) 2 _ w.heap.size _ _ (rd_L1 t362 0) from Kd.V_mk ul372_0 ge372_0);clear hva_ hvn_ hvc_ ge372_0 ul372_0;clear hcc372 hce372;have qi372 : (0 < t362.length)=True:=eq_true (by omega);(try rw [show ((0 : Int)).toNat=0 from rfl] at hx372_0);(try rw [Addr.add_zero'] at hx372_0);have HR372_0:=zm hi372_0;have HC372_0:=zm hl372_0;clear hi372_0 hl372_0;replace p372:=eq_true p372;replace q372:=eq_true q372;have p373 : 0≤(0 : Int):=(by omega);have q373 : 0 < (t362.length : Int):=yt;obtain ⟨ad373,A373_0,c373_0,e373,hx373_0,hl373_0,hi373_0⟩:=at_L1 (Kd.N_reads' HO364.out).2.2 0 p373 q373;obtain rfl : ad372=ad373:=(by injection e373);obtain ⟨ce373,hce373,hMe373,hcc373⟩:=Kd.N_get HO364.out [] 0 p373 (by first|exact q373|exact yt|(have e_:=(Kd.N_reads' HO364.out).1;omega));obtain ⟨ua373_0,uc373_0,rfl,ul373_0,ge373_0⟩:=Kd.FK_slice_open hMe373;have hv373_0:=hcc373 0 _ rfl;rw [Nat.add_zero,show ((Kd.slice 2 (Kd.int .i64))).sz=1 from rfl,Nat.mul_one] at hv373_0;replace hv373_0:=Option.some.inj (hv373_0.symm.trans hx373_0);injection hv373_0 with hva_ hvn_ hvc_;rw [hva_] at ge373_0;rw [hvc_] at ul373_0;have HL373_0:=zm (show Kd.V (Kd.int .i64) 2 _ w.heap.size _ _ (rd_L1 t362 0) from Kd.V_mk ul373_0 ge373_0);clear hva_ hvn_ hvc_ ge373_0 ul373_0;clear hcc373 hce373;have qi373 : (0 < t362.length)=True:=eq_true (by omega);(try rw [show ((0 : Int)).toNat=0 from rfl] at hx373_0);(try rw [Addr.add_zero'] at hx373_0);have HR373_0:=zm hi373_0;have HC373_0:=zm hl373_0;clear hi373_0 hl373_0;replace p373:=eq_true p373;replace q373:=eq_true q373;have ea_:=Option.some.inj (hx372_0.symm.trans hx373_0);injection ea_ with ea_ en_ ec_;subst ea_;subst ec_;clear en_;have p374 : 0≤(0 : Int):=(by omega);have q374 : 0 < ((rd_L1 t362 0).length : Int):=yt;obtain ⟨ad374,e374,hx374_0⟩:=Kd.at_int (yrc HR373_0) 0 p374 q374;cases e374;have qi374 : (0 < (rd_L1 t362 0).length)=True:=eq_true (by omega);(try rw [show ((0 : Int)).toNat=0 from rfl] at hx374_0);(try rw [Addr.add_zero'] at hx374_0);replace p374:=eq_true p374;replace q374:=eq_true q374;have p375 : 0≤(0 : Int):=(by omega);have q375 : 0 < (t362.length : Int):=yt;obtain ⟨ad375,A375_0,c375_0,e375,hx375_0,hl375_0,hi375_0⟩:=at_L1 (Kd.N_reads' HO364.out).2.2 0 p375 q375;obtain rfl : ad372=ad375:=(by injection e375);obtain ⟨ce375,hce375,hMe375,hcc375⟩:=Kd.N_get HO364.out [] 0 p375 (by first|exact q375|exact yt|(have e_:=(Kd.N_reads' HO364.out).1;omega));obtain ⟨ua375_0,uc375_0,rfl,ul375_0,ge375_0⟩:=Kd.FK_slice_open hMe375;have hv375_0:=hcc375 0 _ rfl;rw [Nat.add_zero,show ((Kd.slice 2 (Kd.int .i64))).sz=1 from rfl,Nat.mul_one] at hv375_0;replace hv375_0:=Option.some.inj (hv375_0.symm.trans hx375_0);injection hv375_0 with hva_ hvn_ hvc_;rw [hva_] at ge375_0;rw [hvc_] at ul375_0;have HL375_0:=zm (show Kd.V (Kd.int .i64) 2 _ w.heap.size _ _ (rd_L1 t362 0) from Kd.V_mk ul375_0 ge375_0);clear hva_ hvn_ hvc_ ge375_0 ul375_0;clear hcc375 hce375;have qi375 : (0 < t362.length)=True:=eq_true (by omega);(try rw [show ((0 : Int)).toNat=0 from rfl] at hx375_0);(try rw [Addr.add_zero'] at hx375_0);have HR375_0:=zm hi375_0;have HC375_0:=zm hl375_0;clear hi375_0 hl375_0;replace p375:=eq_true p375;replace q375:=eq_true q375;have ea_:=Option.some.inj (hx372_0.symm.trans hx375_0);injection ea_ with ea_ en_ ec_;subst ea_;subst ec_;clear en_;have p376 : 0≤(1 : Int):=(by omega);have q376 : 1 < ((rd_L1 t362 0).length : Int):=yt;obtain ⟨ad376,e376,hx376_0⟩:=Kd.at_int (yrc HR375_0) 1 p376 q376;cases e376;(try simp only [show (1 : Int).toNat=1 from rfl,Nat.reduceMul,Nat.reduceEqDiff,Go.Addr.add, ↓reduceIte] at hx376_0);have qi376 : (1 < (rd_L1 t362 0).length)=True:=eq_true (by omega);(try rw [show ((1 : Int)).toNat=1 from rfl] at hx376_0);replace p376:=eq_true p376;replace q376:=eq_true q376)|(go_at_call 20;(with_reducible refine (ccodec_Right.calls k 60 1 _ _ t362 t377 _ ?side1 ?side2 A19.out).mono ?_);(case side1=>exact yce (Kd.N_reads' HO364.out).2.2);(case side2=>exact (Kd.N_reads' HO364.out).2.1);rintro e w43 ⟨rfl,hb⟩;replace HO352:=yNb HO352 hb;replace HO356:=yNb HO356 hb;replace HO359:=yNb HO359 hb;replace HO364:=yNb HO364 hb;replace HL367_0:=yVb HL367_0 hb;replace HO370:=yRb HO370 hb;replace HL372_0:=yVb HL372_0 hb;replace HL373_0:=yVb HL373_0 hb;replace HL375_0:=yVb HL375_0 hb;replace BK361:=ybb BK361 hb;replace BK366:=ybb BK366 hb;replace HR367_0:=yCb HR367_0 hb;replace HR372_0:=yCb HR372_0 hb;replace HR373_0:=yCb HR373_0 hb;replace HR375_0:=yCb HR375_0 hb;replace HB:=ybs hb;(try clear hb)))
 go_ret
 exact ⟨ye,yhb⟩
def psalteryref03_Sqrt.l0 : Nat→Int→Int→Int→Option (Int)
 | 0,_,_,_=>none
 | k+1,x0,x3,x4=>if (IntKind.u64.wrap (x4 - x3)) > 1 then (if (IntKind.u64.wrap ((IntKind.u64.wrap (Int.tdiv (IntKind.u64.wrap (x3+x4)) 2)) * (IntKind.u64.wrap (Int.tdiv (IntKind.u64.wrap (x3+x4)) 2))))≤x0 then (psalteryref03_Sqrt.l0 k x0 (IntKind.u64.wrap (Int.tdiv (IntKind.u64.wrap (x3+x4)) 2)) x4) else (psalteryref03_Sqrt.l0 k x0 x3 (IntKind.u64.wrap (Int.tdiv (IntKind.u64.wrap (x3+x4)) 2)))) else (some x3)
def psalteryref03_Sqrt.f (k : Nat) (a0 : Int) : Option (Int):=psalteryref03_Sqrt.l0 k a0 0 4294967296
theorem psalteryref03_Sqrt.mono_l : ∀ k,(∀ y0 y1 y2,LeO (psalteryref03_Sqrt.l0 k y0 y1 y2) (psalteryref03_Sqrt.l0 (k+1) y0 y1 y2))
 | 0=>fun _ _ _ r h=>by simp [psalteryref03_Sqrt.l0] at h
 | k+1=>by
  have ih0:=psalteryref03_Sqrt.mono_l k
  ·
   intro y0 y1 y2
   unfold psalteryref03_Sqrt.l0
   repeat' with_reducible first|apply ih0|apply yLr|apply yLn|apply yLi|apply yLb|intro _
theorem psalteryref03_Sqrt.mono : ∀ a0 k,LeO (psalteryref03_Sqrt.f k a0) (psalteryref03_Sqrt.f (k+1) a0):=by
 intro a0 k
 have ih0:=psalteryref03_Sqrt.mono_l k
 unfold psalteryref03_Sqrt.f
 repeat' with_reducible first|apply ih0|apply yLr|apply yLn|apply yLi|apply yLb|intro _
set_option maxHeartbeats 8000000 in
set_option maxRecDepth 100000 in
theorem psalteryref03_Sqrt.calls (k : Nat) (a0 : Int) (r : Int) (w : World) (h : psalteryref03_Sqrt.f k a0=some r) :
  Calls Try.prog 31 #[.int .u64 a0] w fun e w' => e=.returned (.int .u64 r)∧Drawn0 w w' := by
 have H : (psalteryref03_Sqrt.l0 k a0 0 4294967296)=some r:=h
 clear h
 have H' := zm H
 clear H
 go_enter Try.func31,Try.ntmps31
 go_wp2
 go_loopg [3,4] k (fun kq v3 v4 w' => ∃ (x3_1 : Int) (x4_1 : Int),v3=.int .u64 x3_1∧v4=.int .u64 x4_1∧Aside0 (psalteryref03_Sqrt.l0 kq a0 x3_1 x4_1=some r)∧Aside0 (kq≤k)∧Drawn0 w w')
 case atStart=>exact ⟨(0),(4294967296),yq,yq,H',⟨Nat.le_refl _⟩,yd⟩
 case round =>
  clear H'
  obtain ⟨x3_1,x4_1,rfl,rfl,HA,HK1,⟨m1,rfl⟩⟩:=hrel
  obtain ⟨k1,rfl⟩:=ysu gk (fun h=>by subst h;exact absurd HA.out (by simp [psalteryref03_Sqrt.l0]))
  have H:=HA.out;clear HA
  simp only [psalteryref03_Sqrt.l0] at H
  by_cases c2 : (IntKind.u64.wrap (x4_1 - x3_1)) > 1
  ·
   rw [if_pos c2] at H
   have c2b0 : decide (1 < (IntKind.u64.wrap (x4_1 - x3_1)))=true:=decide_eq_true c2
   clear c2
   by_cases c3 : (IntKind.u64.wrap ((IntKind.u64.wrap (Int.tdiv (IntKind.u64.wrap (x3_1+x4_1)) 2)) * (IntKind.u64.wrap (Int.tdiv (IntKind.u64.wrap (x3_1+x4_1)) 2))))≤a0
   ·
    rw [if_pos c3] at H
    have c3b0 : decide ((IntKind.u64.wrap ((IntKind.u64.wrap (Int.tdiv (IntKind.u64.wrap (x3_1+x4_1)) 2)) * (IntKind.u64.wrap (Int.tdiv (IntKind.u64.wrap (x3_1+x4_1)) 2))))≤a0)=true:=decide_eq_true c3
    clear c3
    have H' := zm H
    clear H
    go_wp2
    go_roundg k1
    case measure=>exact yom1 HK1
    case rel=>exact ⟨(IntKind.u64.wrap (Int.tdiv (IntKind.u64.wrap (x3_1+x4_1)) 2)),(x4_1),yq,yq,H',⟨yom1 HK1⟩,yd⟩
   ·
    rw [if_neg c3] at H
    have c3b0 : decide ((IntKind.u64.wrap ((IntKind.u64.wrap (Int.tdiv (IntKind.u64.wrap (x3_1+x4_1)) 2)) * (IntKind.u64.wrap (Int.tdiv (IntKind.u64.wrap (x3_1+x4_1)) 2))))≤a0)=false:=decide_eq_false c3
    clear c3
    have H' := zm H
    clear H
    go_wp2
    go_roundg k1
    case measure=>exact yom1 HK1
    case rel=>exact ⟨(x3_1),(IntKind.u64.wrap (Int.tdiv (IntKind.u64.wrap (x3_1+x4_1)) 2)),yq,yq,H',⟨yom1 HK1⟩,yd⟩
  ·
   rw [if_neg c2] at H
   have c2b0 : decide (1 < (IntKind.u64.wrap (x4_1 - x3_1)))=false:=decide_eq_false c2
   clear c2
   obtain rfl:=Option.some.inj H
   go_wp2
   go_ret
   exact ⟨yq,yd⟩
def psalteryref06_Size.l0 : Nat→Int→Int→Option (Int)
 | 0,_,_=>none
 | k+1,x0,x3=>if x3≤12 then (if x0=x3 then (some x3) else (if x0=(wrap64 (-x3)) then (some x3) else (psalteryref06_Size.l0 k x0 (wrap64 (x3+1))))) else (some 13)
def psalteryref06_Size.f (k : Nat) (a0 : Int) : Option (Int):=psalteryref06_Size.l0 k a0 0
theorem psalteryref06_Size.mono_l : ∀ k,(∀ y0 y1,LeO (psalteryref06_Size.l0 k y0 y1) (psalteryref06_Size.l0 (k+1) y0 y1))
 | 0=>fun _ _ r h=>by simp [psalteryref06_Size.l0] at h
 | k+1=>by
  have ih0:=psalteryref06_Size.mono_l k
  ·
   intro y0 y1
   unfold psalteryref06_Size.l0
   repeat' with_reducible first|apply ih0|apply yLr|apply yLn|apply yLi|apply yLb|intro _
theorem psalteryref06_Size.mono : ∀ a0 k,LeO (psalteryref06_Size.f k a0) (psalteryref06_Size.f (k+1) a0):=by
 intro a0 k
 have ih0:=psalteryref06_Size.mono_l k
 unfold psalteryref06_Size.f
 repeat' with_reducible first|apply ih0|apply yLr|apply yLn|apply yLi|apply yLb|intro _
set_option maxHeartbeats 8000000 in
set_option maxRecDepth 100000 in
theorem psalteryref06_Size.calls (k : Nat) (a0 : Int) (r : Int) (w : World) (h : psalteryref06_Size.f k a0=some r) :
  Calls Try.prog 68 #[.int .i64 a0] w fun e w' => e=.returned (.int .i64 r)∧Drawn0 w w' := by
 have H : (psalteryref06_Size.l0 k a0 0)=some r:=h
 clear h
 have H' := zm H
 clear H
 go_enter Try.func68,Try.ntmps68
 go_wp2
 go_loopg [3] k (fun kq v3 w' => ∃ (x3_1 : Int),v3=.int .i64 x3_1∧Aside0 (psalteryref06_Size.l0 kq a0 x3_1=some r)∧Aside0 (kq≤k)∧Drawn0 w w')
 case atStart=>exact ⟨(0),yq,H',⟨Nat.le_refl _⟩,yd⟩
 case round =>
  clear H'
  obtain ⟨x3_1,rfl,HA,HK1,⟨m1,rfl⟩⟩:=hrel
  obtain ⟨k1,rfl⟩:=ysu gk (fun h=>by subst h;exact absurd HA.out (by simp [psalteryref06_Size.l0]))
  have H:=HA.out;clear HA
  simp only [psalteryref06_Size.l0] at H
  by_cases c2 : x3_1≤12
  ·
   rw [if_pos c2] at H
   have c2b0 : decide (x3_1≤12)=true:=decide_eq_true c2
   clear c2
   by_cases c3 : a0=x3_1
   ·
    rw [if_pos c3] at H
    have c3b0 : (a0 == x3_1)=true:=beq_iff_eq.mpr c3
    have c3b1 : (a0 != x3_1)=false:=bne_eq_false_iff_eq.mpr c3
    clear c3
    obtain rfl:=Option.some.inj H
    go_wp2
    go_ret
    exact ⟨yq,yd⟩
   ·
    rw [if_neg c3] at H
    have c3b0 : (a0 == x3_1)=false:=beq_eq_false_iff_ne.mpr c3
    have c3b1 : (a0 != x3_1)=true:=bne_iff_ne.mpr c3
    by_cases c4 : a0=(wrap64 (-x3_1))
    ·
     rw [if_pos c4] at H
     have c4b0 : (a0 == (wrap64 (-x3_1)))=true:=beq_iff_eq.mpr c4
     have c4b1 : (a0 != (wrap64 (-x3_1)))=false:=bne_eq_false_iff_eq.mpr c4
     clear c4
     obtain rfl:=Option.some.inj H
     go_wp2
     go_ret
     exact ⟨yq,yd⟩
    ·
     rw [if_neg c4] at H
     have c4b0 : (a0 == (wrap64 (-x3_1)))=false:=beq_eq_false_iff_ne.mpr c4
     have c4b1 : (a0 != (wrap64 (-x3_1)))=true:=bne_iff_ne.mpr c4
     have H' := zm H
     clear H
     go_wp2
     go_roundg k1
     case measure=>exact yom1 HK1
     case rel=>exact ⟨(wrap64 (x3_1+1)),yq,H',⟨yom1 HK1⟩,yd⟩
  ·
   rw [if_neg c2] at H
   have c2b0 : decide (x3_1≤12)=false:=decide_eq_false c2
   clear c2
   obtain rfl:=Option.some.inj H
   go_wp2
   go_ret
   exact ⟨yq,yd⟩
def psalteryref06_Pulses.l0 : Nat→List Int→Int→Int→Option (Int)
 | 0,_,_,_=>none
 | k+1,x0,x3,x4=>if x4 < (x0.length : Int) then (if 0≤x4 then ((psalteryref06_Size.f k (rd x0 x4)).bind fun t573=>(psalteryref06_Pulses.l0 k x0 (wrap64 (x3+t573)) (wrap64 (x4+1)))) else (none)) else (some x3)
def psalteryref06_Pulses.f (k : Nat) (l0 : List Int) : Option (Int):=psalteryref06_Pulses.l0 k l0 0 0
theorem psalteryref06_Pulses.mono_l : ∀ k,(∀ y0 y1 y2,LeO (psalteryref06_Pulses.l0 k y0 y1 y2) (psalteryref06_Pulses.l0 (k+1) y0 y1 y2))
 | 0=>fun _ _ _ r h=>by simp [psalteryref06_Pulses.l0] at h
 | k+1=>by
  have ih0:=psalteryref06_Pulses.mono_l k
  ·
   intro y0 y1 y2
   unfold psalteryref06_Pulses.l0
   repeat' with_reducible first|apply ih0|apply psalteryref06_Size.mono|apply yLr|apply yLn|apply yLi|apply yLb|intro _
theorem psalteryref06_Pulses.mono : ∀ a0 k,LeO (psalteryref06_Pulses.f k a0) (psalteryref06_Pulses.f (k+1) a0):=by
 intro a0 k
 have ih0:=psalteryref06_Pulses.mono_l k
 unfold psalteryref06_Pulses.f
 repeat' with_reducible first|apply ih0|apply psalteryref06_Size.mono|apply yLr|apply yLn|apply yLi|apply yLb|intro _
set_option maxHeartbeats 8000000 in
set_option maxRecDepth 100000 in
theorem psalteryref06_Pulses.calls (k : Nat) (A0 : Option Addr) (c0 : Nat) (l0 : List Int) (r : Int) (w : World) (hr0 : Kd.C (Kd.int .i64) w A0 l0.length l0) (hc0 : l0.length≤c0) (h : psalteryref06_Pulses.f k l0=some r) :
  Calls Try.prog 27 #[.slice A0 l0.length c0] w fun e w' => e=.returned (.int .i64 r)∧Drawn0 w w' := by
 have HR0:=zm hr0;have HC0:=zm hc0;clear hr0 hc0
 have H : (psalteryref06_Pulses.l0 k l0 0 0)=some r:=h
 clear h
 have H' := zm H
 clear H
 go_enter Try.func27,Try.ntmps27
 go_wp2
 go_loopg [3,4] k (fun kq v3 v4 w' => ∃ (x3_1 : Int) (x4_1 : Int),v3=.int .i64 x3_1∧v4=.int .i64 x4_1∧Aside0 (psalteryref06_Pulses.l0 kq l0 x3_1 x4_1=some r)∧Aside0 (kq≤k)∧Drawn0 w w')
 case atStart=>exact ⟨(0),(0),yq,yq,H',⟨Nat.le_refl _⟩,yd⟩
 case round =>
  clear H'
  obtain ⟨x3_1,x4_1,rfl,rfl,HA,HK1,⟨m1,rfl⟩⟩:=hrel
  obtain ⟨k1,rfl⟩:=ysu gk (fun h=>by subst h;exact absurd HA.out (by simp [psalteryref06_Pulses.l0]))
  have H:=HA.out;clear HA
  simp only [psalteryref06_Pulses.l0] at H
  by_cases c2 : x4_1 < (l0.length : Int)
  ·
   rw [if_pos c2] at H
   have c2b0 : decide (x4_1 < (l0.length : Int))=true:=decide_eq_true c2
   clear c2
   replace H:=yif H;obtain ⟨c3,H⟩:=H
   have c3b0 : decide (0≤x4_1)=true:=decide_eq_true c3
   clear c3
   replace H:=ybi H;obtain ⟨t573,A4,H⟩:=H
   have H' := zm H
   clear H
   obtain ⟨ad572,e572,hx572_0,p572,q572⟩:=yai HR0 x4_1
   cases e572
   go_wp2_with (first|((with_reducible refine gate_callee (f:=68) rfl ?_);refine ygl 16 Try.func68 #[.int .i64 (rd l0 x4_1)] ?_;(with_reducible refine (psalteryref06_Size.calls k1 (rd l0 x4_1) t573 _ A4.out).mono ?_);rintro e w' ⟨rfl,⟨nd,rfl⟩⟩;refine ⟨_,rfl, ?_⟩))
   go_roundg k1
   case measure=>exact yom1 HK1
   case rel=>exact ⟨(wrap64 (x3_1+t573)),(wrap64 (x4_1+1)),yq,yq,H',⟨yom1 HK1⟩,yd⟩
  ·
   rw [if_neg c2] at H
   have c2b0 : decide (x4_1 < (l0.length : Int))=false:=decide_eq_false c2
   clear c2
   obtain rfl:=Option.some.inj H
   go_wp2
   go_ret
   exact ⟨yq,yd⟩
def psalteryref07_size.f (a0 : Int) : Option (Int):=if a0 < 0 then (some (wrap64 (-a0))) else (some a0)
set_option maxHeartbeats 8000000 in
set_option maxRecDepth 100000 in
theorem psalteryref07_size.calls (a0 : Int) (r : Int) (w : World) (h : psalteryref07_size.f a0=some r) :
  Calls Try.prog 70 #[.int .i64 a0] w fun e w' => e=.returned (.int .i64 r)∧Drawn0 w w' := by
 have H : (if a0 < 0 then (some (wrap64 (-a0))) else (some a0))=some r:=h
 clear h
 by_cases c2 : a0 < 0
 ·
  rw [if_pos c2] at H
  have c2b0 : decide (a0 < 0)=true:=decide_eq_true c2
  clear c2
  obtain rfl:=Option.some.inj H
  go_enter Try.func70,Try.ntmps70
  go_wp2
  go_ret
  exact ⟨yq,yd⟩
 ·
  rw [if_neg c2] at H
  have c2b0 : decide (a0 < 0)=false:=decide_eq_false c2
  clear c2
  obtain rfl:=Option.some.inj H
  go_enter Try.func70,Try.ntmps70
  go_wp2
  go_ret
  exact ⟨yq,yd⟩
def psalteryref07_Square.l0 : Nat→List Int→Int→Int→Option (Int)
 | 0,_,_,_=>none
 | k+1,x0,x3,x4=>if x4 < (x0.length : Int) then (if 0≤x4 then ((psalteryref07_size.f (rd x0 x4)).bind fun t403=>(psalteryref07_Square.l0 k x0 (IntKind.u64.wrap (x3+(IntKind.u64.wrap ((IntKind.u64.wrap (t403)) * (IntKind.u64.wrap (t403)))))) (wrap64 (x4+1)))) else (none)) else (some x3)
def psalteryref07_Square.f (k : Nat) (l0 : List Int) : Option (Int):=psalteryref07_Square.l0 k l0 0 0
theorem psalteryref07_Square.mono_l : ∀ k,(∀ y0 y1 y2,LeO (psalteryref07_Square.l0 k y0 y1 y2) (psalteryref07_Square.l0 (k+1) y0 y1 y2))
 | 0=>fun _ _ _ r h=>by simp [psalteryref07_Square.l0] at h
 | k+1=>by
  have ih0:=psalteryref07_Square.mono_l k
  ·
   intro y0 y1 y2
   unfold psalteryref07_Square.l0
   repeat' with_reducible first|apply ih0|apply yLr|apply yLn|apply yLi|apply yLb|intro _
theorem psalteryref07_Square.mono : ∀ a0 k,LeO (psalteryref07_Square.f k a0) (psalteryref07_Square.f (k+1) a0):=by
 intro a0 k
 have ih0:=psalteryref07_Square.mono_l k
 unfold psalteryref07_Square.f
 repeat' with_reducible first|apply ih0|apply yLr|apply yLn|apply yLi|apply yLb|intro _
set_option maxHeartbeats 8000000 in
set_option maxRecDepth 100000 in
theorem psalteryref07_Square.calls (k : Nat) (A0 : Option Addr) (c0 : Nat) (l0 : List Int) (r : Int) (w : World) (hr0 : Kd.C (Kd.int .i64) w A0 l0.length l0) (hc0 : l0.length≤c0) (h : psalteryref07_Square.f k l0=some r) :
  Calls Try.prog 32 #[.slice A0 l0.length c0] w fun e w' => e=.returned (.int .u64 r)∧Drawn0 w w' := by
 have HR0:=zm hr0;have HC0:=zm hc0;clear hr0 hc0
 have H : (psalteryref07_Square.l0 k l0 0 0)=some r:=h
 clear h
 have H' := zm H
 clear H
 go_enter Try.func32,Try.ntmps32
 go_wp2
 go_loopg [3,4] k (fun kq v3 v4 w' => ∃ (x3_1 : Int) (x4_1 : Int),v3=.int .u64 x3_1∧v4=.int .i64 x4_1∧Aside0 (psalteryref07_Square.l0 kq l0 x3_1 x4_1=some r)∧Aside0 (kq≤k)∧Drawn0 w w')
 case atStart=>exact ⟨(0),(0),yq,yq,H',⟨Nat.le_refl _⟩,yd⟩
 case round =>
  clear H'
  obtain ⟨x3_1,x4_1,rfl,rfl,HA,HK1,⟨m1,rfl⟩⟩:=hrel
  obtain ⟨k1,rfl⟩:=ysu gk (fun h=>by subst h;exact absurd HA.out (by simp [psalteryref07_Square.l0]))
  have H:=HA.out;clear HA
  simp only [psalteryref07_Square.l0] at H
  by_cases c2 : x4_1 < (l0.length : Int)
  ·
   rw [if_pos c2] at H
   have c2b0 : decide (x4_1 < (l0.length : Int))=true:=decide_eq_true c2
   clear c2
   replace H:=yif H;obtain ⟨c3,H⟩:=H
   have c3b0 : decide (0≤x4_1)=true:=decide_eq_true c3
   clear c3
   replace H:=ybi H;obtain ⟨t403,A4,H⟩:=H
   have H' := zm H
   clear H
   obtain ⟨ad402,e402,hx402_0,p402,q402⟩:=yai HR0 x4_1
   cases e402
   go_wp2_with (first|((with_reducible refine gate_callee (f:=70) rfl ?_);refine ygl 16 Try.func70 #[.int .i64 (rd l0 x4_1)] ?_;(with_reducible refine (psalteryref07_size.calls (rd l0 x4_1) t403 _ A4.out).mono ?_);rintro e w' ⟨rfl,⟨nd,rfl⟩⟩;refine ⟨_,rfl, ?_⟩))
   go_roundg k1
   case measure=>exact yom1 HK1
   case rel=>exact ⟨(IntKind.u64.wrap (x3_1+(IntKind.u64.wrap ((IntKind.u64.wrap (t403)) * (IntKind.u64.wrap (t403)))))),(wrap64 (x4_1+1)),yq,yq,H',⟨yom1 HK1⟩,yd⟩
  ·
   rw [if_neg c2] at H
   have c2b0 : decide (x4_1 < (l0.length : Int))=false:=decide_eq_false c2
   clear c2
   obtain rfl:=Option.some.inj H
   go_wp2
   go_ret
   exact ⟨yq,yd⟩
def psalteryref10_From.f (a0 : Int) : Option (Int):=if a0=1 then (some 1) else (if a0=2 then (some 2) else (if a0=3 then (some 4) else (if a0=4 then (some 8) else (some 0))))
set_option maxHeartbeats 8000000 in
set_option maxRecDepth 100000 in
theorem psalteryref10_From.calls (a0 : Int) (r : Int) (w : World) (h : psalteryref10_From.f a0=some r) :
  Calls Try.prog 69 #[.int .i64 a0] w fun e w' => e=.returned (.int .i64 r)∧Drawn0 w w' := by
 have H : (if a0=1 then (some 1) else (if a0=2 then (some 2) else (if a0=3 then (some 4) else (if a0=4 then (some 8) else (some 0)))))=some r:=h
 clear h
 by_cases c2 : a0=1
 ·
  rw [if_pos c2] at H
  have c2b0 : (a0 == 1)=true:=beq_iff_eq.mpr c2
  have c2b1 : (a0 != 1)=false:=bne_eq_false_iff_eq.mpr c2
  clear c2
  obtain rfl:=Option.some.inj H
  go_enter Try.func69,Try.ntmps69
  go_wp2
  go_ret
  exact ⟨yq,yd⟩
 ·
  rw [if_neg c2] at H
  have c2b0 : (a0 == 1)=false:=beq_eq_false_iff_ne.mpr c2
  have c2b1 : (a0 != 1)=true:=bne_iff_ne.mpr c2
  by_cases c3 : a0=2
  ·
   rw [if_pos c3] at H
   have c3b0 : (a0 == 2)=true:=beq_iff_eq.mpr c3
   have c3b1 : (a0 != 2)=false:=bne_eq_false_iff_eq.mpr c3
   clear c3
   obtain rfl:=Option.some.inj H
   go_enter Try.func69,Try.ntmps69
   go_wp2
   go_ret
   exact ⟨yq,yd⟩
  ·
   rw [if_neg c3] at H
   have c3b0 : (a0 == 2)=false:=beq_eq_false_iff_ne.mpr c3
   have c3b1 : (a0 != 2)=true:=bne_iff_ne.mpr c3
   by_cases c4 : a0=3
   ·
    rw [if_pos c4] at H
    have c4b0 : (a0 == 3)=true:=beq_iff_eq.mpr c4
    have c4b1 : (a0 != 3)=false:=bne_eq_false_iff_eq.mpr c4
    clear c4
    obtain rfl:=Option.some.inj H
    go_enter Try.func69,Try.ntmps69
    go_wp2
    go_ret
    exact ⟨yq,yd⟩
   ·
    rw [if_neg c4] at H
    have c4b0 : (a0 == 3)=false:=beq_eq_false_iff_ne.mpr c4
    have c4b1 : (a0 != 3)=true:=bne_iff_ne.mpr c4
    by_cases c5 : a0=4
    ·
     rw [if_pos c5] at H
     have c5b0 : (a0 == 4)=true:=beq_iff_eq.mpr c5
     have c5b1 : (a0 != 4)=false:=bne_eq_false_iff_eq.mpr c5
     clear c5
     obtain rfl:=Option.some.inj H
     go_enter Try.func69,Try.ntmps69
     go_wp2
     go_ret
     exact ⟨yq,yd⟩
    ·
     rw [if_neg c5] at H
     have c5b0 : (a0 == 4)=false:=beq_eq_false_iff_ne.mpr c5
     have c5b1 : (a0 != 4)=true:=bne_iff_ne.mpr c5
     obtain rfl:=Option.some.inj H
     go_enter Try.func69,Try.ntmps69
     go_wp2
     go_ret
     exact ⟨yq,yd⟩
def psalteryref10_Width.j0 : Nat→Int→Bool→Option (Int)
 | 0,_,_=>none
 | k+1,x3,x4=>if x4=true then (some 1) else (if x3=2 then (some 2) else (if x3=3 then (some 4) else (if x3=4 then (some 8) else (some 0))))
def psalteryref10_Width.f (k : Nat) (a0 : Int) : Option (Int):=if a0=0 then (psalteryref10_Width.j0 k a0 (a0 == 0)) else (psalteryref10_Width.j0 k a0 (a0 == 1))
theorem psalteryref10_Width.mono_l : ∀ k,(∀ y0 y1,LeO (psalteryref10_Width.j0 k y0 y1) (psalteryref10_Width.j0 (k+1) y0 y1))
 | 0=>fun _ _ r h=>by simp [psalteryref10_Width.j0] at h
 | k+1=>by
  have ih0:=psalteryref10_Width.mono_l k
  ·
   intro y0 y1
   unfold psalteryref10_Width.j0
   repeat' with_reducible first|apply ih0|apply yLr|apply yLn|apply yLi|apply yLb|intro _
theorem psalteryref10_Width.mono : ∀ a0 k,LeO (psalteryref10_Width.f k a0) (psalteryref10_Width.f (k+1) a0):=by
 intro a0 k
 have ih0:=psalteryref10_Width.mono_l k
 unfold psalteryref10_Width.f
 repeat' with_reducible first|apply ih0|apply yLr|apply yLn|apply yLi|apply yLb|intro _
set_option maxHeartbeats 8000000 in
set_option maxRecDepth 100000 in
theorem psalteryref10_Width.calls (k : Nat) (a0 : Int) (r : Int) (w : World) (h : psalteryref10_Width.f k a0=some r) :
  Calls Try.prog 65 #[.int .i64 a0] w fun e w' => e=.returned (.int .i64 r)∧Drawn0 w w' := by
 have H : (if a0=0 then (psalteryref10_Width.j0 k a0 (a0 == 0)) else (psalteryref10_Width.j0 k a0 (a0 == 1)))=some r:=h
 clear h;have HC2:=zm H;clear H
 go_enter Try.func65,Try.ntmps65
 go_upto_if 4 with (fail)
 go_cut [4] (fun v4 wc => ∃ (kq : Nat) (x4_1 : Bool),v4=.bool x4_1∧Aside0 (psalteryref10_Width.j0 kq a0 x4_1=some r)∧Aside0 (kq≤k)∧Drawn0 w wc)
 case first =>
  have H:=HC2.out;clear HC2
  by_cases c3 : a0=0
  ·
   rw [if_pos c3] at H
   have c3b0 : (a0 == 0)=true:=beq_iff_eq.mpr c3
   have c3b1 : (a0 != 0)=false:=bne_eq_false_iff_eq.mpr c3
   clear c3
   (first|rw [c3b0]|(simp only [i64_w,i32_w];rw [c3b0])|skip)
   have H' := zm H
   clear H
   go_wp2
   go_meet
   case rel=>exact ⟨_,((a0 == 0)),yq,H',⟨yo⟩,yd⟩
  ·
   rw [if_neg c3] at H
   have c3b0 : (a0 == 0)=false:=beq_eq_false_iff_ne.mpr c3
   have c3b1 : (a0 != 0)=true:=bne_iff_ne.mpr c3
   (first|rw [c3b0]|(simp only [i64_w,i32_w];rw [c3b0])|skip)
   have H' := zm H
   clear H
   go_wp2
   go_meet
   case rel=>exact ⟨_,((a0 == 1)),yq,H',⟨yo⟩,yd⟩
 case rest =>
  clear HC2
  obtain ⟨kq,x4_1,rfl,HA,HJ1,⟨mc1,rfl⟩⟩:=hcut
  obtain ⟨kj1,rfl⟩:=ysu kq (fun h=>by subst h;exact absurd HA.out (by simp [psalteryref10_Width.j0]))
  have H:=HA.out;clear HA
  simp only [psalteryref10_Width.j0] at H
  by_cases c4 : x4_1=true
  ·
   subst c4
   rw [if_pos rfl] at H
   obtain rfl:=Option.some.inj H
   go_wp2
   go_ret
   exact ⟨yq,yd⟩
  ·
   replace c4:=Bool.eq_false_iff.mpr c4
   subst c4
   rw [ynf] at H
   by_cases c5 : a0=2
   ·
    rw [if_pos c5] at H
    have c5b0 : (a0 == 2)=true:=beq_iff_eq.mpr c5
    have c5b1 : (a0 != 2)=false:=bne_eq_false_iff_eq.mpr c5
    clear c5
    obtain rfl:=Option.some.inj H
    go_wp2
    go_ret
    exact ⟨yq,yd⟩
   ·
    rw [if_neg c5] at H
    have c5b0 : (a0 == 2)=false:=beq_eq_false_iff_ne.mpr c5
    have c5b1 : (a0 != 2)=true:=bne_iff_ne.mpr c5
    by_cases c6 : a0=3
    ·
     rw [if_pos c6] at H
     have c6b0 : (a0 == 3)=true:=beq_iff_eq.mpr c6
     have c6b1 : (a0 != 3)=false:=bne_eq_false_iff_eq.mpr c6
     clear c6
     obtain rfl:=Option.some.inj H
     go_wp2
     go_ret
     exact ⟨yq,yd⟩
    ·
     rw [if_neg c6] at H
     have c6b0 : (a0 == 3)=false:=beq_eq_false_iff_ne.mpr c6
     have c6b1 : (a0 != 3)=true:=bne_iff_ne.mpr c6
     by_cases c7 : a0=4
     ·
      rw [if_pos c7] at H
      have c7b0 : (a0 == 4)=true:=beq_iff_eq.mpr c7
      have c7b1 : (a0 != 4)=false:=bne_eq_false_iff_eq.mpr c7
      clear c7
      obtain rfl:=Option.some.inj H
      go_wp2
      go_ret
      exact ⟨yq,yd⟩
     ·
      rw [if_neg c7] at H
      have c7b0 : (a0 == 4)=false:=beq_eq_false_iff_ne.mpr c7
      have c7b1 : (a0 != 4)=true:=bne_iff_ne.mpr c7
      obtain rfl:=Option.some.inj H
      go_wp2
      go_ret
      exact ⟨yq,yd⟩
def psalteryref10_Band.l0 : Nat→List Int→Int→List Int→Int→Option (List Int)
 | 0,_,_,_,_=>none
 | k+1,x0,x1,x5,x6=>(psalteryref10_Width.f k x1).bind fun t396=>(if x6 < t396 then ((psalteryref10_From.f x1).bind fun t397=>(if 0≤(wrap64 (t397+x6)) then (if (wrap64 (t397+x6)) < (x0.length : Int) then (if x5.length < 17592186044416 then (psalteryref10_Band.l0 k x0 x1 (x5 ++ [rd x0 (wrap64 (t397+x6))]) (wrap64 (x6+1))) else (none)) else (none)) else (none))) else (some x5))
def psalteryref10_Band.f (k : Nat) (l0 : List Int) (a1 : Int) : Option (List Int):=psalteryref10_Band.l0 k l0 a1 ([] : List Int) 0
theorem psalteryref10_Band.mono_l : ∀ k,(∀ y0 y1 y2 y3,LeO (psalteryref10_Band.l0 k y0 y1 y2 y3) (psalteryref10_Band.l0 (k+1) y0 y1 y2 y3))
 | 0=>fun _ _ _ _ r h=>by simp [psalteryref10_Band.l0] at h
 | k+1=>by
  have ih0:=psalteryref10_Band.mono_l k
  ·
   intro y0 y1 y2 y3
   unfold psalteryref10_Band.l0
   repeat' with_reducible first|apply ih0|apply psalteryref10_Width.mono|apply yLr|apply yLn|apply yLi|apply yLb|intro _
theorem psalteryref10_Band.mono : ∀ a0 a1 k,LeO (psalteryref10_Band.f k a0 a1) (psalteryref10_Band.f (k+1) a0 a1):=by
 intro a0 a1 k
 have ih0:=psalteryref10_Band.mono_l k
 unfold psalteryref10_Band.f
 repeat' with_reducible first|apply ih0|apply psalteryref10_Width.mono|apply yLr|apply yLn|apply yLi|apply yLb|intro _
set_option maxHeartbeats 8000000 in
set_option maxRecDepth 100000 in
theorem psalteryref10_Band.calls (k : Nat) (A0 : Option Addr) (c0 : Nat) (l0 : List Int) (a1 : Int) (r : List Int) (w : World) (hr0 : Kd.C (Kd.int .i64) w A0 l0.length l0) (hc0 : l0.length≤c0) (h : psalteryref10_Band.f k l0 a1=some r) :
  Calls Try.prog 28 #[.slice A0 l0.length c0, .int .i64 a1] w fun e w' => ∃ v0_ : Value,e=.returned (v0_)∧Kd.R (Kd.int .i64) 2 w' w.heap.size (fun _=>True) v0_ r∧Below w.heap.size w w' := by
 have HR0:=zm hr0;have HC0:=zm hc0;clear hr0 hc0;have HB:=zm (Below.refl w.heap.size w)
 have H : (psalteryref10_Band.l0 k l0 a1 ([] : List Int) 0)=some r:=h
 clear h
 have H' := zm H
 clear H
 go_enter Try.func28,Try.ntmps28
 go_wp2
 go_loopg [5,6] k (fun kq v5 v6 w' => ∃ (x5_1 : List Int) (x6_1 : Int),v6=.int .i64 x6_1∧Aside0 (psalteryref10_Band.l0 kq l0 a1 x5_1 x6_1=some r)∧Aside0 (kq≤k)∧Aside0 (Kd.R (Kd.int .i64) 2 w' w.heap.size (fun _=>True) v5 x5_1)∧Aside0 (Below w.heap.size w w'))
 case atStart=>exact ⟨(([] : List Int)),(0),yq,H',⟨Nat.le_refl _⟩,⟨yn⟩,⟨yhb⟩⟩
 case round =>
  clear H'
  obtain ⟨x5_1,x6_1,rfl,HA,HK1,HO_5,HB⟩:=hrel
  obtain ⟨k1,rfl⟩:=ysu gk (fun h=>by subst h;exact absurd HA.out (by simp [psalteryref10_Band.l0]))
  have H:=HA.out;clear HA
  simp only [psalteryref10_Band.l0] at H
  replace H:=ybi H;obtain ⟨t396,A3,H⟩:=H
  by_cases c4 : x6_1 < t396
  ·
   rw [if_pos c4] at H
   have c4b0 : decide (x6_1 < t396)=true:=decide_eq_true c4
   clear c4
   replace H:=ybi H;obtain ⟨t397,A5,H⟩:=H
   obtain ⟨ji6,hji6⟩ : ∃ j_ : Int,(wrap64 (t397+x6_1))=j_:=⟨_,rfl⟩
   replace H : (if 0≤(ji6) then (if (ji6) < (l0.length : Int) then (if x5_1.length < 17592186044416 then (psalteryref10_Band.l0 k1 l0 a1 (x5_1 ++ [rd l0 (ji6)]) (wrap64 (x6_1+1))) else (none)) else (none)) else (none))=some r:=by first|(rw [hji6] at H;exact H)|(simp only [hji6] at H ⊢; exact H)
   (try rw [hji6] at A3)
   (try rw [hji6] at A5)
   have hji6w : (IntKind.i64.wrap (t397+x6_1))=ji6:=(i64_w _).trans hji6
   replace H:=yif H;obtain ⟨c7,H⟩:=H
   have c7b0 : decide (0≤(ji6))=true:=decide_eq_true c7
   clear c7
   replace H:=yif H;obtain ⟨c8,H⟩:=H
   have c8b0 : decide ((ji6) < (l0.length : Int))=true:=decide_eq_true c8
   clear c8
   replace H:=yif H;obtain ⟨c9,H⟩:=H
   have LMc9:=zm c9;clear c9
   obtain ⟨y399,hy399⟩ : ∃ y_ : List Int,y_=(x5_1 ++ [rd l0 (ji6)]):=⟨_,rfl⟩
   replace H : (psalteryref10_Band.l0 k1 l0 a1 y399 (wrap64 (x6_1+1)))=some r:=yrw hy399 H
   have Ny399:=zm hy399;clear hy399
   have H' := zm H
   clear H
   go_wp2_with (first|((with_reducible refine gate_callee (f:=65) rfl ?_);refine ygl 9 Try.func65 #[.int .i64 a1] ?_;(with_reducible refine (psalteryref10_Width.calls k1 a1 t396 _ A3.out).mono ?_);rintro e w' ⟨rfl,⟨nd,rfl⟩⟩;refine ⟨_,rfl, ?_⟩)|((with_reducible refine gate_callee (f:=69) rfl ?_);refine ygl 16 Try.func69 #[.int .i64 a1] ?_;(with_reducible refine (psalteryref10_From.calls a1 t397 _ A5.out).mono ?_);rintro e w' ⟨rfl,⟨nd,rfl⟩⟩;refine ⟨_,rfl, ?_⟩;have p398 : 0≤((ji6) : Int):=yt;have q398 : (ji6) < (l0.length : Int):=yt;obtain ⟨ad398,e398,hx398_0⟩:=Kd.at_int HR0.out (ji6) p398 q398;cases e398;replace hx398_0:=yhx HB hx398_0;replace p398:=eq_true p398;replace q398:=eq_true q398)|((with_reducible refine gate_builtin (b:=.append) (xs := #[.tmp 13, .tmp 21]) rfl ?_);at_builtin;refine Kd.R_append (Kd.int .i64) (w0:=w) w.heap.size rfl (.tmp 13) (.tmp 21) 53 2 (.int .i64 0) 8 rfl Try.underlying53 info2 rfl (by decide) (by omega) u5 x5_1 (rd l0 (ji6)) [.int .i64 (rd l0 (ji6))] (fun _=>True) (fun _=>False) rfl rfl ?aP (fun _ hk=>hk.elim) ?aF ?aO ?aB ?aS ?aL ?_;(case aP=>exact rfl);(case aB=>exact yhb);(case aF=>exact (fun _ _=>trivial));(case aO=>exact (yr HO_5));(case aS=>exact (zE yhb));(case aL=>have:=LMc9.out;omega);intro v400 w10 ho hb hg hat;rw [← Ny399.out] at ho;replace HB:=zm (hb);have HO401:=zm (ho);clear HO_5;clear ho hb hg hat))
   go_roundg k1
   case measure=>exact yom1 HK1
   case rel=>exact ⟨(y399),(wrap64 (x6_1+1)),yq,H',⟨yom1 HK1⟩,⟨yr HO401⟩,⟨yhb⟩⟩
  ·
   rw [if_neg c4] at H
   have c4b0 : decide (x6_1 < t396)=false:=decide_eq_false c4
   clear c4
   obtain rfl:=Option.some.inj H
   go_wp2_with (first|((with_reducible refine gate_callee (f:=65) rfl ?_);refine ygl 9 Try.func65 #[.int .i64 a1] ?_;(with_reducible refine (psalteryref10_Width.calls k1 a1 t396 _ A3.out).mono ?_);rintro e w' ⟨rfl,⟨nd,rfl⟩⟩;refine ⟨_,rfl, ?_⟩))
   go_ret
   exact ⟨_,ye,yr HO_5,yhb⟩
mutual
def psalteryref10_Value.j0 : Nat→Int→Bool→Option (Int)
 | 0,_,_=>none
 | k+1,x0,x10=>if x10=true then (some 0) else (psalteryref10_Value.l0 k x0 1 1)
def psalteryref10_Value.l0 : Nat→Int→Int→Int→Option (Int)
 | 0,_,_,_=>none
 | k+1,x0,x3,x4=>if x4 < x0 then (psalteryref10_Value.l0 k x0 (IntKind.u64.wrap (x3 * 2)) (wrap64 (x4+1))) else ((psalteryref03_Sqrt.f k x3).bind fun t596=>(some (wrap64 (t596))))
end
def psalteryref10_Value.f (k : Nat) (a0 : Int) : Option (Int):=if a0 < 1 then (psalteryref10_Value.j0 k a0 true) else (psalteryref10_Value.j0 k a0 (decide (a0 > 44)))
theorem psalteryref10_Value.mono_l : ∀ k,(∀ y0 y1,LeO (psalteryref10_Value.j0 k y0 y1) (psalteryref10_Value.j0 (k+1) y0 y1))∧(∀ y0 y1 y2,LeO (psalteryref10_Value.l0 k y0 y1 y2) (psalteryref10_Value.l0 (k+1) y0 y1 y2))
 | 0=>⟨fun _ _ r h=>by simp [psalteryref10_Value.j0] at h,fun _ _ _ r h=>by simp [psalteryref10_Value.l0] at h⟩
 | k+1=>by
  obtain ⟨ih0,ih1⟩:=psalteryref10_Value.mono_l k
  refine ⟨?_, ?_⟩
  ·
   intro y0 y1
   unfold psalteryref10_Value.j0
   repeat' with_reducible first|apply ih0|apply ih1|apply psalteryref03_Sqrt.mono|apply yLr|apply yLn|apply yLi|apply yLb|intro _
  ·
   intro y0 y1 y2
   unfold psalteryref10_Value.l0
   repeat' with_reducible first|apply ih0|apply ih1|apply psalteryref03_Sqrt.mono|apply yLr|apply yLn|apply yLi|apply yLb|intro _
theorem psalteryref10_Value.mono : ∀ a0 k,LeO (psalteryref10_Value.f k a0) (psalteryref10_Value.f (k+1) a0):=by
 intro a0 k
 obtain ⟨ih0,ih1⟩:=psalteryref10_Value.mono_l k
 unfold psalteryref10_Value.f
 repeat' with_reducible first|apply ih0|apply ih1|apply psalteryref03_Sqrt.mono|apply yLr|apply yLn|apply yLi|apply yLb|intro _
set_option maxHeartbeats 8000000 in
set_option maxRecDepth 100000 in
theorem psalteryref10_Value.calls (k : Nat) (a0 : Int) (r : Int) (w : World) (h : psalteryref10_Value.f k a0=some r) :
  Calls Try.prog 30 #[.int .i64 a0] w fun e w' => e=.returned (.int .i64 r)∧Drawn0 w w' := by
 have H : (if a0 < 1 then (psalteryref10_Value.j0 k a0 true) else (psalteryref10_Value.j0 k a0 (decide (a0 > 44))))=some r:=h
 clear h;have HC2:=zm H;clear H
 go_enter Try.func30,Try.ntmps30
 go_upto_region 1 with (fail)
 go_cut [10] (fun v10 wc => ∃ (kq : Nat) (x10_1 : Bool),v10=.bool x10_1∧Aside0 (psalteryref10_Value.j0 kq a0 x10_1=some r)∧Aside0 (kq≤k)∧Drawn0 w wc)
 case first =>
  have H:=HC2.out;clear HC2
  by_cases c3 : a0 < 1
  ·
   rw [if_pos c3] at H
   have c3b0 : decide (a0 < 1)=true:=decide_eq_true c3
   clear c3
   (first|rw [c3b0]|(simp only [i64_w,i32_w];rw [c3b0])|skip)
   have H' := zm H
   clear H
   go_wp2
   go_meet
   case rel=>exact ⟨_,(true),yq,H',⟨yo⟩,yd⟩
  ·
   rw [if_neg c3] at H
   have c3b0 : decide (a0 < 1)=false:=decide_eq_false c3
   clear c3
   (first|rw [c3b0]|(simp only [i64_w,i32_w];rw [c3b0])|skip)
   have H' := zm H
   clear H
   go_wp2
   go_meet
   case rel=>exact ⟨_,(decide (a0 > 44)),yq,H',⟨yo⟩,yd⟩
 case rest =>
  clear HC2
  obtain ⟨kq,x10_1,rfl,HA,HJ1,⟨mc1,rfl⟩⟩:=hcut
  obtain ⟨kj1,rfl⟩:=ysu kq (fun h=>by subst h;exact absurd HA.out (by simp [psalteryref10_Value.j0]))
  have H:=HA.out;clear HA
  simp only [psalteryref10_Value.j0] at H
  by_cases c4 : x10_1=true
  ·
   subst c4
   rw [if_pos rfl] at H
   obtain rfl:=Option.some.inj H
   go_wp2
   go_ret
   exact ⟨yq,yd⟩
  ·
   replace c4:=Bool.eq_false_iff.mpr c4
   subst c4
   rw [ynf] at H
   have H' := zm H
   clear H
   go_wp2
   go_loopg [3,4] kj1 (fun kq v3 v4 w' => ∃ (x3_2 : Int) (x4_2 : Int),v3=.int .u64 x3_2∧v4=.int .i64 x4_2∧Aside0 (psalteryref10_Value.l0 kq a0 x3_2 x4_2=some r)∧Aside0 (kq≤kj1)∧Drawn0 w w')
   case atStart=>exact ⟨(1),(1),yq,yq,H',⟨Nat.le_refl _⟩,yd⟩
   case round =>
    clear H'
    obtain ⟨x3_2,x4_2,rfl,rfl,HA,HK2,⟨m2,rfl⟩⟩:=hrel
    obtain ⟨k2,rfl⟩:=ysu gk (fun h=>by subst h;exact absurd HA.out (by simp [psalteryref10_Value.l0]))
    have H:=HA.out;clear HA
    simp only [psalteryref10_Value.l0] at H
    by_cases c5 : x4_2 < a0
    ·
     rw [if_pos c5] at H
     have c5b0 : decide (x4_2 < a0)=true:=decide_eq_true c5
     clear c5
     have H' := zm H
     clear H
     go_wp2
     go_roundg k2
     case measure=>exact yom2 HJ1 HK2
     case rel=>exact ⟨(IntKind.u64.wrap (x3_2 * 2)),(wrap64 (x4_2+1)),yq,yq,H',⟨yom2 HJ1 HK2⟩,yd⟩
    ·
     rw [if_neg c5] at H
     have c5b0 : decide (x4_2 < a0)=false:=decide_eq_false c5
     clear c5
     replace H:=ybi H;obtain ⟨t596,A6,H⟩:=H
     obtain rfl:=Option.some.inj H
     go_wp2_with (first|((with_reducible refine gate_callee (f:=31) rfl ?_);refine ygl 19 Try.func31 #[.int .u64 x3_2] ?_;(with_reducible refine (psalteryref03_Sqrt.calls k2 x3_2 t596 _ A6.out).mono ?_);rintro e w' ⟨rfl,⟨nd,rfl⟩⟩;refine ⟨_,rfl, ?_⟩))
     go_ret
     exact ⟨yq,yd⟩
mutual
def psalteryref07_Fair.j0 : Nat→List Int→Bool→Option (Bool)
 | 0,_,_=>none
 | k+1,x0,x3=>psalteryref07_Fair.l0 k x0 x3 0
def psalteryref07_Fair.l0 : Nat→List Int→Bool→Int→Option (Bool)
 | 0,_,_,_=>none
 | k+1,x0,x3,x4=>if x4 < (x0.length : Int) then (if x3=true then (if 0≤x4 then (if (rd x0 x4) ≥ (-1048576) then (psalteryref07_Fair.l0 k x0 (decide ((rd x0 x4)≤1048576)) (wrap64 (x4+1))) else (psalteryref07_Fair.l0 k x0 false (wrap64 (x4+1)))) else (none)) else (psalteryref07_Fair.l0 k x0 false (wrap64 (x4+1)))) else (some x3)
end
def psalteryref07_Fair.f (k : Nat) (l0 : List Int) : Option (Bool):=if (l0.length : Int) > 0 then (psalteryref07_Fair.j0 k l0 (decide ((l0.length : Int)≤16))) else (psalteryref07_Fair.j0 k l0 false)
theorem psalteryref07_Fair.mono_l : ∀ k,(∀ y0 y1,LeO (psalteryref07_Fair.j0 k y0 y1) (psalteryref07_Fair.j0 (k+1) y0 y1))∧(∀ y0 y1 y2,LeO (psalteryref07_Fair.l0 k y0 y1 y2) (psalteryref07_Fair.l0 (k+1) y0 y1 y2))
 | 0=>⟨fun _ _ r h=>by simp [psalteryref07_Fair.j0] at h,fun _ _ _ r h=>by simp [psalteryref07_Fair.l0] at h⟩
 | k+1=>by
  obtain ⟨ih0,ih1⟩:=psalteryref07_Fair.mono_l k
  refine ⟨?_, ?_⟩
  ·
   intro y0 y1
   unfold psalteryref07_Fair.j0
   repeat' with_reducible first|apply ih0|apply ih1|apply yLr|apply yLn|apply yLi|apply yLb|intro _
  ·
   intro y0 y1 y2
   unfold psalteryref07_Fair.l0
   repeat' with_reducible first|apply ih0|apply ih1|apply yLr|apply yLn|apply yLi|apply yLb|intro _
theorem psalteryref07_Fair.mono : ∀ a0 k,LeO (psalteryref07_Fair.f k a0) (psalteryref07_Fair.f (k+1) a0):=by
 intro a0 k
 obtain ⟨ih0,ih1⟩:=psalteryref07_Fair.mono_l k
 unfold psalteryref07_Fair.f
 repeat' with_reducible first|apply ih0|apply ih1|apply yLr|apply yLn|apply yLi|apply yLb|intro _
set_option maxHeartbeats 8000000 in
set_option maxRecDepth 100000 in
theorem psalteryref07_Fair.calls (k : Nat) (A0 : Option Addr) (c0 : Nat) (l0 : List Int) (r : Bool) (w : World) (hr0 : Kd.C (Kd.int .i64) w A0 l0.length l0) (hc0 : l0.length≤c0) (h : psalteryref07_Fair.f k l0=some r) :
  Calls Try.prog 82 #[.slice A0 l0.length c0] w fun e w' => e=.returned (.bool r)∧Drawn0 w w' := by
 have HR0:=zm hr0;have HC0:=zm hc0;clear hr0 hc0
 have H : (if (l0.length : Int) > 0 then (psalteryref07_Fair.j0 k l0 (decide ((l0.length : Int)≤16))) else (psalteryref07_Fair.j0 k l0 false))=some r:=h
 clear h;have HC2:=zm H;clear H
 go_enter Try.func82,Try.ntmps82
 go_upto_region 1 with (fail)
 go_cut [3] (fun v3 wc => ∃ (kq : Nat) (x3_1 : Bool),v3=.bool x3_1∧Aside0 (psalteryref07_Fair.j0 kq l0 x3_1=some r)∧Aside0 (kq≤k)∧Drawn0 w wc)
 case first =>
  have H:=HC2.out;clear HC2
  by_cases c3 : (l0.length : Int) > 0
  ·
   rw [if_pos c3] at H
   have c3b0 : decide (0 < (l0.length : Int))=true:=decide_eq_true c3
   have c3b1 : decide (0 < l0.length)=true:=decide_eq_true (by omega)
   clear c3
   (first|rw [c3b0]|(simp only [i64_w,i32_w];rw [c3b0])|skip)
   have H' := zm H
   clear H
   go_wp2
   go_meet
   case rel=>exact ⟨_,(decide ((l0.length : Int)≤16)),yq,H',⟨yo⟩,yd⟩
  ·
   rw [if_neg c3] at H
   have c3b0 : decide (0 < (l0.length : Int))=false:=decide_eq_false c3
   have c3b1 : decide (0 < l0.length)=false:=decide_eq_false (by omega)
   clear c3
   (first|rw [c3b0]|(simp only [i64_w,i32_w];rw [c3b0])|skip)
   have H' := zm H
   clear H
   go_wp2
   go_meet
   case rel=>exact ⟨_,(false),yq,H',⟨yo⟩,yd⟩
 case rest =>
  clear HC2
  obtain ⟨kq,x3_1,rfl,HA,HJ1,⟨mc1,rfl⟩⟩:=hcut
  obtain ⟨kj1,rfl⟩:=ysu kq (fun h=>by subst h;exact absurd HA.out (by simp [psalteryref07_Fair.j0]))
  have H:=HA.out;clear HA
  simp only [psalteryref07_Fair.j0] at H
  have H' := zm H
  clear H
  go_wp2
  go_loopg [3,4] kj1 (fun kq v3 v4 w' => ∃ (x3_2 : Bool) (x4_2 : Int),v3=.bool x3_2∧v4=.int .i64 x4_2∧Aside0 (psalteryref07_Fair.l0 kq l0 x3_2 x4_2=some r)∧Aside0 (kq≤kj1)∧Drawn0 w w')
  case atStart=>exact ⟨(x3_1),(0),yq,yq,H',⟨Nat.le_refl _⟩,yd⟩
  case round =>
   clear H'
   obtain ⟨x3_2,x4_2,rfl,rfl,HA,HK2,⟨m2,rfl⟩⟩:=hrel
   obtain ⟨k2,rfl⟩:=ysu gk (fun h=>by subst h;exact absurd HA.out (by simp [psalteryref07_Fair.l0]))
   have H:=HA.out;clear HA
   simp only [psalteryref07_Fair.l0] at H
   by_cases c4 : x4_2 < (l0.length : Int)
   ·
    rw [if_pos c4] at H
    have c4b0 : decide (x4_2 < (l0.length : Int))=true:=decide_eq_true c4
    clear c4
    by_cases c5 : x3_2=true
    ·
     subst c5
     rw [if_pos rfl] at H
     replace H:=yif H;obtain ⟨c6,H⟩:=H
     have c6b0 : decide (0≤x4_2)=true:=decide_eq_true c6
     clear c6
     by_cases c7 : (rd l0 x4_2) ≥ (-1048576)
     ·
      rw [if_pos c7] at H
      have c7b0 : decide ((-1048576)≤(rd l0 x4_2))=true:=decide_eq_true c7
      clear c7
      have H' := zm H
      clear H
      obtain ⟨ad378,e378,hx378_0,p378,q378⟩:=yai HR0 x4_2
      cases e378
      have p379 : 0≤(x4_2 : Int):=yt
      have q379 : x4_2 < (l0.length : Int):=yt
      obtain ⟨ad379,e379,hx379_0⟩:=Kd.at_int HR0.out x4_2 p379 q379
      obtain rfl : ad378=ad379:=(by injection e379)
      replace p379:=eq_true p379
      replace q379:=eq_true q379
      go_wp2
      go_roundg k2
      case measure=>exact yom2 HJ1 HK2
      case rel=>exact ⟨(decide ((rd l0 x4_2)≤1048576)),(wrap64 (x4_2+1)),yq,yq,H',⟨yom2 HJ1 HK2⟩,yd⟩
     ·
      rw [if_neg c7] at H
      have c7b0 : decide ((-1048576)≤(rd l0 x4_2))=false:=decide_eq_false c7
      clear c7
      have H' := zm H
      clear H
      obtain ⟨ad378,e378,hx378_0,p378,q378⟩:=yai HR0 x4_2
      cases e378
      go_wp2
      go_roundg k2
      case measure=>exact yom2 HJ1 HK2
      case rel=>exact ⟨(false),(wrap64 (x4_2+1)),yq,yq,H',⟨yom2 HJ1 HK2⟩,yd⟩
    ·
     replace c5:=Bool.eq_false_iff.mpr c5
     subst c5
     rw [ynf] at H
     have H' := zm H
     clear H
     go_wp2
     go_roundg k2
     case measure=>exact yom2 HJ1 HK2
     case rel=>exact ⟨(false),(wrap64 (x4_2+1)),yq,yq,H',⟨yom2 HJ1 HK2⟩,yd⟩
   ·
    rw [if_neg c4] at H
    have c4b0 : decide (x4_2 < (l0.length : Int))=false:=decide_eq_false c4
    clear c4
    obtain rfl:=Option.some.inj H
    go_wp2
    go_ret
    exact ⟨yq,yd⟩
def psalteryref10_Fair.f (k : Nat) (l0 : List Int) : Option (Bool):=if (l0.length : Int)=16 then ((psalteryref07_Fair.f k l0).bind fun t380=>(some t380)) else (some false)
theorem psalteryref10_Fair.mono : ∀ a0 k,LeO (psalteryref10_Fair.f k a0) (psalteryref10_Fair.f (k+1) a0):=by
 intro a0 k
 unfold psalteryref10_Fair.f
 repeat' with_reducible first|apply psalteryref07_Fair.mono|apply yLr|apply yLn|apply yLi|apply yLb|intro _
set_option maxHeartbeats 8000000 in
set_option maxRecDepth 100000 in
theorem psalteryref10_Fair.calls (k : Nat) (A0 : Option Addr) (c0 : Nat) (l0 : List Int) (r : Bool) (w : World) (hr0 : Kd.C (Kd.int .i64) w A0 l0.length l0) (hc0 : l0.length≤c0) (h : psalteryref10_Fair.f k l0=some r) :
  Calls Try.prog 41 #[.slice A0 l0.length c0] w fun e w' => e=.returned (.bool r)∧Drawn0 w w' := by
 have HR0:=zm hr0;have HC0:=zm hc0;clear hr0 hc0
 have H : (if (l0.length : Int)=16 then ((psalteryref07_Fair.f k l0).bind fun t380=>(some t380)) else (some false))=some r:=h
 clear h
 by_cases c2 : (l0.length : Int)=16
 ·
  rw [if_pos c2] at H
  have c2b0 : ((l0.length : Int) == 16)=true:=beq_iff_eq.mpr c2
  have c2b1 : ((l0.length : Int) != 16)=false:=bne_eq_false_iff_eq.mpr c2
  clear c2
  replace H:=ybi H;obtain ⟨t380,A3,H⟩:=H
  obtain rfl:=Option.some.inj H
  go_enter Try.func41,Try.ntmps41
  go_wp2_with (first|(go_at_call 82;(with_reducible refine (psalteryref07_Fair.calls k _ _ l0 t380 _ ?side1 HC0.out A3.out).mono ?_);(case side1=>exact yce HR0.out);rintro e w' ⟨rfl,⟨nd,rfl⟩⟩))
  go_ret
  exact ⟨yq,yd⟩
 ·
  rw [if_neg c2] at H
  have c2b0 : ((l0.length : Int) == 16)=false:=beq_eq_false_iff_ne.mpr c2
  have c2b1 : ((l0.length : Int) != 16)=true:=bne_iff_ne.mpr c2
  obtain rfl:=Option.some.inj H
  go_enter Try.func41,Try.ntmps41
  go_wp2
  go_ret
  exact ⟨yq,yd⟩
def psalteryref12_Right.f (a0 : Int) (a1 : Int) : Option (Bool):=if a0≤60 then (if a1=1 then (if a0 ≥ 11 then (some true) else (if a1=2 then (some (decide (a0 ≥ 17))) else (some false))) else (if a1=2 then (some (decide (a0 ≥ 17))) else (some false))) else (some false)
set_option maxHeartbeats 8000000 in
set_option maxRecDepth 100000 in
theorem psalteryref12_Right.calls (a0 : Int) (a1 : Int) (r : Bool) (w : World) (h : psalteryref12_Right.f a0 a1=some r) :
  Calls Try.prog 40 #[.int .i64 a0, .int .i64 a1] w fun e w' => e=.returned (.bool r)∧Drawn0 w w' := by
 have H : (if a0≤60 then (if a1=1 then (if a0 ≥ 11 then (some true) else (if a1=2 then (some (decide (a0 ≥ 17))) else (some false))) else (if a1=2 then (some (decide (a0 ≥ 17))) else (some false))) else (some false))=some r:=h
 clear h
 by_cases c3 : a0≤60
 ·
  rw [if_pos c3] at H
  have c3b0 : decide (a0≤60)=true:=decide_eq_true c3
  clear c3
  by_cases c4 : a1=1
  ·
   rw [if_pos c4] at H
   have c4b0 : (a1 == 1)=true:=beq_iff_eq.mpr c4
   have c4b1 : (a1 != 1)=false:=bne_eq_false_iff_eq.mpr c4
   clear c4
   by_cases c5 : a0 ≥ 11
   ·
    rw [if_pos c5] at H
    have c5b0 : decide (11≤a0)=true:=decide_eq_true c5
    clear c5
    obtain rfl:=Option.some.inj H
    go_enter Try.func40,Try.ntmps40
    go_wp2
    go_ret
    exact ⟨yq,yd⟩
   ·
    rw [if_neg c5] at H
    have c5b0 : decide (11≤a0)=false:=decide_eq_false c5
    clear c5
    by_cases c6 : a1=2
    ·
     rw [if_pos c6] at H
     have c6b0 : (a1 == 2)=true:=beq_iff_eq.mpr c6
     have c6b1 : (a1 != 2)=false:=bne_eq_false_iff_eq.mpr c6
     clear c6
     obtain rfl:=Option.some.inj H
     go_enter Try.func40,Try.ntmps40
     go_wp2
     go_ret
     exact ⟨yq,yd⟩
    ·
     rw [if_neg c6] at H
     have c6b0 : (a1 == 2)=false:=beq_eq_false_iff_ne.mpr c6
     have c6b1 : (a1 != 2)=true:=bne_iff_ne.mpr c6
     obtain rfl:=Option.some.inj H
     go_enter Try.func40,Try.ntmps40
     go_wp2
     go_ret
     exact ⟨yq,yd⟩
  ·
   rw [if_neg c4] at H
   have c4b0 : (a1 == 1)=false:=beq_eq_false_iff_ne.mpr c4
   have c4b1 : (a1 != 1)=true:=bne_iff_ne.mpr c4
   by_cases c7 : a1=2
   ·
    rw [if_pos c7] at H
    have c7b0 : (a1 == 2)=true:=beq_iff_eq.mpr c7
    have c7b1 : (a1 != 2)=false:=bne_eq_false_iff_eq.mpr c7
    clear c7
    obtain rfl:=Option.some.inj H
    go_enter Try.func40,Try.ntmps40
    go_wp2
    go_ret
    exact ⟨yq,yd⟩
   ·
    rw [if_neg c7] at H
    have c7b0 : (a1 == 2)=false:=beq_eq_false_iff_ne.mpr c7
    have c7b1 : (a1 != 2)=true:=bne_iff_ne.mpr c7
    obtain rfl:=Option.some.inj H
    go_enter Try.func40,Try.ntmps40
    go_wp2
    go_ret
    exact ⟨yq,yd⟩
 ·
  rw [if_neg c3] at H
  have c3b0 : decide (a0≤60)=false:=decide_eq_false c3
  clear c3
  obtain rfl:=Option.some.inj H
  go_enter Try.func40,Try.ntmps40
  go_wp2
  go_ret
  exact ⟨yq,yd⟩
mutual
def psalteryref23_Right.j0 : Nat→Int→Bool→List (List Int)→Option (Bool)
 | 0,_,_,_=>none
 | k+1,x1,x18,x382000=>if x18=true then (some false) else (psalteryref23_Right.l0 k x1 0 x382000)
def psalteryref23_Right.l0 : Nat→Int→Int→List (List Int)→Option (Bool)
 | 0,_,_,_=>none
 | k+1,x1,x7,x382000=>if x7 < x1 then (if 0≤x7 then (if x7 < (x382000.length : Int) then ((psalteryref10_Fair.f k (rd_L1 x382000 x7)).bind fun t384=>(if t384=true then (psalteryref23_Right.l0 k x1 (wrap64 (x7+1)) x382000) else (some false))) else (none)) else (none)) else (some true)
end
def psalteryref23_Right.f (k : Nat) (a0 : Int) (a1 : Int) (l2_0 : List (List Int)) : Option (Bool):=(psalteryref12_Right.f a0 a1).bind fun t382=>(if t382=true then (psalteryref23_Right.j0 k a1 ((l2_0.length : Int) != a1) l2_0) else (psalteryref23_Right.j0 k a1 true l2_0))
theorem psalteryref23_Right.mono_l : ∀ k,(∀ y0 y1 y2,LeO (psalteryref23_Right.j0 k y0 y1 y2) (psalteryref23_Right.j0 (k+1) y0 y1 y2))∧(∀ y0 y1 y2,LeO (psalteryref23_Right.l0 k y0 y1 y2) (psalteryref23_Right.l0 (k+1) y0 y1 y2))
 | 0=>⟨fun _ _ _ r h=>by simp [psalteryref23_Right.j0] at h,fun _ _ _ r h=>by simp [psalteryref23_Right.l0] at h⟩
 | k+1=>by
  obtain ⟨ih0,ih1⟩:=psalteryref23_Right.mono_l k
  refine ⟨?_, ?_⟩
  ·
   intro y0 y1 y2
   unfold psalteryref23_Right.j0
   repeat' with_reducible first|apply ih0|apply ih1|apply psalteryref10_Fair.mono|apply yLr|apply yLn|apply yLi|apply yLb|intro _
  ·
   intro y0 y1 y2
   unfold psalteryref23_Right.l0
   repeat' with_reducible first|apply ih0|apply ih1|apply psalteryref10_Fair.mono|apply yLr|apply yLn|apply yLi|apply yLb|intro _
theorem psalteryref23_Right.mono : ∀ a0 a1 a2 k,LeO (psalteryref23_Right.f k a0 a1 a2) (psalteryref23_Right.f (k+1) a0 a1 a2):=by
 intro a0 a1 a2 k
 obtain ⟨ih0,ih1⟩:=psalteryref23_Right.mono_l k
 unfold psalteryref23_Right.f
 repeat' with_reducible first|apply ih0|apply ih1|apply psalteryref10_Fair.mono|apply yLr|apply yLn|apply yLi|apply yLb|intro _
set_option maxHeartbeats 8000000 in
set_option maxRecDepth 100000 in
theorem psalteryref23_Right.calls (k : Nat) (a0 : Int) (a1 : Int) (A2_0 : Option Addr) (c2_0 : Nat) (l2_0 : List (List Int)) (r : Bool) (w : World) (hr2_0 : Kd.C (Kd.slice 2 (Kd.int .i64)) w A2_0 l2_0.length l2_0) (hc2_0 : l2_0.length≤c2_0) (h : psalteryref23_Right.f k a0 a1 l2_0=some r) :
  Calls Try.prog 14 #[.int .i64 a0, .int .i64 a1, .agg #[.slice A2_0 l2_0.length c2_0]] w fun e w' => e=.returned (.bool r)∧Below w.heap.size w w' := by
 have hu24:=Try.underlying24;have HR2_0:=zm hr2_0;have HC2_0:=zm hc2_0;clear hr2_0 hc2_0;have HB:=zm (Below.refl w.heap.size w)
 have H : ((psalteryref12_Right.f a0 a1).bind fun t382=>(if t382=true then (psalteryref23_Right.j0 k a1 ((l2_0.length : Int) != a1) l2_0) else (psalteryref23_Right.j0 k a1 true l2_0)))=some r:=h
 clear h;have HC4:=zm H;clear H
 go_enter Try.func14,Try.ntmps14
 go_upto_region 1 with (first|((with_reducible refine gate_dst (N:=5) rfl ?_);(try (refine gate_guard (by rfl) ?_;dsimp only));refine ybx 5 #[.slice A2_0 l2_0.length c2_0] 24 ?_;intro gb381 hg w5 hbox hb;have BK381:=zm (hbox);have GW381:=ygw hg;have GE381:=ygw hg;replace HB:=ybs hb;clear hb hbox hg))
 (try simp only [Act.put,List.setIfInBounds_toArray,List.set_cons_zero,List.set_cons_succ])
 go_cut [18] (fun v18 wc => ∃ (kq : Nat) (x18_3 : Bool),v18=.bool x18_3∧Aside0 (psalteryref23_Right.j0 kq a1 x18_3 l2_0=some r)∧Aside0 (kq≤k)∧Aside0 (wc.heap[gb381]? = some (.cells #[(.slice A2_0 l2_0.length c2_0)] 24 (0,0)))∧Aside0 (Below w.heap.size w wc))
 case first =>
  have H:=HC4.out;clear HC4
  replace H:=ybi H;obtain ⟨t382,A6,H⟩:=H
  by_cases c7 : t382=true
  ·
   subst c7
   rw [if_pos rfl] at H
   have H' := zm H
   clear H
   go_wp2_with (first|((with_reducible refine gate_callee (f:=40) rfl ?_);refine ygl 10 Try.func40 #[.int .i64 a0, .int .i64 a1] ?_;(with_reducible refine (psalteryref12_Right.calls a0 a1 true _ A6.out).mono ?_);rintro e w' ⟨rfl,⟨nd,rfl⟩⟩;refine ⟨_,rfl, ?_⟩;obtain ⟨_,_⟩:=yc1 BK381))
   go_meet
   case rel=>exact ⟨_,(((l2_0.length : Int) != a1)),yq,H',⟨yo⟩,⟨yk BK381⟩,⟨yhb⟩⟩
  ·
   replace c7:=Bool.eq_false_iff.mpr c7
   subst c7
   rw [ynf] at H
   have H' := zm H
   clear H
   go_wp2_with (first|((with_reducible refine gate_callee (f:=40) rfl ?_);refine ygl 10 Try.func40 #[.int .i64 a0, .int .i64 a1] ?_;(with_reducible refine (psalteryref12_Right.calls a0 a1 false _ A6.out).mono ?_);rintro e w' ⟨rfl,⟨nd,rfl⟩⟩;refine ⟨_,rfl, ?_⟩))
   go_meet
   case rel=>exact ⟨_,(true),yq,H',⟨yo⟩,⟨yk BK381⟩,⟨yhb⟩⟩
 case rest =>
  clear HC4
  obtain ⟨kq,x18_3,rfl,HA,HJ3,BK381,HB⟩:=hcut
  obtain ⟨kj3,rfl⟩:=ysu kq (fun h=>by subst h;exact absurd HA.out (by simp [psalteryref23_Right.j0]))
  have H:=HA.out;clear HA
  simp only [psalteryref23_Right.j0] at H
  by_cases c9 : x18_3=true
  ·
   subst c9
   rw [if_pos rfl] at H
   obtain rfl:=Option.some.inj H
   go_wp2
   go_ret
   exact ⟨ye,yhb⟩
  ·
   replace c9:=Bool.eq_false_iff.mpr c9
   subst c9
   rw [ynf] at H
   have H' := zm H
   clear H
   go_wp2
   go_loopg [7] kj3 (fun kq v7 w' => ∃ (x7_2 : Int),v7=.int .i64 x7_2∧Aside0 (psalteryref23_Right.l0 kq a1 x7_2 l2_0=some r)∧Aside0 (kq≤kj3)∧Aside0 (w'.heap[gb381]? = some (.cells #[(.slice A2_0 l2_0.length c2_0)] 24 (0,0)))∧Aside0 (Below w.heap.size w w'))
   case atStart=>exact ⟨(0),yq,H',⟨Nat.le_refl _⟩,⟨yk BK381⟩,⟨yhb⟩⟩
   case round =>
    clear H'
    obtain ⟨x7_2,rfl,HA,HK2,BK381,HB⟩:=hrel
    obtain ⟨k2,rfl⟩:=ysu gk (fun h=>by subst h;exact absurd HA.out (by simp [psalteryref23_Right.l0]))
    have H:=HA.out;clear HA
    simp only [psalteryref23_Right.l0] at H
    by_cases c10 : x7_2 < a1
    ·
     rw [if_pos c10] at H
     have c10b0 : decide (x7_2 < a1)=true:=decide_eq_true c10
     clear c10
     replace H:=yif H;obtain ⟨c11,H⟩:=H
     have c11b0 : decide (0≤x7_2)=true:=decide_eq_true c11
     clear c11
     replace H:=yif H;obtain ⟨c12,H⟩:=H
     have c12b0 : decide (x7_2 < (l2_0.length : Int))=true:=decide_eq_true c12
     clear c12
     replace H:=ybi H;obtain ⟨t384,A13,H⟩:=H
     by_cases c14 : t384=true
     ·
      subst c14
      rw [if_pos rfl] at H
      have H' := zm H
      clear H
      obtain ⟨_,_⟩:=yc1 BK381
      have p383 : 0≤(x7_2 : Int):=yt
      have q383 : x7_2 < (l2_0.length : Int):=yt
      obtain ⟨ad383,A383_0,c383_0,e383,hx383_0,hl383_0,hi383_0⟩:=at_L1 HR2_0.out x7_2 p383 q383
      cases e383
      replace hx383_0:=yhx HB hx383_0
      have HR383_0:=zm hi383_0;have HC383_0:=zm hl383_0;clear hi383_0 hl383_0
      replace p383:=eq_true p383
      replace q383:=eq_true q383
      go_wp2_with (first|((with_reducible refine gate_callee (f:=41) rfl ?_);refine ygl 29 Try.func41 #[.slice A383_0 (rd_L1 l2_0 x7_2).length c383_0] ?_;(with_reducible refine (psalteryref10_Fair.calls k2 _ _ (rd_L1 l2_0 x7_2) true _ ?side1 HC383_0.out A13.out).mono ?_);(case side1=>exact ycb HR383_0);rintro e w' ⟨rfl,⟨nd,rfl⟩⟩;refine ⟨_,rfl, ?_⟩))
      go_roundg k2
      case measure=>exact yom2 HJ3 HK2
      case rel=>exact ⟨(wrap64 (x7_2+1)),yq,H',⟨yom2 HJ3 HK2⟩,⟨yk BK381⟩,⟨yhb⟩⟩
     ·
      replace c14:=Bool.eq_false_iff.mpr c14
      subst c14
      rw [ynf] at H
      obtain rfl:=Option.some.inj H
      obtain ⟨_,_⟩:=yc1 BK381
      have p383 : 0≤(x7_2 : Int):=yt
      have q383 : x7_2 < (l2_0.length : Int):=yt
      obtain ⟨ad383,A383_0,c383_0,e383,hx383_0,hl383_0,hi383_0⟩:=at_L1 HR2_0.out x7_2 p383 q383
      cases e383
      replace hx383_0:=yhx HB hx383_0
      have HR383_0:=zm hi383_0;have HC383_0:=zm hl383_0;clear hi383_0 hl383_0
      replace p383:=eq_true p383
      replace q383:=eq_true q383
      go_wp2_with (first|((with_reducible refine gate_callee (f:=41) rfl ?_);refine ygl 29 Try.func41 #[.slice A383_0 (rd_L1 l2_0 x7_2).length c383_0] ?_;(with_reducible refine (psalteryref10_Fair.calls k2 _ _ (rd_L1 l2_0 x7_2) false _ ?side1 HC383_0.out A13.out).mono ?_);(case side1=>exact ycb HR383_0);rintro e w' ⟨rfl,⟨nd,rfl⟩⟩;refine ⟨_,rfl, ?_⟩))
      go_ret
      exact ⟨ye,yhb⟩
    ·
     rw [if_neg c10] at H
     have c10b0 : decide (x7_2 < a1)=false:=decide_eq_false c10
     clear c10
     obtain rfl:=Option.some.inj H
     go_wp2
     go_ret
     exact ⟨ye,yhb⟩
end Go.Proofs.Ytifkhfnmbiefaaa.Prt
