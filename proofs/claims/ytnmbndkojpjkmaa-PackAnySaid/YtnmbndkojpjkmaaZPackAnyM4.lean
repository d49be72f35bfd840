-- Functions of the program and of the document as plain Lean, each with the proof that the code comes to it. Written by a program of this session (wip/tools/myprint.py, pack.py) over the kit's printer; Lean checks it.
import Derived.Test.YtnmbndkojpjkmaaZPackAnyPrt0
import Derived.Test.YtnmbndkojpjkmaaZPackAnySh2
import Derived.Test.YtnmbndkojpjkmaaZPackAnySh
import Derived.Test.YtnmbndkojpjkmaaZPackAnyM3
namespace Go.Proofs.Ytnmbndkojpjkmaa.Prt
open Go.RowKit Go.Proofs.YtnmbndkojpjkmaaW.PrintWords Go.Proofs.YtnmbndkojpjkmaaW.PrintLast Go.Proofs.YtnmbndkojpjkmaaW.PrintMore
attribute [local go_sem] max2_int min2_int max_two min_two max_three min_three max_four min_four   -- for this text's walks alone
set_option linter.unusedVariables false
set_option linter.unusedSimpArgs false
set_option maxHeartbeats 8000000
set_option maxRecDepth 100000


def r06_order.l0 : Nat→Int→List Int→Int→Option (List Int)
 | 0,_,_,_=>none
 | k+1,x0,x3,x4=>if x4≤x0 then ((some (([x4,wrap64 (-x4)] : List Int) : List Int)).bind fun ac=>(if x3.length+ac.length < 17592186044416 then (r06_order.l0 k x0 (x3 ++ ac) (wrap64 (x4+1))) else (none))) else (some x3)
def r06_order.f (k : Nat) (a0 : Int) : Option (List Int):=r06_order.l0 k a0 (([0] : List Int)) 1
theorem r06_order.mono_l : ∀ k,(∀ y0 y1 y2,LeO (r06_order.l0 k y0 y1 y2) (r06_order.l0 (k+1) y0 y1 y2))
 | 0=>fun _ _ _ r h=>by simp [r06_order.l0] at h
 | k+1=>by
  have ih0:=r06_order.mono_l k
  ·
   intro y0 y1 y2
   unfold r06_order.l0
   exact yLm
theorem r06_order.mono : ∀ a0 k,LeO (r06_order.f k a0) (r06_order.f (k+1) a0):=by
 intro a0 k
 have ih0:=r06_order.mono_l k
 unfold r06_order.f
 exact yLm
theorem r06_order.calls (k : Nat) (a0 : Int) (r : List Int) (w : World) (h : r06_order.f k a0=some r) :
  Calls Try.prog 82 #[.int .i64 a0] w fun e w' => ∃ v0_ : Value,e=.returned (v0_)∧Kd.R (Kd.int .i64) 3 w' w.heap.size (fun _=>True) v0_ r∧Below w.heap.size w w' := by
 have HB:=zm (zY w.heap.size w);have H:=h
 unfold r06_order.f at H
 clear h
 obtain ⟨am,ah⟩ : ∃ y_ : List Int,y_=(([0] : List Int)):=⟨_,rfl⟩
 replace H : (r06_order.l0 k a0 am 1)=some r:=yrw ah H
 have ak:=zm ah;clear ah
 have H' := zm H
 clear H
 go_enter Try.func82,Try.ntmps82
 go_wp2_with (first|((with_reducible refine zL (N:=5) rfl ?_);refine Kd.R_lit (Kd.int .i64) _ 3 ?hg (N:=5) ?hd (xs:=([0] : List Int)) (inner := [.int .i64 0]) (ok:=fun _=>True) (okp:=fun _=>True) ?hr ?hp (fun _ hk=>hk) trivial (zY _ _) (zX _) (by simp) ?_;(case hd=>rfl);(case hg=>rfl);(case hr=>first|(go_simp;done)|(go_simp;rfl));(case hp=>exact (Reps.one (show Kd.M (Kd.int .i64) _ _ _ 0 [.int .i64 0] from rfl) (Reps.none _ _)));intro aw w2 ho3 hb hg_ hnew_;clear hg_ hnew_;(first|rw [← ak.out] at ho3|(simp only [Int.reduceToNat] at ho3;rw [← ak.out] at ho3));have ao:=zm (za0 ho3 (zE yhb));replace HB:=ybs hb;clear hb ho3))
 go_loopg [3,4] k (fun kq v3 v4 w' => ∃ (af : List Int) (aa : Int),v4=.int .i64 aa∧Aside0 (r06_order.l0 kq a0 af aa=some r)∧Aside0 (kq≤k)∧Aside0 (Kd.R (Kd.int .i64) 3 w' w.heap.size (fun _=>True) v3 af)∧Aside0 (Below w.heap.size w w'))
 case atStart=>exact ⟨(am),(1),yq,H',⟨zX _⟩,⟨yr ao⟩,⟨yhb⟩⟩
 case round =>
  clear H'
  obtain ⟨af,aa,rfl,HA,HK1,ag,HB⟩:=hrel
  obtain ⟨k1,rfl⟩:=ysu gk (fun h=>by subst h;exact absurd HA.out (by simp [r06_order.l0]))
  have H:=HA.out;clear HA
  simp only [r06_order.l0] at H
  replace H:=yId H
  obtain ⟨av,H⟩ | ⟨av,H⟩:=H
  ·
   obtain ⟨ac,ai⟩ : ∃ y_ : List Int,y_=(([aa,wrap64 (-aa)] : List Int)):=⟨_,rfl⟩
   replace H : (if af.length+ac.length < 17592186044416 then (r06_order.l0 k1 a0 (af ++ ac) (wrap64 (aa+1))) else (none))=some r:=yrw ai H
   have al:=zm ai;clear ai
   obtain ⟨c5,H⟩:=yif H
   have LMc5:=zm c5;clear c5
   obtain ⟨ap,aj⟩ : ∃ y_ : List Int,y_=(af ++ ac):=⟨_,rfl⟩
   replace H : (r06_order.l0 k1 a0 ap (wrap64 (aa+1)))=some r:=yrw aj H
   have aq:=zm aj;clear aj
   have H' := zm H
   clear H
   go_wp2_with (first|((with_reducible refine zL (N:=15) rfl ?_);refine Kd.R_lit (Kd.int .i64) _ 3 ?hg (N:=15) ?hd (xs:=([aa,wrap64 (-aa)] : List Int)) (inner := [.int .i64 aa, .int .i64 (wrap64 (-aa))]) (ok:=fun _=>True) (okp:=fun _=>True) ?hr ?hp (fun _ hk=>hk) trivial (zY _ _) (zX _) (by simp) ?_;(case hd=>rfl);(case hg=>rfl);(case hr=>first|(go_simp;done)|(go_simp;rfl));(case hp=>exact (Reps.one (show Kd.M (Kd.int .i64) _ _ _ aa [.int .i64 aa] from rfl) (Reps.one (show Kd.M (Kd.int .i64) _ _ _ (wrap64 (-aa)) [.int .i64 (wrap64 (-aa))] from rfl) (Reps.none _ _))));intro ax w6 ho7 hb hg_ hnew_;clear hg_ hnew_;(first|rw [← al.out] at ho7|(simp only [Int.reduceToNat] at ho7;rw [← al.out] at ho7));have ae:=zm (za0 (Kd.R_new' ho7 (Kd.R_lt (yr ag))) (zE yhb));replace ag:=zm (za6 (yr ag) (zW ho7) hb);replace HB:=ybs hb;clear hb ho7;obtain ⟨Ao9,co9,eo9⟩:=zT ae.out;subst eo9)|((with_reducible refine zb9 (b:=.append) (xs := #[.tmp 11, .tmp 15]) rfl ?_);at_builtin;refine Kd.R_append_rows (Kd.int .i64) (w0:=w) w.heap.size rfl (.tmp 11) (.tmp 15) 49 3 (.int .i64 0) 8 rfl Try.underlying49 info3 rfl (by decide) (by omega) u3 af ac _ _ _ (fun k_=>some k_≠(.slice Ao9 ac.length co9 : Value).ownBlock) (fun _=>False) rfl rfl ?aO ?aR (fun _ _ h=>h) (fun _ h=>h.elim) ?aF ?aB ?aS ?aL ?_;(case aR=>exact yce (zQ ae.out).2.2);(case aB=>exact yhb);(case aF=>exact (fun k_ hk=>zc2 (Kd.R_lt (yr ae)) k_ hk));(case aO=>exact (yR0 ag));(case aS=>exact (zE yhb));(case aL=>have:=LMc5.out;omega);intro ay w8 ho hb hg hat;rw [← aq.out] at ho;replace ae:=zm (zc0 (ok:=(fun _=>True)) (yr ae) hg hat);replace HB:=zm (hb);have au:=zm (ho);clear ag;clear ho hb hg hat))
   go_roundg k1
   case measure=>exact yom1 HK1
   case rel=>exact ⟨(ap),(wrap64 (aa+1)),yq,H',⟨yom1 HK1⟩,⟨yR0 au⟩,⟨yhb⟩⟩
  obtain rfl:=zO H
  go_wp2
  go_ret
  exact ⟨_,ye,yr ag,yhb⟩
mutual
def r06_Index.l0 : Nat→List Int→Int→Int→Int→Option (Int)
 | 0,_,_,_,_=>none
 | k+1,x0,x3,x4,x5=>if x5 < (x0.length : Int) then ((r06_Row.f k (wrap64 ((wrap64 ((x0.length : Int) - x5)) - 1))).bind fun ai=>((r06_order.f k x3).bind fun ag=>(r06_Index.l1 k x0 x3 x4 x5 ai ag 0))) else (some x4)
def r06_Index.l1 : Nat→List Int→Int→Int→Int→List Int→List Int→Int→Option (Int)
 | 0,_,_,_,_,_,_,_=>none
 | k+1,x0,x3,x4,x5,x6,x7,x8=>if x8 < (x7.length : Int) then (if 0≤x8 then (if 0≤x5 then (if x5 < (x0.length : Int) then (if (rd x7 x8)=(rd x0 x5) then ((r06_Size.f k (rd x0 x5)).bind fun aw=>(r06_Index.l0 k x0 (wrap64 (x3 - aw)) x4 (wrap64 (x5+1)))) else ((r06_Size.f k (rd x7 x8)).bind fun aj=>(if 0≤(wrap64 (x3 - aj)) then (if (wrap64 (x3 - aj)) < (x6.length : Int) then (r06_Index.l1 k x0 x3 (IntKind.u64.wrap (x4+(rd x6 (wrap64 (x3 - aj))))) x5 x6 x7 (wrap64 (x8+1))) else (none)) else (none)))) else (none)) else (none)) else (none)) else (if 0≤x5 then (if x5 < (x0.length : Int) then ((r06_Size.f k (rd x0 x5)).bind fun ax=>(r06_Index.l0 k x0 (wrap64 (x3 - ax)) x4 (wrap64 (x5+1)))) else (none)) else (none))
end
def r06_Index.f (k : Nat) (l0 : List Int) : Option (Int):=(r06_Pulses.f k l0).bind fun ay=>(r06_Index.l0 k l0 ay 0 0)
theorem r06_Index.mono_l : ∀ k,(∀ y0 y1 y2 y3,LeO (r06_Index.l0 k y0 y1 y2 y3) (r06_Index.l0 (k+1) y0 y1 y2 y3))∧(∀ y0 y1 y2 y3 y4 y5 y6,LeO (r06_Index.l1 k y0 y1 y2 y3 y4 y5 y6) (r06_Index.l1 (k+1) y0 y1 y2 y3 y4 y5 y6))
 | 0=>⟨fun _ _ _ _ r h=>by simp [r06_Index.l0] at h,fun _ _ _ _ _ _ _ r h=>by simp [r06_Index.l1] at h⟩
 | k+1=>by
  obtain ⟨ih0,ih1⟩:=r06_Index.mono_l k
  have i0:=@r06_Pulses.mono;have i1:=@r06_Row.mono;have i2:=@r06_Size.mono;have i3:=@r06_order.mono
  refine ⟨?_, ?_⟩
  ·
   intro y0 y1 y2 y3
   unfold r06_Index.l0
   exact yLm
  intro y0 y1 y2 y3 y4 y5 y6
  unfold r06_Index.l1
  exact yLm
theorem r06_Index.mono : ∀ a0 k,LeO (r06_Index.f k a0) (r06_Index.f (k+1) a0):=by
 intro a0 k
 obtain ⟨ih0,ih1⟩:=r06_Index.mono_l k
 have i0:=@r06_Pulses.mono;have i1:=@r06_Row.mono;have i2:=@r06_Size.mono;have i3:=@r06_order.mono
 unfold r06_Index.f
 exact yLm
theorem r06_Index.calls (k : Nat) (A0 : Option Addr) (c0 : Nat) (l0 : List Int) (r : Int) (w : World) (hr0 : Kd.C (Kd.int .i64) w A0 l0.length l0) (hc0 : l0.length≤c0) (h : r06_Index.f k l0=some r) :
  Calls Try.prog 42 #[.slice A0 l0.length c0] w fun e w' => e=.returned (.int .u64 r)∧Below w.heap.size w w' := by
 have HR0:=zm hr0;have HC0:=zm hc0;clear hr0 hc0;have HB:=zm (zY w.heap.size w);have H:=h
 unfold r06_Index.f at H
 clear h
 obtain ⟨ay,A2,H⟩:=ybi H
 have H' := zm H
 clear H
 go_enter Try.func42,Try.ntmps42
 go_wp2_with (first|(go_at_call 40;(with_reducible refine (r06_Pulses.calls k _ _ l0 ay _ ?ak HC0.out A2.out).mono ?_);(case ak=>exact yce HR0.out);rintro e w' ⟨rfl,⟨nd,rfl⟩⟩;(try exact yww)))
 repeat (go_quiet (first|(go_at_call 40;(with_reducible refine (r06_Pulses.calls k _ _ l0 ay _ ?ak HC0.out A2.out).mono ?_);(case ak=>exact yce HR0.out);rintro e w' ⟨rfl,⟨nd,rfl⟩⟩;(try exact yww)));try go_wp2_with (first|(go_at_call 40;(with_reducible refine (r06_Pulses.calls k _ _ l0 ay _ ?ak HC0.out A2.out).mono ?_);(case ak=>exact yce HR0.out);rintro e w' ⟨rfl,⟨nd,rfl⟩⟩;(try exact yww))))
 go_loopg [3,4,5] k (fun kq v3 v4 v5 w' => ∃ (ah : Int) (aE : Int) (aa : Int),v3=.int .i64 ah∧v4=.int .u64 aE∧v5=.int .i64 aa∧Aside0 (r06_Index.l0 kq l0 ah aE aa=some r)∧Aside0 (kq≤k)∧Aside0 (Below w.heap.size w w'))
 case atStart=>exact ⟨(ay),(0),(0),yq,yq,yq,H',⟨zX _⟩,⟨yhb⟩⟩
 case round =>
  clear H'
  obtain ⟨ah,aE,aa,rfl,rfl,rfl,HA,HK1,HB⟩:=hrel
  obtain ⟨k1,rfl⟩:=ysu gk (fun h=>by subst h;exact absurd HA.out (by simp [r06_Index.l0]))
  have H:=HA.out;clear HA
  simp only [r06_Index.l0] at H
  replace H:=yId H
  obtain ⟨aT,H⟩ | ⟨aT,H⟩:=H
  ·
   obtain ⟨ai,A4,H⟩:=ybi H
   obtain ⟨ag,A5,H⟩:=ybi H
   have H' := zm H
   clear H
   go_wp2_with (first|(go_at_call 81;(with_reducible refine (r06_Row.calls k1 (wrap64 ((wrap64 ((l0.length : Int) - aa)) - 1)) ai _ A4.out).mono ?_);rintro e w6 ⟨aK,rfl,ho0,hb⟩;have ac:=zm (za0 ho0 (zE yhb));replace HB:=ybs hb;(try clear hb);(try clear ho0))|(go_at_call 82;(with_reducible refine (r06_order.calls k1 ah ag _ A5.out).mono ?_);rintro e w7 ⟨aM,rfl,ho0,hb⟩;replace ac:=yRb ac hb;have aA:=zm (za0 ho0 (zE yhb));replace HB:=ybs hb;(try clear hb);(try clear ho0)))
   repeat (go_quiet (first|(go_at_call 81;(with_reducible refine (r06_Row.calls k1 (wrap64 ((wrap64 ((l0.length : Int) - aa)) - 1)) ai _ A4.out).mono ?_);rintro e w6 ⟨aK,rfl,ho0,hb⟩;have ac:=zm (za0 ho0 (zE yhb));replace HB:=ybs hb;(try clear hb);(try clear ho0))|(go_at_call 82;(with_reducible refine (r06_order.calls k1 ah ag _ A5.out).mono ?_);rintro e w7 ⟨aM,rfl,ho0,hb⟩;replace ac:=yRb ac hb;have aA:=zm (za0 ho0 (zE yhb));replace HB:=ybs hb;(try clear hb);(try clear ho0)));try go_wp2_with (first|(go_at_call 81;(with_reducible refine (r06_Row.calls k1 (wrap64 ((wrap64 ((l0.length : Int) - aa)) - 1)) ai _ A4.out).mono ?_);rintro e w6 ⟨aK,rfl,ho0,hb⟩;have ac:=zm (za0 ho0 (zE yhb));replace HB:=ybs hb;(try clear hb);(try clear ho0))|(go_at_call 82;(with_reducible refine (r06_order.calls k1 ah ag _ A5.out).mono ?_);rintro e w7 ⟨aM,rfl,ho0,hb⟩;replace ac:=yRb ac hb;have aA:=zm (za0 ho0 (zE yhb));replace HB:=ybs hb;(try clear hb);(try clear ho0))))
   go_loopg [4,8] k1 (fun kq v4 v8 w' => ∃ (az : Int) (af : Int),v4=.int .u64 az∧v8=.int .i64 af∧Aside0 (r06_Index.l1 kq l0 ah az aa ai ag af=some r)∧Aside0 (kq≤k1)∧Aside0 (Kd.R (Kd.int .u64) 51 w' w.heap.size (fun _=>True) aK ai)∧Aside0 (Kd.R (Kd.int .i64) 3 w' w.heap.size (fun _=>True) aM ag)∧Aside0 (Below w.heap.size w w'))
   case atStart=>exact ⟨(aE),(0),yq,yq,H',⟨zX _⟩,⟨yr ac⟩,⟨yr aA⟩,⟨yhb⟩⟩
   case round =>
    clear H'
    try clear aT
    obtain ⟨az,af,rfl,rfl,HA,HK2,am,ao,HB⟩:=hrel
    obtain ⟨k2,rfl⟩:=ysu gk (fun h=>by subst h;exact absurd HA.out (by simp [r06_Index.l1]))
    have H:=HA.out;clear HA
    simp only [r06_Index.l1] at H
    replace H:=yId H
    obtain ⟨ba,H⟩ | ⟨ba,H⟩:=H
    ·
     obtain ⟨c9,H⟩:=yif H
     have bu : decide (0≤af)=true:=decide_eq_true c9
     clear c9
     obtain ⟨c10,H⟩:=yif H
     have bm : decide (0≤aa)=true:=decide_eq_true c10
     clear c10
     obtain ⟨c11,H⟩:=yif H
     have bn : decide (aa < (l0.length : Int))=true:=decide_eq_true c11
     clear c11
     by_cases c12 : (rd ag af)=(rd l0 aa)
     ·
      rw [za4 c12] at H
      obtain ⟨aU,aV⟩:=yE c12
      clear c12
      obtain ⟨aw,A13,H⟩:=ybi H
      have H' := zm H
      clear H
      obtain ⟨bv,bw,bb⟩:=zT ao.out
      subst bb
      obtain ⟨⟨aH,aN,aG⟩,bc,bd⟩:=yat (zb7 (zQ ao.out).2.2 af)
      cases aN
      obtain ⟨⟨aI,aQ,ae⟩,bf,bg⟩:=yat (zb7 HR0.out aa)
      cases aQ
      replace ae:=yhx HB ae
      obtain ⟨⟨aW,bh,aq⟩,bx,bz⟩:=yat (zb7 HR0.out aa)
      obtain rfl : aI=aW:=(by injection bh)
      replace aq:=yhx HB aq
      go_wp2_with (first|(go_at_call 80;(with_reducible refine (r06_Size.calls k2 (rd l0 aa) aw _ A13.out).mono ?_);rintro e w' ⟨rfl,⟨nd,rfl⟩⟩;(try exact yww)))
      repeat (go_quiet (first|(go_at_call 80;(with_reducible refine (r06_Size.calls k2 (rd l0 aa) aw _ A13.out).mono ?_);rintro e w' ⟨rfl,⟨nd,rfl⟩⟩;(try exact yww)));try go_wp2_with (first|(go_at_call 80;(with_reducible refine (r06_Size.calls k2 (rd l0 aa) aw _ A13.out).mono ?_);rintro e w' ⟨rfl,⟨nd,rfl⟩⟩;(try exact yww))))
      go_roundg k2
      case measure=>exact yom2 HK1 HK2
      case rel=>exact ⟨(wrap64 (ah - aw)),(az),(wrap64 (aa+1)),yq,yq,yq,H',⟨yom2 HK1 HK2⟩,⟨yhb⟩⟩
     rw [za5 c12] at H
     obtain ⟨aU,aV⟩:=yF c12
     obtain ⟨aj,A15,H⟩:=ybi H
     obtain ⟨ap,al⟩ : ∃ j_ : Int,(wrap64 (ah - aj))=j_:=⟨_,rfl⟩
     (first|rw [al] at H|simp only [al] at H)
     (try rw [al] at A15)
     have hji16w : (IntKind.i64.wrap (ah - aj))=ap:=(i64_w _).trans al
     obtain ⟨c17,H⟩:=yif H
     have bo : decide (0≤(ap))=true:=decide_eq_true c17
     clear c17
     obtain ⟨c18,H⟩:=yif H
     have bp : decide ((ap) < (ai.length : Int))=true:=decide_eq_true c18
     clear c18
     have H' := zm H
     clear H
     obtain ⟨bA,bB,bi⟩:=zT ao.out
     subst bi
     obtain ⟨⟨aH,aN,aG⟩,bc,bd⟩:=yat (zb7 (zQ ao.out).2.2 af)
     cases aN
     obtain ⟨⟨aI,aQ,ae⟩,bf,bg⟩:=yat (zb7 HR0.out aa)
     cases aQ
     replace ae:=yhx HB ae
     obtain ⟨⟨aX,bj,a9⟩,bC,bD⟩:=yat (zb7 (zQ ao.out).2.2 af)
     obtain rfl : aH=aX:=(by injection bj)
     go_wp2_with (first|(go_at_call 80;(with_reducible refine (r06_Size.calls k2 (rd ag af) aj _ A15.out).mono ?_);rintro e w' ⟨rfl,⟨nd,rfl⟩⟩;(try exact yww);obtain ⟨aY,aZ,aC⟩:=zT am.out;subst aC;obtain ⟨⟨aJ,aD,au⟩,a7,a8⟩:=yat (zb7 (zQ am.out).2.2 (ap));cases aD))
     repeat (go_quiet (first|(go_at_call 80;(with_reducible refine (r06_Size.calls k2 (rd ag af) aj _ A15.out).mono ?_);rintro e w' ⟨rfl,⟨nd,rfl⟩⟩;(try exact yww);obtain ⟨aY,aZ,aC⟩:=zT am.out;subst aC;obtain ⟨⟨aJ,aD,au⟩,a7,a8⟩:=yat (zb7 (zQ am.out).2.2 (ap));cases aD));try go_wp2_with (first|(go_at_call 80;(with_reducible refine (r06_Size.calls k2 (rd ag af) aj _ A15.out).mono ?_);rintro e w' ⟨rfl,⟨nd,rfl⟩⟩;(try exact yww);obtain ⟨aY,aZ,aC⟩:=zT am.out;subst aC;obtain ⟨⟨aJ,aD,au⟩,a7,a8⟩:=yat (zb7 (zQ am.out).2.2 (ap));cases aD)))
     go_roundg k2
     case measure=>exact yom2 HK1 HK2
     case rel=>exact ⟨(IntKind.u64.wrap (az+(rd ai (ap)))),(wrap64 (af+1)),(by first|rfl|(simp;done)|(simp only [← al] <;> (first|rfl|simp))|(simp [*];done)),yq,H',⟨yom2 HK1 HK2⟩,⟨yr am⟩,⟨yr ao⟩,⟨yhb⟩⟩
    obtain ⟨c21,H⟩:=yif H
    have bq : decide (0≤aa)=true:=decide_eq_true c21
    clear c21
    obtain ⟨c22,H⟩:=yif H
    have br : decide (aa < (l0.length : Int))=true:=decide_eq_true c22
    clear c22
    obtain ⟨ax,A23,H⟩:=ybi H
    have H' := zm H
    clear H
    obtain ⟨bE,bF,bk⟩:=zT ao.out
    subst bk
    obtain ⟨⟨bs,bl,av⟩,bG,bH⟩:=yat (zb7 HR0.out aa)
    cases bl
    replace av:=yhx HB av
    go_wp2_with (first|(go_at_call 80;(with_reducible refine (r06_Size.calls k2 (rd l0 aa) ax _ A23.out).mono ?_);rintro e w' ⟨rfl,⟨nd,rfl⟩⟩;(try exact yww)))
    repeat (go_quiet (first|(go_at_call 80;(with_reducible refine (r06_Size.calls k2 (rd l0 aa) ax _ A23.out).mono ?_);rintro e w' ⟨rfl,⟨nd,rfl⟩⟩;(try exact yww)));try go_wp2_with (first|(go_at_call 80;(with_reducible refine (r06_Size.calls k2 (rd l0 aa) ax _ A23.out).mono ?_);rintro e w' ⟨rfl,⟨nd,rfl⟩⟩;(try exact yww))))
    go_roundg k2
    case measure=>exact yom2 HK1 HK2
    case rel=>exact ⟨(wrap64 (ah - ax)),(az),(wrap64 (aa+1)),yq,yq,yq,H',⟨yom2 HK1 HK2⟩,⟨yhb⟩⟩
  obtain rfl:=zO H
  go_wp2
  repeat (go_quiet (fail);try go_wp2)
  go_ret
  exact ⟨ye,yhb⟩
mutual
def r06_Vector.l0 : Nat→Int→Int→Int→List Int→Int→Option (List Int)
 | 0,_,_,_,_,_=>none
 | k+1,x0,x1,x2,x7,x8=>if x8 < x0 then ((r06_Row.f k (wrap64 ((wrap64 (x0 - x8)) - 1))).bind fun al=>((r06_order.f k x1).bind fun ae=>(r06_Vector.l1 k x0 x1 x2 x7 x8 al ae 0))) else (some x7)
def r06_Vector.l1 : Nat→Int→Int→Int→List Int→Int→List Int→List Int→Int→Option (List Int)
 | 0,_,_,_,_,_,_,_,_=>none
 | k+1,x0,x1,x2,x7,x8,x9,x10,x11=>if x11 < (x10.length : Int) then (if 0≤x11 then ((r06_Size.f k (rd x10 x11)).bind fun ah=>(if 0≤(wrap64 (x1 - ah)) then (if (wrap64 (x1 - ah)) < (x9.length : Int) then (if x2 < (rd x9 (wrap64 (x1 - ah))) then (if x7.length < 17592186044416 then ((r06_Size.f k (rd x10 x11)).bind fun ag=>(r06_Vector.l0 k x0 (wrap64 (x1 - ag)) x2 (x7 ++ [rd x10 x11]) (wrap64 (x8+1)))) else (none)) else (r06_Vector.l1 k x0 x1 (IntKind.u64.wrap (x2 - (rd x9 (wrap64 (x1 - ah))))) x7 x8 x9 x10 (wrap64 (x11+1)))) else (none)) else (none))) else (none)) else (r06_Vector.l0 k x0 x1 x2 x7 (wrap64 (x8+1)))
end
def r06_Vector.f (k : Nat) (a0 : Int) (a1 : Int) (a2 : Int) : Option (List Int):=r06_Vector.l0 k a0 a1 a2 ([] : List Int) 0
theorem r06_Vector.mono_l : ∀ k,(∀ y0 y1 y2 y3 y4,LeO (r06_Vector.l0 k y0 y1 y2 y3 y4) (r06_Vector.l0 (k+1) y0 y1 y2 y3 y4))∧(∀ y0 y1 y2 y3 y4 y5 y6 y7,LeO (r06_Vector.l1 k y0 y1 y2 y3 y4 y5 y6 y7) (r06_Vector.l1 (k+1) y0 y1 y2 y3 y4 y5 y6 y7))
 | 0=>⟨fun _ _ _ _ _ r h=>by simp [r06_Vector.l0] at h,fun _ _ _ _ _ _ _ _ r h=>by simp [r06_Vector.l1] at h⟩
 | k+1=>by
  obtain ⟨ih0,ih1⟩:=r06_Vector.mono_l k
  have i0:=@r06_Row.mono;have i1:=@r06_Size.mono;have i2:=@r06_order.mono
  refine ⟨?_, ?_⟩
  ·
   intro y0 y1 y2 y3 y4
   unfold r06_Vector.l0
   exact yLm
  intro y0 y1 y2 y3 y4 y5 y6 y7
  unfold r06_Vector.l1
  exact yLm
theorem r06_Vector.mono : ∀ a0 a1 a2 k,LeO (r06_Vector.f k a0 a1 a2) (r06_Vector.f (k+1) a0 a1 a2):=by
 intro a0 a1 a2 k
 obtain ⟨ih0,ih1⟩:=r06_Vector.mono_l k
 have i0:=@r06_Row.mono;have i1:=@r06_Size.mono;have i2:=@r06_order.mono
 unfold r06_Vector.f
 exact yLm
theorem r06_Vector.calls (k : Nat) (a0 : Int) (a1 : Int) (a2 : Int) (r : List Int) (w : World) (h : r06_Vector.f k a0 a1 a2=some r) :
  Calls Try.prog 60 #[.int .i64 a0, .int .i64 a1, .int .u64 a2] w fun e w' => ∃ v0_ : Value,e=.returned (v0_)∧Kd.R (Kd.int .i64) 3 w' w.heap.size (fun _=>True) v0_ r∧Below w.heap.size w w' := by
 have HB:=zm (zY w.heap.size w);have H:=h
 unfold r06_Vector.f at H
 clear h
 have H' := zm H
 clear H
 go_enter Try.func60,Try.ntmps60
 go_wp2
 go_loopg [1,2,7,8] k (fun kq v1 v2 v7 v8 w' => ∃ (av : Int) (ay : Int) (az : List Int) (ai : Int),v1=.int .i64 av∧v2=.int .u64 ay∧v8=.int .i64 ai∧Aside0 (r06_Vector.l0 kq a0 av ay az ai=some r)∧Aside0 (kq≤k)∧Aside0 (Kd.R (Kd.int .i64) 3 w' w.heap.size (fun _=>True) v7 az)∧Aside0 (Below w.heap.size w w'))
 case atStart=>exact ⟨(a1),(a2),(([] : List Int)),(0),yq,yq,yq,H',⟨zX _⟩,⟨yn⟩,⟨yhb⟩⟩
 case round =>
  clear H'
  obtain ⟨av,ay,az,ai,rfl,rfl,rfl,HA,HK1,af,HB⟩:=hrel
  obtain ⟨k1,rfl⟩:=ysu gk (fun h=>by subst h;exact absurd HA.out (by simp [r06_Vector.l0]))
  have H:=HA.out;clear HA
  simp only [r06_Vector.l0] at H
  replace H:=yId H
  obtain ⟨aM,H⟩ | ⟨aM,H⟩:=H
  ·
   obtain ⟨al,A5,H⟩:=ybi H
   obtain ⟨ae,A6,H⟩:=ybi H
   have H' := zm H
   clear H
   go_wp2_with (first|((with_reducible refine zK (f:=81) rfl ?_);refine ygl 22 Try.func81 #[.int .i64 (wrap64 ((wrap64 (a0 - ai)) - 1))] ?_;(with_reducible refine (r06_Row.calls k1 (wrap64 ((wrap64 (a0 - ai)) - 1)) al _ A5.out).mono ?_);rintro e w7 ⟨aZ,rfl,ho0,hb⟩;refine ⟨_,rfl, ?_⟩;replace af:=yRb af hb;have ax:=zm (za0 ho0 (zE yhb));replace HB:=ybs hb;(try clear hb);(try clear ho0))|((with_reducible refine zK (f:=82) rfl ?_);refine ygl 24 Try.func82 #[.int .i64 av] ?_;(with_reducible refine (r06_order.calls k1 av ae _ A6.out).mono ?_);rintro e w8 ⟨aN,rfl,ho0,hb⟩;refine ⟨_,rfl, ?_⟩;replace ax:=yRb ax hb;have aQ:=zm (za0 (Kd.R_new' ho0 (Kd.R_lt (yr af))) (zE yhb));replace af:=zm (za6 (yr af) (zW ho0) hb);replace HB:=ybs hb;(try clear hb);(try clear ho0)))
   go_loopg [1,2,7,11] k1 (fun kq v1 v2 v7 v11 w' => ∃ (aj : Int) (am : Int) (ao : List Int) (aa : Int),v1=.int .i64 aj∧v2=.int .u64 am∧v11=.int .i64 aa∧Aside0 (r06_Vector.l1 kq a0 aj am ao ai al ae aa=some r)∧Aside0 (kq≤k1)∧Aside0 (Kd.R (Kd.int .i64) 3 w' w.heap.size (fun k_=>some k_≠(aN : Value).ownBlock) v7 ao)∧Aside0 (Kd.R (Kd.int .u64) 51 w' w.heap.size (fun _=>True) aZ al)∧Aside0 (Kd.R (Kd.int .i64) 3 w' w.heap.size (fun k_=>some k_≠(v7 : Value).ownBlock) aN ae)∧Aside0 (Below w.heap.size w w'))
   case atStart=>exact ⟨(av),(ay),(az),(0),yq,yq,yq,H',⟨zX _⟩,⟨yR0 af⟩,⟨yr ax⟩,⟨yR0 aQ⟩,⟨yhb⟩⟩
   case round =>
    clear H'
    try clear aM
    obtain ⟨aj,am,ao,aa,rfl,rfl,rfl,HA,HK2,af,ap,ac,HB⟩:=hrel
    obtain ⟨k2,rfl⟩:=ysu gk (fun h=>by subst h;exact absurd HA.out (by simp [r06_Vector.l1]))
    have H:=HA.out;clear HA
    simp only [r06_Vector.l1] at H
    replace H:=yId H
    obtain ⟨a7,H⟩ | ⟨a7,H⟩:=H
    ·
     obtain ⟨c10,H⟩:=yif H
     have bj : decide (0≤aa)=true:=decide_eq_true c10
     clear c10
     obtain ⟨ah,A11,H⟩:=ybi H
     obtain ⟨aw,ak⟩ : ∃ j_ : Int,(wrap64 (aj - ah))=j_:=⟨_,rfl⟩
     (first|rw [ak] at H|simp only [ak] at H)
     (try rw [ak] at A11)
     have hji12w : (IntKind.i64.wrap (aj - ah))=aw:=(i64_w _).trans ak
     obtain ⟨c13,H⟩:=yif H
     have bk : decide (0≤(aw))=true:=decide_eq_true c13
     clear c13
     obtain ⟨c14,H⟩:=yif H
     have bl : decide ((aw) < (al.length : Int))=true:=decide_eq_true c14
     clear c14
     replace H:=yId H
     obtain ⟨aT,H⟩ | ⟨aT,H⟩:=H
     ·
      obtain ⟨c16,H⟩:=yif H
      have LMc16:=zm c16;clear c16
      obtain ⟨aD,aq⟩ : ∃ y_ : List Int,y_=(ao ++ [rd ae aa]):=⟨_,rfl⟩
      replace H : ((r06_Size.f k2 (rd ae aa)).bind fun ag=>(r06_Vector.l0 k2 a0 (wrap64 (aj - ag)) am aD (wrap64 (ai+1))))=some r:=yrw aq H
      have aE:=zm aq;clear aq
      obtain ⟨ag,A17,H⟩:=ybi H
      have H' := zm H
      clear H
      obtain ⟨br,a8,a9⟩:=zT ac.out
      subst a9
      obtain ⟨⟨au,aG,aA⟩,ba,bb⟩:=yat (zb7 (zQ ac.out).2.2 aa)
      cases aG
      go_wp2_with (first|((with_reducible refine zK (f:=80) rfl ?_);refine ygl 37 Try.func80 #[.int .i64 (rd ae aa)] ?_;(with_reducible refine (r06_Size.calls k2 (rd ae aa) ah _ A11.out).mono ?_);rintro e w' ⟨rfl,⟨nd,rfl⟩⟩;refine ⟨_,rfl, ?_⟩;obtain ⟨bs,bu,bc⟩:=zT ap.out;subst bc;obtain ⟨⟨aU,aH,aC⟩,bd,bf⟩:=yat (zb7 (zQ ap.out).2.2 (aw));cases aH;obtain ⟨⟨aI,aV,aW⟩,bm,bn⟩:=yat (zb7 (zQ ac.out).2.2 aa);obtain rfl : au=aI:=(by injection aV))|((with_reducible refine zb9 (b:=.append) (xs := #[.tmp 44, .tmp 49]) rfl ?_);at_builtin;refine Kd.R_append (Kd.int .i64) (w0:=w) w.heap.size rfl (.tmp 44) (.tmp 49) 49 3 (.int .i64 0) 8 rfl Try.underlying49 info3 rfl (by decide) (by omega) u7 ao (rd ae aa) [.int .i64 (rd ae aa)] (fun k_=>some k_≠(.slice (some au) ae.length a8 : Value).ownBlock) (fun _=>False) rfl rfl ?aP (fun _ hk=>hk.elim) ?aF ?aO ?aB ?aS ?aL ?_;(case aP=>exact rfl);(case aB=>exact yhb);(case aF=>exact (fun k_ hk=>zc2 (Kd.R_lt (yr ac)) k_ hk));(case aO=>exact (yr af));(case aS=>exact (zE yhb));(case aL=>have:=LMc16.out;omega);intro bo w20 ho hb hg hat;rw [← aE.out] at ho;replace ap:=zm (Kd.R_over' (yr ap) (Kd.R_typed (yr af)) (by decide) hg);replace ac:=zm (zc0 (ok:=(fun _=>True)) (yR0 ac) hg hat);replace HB:=zm (hb);have aJ:=zm (ho);clear af;clear ho hb hg hat;obtain ⟨⟨aK,aX,aY⟩,bp,bq⟩:=yat (zb7 (zQ ac.out).2.2 aa);obtain rfl : au=aK:=(by injection aX))|((with_reducible refine zK (f:=80) rfl ?_);refine ygl 56 Try.func80 #[.int .i64 (rd ae aa)] ?_;(with_reducible refine (r06_Size.calls k2 (rd ae aa) ag _ A17.out).mono ?_);rintro e w' ⟨rfl,⟨nd,rfl⟩⟩;refine ⟨_,rfl, ?_⟩))
      go_roundg k2
      case measure=>exact yom2 HK1 HK2
      case rel=>exact ⟨(wrap64 (aj - ag)),(am),(aD),(wrap64 (ai+1)),yq,yq,yq,H',⟨yom2 HK1 HK2⟩,⟨yR0 aJ⟩,⟨yhb⟩⟩
     have H' := zm H
     clear H
     obtain ⟨bv,bw,bg⟩:=zT ac.out
     subst bg
     obtain ⟨⟨au,aG,aA⟩,ba,bb⟩:=yat (zb7 (zQ ac.out).2.2 aa)
     cases aG
     go_wp2_with (first|((with_reducible refine zK (f:=80) rfl ?_);refine ygl 37 Try.func80 #[.int .i64 (rd ae aa)] ?_;(with_reducible refine (r06_Size.calls k2 (rd ae aa) ah _ A11.out).mono ?_);rintro e w' ⟨rfl,⟨nd,rfl⟩⟩;refine ⟨_,rfl, ?_⟩;obtain ⟨bx,bz,bh⟩:=zT ap.out;subst bh;obtain ⟨⟨aU,aH,aC⟩,bd,bf⟩:=yat (zb7 (zQ ap.out).2.2 (aw));cases aH))
     go_roundg k2
     case measure=>exact yom2 HK1 HK2
     case rel=>exact ⟨(aj),(IntKind.u64.wrap (am - (rd al (aw)))),(ao),(wrap64 (aa+1)),yq,(by first|rfl|(simp;done)|(simp only [← ak] <;> (first|rfl|simp))|(simp [*];done)),yq,H',⟨yom2 HK1 HK2⟩,⟨yr af⟩,⟨yr ap⟩,⟨yr ac⟩,⟨yhb⟩⟩
    have H' := zm H
    clear H
    obtain ⟨bA,bB,bi⟩:=zT ac.out
    subst bi
    go_wp2
    go_roundg k2
    case measure=>exact yom2 HK1 HK2
    case rel=>exact ⟨(aj),(am),(ao),(wrap64 (ai+1)),yq,yq,yq,H',⟨yom2 HK1 HK2⟩,⟨yR0 af⟩,⟨yhb⟩⟩
  obtain rfl:=zO H
  go_wp2
  go_ret
  exact ⟨_,ye,yr af,yhb⟩
def r05_Fair.f (a0 : Int) (a1 : Int) (a2 : Int) : Option (Bool):=if a0 ≥ 0 then (if a1 > a0 then (if a2 ≥ a1 then (some (decide (a2≤65536))) else (some false)) else (some false)) else (some false)
theorem r05_Fair.calls (a0 : Int) (a1 : Int) (a2 : Int) (r : Bool) (w : World) (h : r05_Fair.f a0 a1 a2=some r) :
  Calls Try.prog 77 #[.int .i64 a0, .int .i64 a1, .int .i64 a2] w fun e w' => e=.returned (.bool r)∧Drawn0 w w' := by
 have H:=h
 unfold r05_Fair.f at H
 clear h
 replace H:=yIl H
 obtain ⟨aa,H⟩ | ⟨aa,H⟩:=H
 ·
  by_cases c5 : a1 > a0
  ·
   rw [za4 c5] at H
   have ac:=yDs c5
   clear c5
   replace H:=yIl H
   obtain ⟨ae,H⟩ | ⟨ae,H⟩:=H
   ·
    obtain rfl:=zO H
    go_enter Try.func77,Try.ntmps77
    go_wp2
    go_ret
    exact ⟨yq,yd⟩
   obtain rfl:=zO H
   go_enter Try.func77,Try.ntmps77
   go_wp2
   go_ret
   exact ⟨yq,yd⟩
  rw [za5 c5] at H
  have ac:=yGs c5
  clear c5
  obtain rfl:=zO H
  go_enter Try.func77,Try.ntmps77
  go_wp2
  go_ret
  exact ⟨yq,yd⟩
 obtain rfl:=zO H
 go_enter Try.func77,Try.ntmps77
 go_wp2
 go_ret
 exact ⟨yq,yd⟩
def r05_add.l0 : Nat→Int→List Int→Int→Option (List Int)
 | 0,_,_,_=>none
 | k+1,x1,x5,x6=>if x6 ≥ 0 then (if 0≤x6 then (if x6 < (x5.length : Int) then (r05_add.l0 k (IntKind.u64.wrap (Int.tdiv (IntKind.u64.wrap (x1+(IntKind.u64.wrap (rd x5 x6)))) 256)) (x5.set (x6 : Int).toNat (wrap64 (Int.tmod (IntKind.u64.wrap (x1+(IntKind.u64.wrap (rd x5 x6)))) 256))) (wrap64 (x6 - 1))) else (none)) else (none)) else (some x5)
def r05_add.f (k : Nat) (l0 : List Int) (a1 : Int) : Option (List Int):=(some (([] : List Int) : List Int)).bind fun ah=>(if ah.length+l0.length < 17592186044416 then ((some (ah ++ l0 : List Int)).bind fun ae=>(r05_add.l0 k a1 ae (wrap64 ((ae.length : Int) - 1)))) else (none))
theorem r05_add.mono_l : ∀ k,(∀ y0 y1 y2,LeO (r05_add.l0 k y0 y1 y2) (r05_add.l0 (k+1) y0 y1 y2))
 | 0=>fun _ _ _ r h=>by simp [r05_add.l0] at h
 | k+1=>by
  have ih0:=r05_add.mono_l k
  ·
   intro y0 y1 y2
   unfold r05_add.l0
   exact yLm
theorem r05_add.mono : ∀ a0 a1 k,LeO (r05_add.f k a0 a1) (r05_add.f (k+1) a0 a1):=by
 intro a0 a1 k
 have ih0:=r05_add.mono_l k
 unfold r05_add.f
 exact yLm
theorem r05_add.calls (k : Nat) (A0 : Option Addr) (c0 : Nat) (l0 : List Int) (a1 : Int) (r : List Int) (w : World) (hr0 : Kd.C (Kd.int .i64) w A0 l0.length l0) (hc0 : l0.length≤c0) (h : r05_add.f k l0 a1=some r) :
  Calls Try.prog 79 #[.slice A0 l0.length c0, .int .u64 a1] w fun e w' => ∃ v0_ : Value,e=.returned (v0_)∧Kd.R (Kd.int .i64) 3 w' w.heap.size (fun _=>True) v0_ r∧Below w.heap.size w w' := by
 have HR0:=zm hr0;have HC0:=zm hc0;clear hr0 hc0;have HB:=zm (zY w.heap.size w);have H:=h
 unfold r05_add.f at H
 clear h
 obtain ⟨ah,aj⟩ : ∃ y_ : List Int,y_=(([] : List Int)):=⟨_,rfl⟩
 replace H : (if ah.length+l0.length < 17592186044416 then ((some (ah ++ l0 : List Int)).bind fun ae=>(r05_add.l0 k a1 ae (wrap64 ((ae.length : Int) - 1)))) else (none))=some r:=yrw aj H
 have ao:=zm aj;clear aj
 obtain ⟨c3,H⟩:=yif H
 have LMc3:=zm c3;clear c3
 obtain ⟨ae,ak⟩ : ∃ y_ : List Int,y_=(ah ++ l0):=⟨_,rfl⟩
 replace H : (r05_add.l0 k a1 ae (wrap64 ((ae.length : Int) - 1)))=some r:=yrw ak H
 have ax:=zm ak;clear ak
 have H' := zm H
 clear H
 go_enter Try.func79,Try.ntmps79
 go_wp2_with (first|((with_reducible refine zL (N:=7) rfl ?_);refine Kd.R_lit (Kd.int .i64) _ 3 ?hg (N:=7) ?hd (xs:=([] : List Int)) (inner := []) (ok:=fun _=>True) (okp:=fun _=>True) ?hr ?hp (fun _ hk=>hk) trivial (zY _ _) (zX _) (by simp) ?_;(case hd=>rfl);(case hg=>rfl);(case hr=>first|(go_simp;done)|(go_simp;rfl));(case hp=>exact (Reps.none _ _));intro aD w4 ho5 hb hg_ hnew_;clear hg_ hnew_;(first|rw [← ao.out] at ho5|(simp only [Int.reduceToNat] at ho5;rw [← ao.out] at ho5));have ap:=zm (za0 ho5 (zE yhb));replace HB:=ybs hb;clear hb ho5)|((with_reducible refine zb9 (b:=.append) (xs := #[.tmp 7, .tmp 8]) rfl ?_);at_builtin;refine Kd.R_append_rows (Kd.int .i64) (w0:=w) w.heap.size rfl (.tmp 7) (.tmp 8) 49 3 (.int .i64 0) 8 rfl Try.underlying49 info3 rfl (by decide) (by omega) aD ah l0 _ _ _ (fun _=>True) (fun _=>False) rfl rfl ?aO ?aR (fun _ _ h=>h) (fun _ h=>h.elim) ?aF ?aB ?aS ?aL ?_;(case aR=>exact ycb HR0);(case aB=>exact yhb);(case aF=>exact (fun _ _=>trivial));(case aO=>exact (yr ap));(case aS=>exact (zE yhb));(case aL=>have:=LMc3.out;omega);intro aQ w6 ho hb hg hat;rw [← ax.out] at ho;replace HB:=zm (hb);have aq:=zm (ho);clear ap;clear ho hb hg hat;obtain ⟨Ao7,co7,eo7⟩:=zT aq.out;subst eo7))
 go_loopg [1,6] k (fun kq v1 v6 w' => ∃ (ag : Int) (ac : List Int) (aa : Int),v1=.int .u64 ag∧v6=.int .i64 aa∧Aside0 (r05_add.l0 kq ag ac aa=some r)∧Aside0 (kq≤k)∧Aside0 (Kd.R (Kd.int .i64) 3 w' w.heap.size (fun _=>True) (.slice Ao7 ae.length co7) ac)∧Aside0 (Below w.heap.size w w'))
 case atStart=>exact ⟨(a1),(ae),(wrap64 ((ae.length : Int) - 1)),yq,yq,H',⟨zX _⟩,⟨yr aq⟩,⟨yhb⟩⟩
 case round =>
  clear H'
  obtain ⟨ag,ac,aa,rfl,rfl,HA,HK1,af,HB⟩:=hrel
  have ai:=(zQ af.out).1
  rw [ai] at af
  (try simp only [ai])
  obtain ⟨k1,rfl⟩:=ysu gk (fun h=>by subst h;exact absurd HA.out (by simp [r05_add.l0]))
  have H:=HA.out;clear HA
  simp only [r05_add.l0] at H
  replace H:=yIl H
  obtain ⟨aE,H⟩ | ⟨aE,H⟩:=H
  ·
   obtain ⟨c9,H⟩:=yif H
   have aT : decide (0≤aa)=true:=decide_eq_true c9
   clear c9
   obtain ⟨c10,H⟩:=yif H
   have aM : decide (aa < (ac.length : Int))=true:=decide_eq_true c10
   clear c10
   obtain ⟨au,al⟩ : ∃ y_ : List Int,y_=(ac.set (aa : Int).toNat (wrap64 (Int.tmod (IntKind.u64.wrap (ag+(IntKind.u64.wrap (rd ac aa)))) 256))):=⟨_,rfl⟩
   replace H : (r05_add.l0 k1 (IntKind.u64.wrap (Int.tdiv (IntKind.u64.wrap (ag+(IntKind.u64.wrap (rd ac aa)))) 256)) au (wrap64 (aa - 1)))=some r:=yrw al H
   have ay:=zm al;clear al
   have H' := zm H
   clear H
   obtain ⟨⟨aN,aG,am⟩,aU,aV⟩:=yat (zb7 (zQ af.out).2.2 aa)
   cases aG
   have p11 : 0≤(aa : Int):=yt
   have q11 : (aa : Int) < ((ac.length : Int) : Int):=yt
   obtain ⟨av,aW,az,aA,aH,aX,aC⟩:=Kd.R_form af.out (by omega)
   (first|cases az|(injection az with ea_ en_ ec_;(first|subst ea_|(injection ea_ with ea_;subst ea_));subst ec_;clear en_))
   have aI:=zm aA;have aY:=zm aC;clear aA aH aC
   (first|simp only [add_plain] at am|skip)
   obtain ⟨aJ,aK⟩:=Kd.R_celln 0 af.out (aa : Int) p11 q11
   replace p11:=zP p11
   replace q11:=zP q11
   have aw:=Kd.R_putg af.out (aa : Int) (wrap64 (Int.tmod (IntKind.u64.wrap (ag+(IntKind.u64.wrap (rd ac aa)))) 256))
   go_wp2_with (first|((with_reducible refine zb8 (t:=3) (p:=29) rfl ?_);refine za2 (t:=3) (p:=29) (v := ?vo_w13) (w1:=(wr.setCell ⟨av,(aa : Int).toNat,none⟩ (.int .i64 (wrap64 (Int.tmod (IntKind.u64.wrap (ag+(IntKind.u64.wrap (rd ac aa)))) 256))))) ?hg ?ho ?hn ?hr ?_;(case ho=>rfl);(case hg=>rfl);(case hn=>rfl);(case hr=>first|(go_simp;done)|(go_simp;rfl));intro w13 hw;have hg : wr.grownBy w13 (some av):=(by rw [hw];exact aw.2);have hp_ : Kd.R (Kd.int .i64) 3 w13 w.heap.size (fun _=>True) (.slice (some ⟨av,0,none⟩) ac.length co7) au:=(by rw [hw,ay.out];exact aw.1);clear aw;replace af:=zm (hp_);replace HB:=zm ((by rw [hw];exact zk (HB.out) aI.out : Below w.heap.size w w13));clear hg hw hp_))
   (try simp only [← ai])
   go_roundg k1
   case measure=>exact yom1 HK1
   case rel=>exact ⟨(IntKind.u64.wrap (Int.tdiv (IntKind.u64.wrap (ag+(IntKind.u64.wrap (rd ac aa)))) 256)),(au),(wrap64 (aa - 1)),yq,yq,H',⟨yom1 HK1⟩,⟨by (try simp only [ai]);(with_reducible repeat (first|apply zo|apply zp|apply zq));exact af.out⟩,⟨yhb⟩⟩
  obtain rfl:=zO H
  go_wp2
  go_ret
  exact ⟨_,ye,yr af,yhb⟩
def r05_part.f (a0 : Int) (a1 : Int) (a2 : Int) (a3 : Int) : Option (Int × Int):=if (IntKind.u64.wrap (a3))=0 then (none) else (if a2=a3 then (some (IntKind.u64.wrap (a0 - (IntKind.u64.wrap ((IntKind.u64.wrap (Int.tdiv a0 (IntKind.u64.wrap (a3)))) * (IntKind.u64.wrap (a1))))),IntKind.u64.wrap ((IntKind.u64.wrap (Int.tdiv a0 (IntKind.u64.wrap (a3)))) * (IntKind.u64.wrap (a1))))) else (some (IntKind.u64.wrap ((IntKind.u64.wrap (Int.tdiv a0 (IntKind.u64.wrap (a3)))) * (IntKind.u64.wrap (wrap64 (a2 - a1)))),IntKind.u64.wrap ((IntKind.u64.wrap (Int.tdiv a0 (IntKind.u64.wrap (a3)))) * (IntKind.u64.wrap (a1))))))
theorem r05_part.calls (a0 : Int) (a1 : Int) (a2 : Int) (a3 : Int) (r1 : Int) (r2 : Int) (w : World) (h : r05_part.f a0 a1 a2 a3=some (r1,r2)) :
  Calls Try.prog 78 #[.int .u64 a0, .int .i64 a1, .int .i64 a2, .int .i64 a3] w fun e w' => e=.returned (.tuple #[.int .u64 r1, .int .u64 r2])∧Drawn0 w w' := by
 have H:=h
 unfold r05_part.f at H
 clear h
 obtain ⟨c5,H⟩:=yie H
 obtain ⟨ae,af⟩:=yF c5
 by_cases c6 : a2=a3
 ·
  rw [za4 c6] at H
  obtain ⟨aa,ac⟩:=yE c6
  clear c6
  simp only [zM,zN] at H
  obtain ⟨rfl,rfl⟩:=H
  go_enter Try.func78,Try.ntmps78
  go_wp2
  go_ret2
  exact ⟨yq,yd⟩
 rw [za5 c6] at H
 obtain ⟨aa,ac⟩:=yF c6
 simp only [zM,zN] at H
 obtain ⟨rfl,rfl⟩:=H
 go_enter Try.func78,Try.ntmps78
 go_wp2
 go_ret2
 exact ⟨yq,yd⟩
def r05_Put.l0 : Nat→Int→List Int→Option (Int × List Int × Int)
 | 0,_,_=>none
 | k+1,aA,aC=>if aA < 16777216 then (if aC.length < 17592186044416 then (r05_Put.l0 k (IntKind.u64.wrap (aA * 256)) (aC ++ [0])) else (none)) else (some (aA,aC,0))
def r05_Put.f (k : Nat) (ap : Int) (ai : List Int) (a1 : Int) (a2 : Int) (a3 : Int) : Option (Int × List Int × Int):=(r05_Fair.f a1 a2 a3).bind fun bn=>(if bn=true then (if (ai.length : Int) ≥ 4000 then (some (ap,ai,3)) else ((r05_part.f ap a1 a2 a3).bind fun bh=>((r05_add.f k ai bh.2).bind fun aI=>(r05_Put.l0 k bh.1 aI)))) else (some (ap,ai,1)))
theorem r05_Put.mono_l : ∀ k,(∀ y0 y1,LeO (r05_Put.l0 k y0 y1) (r05_Put.l0 (k+1) y0 y1))
 | 0=>fun _ _ r h=>by simp [r05_Put.l0] at h
 | k+1=>by
  have ih0:=r05_Put.mono_l k
  ·
   intro y0 y1
   unfold r05_Put.l0
   have i0:=@r05_add.mono
   exact yLm
theorem r05_Put.mono : ∀ a0 a1 a2 a3 a4 k,LeO (r05_Put.f k a0 a1 a2 a3 a4) (r05_Put.f (k+1) a0 a1 a2 a3 a4):=by
 intro a0 a1 a2 a3 a4 k
 have ih0:=r05_Put.mono_l k
 unfold r05_Put.f
 have i0:=@r05_add.mono
 exact yLm
theorem r05_Put.calls (k : Nat) (ap : Int) (aD : Nat→Prop) (ay : Option Addr) (az : Nat) (ai : List Int) (a1 : Int) (a2 : Int) (a3 : Int) (r1 : Int) (r2 : List Int) (r3 : Int) (w : World) (bq : Kd.V (Kd.int .i64) 3 w w.heap.size (fun k_=>aD k_) (.slice ay ai.length az) ai) (h : r05_Put.f k ap ai a1 a2 a3=some (r1,r2,r3)) :
  Calls Try.prog 37 #[.agg #[.int .u64 ap, .slice ay ai.length az], .int .i64 a1, .int .i64 a2, .int .i64 a3] w fun e w' => ∃ v1_ : Value,e=.returned (.tuple #[.agg #[.int .u64 r1,v1_], .int .i64 r3])∧Kd.V (Kd.int .i64) 3 w' w.heap.size (fun k_=>(aD k_∨w.heap.size≤k_)) v1_ r2∧Below w.heap.size w w' := by
 have hu69:=Try.underlying69
 have ac:=zm (show Kd.V (Kd.int .i64) 3 w w.heap.size (fun k_=>(aD k_∨w.heap.size≤k_)) (.slice ay ai.length az) ai from zy bq (fun k_ hk => .inl hk))
 have HB:=zm (zY w.heap.size w);have H:=h
 unfold r05_Put.f at H
 clear h
 obtain ⟨bn,A5,H⟩:=ybi H
 by_cases c6 : bn=true
 ·
  subst c6
  rw [za4 rfl] at H
  by_cases c7 : (ai.length : Int) ≥ 4000
  ·
   rw [za4 c7] at H
   have br:=yDl c7
   have bs : decide (4000≤ai.length)=true:=decide_eq_true (by omega)
   clear c7
   simp only [zM,zN] at H
   obtain ⟨rfl,rfl,rfl⟩:=H
   go_enter Try.func37,Try.ntmps37
   go_wp2_with (first|((with_reducible refine zL (N:=4) rfl ?_);refine ybx 4 #[.int .u64 ap, .slice ay ai.length az] 69 ?_;intro aE hg w8 hbox hb;replace ac:=yVe ac hg hb;have aa:=zm (hbox);have bi:=ygw hg;have bj:=ygw hg;replace HB:=ybs hb;clear hb hbox hg)|((with_reducible refine zL (N:=8) rfl ?_);refine ybx 8 #[.int .u64 0, .slice none 0 0] 69 ?_;intro ao hg w9 hbox hb;replace ac:=yVe ac hg hb;have ae:=zm (hbox);have bk:=ygw hg;have bl:=ygw hg;replace HB:=ybs hb;have aj:=ynl aa hg;have ak:=yng aa hg;replace aa:=ybb aa hb;clear hb hbox hg)|((with_reducible refine zK (f:=77) rfl ?_);refine ygl 16 Try.func77 #[.int .i64 a1, .int .i64 a2, .int .i64 a3] ?_;(with_reducible refine (r05_Fair.calls a1 a2 a3 true _ A5.out).mono ?_);rintro e w' ⟨rfl,⟨nd,rfl⟩⟩;refine ⟨_,rfl, ?_⟩;(try (rw [drewN_self w9];generalize hq_ : World.drewN w9 _=w9;replace ac:=yVq hq_ ac;replace aa:=ykq hq_ aa;replace ae:=ykq hq_ ae;replace HB:=ysq hq_;clear hq_));have:=aj.out;have:=ak.out;obtain ⟨aK,aM,aN,aQ⟩:=yc2 aa;obtain ⟨aT,aU,aV,aW⟩:=yc2 ae))
   refine za1 (results_ct rfl _ _ ao 69 #[.int .u64 ap, .slice ay ai.length az] (0,0) _ rfl (ykp ae) Try.underlying69 rfl (by kernel_rfl)) rfl ?_
   exact ⟨_,ye,yV0 ac,yhb⟩
  rw [za5 c7] at H
  have br:=yGl c7
  have bs : decide (4000≤ai.length)=false:=decide_eq_false (by omega)
  clear c7
  obtain ⟨⟨bu,bo⟩,A13,H⟩:=ybi H
  try dsimp only at H
  obtain ⟨aI,A14,H⟩:=ybi H
  have H' := zm H
  clear H
  go_enter Try.func37,Try.ntmps37
  go_wp2_with (first|((with_reducible refine zL (N:=4) rfl ?_);refine ybx 4 #[.int .u64 ap, .slice ay ai.length az] 69 ?_;intro aE hg w15 hbox hb;replace ac:=yVe ac hg hb;have aa:=zm (hbox);have bi:=ygw hg;have bj:=ygw hg;replace HB:=ybs hb;clear hb hbox hg)|((with_reducible refine zL (N:=8) rfl ?_);refine ybx 8 #[.int .u64 0, .slice none 0 0] 69 ?_;intro ao hg w16 hbox hb;replace ac:=yVe ac hg hb;have ae:=zm (hbox);have bk:=ygw hg;have bl:=ygw hg;replace HB:=ybs hb;have aj:=ynl aa hg;have ak:=yng aa hg;replace aa:=ybb aa hb;clear hb hbox hg)|((with_reducible refine zK (f:=77) rfl ?_);refine ygl 16 Try.func77 #[.int .i64 a1, .int .i64 a2, .int .i64 a3] ?_;(with_reducible refine (r05_Fair.calls a1 a2 a3 true _ A5.out).mono ?_);rintro e w' ⟨rfl,⟨nd,rfl⟩⟩;refine ⟨_,rfl, ?_⟩;(try (rw [drewN_self w16];generalize hq_ : World.drewN w16 _=w16;replace ac:=yVq hq_ ac;replace aa:=ykq hq_ aa;replace ae:=ykq hq_ ae;replace HB:=ysq hq_;clear hq_));have:=aj.out;have:=ak.out;obtain ⟨aX,aY,aZ,a7⟩:=yc2 aa)|((with_reducible refine zK (f:=78) rfl ?_);refine ygl 30 Try.func78 #[.int .u64 ap, .int .i64 a1, .int .i64 a2, .int .i64 a3] ?_;(with_reducible refine (r05_part.calls ap a1 a2 a3 bu bo _ A13.out).mono ?_);rintro e w' ⟨rfl,⟨nd,rfl⟩⟩;refine ⟨_,rfl, ?_⟩;(try (rw [drewN_self w16];generalize hq_ : World.drewN w16 _=w16;replace ac:=yVq hq_ ac;replace aa:=ykq hq_ aa;replace ae:=ykq hq_ ae;replace HB:=ysq hq_;clear hq_));obtain ⟨a8,a9,ba,bb⟩:=yc2 aa)|((with_reducible refine zK (f:=79) rfl ?_);refine ygl 37 Try.func79 #[.slice ay ai.length az, .int .u64 bo] ?_;(with_reducible refine (r05_add.calls k _ _ ai bo aI _ ?bv ?bw A14.out).mono ?_);(case bv=>exact yce (zR ac.out).2.2);(case bw=>exact (zR ac.out).2.1);rintro e w20 ⟨bL,rfl,ho0,hb⟩;refine ⟨_,rfl, ?_⟩;replace ac:=zm (za7 (yr ac) (zW ho0) hb);have aG:=zm (za0 (Kd.R_newM (M:=fun k_=>(w.heap.size≤k_)) ho0 (zE yhb) (fun k_ h_=>h_)) (zE yhb));replace aa:=ybb aa hb;replace ae:=ybb ae hb;replace HB:=ybs hb;(try clear hb);(try clear ho0);obtain ⟨bC,bD,bE⟩:=zT aG.out;subst bE)|((with_reducible refine zL (N:=12) rfl ?_);refine ybx 12 #[.int .u64 0, .slice none 0 0] 69 ?_;intro aH hg w22 hbox hb;replace ac:=yVe ac hg hb;replace aG:=yRb aG hb;have al:=zm (hbox);have bJ:=ygw hg;have bK:=ygw hg;replace HB:=ybs hb;have aq:=ynl aa hg;have au:=yng aa hg;replace aa:=ybb aa hb;have av:=ynl ae hg;have aw:=yng ae hg;replace ae:=ybb ae hb;clear hb hbox hg;have:=au.out;have:=aq.out;have:=aw.out;have:=av.out;obtain ⟨bc,bd,bf,bg⟩:=yc2 al))
  go_loopg [] k (fun kq w' => ∃ (af : Int) (ag : List Int) (am : Value),Aside0 (r05_Put.l0 kq af ag=some (r1,r2,r3))∧Aside0 (kq≤k)∧Aside0 (Kd.V (Kd.int .i64) 3 w' w.heap.size (fun k_=>(aD k_∨w.heap.size≤k_)∧some k_≠(am : Value).ownBlock∧k_≠aE∧k_≠ao∧k_≠aH) (.slice ay ai.length az) ai)∧Aside0 (Kd.R (Kd.int .i64) 3 w' w.heap.size (fun k_=>(w.heap.size≤k_)) am ag)∧Aside0 (w'.heap[aE]? = some (.cells #[.int .u64 ap,(.slice ay ai.length az)] 69 (0,0)))∧Aside0 (w'.heap[ao]? = some (.cells #[.int .u64 0,(.slice none 0 0)] 69 (0,0)))∧Aside0 (w'.heap[aH]? = some (.cells #[.int .u64 af,am] 69 (0,0)))∧Aside0 (Below w.heap.size w w'))
  case atStart=>exact ⟨(bu),(aI),(.slice bC aI.length bD),H',⟨zX _⟩,⟨yV0 ac⟩,⟨yR1 aG al⟩,⟨yk aa⟩,⟨yk ae⟩,⟨ykp al⟩,⟨yhb⟩⟩
  case round =>
   clear H'
   try clear br
   try clear bs
   try clear aK
   try clear aM
   try clear aT
   try clear aU
   try clear aX
   try clear aY
   try clear a8
   try clear a9
   try clear bc
   try clear bd
   try clear aN
   try clear aQ
   try clear aV
   try clear aW
   try clear aZ
   try clear a7
   try clear ba
   try clear bb
   try clear bf
   try clear bg
   obtain ⟨af,ag,am,HA,HK1,ax,ah,aa,ae,al,HB⟩:=hrel
   obtain ⟨k1,rfl⟩:=ysu gk (fun h=>by subst h;exact absurd HA.out (by simp [r05_Put.l0]))
   have H:=HA.out;clear HA
   simp only [r05_Put.l0] at H
   replace H:=yId H
   obtain ⟨bx,H⟩ | ⟨bx,H⟩:=H
   ·
    obtain ⟨c27,H⟩:=yif H
    have LMc27:=zm c27;clear c27
    obtain ⟨bp,aJ⟩ : ∃ y_ : List Int,y_=(ag ++ [0]):=⟨_,rfl⟩
    replace H : (r05_Put.l0 k1 (IntKind.u64.wrap (af * 256)) bp)=some (r1,r2,r3):=yrw aJ H
    have bz:=zm aJ;clear aJ
    have H' := zm H
    clear H
    have:=au.out
    have:=aq.out
    have:=aw.out
    have:=av.out
    obtain ⟨_,_,_,_⟩:=yc2 al
    go_wp2_with (first|((with_reducible refine zb9 (b:=.append) (xs := #[.tmp 47, .tmp 48]) rfl ?_);at_builtin;refine Kd.R_append (Kd.int .i64) (w0:=w) w.heap.size rfl (.tmp 47) (.tmp 48) 49 3 (.int .i64 0) 8 rfl Try.underlying49 info3 rfl (by decide) (by omega) am ag 0 [.int .i64 0] (fun k_=>(w.heap.size≤k_)) (fun _=>False) rfl (by first|(go_simp;done)|(go_simp;rfl)) ?aP (fun _ hk=>hk.elim) ?aF ?aO ?aB ?aS ?aL ?_;(case aP=>exact rfl);(case aB=>exact yhb);(case aF=>exact (fun k_ hk=>(Nat.le_trans (zE yhb) hk)));(case aO=>exact (yR1 ah al));(case aS=>exact (zE yhb));(case aL=>have:=LMc27.out;omega);intro bM w31 ho hb hg hat;rw [← bz.out] at ho;replace ax:=zm (zc1 (ok:=(fun k_=>(aD k_∨w.heap.size≤k_)∧k_≠aE∧k_≠ao∧k_≠aH)) (yV0 ax) hg hat);replace aa:=zm (zc3 (yk aa) hg (zu ah.out aa.out (by decide)));replace ae:=zm (zc3 (yk ae) hg (zu ah.out ae.out (by decide)));replace al:=zm (zc3 (g:=aH) (o:=.cells #[.int .u64 (IntKind.u64.wrap (af * 256)),am] 69 (0,0)) (ykp al) hg (zu ah.out al.out (by decide)));replace HB:=zm (hb);have bm:=zm (ho);clear ah;clear ho hb hg hat;obtain ⟨bF,bG,bH⟩:=zT bm.out;subst bH;obtain ⟨_,_,_,_⟩:=yc2 al))
    go_roundg k1
    case measure=>exact yom1 HK1
    case rel=>exact ⟨(IntKind.u64.wrap (af * 256)),(bp),(.slice bF bp.length bG),H',⟨yom1 HK1⟩,⟨yV0 ax⟩,⟨yR1 bm al⟩,⟨yk aa⟩,⟨yk ae⟩,⟨ykp al⟩,⟨yhb⟩⟩
   simp only [zM,zN] at H
   obtain ⟨rfl,rfl,rfl⟩:=H
   have:=au.out
   have:=aq.out
   have:=aw.out
   have:=av.out
   obtain ⟨_,_,_,_⟩:=yc2 al
   have:=ak.out
   have:=aj.out
   obtain ⟨_,_,_,_⟩:=yc2 ae
   obtain ⟨bA,bB,bI⟩:=zT ah.out
   subst bI
   go_wp2
   refine za1 (results_ct rfl _ _ ao 69 #[.int .u64 af, .slice bA ag.length bB] (0,0) _ rfl (ykp ae) Try.underlying69 rfl (by kernel_rfl)) rfl ?_
   exact ⟨_,ye,zy (Kd.R_V (by (with_reducible repeat (first|apply zo|apply zp|apply zq));exact zG (zH (p:=⟨ao,1,none⟩) (zH (p:=⟨ao,0,none⟩) (Kd.R_types ah.out ae.out (by decide)) (fun _ hk=>hk.2) (.int .u64 af)) (fun _ hk=>hk.2) (.slice bA ag.length bB)) (fun _ hk=>(by first|exact hk.1|(have h_:=hk;(try simp only [and_assoc] at h_);first|exact h_.1|exact h_.2|exact h_.2.1|exact h_.2.2|exact h_.2.2.1|exact h_.2.2.2|exact h_.2.2.2.1|exact h_.2.2.2.2))))) (fun k_ hk=>by first|exact ⟨(.inr (hk.1)),hk.2⟩|exact (.inr (hk))),yhb⟩
 replace c6:=za3.mpr c6
 subst c6
 rw [ynf] at H
 simp only [zM,zN] at H
 obtain ⟨rfl,rfl,rfl⟩:=H
 go_enter Try.func37,Try.ntmps37
 go_wp2_with (first|((with_reducible refine zL (N:=4) rfl ?_);refine ybx 4 #[.int .u64 ap, .slice ay ai.length az] 69 ?_;intro aE hg w40 hbox hb;replace ac:=yVe ac hg hb;have aa:=zm (hbox);have bi:=ygw hg;have bj:=ygw hg;replace HB:=ybs hb;clear hb hbox hg)|((with_reducible refine zL (N:=8) rfl ?_);refine ybx 8 #[.int .u64 0, .slice none 0 0] 69 ?_;intro ao hg w41 hbox hb;replace ac:=yVe ac hg hb;have ae:=zm (hbox);have bk:=ygw hg;have bl:=ygw hg;replace HB:=ybs hb;have aj:=ynl aa hg;have ak:=yng aa hg;replace aa:=ybb aa hb;clear hb hbox hg)|((with_reducible refine zK (f:=77) rfl ?_);refine ygl 16 Try.func77 #[.int .i64 a1, .int .i64 a2, .int .i64 a3] ?_;(with_reducible refine (r05_Fair.calls a1 a2 a3 false _ A5.out).mono ?_);rintro e w' ⟨rfl,⟨nd,rfl⟩⟩;refine ⟨_,rfl, ?_⟩;(try (rw [drewN_self w41];generalize hq_ : World.drewN w41 _=w41;replace ac:=yVq hq_ ac;replace aa:=ykq hq_ aa;replace ae:=ykq hq_ ae;replace HB:=ysq hq_;clear hq_));have:=aj.out;have:=ak.out;obtain ⟨_,_,_,_⟩:=yc2 aa;obtain ⟨_,_,_,_⟩:=yc2 ae))
 refine za1 (results_ct rfl _ _ ao 69 #[.int .u64 ap, .slice ay ai.length az] (0,0) _ rfl (ykp ae) Try.underlying69 rfl (by kernel_rfl)) rfl ?_
 exact ⟨_,ye,yV0 ac,yhb⟩
def r03_Clamp.f (a0 : Int) (a1 : Int) (a2 : Int) : Option (Int):=if a0 < a1 then (some a1) else (if a0 > a2 then (some a2) else (some a0))
theorem r03_Clamp.calls (a0 : Int) (a1 : Int) (a2 : Int) (r : Int) (w : World) (h : r03_Clamp.f a0 a1 a2=some r) :
  Calls Try.prog 90 #[.int .i64 a0, .int .i64 a1, .int .i64 a2] w fun e w' => e=.returned (.int .i64 r)∧Drawn0 w w' := by
 have H:=h
 unfold r03_Clamp.f at H
 clear h
 replace H:=yId H
 obtain ⟨aa,H⟩ | ⟨aa,H⟩:=H
 ·
  obtain rfl:=zO H
  go_enter Try.func90,Try.ntmps90
  go_wp2
  go_ret
  exact ⟨yq,yd⟩
 by_cases c5 : a0 > a2
 ·
  rw [za4 c5] at H
  have ac:=yDs c5
  clear c5
  obtain rfl:=zO H
  go_enter Try.func90,Try.ntmps90
  go_wp2
  go_ret
  exact ⟨yq,yd⟩
 rw [za5 c5] at H
 have ac:=yGs c5
 clear c5
 obtain rfl:=zO H
 go_enter Try.func90,Try.ntmps90
 go_wp2
 go_ret
 exact ⟨yq,yd⟩
def r05_Get.f (ac : Int) (aa : Int) (ae : List Int) (ag : Int) (a1 : Int) : Option (Int):=if (IntKind.u64.wrap (a1))=0 then (none) else (if (IntKind.u64.wrap (Int.tdiv aa (IntKind.u64.wrap (a1))))=0 then (none) else ((r03_Clamp.f (wrap64 (IntKind.u64.wrap (Int.tdiv ac (IntKind.u64.wrap (Int.tdiv aa (IntKind.u64.wrap (a1))))))) 0 (wrap64 (a1 - 1))).bind fun ah=>(some ah)))
theorem r05_Get.calls (ac : Int) (aa : Int) (ai : Option Addr) (aj : Nat) (ae : List Int) (ag : Int) (a1 : Int) (r : Int) (w : World) (hr0_2 : Kd.C (Kd.int .u8) w ai ae.length ae) (hc0_2 : ae.length≤aj) (h : r05_Get.f ac aa ae ag a1=some r) :
  Calls Try.prog 56 #[.agg #[.int .u64 ac, .int .u64 aa, .slice ai ae.length aj, .int .i64 ag], .int .i64 a1] w fun e w' => e=.returned (.int .i64 r)∧Below w.heap.size w w' := by
 have hu95:=Try.underlying95;have ao:=zm hr0_2;have ap:=zm hc0_2;clear hr0_2 hc0_2;have HB:=zm (zY w.heap.size w);have H:=h
 unfold r05_Get.f at H
 clear h
 obtain ⟨c3,H⟩:=yie H
 obtain ⟨aq,au⟩:=yF c3
 obtain ⟨c4,H⟩:=yie H
 obtain ⟨av,aw⟩:=yF c4
 obtain ⟨ah,A5,H⟩:=ybi H
 obtain rfl:=zO H
 go_enter Try.func56,Try.ntmps56
 go_wp2_with (first|((with_reducible refine zL (N:=2) rfl ?_);refine ybx 2 #[.int .u64 ac, .int .u64 aa, .slice ai ae.length aj, .int .i64 ag] 95 ?_;intro ak hg w6 hbox hb;have af:=zm (hbox);have al:=ygw hg;have am:=ygw hg;replace HB:=ybs hb;clear hb hbox hg;obtain ⟨_,_,_,_,_,_,_,_⟩:=yc4 af)|(go_at_call 90;(with_reducible refine (r03_Clamp.calls (wrap64 (IntKind.u64.wrap (Int.tdiv ac (IntKind.u64.wrap (Int.tdiv aa (IntKind.u64.wrap (a1))))))) 0 (wrap64 (a1 - 1)) ah _ A5.out).mono ?_);rintro e w' ⟨rfl,⟨nd,rfl⟩⟩;(try exact yww)))
 repeat (go_quiet (first|((with_reducible refine zL (N:=2) rfl ?_);refine ybx 2 #[.int .u64 ac, .int .u64 aa, .slice ai ae.length aj, .int .i64 ag] 95 ?_;intro ak hg w6 hbox hb;have af:=zm (hbox);have al:=ygw hg;have am:=ygw hg;replace HB:=ybs hb;clear hb hbox hg;obtain ⟨_,_,_,_,_,_,_,_⟩:=yc4 af)|(go_at_call 90;(with_reducible refine (r03_Clamp.calls (wrap64 (IntKind.u64.wrap (Int.tdiv ac (IntKind.u64.wrap (Int.tdiv aa (IntKind.u64.wrap (a1))))))) 0 (wrap64 (a1 - 1)) ah _ A5.out).mono ?_);rintro e w' ⟨rfl,⟨nd,rfl⟩⟩;(try exact yww)));try go_wp2_with (first|((with_reducible refine zL (N:=2) rfl ?_);refine ybx 2 #[.int .u64 ac, .int .u64 aa, .slice ai ae.length aj, .int .i64 ag] 95 ?_;intro ak hg w6 hbox hb;have af:=zm (hbox);have al:=ygw hg;have am:=ygw hg;replace HB:=ybs hb;clear hb hbox hg;obtain ⟨_,_,_,_,_,_,_,_⟩:=yc4 af)|(go_at_call 90;(with_reducible refine (r03_Clamp.calls (wrap64 (IntKind.u64.wrap (Int.tdiv ac (IntKind.u64.wrap (Int.tdiv aa (IntKind.u64.wrap (a1))))))) 0 (wrap64 (a1 - 1)) ah _ A5.out).mono ?_);rintro e w' ⟨rfl,⟨nd,rfl⟩⟩;(try exact yww))))
 go_ret
 exact ⟨ye,yhb⟩
def r05_next.f (l0 : List Int) (a1 : Int) : Option (Int × Int):=if a1 < (l0.length : Int) then (if 0≤a1 then (some (IntKind.u64.wrap (rd l0 a1),wrap64 (a1+1))) else (none)) else (some (0,a1))
theorem r05_next.calls (A0 : Option Addr) (c0 : Nat) (l0 : List Int) (a1 : Int) (r1 : Int) (r2 : Int) (w : World) (hr0 : Kd.C (Kd.int .u8) w A0 l0.length l0) (hc0 : l0.length≤c0) (h : r05_next.f l0 a1=some (r1,r2)) :
  Calls Try.prog 89 #[.slice A0 l0.length c0, .int .i64 a1] w fun e w' => e=.returned (.tuple #[.int .u64 r1, .int .i64 r2])∧Drawn0 w w' := by
 have HR0:=zm hr0;have HC0:=zm hc0;clear hr0 hc0;have H:=h
 unfold r05_next.f at H
 clear h
 replace H:=yId H
 obtain ⟨ac,H⟩ | ⟨ac,H⟩:=H
 ·
  obtain ⟨c4,H⟩:=yif H
  have ag : decide (0≤a1)=true:=decide_eq_true c4
  clear c4
  simp only [zM,zN] at H
  obtain ⟨rfl,rfl⟩:=H
  obtain ⟨af,ae,aa,ah,ai⟩:=yai HR0 a1
  cases ae
  go_enter Try.func89,Try.ntmps89
  go_wp2
  go_ret2
  exact ⟨yq,yd⟩
 simp only [zM,zN] at H
 obtain ⟨rfl,rfl⟩:=H
 go_enter Try.func89,Try.ntmps89
 go_wp2
 go_ret2
 exact ⟨yq,yd⟩
def r05_Open.l0 : Nat→List Int→Int→Int→Int→Int→List Int→Int→Option (Int × Int × List Int × Int)
 | 0,_,_,_,_,_,_,_=>none
 | k+1,x0,x4,x5,ai,aj,ak,al=>if x5 < 4 then ((r05_next.f x0 x4).bind fun av=>(r05_Open.l0 k x0 av.2 (wrap64 (x5+1)) (IntKind.u64.wrap ((IntKind.u64.wrap (ai * 256))+av.1)) aj ak al)) else (some (ai,aj,ak,al))
def r05_Open.f (k : Nat) (l0 : List Int) : Option (Int × Int × List Int × Int):=r05_Open.l0 k l0 0 0 0 4294967295 l0 4
theorem r05_Open.mono_l : ∀ k,(∀ y0 y1 y2 y3 y4 y5 y6,LeO (r05_Open.l0 k y0 y1 y2 y3 y4 y5 y6) (r05_Open.l0 (k+1) y0 y1 y2 y3 y4 y5 y6))
 | 0=>fun _ _ _ _ _ _ _ r h=>by simp [r05_Open.l0] at h
 | k+1=>by
  have ih0:=r05_Open.mono_l k
  ·
   intro y0 y1 y2 y3 y4 y5 y6
   unfold r05_Open.l0
   exact yLm
theorem r05_Open.mono : ∀ a0 k,LeO (r05_Open.f k a0) (r05_Open.f (k+1) a0):=by
 intro a0 k
 have ih0:=r05_Open.mono_l k
 unfold r05_Open.f
 exact yLm
theorem r05_Open.calls (k : Nat) (P0_ : Nat→Prop) (A0 : Option Addr) (c0 : Nat) (l0 : List Int) (r1 : Int) (r2 : Int) (r3 : List Int) (r4 : Int) (w : World) (hs0 : Kd.V (Kd.int .u8) 5 w w.heap.size (fun k_=>P0_ k_) (.slice A0 l0.length c0) l0) (h : r05_Open.f k l0=some (r1,r2,r3,r4)) :
  Calls Try.prog 55 #[.slice A0 l0.length c0] w fun e w' => ∃ v2_ : Value,e=.returned (.agg #[.int .u64 r1, .int .u64 r2,v2_, .int .i64 r4])∧Kd.V (Kd.int .u8) 5 w' w.heap.size (fun k_=>(P0_ k_∨w.heap.size≤k_)) v2_ r3∧Below w.heap.size w w' := by
 have hu95:=Try.underlying95
 have HO0:=zm (show Kd.V (Kd.int .u8) 5 w w.heap.size (fun k_=>(P0_ k_∨w.heap.size≤k_)) (.slice A0 l0.length c0) l0 from zy hs0 (fun k_ hk => .inl hk))
 have HB:=zm (zY w.heap.size w);have H:=h
 unfold r05_Open.f at H
 clear h
 have H' := zm H
 clear H
 go_enter Try.func55,Try.ntmps55
 go_wp2_with (first|((with_reducible refine zL (N:=2) rfl ?_);refine ybx 2 #[.int .u64 0, .int .u64 0, .slice none 0 0, .int .i64 0] 95 ?_;intro am hg w2 hbox hb;replace HO0:=yVe HO0 hg hb;have ac:=zm (hbox);have aM:=ygw hg;have aN:=ygw hg;replace HB:=ybs hb;clear hb hbox hg)|((with_reducible refine zL (N:=3) rfl ?_);refine ybx 3 #[.int .u64 0, .int .u64 0, .slice none 0 0, .int .i64 0] 95 ?_;intro ao hg w3 hbox hb;replace HO0:=yVe HO0 hg hb;have ah:=zm (hbox);have aQ:=ygw hg;have aT:=ygw hg;replace HB:=ybs hb;have af:=ynl ac hg;have ag:=yng ac hg;replace ac:=ybb ac hb;clear hb hbox hg;have:=ag.out;have:=af.out;obtain ⟨aw,ax,ay,az,aA,aC,aD,aE⟩:=yc4 ah))
 go_loopg [4,5] k (fun kq v4 v5 w' => ∃ (ap : Int) (au : Int) (aa : Int),v4=.int .i64 ap∧v5=.int .i64 au∧Aside0 (r05_Open.l0 kq l0 ap au aa 4294967295 l0 4=some (r1,r2,r3,r4))∧Aside0 (kq≤k)∧Aside0 (Kd.V (Kd.int .u8) 5 w' w.heap.size (fun k_=>(P0_ k_∨w.heap.size≤k_)∧k_≠am∧k_≠ao) (.slice A0 l0.length c0) l0)∧Aside0 (Kd.V (Kd.int .u8) 5 w' w.heap.size (fun k_=>(P0_ k_∨w.heap.size≤k_)∧k_≠am∧k_≠ao) (.slice A0 l0.length c0) l0)∧Aside0 (w'.heap[am]? = some (.cells #[.int .u64 0, .int .u64 0,(.slice none 0 0), .int .i64 0] 95 (0,0)))∧Aside0 (w'.heap[ao]? = some (.cells #[.int .u64 aa, .int .u64 4294967295,(.slice A0 l0.length c0), .int .i64 4] 95 (0,0)))∧Aside0 (Below w.heap.size w w'))
 case atStart=>exact ⟨(0),(0),(0),yq,yq,H',⟨zX _⟩,⟨yV0 HO0⟩,⟨yV0 HO0⟩,⟨yk ac⟩,⟨ykp ah⟩,⟨yhb⟩⟩
 case round =>
  clear H'
  try clear aw
  try clear ax
  try clear ay
  try clear az
  try clear aA
  try clear aC
  try clear aD
  try clear aE
  obtain ⟨ap,au,aa,rfl,rfl,HA,HK1,aq,ae,ac,ah,HB⟩:=hrel
  obtain ⟨k1,rfl⟩:=ysu gk (fun h=>by subst h;exact absurd HA.out (by simp [r05_Open.l0]))
  have H:=HA.out;clear HA
  simp only [r05_Open.l0] at H
  replace H:=yId H
  obtain ⟨aK,H⟩ | ⟨aK,H⟩:=H
  ·
   obtain ⟨⟨aG,aH⟩,A7,H⟩:=ybi H
   try dsimp only at H
   have H' := zm H
   clear H
   go_wp2_with (first|((with_reducible refine zK (f:=89) rfl ?_);refine ygl 17 Try.func89 #[.slice A0 l0.length c0, .int .i64 ap] ?_;(with_reducible refine (r05_next.calls _ _ l0 ap aG aH _ ?aI ?aJ A7.out).mono ?_);(case aI=>exact yce (zR aq.out).2.2);(case aJ=>exact (zR aq.out).2.1);rintro e w' ⟨rfl,⟨nd,rfl⟩⟩;refine ⟨_,rfl, ?_⟩;(try (rw [drewN_self wr];generalize hq_ : World.drewN wr _=wr;replace aq:=yVq hq_ aq;replace ae:=yVq hq_ ae;replace ac:=ykq hq_ ac;replace ah:=ykq hq_ ah;replace HB:=ysq hq_;clear hq_));have:=ag.out;have:=af.out;obtain ⟨_,_,_,_,_,_,_,_⟩:=yc4 ah))
   go_roundg k1
   case measure=>exact yom1 HK1
   case rel=>exact ⟨(aH),(wrap64 (au+1)),(IntKind.u64.wrap ((IntKind.u64.wrap (aa * 256))+aG)),yq,yq,H',⟨yom1 HK1⟩,⟨yV0 aq⟩,⟨yV0 ae⟩,⟨yk ac⟩,⟨ykp ah⟩,⟨yhb⟩⟩
  simp only [zM,zN] at H
  obtain ⟨rfl,rfl,rfl,rfl⟩:=H
  have:=ag.out
  have:=af.out
  obtain ⟨_,_,_,_,_,_,_,_⟩:=yc4 ah
  obtain ⟨_,_,_,_,_,_,_,_⟩:=yc4 ac
  go_wp2
  refine za1 (zb2 rfl _ _ am 95 #[.int .u64 aa, .int .u64 4294967295, .slice A0 l0.length c0, .int .i64 4] (0,0) _ rfl (ykp ac) Try.underlying95 rfl (by kernel_rfl)) rfl ?_
  exact ⟨_,ye,yV0 ae,yhb⟩
mutual
def r05_Take.j0 : Nat→Int→Int→Int→Int→List Int→Int→Option (Int × Int × List Int × Int)
 | 0,_,_,_,_,_,_=>none
 | k+1,x9,x10,aT,bD,aU,aV=>r05_Take.l0 k (IntKind.u64.wrap (aT - x10)) x9 aU aV
def r05_Take.l0 : Nat→Int→Int→List Int→Int→Option (Int × Int × List Int × Int)
 | 0,_,_,_,_=>none
 | k+1,aJ,aE,aG,aK=>if aE < 16777216 then ((r05_next.f aG aK).bind fun bs=>(r05_Take.l0 k (IntKind.u64.wrap ((IntKind.u64.wrap ((Int.tmod aJ 16777216) * 256))+bs.1)) (IntKind.u64.wrap (aE * 256)) aG bs.2)) else (some (aJ,aE,aG,aK))
end
def r05_Take.f (k : Nat) (ao : Int) (aw : Int) (ae : List Int) (az : Int) (a1 : Int) (a2 : Int) (a3 : Int) : Option (Int × Int × List Int × Int):=(r05_part.f aw a1 a2 a3).bind fun aM=>(if aM.2 > ao then (r05_Take.j0 k aM.1 ao ao aw ae az) else (r05_Take.j0 k aM.1 aM.2 ao aw ae az))
theorem r05_Take.mono_l : ∀ k,(∀ y0 y1 y2 y3 y4 y5,LeO (r05_Take.j0 k y0 y1 y2 y3 y4 y5) (r05_Take.j0 (k+1) y0 y1 y2 y3 y4 y5))∧(∀ y0 y1 y2 y3,LeO (r05_Take.l0 k y0 y1 y2 y3) (r05_Take.l0 (k+1) y0 y1 y2 y3))
 | 0=>⟨fun _ _ _ _ _ _ r h=>by simp [r05_Take.j0] at h,fun _ _ _ _ r h=>by simp [r05_Take.l0] at h⟩
 | k+1=>by
  obtain ⟨ih0,ih1⟩:=r05_Take.mono_l k
  refine ⟨?_, ?_⟩
  ·
   intro y0 y1 y2 y3 y4 y5
   unfold r05_Take.j0
   exact yLm
  intro y0 y1 y2 y3
  unfold r05_Take.l0
  exact yLm
theorem r05_Take.mono : ∀ a0 a1 a2 a3 a4 a5 a6 k,LeO (r05_Take.f k a0 a1 a2 a3 a4 a5 a6) (r05_Take.f (k+1) a0 a1 a2 a3 a4 a5 a6):=by
 intro a0 a1 a2 a3 a4 a5 a6 k
 obtain ⟨ih0,ih1⟩:=r05_Take.mono_l k
 unfold r05_Take.f
 exact yLm
theorem r05_Take.calls (k : Nat) (ao : Int) (aw : Int) (aA : Nat→Prop) (ax : Option Addr) (ay : Nat) (ae : List Int) (az : Int) (a1 : Int) (a2 : Int) (a3 : Int) (r1 : Int) (r2 : Int) (r3 : List Int) (r4 : Int) (w : World) (bv : Kd.V (Kd.int .u8) 5 w w.heap.size (fun k_=>aA k_) (.slice ax ae.length ay) ae) (h : r05_Take.f k ao aw ae az a1 a2 a3=some (r1,r2,r3,r4)) :
  Calls Try.prog 57 #[.agg #[.int .u64 ao, .int .u64 aw, .slice ax ae.length ay, .int .i64 az], .int .i64 a1, .int .i64 a2, .int .i64 a3] w fun e w' => ∃ v2_ : Value,e=.returned (.agg #[.int .u64 r1, .int .u64 r2,v2_, .int .i64 r4])∧Kd.V (Kd.int .u8) 5 w' w.heap.size (fun k_=>(aA k_∨w.heap.size≤k_)) v2_ r3∧Below w.heap.size w w' := by
 have hu95:=Try.underlying95
 have aC:=zm (show Kd.V (Kd.int .u8) 5 w w.heap.size (fun k_=>(aA k_∨w.heap.size≤k_)) (.slice ax ae.length ay) ae from zy bv (fun k_ hk => .inl hk))
 have HB:=zm (zY w.heap.size w);have H:=h
 unfold r05_Take.f at H
 clear h
 obtain ⟨⟨bu,bw⟩,A5,H⟩:=ybi H
 try dsimp only at H
 have HC6:=zm H;clear H
 go_enter Try.func57,Try.ntmps57
 go_upto_if 26 with (first|((with_reducible refine zL (N:=4) rfl ?_);refine ybx 4 #[.int .u64 ao, .int .u64 aw, .slice ax ae.length ay, .int .i64 az] 95 ?_;intro aH hg w7 hbox hb;replace aC:=yVe aC hg hb;have ac:=zm (hbox);have bE:=ygw hg;have bF:=ygw hg;replace HB:=ybs hb;clear hb hbox hg)|((with_reducible refine zL (N:=8) rfl ?_);refine ybx 8 #[.int .u64 0, .int .u64 0, .slice none 0 0, .int .i64 0] 95 ?_;intro aD hg w8 hbox hb;replace aC:=yVe aC hg hb;have ah:=zm (hbox);have bG:=ygw hg;have bH:=ygw hg;replace HB:=ybs hb;have ak:=ynl ac hg;have al:=yng ac hg;replace ac:=ybb ac hb;clear hb hbox hg;have:=ak.out;have:=al.out;obtain ⟨aW,aX,aY,aZ,a7,a8,a9,ba⟩:=yc4 ac)|((with_reducible refine zK (f:=78) rfl ?_);refine ygl 20 Try.func78 #[.int .u64 aw, .int .i64 a1, .int .i64 a2, .int .i64 a3] ?_;(with_reducible refine (r05_part.calls aw a1 a2 a3 bu bw _ A5.out).mono ?_);rintro e w' ⟨rfl,⟨nd,rfl⟩⟩;refine ⟨_,rfl, ?_⟩))
 (try simp only [Act.put,za9,zb0,zb1])
 go_cut [10] (fun v10 wc => ∃ (kq : Nat) (aN : Int),v10=.int .u64 aN∧Aside0 (r05_Take.j0 kq bu aN ao aw ae az=some (r1,r2,r3,r4))∧Aside0 (kq≤k)∧Aside0 (Kd.V (Kd.int .u8) 5 wc w.heap.size (fun k_=>(aA k_∨w.heap.size≤k_)∧k_≠aH∧k_≠aD) (.slice ax ae.length ay) ae)∧Aside0 (wc.heap[aH]? = some (.cells #[.int .u64 ao, .int .u64 aw,(.slice ax ae.length ay), .int .i64 az] 95 (0,0)))∧Aside0 (wc.heap[aD]? = some (.cells #[.int .u64 0, .int .u64 0,(.slice none 0 0), .int .i64 0] 95 (0,0)))∧Aside0 (Below w.heap.size w wc))
 case first =>
  have H:=HC6.out;clear HC6
  replace H:=yIs H
  obtain ⟨aI,H⟩ | ⟨aI,H⟩:=H
  ·
   (first|rw [aI]|(simp only [i64_w,i32_w];rw [aI])|skip)
   have H' := zm H
   clear H
   have:=ak.out
   have:=al.out
   obtain ⟨_,_,_,_,_,_,_,_⟩:=yc4 ac
   go_wp2
   go_meet
   case rel=>exact ⟨_,(ao),yq,H',⟨yo⟩,⟨yV0 aC⟩,⟨yk ac⟩,⟨yk ah⟩,⟨yhb⟩⟩
  (first|rw [aI]|(simp only [i64_w,i32_w];rw [aI])|skip)
  have H' := zm H
  clear H
  go_wp2
  go_meet
  case rel=>exact ⟨_,(bw),yq,H',⟨yo⟩,⟨yV0 aC⟩,⟨yk ac⟩,⟨yk ah⟩,⟨yhb⟩⟩
 case rest =>
  clear HC6
  try clear aW
  try clear aX
  try clear aY
  try clear aZ
  try clear a7
  try clear a8
  try clear a9
  try clear ba
  obtain ⟨kq,aN,rfl,HA,HJ5,aa,ac,ah,HB⟩:=hcut
  obtain ⟨kj5,rfl⟩:=ysu kq (fun h=>by subst h;exact absurd HA.out (by simp [r05_Take.j0]))
  have H:=HA.out;clear HA
  simp only [r05_Take.j0] at H
  have H' := zm H
  clear H
  have:=ak.out
  have:=al.out
  obtain ⟨bb,bc,bd,bf,bg,bh,bi,bj⟩:=yc4 ac
  go_wp2_with (first|((with_reducible refine zL (N:=11) rfl ?_);refine ybx 11 #[.int .u64 0, .int .u64 0, .slice none 0 0, .int .i64 0] 95 ?_;intro aQ hg w16 hbox hb;replace aa:=yVe aa hg hb;have am:=zm (hbox);have bI:=ygw hg;have bJ:=ygw hg;replace HB:=ybs hb;have ap:=ynl ac hg;have aq:=yng ac hg;replace ac:=ybb ac hb;have au:=ynl ah hg;have av:=yng ah hg;replace ah:=ybb ah hb;clear hb hbox hg;have:=aq.out;have:=ap.out;have:=av.out;have:=au.out;obtain ⟨bk,bl,bm,bn,bo,bp,bq,br⟩:=yc4 am))
  go_loopg [] kj5 (fun kq w' => ∃ (ai : Int) (aj : Int) (af : Int),Aside0 (r05_Take.l0 kq ai aj ae af=some (r1,r2,r3,r4))∧Aside0 (kq≤kj5)∧Aside0 (Kd.V (Kd.int .u8) 5 w' w.heap.size (fun k_=>(aA k_∨w.heap.size≤k_)∧k_≠aH∧k_≠aD∧k_≠aQ) (.slice ax ae.length ay) ae)∧Aside0 (Kd.V (Kd.int .u8) 5 w' w.heap.size (fun k_=>(aA k_∨w.heap.size≤k_)∧k_≠aH∧k_≠aD∧k_≠aQ) (.slice ax ae.length ay) ae)∧Aside0 (w'.heap[aH]? = some (.cells #[.int .u64 ao, .int .u64 aw,(.slice ax ae.length ay), .int .i64 az] 95 (0,0)))∧Aside0 (w'.heap[aD]? = some (.cells #[.int .u64 0, .int .u64 0,(.slice none 0 0), .int .i64 0] 95 (0,0)))∧Aside0 (w'.heap[aQ]? = some (.cells #[.int .u64 ai, .int .u64 aj,(.slice ax ae.length ay), .int .i64 af] 95 (0,0)))∧Aside0 (Below w.heap.size w w'))
  case atStart=>exact ⟨(IntKind.u64.wrap (ao - aN)),(bu),(az),H',⟨zX _⟩,⟨yV0 aa⟩,⟨yV0 aa⟩,⟨yk ac⟩,⟨yk ah⟩,⟨ykp am⟩,⟨yhb⟩⟩
  case round =>
   clear H'
   try clear bb
   try clear bc
   try clear bd
   try clear bf
   try clear bk
   try clear bl
   try clear bm
   try clear bn
   try clear bg
   try clear bh
   try clear bi
   try clear bj
   try clear bo
   try clear bp
   try clear bq
   try clear br
   obtain ⟨ai,aj,af,HA,HK2,aa,ag,ac,ah,am,HB⟩:=hrel
   obtain ⟨k2,rfl⟩:=ysu gk (fun h=>by subst h;exact absurd HA.out (by simp [r05_Take.l0]))
   have H:=HA.out;clear HA
   simp only [r05_Take.l0] at H
   replace H:=yId H
   obtain ⟨bx,H⟩ | ⟨bx,H⟩:=H
   ·
    obtain ⟨⟨bz,bA⟩,A21,H⟩:=ybi H
    try dsimp only at H
    have H' := zm H
    clear H
    have:=aq.out
    have:=ap.out
    have:=av.out
    have:=au.out
    obtain ⟨_,_,_,_,_,_,_,_⟩:=yc4 am
    go_wp2_with (first|((with_reducible refine zK (f:=89) rfl ?_);refine ygl 47 Try.func89 #[.slice ax ae.length ay, .int .i64 af] ?_;(with_reducible refine (r05_next.calls _ _ ae af bz bA _ ?bB ?bC A21.out).mono ?_);(case bB=>exact yce (zR ag.out).2.2);(case bC=>exact (zR ag.out).2.1);rintro e w' ⟨rfl,⟨nd,rfl⟩⟩;refine ⟨_,rfl, ?_⟩;(try (rw [drewN_self wr];generalize hq_ : World.drewN wr _=wr;replace aa:=yVq hq_ aa;replace ag:=yVq hq_ ag;replace ac:=ykq hq_ ac;replace ah:=ykq hq_ ah;replace am:=ykq hq_ am;replace HB:=ysq hq_;clear hq_));obtain ⟨_,_,_,_,_,_,_,_⟩:=yc4 am))
    go_roundg k2
    case measure=>exact yom2 HJ5 HK2
    case rel=>exact ⟨(IntKind.u64.wrap ((IntKind.u64.wrap ((Int.tmod ai 16777216) * 256))+bz)),(IntKind.u64.wrap (aj * 256)),(bA),H',⟨yom2 HJ5 HK2⟩,⟨yV0 aa⟩,⟨yV0 ag⟩,⟨yk ac⟩,⟨yk ah⟩,⟨ykp am⟩,⟨yhb⟩⟩
   simp only [zM,zN] at H
   obtain ⟨rfl,rfl,rfl,rfl⟩:=H
   have:=aq.out
   have:=ap.out
   have:=av.out
   have:=au.out
   obtain ⟨_,_,_,_,_,_,_,_⟩:=yc4 am
   have:=al.out
   have:=ak.out
   obtain ⟨_,_,_,_,_,_,_,_⟩:=yc4 ah
   go_wp2
   refine za1 (zb2 rfl _ _ aD 95 #[.int .u64 ai, .int .u64 aj, .slice ax ae.length ay, .int .i64 af] (0,0) _ rfl (ykp ah) Try.underlying95 rfl (by kernel_rfl)) rfl ?_
   exact ⟨_,ye,yV0 ag,yhb⟩
def r05_PutNum.j0 : Nat→Int→Int→Bool→Int→List Int→Option (Int × List Int × Int)
 | 0,_,_,_,_,_=>none
 | k+1,x1,x2,x22,aA,aC=>if x22=true then (some (aA,aC,1)) else (if x2≤65536 then ((r05_Put.f k aA aC (wrap64 (x1)) (wrap64 ((wrap64 (x1))+1)) (wrap64 (x2))).bind fun aV=>(some (aV.1,aV.2.1,aV.2.2))) else ((r05_Put.f k aA aC (wrap64 (IntKind.u64.wrap (Int.tdiv x1 65536))) (wrap64 ((wrap64 (IntKind.u64.wrap (Int.tdiv x1 65536)))+1)) (wrap64 ((wrap64 (IntKind.u64.wrap (Int.tdiv (IntKind.u64.wrap (x2 - 1)) 65536)))+1))).bind fun aQ=>(if aQ.2.2=0 then ((r05_Put.f k aQ.1 aQ.2.1 (wrap64 (Int.tmod x1 65536)) (wrap64 ((wrap64 (Int.tmod x1 65536))+1)) 65536).bind fun aT=>(if aT.2.2=0 then (some (aT.1,aT.2.1,0)) else (some (aA,aC,aT.2.2)))) else (some (aA,aC,aQ.2.2)))))
def r05_PutNum.f (k : Nat) (am : Int) (ai : List Int) (a1 : Int) (a2 : Int) : Option (Int × List Int × Int):=if a2=0 then (r05_PutNum.j0 k a1 a2 true am ai) else (if a2 > 4294967296 then (r05_PutNum.j0 k a1 a2 true am ai) else (r05_PutNum.j0 k a1 a2 (decide (a1 ≥ a2)) am ai))
theorem r05_PutNum.mono_l : ∀ k,(∀ y0 y1 y2 y3 y4,LeO (r05_PutNum.j0 k y0 y1 y2 y3 y4) (r05_PutNum.j0 (k+1) y0 y1 y2 y3 y4))
 | 0=>fun _ _ _ _ _ r h=>by simp [r05_PutNum.j0] at h
 | k+1=>by
  have ih0:=r05_PutNum.mono_l k
  ·
   intro y0 y1 y2 y3 y4
   unfold r05_PutNum.j0
   have i0:=@r05_Put.mono
   exact yLm
theorem r05_PutNum.mono : ∀ a0 a1 a2 a3 k,LeO (r05_PutNum.f k a0 a1 a2 a3) (r05_PutNum.f (k+1) a0 a1 a2 a3):=by
 intro a0 a1 a2 a3 k
 have ih0:=r05_PutNum.mono_l k
 unfold r05_PutNum.f
 have i0:=@r05_Put.mono
 exact yLm
theorem r05_PutNum.calls (k : Nat) (am : Int) (aj : Nat→Prop) (ax : Option Addr) (ay : Nat) (ai : List Int) (a1 : Int) (a2 : Int) (r1 : Int) (r2 : List Int) (r3 : Int) (w : World) (bh : Kd.V (Kd.int .i64) 3 w w.heap.size (fun k_=>aj k_) (.slice ax ai.length ay) ai) (h : r05_PutNum.f k am ai a1 a2=some (r1,r2,r3)) :
  Calls Try.prog 41 #[.agg #[.int .u64 am, .slice ax ai.length ay], .int .u64 a1, .int .u64 a2] w fun e w' => ∃ v1_ : Value,e=.returned (.tuple #[.agg #[.int .u64 r1,v1_], .int .i64 r3])∧Kd.V (Kd.int .i64) 3 w' w.heap.size (fun k_=>(aj k_∨w.heap.size≤k_)) v1_ r2∧Below w.heap.size w w' := by
 have hu69:=Try.underlying69
 have aM:=zm (show Kd.V (Kd.int .i64) 3 w w.heap.size (fun k_=>(aj k_∨w.heap.size≤k_)) (.slice ax ai.length ay) ai from zy bh (fun k_ hk => .inl hk))
 have HB:=zm (zY w.heap.size w);have H:=h
 unfold r05_PutNum.f at H
 clear h;have HC4:=zm H;clear H
 go_enter Try.func41,Try.ntmps41
 go_upto_region 1 with (first|((with_reducible refine zL (N:=3) rfl ?_);refine ybx 3 #[.int .u64 am, .slice ax ai.length ay] 69 ?_;intro ak hg w5 hbox hb;replace aM:=yVe aM hg hb;have ac:=zm (hbox);have bJ:=ygw hg;have bK:=ygw hg;replace HB:=ybs hb;clear hb hbox hg)|((with_reducible refine zL (N:=6) rfl ?_);refine ybx 6 #[.int .u64 0, .slice none 0 0] 69 ?_;intro af hg w6 hbox hb;replace aM:=yVe aM hg hb;have ae:=zm (hbox);have bL:=ygw hg;have bM:=ygw hg;replace HB:=ybs hb;have ao:=ynl ac hg;have ap:=yng ac hg;replace ac:=ybb ac hb;clear hb hbox hg))
 (try simp only [Act.put,za9,zb0,zb1])
 go_cut [22] (fun v22 wc => ∃ (kq : Nat) (aU : Bool),v22=.bool aU∧Aside0 (r05_PutNum.j0 kq a1 a2 aU am ai=some (r1,r2,r3))∧Aside0 (kq≤k)∧Aside0 (Kd.V (Kd.int .i64) 3 wc w.heap.size (fun k_=>(aj k_∨w.heap.size≤k_)∧k_≠ak∧k_≠af) (.slice ax ai.length ay) ai)∧Aside0 (wc.heap[ak]? = some (.cells #[.int .u64 am,(.slice ax ai.length ay)] 69 (0,0)))∧Aside0 (wc.heap[af]? = some (.cells #[.int .u64 0,(.slice none 0 0)] 69 (0,0)))∧Aside0 (Below w.heap.size w wc))
 case first =>
  have H:=HC4.out;clear HC4
  by_cases c7 : a2=0
  ·
   rw [za4 c7] at H
   obtain ⟨aW,bu⟩:=yE c7
   clear c7
   (first|rw [aW]|(simp only [i64_w,i32_w];rw [aW])|skip)
   have H' := zm H
   clear H
   go_wp2
   go_meet
   case rel=>exact ⟨_,(true),yq,H',⟨yo⟩,⟨yV0 aM⟩,⟨yk ac⟩,⟨yk ae⟩,⟨yhb⟩⟩
  rw [za5 c7] at H
  obtain ⟨aW,bu⟩:=yF c7
  (first|rw [aW]|(simp only [i64_w,i32_w];rw [aW])|skip)
  replace H:=yIs H
  obtain ⟨bv,H⟩ | ⟨bv,H⟩:=H
  ·
   have H' := zm H
   clear H
   go_wp2
   go_meet
   case rel=>exact ⟨_,(true),yq,H',⟨yo⟩,⟨yV0 aM⟩,⟨yk ac⟩,⟨yk ae⟩,⟨yhb⟩⟩
  have H' := zm H
  clear H
  go_wp2
  go_meet
  case rel=>exact ⟨_,(decide (a1 ≥ a2)),yq,H',⟨yo⟩,⟨yV0 aM⟩,⟨yk ac⟩,⟨yk ae⟩,⟨yhb⟩⟩
 case rest =>
  clear HC4
  obtain ⟨kq,aU,rfl,HA,HJ3,aa,ac,ae,HB⟩:=hcut
  obtain ⟨kj3,rfl⟩:=ysu kq (fun h=>by subst h;exact absurd HA.out (by simp [r05_PutNum.j0]))
  have H:=HA.out;clear HA
  simp only [r05_PutNum.j0] at H
  by_cases c9 : aU=true
  ·
   subst c9
   rw [za4 rfl] at H
   simp only [zM,zN] at H
   obtain ⟨rfl,rfl,rfl⟩:=H
   have:=ao.out
   have:=ap.out
   obtain ⟨_,_,_,_⟩:=yc2 ac
   obtain ⟨_,_,_,_⟩:=yc2 ae
   go_wp2
   refine za1 (results_ct rfl _ _ af 69 #[.int .u64 am, .slice ax ai.length ay] (0,0) _ rfl (ykp ae) Try.underlying69 rfl (by kernel_rfl)) rfl ?_
   exact ⟨_,ye,yV0 aa,yhb⟩
  replace c9:=za3.mpr c9
  subst c9
  rw [ynf] at H
  replace H:=yId H
  obtain ⟨bi,H⟩ | ⟨bi,H⟩:=H
  ·
   obtain ⟨⟨bj,bk,bw⟩,A14,H⟩:=ybi H
   try dsimp only at H
   simp only [zM,zN] at H
   obtain ⟨rfl,rfl,rfl⟩:=H
   have:=ao.out
   have:=ap.out
   obtain ⟨_,_,_,_⟩:=yc2 ac
   go_wp2_with (first|((with_reducible refine zK (f:=37) rfl ?_);refine ygl 34 Try.func37 #[.agg #[.int .u64 am, .slice ax ai.length ay], .int .i64 (wrap64 (a1)), .int .i64 (wrap64 ((wrap64 (a1))+1)), .int .i64 (wrap64 (a2))] ?_;(with_reducible refine (r05_Put.calls kj3 am (fun k_=>((aj k_∨w.heap.size≤k_)∧(k_≠ak∧k_≠af))) _ _ ai (wrap64 (a1)) (wrap64 ((wrap64 (a1))+1)) (wrap64 (a2)) bj bk bw _ aa.out A14.out).mono ?_);rintro e w17 ⟨bN,rfl,ho0,hb⟩;refine ⟨_,rfl, ?_⟩;replace aa:=yVb aa hb;have ba:=yho (fun k_=>(aj k_∨w.heap.size≤k_)∧k_≠ak∧k_≠af) ho0 (fun k_ hk_=>⟨Or.elim hk_ (fun hs_=>hs_.1) (fun hn_=>(.inr (Nat.le_trans (zE yhb) hn_))),yoB ac hk_,yoB ae hk_⟩);replace ac:=ybb ac hb;replace ae:=ybb ae hb;replace HB:=ybs hb;(try clear hb);(try clear ho0);obtain ⟨_,_,_,_⟩:=yc2 ae;obtain ⟨bx,bz,bA⟩:=zU ba.out;subst bA))
   refine za1 (results_ct rfl _ _ af 69 #[.int .u64 bj, .slice bx bk.length bz] (0,0) _ rfl (ykp ae) Try.underlying69 rfl (by kernel_rfl)) rfl ?_
   exact ⟨_,ye,yV0 ba,yhb⟩
  obtain ⟨⟨aN,az,aY⟩,A20,H⟩:=ybi H
  try dsimp only at H
  by_cases c21 : aY=0
  ·
   rw [za4 c21] at H
   obtain ⟨bl,bm⟩:=yE c21
   clear c21
   obtain ⟨⟨bd,bf,bg⟩,A22,H⟩:=ybi H
   try dsimp only at H
   by_cases c23 : bg=0
   ·
    rw [za4 c23] at H
    obtain ⟨bn,bo⟩:=yE c23
    clear c23
    simp only [zM,zN] at H
    obtain ⟨rfl,rfl,rfl⟩:=H
    have:=ao.out
    have:=ap.out
    obtain ⟨_,_,_,_⟩:=yc2 ac
    go_wp2_with (first|((with_reducible refine zK (f:=37) rfl ?_);refine ygl 51 Try.func37 #[.agg #[.int .u64 am, .slice ax ai.length ay], .int .i64 (wrap64 (IntKind.u64.wrap (Int.tdiv a1 65536))), .int .i64 (wrap64 ((wrap64 (IntKind.u64.wrap (Int.tdiv a1 65536)))+1)), .int .i64 (wrap64 ((wrap64 (IntKind.u64.wrap (Int.tdiv (IntKind.u64.wrap (a2 - 1)) 65536)))+1))] ?_;(with_reducible refine (r05_Put.calls kj3 am (fun k_=>((aj k_∨w.heap.size≤k_)∧(k_≠ak∧k_≠af))) _ _ ai (wrap64 (IntKind.u64.wrap (Int.tdiv a1 65536))) (wrap64 ((wrap64 (IntKind.u64.wrap (Int.tdiv a1 65536)))+1)) (wrap64 ((wrap64 (IntKind.u64.wrap (Int.tdiv (IntKind.u64.wrap (a2 - 1)) 65536)))+1)) aN az aY _ aa.out A20.out).mono ?_);rintro e w26 ⟨bp,rfl,ho0,hb⟩;refine ⟨_,rfl, ?_⟩;replace aa:=yVb aa hb;have ag:=yho (fun k_=>(aj k_∨w.heap.size≤k_)∧k_≠ak∧k_≠af) ho0 (fun k_ hk_=>⟨Or.elim hk_ (fun hs_=>hs_.1) (fun hn_=>(.inr (Nat.le_trans (zE yhb) hn_))),yoB ac hk_,yoB ae hk_⟩);replace ac:=ybb ac hb;replace ae:=ybb ae hb;replace HB:=ybs hb;(try clear hb);(try clear ho0))|((with_reducible refine zL (N:=8) rfl ?_);refine ybx 8 #[.int .u64 0, .slice none 0 0] 69 ?_;intro al hg w27 hbox hb;replace aa:=yVe aa hg hb;replace ag:=yVe ag hg hb;have ah:=zm (hbox);have bb:=ygw hg;have bc:=ygw hg;replace HB:=ybs hb;have aq:=ynl ac hg;have au:=yng ac hg;replace ac:=ybb ac hb;have av:=ynl ae hg;have aw:=yng ae hg;replace ae:=ybb ae hb;clear hb hbox hg;have:=au.out;have:=aq.out;have:=aw.out;have:=av.out;obtain ⟨_,_,_,_⟩:=yc2 ah;obtain ⟨aZ,a7,bB⟩:=zU ag.out;subst bB)|((with_reducible refine zb8 (t:=69) (p:=8) rfl ?_);refine za2 (t:=69) (p:=8) (v := ?vo_w32) (w1:=((w27.setCell ⟨al,0,none⟩ (.int .u64 aN)).setCell ⟨al,1,none⟩ (.slice aZ az.length a7))) ?hg ?ho ?hn ?hr ?_;(case ho=>rfl);(case hg=>rfl);(case hn=>rfl);(case hr=>first|(go_simp;done)|(go_simp;rfl));intro w32 hw;replace aa : Aside0 (Kd.V (Kd.int .i64) 3 w32 w.heap.size (fun k_=>(aj k_∨w.heap.size≤k_)∧k_≠ak∧k_≠af∧k_≠al) (.slice ax ai.length ay) ai):=⟨(by rw [hw];exact (yV0 aa))⟩;replace ag : Aside0 (Kd.V (Kd.int .i64) 3 w32 w.heap.size (fun k_=>(aj k_∨w.heap.size≤k_)∧k_≠ak∧k_≠af∧k_≠al) (.slice aZ az.length a7) az):=⟨(by rw [hw];exact (yV0 ag))⟩;replace ac : Aside0 (w32.heap[ak]? = some (.cells #[.int .u64 am, .slice ax ai.length ay] 69 (0,0))):=⟨(by rw [hw];exact (yk ac))⟩;replace ae : Aside0 (w32.heap[af]? = some (.cells #[.int .u64 0, .slice none 0 0] 69 (0,0))):=⟨(by rw [hw];exact (yk ae))⟩;replace ah : Aside0 (w32.heap[al]? = some (.cells #[.int .u64 aN, .slice aZ az.length a7] 69 (0,0))):=⟨(by rw [hw];exact (ykp ah))⟩;replace HB : Aside0 (Below w.heap.size w w32):=⟨(by rw [hw];exact yhb)⟩;clear hw;obtain ⟨_,_,_,_⟩:=yc2 ah)|((with_reducible refine zK (f:=37) rfl ?_);refine ygl 67 Try.func37 #[.agg #[.int .u64 aN, .slice aZ az.length a7], .int .i64 (wrap64 (Int.tmod a1 65536)), .int .i64 (wrap64 ((wrap64 (Int.tmod a1 65536))+1)), .int .i64 65536] ?_;(with_reducible refine (r05_Put.calls kj3 aN (fun k_=>((aj k_∨w.heap.size≤k_)∧(k_≠ak∧(k_≠af∧k_≠al)))) _ _ az (wrap64 (Int.tmod a1 65536)) (wrap64 ((wrap64 (Int.tmod a1 65536))+1)) 65536 bd bf bg _ ag.out A22.out).mono ?_);rintro e w34 ⟨bC,rfl,ho0,hb⟩;refine ⟨_,rfl, ?_⟩;replace aa:=yVb aa hb;replace ag:=yVb ag hb;have aK:=yho (fun k_=>(aj k_∨w.heap.size≤k_)∧k_≠ak∧k_≠af∧k_≠al) ho0 (fun k_ hk_=>⟨Or.elim hk_ (fun hs_=>hs_.1) (fun hn_=>(.inr (Nat.le_trans (zE yhb) hn_))),yoB ac hk_,yoB ae hk_,yoB ah hk_⟩);replace ac:=ybb ac hb;replace ae:=ybb ae hb;replace ah:=ybb ah hb;replace HB:=ybs hb;(try clear hb);(try clear ho0))|((with_reducible refine zL (N:=10) rfl ?_);refine ybx 10 #[.int .u64 0, .slice none 0 0] 69 ?_;intro bq hg w35 hbox hb;replace aa:=yVe aa hg hb;replace ag:=yVe ag hg hb;replace aK:=yVe aK hg hb;have aX:=zm (hbox);have br:=ygw hg;have bs:=ygw hg;replace HB:=ybs hb;have aD:=ynl ac hg;have aE:=yng ac hg;replace ac:=ybb ac hb;have aG:=ynl ae hg;have aH:=yng ae hg;replace ae:=ybb ae hb;have aI:=ynl ah hg;have aJ:=yng ah hg;replace ah:=ybb ah hb;clear hb hbox hg;have:=aE.out;have:=aD.out;have:=aH.out;have:=aG.out;have:=aJ.out;have:=aI.out;obtain ⟨_,_,_,_⟩:=yc2 aX;obtain ⟨bD,bE,bF⟩:=zU aK.out;subst bF;obtain ⟨_,_,_,_⟩:=yc2 ae))
    refine za1 (results_ct rfl _ _ af 69 #[.int .u64 bd, .slice bD bf.length bE] (0,0) _ rfl (ykp ae) Try.underlying69 rfl (by kernel_rfl)) rfl ?_
    exact ⟨_,ye,yV0 aK,yhb⟩
   rw [za5 c23] at H
   obtain ⟨bn,bo⟩:=yF c23
   simp only [zM,zN] at H
   obtain ⟨rfl,rfl,rfl⟩:=H
   have:=ao.out
   have:=ap.out
   obtain ⟨_,_,_,_⟩:=yc2 ac
   go_wp2_with (first|((with_reducible refine zK (f:=37) rfl ?_);refine ygl 51 Try.func37 #[.agg #[.int .u64 am, .slice ax ai.length ay], .int .i64 (wrap64 (IntKind.u64.wrap (Int.tdiv a1 65536))), .int .i64 (wrap64 ((wrap64 (IntKind.u64.wrap (Int.tdiv a1 65536)))+1)), .int .i64 (wrap64 ((wrap64 (IntKind.u64.wrap (Int.tdiv (IntKind.u64.wrap (a2 - 1)) 65536)))+1))] ?_;(with_reducible refine (r05_Put.calls kj3 am (fun k_=>((aj k_∨w.heap.size≤k_)∧(k_≠ak∧k_≠af))) _ _ ai (wrap64 (IntKind.u64.wrap (Int.tdiv a1 65536))) (wrap64 ((wrap64 (IntKind.u64.wrap (Int.tdiv a1 65536)))+1)) (wrap64 ((wrap64 (IntKind.u64.wrap (Int.tdiv (IntKind.u64.wrap (a2 - 1)) 65536)))+1)) aN az aY _ aa.out A20.out).mono ?_);rintro e w44 ⟨bp,rfl,ho0,hb⟩;refine ⟨_,rfl, ?_⟩;replace aa:=yVb aa hb;have ag:=yho (fun k_=>(aj k_∨w.heap.size≤k_)∧k_≠ak∧k_≠af) ho0 (fun k_ hk_=>⟨Or.elim hk_ (fun hs_=>hs_.1) (fun hn_=>(.inr (Nat.le_trans (zE yhb) hn_))),yoB ac hk_,yoB ae hk_⟩);replace ac:=ybb ac hb;replace ae:=ybb ae hb;replace HB:=ybs hb;(try clear hb);(try clear ho0))|((with_reducible refine zL (N:=8) rfl ?_);refine ybx 8 #[.int .u64 0, .slice none 0 0] 69 ?_;intro al hg w45 hbox hb;replace aa:=yVe aa hg hb;replace ag:=yVe ag hg hb;have ah:=zm (hbox);have bb:=ygw hg;have bc:=ygw hg;replace HB:=ybs hb;have aq:=ynl ac hg;have au:=yng ac hg;replace ac:=ybb ac hb;have av:=ynl ae hg;have aw:=yng ae hg;replace ae:=ybb ae hb;clear hb hbox hg;have:=au.out;have:=aq.out;have:=aw.out;have:=av.out;obtain ⟨_,_,_,_⟩:=yc2 ah;obtain ⟨a8,a9,bG⟩:=zU ag.out;subst bG)|((with_reducible refine zb8 (t:=69) (p:=8) rfl ?_);refine za2 (t:=69) (p:=8) (v := ?vo_w50) (w1:=((w45.setCell ⟨al,0,none⟩ (.int .u64 aN)).setCell ⟨al,1,none⟩ (.slice a8 az.length a9))) ?hg ?ho ?hn ?hr ?_;(case ho=>rfl);(case hg=>rfl);(case hn=>rfl);(case hr=>first|(go_simp;done)|(go_simp;rfl));intro w50 hw;replace aa : Aside0 (Kd.V (Kd.int .i64) 3 w50 w.heap.size (fun k_=>(aj k_∨w.heap.size≤k_)∧k_≠ak∧k_≠af∧k_≠al) (.slice ax ai.length ay) ai):=⟨(by rw [hw];exact (yV0 aa))⟩;replace ag : Aside0 (Kd.V (Kd.int .i64) 3 w50 w.heap.size (fun k_=>(aj k_∨w.heap.size≤k_)∧k_≠ak∧k_≠af∧k_≠al) (.slice a8 az.length a9) az):=⟨(by rw [hw];exact (yV0 ag))⟩;replace ac : Aside0 (w50.heap[ak]? = some (.cells #[.int .u64 am, .slice ax ai.length ay] 69 (0,0))):=⟨(by rw [hw];exact (yk ac))⟩;replace ae : Aside0 (w50.heap[af]? = some (.cells #[.int .u64 0, .slice none 0 0] 69 (0,0))):=⟨(by rw [hw];exact (yk ae))⟩;replace ah : Aside0 (w50.heap[al]? = some (.cells #[.int .u64 aN, .slice a8 az.length a9] 69 (0,0))):=⟨(by rw [hw];exact (ykp ah))⟩;replace HB : Aside0 (Below w.heap.size w w50):=⟨(by rw [hw];exact yhb)⟩;clear hw;obtain ⟨_,_,_,_⟩:=yc2 ah)|((with_reducible refine zK (f:=37) rfl ?_);refine ygl 67 Try.func37 #[.agg #[.int .u64 aN, .slice a8 az.length a9], .int .i64 (wrap64 (Int.tmod a1 65536)), .int .i64 (wrap64 ((wrap64 (Int.tmod a1 65536))+1)), .int .i64 65536] ?_;(with_reducible refine (r05_Put.calls kj3 aN (fun k_=>((aj k_∨w.heap.size≤k_)∧(k_≠ak∧(k_≠af∧k_≠al)))) _ _ az (wrap64 (Int.tmod a1 65536)) (wrap64 ((wrap64 (Int.tmod a1 65536))+1)) 65536 bd bf bg _ ag.out A22.out).mono ?_);rintro e w52 ⟨bC,rfl,ho0,hb⟩;refine ⟨_,rfl, ?_⟩;replace aa:=yVb aa hb;replace ag:=yVb ag hb;have aK:=yho (fun k_=>(aj k_∨w.heap.size≤k_)∧k_≠ak∧k_≠af∧k_≠al) ho0 (fun k_ hk_=>⟨Or.elim hk_ (fun hs_=>hs_.1) (fun hn_=>(.inr (Nat.le_trans (zE yhb) hn_))),yoB ac hk_,yoB ae hk_,yoB ah hk_⟩);replace ac:=ybb ac hb;replace ae:=ybb ae hb;replace ah:=ybb ah hb;replace HB:=ybs hb;(try clear hb);(try clear ho0))|((with_reducible refine zL (N:=10) rfl ?_);refine ybx 10 #[.int .u64 0, .slice none 0 0] 69 ?_;intro bq hg w53 hbox hb;replace aa:=yVe aa hg hb;replace ag:=yVe ag hg hb;replace aK:=yVe aK hg hb;have aX:=zm (hbox);have br:=ygw hg;have bs:=ygw hg;replace HB:=ybs hb;have aD:=ynl ac hg;have aE:=yng ac hg;replace ac:=ybb ac hb;have aG:=ynl ae hg;have aH:=yng ae hg;replace ae:=ybb ae hb;have aI:=ynl ah hg;have aJ:=yng ah hg;replace ah:=ybb ah hb;clear hb hbox hg;have:=aE.out;have:=aD.out;have:=aH.out;have:=aG.out;have:=aJ.out;have:=aI.out;obtain ⟨_,_,_,_⟩:=yc2 aX;obtain ⟨bO,bP,bH⟩:=zU aK.out;subst bH;obtain ⟨_,_,_,_⟩:=yc2 ac;obtain ⟨_,_,_,_⟩:=yc2 ae))
   refine za1 (results_ct rfl _ _ af 69 #[.int .u64 am, .slice ax ai.length ay] (0,0) _ rfl (ykp ae) Try.underlying69 rfl (by kernel_rfl)) rfl ?_
   exact ⟨_,ye,yV0 aa,yhb⟩
  rw [za5 c21] at H
  obtain ⟨bl,bm⟩:=yF c21
  simp only [zM,zN] at H
  obtain ⟨rfl,rfl,rfl⟩:=H
  have:=ao.out
  have:=ap.out
  obtain ⟨_,_,_,_⟩:=yc2 ac
  go_wp2_with (first|((with_reducible refine zK (f:=37) rfl ?_);refine ygl 51 Try.func37 #[.agg #[.int .u64 am, .slice ax ai.length ay], .int .i64 (wrap64 (IntKind.u64.wrap (Int.tdiv a1 65536))), .int .i64 (wrap64 ((wrap64 (IntKind.u64.wrap (Int.tdiv a1 65536)))+1)), .int .i64 (wrap64 ((wrap64 (IntKind.u64.wrap (Int.tdiv (IntKind.u64.wrap (a2 - 1)) 65536)))+1))] ?_;(with_reducible refine (r05_Put.calls kj3 am (fun k_=>((aj k_∨w.heap.size≤k_)∧(k_≠ak∧k_≠af))) _ _ ai (wrap64 (IntKind.u64.wrap (Int.tdiv a1 65536))) (wrap64 ((wrap64 (IntKind.u64.wrap (Int.tdiv a1 65536)))+1)) (wrap64 ((wrap64 (IntKind.u64.wrap (Int.tdiv (IntKind.u64.wrap (a2 - 1)) 65536)))+1)) aN az aY _ aa.out A20.out).mono ?_);rintro e w63 ⟨bp,rfl,ho0,hb⟩;refine ⟨_,rfl, ?_⟩;replace aa:=yVb aa hb;have ag:=yho (fun k_=>(aj k_∨w.heap.size≤k_)∧k_≠ak∧k_≠af) ho0 (fun k_ hk_=>⟨Or.elim hk_ (fun hs_=>hs_.1) (fun hn_=>(.inr (Nat.le_trans (zE yhb) hn_))),yoB ac hk_,yoB ae hk_⟩);replace ac:=ybb ac hb;replace ae:=ybb ae hb;replace HB:=ybs hb;(try clear hb);(try clear ho0))|((with_reducible refine zL (N:=8) rfl ?_);refine ybx 8 #[.int .u64 0, .slice none 0 0] 69 ?_;intro al hg w64 hbox hb;replace aa:=yVe aa hg hb;replace ag:=yVe ag hg hb;have ah:=zm (hbox);have bb:=ygw hg;have bc:=ygw hg;replace HB:=ybs hb;have aq:=ynl ac hg;have au:=yng ac hg;replace ac:=ybb ac hb;have av:=ynl ae hg;have aw:=yng ae hg;replace ae:=ybb ae hb;clear hb hbox hg;have:=au.out;have:=aq.out;have:=aw.out;have:=av.out;obtain ⟨_,_,_,_⟩:=yc2 ah;obtain ⟨bQ,bR,bI⟩:=zU ag.out;subst bI;obtain ⟨_,_,_,_⟩:=yc2 ac;obtain ⟨_,_,_,_⟩:=yc2 ae))
  refine za1 (results_ct rfl _ _ af 69 #[.int .u64 am, .slice ax ai.length ay] (0,0) _ rfl (ykp ae) Try.underlying69 rfl (by kernel_rfl)) rfl ?_
  exact ⟨_,ye,yV0 aa,yhb⟩
def r05_TakeNum.f (k : Nat) (ak : Int) (al : Int) (af : List Int) (am : Int) (a1 : Int) : Option (Int × Int × List Int × Int × Int):=if a1≤65536 then ((r05_Get.f ak al af am (wrap64 (a1))).bind fun aH=>((r05_Take.f k ak al af am aH (wrap64 (aH+1)) (wrap64 (a1))).bind fun aJ=>(some (aJ.1,aJ.2.1,aJ.2.2.1,aJ.2.2.2,IntKind.u64.wrap (aH))))) else ((r05_Get.f ak al af am (wrap64 ((wrap64 (IntKind.u64.wrap (Int.tdiv (IntKind.u64.wrap (a1 - 1)) 65536)))+1))).bind fun aq=>((r05_Take.f k ak al af am aq (wrap64 (aq+1)) (wrap64 ((wrap64 (IntKind.u64.wrap (Int.tdiv (IntKind.u64.wrap (a1 - 1)) 65536)))+1))).bind fun ay=>((r05_Get.f ay.1 ay.2.1 ay.2.2.1 ay.2.2.2 65536).bind fun au=>((r05_Take.f k ay.1 ay.2.1 ay.2.2.1 ay.2.2.2 au (wrap64 (au+1)) 65536).bind fun az=>(if (IntKind.u64.wrap ((IntKind.u64.wrap ((IntKind.u64.wrap (aq)) * 65536))+(IntKind.u64.wrap (au)))) > (IntKind.u64.wrap (a1 - 1)) then (some (az.1,az.2.1,az.2.2.1,az.2.2.2,IntKind.u64.wrap (a1 - 1))) else (some (az.1,az.2.1,az.2.2.1,az.2.2.2,IntKind.u64.wrap ((IntKind.u64.wrap ((IntKind.u64.wrap (aq)) * 65536))+(IntKind.u64.wrap (au))))))))))
theorem r05_TakeNum.mono : ∀ a0 a1 a2 a3 a4 k,LeO (r05_TakeNum.f k a0 a1 a2 a3 a4) (r05_TakeNum.f (k+1) a0 a1 a2 a3 a4):=by
 intro a0 a1 a2 a3 a4 k
 unfold r05_TakeNum.f
 have i0:=@r05_Take.mono
 exact yLm
theorem r05_TakeNum.calls (k : Nat) (ak : Int) (al : Int) (aj : Nat→Prop) (aA : Option Addr) (aC : Nat) (af : List Int) (am : Int) (a1 : Int) (r1 : Int) (r2 : Int) (r3 : List Int) (r4 : Int) (r5 : Int) (w : World) (a9 : Kd.V (Kd.int .u8) 5 w w.heap.size (fun k_=>aj k_) (.slice aA af.length aC) af) (h : r05_TakeNum.f k ak al af am a1=some (r1,r2,r3,r4,r5)) :
  Calls Try.prog 59 #[.agg #[.int .u64 ak, .int .u64 al, .slice aA af.length aC, .int .i64 am], .int .u64 a1] w fun e w' => ∃ v2_ : Value,e=.returned (.tuple #[.agg #[.int .u64 r1, .int .u64 r2,v2_, .int .i64 r4], .int .u64 r5])∧Kd.V (Kd.int .u8) 5 w' w.heap.size (fun k_=>(aj k_∨w.heap.size≤k_)) v2_ r3∧Below w.heap.size w w' := by
 have hu95:=Try.underlying95
 have ac:=zm (show Kd.V (Kd.int .u8) 5 w w.heap.size (fun k_=>(aj k_∨w.heap.size≤k_)) (.slice aA af.length aC) af from zy a9 (fun k_ hk => .inl hk))
 have HB:=zm (zY w.heap.size w);have H:=h
 unfold r05_TakeNum.f at H
 clear h
 replace H:=yId H
 obtain ⟨bg,H⟩ | ⟨bg,H⟩:=H
 ·
  obtain ⟨aH,A4,H⟩:=ybi H
  obtain ⟨⟨ba,bb,bc,bd⟩,A5,H⟩:=ybi H
  try dsimp only at H
  simp only [zM,zN] at H
  obtain ⟨rfl,rfl,rfl,rfl,rfl⟩:=H
  go_enter Try.func59,Try.ntmps59
  go_wp2_with (first|((with_reducible refine zL (N:=2) rfl ?_);refine ybx 2 #[.int .u64 ak, .int .u64 al, .slice aA af.length aC, .int .i64 am] 95 ?_;intro ai hg w6 hbox hb;replace ac:=yVe ac hg hb;have aa:=zm (hbox);have aV:=ygw hg;have aW:=ygw hg;replace HB:=ybs hb;clear hb hbox hg)|((with_reducible refine zL (N:=4) rfl ?_);refine ybx 4 #[.int .u64 0, .int .u64 0, .slice none 0 0, .int .i64 0] 95 ?_;intro ag hg w7 hbox hb;replace ac:=yVe ac hg hb;have ae:=zm (hbox);have aX:=ygw hg;have aY:=ygw hg;replace HB:=ybs hb;have ao:=ynl aa hg;have ap:=yng aa hg;replace aa:=ybb aa hb;clear hb hbox hg;have:=ao.out;have:=ap.out;obtain ⟨_,_,_,_,_,_,_,_⟩:=yc4 aa)|((with_reducible refine zK (f:=56) rfl ?_);refine ygl 16 Try.func56 #[.agg #[.int .u64 ak, .int .u64 al, .slice aA af.length aC, .int .i64 am], .int .i64 (wrap64 (a1))] ?_;(with_reducible refine (r05_Get.calls ak al _ _ af am (wrap64 (a1)) aH _ ?av ?aw A4.out).mono ?_);(case av=>exact yce (zR ac.out).2.2);(case aw=>exact (zR ac.out).2.1);rintro e w10 ⟨rfl,hb⟩;refine ⟨_,rfl, ?_⟩;replace ac:=yVb ac hb;replace aa:=ybb aa hb;replace ae:=ybb ae hb;replace HB:=ybs hb;(try clear hb);obtain ⟨_,_,_,_,_,_,_,_⟩:=yc4 aa)|((with_reducible refine zK (f:=57) rfl ?_);refine ygl 23 Try.func57 #[.agg #[.int .u64 ak, .int .u64 al, .slice aA af.length aC, .int .i64 am], .int .i64 aH, .int .i64 (wrap64 (aH+1)), .int .i64 (wrap64 (a1))] ?_;(with_reducible refine (r05_Take.calls k ak al (fun k_=>(((aj k_∨w.heap.size≤k_)∧k_≠ai)∧k_≠ag)) _ _ af am aH (wrap64 (aH+1)) (wrap64 (a1)) ba bb bc bd _ ac.out A5.out).mono ?_);rintro e w12 ⟨bv,rfl,ho0,hb⟩;refine ⟨_,rfl, ?_⟩;replace ac:=yVb ac hb;have aZ:=yho (fun k_=>(aj k_∨w.heap.size≤k_)∧k_≠ai∧k_≠ag) ho0 (fun k_ hk_=>⟨Or.elim hk_ (fun hs_=>hs_.1.1) (fun hn_=>(.inr (Nat.le_trans (zE yhb) hn_))),yoB aa hk_,yoB ae hk_⟩);replace aa:=ybb aa hb;replace ae:=ybb ae hb;replace HB:=ybs hb;(try clear hb);(try clear ho0);obtain ⟨_,_,_,_,_,_,_,_⟩:=yc4 ae;obtain ⟨bh,bi,bj⟩:=zU aZ.out;subst bj))
  refine za1 (results_ct rfl _ _ ag 95 #[.int .u64 ba, .int .u64 bb, .slice bh bc.length bi, .int .i64 bd] (0,0) _ rfl (ykp ae) Try.underlying95 rfl (by kernel_rfl)) rfl ?_
  exact ⟨_,ye,yV0 aZ,yhb⟩
 obtain ⟨aq,A15,H⟩:=ybi H
 obtain ⟨⟨aD,aE,ax,aG⟩,A16,H⟩:=ybi H
 try dsimp only at H
 obtain ⟨au,A17,H⟩:=ybi H
 obtain ⟨⟨aK,aM,aN,aQ⟩,A18,H⟩:=ybi H
 try dsimp only at H
 replace H:=yIs H
 obtain ⟨bf,H⟩ | ⟨bf,H⟩:=H
 ·
  simp only [zM,zN] at H
  obtain ⟨rfl,rfl,rfl,rfl,rfl⟩:=H
  go_enter Try.func59,Try.ntmps59
  go_wp2_with (first|((with_reducible refine zL (N:=2) rfl ?_);refine ybx 2 #[.int .u64 ak, .int .u64 al, .slice aA af.length aC, .int .i64 am] 95 ?_;intro ai hg w20 hbox hb;replace ac:=yVe ac hg hb;have aa:=zm (hbox);have aV:=ygw hg;have aW:=ygw hg;replace HB:=ybs hb;clear hb hbox hg)|((with_reducible refine zL (N:=4) rfl ?_);refine ybx 4 #[.int .u64 0, .int .u64 0, .slice none 0 0, .int .i64 0] 95 ?_;intro ag hg w21 hbox hb;replace ac:=yVe ac hg hb;have ae:=zm (hbox);have aX:=ygw hg;have aY:=ygw hg;replace HB:=ybs hb;have ao:=ynl aa hg;have ap:=yng aa hg;replace aa:=ybb aa hb;clear hb hbox hg;have:=ao.out;have:=ap.out;obtain ⟨_,_,_,_,_,_,_,_⟩:=yc4 aa)|((with_reducible refine zK (f:=56) rfl ?_);refine ygl 33 Try.func56 #[.agg #[.int .u64 ak, .int .u64 al, .slice aA af.length aC, .int .i64 am], .int .i64 (wrap64 ((wrap64 (IntKind.u64.wrap (Int.tdiv (IntKind.u64.wrap (a1 - 1)) 65536)))+1))] ?_;(with_reducible refine (r05_Get.calls ak al _ _ af am (wrap64 ((wrap64 (IntKind.u64.wrap (Int.tdiv (IntKind.u64.wrap (a1 - 1)) 65536)))+1)) aq _ ?av ?aw A15.out).mono ?_);(case av=>exact yce (zR ac.out).2.2);(case aw=>exact (zR ac.out).2.1);rintro e w24 ⟨rfl,hb⟩;refine ⟨_,rfl, ?_⟩;replace ac:=yVb ac hb;replace aa:=ybb aa hb;replace ae:=ybb ae hb;replace HB:=ybs hb;(try clear hb);obtain ⟨_,_,_,_,_,_,_,_⟩:=yc4 aa)|((with_reducible refine zK (f:=57) rfl ?_);refine ygl 39 Try.func57 #[.agg #[.int .u64 ak, .int .u64 al, .slice aA af.length aC, .int .i64 am], .int .i64 aq, .int .i64 (wrap64 (aq+1)), .int .i64 (wrap64 ((wrap64 (IntKind.u64.wrap (Int.tdiv (IntKind.u64.wrap (a1 - 1)) 65536)))+1))] ?_;(with_reducible refine (r05_Take.calls k ak al (fun k_=>(((aj k_∨w.heap.size≤k_)∧k_≠ai)∧k_≠ag)) _ _ af am aq (wrap64 (aq+1)) (wrap64 ((wrap64 (IntKind.u64.wrap (Int.tdiv (IntKind.u64.wrap (a1 - 1)) 65536)))+1)) aD aE ax aG _ ac.out A16.out).mono ?_);rintro e w26 ⟨bk,rfl,ho0,hb⟩;refine ⟨_,rfl, ?_⟩;replace ac:=yVb ac hb;have ah:=yho (fun k_=>(aj k_∨w.heap.size≤k_)∧k_≠ai∧k_≠ag) ho0 (fun k_ hk_=>⟨Or.elim hk_ (fun hs_=>hs_.1.1) (fun hn_=>(.inr (Nat.le_trans (zE yhb) hn_))),yoB aa hk_,yoB ae hk_⟩);replace aa:=ybb aa hb;replace ae:=ybb ae hb;replace HB:=ybs hb;(try clear hb);(try clear ho0);obtain ⟨_,_,_,_,_,_,_,_⟩:=yc4 aa;obtain ⟨a7,aT,bl⟩:=zU ah.out;subst bl)|((with_reducible refine zK (f:=56) rfl ?_);refine ygl 41 Try.func56 #[.agg #[.int .u64 aD, .int .u64 aE, .slice a7 ax.length aT, .int .i64 aG], .int .i64 65536] ?_;(with_reducible refine (r05_Get.calls aD aE _ _ ax aG 65536 au _ ?av ?aw A17.out).mono ?_);(case av=>refine (zR (e:=5) (base:=w.heap.size) (ok:=fun k_=>((aj k_∨w.heap.size≤k_)∧(k_≠ai∧k_≠ag))) (n:=ax.length) (c:=aT) ?_).2.2;exact (yV0 ah));(case aw=>exact (zR ah.out).2.1);rintro e w29 ⟨rfl,hb⟩;refine ⟨_,rfl, ?_⟩;replace ac:=zm (Kd.V_below (yV0 ac) hb);replace ah:=zm (Kd.V_below (yV0 ah) hb);replace aa:=zm (zF (g:=ai) (o:=.cells #[.int .u64 aD, .int .u64 aE, .slice a7 ax.length aT, .int .i64 aG] 95 (0,0)) (ykp aa) hb);replace ae:=ybb ae hb;replace HB:=ybs hb;(try clear hb);obtain ⟨_,_,_,_,_,_,_,_⟩:=yc4 aa)|((with_reducible refine zK (f:=57) rfl ?_);refine ygl 46 Try.func57 #[.agg #[.int .u64 aD, .int .u64 aE, .slice a7 ax.length aT, .int .i64 aG], .int .i64 au, .int .i64 (wrap64 (au+1)), .int .i64 65536] ?_;(with_reducible refine (r05_Take.calls k aD aE (fun k_=>((aj k_∨w.heap.size≤k_)∧(k_≠ai∧k_≠ag))) _ _ ax aG au (wrap64 (au+1)) 65536 aK aM aN aQ _ ah.out A18.out).mono ?_);rintro e w31 ⟨bm,rfl,ho0,hb⟩;refine ⟨_,rfl, ?_⟩;replace ac:=yVb ac hb;replace ah:=yVb ah hb;have aI:=yho (fun k_=>(aj k_∨w.heap.size≤k_)∧k_≠ai∧k_≠ag) ho0 (fun k_ hk_=>⟨Or.elim hk_ (fun hs_=>hs_.1) (fun hn_=>(.inr (Nat.le_trans (zE yhb) hn_))),yoB aa hk_,yoB ae hk_⟩);replace aa:=ybb aa hb;replace ae:=ybb ae hb;replace HB:=ybs hb;(try clear hb);(try clear ho0);obtain ⟨_,_,_,_,_,_,_,_⟩:=yc4 aa;obtain ⟨bn,bo,bp⟩:=zU aI.out;subst bp;obtain ⟨_,_,_,_,_,_,_,_⟩:=yc4 ae))
  refine za1 (results_ct rfl _ _ ag 95 #[.int .u64 aK, .int .u64 aM, .slice bn aN.length bo, .int .i64 aQ] (0,0) _ rfl (ykp ae) Try.underlying95 rfl (by kernel_rfl)) rfl ?_
  exact ⟨_,ye,yV0 aI,yhb⟩
 simp only [zM,zN] at H
 obtain ⟨rfl,rfl,rfl,rfl,rfl⟩:=H
 go_enter Try.func59,Try.ntmps59
 go_wp2_with (first|((with_reducible refine zL (N:=2) rfl ?_);refine ybx 2 #[.int .u64 ak, .int .u64 al, .slice aA af.length aC, .int .i64 am] 95 ?_;intro ai hg w35 hbox hb;replace ac:=yVe ac hg hb;have aa:=zm (hbox);have aV:=ygw hg;have aW:=ygw hg;replace HB:=ybs hb;clear hb hbox hg)|((with_reducible refine zL (N:=4) rfl ?_);refine ybx 4 #[.int .u64 0, .int .u64 0, .slice none 0 0, .int .i64 0] 95 ?_;intro ag hg w36 hbox hb;replace ac:=yVe ac hg hb;have ae:=zm (hbox);have aX:=ygw hg;have aY:=ygw hg;replace HB:=ybs hb;have ao:=ynl aa hg;have ap:=yng aa hg;replace aa:=ybb aa hb;clear hb hbox hg;have:=ao.out;have:=ap.out;obtain ⟨_,_,_,_,_,_,_,_⟩:=yc4 aa)|((with_reducible refine zK (f:=56) rfl ?_);refine ygl 33 Try.func56 #[.agg #[.int .u64 ak, .int .u64 al, .slice aA af.length aC, .int .i64 am], .int .i64 (wrap64 ((wrap64 (IntKind.u64.wrap (Int.tdiv (IntKind.u64.wrap (a1 - 1)) 65536)))+1))] ?_;(with_reducible refine (r05_Get.calls ak al _ _ af am (wrap64 ((wrap64 (IntKind.u64.wrap (Int.tdiv (IntKind.u64.wrap (a1 - 1)) 65536)))+1)) aq _ ?av ?aw A15.out).mono ?_);(case av=>exact yce (zR ac.out).2.2);(case aw=>exact (zR ac.out).2.1);rintro e w39 ⟨rfl,hb⟩;refine ⟨_,rfl, ?_⟩;replace ac:=yVb ac hb;replace aa:=ybb aa hb;replace ae:=ybb ae hb;replace HB:=ybs hb;(try clear hb);obtain ⟨_,_,_,_,_,_,_,_⟩:=yc4 aa)|((with_reducible refine zK (f:=57) rfl ?_);refine ygl 39 Try.func57 #[.agg #[.int .u64 ak, .int .u64 al, .slice aA af.length aC, .int .i64 am], .int .i64 aq, .int .i64 (wrap64 (aq+1)), .int .i64 (wrap64 ((wrap64 (IntKind.u64.wrap (Int.tdiv (IntKind.u64.wrap (a1 - 1)) 65536)))+1))] ?_;(with_reducible refine (r05_Take.calls k ak al (fun k_=>(((aj k_∨w.heap.size≤k_)∧k_≠ai)∧k_≠ag)) _ _ af am aq (wrap64 (aq+1)) (wrap64 ((wrap64 (IntKind.u64.wrap (Int.tdiv (IntKind.u64.wrap (a1 - 1)) 65536)))+1)) aD aE ax aG _ ac.out A16.out).mono ?_);rintro e w41 ⟨bk,rfl,ho0,hb⟩;refine ⟨_,rfl, ?_⟩;replace ac:=yVb ac hb;have ah:=yho (fun k_=>(aj k_∨w.heap.size≤k_)∧k_≠ai∧k_≠ag) ho0 (fun k_ hk_=>⟨Or.elim hk_ (fun hs_=>hs_.1.1) (fun hn_=>(.inr (Nat.le_trans (zE yhb) hn_))),yoB aa hk_,yoB ae hk_⟩);replace aa:=ybb aa hb;replace ae:=ybb ae hb;replace HB:=ybs hb;(try clear hb);(try clear ho0);obtain ⟨_,_,_,_,_,_,_,_⟩:=yc4 aa;obtain ⟨a8,aU,bq⟩:=zU ah.out;subst bq)|((with_reducible refine zK (f:=56) rfl ?_);refine ygl 41 Try.func56 #[.agg #[.int .u64 aD, .int .u64 aE, .slice a8 ax.length aU, .int .i64 aG], .int .i64 65536] ?_;(with_reducible refine (r05_Get.calls aD aE _ _ ax aG 65536 au _ ?av ?aw A17.out).mono ?_);(case av=>refine (zR (e:=5) (base:=w.heap.size) (ok:=fun k_=>((aj k_∨w.heap.size≤k_)∧(k_≠ai∧k_≠ag))) (n:=ax.length) (c:=aU) ?_).2.2;exact (yV0 ah));(case aw=>exact (zR ah.out).2.1);rintro e w44 ⟨rfl,hb⟩;refine ⟨_,rfl, ?_⟩;replace ac:=zm (Kd.V_below (yV0 ac) hb);replace ah:=zm (Kd.V_below (yV0 ah) hb);replace aa:=zm (zF (g:=ai) (o:=.cells #[.int .u64 aD, .int .u64 aE, .slice a8 ax.length aU, .int .i64 aG] 95 (0,0)) (ykp aa) hb);replace ae:=ybb ae hb;replace HB:=ybs hb;(try clear hb);obtain ⟨_,_,_,_,_,_,_,_⟩:=yc4 aa)|((with_reducible refine zK (f:=57) rfl ?_);refine ygl 46 Try.func57 #[.agg #[.int .u64 aD, .int .u64 aE, .slice a8 ax.length aU, .int .i64 aG], .int .i64 au, .int .i64 (wrap64 (au+1)), .int .i64 65536] ?_;(with_reducible refine (r05_Take.calls k aD aE (fun k_=>((aj k_∨w.heap.size≤k_)∧(k_≠ai∧k_≠ag))) _ _ ax aG au (wrap64 (au+1)) 65536 aK aM aN aQ _ ah.out A18.out).mono ?_);rintro e w46 ⟨bm,rfl,ho0,hb⟩;refine ⟨_,rfl, ?_⟩;replace ac:=yVb ac hb;replace ah:=yVb ah hb;have aI:=yho (fun k_=>(aj k_∨w.heap.size≤k_)∧k_≠ai∧k_≠ag) ho0 (fun k_ hk_=>⟨Or.elim hk_ (fun hs_=>hs_.1) (fun hn_=>(.inr (Nat.le_trans (zE yhb) hn_))),yoB aa hk_,yoB ae hk_⟩);replace aa:=ybb aa hb;replace ae:=ybb ae hb;replace HB:=ybs hb;(try clear hb);(try clear ho0);obtain ⟨_,_,_,_,_,_,_,_⟩:=yc4 aa;obtain ⟨br,bs,bu⟩:=zU aI.out;subst bu;obtain ⟨_,_,_,_,_,_,_,_⟩:=yc4 ae))
 refine za1 (results_ct rfl _ _ ag 95 #[.int .u64 aK, .int .u64 aM, .slice br aN.length bs, .int .i64 aQ] (0,0) _ rfl (ykp ae) Try.underlying95 rfl (by kernel_rfl)) rfl ?_
 exact ⟨_,ye,yV0 aI,yhb⟩
mutual
def r11_Take.l0 : Nat→List Int→Bool→List Int→Int→Int→Int→List Int→Int→Option (Int × Int × List Int × Int × List Int)
 | 0,_,_,_,_,_,_,_,_=>none
 | k+1,x1,x2,x8,x9,aq,au,av,aw=>if x9 < 5 then (if x2=true then (r11_Take.j1 k x1 x2 x8 x9 7 aq au av aw) else ((r05_Get.f aq au av aw 8).bind fun aJ=>((r05_Take.f k aq au av aw aJ (wrap64 (aJ+1)) 8).bind fun aT=>(r11_Take.j1 k x1 x2 x8 x9 aJ aT.1 aT.2.1 aT.2.2.1 aT.2.2.2)))) else (some (aq,au,av,aw,x8))
def r11_Take.j1 : Nat→List Int→Bool→List Int→Int→Int→Int→Int→List Int→Int→Option (Int × Int × List Int × Int × List Int)
 | 0,_,_,_,_,_,_,_,_,_=>none
 | k+1,x1,x2,x8,x9,x10,aq,au,av,aw=>if x10=7 then ((r05_TakeNum.f k aq au av aw 45).bind fun aM=>(if x8.length < 17592186044416 then (r11_Take.l0 k x1 x2 (x8 ++ [wrap64 (aM.2.2.2.2)]) (wrap64 (x9+1)) aM.1 aM.2.1 aM.2.2.1 aM.2.2.2.1) else (none))) else (if 0≤x9 then (if x9 < (x1.length : Int) then (if (wrap64 ((wrap64 ((rd x1 x9)+x10)) - 3)) < 0 then (if x8.length < 17592186044416 then (r11_Take.l0 k x1 x2 (x8 ++ [0]) (wrap64 (x9+1)) aq au av aw) else (none)) else (if (wrap64 ((wrap64 ((rd x1 x9)+x10)) - 3)) > 44 then (if x8.length < 17592186044416 then (r11_Take.l0 k x1 x2 (x8 ++ [44]) (wrap64 (x9+1)) aq au av aw) else (none)) else (if x8.length < 17592186044416 then (r11_Take.l0 k x1 x2 (x8 ++ [wrap64 ((wrap64 ((rd x1 x9)+x10)) - 3)]) (wrap64 (x9+1)) aq au av aw) else (none)))) else (none)) else (none))
end
def r11_Take.f (k : Nat) (aU : Int) (aV : Int) (aI : List Int) (aW : Int) (l1 : List Int) (a2 : Bool) : Option (Int × Int × List Int × Int × List Int):=r11_Take.l0 k l1 a2 ([] : List Int) 0 aU aV aI aW
theorem r11_Take.mono_l : ∀ k,(∀ y0 y1 y2 y3 y4 y5 y6 y7,LeO (r11_Take.l0 k y0 y1 y2 y3 y4 y5 y6 y7) (r11_Take.l0 (k+1) y0 y1 y2 y3 y4 y5 y6 y7))∧(∀ y0 y1 y2 y3 y4 y5 y6 y7 y8,LeO (r11_Take.j1 k y0 y1 y2 y3 y4 y5 y6 y7 y8) (r11_Take.j1 (k+1) y0 y1 y2 y3 y4 y5 y6 y7 y8))
 | 0=>⟨fun _ _ _ _ _ _ _ _ r h=>by simp [r11_Take.l0] at h,fun _ _ _ _ _ _ _ _ _ r h=>by simp [r11_Take.j1] at h⟩
 | k+1=>by
  obtain ⟨ih0,ih1⟩:=r11_Take.mono_l k
  have i0:=@r05_Take.mono;have i1:=@r05_TakeNum.mono
  refine ⟨?_, ?_⟩
  ·
   intro y0 y1 y2 y3 y4 y5 y6 y7
   unfold r11_Take.l0
   exact yLm
  intro y0 y1 y2 y3 y4 y5 y6 y7 y8
  unfold r11_Take.j1
  exact yLm
theorem r11_Take.mono : ∀ a0 a1 a2 a3 a4 a5 k,LeO (r11_Take.f k a0 a1 a2 a3 a4 a5) (r11_Take.f (k+1) a0 a1 a2 a3 a4 a5):=by
 intro a0 a1 a2 a3 a4 a5 k
 obtain ⟨ih0,ih1⟩:=r11_Take.mono_l k
 have i0:=@r05_Take.mono;have i1:=@r05_TakeNum.mono
 unfold r11_Take.f
 exact yLm
theorem r11_Take.calls (k : Nat) (aU : Int) (aV : Int) (ax : Nat→Prop) (a9 : Option Addr) (ba : Nat) (aI : List Int) (aW : Int) (A1 : Option Addr) (c1 : Nat) (l1 : List Int) (a2 : Bool) (r1 : Int) (r2 : Int) (r3 : List Int) (r4 : Int) (r5 : List Int) (w : World) (br : Kd.V (Kd.int .u8) 5 w w.heap.size (fun k_=>ax k_) (.slice a9 aI.length ba) aI) (hr1 : Kd.C (Kd.int .i64) w A1 l1.length l1) (hc1 : l1.length≤c1) (h : r11_Take.f k aU aV aI aW l1 a2=some (r1,r2,r3,r4,r5)) :
  Calls Try.prog 58 #[.agg #[.int .u64 aU, .int .u64 aV, .slice a9 aI.length ba, .int .i64 aW], .slice A1 l1.length c1, .bool a2] w fun e w' => ∃ v2_ v4_ : Value,e=.returned (.tuple #[.agg #[.int .u64 r1, .int .u64 r2,v2_, .int .i64 r4],v4_])∧Kd.V (Kd.int .u8) 5 w' w.heap.size (fun k_=>(ax k_∨w.heap.size≤k_)∧some k_≠(v4_ : Value).ownBlock) v2_ r3∧Kd.R (Kd.int .i64) 3 w' w.heap.size (fun k_=>(w.heap.size≤k_)) v4_ r5∧Below w.heap.size w w' := by
 have hu95:=Try.underlying95
 have aN:=zm (show Kd.V (Kd.int .u8) 5 w w.heap.size (fun k_=>(ax k_∨w.heap.size≤k_)) (.slice a9 aI.length ba) aI from zy br (fun k_ hk => .inl hk))
 have HR1:=zm hr1;have HC1:=zm hc1;clear hr1 hc1;have HB:=zm (zY w.heap.size w);have H:=h
 unfold r11_Take.f at H
 clear h
 have H' := zm H
 clear H
 go_enter Try.func58,Try.ntmps58
 go_wp2_with (first|((with_reducible refine zL (N:=3) rfl ?_);refine ybx 3 #[.int .u64 aU, .int .u64 aV, .slice a9 aI.length ba, .int .i64 aW] 95 ?_;intro ay hg w4 hbox hb;replace aN:=yVe aN hg hb;have ac:=zm (hbox);have b9:=ygw hg;have ca:=ygw hg;replace HB:=ybs hb;clear hb hbox hg)|((with_reducible refine zL (N:=6) rfl ?_);refine ybx 6 #[.int .u64 0, .int .u64 0, .slice none 0 0, .int .i64 0] 95 ?_;intro az hg w5 hbox hb;replace aN:=yVe aN hg hb;have ae:=zm (hbox);have cb:=ygw hg;have cf:=ygw hg;replace HB:=ybs hb;have aD:=ynl ac hg;have aE:=yng ac hg;replace ac:=ybb ac hb;clear hb hbox hg))
 go_loopg [8,9] k (fun kq v8 v9 w' => ∃ (aG : List Int) (aC : Int) (aj : Int) (ak : Int) (al : List Int) (am : Int) (ap : Value),v9=.int .i64 aC∧Aside0 (r11_Take.l0 kq l1 a2 aG aC aj ak al am=some (r1,r2,r3,r4,r5))∧Aside0 (kq≤k)∧Aside0 (Kd.R (Kd.int .i64) 3 w' w.heap.size (fun k_=>(w.heap.size≤k_)) v8 aG)∧Aside0 (Kd.V (Kd.int .u8) 5 w' w.heap.size (fun k_=>(ax k_∨w.heap.size≤k_)∧some k_≠(v8 : Value).ownBlock∧k_≠ay∧k_≠az) ap al)∧Aside0 (w'.heap[ay]? = some (.cells #[.int .u64 aj, .int .u64 ak,ap, .int .i64 am] 95 (0,0)))∧Aside0 (w'.heap[az]? = some (.cells #[.int .u64 0, .int .u64 0,(.slice none 0 0), .int .i64 0] 95 (0,0)))∧Aside0 (Below w.heap.size w w'))
 case atStart=>exact ⟨(([] : List Int)),(0),(aU),(aV),(aI),(aW),(.slice a9 aI.length ba),yq,H',⟨zX _⟩,⟨yn⟩,⟨yV0 aN⟩,⟨yk ac⟩,⟨yk ae⟩,⟨yhb⟩⟩
 case round =>
  clear H'
  try clear c1
  obtain ⟨aG,aC,aj,ak,al,am,ap,rfl,HA,HK1,ao,aa,ac,ae,HB⟩:=hrel
  obtain ⟨k1,rfl⟩:=ysu gk (fun h=>by subst h;exact absurd HA.out (by simp [r11_Take.l0]))
  have H:=HA.out;clear HA
  simp only [r11_Take.l0] at H
  replace H:=yId H
  obtain ⟨bs,H⟩ | ⟨bs,H⟩:=H
  ·
   have HC7:=zm H;clear H
   go_upto_if 19 with (fail)
   go_cut [10] (fun v10 wc => ∃ (kq : Nat) (aH : Int) (af : Int) (ag : Int) (ah : List Int) (ai : Int) (ap : Value),v10=.int .i64 aH∧Aside0 (r11_Take.j1 kq l1 a2 aG aC aH af ag ah ai=some (r1,r2,r3,r4,r5))∧Aside0 (kq≤k1)∧Aside0 (Kd.R (Kd.int .i64) 3 wc w.heap.size (fun k_=>(w.heap.size≤k_)) u8 aG)∧Aside0 (Kd.V (Kd.int .u8) 5 wc w.heap.size (fun k_=>(ax k_∨w.heap.size≤k_)∧some k_≠(u8 : Value).ownBlock∧k_≠ay∧k_≠az) ap ah)∧Aside0 (wc.heap[ay]? = some (.cells #[.int .u64 af, .int .u64 ag,ap, .int .i64 ai] 95 (0,0)))∧Aside0 (wc.heap[az]? = some (.cells #[.int .u64 0, .int .u64 0,(.slice none 0 0), .int .i64 0] 95 (0,0)))∧Aside0 (Below w.heap.size w wc))
   case first =>
    have H:=HC7.out;clear HC7
    by_cases c8 : a2=true
    ·
     subst c8
     rw [za4 rfl] at H
     have H' := zm H
     clear H
     go_wp2
     go_meet
     case rel=>exact ⟨_,(7),(aj),(ak),(al),(am),(ap),yq,H',⟨yom1 HK1⟩,⟨yr ao⟩,⟨yr aa⟩,⟨yk ac⟩,⟨yk ae⟩,⟨yhb⟩⟩
    replace c8:=za3.mpr c8
    subst c8
    rw [ynf] at H
    obtain ⟨aJ,A9,H⟩:=ybi H
    obtain ⟨⟨bu,bv,bo,bw⟩,A10,H⟩:=ybi H
    try dsimp only at H
    have H' := zm H
    clear H
    have:=aD.out
    have:=aE.out
    obtain ⟨_,_,_,_,_,_,_,_⟩:=yc4 ac
    obtain ⟨bx,bz,bU⟩:=zU aa.out
    subst bU
    go_wp2_with (first|((with_reducible refine zK (f:=56) rfl ?_);refine ygl 21 Try.func56 #[.agg #[.int .u64 aj, .int .u64 ak, .slice bx al.length bz, .int .i64 am], .int .i64 8] ?_;(with_reducible refine (r05_Get.calls aj ak _ _ al am 8 aJ _ ?bA ?bB A9.out).mono ?_);(case bA=>exact yce (zR aa.out).2.2);(case bB=>exact (zR aa.out).2.1);rintro e w14 ⟨rfl,hb⟩;refine ⟨_,rfl, ?_⟩;replace ao:=yRb ao hb;replace aa:=yVb aa hb;replace ac:=ybb ac hb;replace ae:=ybb ae hb;replace HB:=ybs hb;(try clear hb);obtain ⟨_,_,_,_,_,_,_,_⟩:=yc4 ac)|((with_reducible refine zK (f:=57) rfl ?_);refine ygl 26 Try.func57 #[.agg #[.int .u64 aj, .int .u64 ak, .slice bx al.length bz, .int .i64 am], .int .i64 aJ, .int .i64 (wrap64 (aJ+1)), .int .i64 8] ?_;(with_reducible refine (r05_Take.calls k1 aj ak (fun k_=>((ax k_∨w.heap.size≤k_)∧(some k_≠(u8 : Value).ownBlock∧(k_≠ay∧k_≠az)))) _ _ al am aJ (wrap64 (aJ+1)) 8 bu bv bo bw _ aa.out A10.out).mono ?_);rintro e w16 ⟨ck,rfl,ho0,hb⟩;refine ⟨_,rfl, ?_⟩;replace aa:=yVb aa hb;have bm:=yho (fun k_=>(ax k_∨w.heap.size≤k_)∧some k_≠(u8 : Value).ownBlock∧k_≠ay∧k_≠az) ho0 (fun k_ hk_=>⟨Or.elim hk_ (fun hs_=>hs_.1) (fun hn_=>(.inr (Nat.le_trans (zE yhb) hn_))),yoR ao hk_,yoB ac hk_,yoB ae hk_⟩);replace ao:=yRb ao hb;replace ac:=ybb ac hb;replace ae:=ybb ae hb;replace HB:=ybs hb;(try clear hb);(try clear ho0);obtain ⟨_,_,_,_,_,_,_,_⟩:=yc4 ac;obtain ⟨bV,bW,bX⟩:=zU bm.out;subst bX))
    go_meet
    case rel=>exact ⟨_,(aJ),(bu),(bv),(bo),(bw),(.slice bV bo.length bW),yq,H',⟨yom1 HK1⟩,⟨yR1 ao ac⟩,⟨yV0 bm⟩,⟨ykp ac⟩,⟨yk ae⟩,⟨yhb⟩⟩
   case rest =>
    clear HC7
    try clear bs
    obtain ⟨kq,aH,af,ag,ah,ai,ap,rfl,HA,HJ6,ao,aa,ac,ae,HB⟩:=hcut
    obtain ⟨kj6,rfl⟩:=ysu kq (fun h=>by subst h;exact absurd HA.out (by simp [r11_Take.j1]))
    have H:=HA.out;clear HA
    simp only [r11_Take.j1] at H
    by_cases c19 : aH=7
    ·
     rw [za4 c19] at H
     obtain ⟨bC,bD⟩:=yE c19
     clear c19
     obtain ⟨⟨bb,bc,aX,bd,bl⟩,A20,H⟩:=ybi H
     try dsimp only at H
     obtain ⟨c21,H⟩:=yif H
     have LMc21:=zm c21;clear c21
     obtain ⟨bE,bf⟩ : ∃ y_ : List Int,y_=(aG ++ [wrap64 (bl)]):=⟨_,rfl⟩
     replace H : (r11_Take.l0 kj6 l1 a2 bE (wrap64 (aC+1)) bb bc aX bd)=some (r1,r2,r3,r4,r5):=yrw bf H
     have bF:=zm bf;clear bf
     have H' := zm H
     clear H
     have:=aD.out
     have:=aE.out
     obtain ⟨_,_,_,_,_,_,_,_⟩:=yc4 ac
     obtain ⟨bY,bZ,b4⟩:=zU aa.out
     subst b4
     go_wp2_with (first|((with_reducible refine zK (f:=59) rfl ?_);refine ygl 31 Try.func59 #[.agg #[.int .u64 af, .int .u64 ag, .slice bY ah.length bZ, .int .i64 ai], .int .u64 45] ?_;(with_reducible refine (r05_TakeNum.calls kj6 af ag (fun k_=>((ax k_∨w.heap.size≤k_)∧(some k_≠(u8 : Value).ownBlock∧(k_≠ay∧k_≠az)))) _ _ ah ai 45 bb bc aX bd bl _ aa.out A20.out).mono ?_);rintro e w25 ⟨cl,rfl,ho0,hb⟩;refine ⟨_,rfl, ?_⟩;replace aa:=yVb aa hb;have aK:=yho (fun k_=>(ax k_∨w.heap.size≤k_)∧some k_≠(u8 : Value).ownBlock∧k_≠ay∧k_≠az) ho0 (fun k_ hk_=>⟨Or.elim hk_ (fun hs_=>hs_.1) (fun hn_=>(.inr (Nat.le_trans (zE yhb) hn_))),yoR ao hk_,yoB ac hk_,yoB ae hk_⟩);replace ao:=yRb ao hb;replace ac:=ybb ac hb;replace ae:=ybb ae hb;replace HB:=ybs hb;(try clear hb);(try clear ho0))|((with_reducible refine zL (N:=11) rfl ?_);refine ybx 11 #[.int .u64 0, .int .u64 0, .slice none 0 0, .int .i64 0] 95 ?_;intro bg hg w26 hbox hb;replace ao:=yRb ao hb;replace aa:=yVe aa hg hb;replace aK:=yVe aK hg hb;have aQ:=zm (hbox);have cg:=ygw hg;have ch:=ygw hg;replace HB:=ybs hb;have aY:=ynl ac hg;have aZ:=yng ac hg;replace ac:=ybb ac hb;have a7:=ynl ae hg;have a8:=yng ae hg;replace ae:=ybb ae hb;clear hb hbox hg;have:=aZ.out;have:=aY.out;have:=a8.out;have:=a7.out;obtain ⟨_,_,_,_,_,_,_,_⟩:=yc4 aQ;obtain ⟨bp,bq,b5⟩:=zU aK.out;subst b5;obtain ⟨_,_,_,_,_,_,_,_⟩:=yc4 ac)|((with_reducible refine zb9 (b:=.append) (xs := #[.tmp 35, .tmp 38]) rfl ?_);at_builtin;refine Kd.R_append (Kd.int .i64) (w0:=w) w.heap.size rfl (.tmp 35) (.tmp 38) 49 3 (.int .i64 0) 8 rfl Try.underlying49 info3 rfl (by decide) (by omega) u8 aG (wrap64 (bl)) [.int .i64 (wrap64 (bl))] (fun k_=>(w.heap.size≤k_)) (fun _=>False) rfl (by first|(go_simp;done)|(go_simp;rfl)) ?aP (fun _ hk=>hk.elim) ?aF ?aO ?aB ?aS ?aL ?_;(case aP=>exact rfl);(case aB=>exact yhb);(case aF=>exact (fun k_ hk=>(Nat.le_trans (zE yhb) hk)));(case aO=>exact (yR2 ao aQ ac));(case aS=>exact (zE yhb));(case aL=>have:=LMc21.out;omega);intro cm w32 ho hb hg hat;rw [← bF.out] at ho;replace aa:=zm (zc1 (ok:=(fun k_=>(ax k_∨w.heap.size≤k_)∧k_≠ay∧k_≠az∧k_≠bg)) (yV0 aa) hg hat);replace ac:=zm (zc3 (g:=ay) (o:=.cells #[.int .u64 bb, .int .u64 bc, .slice bp aX.length bq, .int .i64 bd] 95 (0,0)) (ykp ac) hg (zu ao.out ac.out (by decide)));replace ae:=zm (zc3 (yk ae) hg (zu ao.out ae.out (by decide)));replace aK:=zm (zc1 (ok:=(fun k_=>(ax k_∨w.heap.size≤k_)∧k_≠ay∧k_≠az∧k_≠bg)) (yV0 aK) hg hat);replace aQ:=zm (zc3 (g:=bg) (o:=.cells #[.int .u64 bb, .int .u64 bc, .slice bp aX.length bq, .int .i64 bd] 95 (0,0)) (ykp aQ) hg (zu ao.out aQ.out (by decide)));replace HB:=zm (hb);have bG:=zm (ho);clear ao;clear ho hb hg hat))
     go_roundg kj6
     case measure=>exact yom2 HK1 HJ6
     case rel=>exact ⟨(bE),(wrap64 (aC+1)),(bb),(bc),(aX),(bd),(.slice bp aX.length bq),yq,H',⟨yom2 HK1 HJ6⟩,⟨yr bG⟩,⟨yV0 aK⟩,⟨yk ac⟩,⟨yk ae⟩,⟨yhb⟩⟩
    rw [za5 c19] at H
    obtain ⟨bC,bD⟩:=yF c19
    obtain ⟨c33,H⟩:=yif H
    have ci : decide (0≤aC)=true:=decide_eq_true c33
    clear c33
    obtain ⟨c34,H⟩:=yif H
    have cj : decide (aC < (l1.length : Int))=true:=decide_eq_true c34
    clear c34
    replace H:=yId H
    obtain ⟨bH,H⟩ | ⟨bH,H⟩:=H
    ·
     obtain ⟨c36,H⟩:=yif H
     have LMc36:=zm c36;clear c36
     obtain ⟨bI,bh⟩ : ∃ y_ : List Int,y_=(aG ++ [0]):=⟨_,rfl⟩
     replace H : (r11_Take.l0 kj6 l1 a2 bI (wrap64 (aC+1)) af ag ah ai)=some (r1,r2,r3,r4,r5):=yrw bh H
     have bJ:=zm bh;clear bh
     have H' := zm H
     clear H
     obtain ⟨⟨bn,bi,aA⟩,bK,bL⟩:=yat (zb7 HR1.out aC)
     cases bi
     replace aA:=yhx HB aA
     go_wp2_with (first|((with_reducible refine zb9 (b:=.append) (xs := #[.tmp 51, .tmp 53]) rfl ?_);at_builtin;refine Kd.R_append (Kd.int .i64) (w0:=w) w.heap.size rfl (.tmp 51) (.tmp 53) 49 3 (.int .i64 0) 8 rfl Try.underlying49 info3 rfl (by decide) (by omega) u8 aG 0 [.int .i64 0] (fun k_=>(w.heap.size≤k_)) (fun _=>False) rfl rfl ?aP (fun _ hk=>hk.elim) ?aF ?aO ?aB ?aS ?aL ?_;(case aP=>exact rfl);(case aB=>exact yhb);(case aF=>exact (fun k_ hk=>(Nat.le_trans (zE yhb) hk)));(case aO=>exact (yr ao));(case aS=>exact (zE yhb));(case aL=>have:=LMc36.out;omega);intro cn w37 ho hb hg hat;rw [← bJ.out] at ho;replace aa:=zm (zc1 (ok:=(fun k_=>(ax k_∨w.heap.size≤k_)∧k_≠ay∧k_≠az)) (yV0 aa) hg hat);replace ac:=zm (zc3 (yk ac) hg (zu ao.out ac.out (by decide)));replace ae:=zm (zc3 (yk ae) hg (zu ao.out ae.out (by decide)));replace HB:=zm (hb);have bM:=zm (ho);clear ao;clear ho hb hg hat))
     go_roundg kj6
     case measure=>exact yom2 HK1 HJ6
     case rel=>exact ⟨(bI),(wrap64 (aC+1)),(af),(ag),(ah),(ai),(ap),yq,H',⟨yom2 HK1 HJ6⟩,⟨yr bM⟩,⟨yV0 aa⟩,⟨yk ac⟩,⟨yk ae⟩,⟨yhb⟩⟩
    by_cases c38 : (wrap64 ((wrap64 ((rd l1 aC)+aH)) - 3)) > 44
    ·
     rw [za4 c38] at H
     have bN:=yDs c38
     clear c38
     obtain ⟨c39,H⟩:=yif H
     have LMc39:=zm c39;clear c39
     obtain ⟨bO,bj⟩ : ∃ y_ : List Int,y_=(aG ++ [44]):=⟨_,rfl⟩
     replace H : (r11_Take.l0 kj6 l1 a2 bO (wrap64 (aC+1)) af ag ah ai)=some (r1,r2,r3,r4,r5):=yrw bj H
     have bP:=zm bj;clear bj
     have H' := zm H
     clear H
     obtain ⟨⟨bn,bi,aA⟩,bK,bL⟩:=yat (zb7 HR1.out aC)
     cases bi
     replace aA:=yhx HB aA
     go_wp2_with (first|((with_reducible refine zb9 (b:=.append) (xs := #[.tmp 51, .tmp 53]) rfl ?_);at_builtin;refine Kd.R_append (Kd.int .i64) (w0:=w) w.heap.size rfl (.tmp 51) (.tmp 53) 49 3 (.int .i64 0) 8 rfl Try.underlying49 info3 rfl (by decide) (by omega) u8 aG 44 [.int .i64 44] (fun k_=>(w.heap.size≤k_)) (fun _=>False) rfl rfl ?aP (fun _ hk=>hk.elim) ?aF ?aO ?aB ?aS ?aL ?_;(case aP=>exact rfl);(case aB=>exact yhb);(case aF=>exact (fun k_ hk=>(Nat.le_trans (zE yhb) hk)));(case aO=>exact (yr ao));(case aS=>exact (zE yhb));(case aL=>have:=LMc39.out;omega);intro co w40 ho hb hg hat;rw [← bP.out] at ho;replace aa:=zm (zc1 (ok:=(fun k_=>(ax k_∨w.heap.size≤k_)∧k_≠ay∧k_≠az)) (yV0 aa) hg hat);replace ac:=zm (zc3 (yk ac) hg (zu ao.out ac.out (by decide)));replace ae:=zm (zc3 (yk ae) hg (zu ao.out ae.out (by decide)));replace HB:=zm (hb);have bQ:=zm (ho);clear ao;clear ho hb hg hat))
     go_roundg kj6
     case measure=>exact yom2 HK1 HJ6
     case rel=>exact ⟨(bO),(wrap64 (aC+1)),(af),(ag),(ah),(ai),(ap),yq,H',⟨yom2 HK1 HJ6⟩,⟨yr bQ⟩,⟨yV0 aa⟩,⟨yk ac⟩,⟨yk ae⟩,⟨yhb⟩⟩
    rw [za5 c38] at H
    have bN:=yGs c38
    clear c38
    obtain ⟨c41,H⟩:=yif H
    have LMc41:=zm c41;clear c41
    obtain ⟨bR,bk⟩ : ∃ y_ : List Int,y_=(aG ++ [wrap64 ((wrap64 ((rd l1 aC)+aH)) - 3)]):=⟨_,rfl⟩
    replace H : (r11_Take.l0 kj6 l1 a2 bR (wrap64 (aC+1)) af ag ah ai)=some (r1,r2,r3,r4,r5):=yrw bk H
    have bS:=zm bk;clear bk
    have H' := zm H
    clear H
    obtain ⟨⟨bn,bi,aA⟩,bK,bL⟩:=yat (zb7 HR1.out aC)
    cases bi
    replace aA:=yhx HB aA
    go_wp2_with (first|((with_reducible refine zb9 (b:=.append) (xs := #[.tmp 51, .tmp 53]) rfl ?_);at_builtin;refine Kd.R_append (Kd.int .i64) (w0:=w) w.heap.size rfl (.tmp 51) (.tmp 53) 49 3 (.int .i64 0) 8 rfl Try.underlying49 info3 rfl (by decide) (by omega) u8 aG (wrap64 ((wrap64 ((rd l1 aC)+aH)) - 3)) [.int .i64 (wrap64 ((wrap64 ((rd l1 aC)+aH)) - 3))] (fun k_=>(w.heap.size≤k_)) (fun _=>False) rfl rfl ?aP (fun _ hk=>hk.elim) ?aF ?aO ?aB ?aS ?aL ?_;(case aP=>exact rfl);(case aB=>exact yhb);(case aF=>exact (fun k_ hk=>(Nat.le_trans (zE yhb) hk)));(case aO=>exact (yr ao));(case aS=>exact (zE yhb));(case aL=>have:=LMc41.out;omega);intro cp w42 ho hb hg hat;rw [← bS.out] at ho;replace aa:=zm (zc1 (ok:=(fun k_=>(ax k_∨w.heap.size≤k_)∧k_≠ay∧k_≠az)) (yV0 aa) hg hat);replace ac:=zm (zc3 (yk ac) hg (zu ao.out ac.out (by decide)));replace ae:=zm (zc3 (yk ae) hg (zu ao.out ae.out (by decide)));replace HB:=zm (hb);have bT:=zm (ho);clear ao;clear ho hb hg hat))
    go_roundg kj6
    case measure=>exact yom2 HK1 HJ6
    case rel=>exact ⟨(bR),(wrap64 (aC+1)),(af),(ag),(ah),(ai),(ap),yq,H',⟨yom2 HK1 HJ6⟩,⟨yr bT⟩,⟨yV0 aa⟩,⟨yk ac⟩,⟨yk ae⟩,⟨yhb⟩⟩
  simp only [zM,zN] at H
  obtain ⟨rfl,rfl,rfl,rfl,rfl⟩:=H
  have:=aD.out
  have:=aE.out
  obtain ⟨_,_,_,_,_,_,_,_⟩:=yc4 ac
  obtain ⟨_,_,_,_,_,_,_,_⟩:=yc4 ae
  obtain ⟨b6,b7,b8⟩:=zU aa.out
  subst b8
  go_wp2
  refine za1 (results_ct rfl _ _ az 95 #[.int .u64 aj, .int .u64 ak, .slice b6 al.length b7, .int .i64 am] (0,0) _ rfl (ykp ae) Try.underlying95 rfl (by kernel_rfl)) rfl ?_
  exact ⟨_,_,ye,yV0 aa,yR1 ao ae,yhb⟩
mutual
def r11_Put.j0 : Nat→List Int→List Int→Bool→Bool→Int→List Int→Option (Int × List Int × Int)
 | 0,_,_,_,_,_,_=>none
 | k+1,x1,x2,x3,x26,ap,aq=>if x26=true then (some (ap,aq,1)) else (r11_Put.l0 k x1 x2 x3 0 ap aq ap aq)
def r11_Put.l0 : Nat→List Int→List Int→Bool→Int→Int→List Int→Int→List Int→Option (Int × List Int × Int)
 | 0,_,_,_,_,_,_,_,_=>none
 | k+1,x1,x2,x3,x11,ap,aq,aD,aE=>if x11 < 5 then (if x3=true then (r11_Put.j3 k x1 x2 x3 x11 x3 ap aq aD aE) else (if 0≤x11 then (if x11 < (x1.length : Int) then (if x11 < (x2.length : Int) then (if (wrap64 ((wrap64 ((rd x1 x11) - (rd x2 x11)))+3)) < 0 then (r11_Put.j2 k x1 x2 x3 x11 x3 (wrap64 ((wrap64 ((rd x1 x11) - (rd x2 x11)))+3)) true ap aq aD aE) else (r11_Put.j2 k x1 x2 x3 x11 x3 (wrap64 ((wrap64 ((rd x1 x11) - (rd x2 x11)))+3)) (decide ((wrap64 ((wrap64 ((rd x1 x11) - (rd x2 x11)))+3)) > 6)) ap aq aD aE)) else (none)) else (none)) else (none))) else (some (aD,aE,0))
def r11_Put.j3 : Nat→List Int→List Int→Bool→Int→Bool→Int→List Int→Int→List Int→Option (Int × List Int × Int)
 | 0,_,_,_,_,_,_,_,_,_=>none
 | k+1,x1,x2,x3,x11,x13,ap,aq,aD,aE=>if x13=true then (if 0≤x11 then (if x11 < (x1.length : Int) then ((r05_PutNum.f k aD aE (IntKind.u64.wrap (rd x1 x11)) 45).bind fun a7=>(if a7.2.2=0 then (r11_Put.l0 k x1 x2 x3 (wrap64 (x11+1)) ap aq a7.1 a7.2.1) else (some (ap,aq,a7.2.2)))) else (none)) else (none)) else (r11_Put.l0 k x1 x2 x3 (wrap64 (x11+1)) ap aq aD aE)
def r11_Put.j2 : Nat→List Int→List Int→Bool→Int→Bool→Int→Bool→Int→List Int→Int→List Int→Option (Int × List Int × Int)
 | 0,_,_,_,_,_,_,_,_,_,_,_=>none
 | k+1,x1,x2,x3,x11,x13,x14,x51,ap,aq,aD,aE=>if x51=true then ((r05_Put.f k aD aE 7 (7+1) 8).bind fun a8=>(if a8.2.2=0 then (r11_Put.j3 k x1 x2 x3 x11 true ap aq a8.1 a8.2.1) else (some (ap,aq,a8.2.2)))) else ((r05_Put.f k aD aE x14 (wrap64 (x14+1)) 8).bind fun a9=>(if a9.2.2=0 then (r11_Put.j3 k x1 x2 x3 x11 x13 ap aq a9.1 a9.2.1) else (some (ap,aq,a9.2.2))))
end
def r11_Put.f (k : Nat) (aK : Int) (aA : List Int) (l1 : List Int) (l2 : List Int) (a3 : Bool) : Option (Int × List Int × Int):=(r11_Right.f k l1).bind fun bH=>(if bH=true then (if a3=true then (r11_Put.j0 k l1 l2 a3 false aK aA) else ((r11_Right.f k l2).bind fun bi=>(r11_Put.j0 k l1 l2 a3 (!bi) aK aA))) else (r11_Put.j0 k l1 l2 a3 true aK aA))
theorem r11_Put.mono_l : ∀ k,(∀ y0 y1 y2 y3 y4 y5,LeO (r11_Put.j0 k y0 y1 y2 y3 y4 y5) (r11_Put.j0 (k+1) y0 y1 y2 y3 y4 y5))∧(∀ y0 y1 y2 y3 y4 y5 y6 y7,LeO (r11_Put.l0 k y0 y1 y2 y3 y4 y5 y6 y7) (r11_Put.l0 (k+1) y0 y1 y2 y3 y4 y5 y6 y7))∧(∀ y0 y1 y2 y3 y4 y5 y6 y7 y8,LeO (r11_Put.j3 k y0 y1 y2 y3 y4 y5 y6 y7 y8) (r11_Put.j3 (k+1) y0 y1 y2 y3 y4 y5 y6 y7 y8))∧(∀ y0 y1 y2 y3 y4 y5 y6 y7 y8 y9 y10,LeO (r11_Put.j2 k y0 y1 y2 y3 y4 y5 y6 y7 y8 y9 y10) (r11_Put.j2 (k+1) y0 y1 y2 y3 y4 y5 y6 y7 y8 y9 y10))
 | 0=>⟨fun _ _ _ _ _ _ r h=>by simp [r11_Put.j0] at h,fun _ _ _ _ _ _ _ _ r h=>by simp [r11_Put.l0] at h,fun _ _ _ _ _ _ _ _ _ r h=>by simp [r11_Put.j3] at h,fun _ _ _ _ _ _ _ _ _ _ _ r h=>by simp [r11_Put.j2] at h⟩
 | k+1=>by
  obtain ⟨ih0,ih1,ih2,ih3⟩:=r11_Put.mono_l k
  have i0:=@r05_Put.mono;have i1:=@r05_PutNum.mono;have i2:=@r11_Right.mono
  refine ⟨?_, ?_, ?_, ?_⟩
  ·
   intro y0 y1 y2 y3 y4 y5
   unfold r11_Put.j0
   exact yLm
  ·
   intro y0 y1 y2 y3 y4 y5 y6 y7
   unfold r11_Put.l0
   exact yLm
  ·
   intro y0 y1 y2 y3 y4 y5 y6 y7 y8
   unfold r11_Put.j3
   exact yLm
  intro y0 y1 y2 y3 y4 y5 y6 y7 y8 y9 y10
  unfold r11_Put.j2
  exact yLm
theorem r11_Put.mono : ∀ a0 a1 a2 a3 a4 k,LeO (r11_Put.f k a0 a1 a2 a3 a4) (r11_Put.f (k+1) a0 a1 a2 a3 a4):=by
 intro a0 a1 a2 a3 a4 k
 obtain ⟨ih0,ih1,ih2,ih3⟩:=r11_Put.mono_l k
 have i0:=@r05_Put.mono;have i1:=@r05_PutNum.mono;have i2:=@r11_Right.mono
 unfold r11_Put.f
 exact yLm
def r11_Put.T10 : Bool × List (List Nat × List Nat):=(true, [([], []),([], []),([0,1], [0,1]),([2], [2]),([], []),([], []),([4,5], [4,5]),([6], [6]),([3,7], [3,7]),([8], [8]),([9,0,1,2,3,4,5,6,7,8,9], [9])])
def r11_Put.B10 : List Nat := [0,0,3,7,0,0,48,112,255,511,1023]
theorem r11_Put.tab10 : rtab .any (opsOf Try.f38 10)=r11_Put.T10:=by kernel_rfl
theorem r11_Put.bits10 : waitsOk r11_Put.T10.2 r11_Put.B10=true:=by kernel_rfl
def r11_Put.T18 : Bool × List (List Nat × List Nat):=(true, [([], []),([], []),([], []),([1,2], [1,2]),([3], [3]),([4], [4]),([0,5], [0,5]),([6], [6]),([7], [7]),([7], [7]),([8,6,0,1,2,3,4,5,6,7,8], [8]),([9,10,0,1,2,3,4,5,6,7,8,9,10], [9])])
def r11_Put.B18 : List Nat := [0,0,0,6,14,30,63,127,255,255,511,2047]
theorem r11_Put.tab18 : rtab .any (opsOf Try.f38 18)=r11_Put.T18:=by kernel_rfl
theorem r11_Put.bits18 : waitsOk r11_Put.T18.2 r11_Put.B18=true:=by kernel_rfl
theorem r11_Put.calls (k : Nat) (aK : Int) (az : Nat→Prop) (aN : Option Addr) (aQ : Nat) (aA : List Int) (A1 : Option Addr) (c1 : Nat) (l1 : List Int) (A2 : Option Addr) (c2 : Nat) (l2 : List Int) (a3 : Bool) (r1 : Int) (r2 : List Int) (r3 : Int) (w : World) (bV : Kd.V (Kd.int .i64) 3 w w.heap.size (fun k_=>az k_) (.slice aN aA.length aQ) aA) (hr1 : Kd.C (Kd.int .i64) w A1 l1.length l1) (hc1 : l1.length≤c1) (hr2 : Kd.C (Kd.int .i64) w A2 l2.length l2) (hc2 : l2.length≤c2) (h : r11_Put.f k aK aA l1 l2 a3=some (r1,r2,r3)) :
  Calls Try.prog 38 #[.agg #[.int .u64 aK, .slice aN aA.length aQ], .slice A1 l1.length c1, .slice A2 l2.length c2, .bool a3] w fun e w' => ∃ v1_ : Value,e=.returned (.tuple #[.agg #[.int .u64 r1,v1_], .int .i64 r3])∧Kd.V (Kd.int .i64) 3 w' w.heap.size (fun k_=>(az k_∨w.heap.size≤k_)) v1_ r2∧Below w.heap.size w w' := by
 have hu69:=Try.underlying69
 have aW:=zm (show Kd.V (Kd.int .i64) 3 w w.heap.size (fun k_=>(az k_∨w.heap.size≤k_)) (.slice aN aA.length aQ) aA from zy bV (fun k_ hk => .inl hk))
 have HR1:=zm hr1;have HC1:=zm hc1;clear hr1 hc1;have HR2:=zm hr2;have HC2:=zm hc2;clear hr2 hc2;have HB:=zm (zY w.heap.size w);have H:=h
 unfold r11_Put.f at H
 clear h;have HC5:=zm H;clear H
 go_enter Try.func38,Try.ntmps38
 go_upto_region 1 with (first|((with_reducible refine zL (N:=4) rfl ?_);refine ybx 4 #[.int .u64 aK, .slice aN aA.length aQ] 69 ?_;intro ay hg w6 hbox hb;replace aW:=yVe aW hg hb;have ag:=zm (hbox);have cT:=ygw hg;have cU:=ygw hg;replace HB:=ybs hb;clear hb hbox hg)|((with_reducible refine zL (N:=8) rfl ?_);refine ybx 8 #[.int .u64 0, .slice none 0 0] 69 ?_;intro ao hg w7 hbox hb;replace aW:=yVe aW hg hb;have ae:=zm (hbox);have cV:=ygw hg;have cW:=ygw hg;replace HB:=ybs hb;have aH:=ynl ag hg;have aI:=yng ag hg;replace ag:=ybb ag hb;clear hb hbox hg))
 (try simp only [Act.put,za9,zb0,zb1])
 go_cut [26] (fun v26 wc => ∃ (kq : Nat) (ba : Bool),v26=.bool ba∧Aside0 (r11_Put.j0 kq l1 l2 a3 ba aK aA=some (r1,r2,r3))∧Aside0 (kq≤k)∧Aside0 (Kd.V (Kd.int .i64) 3 wc w.heap.size (fun k_=>(az k_∨w.heap.size≤k_)∧k_≠ay∧k_≠ao) (.slice aN aA.length aQ) aA)∧Aside0 (wc.heap[ay]? = some (.cells #[.int .u64 aK,(.slice aN aA.length aQ)] 69 (0,0)))∧Aside0 (wc.heap[ao]? = some (.cells #[.int .u64 0,(.slice none 0 0)] 69 (0,0)))∧Aside0 (Below w.heap.size w wc))
 case first =>
  have H:=HC5.out;clear HC5
  obtain ⟨bH,A8,H⟩:=ybi H
  by_cases c9 : bH=true
  ·
   subst c9
   rw [za4 rfl] at H
   by_cases c10 : a3=true
   ·
    subst c10
    rw [za4 rfl] at H
    have H' := zm H
    clear H
    go_wp2_with (first|((with_reducible refine zK (f:=47) rfl ?_);refine ygl 16 Try.func47 #[.slice A1 l1.length c1] ?_;(with_reducible refine (r11_Right.calls k _ _ l1 true _ ?aT HC1.out A8.out).mono ?_);(case aT=>exact ycb HR1);rintro e w' ⟨rfl,⟨nd,rfl⟩⟩;refine ⟨_,rfl, ?_⟩))
    go_meet
    case rel=>exact ⟨_,(false),yq,H',⟨yo⟩,⟨yV0 aW⟩,⟨yk ag⟩,⟨yk ae⟩,⟨yhb⟩⟩
   replace c10:=za3.mpr c10
   subst c10
   rw [ynf] at H
   obtain ⟨bi,A11,H⟩:=ybi H
   have H' := zm H
   clear H
   go_wp2_with (first|((with_reducible refine zK (f:=47) rfl ?_);refine ygl 16 Try.func47 #[.slice A1 l1.length c1] ?_;(with_reducible refine (r11_Right.calls k _ _ l1 true _ ?aT HC1.out A8.out).mono ?_);(case aT=>exact ycb HR1);rintro e w' ⟨rfl,⟨nd,rfl⟩⟩;refine ⟨_,rfl, ?_⟩)|(go_at_call 47;(with_reducible refine (r11_Right.calls k _ _ l2 bi _ ?aT HC2.out A11.out).mono ?_);(case aT=>exact ycb HR2);rintro e w' ⟨rfl,⟨nd,rfl⟩⟩))
   go_meet
   case rel=>exact ⟨_,(!bi),yq,H',⟨yo⟩,⟨yV0 aW⟩,⟨yk ag⟩,⟨yk ae⟩,⟨yhb⟩⟩
  replace c9:=za3.mpr c9
  subst c9
  rw [ynf] at H
  have H' := zm H
  clear H
  go_wp2_with (first|((with_reducible refine zK (f:=47) rfl ?_);refine ygl 16 Try.func47 #[.slice A1 l1.length c1] ?_;(with_reducible refine (r11_Right.calls k _ _ l1 false _ ?aT HC1.out A8.out).mono ?_);(case aT=>exact ycb HR1);rintro e w' ⟨rfl,⟨nd,rfl⟩⟩;refine ⟨_,rfl, ?_⟩))
  go_meet
  case rel=>exact ⟨_,(true),yq,H',⟨yo⟩,⟨yV0 aW⟩,⟨yk ag⟩,⟨yk ae⟩,⟨yhb⟩⟩
 case rest =>
  clear HC5
  try clear c1
  try clear c2
  obtain ⟨kq,ba,rfl,HA,HJ4,ac,ag,ae,HB⟩:=hcut
  obtain ⟨kj4,rfl⟩:=ysu kq (fun h=>by subst h;exact absurd HA.out (by simp [r11_Put.j0]))
  have H:=HA.out;clear HA
  simp only [r11_Put.j0] at H
  by_cases c12 : ba=true
  ·
   subst c12
   rw [za4 rfl] at H
   simp only [zM,zN] at H
   obtain ⟨rfl,rfl,rfl⟩:=H
   have:=aH.out
   have:=aI.out
   obtain ⟨bj,bk,bl,bm⟩:=yc2 ag
   obtain ⟨bn,bo,bp,bq⟩:=yc2 ae
   go_wp2
   refine za1 (results_ct rfl _ _ ao 69 #[.int .u64 aK, .slice aN aA.length aQ] (0,0) _ rfl (ykp ae) Try.underlying69 rfl (by kernel_rfl)) rfl ?_
   exact ⟨_,ye,yV0 ac,yhb⟩
  replace c12:=za3.mpr c12
  subst c12
  rw [ynf] at H
  have H' := zm H
  clear H
  have:=aH.out
  have:=aI.out
  obtain ⟨br,bs,bu,bv⟩:=yc2 ag
  go_wp2_with (first|((with_reducible refine zL (N:=10) rfl ?_);refine ybx 10 #[.int .u64 0, .slice none 0 0] 69 ?_;intro am hg w18 hbox hb;replace ac:=yVe ac hg hb;have af:=zm (hbox);have cX:=ygw hg;have cY:=ygw hg;replace HB:=ybs hb;have au:=ynl ag hg;have av:=yng ag hg;replace ag:=ybb ag hb;have aw:=ynl ae hg;have ax:=yng ae hg;replace ae:=ybb ae hb;clear hb hbox hg;have:=av.out;have:=au.out;have:=ax.out;have:=aw.out;obtain ⟨bw,bx,bz,bA⟩:=yc2 af))
  go_loopg [11] kj4 (fun kq v11 w' => ∃ (ah : Int) (aJ : Int) (ai : Int) (aj : List Int) (aC : Value),v11=.int .i64 ah∧Aside0 (r11_Put.l0 kq l1 l2 a3 ah aK aA ai aj=some (r1,r2,r3))∧Aside0 (kq≤kj4)∧Aside0 (Kd.V (Kd.int .i64) 3 w' w.heap.size (fun k_=>(az k_∨w.heap.size≤k_)∧k_≠ay∧k_≠ao∧k_≠am) (.slice aN aA.length aQ) aA)∧Aside0 (Kd.V (Kd.int .i64) 3 w' w.heap.size (fun k_=>(az k_∨w.heap.size≤k_)∧k_≠ay∧k_≠ao∧k_≠am) aC aj)∧Aside0 (w'.heap[ay]? = some (.cells #[.int .u64 aK,(.slice aN aA.length aQ)] 69 (0,0)))∧Aside0 (w'.heap[ao]? = some (.cells #[.int .u64 aJ,(.slice none 0 0)] 69 (0,0)))∧Aside0 (w'.heap[am]? = some (.cells #[.int .u64 ai,aC] 69 (0,0)))∧Aside0 (Below w.heap.size w w'))
  case atStart=>exact ⟨(0),(0),(aK),(aA),(.slice aN aA.length aQ),yq,H',⟨zX _⟩,⟨yV0 ac⟩,⟨yV0 ac⟩,⟨yk ag⟩,⟨yk ae⟩,⟨ykp af⟩,⟨yhb⟩⟩
  case round =>
   clear H'
   try clear bj
   try clear bk
   try clear bn
   try clear bo
   try clear br
   try clear bs
   try clear bw
   try clear bx
   try clear bl
   try clear bm
   try clear bp
   try clear bq
   try clear bu
   try clear bv
   try clear bz
   try clear bA
   obtain ⟨ah,aJ,ai,aj,aC,rfl,HA,HK2,ac,aa,ag,ae,af,HB⟩:=hrel
   obtain ⟨k2,rfl⟩:=ysu gk (fun h=>by subst h;exact absurd HA.out (by simp [r11_Put.l0]))
   have H:=HA.out;clear HA
   simp only [r11_Put.l0] at H
   replace H:=yId H
   obtain ⟨bf,H⟩ | ⟨bf,H⟩:=H
   ·
    have bI:=zm H;clear H
    go_upto_if 35 with (fail)
    go_cut [13] (fun v13 wc => ∃ (kq : Nat) (aX : Bool) (aM : Int) (ak : Int) (al : List Int) (aC : Value),v13=.bool aX∧Aside0 (r11_Put.j3 kq l1 l2 a3 ah aX aK aA ak al=some (r1,r2,r3))∧Aside0 (kq≤k2)∧Aside0 (Kd.V (Kd.int .i64) 3 wc w.heap.size (fun k_=>(az k_∨w.heap.size≤k_)∧k_≠ay∧k_≠ao∧k_≠am) (.slice aN aA.length aQ) aA)∧Aside0 (Kd.V (Kd.int .i64) 3 wc w.heap.size (fun k_=>(az k_∨w.heap.size≤k_)∧k_≠ay∧k_≠ao∧k_≠am) aC al)∧Aside0 (wc.heap[ay]? = some (.cells #[.int .u64 aK,(.slice aN aA.length aQ)] 69 (0,0)))∧Aside0 (wc.heap[ao]? = some (.cells #[.int .u64 aM,(.slice none 0 0)] 69 (0,0)))∧Aside0 (wc.heap[am]? = some (.cells #[.int .u64 ak,aC] 69 (0,0)))∧Aside0 (Below w.heap.size w wc))
    case first =>
     have H:=bI.out;clear bI
     by_cases c24 : a3=true
     ·
      subst c24
      rw [za4 rfl] at H
      have H' := zm H
      clear H
      go_wp2
      go_meet
      case rel=>exact ⟨_,(true),(aJ),(ai),(aj),(aC),yq,H',⟨yom2 HJ4 HK2⟩,⟨yr ac⟩,⟨yr aa⟩,⟨yk ag⟩,⟨yk ae⟩,⟨yk af⟩,⟨yhb⟩⟩
     replace c24:=za3.mpr c24
     subst c24
     rw [ynf] at H
     obtain ⟨c25,H⟩:=yif H
     have bg : decide (0≤ah)=true:=decide_eq_true c25
     clear c25
     (first|rw [bg]|(simp only [i64_w,i32_w];rw [bg])|skip)
     obtain ⟨c26,H⟩:=yif H
     have bW : decide (ah < (l1.length : Int))=true:=decide_eq_true c26
     clear c26
     obtain ⟨c27,H⟩:=yif H
     have bX : decide (ah < (l2.length : Int))=true:=decide_eq_true c27
     clear c27;have bJ:=zm H;clear H
     try go_wp2
     replace ac:=zm (zC ac.out)
     replace aa:=zm (zC aa.out)
     replace ag:=zm (zj ag.out)
     replace ae:=zm (zj ae.out)
     replace af:=zm (zj af.out)
     replace HB:=zm (zf HB.out)
     obtain ⟨⟨bY,ci,aU⟩,cj,ck⟩:=yat (zb7 HR1.out ah)
     have hw810_0:=aU
     cases ci
     replace aU:=yhx HB aU
     obtain ⟨⟨bZ,cl,aV⟩,cm,cn⟩:=yat (zb7 HR2.out ah)
     have hw811_0:=aV
     cases cl
     replace aV:=yhx HB aV
     refine yst (fun w' => w'.cell? (bY.add (ah).toNat)=some (.int .i64 (rd l1 ah))∧w'.cell? (bZ.add (ah).toNat)=some (.int .i64 (rd l2 ah))) [] 11 r11_Put.tab10 r11_Put.bits10 (fun hHeld HT_ HW_ => ?_)
     generalize wr.drew=w29 at ac aa ag ae af HB aU aV hHeld ⊢
     refine yp 0 36 HT_ ?_
     refine yp 1 37 HT_ ?_
     refine yp 2 38 HT_ ?_
     refine yp 4 40 HT_ ?_
     refine yp 5 41 HT_ ?_
     refine yp 6 42 HT_ ?_
     refine yl 3 39 HT_ HW_ hHeld ?_
     refine yl 7 43 HT_ HW_ hHeld ?_
     refine yp 8 44 HT_ ?_
     refine yp 9 45 HT_ ?_
     refine yp 10 14 HT_ ?_
     refine done_ (done_of HT_.out (by kernel_rfl)) ?_
     go_upto_region 11 with (fail)
     go_cut [51] (fun v51 wc => ∃ (kq : Nat) (aY : Bool),v51=.bool aY∧Aside0 (r11_Put.j2 kq l1 l2 false ah false (wrap64 ((wrap64 ((rd l1 ah) - (rd l2 ah)))+3)) aY aK aA ai aj=some (r1,r2,r3))∧Aside0 (kq≤k2)∧Aside0 (Kd.V (Kd.int .i64) 3 wc w.heap.size (fun k_=>(az k_∨w.heap.size≤k_)∧k_≠ay∧k_≠ao∧k_≠am) (.slice aN aA.length aQ) aA)∧Aside0 (Kd.V (Kd.int .i64) 3 wc w.heap.size (fun k_=>(az k_∨w.heap.size≤k_)∧k_≠ay∧k_≠ao∧k_≠am) aC aj)∧Aside0 (wc.heap[ay]? = some (.cells #[.int .u64 aK,(.slice aN aA.length aQ)] 69 (0,0)))∧Aside0 (wc.heap[ao]? = some (.cells #[.int .u64 aJ,(.slice none 0 0)] 69 (0,0)))∧Aside0 (wc.heap[am]? = some (.cells #[.int .u64 ai,aC] 69 (0,0)))∧Aside0 (Below w.heap.size w wc))
     case first =>
      have H:=bJ.out;clear bJ
      replace H:=yId H
      obtain ⟨aZ,H⟩ | ⟨aZ,H⟩:=H
      ·
       (first|rw [aZ]|(simp only [i64_w,i32_w];rw [aZ])|skip)
       have H' := zm H
       clear H
       go_wp2
       go_meet
       case rel=>exact ⟨_,(true),yq,H',⟨yom2 HJ4 HK2⟩,⟨yr ac⟩,⟨yr aa⟩,⟨yk ag⟩,⟨yk ae⟩,⟨yk af⟩,⟨yhb⟩⟩
      (first|rw [aZ]|(simp only [i64_w,i32_w];rw [aZ])|skip)
      have H' := zm H
      clear H
      go_wp2
      go_meet
      case rel=>exact ⟨_,(decide ((wrap64 ((wrap64 ((rd l1 ah) - (rd l2 ah)))+3)) > 6)),yq,H',⟨yom2 HJ4 HK2⟩,⟨yr ac⟩,⟨yr aa⟩,⟨yk ag⟩,⟨yk ae⟩,⟨yk af⟩,⟨yhb⟩⟩
     case rest =>
      clear bJ
      try clear bf
      try clear bg
      try clear bW
      try clear bX
      try clear aU
      try clear aV
      try clear cj
      try clear cm
      try clear ck
      try clear cn
      obtain ⟨kq,aY,rfl,HA,b4,ac,aa,ag,ae,af,HB⟩:=hcut
      obtain ⟨bB,rfl⟩:=ysu kq (fun h=>by subst h;exact absurd HA.out (by simp [r11_Put.j2]))
      have H:=HA.out;clear HA
      simp only [r11_Put.j2] at H
      by_cases c31 : aY=true
      ·
       subst c31
       rw [za4 rfl] at H
       obtain ⟨⟨bK,bC,bL⟩,A32,H⟩:=ybi H
       try dsimp only at H
       by_cases c33 : bL=0
       ·
        rw [za4 c33] at H
        obtain ⟨b5,b6⟩:=yE c33
        clear c33
        have H' := zm H
        clear H
        have:=av.out
        have:=au.out
        have:=ax.out
        have:=aw.out
        obtain ⟨_,_,_,_⟩:=yc2 af
        obtain ⟨co,cp,cq⟩:=zU aa.out
        subst cq
        go_wp2_with (first|((with_reducible refine zK (f:=37) rfl ?_);refine ygl 57 Try.func37 #[.agg #[.int .u64 ai, .slice co aj.length cp], .int .i64 7, .int .i64 (7+1), .int .i64 8] ?_;(with_reducible refine (r05_Put.calls bB ai (fun k_=>((az k_∨w.heap.size≤k_)∧(k_≠ay∧(k_≠ao∧k_≠am)))) _ _ aj 7 (7+1) 8 bK bC bL _ aa.out A32.out).mono ?_);rintro e w38 ⟨cr,rfl,ho0,hb⟩;refine ⟨_,rfl, ?_⟩;replace ac:=yVb ac hb;replace aa:=yVb aa hb;have bb:=yho (fun k_=>(az k_∨w.heap.size≤k_)∧k_≠ay∧k_≠ao∧k_≠am) ho0 (fun k_ hk_=>⟨Or.elim hk_ (fun hs_=>hs_.1) (fun hn_=>(.inr (Nat.le_trans (zE yhb) hn_))),yoB ag hk_,yoB ae hk_,yoB af hk_⟩);replace ag:=ybb ag hb;replace ae:=ybb ae hb;replace af:=ybb af hb;replace HB:=ybs hb;(try clear hb);(try clear ho0);obtain ⟨_,_,_,_⟩:=yc2 af;obtain ⟨ct,cu,cv⟩:=zU bb.out;subst cv))
        go_meet
        case rel=>exact ⟨_,(true),(aJ),(bK),(bC),(.slice ct bC.length cu),yq,H',⟨yom3 HJ4 HK2 b4⟩,⟨yV0 ac⟩,⟨yV0 bb⟩,⟨yk ag⟩,⟨yk ae⟩,⟨ykp af⟩,⟨yhb⟩⟩
       rw [za5 c33] at H
       obtain ⟨b5,b6⟩:=yF c33
       simp only [zM,zN] at H
       obtain ⟨rfl,rfl,rfl⟩:=H
       have:=av.out
       have:=au.out
       have:=ax.out
       have:=aw.out
       obtain ⟨_,_,_,_⟩:=yc2 af
       obtain ⟨cw,cx,cy⟩:=zU aa.out
       subst cy
       go_wp2_with (first|((with_reducible refine zK (f:=37) rfl ?_);refine ygl 57 Try.func37 #[.agg #[.int .u64 ai, .slice cw aj.length cx], .int .i64 7, .int .i64 (7+1), .int .i64 8] ?_;(with_reducible refine (r05_Put.calls bB ai (fun k_=>((az k_∨w.heap.size≤k_)∧(k_≠ay∧(k_≠ao∧k_≠am)))) _ _ aj 7 (7+1) 8 bK bC bL _ aa.out A32.out).mono ?_);rintro e w45 ⟨cr,rfl,ho0,hb⟩;refine ⟨_,rfl, ?_⟩;replace ac:=yVb ac hb;replace aa:=yVb aa hb;have bb:=yho (fun k_=>(az k_∨w.heap.size≤k_)∧k_≠ay∧k_≠ao∧k_≠am) ho0 (fun k_ hk_=>⟨Or.elim hk_ (fun hs_=>hs_.1) (fun hn_=>(.inr (Nat.le_trans (zE yhb) hn_))),yoB ag hk_,yoB ae hk_,yoB af hk_⟩);replace ag:=ybb ag hb;replace ae:=ybb ae hb;replace af:=ybb af hb;replace HB:=ybs hb;(try clear hb);(try clear ho0);obtain ⟨_,_,_,_⟩:=yc2 af;obtain ⟨db,dc,cz⟩:=zU bb.out;subst cz;have:=aH.out;have:=aI.out;obtain ⟨_,_,_,_⟩:=yc2 ag;obtain ⟨_,_,_,_⟩:=yc2 ae))
       refine za1 (results_ct rfl _ _ ao 69 #[.int .u64 aK, .slice aN aA.length aQ] (0,0) _ rfl (ykp ae) Try.underlying69 rfl (by kernel_rfl)) rfl ?_
       exact ⟨_,ye,yV0 ac,yhb⟩
      replace c31:=za3.mpr c31
      subst c31
      rw [ynf] at H
      obtain ⟨⟨bM,bD,bN⟩,A51,H⟩:=ybi H
      try dsimp only at H
      by_cases c52 : bN=0
      ·
       rw [za4 c52] at H
       obtain ⟨b7,b8⟩:=yE c52
       clear c52
       have H' := zm H
       clear H
       have:=av.out
       have:=au.out
       have:=ax.out
       have:=aw.out
       obtain ⟨_,_,_,_⟩:=yc2 af
       obtain ⟨cA,cB,cC⟩:=zU aa.out
       subst cC
       go_wp2_with (first|((with_reducible refine zK (f:=37) rfl ?_);refine ygl 57 Try.func37 #[.agg #[.int .u64 ai, .slice cA aj.length cB], .int .i64 (wrap64 ((wrap64 ((rd l1 ah) - (rd l2 ah)))+3)), .int .i64 (wrap64 ((wrap64 ((wrap64 ((rd l1 ah) - (rd l2 ah)))+3))+1)), .int .i64 8] ?_;(with_reducible refine (r05_Put.calls bB ai (fun k_=>((az k_∨w.heap.size≤k_)∧(k_≠ay∧(k_≠ao∧k_≠am)))) _ _ aj (wrap64 ((wrap64 ((rd l1 ah) - (rd l2 ah)))+3)) (wrap64 ((wrap64 ((wrap64 ((rd l1 ah) - (rd l2 ah)))+3))+1)) 8 bM bD bN _ aa.out A51.out).mono ?_);rintro e w57 ⟨cD,rfl,ho0,hb⟩;refine ⟨_,rfl, ?_⟩;replace ac:=yVb ac hb;replace aa:=yVb aa hb;have bc:=yho (fun k_=>(az k_∨w.heap.size≤k_)∧k_≠ay∧k_≠ao∧k_≠am) ho0 (fun k_ hk_=>⟨Or.elim hk_ (fun hs_=>hs_.1) (fun hn_=>(.inr (Nat.le_trans (zE yhb) hn_))),yoB ag hk_,yoB ae hk_,yoB af hk_⟩);replace ag:=ybb ag hb;replace ae:=ybb ae hb;replace af:=ybb af hb;replace HB:=ybs hb;(try clear hb);(try clear ho0);obtain ⟨_,_,_,_⟩:=yc2 af;obtain ⟨cE,cF,cG⟩:=zU bc.out;subst cG))
       go_meet
       case rel=>exact ⟨_,(false),(aJ),(bM),(bD),(.slice cE bD.length cF),yq,H',⟨yom3 HJ4 HK2 b4⟩,⟨yV0 ac⟩,⟨yV0 bc⟩,⟨yk ag⟩,⟨yk ae⟩,⟨ykp af⟩,⟨yhb⟩⟩
      rw [za5 c52] at H
      obtain ⟨b7,b8⟩:=yF c52
      simp only [zM,zN] at H
      obtain ⟨rfl,rfl,rfl⟩:=H
      have:=av.out
      have:=au.out
      have:=ax.out
      have:=aw.out
      obtain ⟨_,_,_,_⟩:=yc2 af
      obtain ⟨cH,cI,cJ⟩:=zU aa.out
      subst cJ
      go_wp2_with (first|((with_reducible refine zK (f:=37) rfl ?_);refine ygl 57 Try.func37 #[.agg #[.int .u64 ai, .slice cH aj.length cI], .int .i64 (wrap64 ((wrap64 ((rd l1 ah) - (rd l2 ah)))+3)), .int .i64 (wrap64 ((wrap64 ((wrap64 ((rd l1 ah) - (rd l2 ah)))+3))+1)), .int .i64 8] ?_;(with_reducible refine (r05_Put.calls bB ai (fun k_=>((az k_∨w.heap.size≤k_)∧(k_≠ay∧(k_≠ao∧k_≠am)))) _ _ aj (wrap64 ((wrap64 ((rd l1 ah) - (rd l2 ah)))+3)) (wrap64 ((wrap64 ((wrap64 ((rd l1 ah) - (rd l2 ah)))+3))+1)) 8 bM bD bN _ aa.out A51.out).mono ?_);rintro e w64 ⟨cD,rfl,ho0,hb⟩;refine ⟨_,rfl, ?_⟩;replace ac:=yVb ac hb;replace aa:=yVb aa hb;have bc:=yho (fun k_=>(az k_∨w.heap.size≤k_)∧k_≠ay∧k_≠ao∧k_≠am) ho0 (fun k_ hk_=>⟨Or.elim hk_ (fun hs_=>hs_.1) (fun hn_=>(.inr (Nat.le_trans (zE yhb) hn_))),yoB ag hk_,yoB ae hk_,yoB af hk_⟩);replace ag:=ybb ag hb;replace ae:=ybb ae hb;replace af:=ybb af hb;replace HB:=ybs hb;(try clear hb);(try clear ho0);obtain ⟨_,_,_,_⟩:=yc2 af;obtain ⟨dd,de,cK⟩:=zU bc.out;subst cK;have:=aH.out;have:=aI.out;obtain ⟨_,_,_,_⟩:=yc2 ag;obtain ⟨_,_,_,_⟩:=yc2 ae))
      refine za1 (results_ct rfl _ _ ao 69 #[.int .u64 aK, .slice aN aA.length aQ] (0,0) _ rfl (ykp ae) Try.underlying69 rfl (by kernel_rfl)) rfl ?_
      exact ⟨_,ye,yV0 ac,yhb⟩
    case rest =>
     clear bI
     try clear bf
     obtain ⟨kq,aX,aM,ak,al,aC,rfl,HA,bE,ac,aa,ag,ae,af,HB⟩:=hcut
     obtain ⟨bF,rfl⟩:=ysu kq (fun h=>by subst h;exact absurd HA.out (by simp [r11_Put.j3]))
     have H:=HA.out;clear HA
     simp only [r11_Put.j3] at H
     by_cases c70 : aX=true
     ·
      subst c70
      rw [za4 rfl] at H
      obtain ⟨c71,H⟩:=yif H
      have cZ : decide (0≤ah)=true:=decide_eq_true c71
      clear c71
      obtain ⟨c72,H⟩:=yif H
      have da : decide (ah < (l1.length : Int))=true:=decide_eq_true c72
      clear c72
      obtain ⟨⟨bO,bG,bP⟩,A73,H⟩:=ybi H
      try dsimp only at H
      by_cases c74 : bP=0
      ·
       rw [za4 c74] at H
       obtain ⟨b9,ca⟩:=yE c74
       clear c74
       have H' := zm H
       clear H
       try go_wp2
       replace ac:=zm (zC ac.out)
       replace aa:=zm (zC aa.out)
       replace ag:=zm (zj ag.out)
       replace ae:=zm (zj ae.out)
       replace af:=zm (zj af.out)
       replace HB:=zm (zf HB.out)
       obtain ⟨⟨bh,bQ,aG⟩,cL,cM⟩:=yat (zb7 HR1.out ah)
       have hw822_0:=aG
       cases bQ
       replace aG:=yhx HB aG
       obtain ⟨bR,bS,cb⟩:=zU aa.out
       (first|subst cb|(injection cb with f1_ f2_ f3_;have f4_:=f1_.symm;have f5_:=f3_.symm;clear f1_ f2_ f3_;subst f4_;subst f5_))
       refine yst (fun w' => w'.cell? ⟨am,0,none⟩=some (.int .u64 ak)∧w'.cell? ⟨am,1,none⟩=some (.slice bR al.length bS)∧w'.cell? (bh.add (ah).toNat)=some (.int .i64 (rd l1 ah))) [10] 12 r11_Put.tab18 r11_Put.bits18 (fun hHeld HT_ HW_ => ?_)
       generalize wc.drew=w75 at ac aa ag ae af HB aG hHeld ⊢
       refine yp 1 67 HT_ ?_
       refine yp 2 68 HT_ ?_
       refine yp 3 69 HT_ ?_
       refine yl 0 66 HT_ HW_ hHeld ?_
       refine yl 4 70 HT_ HW_ hHeld ?_
       refine yp 5 71 HT_ ?_
       refine yw 6 72 HT_ (fun K hK => ?_)
       refine ygs Try.func41 #[.agg #[.int .u64 ak, .slice bR al.length bS], .int .u64 (IntKind.u64.wrap (rd l1 ah)), .int .u64 45] ?_
       with_reducible refine (r05_PutNum.calls bF ak (fun k_=>((az k_∨w.heap.size≤k_)∧(k_≠ay∧(k_≠ao∧k_≠am)))) _ _ al (IntKind.u64.wrap (rd l1 ah)) 45 bO bG bP _ ?aT A73.out).mono ?_
       (case aT=>exact aa.out)
       rintro e w77 ⟨cN,rfl,ho0,hb⟩
       refine ⟨_,rfl, ?_⟩
       replace ac:=yVb ac hb
       replace aa:=yVb aa hb
       have bd:=yho (fun k_=>(az k_∨w.heap.size≤k_)∧k_≠ay∧k_≠ao∧k_≠am) ho0 (fun k_ hk_=>⟨Or.elim hk_ (fun hs_=>hs_.1) (fun hn_=>(.inr (Nat.le_trans (zE yhb) hn_))),yoB ag hk_,yoB ae hk_,yoB af hk_⟩)
       replace ag:=ybb ag hb
       replace ae:=ybb ae hb
       replace af:=ybb af hb
       replace HB:=ybs hb
       (try clear hb)
       (try clear ho0)
       obtain ⟨cO,cP,cf⟩:=zU bd.out
       (first|subst cf|(injection cf with f1_ f2_ f3_;have f4_:=f1_.symm;have f5_:=f3_.symm;clear f1_ f2_ f3_;subst f4_;subst f5_))
       refine hK.out _ _ yH (fun hHeld => ?_)
       clear hK K
       refine ym (some 72) ?_
       refine yp 7 65 HT_ ?_
       refine yp 8 73 HT_ ?_
       refine yp 9 74 HT_ ?_
       refine last_ (i:=10) (N:=none) #[true,true,true,true,true,true,true,true,true,true,true,false] rfl rfl (one_of HT_.out (by kernel_rfl)) (by decide) (fun K hK => ?_)
       have df : w77.cell? ⟨am,0,none⟩=some (.int .u64 ak):=(zs af.out 0).trans rfl
       have hfs78:=zx af.out 0
       have:=au.out
       have:=aw.out
       have:=av.out
       have:=ax.out
       have dg : w77.cell? ⟨am,1,none⟩=some (.slice bR al.length bS):=(zs af.out 1).trans rfl
       have hfs80:=zx af.out 1
       have:=au.out
       have:=aw.out
       have:=av.out
       have:=ax.out
       refine skip_ (w1 := ?_) (by rfl) rfl ?_ ?_
       rotate_left
       ·
        go_simp
        rfl
       refine hK.out _ _ ?_
       clear hK K
       refine yp 11 12 HT_ ?_
       refine done_ (done_of HT_.out (by kernel_rfl)) ?_
       try go_wp2
       go_roundg bF
       case measure=>exact yom3 HJ4 HK2 bE
       case rel=>exact ⟨(wrap64 (ah+1)),(aM),(bO),(bG),(.slice cO bG.length cP),yq,H',⟨yom3 HJ4 HK2 bE⟩,⟨yV0 ac⟩,⟨yV0 bd⟩,⟨yk ag⟩,⟨yk ae⟩,⟨ykp af⟩,⟨yhb⟩⟩
      rw [za5 c74] at H
      obtain ⟨b9,ca⟩:=yF c74
      simp only [zM,zN] at H
      obtain ⟨rfl,rfl,rfl⟩:=H
      try go_wp2
      replace ac:=zm (zC ac.out)
      replace aa:=zm (zC aa.out)
      replace ag:=zm (zj ag.out)
      replace ae:=zm (zj ae.out)
      replace af:=zm (zj af.out)
      replace HB:=zm (zf HB.out)
      obtain ⟨⟨bh,bQ,aG⟩,cL,cM⟩:=yat (zb7 HR1.out ah)
      have hw822_0:=aG
      cases bQ
      replace aG:=yhx HB aG
      obtain ⟨bT,bU,cg⟩:=zU aa.out
      (first|subst cg|(injection cg with f1_ f2_ f3_;have f4_:=f1_.symm;have f5_:=f3_.symm;clear f1_ f2_ f3_;subst f4_;subst f5_))
      refine yst (fun w' => w'.cell? ⟨am,0,none⟩=some (.int .u64 ak)∧w'.cell? ⟨am,1,none⟩=some (.slice bT al.length bU)∧w'.cell? (bh.add (ah).toNat)=some (.int .i64 (rd l1 ah))) [10] 12 r11_Put.tab18 r11_Put.bits18 (fun hHeld HT_ HW_ => ?_)
      generalize wc.drew=w81 at ac aa ag ae af HB aG hHeld ⊢
      refine yp 1 67 HT_ ?_
      refine yp 2 68 HT_ ?_
      refine yp 3 69 HT_ ?_
      refine yl 0 66 HT_ HW_ hHeld ?_
      refine yl 4 70 HT_ HW_ hHeld ?_
      refine yp 5 71 HT_ ?_
      refine yw 6 72 HT_ (fun K hK => ?_)
      refine ygs Try.func41 #[.agg #[.int .u64 ak, .slice bT al.length bU], .int .u64 (IntKind.u64.wrap (rd l1 ah)), .int .u64 45] ?_
      with_reducible refine (r05_PutNum.calls bF ak (fun k_=>((az k_∨w.heap.size≤k_)∧(k_≠ay∧(k_≠ao∧k_≠am)))) _ _ al (IntKind.u64.wrap (rd l1 ah)) 45 bO bG bP _ ?aT A73.out).mono ?_
      (case aT=>exact aa.out)
      rintro e w83 ⟨cN,rfl,ho0,hb⟩
      refine ⟨_,rfl, ?_⟩
      replace ac:=yVb ac hb
      replace aa:=yVb aa hb
      have bd:=yho (fun k_=>(az k_∨w.heap.size≤k_)∧k_≠ay∧k_≠ao∧k_≠am) ho0 (fun k_ hk_=>⟨Or.elim hk_ (fun hs_=>hs_.1) (fun hn_=>(.inr (Nat.le_trans (zE yhb) hn_))),yoB ag hk_,yoB ae hk_,yoB af hk_⟩)
      replace ag:=ybb ag hb
      replace ae:=ybb ae hb
      replace af:=ybb af hb
      replace HB:=ybs hb
      (try clear hb)
      (try clear ho0)
      obtain ⟨dh,di,ch⟩:=zU bd.out
      (first|subst ch|(injection ch with f1_ f2_ f3_;have f4_:=f1_.symm;have f5_:=f3_.symm;clear f1_ f2_ f3_;subst f4_;subst f5_))
      refine hK.out _ _ yH (fun hHeld => ?_)
      clear hK K
      refine ym (some 72) ?_
      refine yp 7 65 HT_ ?_
      refine yp 8 73 HT_ ?_
      refine yp 9 74 HT_ ?_
      refine last_ (i:=10) (N:=none) #[true,true,true,true,true,true,true,true,true,true,true,false] rfl rfl (one_of HT_.out (by kernel_rfl)) (by decide) (fun K hK => ?_)
      have dj : w83.cell? ⟨am,0,none⟩=some (.int .u64 ak):=(zs af.out 0).trans rfl
      have hfs84:=zx af.out 0
      have:=au.out
      have:=aw.out
      have:=av.out
      have:=ax.out
      have dk : w83.cell? ⟨am,1,none⟩=some (.slice bT al.length bU):=(zs af.out 1).trans rfl
      have hfs86:=zx af.out 1
      have:=au.out
      have:=aw.out
      have:=av.out
      have:=ax.out
      refine skip_ (w1 := ?_) (by rfl) rfl ?_ ?_
      rotate_left
      ·
       go_simp
       rfl
      refine hK.out _ _ ?_
      clear hK K
      refine yp 11 12 HT_ ?_
      refine done_ (done_of HT_.out (by kernel_rfl)) ?_
      have:=aH.out
      have:=aI.out
      have:=au.out
      have:=av.out
      obtain ⟨_,_,_,_⟩:=yc2 ag
      have:=aw.out
      have:=ax.out
      obtain ⟨_,_,_,_⟩:=yc2 ae
      try go_wp2
      refine za1 (results_ct rfl _ _ ao 69 #[.int .u64 aK, .slice aN aA.length aQ] (0,0) _ rfl (ykp ae) Try.underlying69 rfl (by kernel_rfl)) rfl ?_
      exact ⟨_,ye,yV0 ac,yhb⟩
     replace c70:=za3.mpr c70
     subst c70
     rw [ynf] at H
     have H' := zm H
     clear H
     go_wp2
     go_roundg bF
     case measure=>exact yom3 HJ4 HK2 bE
     case rel=>exact ⟨(wrap64 (ah+1)),(aM),(ak),(al),(aC),yq,H',⟨yom3 HJ4 HK2 bE⟩,⟨yr ac⟩,⟨yr aa⟩,⟨yk ag⟩,⟨yk ae⟩,⟨yk af⟩,⟨yhb⟩⟩
   simp only [zM,zN] at H
   obtain ⟨rfl,rfl,rfl⟩:=H
   have:=av.out
   have:=au.out
   have:=ax.out
   have:=aw.out
   obtain ⟨_,_,_,_⟩:=yc2 af
   have:=aI.out
   have:=aH.out
   obtain ⟨_,_,_,_⟩:=yc2 ae
   obtain ⟨cQ,cR,cS⟩:=zU aa.out
   subst cS
   go_wp2
   refine za1 (results_ct rfl _ _ ao 69 #[.int .u64 ai, .slice cQ aj.length cR] (0,0) _ rfl (ykp ae) Try.underlying69 rfl (by kernel_rfl)) rfl ?_
   exact ⟨_,ye,yV0 aa,yhb⟩
def r05_New.f  : Option (Int × List Int):=some (4294967295,(([0,0,0,0] : List Int)))
theorem r05_New.calls  (r1 : Int) (r2 : List Int) (w : World) (h : r05_New.f  = some (r1,r2)) :
  Calls Try.prog 36 #[] w fun e w' => ∃ v1_ : Value,e=.returned (.agg #[.int .u64 r1,v1_])∧Kd.R (Kd.int .i64) 3 w' w.heap.size (fun _=>True) v1_ r2∧Below w.heap.size w w' := by
 have hu69:=Try.underlying69;have HB:=zm (zY w.heap.size w);have H:=h
 unfold r05_New.f at H
 clear h
 obtain ⟨ag,ac⟩ : ∃ y_ : List Int,y_=(([0,0,0,0] : List Int)):=⟨_,rfl⟩
 replace H : (some (4294967295,ag))=some (r1,r2):=yrw ac H
 have ae:=zm ac;clear ac
 simp only [zM,zN] at H
 obtain ⟨rfl,rfl⟩:=H
 go_enter Try.func36,Try.ntmps36
 go_wp2_with (first|((with_reducible refine zL (N:=0) rfl ?_);refine ybx 0 #[.int .u64 0, .slice none 0 0] 69 ?_;intro ah hg w1 hbox hb;have aa:=zm (hbox);have ai:=ygw hg;have aj:=ygw hg;replace HB:=ybs hb;clear hb hbox hg)|((with_reducible refine zL (N:=1) rfl ?_);refine Kd.R_lit (Kd.int .i64) _ 3 ?hg (N:=1) ?hd (xs:=([0,0,0,0] : List Int)) (inner := [.int .i64 0, .int .i64 0, .int .i64 0, .int .i64 0]) (ok:=fun _=>True) (okp:=fun _=>True) ?hr ?hp (fun _ hk=>hk) trivial (zY _ _) (zX _) (by simp) ?_;(case hd=>rfl);(case hg=>rfl);(case hr=>first|(go_simp;done)|(go_simp;rfl));(case hp=>exact (Reps.one (show Kd.M (Kd.int .i64) _ _ _ 0 [.int .i64 0] from rfl) (Reps.one (show Kd.M (Kd.int .i64) _ _ _ 0 [.int .i64 0] from rfl) (Reps.one (show Kd.M (Kd.int .i64) _ _ _ 0 [.int .i64 0] from rfl) (Reps.one (show Kd.M (Kd.int .i64) _ _ _ 0 [.int .i64 0] from rfl) (Reps.none _ _))))));intro ak w2 ho3 hb hg_ hnew_;clear hg_ hnew_;(first|rw [← ae.out] at ho3|(simp only [Int.reduceToNat] at ho3;rw [← ae.out] at ho3));have af:=zm (za0 ho3 (zE yhb));replace aa:=ybb aa hb;replace HB:=ybs hb;clear hb ho3;obtain ⟨Ao4,co4,eo4⟩:=zT af.out;subst eo4;obtain ⟨_,_,_,_⟩:=yc2 aa))
 refine za1 (zb2 rfl _ _ ah 69 #[.int .u64 4294967295, .slice Ao4 ag.length co4] (0,0) _ rfl (ykp aa) Try.underlying69 rfl (by kernel_rfl)) rfl ?_
 exact ⟨_,ye,yR1 af aa,yhb⟩
def r13_At.f (l0 : List (List Int)) (a1 : Int) : Option (List Int):=if a1 < (l0.length : Int) then (if 0≤a1 then (some (rd_L1 l0 a1)) else (none)) else (some ([] : List Int))
theorem r13_At.calls (P0_ : Nat→Prop) (A0 : Option Addr) (c0 : Nat) (l0 : List (List Int)) (a1 : Int) (r : List Int) (w : World) (hs0 : Kd.V (Kd.slice 3 (Kd.int .i64)) 49 w w.heap.size (fun k_=>P0_ k_) (.slice A0 l0.length c0) l0) (h : r13_At.f l0 a1=some r) :
  Calls Try.prog 39 #[.slice A0 l0.length c0, .int .i64 a1] w fun e w' => ∃ v0_ : Value,e=.returned (v0_)∧Kd.V (Kd.int .i64) 3 w' w.heap.size (fun k_=>(P0_ k_∨w.heap.size≤k_)) v0_ r∧Below w.heap.size w w' := by
 have HO0:=zm (show Kd.V (Kd.slice 3 (Kd.int .i64)) 49 w w.heap.size (fun k_=>(P0_ k_∨w.heap.size≤k_)) (.slice A0 l0.length c0) l0 from zy hs0 (fun k_ hk => .inl hk))
 have HB:=zm (zY w.heap.size w);have H:=h
 unfold r13_At.f at H
 clear h
 replace H:=yId H
 obtain ⟨ak,H⟩ | ⟨ak,H⟩:=H
 ·
  obtain ⟨c4,H⟩:=yif H
  have aq : decide (0≤a1)=true:=decide_eq_true c4
  clear c4
  obtain rfl:=zO H
  have ae : 0≤(a1 : Int):=yt
  have af : a1 < (l0.length : Int):=yt
  obtain ⟨ap,al,am,ao,ag,aa,ac⟩:=at_L1 (zR HO0.out).2.2 a1 ae af
  cases ao
  obtain ⟨ce828,hce828,hMe828,hcc828⟩:=Kd.V_get HO0.out [] a1 ae (by first|exact af|exact yt|(have e_:=(zR HO0.out).1;omega))
  obtain ⟨ua828_0,uc828_0,rfl,ul828_0,ge828_0⟩:=Kd.FK_slice_open hMe828
  have hv828_0:=hcc828 0 _ rfl
  rw [Nat.add_zero,show ((Kd.slice 3 (Kd.int .i64))).sz=1 from rfl,Nat.mul_one] at hv828_0
  replace hv828_0:=zO (hv828_0.symm.trans ag)
  injection hv828_0 with hva_ hvn_ hvc_
  rw [hva_] at ge828_0
  rw [hvc_] at ul828_0
  have ah:=zm (show Kd.V (Kd.int .i64) 3 _ w.heap.size _ _ (rd_L1 l0 a1) from Kd.V_mk ul828_0 ge828_0)
  clear hva_ hvn_ hvc_ ge828_0 ul828_0 hcc828 hce828;have ai:=zm ac;have aj:=zm aa;clear ac aa
  replace ae:=zP ae
  replace af:=zP af
  go_enter Try.func39,Try.ntmps39
  go_wp2
  go_ret
  exact ⟨_,ye,yr ah,yhb⟩
 obtain rfl:=zO H
 go_enter Try.func39,Try.ntmps39
 go_wp2
 go_ret
 exact ⟨_,ye,(by first|exact Kd.V_nil _ _ _ _ _|exact zy (Kd.R_V (yn)) (fun k_ hk=>by first|exact ⟨(.inr (hk.1)),hk.2⟩|exact (.inr (hk)))),yhb⟩
mutual
def r13_Read.j0 : Nat→Int→Int→List (List Int)→Bool→Int→Int→List Int→Int→Bool→Option (Bool × (List (List Int)) × (List (List (List Int))) × Int)
 | 0,_,_,_,_,_,_,_,_,_=>none
 | k+1,x0,x1,x3,x54,bx,bz,bA,bB,bq=>if x54=true then (some (false,([] : List (List Int)),([] : List (List (List Int))),1)) else (r13_Read.l0 k x0 x1 x3 0 bx bz bA bB bq ([] : List (List Int)))
def r13_Read.l0 : Nat→Int→Int→List (List Int)→Int→Int→Int→List Int→Int→Bool→List (List Int)→Option (Bool × (List (List Int)) × (List (List (List Int))) × Int)
 | 0,_,_,_,_,_,_,_,_,_,_=>none
 | k+1,x0,x1,x3,x13,bx,bz,bA,bB,bq,bs=>if x13 < x1 then ((r13_At.f x3 x13).bind fun bG=>((r11_Take.f k bx bz bA bB bG bq).bind fun cv=>(if bs.length < 5864062014805 then (r13_Read.l0 k x0 x1 x3 (wrap64 (x13+1)) cv.1 cv.2.1 cv.2.2.1 cv.2.2.2.1 bq (bs ++ [cv.2.2.2.2])) else (none)))) else ((r12_Pulses.f k x0 x1 bs).bind fun am=>(r13_Read.l1 k x1 am 0 bx bz bA bB bq bs ([] : List (List (List Int)))))
def r13_Read.l1 : Nat→Int→List (List Int)→Int→Int→Int→List Int→Int→Bool→List (List Int)→List (List (List Int))→Option (Bool × (List (List Int)) × (List (List (List Int))) × Int)
 | 0,_,_,_,_,_,_,_,_,_,_=>none
 | k+1,x1,x16,x17,bx,bz,bA,bB,bq,bs,bJ=>if x17 < x1 then (r13_Read.l2 k x1 x16 x17 ([] : List (List Int)) 0 bx bz bA bB bq bs bJ) else (some (bq,bs,bJ,0))
def r13_Read.l2 : Nat→Int→List (List Int)→Int→List (List Int)→Int→Int→Int→List Int→Int→Bool→List (List Int)→List (List (List Int))→Option (Bool × (List (List Int)) × (List (List (List Int))) × Int)
 | 0,_,_,_,_,_,_,_,_,_,_,_,_=>none
 | k+1,x1,x16,x17,x18,x19,bx,bz,bA,bB,bq,bs,bJ=>if x19 < 5 then ((r10_Width.f k x19).bind fun bL=>(if 0≤x17 then (if x17 < (x16.length : Int) then (if 0≤x19 then (if x19 < ((rd_L1 x16 x17).length : Int) then (if (rd (rd_L1 x16 x17) x19) > 0 then ((r06_Count.f k bL (rd (rd_L1 x16 x17) x19)).bind fun b4=>((r05_TakeNum.f k bx bz bA bB b4).bind fun cw=>((r06_Vector.f k bL (rd (rd_L1 x16 x17) x19) cw.2.2.2.2).bind fun bK=>(if x18.length < 5864062014805 then (r13_Read.l2 k x1 x16 x17 (x18 ++ [bK]) (wrap64 (x19+1)) cw.1 cw.2.1 cw.2.2.1 cw.2.2.2.1 bq bs bJ) else (none))))) else ((r06_Vector.f k bL (rd (rd_L1 x16 x17) x19) 0).bind fun bN=>(if x18.length < 5864062014805 then (r13_Read.l2 k x1 x16 x17 (x18 ++ [bN]) (wrap64 (x19+1)) bx bz bA bB bq bs bJ) else (none)))) else (none)) else (none)) else (none)) else (none))) else (if bJ.length < 5864062014805 then (r13_Read.l1 k x1 x16 (wrap64 (x17+1)) bx bz bA bB bq bs (bJ ++ [x18])) else (none))
end
def r13_Read.f (k : Nat) (a0 : Int) (a1 : Int) (l2 : List Int) (l3 : List (List Int)) : Option (Bool × (List (List Int)) × (List (List (List Int))) × Int):=(r12_Right.f a0 a1).bind fun dq=>(if dq=true then (if (l2.length : Int)=a0 then ((r05_Open.f k l2).bind fun b5=>((r05_Get.f b5.1 b5.2.1 b5.2.2.1 b5.2.2.2 2).bind fun aX=>((r05_Take.f k b5.1 b5.2.1 b5.2.2.1 b5.2.2.2 aX (wrap64 (aX+1)) 2).bind fun b6=>(if aX > 0 then (r13_Read.j0 k a0 a1 l3 false b6.1 b6.2.1 b6.2.2.1 b6.2.2.2 (decide (aX > 0))) else ((r12_Fair.f k a1 l3).bind fun di=>(r13_Read.j0 k a0 a1 l3 (!di) b6.1 b6.2.1 b6.2.2.1 b6.2.2.2 (decide (aX > 0)))))))) else (some (false,([] : List (List Int)),([] : List (List (List Int))),2))) else (some (false,([] : List (List Int)),([] : List (List (List Int))),1)))
theorem r13_Read.mono_l : ∀ k,(∀ y0 y1 y2 y3 y4 y5 y6 y7 y8,LeO (r13_Read.j0 k y0 y1 y2 y3 y4 y5 y6 y7 y8) (r13_Read.j0 (k+1) y0 y1 y2 y3 y4 y5 y6 y7 y8))∧(∀ y0 y1 y2 y3 y4 y5 y6 y7 y8 y9,LeO (r13_Read.l0 k y0 y1 y2 y3 y4 y5 y6 y7 y8 y9) (r13_Read.l0 (k+1) y0 y1 y2 y3 y4 y5 y6 y7 y8 y9))∧(∀ y0 y1 y2 y3 y4 y5 y6 y7 y8 y9,LeO (r13_Read.l1 k y0 y1 y2 y3 y4 y5 y6 y7 y8 y9) (r13_Read.l1 (k+1) y0 y1 y2 y3 y4 y5 y6 y7 y8 y9))∧(∀ y0 y1 y2 y3 y4 y5 y6 y7 y8 y9 y10 y11,LeO (r13_Read.l2 k y0 y1 y2 y3 y4 y5 y6 y7 y8 y9 y10 y11) (r13_Read.l2 (k+1) y0 y1 y2 y3 y4 y5 y6 y7 y8 y9 y10 y11))
 | 0=>⟨fun _ _ _ _ _ _ _ _ _ r h=>by simp [r13_Read.j0] at h,fun _ _ _ _ _ _ _ _ _ _ r h=>by simp [r13_Read.l0] at h,fun _ _ _ _ _ _ _ _ _ _ r h=>by simp [r13_Read.l1] at h,fun _ _ _ _ _ _ _ _ _ _ _ _ r h=>by simp [r13_Read.l2] at h⟩
 | k+1=>by
  obtain ⟨ih0,ih1,ih2,ih3⟩:=r13_Read.mono_l k
  have i0:=@r05_Open.mono;have i1:=@r05_Take.mono;have i2:=@r05_TakeNum.mono;have i3:=@r06_Count.mono;have i4:=@r06_Vector.mono;have i5:=@r10_Width.mono;have i6:=@r11_Take.mono;have i7:=@r12_Fair.mono;have i8:=@r12_Pulses.mono
  refine ⟨?_, ?_, ?_, ?_⟩
  ·
   intro y0 y1 y2 y3 y4 y5 y6 y7 y8
   unfold r13_Read.j0
   exact yLm
  ·
   intro y0 y1 y2 y3 y4 y5 y6 y7 y8 y9
   unfold r13_Read.l0
   exact yLm
  ·
   intro y0 y1 y2 y3 y4 y5 y6 y7 y8 y9
   unfold r13_Read.l1
   exact yLm
  intro y0 y1 y2 y3 y4 y5 y6 y7 y8 y9 y10 y11
  unfold r13_Read.l2
  exact yLm
theorem r13_Read.mono : ∀ a0 a1 a2 a3 k,LeO (r13_Read.f k a0 a1 a2 a3) (r13_Read.f (k+1) a0 a1 a2 a3):=by
 intro a0 a1 a2 a3 k
 obtain ⟨ih0,ih1,ih2,ih3⟩:=r13_Read.mono_l k
 have i0:=@r05_Open.mono;have i1:=@r05_Take.mono;have i2:=@r05_TakeNum.mono;have i3:=@r06_Count.mono;have i4:=@r06_Vector.mono;have i5:=@r10_Width.mono;have i6:=@r11_Take.mono;have i7:=@r12_Fair.mono;have i8:=@r12_Pulses.mono
 unfold r13_Read.f
 exact yLm
def r13_Read.T14 : Bool × List (List Nat × List Nat):=(true, [([], []),([], []),([], []),([1,2], [1,2]),([], []),([4], [4]),([0,3,5,3], [0,3,5]),([6], [6]),([7], [7]),([7], [7]),([], []),([10,8,6,0,1,2,3,4,5,6,7,8,10], [8,10]),([9,11,0,1,2,3,4,5,6,7,8,9,10,11], [9])])
def r13_Read.B14 : List Nat := [0,0,0,6,0,16,63,127,255,255,0,1535,4095]
theorem r13_Read.tab14 : rtab .any (opsOf Try.f21 14)=r13_Read.T14:=by kernel_rfl
theorem r13_Read.bits14 : waitsOk r13_Read.T14.2 r13_Read.B14=true:=by kernel_rfl
def r13_Read.T28 : Bool × List (List Nat × List Nat):=(true, [([], []),([], []),([], []),([], []),([2,3], [2,3]),([4], [4]),([], []),([5,6], [5,6]),([7], [7]),([1,8], [1,8]),([0,9,9], [0,9]),([10], [10]),([11], [11]),([11], [11]),([], []),([14,12,10,0,1,2,3,4,5,6,7,8,9,10,11,12,14], [12,14]),([13,15,0,1,2,3,4,5,6,7,8,9,10,11,12,13,14,15], [13])])
def r13_Read.B28 : List Nat := [0,0,0,0,12,28,0,124,252,510,1023,2047,4095,4095,0,24575,65535]
theorem r13_Read.tab28 : rtab .any (opsOf Try.f21 28)=r13_Read.T28:=by kernel_rfl
theorem r13_Read.bits28 : waitsOk r13_Read.T28.2 r13_Read.B28=true:=by kernel_rfl
theorem r13_Read.calls (k : Nat) (a0 : Int) (a1 : Int) (A2 : Option Addr) (c2 : Nat) (l2 : List Int) (A3 : Option Addr) (c3 : Nat) (l3 : List (List Int)) (r1 : Bool) (r2 : List (List Int)) (r3 : List (List (List Int))) (r4 : Int) (w : World) (hr2 : Kd.C (Kd.int .u8) w A2 l2.length l2) (hc2 : l2.length≤c2) (hr3 : Kd.C (Kd.slice 3 (Kd.int .i64)) w A3 l3.length l3) (hc3 : l3.length≤c3) (h : r13_Read.f k a0 a1 l2 l3=some (r1,r2,r3,r4)) :
  Calls Try.prog 21 #[.int .i64 a0, .int .i64 a1, .slice A2 l2.length c2, .slice A3 l3.length c3] w fun e w' => ∃ v1_ v2_ : Value,e=.returned (.tuple #[.agg #[.bool r1,v1_,v2_], .int .i64 r4])∧Kd.S (Kd.slice 3 (Kd.int .i64)) 49 w' w.heap.size (fun _=>True) v1_ r2∧Kd.R (Kd.slice 49 (Kd.slice 3 (Kd.int .i64))) 22 w' w.heap.size (fun k_=>some k_≠(v1_ : Value).ownBlock) v2_ r3∧Below w.heap.size w w' := by
 have hu33:=Try.underlying33;have hu95:=Try.underlying95;have HR2:=zm hr2;have HC2:=zm hc2;clear hr2 hc2;have HR3:=zm hr3;have HC3:=zm hc3;clear hr3 hc3;have HB:=zm (zY w.heap.size w);have H:=h
 unfold r13_Read.f at H
 clear h
 replace H:=ybi H;obtain ⟨dq,A5,H⟩:=H
 by_cases c6 : dq=true
 ·
  subst c6
  rw [za4 rfl] at H
  by_cases c7 : (l2.length : Int)=a0
  ·
   rw [za4 c7] at H
   obtain ⟨fK,fL⟩:=yE c7
   clear c7
   replace H:=ybi H;obtain ⟨⟨cJ,cK,cx,cL⟩,A8,H⟩:=H
   try dsimp only at H
   replace H:=ybi H;obtain ⟨aX,A9,H⟩:=H
   replace H:=ybi H;obtain ⟨⟨cy,cz,b9,cA⟩,A10,H⟩:=H
   try dsimp only at H
   have fw:=zm H;clear H
   go_enter Try.func21,Try.ntmps21
   go_upto_region 9 with (first|((with_reducible refine zL (N:=8) rfl ?_);refine ybx 8 #[.bool false, .slice none 0 0, .slice none 0 0] 33 ?_;intro ao hg w12 hbox hb;have af:=zm (hbox);have dr:=ygw hg;have dt:=ygw hg;replace HB:=ybs hb;clear hb hbox hg)|((with_reducible refine zK (f:=23) rfl ?_);refine ygl 26 Try.func23 #[.int .i64 a0, .int .i64 a1] ?_;(with_reducible refine (r12_Right.calls a0 a1 true _ A5.out).mono ?_);rintro e w' ⟨rfl,⟨nd,rfl⟩⟩;refine ⟨_,rfl, ?_⟩;(try (rw [drewN_self w12];generalize hq_ : World.drewN w12 _=w12;replace af:=ykq hq_ af;replace HB:=ysq hq_;clear hq_)))|((with_reducible refine zK (f:=55) rfl ?_);refine ygl 35 Try.func55 #[.slice A2 l2.length c2] ?_;(with_reducible refine (r05_Open.calls k (fun k_=>k_ < w.heap.size) _ _ l2 cJ cK cx cL _ ?bu A8.out).mono ?_);(case bu=>exact Kd.V_mk HC2.out (Kd.F_below (Kd.C_F (Kd.heap_int .u8) HR2.out) yhb));rintro e w13 ⟨g8,rfl,ho0,hb⟩;refine ⟨_,rfl, ?_⟩;have bF:=yho (fun k_=>k_≠ao) ho0 (fun k_ hk_=>yoB af hk_);replace af:=ybb af hb;replace HB:=ybs hb;(try clear hb);(try clear ho0))|((with_reducible refine zL (N:=10) rfl ?_);refine ybx 10 #[.int .u64 0, .int .u64 0, .slice none 0 0, .int .i64 0] 95 ?_;intro aj hg w14 hbox hb;replace bF:=yVe bF hg hb;have ag:=zm (hbox);have gK:=ygw hg;have gL:=ygw hg;replace HB:=ybs hb;have bD:=ynl af hg;have bE:=yng af hg;replace af:=ybb af hb;clear hb hbox hg;have:=bE.out;have:=bD.out;obtain ⟨dZ,d5,d6,d7,d8,d9,ea,eb⟩:=yc4 ag;obtain ⟨fx,ec,gM⟩:=zU bF.out;subst gM)|((with_reducible refine zK (f:=56) rfl ?_);refine ygl 37 Try.func56 #[.agg #[.int .u64 cJ, .int .u64 cK, .slice fx cx.length ec, .int .i64 cL], .int .i64 2] ?_;(with_reducible refine (r05_Get.calls cJ cK _ _ cx cL 2 aX _ ?bu ?cg A9.out).mono ?_);(case bu=>refine (zR (e:=5) (base:=w.heap.size) (ok:=fun k_=>(k_≠ao∧k_≠aj)) (n:=cx.length) (c:=ec) ?_).2.2;exact (yV0 bF));(case cg=>exact (zR bF.out).2.1);rintro e w18 ⟨rfl,hb⟩;refine ⟨_,rfl, ?_⟩;replace bF:=zm (Kd.V_below (yV0 bF) hb);replace af:=ybb af hb;replace ag:=zm (zF (g:=aj) (o:=.cells #[.int .u64 cJ, .int .u64 cK, .slice fx cx.length ec, .int .i64 cL] 95 (0,0)) (ykp ag) hb);replace HB:=ybs hb;(try clear hb);obtain ⟨ed,ee,ef,eg,eh,ei,ej,ek⟩:=yc4 ag)|((with_reducible refine zK (f:=57) rfl ?_);refine ygl 42 Try.func57 #[.agg #[.int .u64 cJ, .int .u64 cK, .slice fx cx.length ec, .int .i64 cL], .int .i64 aX, .int .i64 (wrap64 (aX+1)), .int .i64 2] ?_;(with_reducible refine (r05_Take.calls k cJ cK (fun k_=>(k_≠ao∧k_≠aj)) _ _ cx cL aX (wrap64 (aX+1)) 2 cy cz b9 cA _ bF.out A10.out).mono ?_);rintro e w20 ⟨g9,rfl,ho0,hb⟩;refine ⟨_,rfl, ?_⟩;replace bF:=yVb bF hb;have cB:=yho (fun k_=>k_≠ao∧k_≠aj) ho0 (fun k_ hk_=>⟨yoB af hk_,yoB ag hk_⟩);replace af:=ybb af hb;replace ag:=ybb ag hb;replace HB:=ybs hb;(try clear hb);(try clear ho0);obtain ⟨el,em,en,eo,ep,eq,er,es⟩:=yc4 ag;obtain ⟨dm,dp,gN⟩:=zU cB.out;subst gN)|((with_reducible refine zL (N:=12) rfl ?_);refine ybx 12 #[.bool false, .slice none 0 0, .slice none 0 0] 33 ?_;intro ap hg w23 hbox hb;replace bF:=zm (Kd.V_below (Kd.V_elderB (yV0 bF) ap (Nat.le_of_eq hg.symm)) hb);replace cB:=zm (Kd.V_below (Kd.V_elderB (yV0 cB) ap (Nat.le_of_eq hg.symm)) hb);have ah:=zm (hbox);have gO:=ygw hg;have gP:=ygw hg;replace HB:=ybs hb;have bm:=ynl af hg;have bn:=yng af hg;replace af:=ybb af hb;have bo:=zm ((by rw [hg];exact zn (zD (g:=aj) (o:=.cells #[.int .u64 cy, .int .u64 cz, .slice dm b9.length dp, .int .i64 cA] 95 (0,0)) (ykp ag)) : aj≠ap));have bp:=zm ((by rw [hg];exact zg (zD (g:=aj) (o:=.cells #[.int .u64 cy, .int .u64 cz, .slice dm b9.length dp, .int .i64 cA] 95 (0,0)) (ykp ag)) : ap≠aj));replace ag:=zm (zF (g:=aj) (o:=.cells #[.int .u64 cy, .int .u64 cz, .slice dm b9.length dp, .int .i64 cA] 95 (0,0)) (ykp ag) hb);clear hb hbox hg;have:=bn.out;have:=bm.out;have:=bp.out;have:=bo.out;obtain ⟨et,eu,ev,ew,ey,ez⟩:=yc3 ah))
   (try simp only [Act.put,za9,zb0,zb1])
   go_cut [54] (fun v54 wc => ∃ (kq : Nat) (cO : Bool),v54=.bool cO∧Aside0 (r13_Read.j0 kq a0 a1 l3 cO cy cz b9 cA (decide (aX > 0))=some (r1,r2,r3,r4))∧Aside0 (kq≤k)∧Aside0 (Kd.V (Kd.int .u8) 5 wc w.heap.size (fun k_=>k_≠ao∧k_≠aj∧k_≠ap) (.slice dm b9.length dp) b9)∧Aside0 (wc.heap[ao]? = some (.cells #[.bool false,(.slice none 0 0),(.slice none 0 0)] 33 (0,0)))∧Aside0 (wc.heap[aj]? = some (.cells #[.int .u64 cy, .int .u64 cz,(.slice dm b9.length dp), .int .i64 cA] 95 (0,0)))∧Aside0 (wc.heap[ap]? = some (.cells #[.bool (decide (aX > 0)),(.slice none 0 0),(.slice none 0 0)] 33 (0,0)))∧Aside0 (Below w.heap.size w wc))
   case first =>
    have H:=fw.out;clear fw
    replace H:=yIs H
    obtain ⟨cC,H⟩ | ⟨cC,H⟩:=H
    ·
     (first|rw [cC]|(simp only [i64_w,i32_w];rw [cC])|skip)
     have H' := zm H
     clear H
     have:=bn.out
     have:=bm.out
     have:=bp.out
     have:=bo.out
     obtain ⟨_,_,_,_,_,_⟩:=yc3 ah
     go_wp2
     go_meet
     case rel=>exact ⟨_,(false),yq,H',⟨yo⟩,⟨yV0 cB⟩,⟨yk af⟩,⟨yk ag⟩,⟨by rw [cC];(with_reducible repeat (first|refine zh ?_ _|refine zj ?_|refine zi ?_ _));refine zw (cs := #[.bool true, .slice none 0 0, .slice none 0 0]) ?_ 2 _ rfl;(with_reducible repeat (first|refine zh ?_ _|refine zj ?_|refine zi ?_ _));refine zw (cs := #[.bool true, .slice none 0 0, .slice none 0 0]) ?_ 1 _ rfl;(with_reducible repeat (first|refine zh ?_ _|refine zj ?_|refine zi ?_ _));refine zw (cs := #[.bool false, .slice none 0 0, .slice none 0 0]) ?_ 0 _ rfl;(with_reducible repeat (first|refine zh ?_ _|refine zj ?_|refine zi ?_ _));exact ah.out⟩,⟨yhb⟩⟩
    (first|rw [cC]|(simp only [i64_w,i32_w];rw [cC])|skip)
    replace H:=ybi H;obtain ⟨di,A31,H⟩:=H
    have H' := zm H
    clear H
    have:=bn.out
    have:=bm.out
    have:=bp.out
    have:=bo.out
    obtain ⟨_,_,_,_,_,_⟩:=yc3 ah
    go_wp2_with (first|(go_at_call 17;(with_reducible refine (r12_Fair.calls k a1 _ _ l3 di _ ?bu HC3.out A31.out).mono ?_);(case bu=>exact Kd.C_below HR3.out yhb);rintro e w' ⟨rfl,⟨nd,rfl⟩⟩))
    go_meet
    case rel=>exact ⟨_,(!di),yq,H',⟨yo⟩,⟨yV0 cB⟩,⟨yk af⟩,⟨yk ag⟩,⟨by rw [cC];(with_reducible repeat (first|refine zh ?_ _|refine zj ?_|refine zi ?_ _));refine zw (cs := #[.bool false, .slice none 0 0, .slice none 0 0]) ?_ 2 _ rfl;(with_reducible repeat (first|refine zh ?_ _|refine zj ?_|refine zi ?_ _));refine zw (cs := #[.bool false, .slice none 0 0, .slice none 0 0]) ?_ 1 _ rfl;(with_reducible repeat (first|refine zh ?_ _|refine zj ?_|refine zi ?_ _));refine zw (cs := #[.bool false, .slice none 0 0, .slice none 0 0]) ?_ 0 _ rfl;(with_reducible repeat (first|refine zh ?_ _|refine zj ?_|refine zi ?_ _));exact ah.out⟩,⟨yhb⟩⟩
   case rest =>
    clear fw
    try clear c2
    try clear c3
    try clear fK
    try clear fL
    try clear dZ
    try clear d5
    try clear d6
    try clear d7
    try clear ed
    try clear ee
    try clear ef
    try clear eg
    try clear el
    try clear em
    try clear en
    try clear eo
    try clear et
    try clear eu
    try clear ev
    try clear d8
    try clear d9
    try clear ea
    try clear eb
    try clear eh
    try clear ei
    try clear ej
    try clear ek
    try clear ep
    try clear eq
    try clear er
    try clear es
    try clear ew
    try clear ey
    try clear ez
    obtain ⟨kq,cO,rfl,HA,cS,ac,af,ag,ah,HB⟩:=hcut
    obtain ⟨fM,rfl⟩:=ysu kq (fun h=>by subst h;exact absurd HA.out (by simp [r13_Read.j0]))
    have H:=HA.out;clear HA
    simp only [r13_Read.j0] at H
    by_cases c35 : cO=true
    ·
     subst c35
     rw [za4 rfl] at H
     simp only [zM,zN] at H
     obtain ⟨rfl,rfl,rfl,rfl⟩:=H
     have:=bD.out
     have:=bE.out
     have:=bm.out
     have:=bn.out
     obtain ⟨eA,eB,eC,eD,eE,eF⟩:=yc3 af
     go_wp2
     refine za1 (results_ct rfl _ _ ao 33 #[.bool false, .slice none 0 0, .slice none 0 0] (0,0) _ rfl (ykp af) Try.underlying33 rfl (by kernel_rfl)) rfl ?_
     exact ⟨_,_,ye,yn,yn,yhb⟩
    replace c35:=za3.mpr c35
    subst c35
    rw [ynf] at H
    have H' := zm H
    clear H
    go_wp2
    go_loopg [13] fM (fun kq v13 w' => ∃ (ch : Int) (aU : Int) (aV : Int) (aC : List Int) (aW : Int) (ae : List (List Int)) (bj : Value) (ay : Value),v13=.int .i64 ch∧Aside0 (r13_Read.l0 kq a0 a1 l3 ch aU aV aC aW (decide (aX > 0)) ae=some (r1,r2,r3,r4))∧Aside0 (kq≤fM)∧Aside0 (Kd.V (Kd.int .u8) 5 w' w.heap.size (fun k_=>some k_≠(ay : Value).ownBlock∧k_≠ao∧k_≠aj∧k_≠ap) bj aC)∧Aside0 (Kd.S (Kd.slice 3 (Kd.int .i64)) 49 w' w.heap.size (fun _=>True) ay ae)∧Aside0 (w'.heap[ao]? = some (.cells #[.bool false,(.slice none 0 0),(.slice none 0 0)] 33 (0,0)))∧Aside0 (w'.heap[aj]? = some (.cells #[.int .u64 aU, .int .u64 aV,bj, .int .i64 aW] 95 (0,0)))∧Aside0 (w'.heap[ap]? = some (.cells #[.bool (decide (aX > 0)),ay,(.slice none 0 0)] 33 (0,0)))∧Aside0 (Below w.heap.size w w'))
    case atStart=>exact ⟨(0),(cy),(cz),(b9),(cA),(([] : List (List Int))),(.slice dm b9.length dp),(.slice none 0 0),yq,H',⟨zX _⟩,⟨yV0 ac⟩,⟨yn⟩,⟨yk af⟩,⟨yk ag⟩,⟨yk ah⟩,⟨yhb⟩⟩
    case round =>
     clear H'
     try clear eA
     try clear eB
     try clear eC
     try clear eD
     try clear eE
     try clear eF
     obtain ⟨ch,aU,aV,aC,aW,ae,bj,ay,rfl,HA,HK2,ac,aa,af,ag,ah,HB⟩:=hrel
     obtain ⟨k2,rfl⟩:=ysu gk (fun h=>by subst h;exact absurd HA.out (by simp [r13_Read.l0]))
     have H:=HA.out;clear HA
     simp only [r13_Read.l0] at H
     replace H:=yId H
     obtain ⟨fo,H⟩ | ⟨fo,H⟩:=H
     ·
      replace H:=ybi H;obtain ⟨bG,A40,H⟩:=H
      replace H:=ybi H;obtain ⟨⟨bO,bP,bH,bQ,bR⟩,A41,H⟩:=H
      try dsimp only at H
      replace H:=yif H;obtain ⟨c42,H⟩:=H
      have LMc42:=zm c42;clear c42
      obtain ⟨du,dc⟩ : ∃ y_ : List (List Int),y_=(ae ++ [bR]):=⟨_,rfl⟩
      replace H : (r13_Read.l0 k2 a0 a1 l3 (wrap64 (ch+1)) bO bP bH bQ (decide (aX > 0)) du)=some (r1,r2,r3,r4):=yrw dc H
      have fy:=zm dc;clear dc
      have H' := zm H
      clear H
      obtain ⟨cF,cG,gQ⟩:=zU ac.out
      subst gQ
      try go_wp2
      replace ac:=zm (zC ac.out)
      replace aa:=zm (Kd.S_drew aa.out)
      replace af:=zm (zj af.out)
      replace ag:=zm (zj ag.out)
      replace ah:=zm (zj ah.out)
      replace HB:=zm (zf HB.out)
      refine yst (fun w' => w'.cell? ⟨aj,0,none⟩=some (.int .u64 aU)∧w'.cell? ⟨aj,1,none⟩=some (.int .u64 aV)∧w'.cell? ⟨aj,2,none⟩=some (.slice cF aC.length cG)∧w'.cell? ⟨aj,3,none⟩=some (.int .i64 aW)∧w'.cell? ⟨ap,0,none⟩=some (.bool (decide (aX > 0)))∧w'.cell? ⟨ap,1,none⟩=some (ay)∧w'.cell? ⟨ap,2,none⟩=some (.slice none 0 0)) [] 13 r13_Read.tab14 r13_Read.bits14 (fun hHeld HT_ HW_ => ?_)
      generalize wr.drew=w44 at ac aa af ag ah HB hHeld ⊢
      refine yp 1 63 HT_ ?_
      refine yp 2 64 HT_ ?_
      refine yp 4 66 HT_ ?_
      refine yl 0 62 HT_ HW_ hHeld ?_
      refine yl 5 67 HT_ HW_ hHeld ?_
      refine join_ (σ:=Value × Value × Value × Nat) 2 #[true,true,true,true,true,true,true,true,true,true,true,false,false] (fun s_ => [(65,s_.1),(68, .tuple #[.agg #[.int .u64 bO, .int .u64 bP,s_.2.1, .int .i64 bQ],s_.2.2.1]),(14, .pointer (some ⟨s_.2.2.2,0,none⟩)),(61, .tuple #[.agg #[.int .u64 bO, .int .u64 bP,s_.2.1, .int .i64 bQ],s_.2.2.1]),(69, .agg #[.int .u64 bO, .int .u64 bP,s_.2.1, .int .i64 bQ]),(70,s_.2.2.1)]) (fun s_ w' => (w'.cell? ⟨aj,0,none⟩=some (.int .u64 aU)∧w'.cell? ⟨aj,1,none⟩=some (.int .u64 aV)∧w'.cell? ⟨aj,2,none⟩=some (.slice cF aC.length cG)∧w'.cell? ⟨aj,3,none⟩=some (.int .i64 aW)∧w'.cell? ⟨ap,0,none⟩=some (.bool (decide (aX > 0)))∧w'.cell? ⟨ap,1,none⟩=some (ay)∧w'.cell? ⟨ap,2,none⟩=some (.slice none 0 0))∧(Kd.V (Kd.int .i64) 3 w' w.heap.size (fun k_=>some k_≠(s_.2.2.1 : Value).ownBlock∧some k_≠(ay : Value).ownBlock∧k_≠ao∧k_≠aj∧k_≠ap∧k_≠s_.2.2.2) s_.1 bG)∧(Kd.V (Kd.int .u8) 5 w' w.heap.size (fun k_=>some k_≠(s_.2.2.1 : Value).ownBlock∧some k_≠(ay : Value).ownBlock∧k_≠ao∧k_≠aj∧k_≠ap∧k_≠s_.2.2.2) s_.2.1 bH)∧(Kd.R (Kd.int .i64) 3 w' w.heap.size (fun _=>True) s_.2.2.1 bR)∧(Kd.V (Kd.int .u8) 5 w' w.heap.size (fun k_=>some k_≠(s_.2.2.1 : Value).ownBlock∧some k_≠(ay : Value).ownBlock∧k_≠ao∧k_≠aj∧k_≠ap∧k_≠s_.2.2.2) (.slice cF aC.length cG) aC)∧(Kd.S (Kd.slice 3 (Kd.int .i64)) 49 w' w.heap.size (fun k_=>some k_≠(s_.2.2.1 : Value).ownBlock) ay ae)∧(w'.heap[ao]? = some (.cells #[.bool false, .slice none 0 0, .slice none 0 0] 33 (0,0)))∧(w'.heap[aj]? = some (.cells #[.int .u64 aU, .int .u64 aV, .slice cF aC.length cG, .int .i64 aW] 95 (0,0)))∧(w'.heap[ap]? = some (.cells #[.bool (decide (aX > 0)),ay, .slice none 0 0] 33 (0,0)))∧(w'.heap[s_.2.2.2]? = some (.cells #[.int .u64 0, .int .u64 0, .slice none 0 0, .int .i64 0] 95 (0,0)))∧(w.heap.size≤s_.2.2.2)∧(w.heap.size≤s_.2.2.2)∧(ao≠s_.2.2.2)∧(s_.2.2.2≠ao)∧(aj≠s_.2.2.2)∧(s_.2.2.2≠aj)∧(ap≠s_.2.2.2)∧(s_.2.2.2≠ap)∧(Below w.heap.size w w')) ?_ ?_
      rotate_left
      ·
       intro hCont
       refine two_ (i:=3) (j:=10) (Ni:=some 65) (Nj:=some 14) #[true,true,true,true,true,true,false,false,false,false,false,false,false] #[true,true,true,false,true,true,false,false,false,false,true,false,false] rfl rfl rfl rfl (two_of HT_.out (by kernel_rfl)) (by decide) (by decide) (fun K hK => ?_) (fun K hK => ?_)
       ·
        skip
        refine ygs Try.func39 #[.slice A3 l3.length c3, .int .i64 ch] ?_
        with_reducible refine (r13_At.calls (fun k_=>k_ < w.heap.size) _ _ l3 ch bG _ ?bu A40.out).mono ?_
        (case bu=>exact Kd.V_mk HC3.out (Kd.F_below (Kd.C_F (Kd.heap_slice 3 (Kd.heap_int .i64)) HR3.out) yhb))
        rintro e w45 ⟨dj,rfl,ho0,hb⟩
        refine ⟨_,rfl, ?_⟩
        replace ac:=yVb ac hb
        have aQ:=yho (fun k_=>some k_≠(ay : Value).ownBlock∧k_≠ao∧k_≠aj∧k_≠ap) ho0 (fun k_ hk_=>⟨yoS aa hk_,yoB af hk_,yoB ag hk_,yoB ah hk_⟩)
        replace aa:=ySb aa hb
        replace af:=ybb af hb
        replace ag:=ybb ag hb
        replace ah:=ybb ah hb
        replace HB:=ybs hb
        (try clear hb)
        (try clear ho0)
        obtain ⟨fN,fO,fP⟩:=zU aQ.out
        (first|subst fP|(injection fP with f1_ f2_ f3_;have f4_:=f1_.symm;have f5_:=f3_.symm;clear f1_ f2_ f3_;subst f4_;subst f5_))
        refine hK.out _ _ yH (fun hHeld => ?_)
        clear hK K
        refine ym (some 65) ?_
        refine two_ (i:=6) (j:=10) (Ni:=some 68) (Nj:=some 14) #[true,true,true,true,true,true,true,false,false,false,false,false,false] #[true,true,true,true,true,true,false,false,false,false,true,false,false] rfl rfl rfl rfl (two_of HT_.out (by kernel_rfl)) (by decide) (by decide) (fun K hK => ?_) (fun K hK => ?_)
        ·
         skip
         refine ygs Try.func58 #[.agg #[.int .u64 aU, .int .u64 aV, .slice cF aC.length cG, .int .i64 aW], .slice fN bG.length fO, .bool (decide (aX > 0))] ?_
         with_reducible refine (r11_Take.calls k2 aU aV (fun k_=>(some k_≠(ay : Value).ownBlock∧(k_≠ao∧(k_≠aj∧k_≠ap)))) _ _ aC aW _ _ bG (decide (aX > 0)) bO bP bH bQ bR _ ?bu ?cg ?cT A41.out).mono ?_
         (case bu=>exact ac.out)
         (case cg=>exact yce (zR aQ.out).2.2)
         (case cT=>exact (zR aQ.out).2.1)
         rintro e w47 ⟨cM,bC,rfl,ho0,ho1,hb⟩
         refine ⟨_,rfl, ?_⟩
         replace ac:=zm (za7 (yr ac) (zW ho1) hb)
         replace aQ:=zm (za7 (yr aQ) (zW ho1) hb)
         have bv:=yho (fun k_=>some k_≠(bC : Value).ownBlock∧some k_≠(ay : Value).ownBlock∧k_≠ao∧k_≠aj∧k_≠ap) ho0 (fun k_ hk_=>⟨hk_.2,Or.elim hk_.1 (fun hs_=>hs_.1) (fun hn_=>(zc2 (Kd.S_lt (yr aa)) k_ hn_)),Or.elim hk_.1 (fun hs_=>hs_.2.1) (fun hn_=>(Kd.freshB (yk af) k_ hn_)),Or.elim hk_.1 (fun hs_=>hs_.2.2.1) (fun hn_=>(Kd.freshB (yk ag) k_ hn_)),Or.elim hk_.1 (fun hs_=>hs_.2.2.2) (fun hn_=>(Kd.freshB (yk ah) k_ hn_))⟩)
         replace aa:=zm (za8 (yr aa) (zW ho1) hb)
         have bw:=zm (za0 (zG (ok' := fun k_=>True) ho1 (fun _ hk_=>trivial)) (zE yhb))
         replace af:=ybb af hb
         replace ag:=ybb ag hb
         replace ah:=ybb ah hb
         replace HB:=ybs hb
         (try clear hb)
         (try clear ho0)
         (try clear ho1)
         refine hK.out _ _ yH (fun hHeld => ?_)
         clear hK K
         refine ym (some 68) ?_
         refine yp 7 61 HT_ ?_
         refine yp 8 69 HT_ ?_
         refine yp 9 70 HT_ ?_
         refine yw 10 14 HT_ (fun K hK => ?_)
         refine box_step ?hg (N:=14) ?hd (cs := #[.int .u64 0, .int .u64 0, .slice none 0 0, .int .i64 0]) (t:=95) ?hr ?_;(case hd=>rfl);(case hg=>rfl);(case hr=>first|(go_simp;done)|(go_simp;rfl))
         intro aT hg w48 hbox hb
         replace ac:=yVe ac hg hb
         replace aa:=ySb aa hb
         replace aQ:=yVe aQ hg hb
         replace bv:=yVe bv hg hb
         replace bw:=yRb bw hb
         have aK:=zm (hbox)
         have ck:=ygw hg
         have cl:=ygw hg
         replace HB:=ybs hb
         have a7:=ynl af hg
         have a8:=yng af hg
         replace af:=ybb af hb
         have a9:=ynl ag hg
         have ba:=yng ag hg
         replace ag:=ybb ag hb
         have bb:=ynl ah hg
         have bc:=yng ah hg
         replace ah:=ybb ah hb
         clear hb hbox hg
         refine hK.out _ _ yH (fun hHeld => ?_)
         clear hK K
         refine ym (some 14) ?_
         exact norm_ (by simp only [putAll,Act.put,za9,zb0,zb1]) (hCont (.slice fN bG.length fO,cM,bC,aT) _ ⟨hHeld,(yV0 aQ),(yV0 bv),(yr bw),(yV0 ac),(yS0 aa),(yk af),(yk ag),(yk ah),(yk aK),ck.out,cl.out,a7.out,a8.out,a9.out,ba.out,bb.out,bc.out,yhb⟩)
        skip
        refine box_step ?hg (N:=14) ?hd (cs := #[.int .u64 0, .int .u64 0, .slice none 0 0, .int .i64 0]) (t:=95) ?hr ?_;(case hd=>rfl);(case hg=>rfl);(case hr=>first|(go_simp;done)|(go_simp;rfl))
        intro aT hg w46 hbox hb
        replace ac:=yVe ac hg hb
        replace aa:=ySb aa hb
        replace aQ:=yVe aQ hg hb
        have aK:=zm (hbox)
        have ck:=ygw hg
        have cl:=ygw hg
        replace HB:=ybs hb
        have a7:=ynl af hg
        have a8:=yng af hg
        replace af:=ybb af hb
        have a9:=ynl ag hg
        have ba:=yng ag hg
        replace ag:=ybb ag hb
        have bb:=ynl ah hg
        have bc:=yng ah hg
        replace ah:=ybb ah hb
        clear hb hbox hg
        obtain ⟨dv,dw,dx⟩:=zU aQ.out
        (first|subst dx|(injection dx with f1_ f2_ f3_;have f4_:=f1_.symm;have f5_:=f3_.symm;clear f1_ f2_ f3_;subst f4_;subst f5_))
        refine hK.out _ _ yH (fun hHeld => ?_)
        clear hK K
        refine ym (some 14) ?_
        refine yw 6 68 HT_ (fun K hK => ?_)
        refine ygs Try.func58 #[.agg #[.int .u64 aU, .int .u64 aV, .slice cF aC.length cG, .int .i64 aW], .slice dv bG.length dw, .bool (decide (aX > 0))] ?_
        with_reducible refine (r11_Take.calls k2 aU aV (fun k_=>((some k_≠(ay : Value).ownBlock∧(k_≠ao∧(k_≠aj∧k_≠ap)))∧k_≠aT)) _ _ aC aW _ _ bG (decide (aX > 0)) bO bP bH bQ bR _ ?bu ?cg ?cT A41.out).mono ?_
        (case bu=>exact ac.out)
        (case cg=>exact yce (zR aQ.out).2.2)
        (case cT=>exact (zR aQ.out).2.1)
        rintro e w48 ⟨cM,bC,rfl,ho0,ho1,hb⟩
        refine ⟨_,rfl, ?_⟩
        replace ac:=zm (za7 (yr ac) (zW ho1) hb)
        replace aQ:=zm (za7 (yr aQ) (zW ho1) hb)
        have bv:=yho (fun k_=>some k_≠(bC : Value).ownBlock∧some k_≠(ay : Value).ownBlock∧k_≠ao∧k_≠aj∧k_≠ap∧k_≠aT) ho0 (fun k_ hk_=>⟨hk_.2,Or.elim hk_.1 (fun hs_=>hs_.1.1) (fun hn_=>(zc2 (Kd.S_lt (yr aa)) k_ hn_)),Or.elim hk_.1 (fun hs_=>hs_.1.2.1) (fun hn_=>(Kd.freshB (yk af) k_ hn_)),Or.elim hk_.1 (fun hs_=>hs_.1.2.2.1) (fun hn_=>(Kd.freshB (yk ag) k_ hn_)),Or.elim hk_.1 (fun hs_=>hs_.1.2.2.2) (fun hn_=>(Kd.freshB (yk ah) k_ hn_)),Or.elim hk_.1 (fun hs_=>hs_.2) (fun hn_=>(Kd.freshB (yk aK) k_ hn_))⟩)
        replace aa:=zm (za8 (yr aa) (zW ho1) hb)
        have bw:=zm (za0 (zG (ok' := fun k_=>True) ho1 (fun _ hk_=>trivial)) (zE yhb))
        replace af:=ybb af hb
        replace ag:=ybb ag hb
        replace ah:=ybb ah hb
        replace aK:=ybb aK hb
        replace HB:=ybs hb
        (try clear hb)
        (try clear ho0)
        (try clear ho1)
        refine hK.out _ _ yH (fun hHeld => ?_)
        clear hK K
        refine ym (some 68) ?_
        refine yp 7 61 HT_ ?_
        refine yp 8 69 HT_ ?_
        refine yp 9 70 HT_ ?_
        exact norm_ (by simp only [putAll,Act.put,za9,zb0,zb1]) (hCont (.slice dv bG.length dw,cM,bC,aT) _ ⟨hHeld,(yV0 aQ),(yr bv),(yr bw),(yV0 ac),(yS0 aa),(yk af),(yk ag),(yk ah),(yk aK),ck.out,cl.out,a7.out,a8.out,a9.out,ba.out,bb.out,bc.out,yhb⟩)
       skip
       refine box_step ?hg (N:=14) ?hd (cs := #[.int .u64 0, .int .u64 0, .slice none 0 0, .int .i64 0]) (t:=95) ?hr ?_;(case hd=>rfl);(case hg=>rfl);(case hr=>first|(go_simp;done)|(go_simp;rfl))
       intro aT hg w45 hbox hb
       replace ac:=yVe ac hg hb
       replace aa:=ySb aa hb
       have aK:=zm (hbox)
       have ck:=ygw hg
       have cl:=ygw hg
       replace HB:=ybs hb
       have a7:=ynl af hg
       have a8:=yng af hg
       replace af:=ybb af hb
       have a9:=ynl ag hg
       have ba:=yng ag hg
       replace ag:=ybb ag hb
       have bb:=ynl ah hg
       have bc:=yng ah hg
       replace ah:=ybb ah hb
       clear hb hbox hg
       refine hK.out _ _ yH (fun hHeld => ?_)
       clear hK K
       refine ym (some 14) ?_
       refine yw 3 65 HT_ (fun K hK => ?_)
       refine ygs Try.func39 #[.slice A3 l3.length c3, .int .i64 ch] ?_
       with_reducible refine (r13_At.calls (fun k_=>k_ < w.heap.size) _ _ l3 ch bG _ ?bu A40.out).mono ?_
       (case bu=>exact Kd.V_mk HC3.out (Kd.F_below (Kd.C_F (Kd.heap_slice 3 (Kd.heap_int .i64)) HR3.out) yhb))
       rintro e w46 ⟨dj,rfl,ho0,hb⟩
       refine ⟨_,rfl, ?_⟩
       replace ac:=yVb ac hb
       have aQ:=yho (fun k_=>some k_≠(ay : Value).ownBlock∧k_≠ao∧k_≠aj∧k_≠ap∧k_≠aT) ho0 (fun k_ hk_=>⟨yoS aa hk_,yoB af hk_,yoB ag hk_,yoB ah hk_,yoB aK hk_⟩)
       replace aa:=ySb aa hb
       replace af:=ybb af hb
       replace ag:=ybb ag hb
       replace ah:=ybb ah hb
       replace aK:=ybb aK hb
       replace HB:=ybs hb
       (try clear hb)
       (try clear ho0)
       obtain ⟨dv,dw,dx⟩:=zU aQ.out
       (first|subst dx|(injection dx with f1_ f2_ f3_;have f4_:=f1_.symm;have f5_:=f3_.symm;clear f1_ f2_ f3_;subst f4_;subst f5_))
       refine hK.out _ _ yH (fun hHeld => ?_)
       clear hK K
       refine ym (some 65) ?_
       refine yw 6 68 HT_ (fun K hK => ?_)
       refine ygs Try.func58 #[.agg #[.int .u64 aU, .int .u64 aV, .slice cF aC.length cG, .int .i64 aW], .slice dv bG.length dw, .bool (decide (aX > 0))] ?_
       with_reducible refine (r11_Take.calls k2 aU aV (fun k_=>((some k_≠(ay : Value).ownBlock∧(k_≠ao∧(k_≠aj∧k_≠ap)))∧k_≠aT)) _ _ aC aW _ _ bG (decide (aX > 0)) bO bP bH bQ bR _ ?bu ?cg ?cT A41.out).mono ?_
       (case bu=>exact ac.out)
       (case cg=>exact yce (zR aQ.out).2.2)
       (case cT=>exact (zR aQ.out).2.1)
       rintro e w48 ⟨cM,bC,rfl,ho0,ho1,hb⟩
       refine ⟨_,rfl, ?_⟩
       replace ac:=zm (za7 (yr ac) (zW ho1) hb)
       replace aQ:=zm (za7 (yr aQ) (zW ho1) hb)
       have bv:=yho (fun k_=>some k_≠(bC : Value).ownBlock∧some k_≠(ay : Value).ownBlock∧k_≠ao∧k_≠aj∧k_≠ap∧k_≠aT) ho0 (fun k_ hk_=>⟨hk_.2,Or.elim hk_.1 (fun hs_=>hs_.1.1) (fun hn_=>(zc2 (Kd.S_lt (yr aa)) k_ hn_)),Or.elim hk_.1 (fun hs_=>hs_.1.2.1) (fun hn_=>(Kd.freshB (yk af) k_ hn_)),Or.elim hk_.1 (fun hs_=>hs_.1.2.2.1) (fun hn_=>(Kd.freshB (yk ag) k_ hn_)),Or.elim hk_.1 (fun hs_=>hs_.1.2.2.2) (fun hn_=>(Kd.freshB (yk ah) k_ hn_)),Or.elim hk_.1 (fun hs_=>hs_.2) (fun hn_=>(Kd.freshB (yk aK) k_ hn_))⟩)
       replace aa:=zm (za8 (yr aa) (zW ho1) hb)
       have bw:=zm (za0 (zG (ok' := fun k_=>True) ho1 (fun _ hk_=>trivial)) (zE yhb))
       replace af:=ybb af hb
       replace ag:=ybb ag hb
       replace ah:=ybb ah hb
       replace aK:=ybb aK hb
       replace HB:=ybs hb
       (try clear hb)
       (try clear ho0)
       (try clear ho1)
       refine hK.out _ _ yH (fun hHeld => ?_)
       clear hK K
       refine ym (some 68) ?_
       refine yp 7 61 HT_ ?_
       refine yp 8 69 HT_ ?_
       refine yp 9 70 HT_ ?_
       exact norm_ (by simp only [putAll,Act.put,za9,zb0,zb1]) (hCont (.slice dv bG.length dw,cM,bC,aT) _ ⟨hHeld,(yV0 aQ),(yr bv),(yr bw),(yV0 ac),(yS0 aa),(yk af),(yk ag),(yk ah),(yk aK),ck.out,cl.out,a7.out,a8.out,a9.out,ba.out,bb.out,bc.out,yhb⟩)
      rintro ⟨dj,cM,bC,aT⟩ w49 hS_
      try dsimp only at hS_
      obtain ⟨hS_,h0_,h1_,h2_,h3_,h4_,h5_,h6_,h7_,h8_,h9_,dy,dz,dA,dB,dC,dD,dE,dF⟩:=hS_
      have n0_:=zm h0_;have n1_:=zm h1_;have n2_:=zm h2_;have n3_:=zm h3_;have n4_:=zm h4_;have n5_:=zm h5_;have n6_:=zm h6_;have n7_:=zm h7_;have n8_:=zm h8_;have n9_:=zm h9_;have dG:=zm dy;have dH:=zm dz;have dI:=zm dA;have dJ:=zm dB;have dK:=zm dC;have dL:=zm dD;have dM:=zm dE;have dN:=zm dF;clear ac aa af ag ah HB h0_ h1_ h2_ h3_ h4_ h5_ h6_ h7_ h8_ h9_ dy dz dA dB dC dD dE dF;have aQ:=n0_;have bv:=n1_;have bw:=n2_;have ac:=n3_;have aa:=n4_;have af:=n5_;have ag:=n6_;have ah:=n7_;have aK:=n8_;have ck:=n9_;have cl:=dG;have a7:=dH;have a8:=dI;have a9:=dJ;have ba:=dK;have bb:=dL;have bc:=dM;have HB:=dN;clear n0_ n1_ n2_ n3_ n4_ n5_ n6_ n7_ n8_ n9_ dG dH dI dJ dK dL dM dN
      have hHeld:=hS_
      obtain ⟨cU,cV,fQ⟩:=zU bv.out
      (first|subst fQ|(injection fQ with f1_ f2_ f3_;have f4_:=f1_.symm;have f5_:=f3_.symm;clear f1_ f2_ f3_;subst f4_;subst f5_))
      refine norm_ (a' := ?_) ?_ ?_
      rotate_left
      ·
       simp only [putAll,Act.put,za9,zb0,zb1]
       rfl
      refine yv 11 HT_ (fun K hK => ?_)
      have iu : w49.cell? ⟨aT,0,none⟩=some (.int .u64 0):=(zs aK.out 0).trans rfl
      have hfs50:=zx aK.out 0
      have:=a7.out
      have:=a9.out
      have:=bb.out
      have:=a8.out
      have:=ba.out
      have:=bc.out
      have iv : w49.cell? ⟨aT,1,none⟩=some (.int .u64 0):=(zs aK.out 1).trans rfl
      have hfs51:=zx aK.out 1
      have:=a7.out
      have:=a9.out
      have:=bb.out
      have:=a8.out
      have:=ba.out
      have:=bc.out
      have iw : w49.cell? ⟨aT,2,none⟩=some (.slice none 0 0):=(zs aK.out 2).trans rfl
      have hfs53:=zx aK.out 2
      have:=a7.out
      have:=a9.out
      have:=bb.out
      have:=a8.out
      have:=ba.out
      have:=bc.out
      have iy : w49.cell? ⟨aT,3,none⟩=some (.int .i64 0):=(zs aK.out 3).trans rfl
      have hfs54:=zx aK.out 3
      have:=a7.out
      have:=a9.out
      have:=bb.out
      have:=a8.out
      have:=ba.out
      have:=bc.out
      refine skip_ (w1 := ?_) (by rfl) rfl ?_ ?_
      rotate_left
      ·
       go_simp
       rfl
      refine hK.out _ _ yH (fun hHeld => ?_)
      clear hK K
      refine yp 12 15 HT_ ?_
      refine done_ (done_of HT_.out (by kernel_rfl)) ?_
      obtain ⟨w55,hw_⟩ : ∃ x,x=((((w49.setCell ⟨aT,0,none⟩ (.int .u64 bO)).setCell ⟨aT,1,none⟩ (.int .u64 bP)).setCell ⟨aT,2,none⟩ (.slice cU bH.length cV)).setCell ⟨aT,3,none⟩ (.int .i64 bQ)):=⟨_,rfl⟩
      rw [← hw_]
      replace ac : Aside0 (Kd.V (Kd.int .u8) 5 w55 w.heap.size (fun k_=>some k_≠(ay : Value).ownBlock∧some k_≠(bC : Value).ownBlock∧k_≠ao∧k_≠aj∧k_≠ap∧k_≠aT) (.slice cF aC.length cG) aC):=⟨by rw [hw_];exact (yV0 ac)⟩
      replace aa : Aside0 (Kd.S (Kd.slice 3 (Kd.int .i64)) 49 w55 w.heap.size (fun k_=>some k_≠(bC : Value).ownBlock) ay ae):=⟨by rw [hw_];exact (yS1 aa aK)⟩
      replace aQ : Aside0 (Kd.V (Kd.int .i64) 3 w55 w.heap.size (fun k_=>some k_≠(ay : Value).ownBlock∧some k_≠(bC : Value).ownBlock∧k_≠ao∧k_≠aj∧k_≠ap∧k_≠aT) dj bG):=⟨by rw [hw_];exact (yV0 aQ)⟩
      replace bv : Aside0 (Kd.V (Kd.int .u8) 5 w55 w.heap.size (fun k_=>some k_≠(ay : Value).ownBlock∧some k_≠(bC : Value).ownBlock∧k_≠ao∧k_≠aj∧k_≠ap∧k_≠aT) (.slice cU bH.length cV) bH):=⟨by rw [hw_];exact (yV0 bv)⟩
      replace bw : Aside0 (Kd.R (Kd.int .i64) 3 w55 w.heap.size (fun _=>True) bC bR):=⟨by rw [hw_];exact (yR1 bw aK)⟩
      replace af : Aside0 (w55.heap[ao]? = some (.cells #[.bool false, .slice none 0 0, .slice none 0 0] 33 (0,0))):=⟨by rw [hw_];exact (yk af)⟩
      replace ag : Aside0 (w55.heap[aj]? = some (.cells #[.int .u64 aU, .int .u64 aV, .slice cF aC.length cG, .int .i64 aW] 95 (0,0))):=⟨by rw [hw_];exact (yk ag)⟩
      replace ah : Aside0 (w55.heap[ap]? = some (.cells #[.bool (decide (aX > 0)),ay, .slice none 0 0] 33 (0,0))):=⟨by rw [hw_];exact (yk ah)⟩
      replace aK : Aside0 (w55.heap[aT]? = some (.cells #[.int .u64 bO, .int .u64 bP, .slice cU bH.length cV, .int .i64 bQ] 95 (0,0))):=⟨by rw [hw_];exact (ykp aK)⟩
      replace HB : Aside0 (Below w.heap.size w w55):=⟨by rw [hw_];exact (yhb)⟩
      clear hw_
      have:=a8.out
      have:=a7.out
      have:=ba.out
      have:=a9.out
      have:=bc.out
      have:=bb.out
      obtain ⟨eG,eH,eI,eJ,eK,eL,eM,eN⟩:=yc4 aK
      have:=bE.out
      have:=bD.out
      have:=bo.out
      have:=bp.out
      obtain ⟨eO,eP,eQ,eR,eS,eT,eU,eV⟩:=yc4 ag
      try go_wp2_with (first|((with_reducible refine zb8 (t:=95) (p:=10) rfl ?_);refine za2 (t:=95) (p:=10) (v := ?vo_w63) (w1:=((((w55.setCell ⟨aj,0,none⟩ (.int .u64 bO)).setCell ⟨aj,1,none⟩ (.int .u64 bP)).setCell ⟨aj,2,none⟩ (.slice cU bH.length cV)).setCell ⟨aj,3,none⟩ (.int .i64 bQ))) ?hg ?ho ?hn ?hr ?_;(case ho=>rfl);(case hg=>rfl);(case hn=>rfl);(case hr=>first|(go_simp;done)|(go_simp;rfl));intro w63 hw;replace ac : Aside0 (Kd.V (Kd.int .u8) 5 w63 w.heap.size (fun k_=>some k_≠(ay : Value).ownBlock∧some k_≠(bC : Value).ownBlock∧k_≠ao∧k_≠aj∧k_≠ap∧k_≠aT) (.slice cF aC.length cG) aC):=⟨(by rw [hw];exact (yV0 ac))⟩;replace aa : Aside0 (Kd.S (Kd.slice 3 (Kd.int .i64)) 49 w63 w.heap.size (fun k_=>some k_≠(bC : Value).ownBlock) ay ae):=⟨(by rw [hw];exact (yS1 aa ag))⟩;replace aQ : Aside0 (Kd.V (Kd.int .i64) 3 w63 w.heap.size (fun k_=>some k_≠(ay : Value).ownBlock∧some k_≠(bC : Value).ownBlock∧k_≠ao∧k_≠aj∧k_≠ap∧k_≠aT) dj bG):=⟨(by rw [hw];exact (yV0 aQ))⟩;replace bv : Aside0 (Kd.V (Kd.int .u8) 5 w63 w.heap.size (fun k_=>some k_≠(ay : Value).ownBlock∧some k_≠(bC : Value).ownBlock∧k_≠ao∧k_≠aj∧k_≠ap∧k_≠aT) (.slice cU bH.length cV) bH):=⟨(by rw [hw];exact (yV0 bv))⟩;replace bw : Aside0 (Kd.R (Kd.int .i64) 3 w63 w.heap.size (fun _=>True) bC bR):=⟨(by rw [hw];exact (yR1 bw ag))⟩;replace af : Aside0 (w63.heap[ao]? = some (.cells #[.bool false, .slice none 0 0, .slice none 0 0] 33 (0,0))):=⟨(by rw [hw];exact (yk af))⟩;replace ag : Aside0 (w63.heap[aj]? = some (.cells #[.int .u64 bO, .int .u64 bP, .slice cU bH.length cV, .int .i64 bQ] 95 (0,0))):=⟨(by rw [hw];exact (ykp ag))⟩;replace ah : Aside0 (w63.heap[ap]? = some (.cells #[.bool (decide (aX > 0)),ay, .slice none 0 0] 33 (0,0))):=⟨(by rw [hw];exact (yk ah))⟩;replace aK : Aside0 (w63.heap[aT]? = some (.cells #[.int .u64 bO, .int .u64 bP, .slice cU bH.length cV, .int .i64 bQ] 95 (0,0))):=⟨(by rw [hw];exact (yk aK))⟩;replace HB : Aside0 (Below w.heap.size w w63):=⟨(by rw [hw];exact yhb)⟩;clear hw;have:=bn.out;have:=bm.out;obtain ⟨eW,eX,eY,eZ,e8,e9⟩:=yc3 ah;obtain ⟨dO,dP,gR⟩:=zT bw.out;subst gR)|((with_reducible refine zb9 (b:=.append) (xs := #[.tmp 73, .tmp 75]) rfl ?_);at_builtin;refine Kd.S_append (Kd.slice 3 (Kd.int .i64)) (w0:=w) w.heap.size rfl (.tmp 73) (.tmp 75) 22 49 (.slice none 0 0) 24 rfl Try.underlying22 info49 rfl (by decide) (by omega) ay ae bR [.slice dO bR.length dP] (fun _=>True) (fun k_=>some k_=(.slice dO bR.length dP : Value).ownBlock) rfl rfl ?aP ?aQ ?aF ?aO ?aB ?aS ?aL ?_;(case aQ=>exact (fun k_ hk_=>((zG (ok' := fun k_=>((fun _=>True)) k_∧some k_≠(ay : Value).ownBlock) (zZ (bw.out) (Kd.S_typed aa.out) (by decide)) (fun k_ hk=>⟨trivial,hk.2⟩))).1 k_ hk_.symm));(case aP=>exact Kd.M_row (zG (Kd.R_tight rfl (zG (ok' := fun k_=>((fun _=>True)) k_∧some k_≠(ay : Value).ownBlock) (zZ (bw.out) (Kd.S_typed aa.out) (by decide)) (fun k_ hk=>⟨trivial,hk.2⟩))) (fun _ h_=>h_)));(case aB=>exact yhb);(case aF=>exact (fun _ _=>trivial));(case aO=>exact (yS0 aa));(case aS=>exact (zE yhb));(case aL=>have:=LMc42.out;omega);intro hD w66 ho hb hg hat;rw [← fy.out] at ho;replace ac:=zm (zc1 (ok:=(fun k_=>some k_≠(.slice dO bR.length dP : Value).ownBlock∧k_≠ao∧k_≠aj∧k_≠ap∧k_≠aT)) (yV0 ac) hg hat);replace af:=zm (zc3 (yk af) hg (Kd.S_ne aa.out af.out (by decide)));replace ag:=zm (zc3 (yk ag) hg (Kd.S_ne aa.out ag.out (by decide)));replace ah:=zm (zc3 (yk ah) hg (Kd.S_ne aa.out ah.out (by decide)));replace aQ:=zm (zc1 (ok:=(fun k_=>some k_≠(.slice dO bR.length dP : Value).ownBlock∧k_≠ao∧k_≠aj∧k_≠ap∧k_≠aT)) (yV0 aQ) hg hat);replace bv:=zm (zc1 (ok:=(fun k_=>some k_≠(.slice dO bR.length dP : Value).ownBlock∧k_≠ao∧k_≠aj∧k_≠ap∧k_≠aT)) (yV0 bv) hg hat);replace aK:=zm (zc3 (yk aK) hg (Kd.S_ne aa.out aK.out (by decide)));replace HB:=zm (hb);have dQ:=zm (ho);clear aa;clear bw;clear ho hb hg hat;obtain ⟨gS,gT,gU⟩:=zV dQ.out;subst gU;obtain ⟨fa,fb,fc,fd,fe,ff⟩:=yc3 ah))
      go_roundg k2
      case measure=>exact yom2 cS HK2
      case rel=>exact ⟨(wrap64 (ch+1)),(bO),(bP),(bH),(bQ),(du),(.slice cU bH.length cV),(.slice gS du.length gT),yq,H',⟨yom2 cS HK2⟩,⟨yV0 bv⟩,⟨yS1 dQ ah⟩,⟨yk af⟩,⟨yk ag⟩,⟨ykp ah⟩,⟨yhb⟩⟩
     replace H:=ybi H;obtain ⟨am,A70,H⟩:=H
     have H' := zm H
     clear H
     have:=bn.out
     have:=bm.out
     have:=bp.out
     have:=bo.out
     obtain ⟨fg,fh,fi,fj,fk,fl⟩:=yc3 ah
     obtain ⟨aM,aN,gV⟩:=zV aa.out
     subst gV
     go_wp2_with (first|((with_reducible refine zK (f:=45) rfl ?_);refine ygl 82 Try.func45 #[.int .i64 a0, .int .i64 a1, .slice aM ae.length aN] ?_;(with_reducible refine (r12_Pulses.calls k2 a0 a1 _ _ ae am _ ?bu ?cg A70.out).mono ?_);(case bu=>exact yce (zS aa.out).2.2);(case cg=>exact (zS aa.out).2.1);rintro e w75 ⟨bZ,rfl,ho0,hb⟩;refine ⟨_,rfl, ?_⟩;replace ac:=zm (za7 (yr ac) (Kd.S_base ho0) hb);have fz:=zm (Kd.S_lower (Kd.S_new' ho0 (Kd.S_lt (yr aa))) (zE yhb));replace aa:=zm (za8 (yr aa) (Kd.S_base ho0) hb);replace af:=ybb af hb;replace ag:=ybb ag hb;replace ah:=ybb ah hb;replace HB:=ybs hb;(try clear hb);(try clear ho0)))
     go_loopg [17] k2 (fun kq v17 w' => ∃ (aJ : Int) (bV : Int) (bW : Int) (bX : List Int) (bY : Int) (aZ : List (List (List Int))) (bj : Value) (aA : Value),v17=.int .i64 aJ∧Aside0 (r13_Read.l1 kq a1 am aJ bV bW bX bY (decide (aX > 0)) ae aZ=some (r1,r2,r3,r4))∧Aside0 (kq≤k2)∧Aside0 (Kd.S (Kd.slice 3 (Kd.int .i64)) 49 w' w.heap.size (fun k_=>some k_≠((.slice aM ae.length aN) : Value).ownBlock) bZ am)∧Aside0 (Kd.V (Kd.int .u8) 5 w' w.heap.size (fun k_=>some k_≠(bZ : Value).ownBlock∧some k_≠((.slice aM ae.length aN) : Value).ownBlock∧some k_≠(aA : Value).ownBlock∧k_≠ao∧k_≠aj∧k_≠ap) bj bX)∧Aside0 (Kd.S (Kd.slice 3 (Kd.int .i64)) 49 w' w.heap.size (fun k_=>some k_≠(bZ : Value).ownBlock) (.slice aM ae.length aN) ae)∧Aside0 (Kd.R (Kd.slice 49 (Kd.slice 3 (Kd.int .i64))) 22 w' w.heap.size (fun k_=>some k_≠(bZ : Value).ownBlock∧some k_≠((.slice aM ae.length aN) : Value).ownBlock) aA aZ)∧Aside0 (w'.heap[ao]? = some (.cells #[.bool false,(.slice none 0 0),(.slice none 0 0)] 33 (0,0)))∧Aside0 (w'.heap[aj]? = some (.cells #[.int .u64 bV, .int .u64 bW,bj, .int .i64 bY] 95 (0,0)))∧Aside0 (w'.heap[ap]? = some (.cells #[.bool (decide (aX > 0)),(.slice aM ae.length aN),aA] 33 (0,0)))∧Aside0 (Below w.heap.size w w'))
     case atStart=>exact ⟨(0),(aU),(aV),(aC),(aW),(([] : List (List (List Int)))),(bj),(.slice none 0 0),yq,H',⟨zX _⟩,⟨yS0 fz⟩,⟨yV0 ac⟩,⟨yS0 aa⟩,⟨yn⟩,⟨yk af⟩,⟨yk ag⟩,⟨yk ah⟩,⟨yhb⟩⟩
     case round =>
      clear H'
      try clear fo
      try clear eG
      try clear eH
      try clear eI
      try clear eJ
      try clear eO
      try clear eP
      try clear eQ
      try clear eR
      try clear eW
      try clear eX
      try clear eY
      try clear fa
      try clear fb
      try clear fc
      try clear fg
      try clear fh
      try clear fi
      try clear eK
      try clear eL
      try clear eM
      try clear eN
      try clear eS
      try clear eT
      try clear eU
      try clear eV
      try clear eZ
      try clear e8
      try clear e9
      try clear fd
      try clear fe
      try clear ff
      try clear fj
      try clear fk
      try clear fl
      obtain ⟨aJ,bV,bW,bX,bY,aZ,bj,aA,rfl,HA,HK3,au,ac,aa,ai,af,ag,ah,HB⟩:=hrel
      obtain ⟨k3,rfl⟩:=ysu gk (fun h=>by subst h;exact absurd HA.out (by simp [r13_Read.l1]))
      have H:=HA.out;clear HA
      simp only [r13_Read.l1] at H
      replace H:=yId H
      obtain ⟨fp,H⟩ | ⟨fp,H⟩:=H
      ·
       have H' := zm H
       clear H
       go_wp2
       go_loopg [18,19] k3 (fun kq v18 v19 w' => ∃ (bM : List (List Int)) (bk : Int) (aG : Int) (aH : Int) (az : List Int) (aI : Int) (bj : Value),v19=.int .i64 bk∧Aside0 (r13_Read.l2 kq a1 am aJ bM bk aG aH az aI (decide (aX > 0)) ae aZ=some (r1,r2,r3,r4))∧Aside0 (kq≤k3)∧Aside0 (Kd.S (Kd.slice 3 (Kd.int .i64)) 49 w' w.heap.size (fun k_=>some k_≠(v18 : Value).ownBlock∧some k_≠((.slice aM ae.length aN) : Value).ownBlock) bZ am)∧Aside0 (Kd.S (Kd.slice 3 (Kd.int .i64)) 49 w' w.heap.size (fun k_=>some k_≠(bZ : Value).ownBlock∧some k_≠((.slice aM ae.length aN) : Value).ownBlock) v18 bM)∧Aside0 (Kd.V (Kd.int .u8) 5 w' w.heap.size (fun k_=>some k_≠(bZ : Value).ownBlock∧some k_≠(v18 : Value).ownBlock∧some k_≠((.slice aM ae.length aN) : Value).ownBlock∧some k_≠(aA : Value).ownBlock∧k_≠ao∧k_≠aj∧k_≠ap) bj az)∧Aside0 (Kd.S (Kd.slice 3 (Kd.int .i64)) 49 w' w.heap.size (fun k_=>some k_≠(bZ : Value).ownBlock∧some k_≠(v18 : Value).ownBlock) (.slice aM ae.length aN) ae)∧Aside0 (Kd.R (Kd.slice 49 (Kd.slice 3 (Kd.int .i64))) 22 w' w.heap.size (fun k_=>some k_≠(bZ : Value).ownBlock∧some k_≠(v18 : Value).ownBlock∧some k_≠((.slice aM ae.length aN) : Value).ownBlock) aA aZ)∧Aside0 (w'.heap[ao]? = some (.cells #[.bool false,(.slice none 0 0),(.slice none 0 0)] 33 (0,0)))∧Aside0 (w'.heap[aj]? = some (.cells #[.int .u64 aG, .int .u64 aH,bj, .int .i64 aI] 95 (0,0)))∧Aside0 (w'.heap[ap]? = some (.cells #[.bool (decide (aX > 0)),(.slice aM ae.length aN),aA] 33 (0,0)))∧Aside0 (Below w.heap.size w w'))
       case atStart=>exact ⟨(([] : List (List Int))),(0),(bV),(bW),(bX),(bY),(bj),yq,H',⟨zX _⟩,⟨yS0 au⟩,⟨yn⟩,⟨yV0 ac⟩,⟨yS0 aa⟩,⟨yR0 ai⟩,⟨yk af⟩,⟨yk ag⟩,⟨yk ah⟩,⟨yhb⟩⟩
       case round =>
        clear H'
        try clear fp
        obtain ⟨bM,bk,aG,aH,az,aI,bj,rfl,HA,HK4,au,aD,ac,aa,ai,af,ag,ah,HB⟩:=hrel
        obtain ⟨k4,rfl⟩:=ysu gk (fun h=>by subst h;exact absurd HA.out (by simp [r13_Read.l2]))
        have H:=HA.out;clear HA
        simp only [r13_Read.l2] at H
        replace H:=yId H
        obtain ⟨fR,H⟩ | ⟨fR,H⟩:=H
        ·
         replace H:=ybi H;obtain ⟨bL,A78,H⟩:=H
         replace H:=yif H;obtain ⟨c79,H⟩:=H
         have hH : decide (0≤aJ)=true:=decide_eq_true c79
         clear c79
         replace H:=yif H;obtain ⟨c80,H⟩:=H
         have hJ : decide (aJ < (am.length : Int))=true:=decide_eq_true c80
         clear c80
         replace H:=yif H;obtain ⟨c81,H⟩:=H
         have hL : decide (0≤bk)=true:=decide_eq_true c81
         clear c81
         replace H:=yif H;obtain ⟨c82,H⟩:=H
         have hO : decide (bk < ((rd_L1 am aJ).length : Int))=true:=decide_eq_true c82
         clear c82
         replace H:=yIs H
         obtain ⟨fS,H⟩ | ⟨fS,H⟩:=H
         ·
          replace H:=ybi H;obtain ⟨b4,A84,H⟩:=H
          replace H:=ybi H;obtain ⟨⟨bS,bT,bI,bU,cp⟩,A85,H⟩:=H
          try dsimp only at H
          replace H:=ybi H;obtain ⟨bK,A86,H⟩:=H
          replace H:=yif H;obtain ⟨c87,H⟩:=H
          have LMc87:=zm c87;clear c87
          obtain ⟨fq,dd⟩ : ∃ y_ : List (List Int),y_=(bM ++ [bK]):=⟨_,rfl⟩
          replace H : (r13_Read.l2 k4 a1 am aJ fq (wrap64 (bk+1)) bS bT bI bU (decide (aX > 0)) ae aZ)=some (r1,r2,r3,r4):=yrw dd H
          have fA:=zm dd;clear dd
          have H' := zm H
          clear H
          try go_wp2_with (first|((with_reducible refine zK (f:=46) rfl ?_);refine ygl 93 Try.func46 #[.int .i64 bk] ?_;(with_reducible refine (r10_Width.calls k4 bk bL _ A78.out).mono ?_);rintro e w' ⟨rfl,⟨nd,rfl⟩⟩;refine ⟨_,rfl, ?_⟩;(try (rw [drewN_self wr];generalize hq_ : World.drewN wr _=wr;replace ac:=yVq hq_ ac;replace aa:=ySq hq_ aa;replace ai:=yRq hq_ ai;replace au:=ySq hq_ au;replace aD:=ySq hq_ aD;replace af:=ykq hq_ af;replace ag:=ykq hq_ ag;replace ah:=ykq hq_ ah;replace HB:=ysq hq_;clear hq_));obtain ⟨iz,bl,gW⟩:=zV au.out;subst gW;obtain ⟨aw,fm,cu,dR,cW,dS,aE,av,fT,fU⟩:=ysl au.out aJ;cases dR;obtain ⟨cP,dT,dU,fV,fW⟩:=yai aE bk;cases dT;obtain ⟨cH,cI,gX⟩:=zU ac.out;subst gX))
          replace au:=zm (Kd.S_drew au.out)
          replace aD:=zm (Kd.S_drew aD.out)
          replace ac:=zm (zC ac.out)
          replace aa:=zm (Kd.S_drew aa.out)
          replace ai:=zm (zq ai.out)
          replace av:=zm (zq av.out)
          replace af:=zm (zj af.out)
          replace ag:=zm (zj ag.out)
          replace ah:=zm (zj ah.out)
          replace aE:=zm (Kd.C_drew aE.out)
          replace HB:=zm (zf HB.out)
          have dk : 0≤(aJ : Int):=yt
          have dl : aJ < (am.length : Int):=yt
          obtain ⟨fB,gF,ci,fX,cX,cY,cZ⟩:=at_L1 (zS au.out).2.2 aJ dk dl
          obtain rfl : aw=fB:=(by injection fX)
          obtain ⟨ce1049,hce1049,hMe1049,hcc1049⟩:=Kd.S_get au.out [] aJ dk (by first|exact dl|exact yt|(have e_:=(zS au.out).1;omega))
          obtain ⟨ve1049_0,rfl,ge1049_0⟩:=hMe1049
          have hv1049_0:=hcc1049 0 _ rfl
          rw [Nat.add_zero,show ((Kd.slice 3 (Kd.int .i64))).sz=1 from rfl,Nat.mul_one] at hv1049_0
          replace hv1049_0:=zO (hv1049_0.symm.trans cX)
          rw [hv1049_0] at ge1049_0
          have al:=zm (show Kd.R (Kd.int .i64) 3 _ _ _ _ (rd_L1 am aJ) from ge1049_0)
          clear hv1049_0 ge1049_0 hcc1049 hce1049;have aY:=zm cZ;have fY:=zm cY;clear cZ cY
          replace dk:=zP dk
          replace dl:=zP dl
          obtain ⟨cf,fZ,dV,hU,hX⟩:=yai aY bk
          cases fZ
          refine yst (fun w' => w'.cell? ⟨aj,0,none⟩=some (.int .u64 aG)∧w'.cell? ⟨aj,1,none⟩=some (.int .u64 aH)∧w'.cell? ⟨aj,2,none⟩=some (.slice cH az.length cI)∧w'.cell? ⟨aj,3,none⟩=some (.int .i64 aI)∧w'.cell? (aw.add (aJ).toNat)=some (.slice (some cf) (rd_L1 am aJ).length ci)∧w'.cell? (cf.add (bk).toNat)=some (.int .i64 (rd (rd_L1 am aJ) bk))) [] 17 r13_Read.tab28 r13_Read.bits28 (fun hHeld HT_ HW_ => ?_)
          generalize wr.drew=w90 at au aD ac aa ai av af ag ah aE HB al aY cX dV hHeld ⊢
          refine yp 1 104 HT_ ?_
          refine yp 2 105 HT_ ?_
          refine yp 3 106 HT_ ?_
          refine yp 4 107 HT_ ?_
          refine yp 6 109 HT_ ?_
          refine yl 0 103 HT_ HW_ hHeld ?_
          refine yl 5 108 HT_ HW_ hHeld ?_
          refine yp 7 110 HT_ ?_
          refine yl 8 111 HT_ HW_ hHeld ?_
          refine join_ (σ:=Value × Nat) 2 #[true,true,true,true,true,true,true,true,true,true,true,true,true,true,true,false,false] (fun s_ => [(112, .int .u64 b4),(113, .tuple #[.agg #[.int .u64 bS, .int .u64 bT,s_.1, .int .i64 bU], .int .u64 cp]),(22, .pointer (some ⟨s_.2,0,none⟩)),(102, .tuple #[.agg #[.int .u64 bS, .int .u64 bT,s_.1, .int .i64 bU], .int .u64 cp]),(114, .agg #[.int .u64 bS, .int .u64 bT,s_.1, .int .i64 bU]),(115, .int .u64 cp)]) (fun s_ w' => (w'.cell? ⟨aj,0,none⟩=some (.int .u64 aG)∧w'.cell? ⟨aj,1,none⟩=some (.int .u64 aH)∧w'.cell? ⟨aj,2,none⟩=some (.slice cH az.length cI)∧w'.cell? ⟨aj,3,none⟩=some (.int .i64 aI)∧w'.cell? (aw.add (aJ).toNat)=some (.slice (some cf) (rd_L1 am aJ).length ci)∧w'.cell? (cf.add (bk).toNat)=some (.int .i64 (rd (rd_L1 am aJ) bk)))∧(Kd.R (Kd.int .i64) 3 w' w.heap.size (fun k_=>some k_≠(.slice aM ae.length aN : Value).ownBlock∧some k_≠(.slice (some aw) am.length bl : Value).ownBlock∧some k_≠(u18 : Value).ownBlock) (.slice (some cP) (rd_L1 am aJ).length cu) (rd_L1 am aJ))∧(Kd.R (Kd.int .i64) 3 w' w.heap.size (fun k_=>some k_≠(.slice aM ae.length aN : Value).ownBlock∧some k_≠(.slice (some aw) am.length bl : Value).ownBlock∧some k_≠(u18 : Value).ownBlock) (.slice (some cf) (rd_L1 am aJ).length ci) (rd_L1 am aJ))∧(Kd.V (Kd.int .u8) 5 w' w.heap.size (fun k_=>some k_≠(.slice aM ae.length aN : Value).ownBlock∧some k_≠(aA : Value).ownBlock∧some k_≠(.slice (some aw) am.length bl : Value).ownBlock∧some k_≠(u18 : Value).ownBlock∧k_≠ao∧k_≠aj∧k_≠ap∧k_≠s_.2) s_.1 bI)∧(Kd.V (Kd.int .u8) 5 w' w.heap.size (fun k_=>some k_≠(.slice aM ae.length aN : Value).ownBlock∧some k_≠(aA : Value).ownBlock∧some k_≠(.slice (some aw) am.length bl : Value).ownBlock∧some k_≠(u18 : Value).ownBlock∧k_≠ao∧k_≠aj∧k_≠ap∧k_≠s_.2) (.slice cH az.length cI) az)∧(Kd.S (Kd.slice 3 (Kd.int .i64)) 49 w' w.heap.size (fun k_=>some k_≠(.slice (some aw) am.length bl : Value).ownBlock∧some k_≠(u18 : Value).ownBlock) (.slice aM ae.length aN) ae)∧(Kd.R (Kd.slice 49 (Kd.slice 3 (Kd.int .i64))) 22 w' w.heap.size (fun k_=>some k_≠(.slice aM ae.length aN : Value).ownBlock∧some k_≠(.slice (some aw) am.length bl : Value).ownBlock∧some k_≠(u18 : Value).ownBlock) aA aZ)∧(Kd.S (Kd.slice 3 (Kd.int .i64)) 49 w' w.heap.size (fun k_=>some k_≠(.slice aM ae.length aN : Value).ownBlock∧some k_≠(u18 : Value).ownBlock) (.slice (some aw) am.length bl) am)∧(Kd.S (Kd.slice 3 (Kd.int .i64)) 49 w' w.heap.size (fun k_=>some k_≠(.slice aM ae.length aN : Value).ownBlock∧some k_≠(.slice (some aw) am.length bl : Value).ownBlock) u18 bM)∧(w'.heap[ao]? = some (.cells #[.bool false, .slice none 0 0, .slice none 0 0] 33 (0,0)))∧(w'.heap[aj]? = some (.cells #[.int .u64 aG, .int .u64 aH, .slice cH az.length cI, .int .i64 aI] 95 (0,0)))∧(w'.heap[ap]? = some (.cells #[.bool (decide (aX > 0)), .slice aM ae.length aN,aA] 33 (0,0)))∧(w'.heap[s_.2]? = some (.cells #[.int .u64 0, .int .u64 0, .slice none 0 0, .int .i64 0] 95 (0,0)))∧(w.heap.size≤s_.2)∧(w.heap.size≤s_.2)∧(ao≠s_.2)∧(s_.2≠ao)∧(aj≠s_.2)∧(s_.2≠aj)∧(ap≠s_.2)∧(s_.2≠ap)∧(Below w.heap.size w w')) ?_ ?_
          rotate_left
          ·
           intro hCont
           refine two_ (i:=9) (j:=14) (Ni:=some 112) (Nj:=some 22) #[true,true,true,true,true,true,true,true,true,true,false,false,false,false,false,false,false] #[true,true,true,true,true,true,true,true,true,false,false,false,false,false,true,false,false] rfl rfl rfl rfl (two_of HT_.out (by kernel_rfl)) (by decide) (by decide) (fun K hK => ?_) (fun K hK => ?_)
           ·
            skip
            refine ygs Try.func43 #[.int .i64 bL, .int .i64 (rd (rd_L1 am aJ) bk)] ?_
            with_reducible refine (r06_Count.calls k4 bL (rd (rd_L1 am aJ) bk) b4 _ A84.out).mono ?_
            rintro e w91 ⟨rfl,hb⟩
            have de:=yhs hb hHeld.2.2.2.2.1
            have df:=yhs hb hHeld.2.2.2.2.2
            refine ⟨_,rfl, ?_⟩
            replace au:=ySb au hb
            replace aD:=ySb aD hb
            replace ac:=yVb ac hb
            replace aa:=ySb aa hb
            replace ai:=yRb ai hb
            replace av:=yRb av hb
            replace al:=yRb al hb
            replace af:=ybb af hb
            replace ag:=ybb ag hb
            replace ah:=ybb ah hb
            replace aE:=yCb aE hb
            replace aY:=yCb aY hb
            replace HB:=ybs hb
            (try clear hb)
            refine hK.out _ _ yH (fun hHeld => ?_)
            clear hK K
            refine ym (some 112) ?_
            refine two_ (i:=10) (j:=14) (Ni:=some 113) (Nj:=some 22) #[true,true,true,true,true,true,true,true,true,true,true,false,false,false,false,false,false] #[true,true,true,true,true,true,true,true,true,true,false,false,false,false,true,false,false] rfl rfl rfl rfl (two_of HT_.out (by kernel_rfl)) (by decide) (by decide) (fun K hK => ?_) (fun K hK => ?_)
            ·
             skip
             refine ygs Try.func59 #[.agg #[.int .u64 aG, .int .u64 aH, .slice cH az.length cI, .int .i64 aI], .int .u64 b4] ?_
             with_reducible refine (r05_TakeNum.calls k4 aG aH (fun k_=>(some k_≠(.slice (some aw) am.length bl : Value).ownBlock∧(some k_≠(u18 : Value).ownBlock∧(some k_≠(.slice aM ae.length aN : Value).ownBlock∧(some k_≠(aA : Value).ownBlock∧(k_≠ao∧(k_≠aj∧k_≠ap))))))) _ _ az aI b4 bS bT bI bU cp _ ?bu A85.out).mono ?_
             (case bu=>first|exact ac.out|exact zy ac.out (fun _ hk=>⟨hk.2.2.1,hk.2.2.2.1,hk.1,hk.2.1,hk.2.2.2.2⟩))
             rintro e w92 ⟨cN,rfl,ho0,hb⟩
             have de:=yhs hb hHeld.2.2.2.2.1
             have df:=yhs hb hHeld.2.2.2.2.2
             refine ⟨_,rfl, ?_⟩
             replace ac:=yVb ac hb
             replace av:=yRb av hb
             replace al:=yRb al hb
             have br:=yho (fun k_=>some k_≠(.slice (some aw) am.length bl : Value).ownBlock∧some k_≠(u18 : Value).ownBlock∧some k_≠(.slice aM ae.length aN : Value).ownBlock∧some k_≠(aA : Value).ownBlock∧k_≠ao∧k_≠aj∧k_≠ap) ho0 (fun k_ hk_=>⟨yoS au hk_,yoS aD hk_,yoS aa hk_,yoR ai hk_,yoB af hk_,yoB ag hk_,yoB ah hk_⟩)
             replace au:=ySb au hb
             replace aD:=ySb aD hb
             replace aa:=ySb aa hb
             replace ai:=yRb ai hb
             replace af:=ybb af hb
             replace ag:=ybb ag hb
             replace ah:=ybb ah hb
             replace aE:=yCb aE hb
             replace aY:=yCb aY hb
             replace HB:=ybs hb
             (try clear hb)
             (try clear ho0)
             refine hK.out _ _ yH (fun hHeld => ?_)
             clear hK K
             refine ym (some 113) ?_
             refine yp 11 102 HT_ ?_
             refine yp 12 114 HT_ ?_
             refine yp 13 115 HT_ ?_
             refine yw 14 22 HT_ (fun K hK => ?_)
             refine box_step ?hg (N:=22) ?hd (cs := #[.int .u64 0, .int .u64 0, .slice none 0 0, .int .i64 0]) (t:=95) ?hr ?_;(case hd=>rfl);(case hg=>rfl);(case hr=>first|(go_simp;done)|(go_simp;rfl))
             intro ax hg w93 hbox hb
             have de:=yhs hb hHeld.2.2.2.2.1
             have df:=yhs hb hHeld.2.2.2.2.2
             replace au:=ySb au hb
             replace aD:=ySb aD hb
             replace ac:=yVe ac hg hb
             replace aa:=ySb aa hb
             replace ai:=yRb ai hb
             replace av:=yRb av hb
             replace al:=yRb al hb
             replace br:=yVe br hg hb
             replace aE:=yCb aE hb
             replace aY:=yCb aY hb
             have ak:=zm (hbox)
             have cm:=ygw hg
             have cn:=ygw hg
             replace HB:=ybs hb
             have bd:=ynl af hg
             have bf:=yng af hg
             replace af:=ybb af hb
             have aq:=ynl ag hg
             have bg:=yng ag hg
             replace ag:=ybb ag hb
             have bh:=ynl ah hg
             have bi:=yng ah hg
             replace ah:=ybb ah hb
             clear hb hbox hg
             refine hK.out _ _ yH (fun hHeld => ?_)
             clear hK K
             refine ym (some 22) ?_
             exact norm_ (by simp only [putAll,Act.put,za9,zb0,zb1]) (hCont (cN,ax) _ ⟨hHeld,(yR0 av),(yR0 al),(yV0 br),(yV0 ac),(yr aa),(yR0 ai),(yS0 au),(yS0 aD),(yk af),(yk ag),(yk ah),(yk ak),cm.out,cn.out,bd.out,bf.out,aq.out,bg.out,bh.out,bi.out,yhb⟩)
            skip
            refine box_step ?hg (N:=22) ?hd (cs := #[.int .u64 0, .int .u64 0, .slice none 0 0, .int .i64 0]) (t:=95) ?hr ?_;(case hd=>rfl);(case hg=>rfl);(case hr=>first|(go_simp;done)|(go_simp;rfl))
            intro ax hg w92 hbox hb
            have de:=yhs hb hHeld.2.2.2.2.1
            have df:=yhs hb hHeld.2.2.2.2.2
            replace au:=ySb au hb
            replace aD:=ySb aD hb
            replace ac:=yVe ac hg hb
            replace aa:=ySb aa hb
            replace ai:=yRb ai hb
            replace av:=yRb av hb
            replace al:=yRb al hb
            replace aE:=yCb aE hb
            replace aY:=yCb aY hb
            have ak:=zm (hbox)
            have cm:=ygw hg
            have cn:=ygw hg
            replace HB:=ybs hb
            have bd:=ynl af hg
            have bf:=yng af hg
            replace af:=ybb af hb
            have aq:=ynl ag hg
            have bg:=yng ag hg
            replace ag:=ybb ag hb
            have bh:=ynl ah hg
            have bi:=yng ah hg
            replace ah:=ybb ah hb
            clear hb hbox hg
            refine hK.out _ _ yH (fun hHeld => ?_)
            clear hK K
            refine ym (some 22) ?_
            refine yw 10 113 HT_ (fun K hK => ?_)
            refine ygs Try.func59 #[.agg #[.int .u64 aG, .int .u64 aH, .slice cH az.length cI, .int .i64 aI], .int .u64 b4] ?_
            with_reducible refine (r05_TakeNum.calls k4 aG aH (fun k_=>((some k_≠(.slice (some aw) am.length bl : Value).ownBlock∧(some k_≠(u18 : Value).ownBlock∧(some k_≠(.slice aM ae.length aN : Value).ownBlock∧(some k_≠(aA : Value).ownBlock∧(k_≠ao∧(k_≠aj∧k_≠ap))))))∧k_≠ax)) _ _ az aI b4 bS bT bI bU cp _ ?bu A85.out).mono ?_
            (case bu=>first|exact ac.out|exact zy ac.out (fun _ hk=>⟨⟨hk.1.2.2.1,hk.1.2.2.2.1,hk.1.1,hk.1.2.1,hk.1.2.2.2.2⟩,hk.2⟩))
            rintro e w93 ⟨cN,rfl,ho0,hb⟩
            have de:=yhs hb hHeld.2.2.2.2.1
            have df:=yhs hb hHeld.2.2.2.2.2
            refine ⟨_,rfl, ?_⟩
            replace ac:=yVb ac hb
            replace av:=yRb av hb
            replace al:=yRb al hb
            have br:=yho (fun k_=>some k_≠(.slice (some aw) am.length bl : Value).ownBlock∧some k_≠(u18 : Value).ownBlock∧some k_≠(.slice aM ae.length aN : Value).ownBlock∧some k_≠(aA : Value).ownBlock∧k_≠ao∧k_≠aj∧k_≠ap∧k_≠ax) ho0 (fun k_ hk_=>⟨yoS au hk_,yoS aD hk_,yoS aa hk_,yoR ai hk_,yoB af hk_,yoB ag hk_,yoB ah hk_,yoB ak hk_⟩)
            replace au:=ySb au hb
            replace aD:=ySb aD hb
            replace aa:=ySb aa hb
            replace ai:=yRb ai hb
            replace af:=ybb af hb
            replace ag:=ybb ag hb
            replace ah:=ybb ah hb
            replace aE:=yCb aE hb
            replace aY:=yCb aY hb
            replace ak:=ybb ak hb
            replace HB:=ybs hb
            (try clear hb)
            (try clear ho0)
            refine hK.out _ _ yH (fun hHeld => ?_)
            clear hK K
            refine ym (some 113) ?_
            refine yp 11 102 HT_ ?_
            refine yp 12 114 HT_ ?_
            refine yp 13 115 HT_ ?_
            exact norm_ (by simp only [putAll,Act.put,za9,zb0,zb1]) (hCont (cN,ax) _ ⟨hHeld,(yR0 av),(yR0 al),(yV0 br),(yV0 ac),(yr aa),(yR0 ai),(yS0 au),(yS0 aD),(yk af),(yk ag),(yk ah),(yk ak),cm.out,cn.out,bd.out,bf.out,aq.out,bg.out,bh.out,bi.out,yhb⟩)
           skip
           refine box_step ?hg (N:=22) ?hd (cs := #[.int .u64 0, .int .u64 0, .slice none 0 0, .int .i64 0]) (t:=95) ?hr ?_;(case hd=>rfl);(case hg=>rfl);(case hr=>first|(go_simp;done)|(go_simp;rfl))
           intro ax hg w91 hbox hb
           have de:=yhs hb hHeld.2.2.2.2.1
           have df:=yhs hb hHeld.2.2.2.2.2
           replace au:=ySb au hb
           replace aD:=ySb aD hb
           replace ac:=yVe ac hg hb
           replace aa:=ySb aa hb
           replace ai:=yRb ai hb
           replace av:=yRb av hb
           replace al:=yRb al hb
           replace aE:=yCb aE hb
           replace aY:=yCb aY hb
           have ak:=zm (hbox)
           have cm:=ygw hg
           have cn:=ygw hg
           replace HB:=ybs hb
           have bd:=ynl af hg
           have bf:=yng af hg
           replace af:=ybb af hb
           have aq:=ynl ag hg
           have bg:=yng ag hg
           replace ag:=ybb ag hb
           have bh:=ynl ah hg
           have bi:=yng ah hg
           replace ah:=ybb ah hb
           clear hb hbox hg
           refine hK.out _ _ yH (fun hHeld => ?_)
           clear hK K
           refine ym (some 22) ?_
           refine yw 9 112 HT_ (fun K hK => ?_)
           refine ygs Try.func43 #[.int .i64 bL, .int .i64 (rd (rd_L1 am aJ) bk)] ?_
           with_reducible refine (r06_Count.calls k4 bL (rd (rd_L1 am aJ) bk) b4 _ A84.out).mono ?_
           rintro e w92 ⟨rfl,hb⟩
           have de:=yhs hb hHeld.2.2.2.2.1
           have df:=yhs hb hHeld.2.2.2.2.2
           refine ⟨_,rfl, ?_⟩
           replace au:=ySb au hb
           replace aD:=ySb aD hb
           replace ac:=yVb ac hb
           replace aa:=ySb aa hb
           replace ai:=yRb ai hb
           replace av:=yRb av hb
           replace al:=yRb al hb
           replace af:=ybb af hb
           replace ag:=ybb ag hb
           replace ah:=ybb ah hb
           replace aE:=yCb aE hb
           replace aY:=yCb aY hb
           replace ak:=ybb ak hb
           replace HB:=ybs hb
           (try clear hb)
           refine hK.out _ _ yH (fun hHeld => ?_)
           clear hK K
           refine ym (some 112) ?_
           refine yw 10 113 HT_ (fun K hK => ?_)
           refine ygs Try.func59 #[.agg #[.int .u64 aG, .int .u64 aH, .slice cH az.length cI, .int .i64 aI], .int .u64 b4] ?_
           with_reducible refine (r05_TakeNum.calls k4 aG aH (fun k_=>((some k_≠(.slice (some aw) am.length bl : Value).ownBlock∧(some k_≠(u18 : Value).ownBlock∧(some k_≠(.slice aM ae.length aN : Value).ownBlock∧(some k_≠(aA : Value).ownBlock∧(k_≠ao∧(k_≠aj∧k_≠ap))))))∧k_≠ax)) _ _ az aI b4 bS bT bI bU cp _ ?bu A85.out).mono ?_
           (case bu=>first|exact ac.out|exact zy ac.out (fun _ hk=>⟨⟨hk.1.2.2.1,hk.1.2.2.2.1,hk.1.1,hk.1.2.1,hk.1.2.2.2.2⟩,hk.2⟩))
           rintro e w93 ⟨cN,rfl,ho0,hb⟩
           have de:=yhs hb hHeld.2.2.2.2.1
           have df:=yhs hb hHeld.2.2.2.2.2
           refine ⟨_,rfl, ?_⟩
           replace ac:=yVb ac hb
           replace av:=yRb av hb
           replace al:=yRb al hb
           have br:=yho (fun k_=>some k_≠(.slice (some aw) am.length bl : Value).ownBlock∧some k_≠(u18 : Value).ownBlock∧some k_≠(.slice aM ae.length aN : Value).ownBlock∧some k_≠(aA : Value).ownBlock∧k_≠ao∧k_≠aj∧k_≠ap∧k_≠ax) ho0 (fun k_ hk_=>⟨yoS au hk_,yoS aD hk_,yoS aa hk_,yoR ai hk_,yoB af hk_,yoB ag hk_,yoB ah hk_,yoB ak hk_⟩)
           replace au:=ySb au hb
           replace aD:=ySb aD hb
           replace aa:=ySb aa hb
           replace ai:=yRb ai hb
           replace af:=ybb af hb
           replace ag:=ybb ag hb
           replace ah:=ybb ah hb
           replace aE:=yCb aE hb
           replace aY:=yCb aY hb
           replace ak:=ybb ak hb
           replace HB:=ybs hb
           (try clear hb)
           (try clear ho0)
           refine hK.out _ _ yH (fun hHeld => ?_)
           clear hK K
           refine ym (some 113) ?_
           refine yp 11 102 HT_ ?_
           refine yp 12 114 HT_ ?_
           refine yp 13 115 HT_ ?_
           exact norm_ (by simp only [putAll,Act.put,za9,zb0,zb1]) (hCont (cN,ax) _ ⟨hHeld,(yR0 av),(yR0 al),(yV0 br),(yV0 ac),(yr aa),(yR0 ai),(yS0 au),(yS0 aD),(yk af),(yk ag),(yk ah),(yk ak),cm.out,cn.out,bd.out,bf.out,aq.out,bg.out,bh.out,bi.out,yhb⟩)
          rintro ⟨cN,ax⟩ w94 hS_
          try dsimp only at hS_
          obtain ⟨hS_,h0_,h1_,h2_,h3_,h4_,h5_,h6_,h7_,h8_,h9_,dy,dz,dA,dB,dC,dD,dE,dF,f5,f6,f7⟩:=hS_
          have n0_:=zm h0_;have n1_:=zm h1_;have n2_:=zm h2_;have n3_:=zm h3_;have n4_:=zm h4_;have n5_:=zm h5_;have n6_:=zm h6_;have n7_:=zm h7_;have n8_:=zm h8_;have n9_:=zm h9_;have dG:=zm dy;have dH:=zm dz;have dI:=zm dA;have dJ:=zm dB;have dK:=zm dC;have dL:=zm dD;have dM:=zm dE;have dN:=zm dF;have f9:=zm f5;have ga:=zm f6;have gb:=zm f7;clear au aD ac aa ai av af ag ah aE HB h0_ h1_ h2_ h3_ h4_ h5_ h6_ h7_ h8_ h9_ dy dz dA dB dC dD dE dF f5 f6 f7;have av:=n0_;have al:=n1_;have br:=n2_;have ac:=n3_;have aa:=n4_;have ai:=n5_;have au:=n6_;have aD:=n7_;have af:=n8_;have ag:=n9_;have ah:=dG;have ak:=dH;have cm:=dI;have cn:=dJ;have bd:=dK
          have bf:=dL;have aq:=dM;have bg:=dN;have bh:=f9;have bi:=ga;have HB:=gb;clear n0_ n1_ n2_ n3_ n4_ n5_ n6_ n7_ n8_ n9_ dG dH dI dJ dK dL dM dN f9 ga gb;have hHeld:=hS_
          obtain ⟨da,db,gc⟩:=zU br.out
          (first|subst gc|(injection gc with f1_ f2_ f3_;have f4_:=f1_.symm;have f5_:=f3_.symm;clear f1_ f2_ f3_;subst f4_;subst f5_))
          refine norm_ (a' := ?_) ?_ ?_
          rotate_left
          ·
           simp only [putAll,Act.put,za9,zb0,zb1]
           rfl
          refine yv 15 HT_ (fun K hK => ?_)
          have iA : w94.cell? ⟨ax,0,none⟩=some (.int .u64 0):=(zs ak.out 0).trans rfl
          have hfs95:=zx ak.out 0
          have:=bd.out
          have:=aq.out
          have:=bh.out
          have:=bf.out
          have:=bg.out
          have:=bi.out
          have iB : w94.cell? ⟨ax,1,none⟩=some (.int .u64 0):=(zs ak.out 1).trans rfl
          have hfs96:=zx ak.out 1
          have:=bd.out
          have:=aq.out
          have:=bh.out
          have:=bf.out
          have:=bg.out
          have:=bi.out
          have iC : w94.cell? ⟨ax,2,none⟩=some (.slice none 0 0):=(zs ak.out 2).trans rfl
          have hfs98:=zx ak.out 2
          have:=bd.out
          have:=aq.out
          have:=bh.out
          have:=bf.out
          have:=bg.out
          have:=bi.out
          have iD : w94.cell? ⟨ax,3,none⟩=some (.int .i64 0):=(zs ak.out 3).trans rfl
          have hfs99:=zx ak.out 3
          have:=bd.out
          have:=aq.out
          have:=bh.out
          have:=bf.out
          have:=bg.out
          have:=bi.out
          refine skip_ (w1 := ?_) (by rfl) rfl ?_ ?_
          rotate_left
          ·
           go_simp
           rfl
          refine hK.out _ _ ⟨((zr (p:=⟨ax,_,none⟩) aq.out _).trans (((zr (p:=⟨ax,_,none⟩) aq.out _).trans (((zr (p:=⟨ax,_,none⟩) aq.out _).trans (((zr (p:=⟨ax,_,none⟩) aq.out _).trans (hHeld.1)))))))),((zr (p:=⟨ax,_,none⟩) aq.out _).trans (((zr (p:=⟨ax,_,none⟩) aq.out _).trans (((zr (p:=⟨ax,_,none⟩) aq.out _).trans (((zr (p:=⟨ax,_,none⟩) aq.out _).trans (hHeld.2.1)))))))),((zr (p:=⟨ax,_,none⟩) aq.out _).trans (((zr (p:=⟨ax,_,none⟩) aq.out _).trans (((zr (p:=⟨ax,_,none⟩) aq.out _).trans (((zr (p:=⟨ax,_,none⟩) aq.out _).trans (hHeld.2.2.1)))))))),((zr (p:=⟨ax,_,none⟩) aq.out _).trans (((zr (p:=⟨ax,_,none⟩) aq.out _).trans (((zr (p:=⟨ax,_,none⟩) aq.out _).trans (((zr (p:=⟨ax,_,none⟩) aq.out _).trans (hHeld.2.2.2.1)))))))),((zr (p:=⟨ax,_,none⟩) (by first|exact zt (Kd.S_ne au.out ak.out (by decide))|(rw [za];exact zt (Kd.S_ne au.out ak.out (by decide)))|(show (Addr.add _ _).block≠_;rw [za];exact zt (Kd.S_ne au.out ak.out (by decide)))|(dsimp only;exact zt (Kd.S_ne au.out ak.out (by decide)))) _).trans (((zr (p:=⟨ax,_,none⟩) (by first|exact zt (Kd.S_ne au.out ak.out (by decide))|(rw [za];exact zt (Kd.S_ne au.out ak.out (by decide)))|(show (Addr.add _ _).block≠_;rw [za];exact zt (Kd.S_ne au.out ak.out (by decide)))|(dsimp only;exact zt (Kd.S_ne au.out ak.out (by decide)))) _).trans (((zr (p:=⟨ax,_,none⟩) (by first|exact zt (Kd.S_ne au.out ak.out (by decide))|(rw [za];exact zt (Kd.S_ne au.out ak.out (by decide)))|(show (Addr.add _ _).block≠_;rw [za];exact zt (Kd.S_ne au.out ak.out (by decide)))|(dsimp only;exact zt (Kd.S_ne au.out ak.out (by decide)))) _).trans (((zr (p:=⟨ax,_,none⟩) (by first|exact zt (Kd.S_ne au.out ak.out (by decide))|(rw [za];exact zt (Kd.S_ne au.out ak.out (by decide)))|(show (Addr.add _ _).block≠_;rw [za];exact zt (Kd.S_ne au.out ak.out (by decide)))|(dsimp only;exact zt (Kd.S_ne au.out ak.out (by decide)))) _).trans (hHeld.2.2.2.2.1)))))))),((zr (p:=⟨ax,_,none⟩) (by first|exact zt (zu al.out ak.out (by decide))|(rw [za];exact zt (zu al.out ak.out (by decide)))|(show (Addr.add _ _).block≠_;rw [za];exact zt (zu al.out ak.out (by decide)))|(dsimp only;exact zt (zu al.out ak.out (by decide)))) _).trans (((zr (p:=⟨ax,_,none⟩) (by first|exact zt (zu al.out ak.out (by decide))|(rw [za];exact zt (zu al.out ak.out (by decide)))|(show (Addr.add _ _).block≠_;rw [za];exact zt (zu al.out ak.out (by decide)))|(dsimp only;exact zt (zu al.out ak.out (by decide)))) _).trans (((zr (p:=⟨ax,_,none⟩) (by first|exact zt (zu al.out ak.out (by decide))|(rw [za];exact zt (zu al.out ak.out (by decide)))|(show (Addr.add _ _).block≠_;rw [za];exact zt (zu al.out ak.out (by decide)))|(dsimp only;exact zt (zu al.out ak.out (by decide)))) _).trans (((zr (p:=⟨ax,_,none⟩) (by first|exact zt (zu al.out ak.out (by decide))|(rw [za];exact zt (zu al.out ak.out (by decide)))|(show (Addr.add _ _).block≠_;rw [za];exact zt (zu al.out ak.out (by decide)))|(dsimp only;exact zt (zu al.out ak.out (by decide)))) _).trans (hHeld.2.2.2.2.2))))))))⟩ (fun hHeld => ?_)
          clear hK K
          refine yp 16 23 HT_ ?_
          refine done_ (done_of HT_.out (by kernel_rfl)) ?_
          obtain ⟨cj,hw_⟩ : ∃ x,x=((((w94.setCell ⟨ax,0,none⟩ (.int .u64 bS)).setCell ⟨ax,1,none⟩ (.int .u64 bT)).setCell ⟨ax,2,none⟩ (.slice da bI.length db)).setCell ⟨ax,3,none⟩ (.int .i64 bU)):=⟨_,rfl⟩
          rw [← hw_]
          replace au : Aside0 (Kd.S (Kd.slice 3 (Kd.int .i64)) 49 cj w.heap.size (fun k_=>some k_≠(u18 : Value).ownBlock∧some k_≠(.slice aM ae.length aN : Value).ownBlock) (.slice (some aw) am.length bl) am):=⟨by rw [hw_];exact (yS1 au ak)⟩
          replace aD : Aside0 (Kd.S (Kd.slice 3 (Kd.int .i64)) 49 cj w.heap.size (fun k_=>some k_≠(.slice (some aw) am.length bl : Value).ownBlock∧some k_≠(.slice aM ae.length aN : Value).ownBlock) u18 bM):=⟨by rw [hw_];exact (yS1 aD ak)⟩
          replace ac : Aside0 (Kd.V (Kd.int .u8) 5 cj w.heap.size (fun k_=>some k_≠(.slice (some aw) am.length bl : Value).ownBlock∧some k_≠(u18 : Value).ownBlock∧some k_≠(.slice aM ae.length aN : Value).ownBlock∧some k_≠(aA : Value).ownBlock∧k_≠ao∧k_≠aj∧k_≠ap∧k_≠ax) (.slice cH az.length cI) az):=⟨by rw [hw_];exact (yV0 ac)⟩
          replace aa : Aside0 (Kd.S (Kd.slice 3 (Kd.int .i64)) 49 cj w.heap.size (fun k_=>some k_≠(.slice (some aw) am.length bl : Value).ownBlock∧some k_≠(u18 : Value).ownBlock) (.slice aM ae.length aN) ae):=⟨by rw [hw_];exact (yS1 aa ak)⟩
          replace ai : Aside0 (Kd.R (Kd.slice 49 (Kd.slice 3 (Kd.int .i64))) 22 cj w.heap.size (fun k_=>some k_≠(.slice (some aw) am.length bl : Value).ownBlock∧some k_≠(u18 : Value).ownBlock∧some k_≠(.slice aM ae.length aN : Value).ownBlock) aA aZ):=⟨by rw [hw_];exact (yR1 ai ak)⟩
          replace av : Aside0 (Kd.R (Kd.int .i64) 3 cj w.heap.size (fun k_=>some k_≠(.slice (some aw) am.length bl : Value).ownBlock∧some k_≠(u18 : Value).ownBlock∧some k_≠(.slice aM ae.length aN : Value).ownBlock) (.slice (some cP) (rd_L1 am aJ).length cu) (rd_L1 am aJ)):=⟨by rw [hw_];exact (yR1 av ak)⟩
          replace al : Aside0 (Kd.R (Kd.int .i64) 3 cj w.heap.size (fun k_=>some k_≠(.slice (some aw) am.length bl : Value).ownBlock∧some k_≠(u18 : Value).ownBlock∧some k_≠(.slice aM ae.length aN : Value).ownBlock) (.slice (some cf) (rd_L1 am aJ).length ci) (rd_L1 am aJ)):=⟨by rw [hw_];exact (yR1 al ak)⟩
          replace br : Aside0 (Kd.V (Kd.int .u8) 5 cj w.heap.size (fun k_=>some k_≠(.slice (some aw) am.length bl : Value).ownBlock∧some k_≠(u18 : Value).ownBlock∧some k_≠(.slice aM ae.length aN : Value).ownBlock∧some k_≠(aA : Value).ownBlock∧k_≠ao∧k_≠aj∧k_≠ap∧k_≠ax) (.slice da bI.length db) bI):=⟨by rw [hw_];exact (yV0 br)⟩
          replace af : Aside0 (cj.heap[ao]? = some (.cells #[.bool false, .slice none 0 0, .slice none 0 0] 33 (0,0))):=⟨by rw [hw_];exact (yk af)⟩
          replace ag : Aside0 (cj.heap[aj]? = some (.cells #[.int .u64 aG, .int .u64 aH, .slice cH az.length cI, .int .i64 aI] 95 (0,0))):=⟨by rw [hw_];exact (yk ag)⟩
          replace ah : Aside0 (cj.heap[ap]? = some (.cells #[.bool (decide (aX > 0)), .slice aM ae.length aN,aA] 33 (0,0))):=⟨by rw [hw_];exact (yk ah)⟩
          replace ak : Aside0 (cj.heap[ax]? = some (.cells #[.int .u64 bS, .int .u64 bT, .slice da bI.length db, .int .i64 bU] 95 (0,0))):=⟨by rw [hw_];exact (ykp ak)⟩
          replace HB : Aside0 (Below w.heap.size w cj):=⟨by rw [hw_];exact (yhb)⟩
          clear hw_
          have:=bf.out
          have:=bd.out
          have:=bg.out
          have:=aq.out
          have:=bi.out
          have:=bh.out
          obtain ⟨_,_,_,_,_,_,_,_⟩:=yc4 ak
          have:=bE.out
          have:=bD.out
          have:=bo.out
          have:=bp.out
          obtain ⟨_,_,_,_,_,_,_,_⟩:=yc4 ag
          try go_wp2_with (first|((with_reducible refine zb8 (t:=95) (p:=10) rfl ?_);refine za2 (t:=95) (p:=10) (v := ?vo_w108) (w1:=((((cj.setCell ⟨aj,0,none⟩ (.int .u64 bS)).setCell ⟨aj,1,none⟩ (.int .u64 bT)).setCell ⟨aj,2,none⟩ (.slice da bI.length db)).setCell ⟨aj,3,none⟩ (.int .i64 bU))) ?hg ?ho ?hn ?hr ?_;(case ho=>rfl);(case hg=>rfl);(case hn=>rfl);(case hr=>first|(go_simp;done)|(go_simp;rfl));intro co hw;replace au : Aside0 (Kd.S (Kd.slice 3 (Kd.int .i64)) 49 co w.heap.size (fun k_=>some k_≠(u18 : Value).ownBlock∧some k_≠(.slice aM ae.length aN : Value).ownBlock) (.slice (some aw) am.length bl) am):=⟨(by rw [hw];exact (yS1 au ag))⟩;replace aD : Aside0 (Kd.S (Kd.slice 3 (Kd.int .i64)) 49 co w.heap.size (fun k_=>some k_≠(.slice (some aw) am.length bl : Value).ownBlock∧some k_≠(.slice aM ae.length aN : Value).ownBlock) u18 bM):=⟨(by rw [hw];exact (yS1 aD ag))⟩;replace ac : Aside0 (Kd.V (Kd.int .u8) 5 co w.heap.size (fun k_=>some k_≠(.slice (some aw) am.length bl : Value).ownBlock∧some k_≠(u18 : Value).ownBlock∧some k_≠(.slice aM ae.length aN : Value).ownBlock∧some k_≠(aA : Value).ownBlock∧k_≠ao∧k_≠aj∧k_≠ap∧k_≠ax) (.slice cH az.length cI) az):=⟨(by rw [hw];exact (yV0 ac))⟩;replace aa : Aside0 (Kd.S (Kd.slice 3 (Kd.int .i64)) 49 co w.heap.size (fun k_=>some k_≠(.slice (some aw) am.length bl : Value).ownBlock∧some k_≠(u18 : Value).ownBlock) (.slice aM ae.length aN) ae):=⟨(by rw [hw];exact (yS1 aa ag))⟩;replace ai : Aside0 (Kd.R (Kd.slice 49 (Kd.slice 3 (Kd.int .i64))) 22 co w.heap.size (fun k_=>some k_≠(.slice (some aw) am.length bl : Value).ownBlock∧some k_≠(u18 : Value).ownBlock∧some k_≠(.slice aM ae.length aN : Value).ownBlock) aA aZ):=⟨(by rw [hw];exact (yR1 ai ag))⟩;replace av : Aside0 (Kd.R (Kd.int .i64) 3 co w.heap.size (fun k_=>some k_≠(.slice (some aw) am.length bl : Value).ownBlock∧some k_≠(u18 : Value).ownBlock∧some k_≠(.slice aM ae.length aN : Value).ownBlock) (.slice (some cP) (rd_L1 am aJ).length cu) (rd_L1 am aJ)):=⟨(by rw [hw];exact (yR1 av ag))⟩;replace al : Aside0 (Kd.R (Kd.int .i64) 3 co w.heap.size (fun k_=>some k_≠(.slice (some aw) am.length bl : Value).ownBlock∧some k_≠(u18 : Value).ownBlock∧some k_≠(.slice aM ae.length aN : Value).ownBlock) (.slice (some cf) (rd_L1 am aJ).length ci) (rd_L1 am aJ)):=⟨(by rw [hw];exact (yR1 al ag))⟩;replace br : Aside0 (Kd.V (Kd.int .u8) 5 co w.heap.size (fun k_=>some k_≠(.slice (some aw) am.length bl : Value).ownBlock∧some k_≠(u18 : Value).ownBlock∧some k_≠(.slice aM ae.length aN : Value).ownBlock∧some k_≠(aA : Value).ownBlock∧k_≠ao∧k_≠aj∧k_≠ap∧k_≠ax) (.slice da bI.length db) bI):=⟨(by rw [hw];exact (yV0 br))⟩;replace af : Aside0 (co.heap[ao]? = some (.cells #[.bool false, .slice none 0 0, .slice none 0 0] 33 (0,0))):=⟨(by rw [hw];exact (yk af))⟩;replace ag : Aside0 (co.heap[aj]? = some (.cells #[.int .u64 bS, .int .u64 bT, .slice da bI.length db, .int .i64 bU] 95 (0,0))):=⟨(by rw [hw];exact (ykp ag))⟩;replace ah : Aside0 (co.heap[ap]? = some (.cells #[.bool (decide (aX > 0)), .slice aM ae.length aN,aA] 33 (0,0))):=⟨(by rw [hw];exact (yk ah))⟩;replace ak : Aside0 (co.heap[ax]? = some (.cells #[.int .u64 bS, .int .u64 bT, .slice da bI.length db, .int .i64 bU] 95 (0,0))):=⟨(by rw [hw];exact (yk ak))⟩;replace HB : Aside0 (Below w.heap.size w co):=⟨(by rw [hw];exact yhb)⟩;clear hw;obtain ⟨fC,gG,gH,gf,gg,gh,cD,b7,ia,ib⟩:=ysl au.out aJ;obtain rfl : aw=fC:=(by injection gf);obtain ⟨gY,gi,gj,ic,ie⟩:=yai cD bk;cases gi)|((with_reducible refine zK (f:=60) rfl ?_);refine ygl 128 Try.func60 #[.int .i64 bL, .int .i64 (rd (rd_L1 am aJ) bk), .int .u64 cp] ?_;(with_reducible refine (r06_Vector.calls k4 bL (rd (rd_L1 am aJ) bk) cp bK _ A86.out).mono ?_);rintro e iE ⟨ig,rfl,ho0,hb⟩;refine ⟨_,rfl, ?_⟩;replace au:=zm (za8 (yr au) (zW ho0) hb);replace aD:=zm (za8 (yr aD) (zW ho0) hb);replace ac:=zm (za7 (yr ac) (zW ho0) hb);replace aa:=zm (za8 (yr aa) (zW ho0) hb);replace ai:=zm (za6 (yr ai) (zW ho0) hb);replace br:=zm (za7 (yr br) (zW ho0) hb);have cQ:=zm (za0 (Kd.R_new' (Kd.R_new' (Kd.R_new' ho0 (Kd.R_lt (yr av))) (Kd.R_lt (yr al))) (Kd.R_lt (yr b7))) (zE yhb));replace av:=zm (za6 (yr av) (zW ho0) hb);replace al:=zm (za6 (yr al) (zW ho0) hb);replace b7:=zm (za6 (yr b7) (zW ho0) hb);replace af:=ybb af hb;replace ag:=ybb ag hb;replace ah:=ybb ah hb;replace ak:=ybb ak hb;replace cD:=yCb cD hb;replace HB:=ybs hb;(try clear hb);(try clear ho0);obtain ⟨ca,cb,gl⟩:=zT cQ.out;subst gl)|((with_reducible refine zb9 (b:=.append) (xs := #[.tmp 118, .tmp 129]) rfl ?_);at_builtin;refine Kd.S_append (Kd.slice 3 (Kd.int .i64)) (w0:=w) w.heap.size rfl (.tmp 118) (.tmp 129) 22 49 (.slice none 0 0) 24 rfl Try.underlying22 info49 rfl (by decide) (by omega) u18 bM bK [.slice ca bK.length cb] (fun k_=>some k_≠(.slice (some aw) am.length bl : Value).ownBlock∧some k_≠(.slice aM ae.length aN : Value).ownBlock) (fun k_=>some k_=(.slice ca bK.length cb : Value).ownBlock) rfl rfl ?aP ?aQ ?aF ?aO ?aB ?aS ?aL ?_;(case aQ=>exact (fun k_ hk_=>((zG (ok' := fun k_=>((fun k_=>some k_≠(.slice (some aw) am.length bl : Value).ownBlock∧some k_≠(.slice aM ae.length aN : Value).ownBlock)) k_∧some k_≠(u18 : Value).ownBlock) (zZ (zZ (zZ (cQ.out) (Kd.S_typed au.out) (by decide)) (Kd.S_typed aa.out) (by decide)) (Kd.S_typed aD.out) (by decide)) (fun k_ hk=>⟨⟨hk.1.1.2,hk.1.2⟩,hk.2⟩))).1 k_ hk_.symm));(case aP=>exact Kd.M_row (zG (Kd.R_tight rfl (zG (ok' := fun k_=>((fun k_=>some k_≠(.slice (some aw) am.length bl : Value).ownBlock∧some k_≠(.slice aM ae.length aN : Value).ownBlock)) k_∧some k_≠(u18 : Value).ownBlock) (zZ (zZ (zZ (cQ.out) (Kd.S_typed au.out) (by decide)) (Kd.S_typed aa.out) (by decide)) (Kd.S_typed aD.out) (by decide)) (fun k_ hk=>⟨⟨hk.1.1.2,hk.1.2⟩,hk.2⟩))) (fun _ h_=>h_)));(case aB=>exact yhb);(case aF=>exact (fun k_ hk=>⟨zc2 (Kd.S_lt (yr au)) k_ hk,zc2 (Kd.S_lt (yr aa)) k_ hk⟩));(case aO=>exact (yS0 aD));(case aS=>exact (zE yhb));(case aL=>have:=LMc87.out;omega);intro ii iF ho hb hg hat;rw [← fA.out] at ho;replace au:=zm (Kd.S_after (ok:=(fun k_=>some k_≠(.slice aM ae.length aN : Value).ownBlock∧some k_≠(.slice ca bK.length cb : Value).ownBlock)) (yS0 au) hg hat);replace ac:=zm (zc1 (ok:=(fun k_=>some k_≠(.slice (some aw) am.length bl : Value).ownBlock∧some k_≠(.slice aM ae.length aN : Value).ownBlock∧some k_≠(aA : Value).ownBlock∧some k_≠(.slice ca bK.length cb : Value).ownBlock∧k_≠ao∧k_≠aj∧k_≠ap∧k_≠ax)) (yV0 ac) hg hat);replace aa:=zm (Kd.S_after (ok:=(fun k_=>some k_≠(.slice (some aw) am.length bl : Value).ownBlock∧some k_≠(.slice ca bK.length cb : Value).ownBlock)) (yS0 aa) hg hat);replace ai:=zm (zc0 (ok:=(fun k_=>some k_≠(.slice (some aw) am.length bl : Value).ownBlock∧some k_≠(.slice aM ae.length aN : Value).ownBlock∧some k_≠(.slice ca bK.length cb : Value).ownBlock)) (yR0 ai) hg hat);replace af:=zm (zc3 (yk af) hg (Kd.S_ne aD.out af.out (by decide)));replace ag:=zm (zc3 (yk ag) hg (Kd.S_ne aD.out ag.out (by decide)));replace ah:=zm (zc3 (yk ah) hg (Kd.S_ne aD.out ah.out (by decide)));replace av:=zm (zc0 (ok:=(fun k_=>some k_≠(.slice (some aw) am.length bl : Value).ownBlock∧some k_≠(.slice aM ae.length aN : Value).ownBlock∧some k_≠(.slice ca bK.length cb : Value).ownBlock)) (yR0 av) hg hat);replace al:=zm (zc0 (ok:=(fun k_=>some k_≠(.slice (some aw) am.length bl : Value).ownBlock∧some k_≠(.slice aM ae.length aN : Value).ownBlock∧some k_≠(.slice ca bK.length cb : Value).ownBlock)) (yR0 al) hg hat);replace br:=zm (zc1 (ok:=(fun k_=>some k_≠(.slice (some aw) am.length bl : Value).ownBlock∧some k_≠(.slice aM ae.length aN : Value).ownBlock∧some k_≠(aA : Value).ownBlock∧some k_≠(.slice ca bK.length cb : Value).ownBlock∧k_≠ao∧k_≠aj∧k_≠ap∧k_≠ax)) (yV0 br) hg hat);replace ak:=zm (zc3 (yk ak) hg (Kd.S_ne aD.out ak.out (by decide)));replace b7:=zm (zc0 (ok:=(fun k_=>some k_≠(.slice (some aw) am.length bl : Value).ownBlock∧some k_≠(.slice aM ae.length aN : Value).ownBlock∧some k_≠(.slice ca bK.length cb : Value).ownBlock)) (yR0 b7) hg hat);replace HB:=zm (hb);have fD:=zm (ho);clear aD;clear cQ;clear ho hb hg hat))
          go_roundg k4
          case measure=>exact yom4 cS HK2 HK3 HK4
          case rel=>exact ⟨(fq),(wrap64 (bk+1)),(bS),(bT),(bI),(bU),(.slice da bI.length db),yq,H',⟨yom4 cS HK2 HK3 HK4⟩,⟨yS0 au⟩,⟨yr fD⟩,⟨yV0 br⟩,⟨yS0 aa⟩,⟨yR0 ai⟩,⟨yk af⟩,⟨yk ag⟩,⟨yk ah⟩,⟨yhb⟩⟩
         replace H:=ybi H;obtain ⟨bN,gZ,H⟩:=H
         replace H:=yif H;obtain ⟨gm,H⟩:=H
         have LMc113:=zm gm;clear gm
         obtain ⟨ft,dg⟩ : ∃ y_ : List (List Int),y_=(bM ++ [bN]):=⟨_,rfl⟩
         replace H : (r13_Read.l2 k4 a1 am aJ ft (wrap64 (bk+1)) aG aH az aI (decide (aX > 0)) ae aZ)=some (r1,r2,r3,r4):=yrw dg H
         have fE:=zm dg;clear dg
         have H' := zm H
         clear H
         go_wp2_with (first|((with_reducible refine zK (f:=46) rfl ?_);refine ygl 93 Try.func46 #[.int .i64 bk] ?_;(with_reducible refine (r10_Width.calls k4 bk bL _ A78.out).mono ?_);rintro e w' ⟨rfl,⟨nd,rfl⟩⟩;refine ⟨_,rfl, ?_⟩;obtain ⟨ij,cq,gn⟩:=zV au.out;subst gn;obtain ⟨aw,fm,cu,dR,cW,dS,aE,av,fT,fU⟩:=ysl au.out aJ;cases dR;obtain ⟨cP,dT,dU,fV,fW⟩:=yai aE bk;cases dT;obtain ⟨fF,gI,gJ,go,dW,gp,cE,b8,ik,il⟩:=ysl au.out aJ;obtain rfl : aw=fF:=(by injection go);have ea_:=zO (cW.symm.trans dW);injection ea_ with ea_ en_ ec_;subst ea_;subst ec_;clear en_;obtain ⟨g7,gu,gv,im,io⟩:=yai cE bk;cases gu)|((with_reducible refine zK (f:=60) rfl ?_);refine ygl 128 Try.func60 #[.int .i64 bL, .int .i64 (rd (rd_L1 am aJ) bk), .int .u64 0] ?_;(with_reducible refine (r06_Vector.calls k4 bL (rd (rd_L1 am aJ) bk) 0 bN _ gZ.out).mono ?_);rintro e iG ⟨ip,rfl,ho0,hb⟩;refine ⟨_,rfl, ?_⟩;replace au:=zm (za8 (yr au) (zW ho0) hb);replace aD:=zm (za8 (yr aD) (zW ho0) hb);replace ac:=zm (za7 (yr ac) (zW ho0) hb);replace aa:=zm (za8 (yr aa) (zW ho0) hb);replace ai:=zm (za6 (yr ai) (zW ho0) hb);have cR:=zm (za0 (Kd.R_new' (Kd.R_new' ho0 (Kd.R_lt (yr av))) (Kd.R_lt (yr b8))) (zE yhb));replace av:=zm (za6 (yr av) (zW ho0) hb);replace b8:=zm (za6 (yr b8) (zW ho0) hb);replace af:=ybb af hb;replace ag:=ybb ag hb;replace ah:=ybb ah hb;replace aE:=zm (Kd.C_below (Kd.C_drewN aE.out _) hb);replace cE:=zm (Kd.C_below (Kd.C_drewN cE.out _) hb);replace HB:=ybs hb;(try clear hb);(try clear ho0);obtain ⟨cr,ct,gw⟩:=zT cR.out;subst gw)|((with_reducible refine zb9 (b:=.append) (xs := #[.tmp 118, .tmp 129]) rfl ?_);at_builtin;refine Kd.S_append (Kd.slice 3 (Kd.int .i64)) (w0:=w) w.heap.size rfl (.tmp 118) (.tmp 129) 22 49 (.slice none 0 0) 24 rfl Try.underlying22 info49 rfl (by decide) (by omega) u18 bM bN [.slice cr bN.length ct] (fun k_=>some k_≠(.slice (some aw) am.length cq : Value).ownBlock∧some k_≠(.slice aM ae.length aN : Value).ownBlock) (fun k_=>some k_=(.slice cr bN.length ct : Value).ownBlock) rfl rfl ?aP ?aQ ?aF ?aO ?aB ?aS ?aL ?_;(case aQ=>exact (fun k_ hk_=>((zG (ok' := fun k_=>((fun k_=>some k_≠(.slice (some aw) am.length cq : Value).ownBlock∧some k_≠(.slice aM ae.length aN : Value).ownBlock)) k_∧some k_≠(u18 : Value).ownBlock) (zZ (zZ (zZ (cR.out) (Kd.S_typed au.out) (by decide)) (Kd.S_typed aa.out) (by decide)) (Kd.S_typed aD.out) (by decide)) (fun k_ hk=>⟨⟨hk.1.1.2,hk.1.2⟩,hk.2⟩))).1 k_ hk_.symm));(case aP=>exact Kd.M_row (zG (Kd.R_tight rfl (zG (ok' := fun k_=>((fun k_=>some k_≠(.slice (some aw) am.length cq : Value).ownBlock∧some k_≠(.slice aM ae.length aN : Value).ownBlock)) k_∧some k_≠(u18 : Value).ownBlock) (zZ (zZ (zZ (cR.out) (Kd.S_typed au.out) (by decide)) (Kd.S_typed aa.out) (by decide)) (Kd.S_typed aD.out) (by decide)) (fun k_ hk=>⟨⟨hk.1.1.2,hk.1.2⟩,hk.2⟩))) (fun _ h_=>h_)));(case aB=>exact yhb);(case aF=>exact (fun k_ hk=>⟨zc2 (Kd.S_lt (yr au)) k_ hk,zc2 (Kd.S_lt (yr aa)) k_ hk⟩));(case aO=>exact (yS0 aD));(case aS=>exact (zE yhb));(case aL=>have:=LMc113.out;omega);intro iq iH ho hb hg hat;rw [← fE.out] at ho;replace au:=zm (Kd.S_after (ok:=(fun k_=>some k_≠(.slice aM ae.length aN : Value).ownBlock∧some k_≠(.slice cr bN.length ct : Value).ownBlock)) (yS0 au) hg hat);replace ac:=zm (zc1 (ok:=(fun k_=>some k_≠(.slice (some aw) am.length cq : Value).ownBlock∧some k_≠(.slice aM ae.length aN : Value).ownBlock∧some k_≠(aA : Value).ownBlock∧some k_≠(.slice cr bN.length ct : Value).ownBlock∧k_≠ao∧k_≠aj∧k_≠ap)) (yV0 ac) hg hat);replace aa:=zm (Kd.S_after (ok:=(fun k_=>some k_≠(.slice (some aw) am.length cq : Value).ownBlock∧some k_≠(.slice cr bN.length ct : Value).ownBlock)) (yS0 aa) hg hat);replace ai:=zm (zc0 (ok:=(fun k_=>some k_≠(.slice (some aw) am.length cq : Value).ownBlock∧some k_≠(.slice aM ae.length aN : Value).ownBlock∧some k_≠(.slice cr bN.length ct : Value).ownBlock)) (yR0 ai) hg hat);replace af:=zm (zc3 (yk af) hg (Kd.S_ne aD.out af.out (by decide)));replace ag:=zm (zc3 (yk ag) hg (Kd.S_ne aD.out ag.out (by decide)));replace ah:=zm (zc3 (yk ah) hg (Kd.S_ne aD.out ah.out (by decide)));replace av:=zm (zc0 (ok:=(fun k_=>some k_≠(.slice (some aw) am.length cq : Value).ownBlock∧some k_≠(.slice aM ae.length aN : Value).ownBlock∧some k_≠(.slice cr bN.length ct : Value).ownBlock)) (yR0 av) hg hat);replace b8:=zm (zc0 (ok:=(fun k_=>some k_≠(.slice (some aw) am.length cq : Value).ownBlock∧some k_≠(.slice aM ae.length aN : Value).ownBlock∧some k_≠(.slice cr bN.length ct : Value).ownBlock)) (yR0 b8) hg hat);replace HB:=zm (hb);have fG:=zm (ho);clear aD;clear cR;clear ho hb hg hat))
         go_roundg k4
         case measure=>exact yom4 cS HK2 HK3 HK4
         case rel=>exact ⟨(ft),(wrap64 (bk+1)),(aG),(aH),(az),(aI),(bj),yq,H',⟨yom4 cS HK2 HK3 HK4⟩,⟨yS0 au⟩,⟨yr fG⟩,⟨yV0 ac⟩,⟨yS0 aa⟩,⟨yR0 ai⟩,⟨yk af⟩,⟨yk ag⟩,⟨yk ah⟩,⟨yhb⟩⟩
        replace H:=yif H;obtain ⟨gx,H⟩:=H
        have LMc118:=zm gx;clear gx
        obtain ⟨dX,dh⟩ : ∃ y_ : List (List (List Int)),y_=(aZ ++ [bM]):=⟨_,rfl⟩
        replace H : (r13_Read.l1 k4 a1 am (wrap64 (aJ+1)) aG aH az aI (decide (aX > 0)) ae dX)=some (r1,r2,r3,r4):=yrw dh H
        have fH:=zm dh;clear dh
        have H' := zm H
        clear H
        have:=bn.out
        have:=bm.out
        have:=bp.out
        have:=bo.out
        obtain ⟨_,_,_,_,_,_⟩:=yc3 ah
        obtain ⟨fu,fv,gy⟩:=zV aD.out
        subst gy
        go_wp2_with (first|((with_reducible refine zb9 (b:=.append) (xs := #[.tmp 132, .tmp 134]) rfl ?_);at_builtin;refine Kd.R_append (Kd.slice 49 (Kd.slice 3 (Kd.int .i64))) (w0:=w) w.heap.size rfl (.tmp 132) (.tmp 134) 23 22 (.slice none 0 0) 24 rfl Try.underlying23 info22 rfl (by decide) (by omega) aA aZ bM [.slice fu bM.length fv] (fun k_=>some k_≠(bZ : Value).ownBlock∧some k_≠(.slice aM ae.length aN : Value).ownBlock) (fun k_=>((fun k_=>some k_≠(bZ : Value).ownBlock∧some k_≠(.slice aM ae.length aN : Value).ownBlock)) k_∧some k_≠(aA : Value).ownBlock) rfl rfl ?aP (fun _ hk=>hk) ?aF ?aO ?aB ?aS ?aL ?_;(case aP=>exact Kd.M_row (zG (zZ ((Kd.S_R aD.out)) (Kd.R_typed ai.out) (by decide)) (fun k_ hk=>⟨⟨hk.1.1,hk.1.2⟩,hk.2⟩)));(case aB=>exact yhb);(case aF=>exact (fun k_ hk=>⟨zc2 (Kd.S_lt (yr au)) k_ hk,zc2 (Kd.S_lt (yr aa)) k_ hk⟩));(case aO=>exact (yR0 ai));(case aS=>exact (zE yhb));(case aL=>have:=LMc118.out;omega);intro ir iI ho hb hg hat;rw [← fH.out] at ho;replace au:=zm (Kd.S_over' (yr au) (Kd.R_typed (yr ai)) (by decide) hg);replace ac:=zm (zc1 (ok:=(fun k_=>some k_≠(bZ : Value).ownBlock∧some k_≠(.slice fu bM.length fv : Value).ownBlock∧some k_≠(.slice aM ae.length aN : Value).ownBlock∧k_≠ao∧k_≠aj∧k_≠ap)) (yV0 ac) hg hat);replace aa:=zm (Kd.S_over' (yr aa) (Kd.R_typed (yr ai)) (by decide) hg);replace af:=zm (zc3 (yk af) hg (zu ai.out af.out (by decide)));replace ag:=zm (zc3 (yk ag) hg (zu ai.out ag.out (by decide)));replace ah:=zm (zc3 (yk ah) hg (zu ai.out ah.out (by decide)));replace HB:=zm (hb);have dY:=zm (ho);clear ai;clear aD;clear ho hb hg hat;obtain ⟨gz,gA,gB⟩:=zT dY.out;subst gB;obtain ⟨_,_,_,_,_,_⟩:=yc3 ah))
        go_roundg k4
        case measure=>exact yom4 cS HK2 HK3 HK4
        case rel=>exact ⟨(wrap64 (aJ+1)),(aG),(aH),(az),(aI),(dX),(bj),(.slice gz dX.length gA),yq,H',⟨yom4 cS HK2 HK3 HK4⟩,⟨yS1 au ah⟩,⟨yV0 ac⟩,⟨yS1 aa ah⟩,⟨yR1 dY ah⟩,⟨yk af⟩,⟨yk ag⟩,⟨ykp ah⟩,⟨yhb⟩⟩
      simp only [zM,zN] at H
      obtain ⟨rfl,rfl,rfl,rfl⟩:=H
      have:=bn.out
      have:=bm.out
      have:=bp.out
      have:=bo.out
      obtain ⟨_,_,_,_,_,_⟩:=yc3 ah
      have:=bD.out
      have:=bE.out
      obtain ⟨_,_,_,_,_,_⟩:=yc3 af
      obtain ⟨gC,gD,gE⟩:=zT ai.out
      subst gE
      go_wp2
      refine za1 (results_ct rfl _ _ ao 33 #[.bool (decide (aX > 0)), .slice aM ae.length aN, .slice gC aZ.length gD] (0,0) _ rfl (ykp af) Try.underlying33 rfl (by kernel_rfl)) rfl ?_
      exact ⟨_,_,ye,yS1 aa af,yR1 ai af,yhb⟩
  rw [za5 c7] at H
  obtain ⟨fK,fL⟩:=yF c7
  simp only [zM,zN] at H
  obtain ⟨rfl,rfl,rfl,rfl⟩:=H
  go_enter Try.func21,Try.ntmps21
  go_wp2_with (first|((with_reducible refine zL (N:=8) rfl ?_);refine ybx 8 #[.bool false, .slice none 0 0, .slice none 0 0] 33 ?_;intro ao hg fI hbox hb;have af:=zm (hbox);have dr:=ygw hg;have dt:=ygw hg;replace HB:=ybs hb;clear hb hbox hg)|((with_reducible refine zK (f:=23) rfl ?_);refine ygl 26 Try.func23 #[.int .i64 a0, .int .i64 a1] ?_;(with_reducible refine (r12_Right.calls a0 a1 true _ A5.out).mono ?_);rintro e w' ⟨rfl,⟨nd,rfl⟩⟩;refine ⟨_,rfl, ?_⟩;(try (rw [drewN_self fI];generalize hq_ : World.drewN fI _=fI;replace af:=ykq hq_ af;replace HB:=ysq hq_;clear hq_));obtain ⟨_,_,_,_,_,_⟩:=yc3 af))
  refine za1 (results_ct rfl _ _ ao 33 #[.bool false, .slice none 0 0, .slice none 0 0] (0,0) _ rfl (ykp af) Try.underlying33 rfl (by kernel_rfl)) rfl ?_
  exact ⟨_,_,ye,yn,yn,yhb⟩
 replace c6:=za3.mpr c6
 subst c6
 rw [ynf] at H
 simp only [zM,zN] at H
 obtain ⟨rfl,rfl,rfl,rfl⟩:=H
 go_enter Try.func21,Try.ntmps21
 go_wp2_with (first|((with_reducible refine zL (N:=8) rfl ?_);refine ybx 8 #[.bool false, .slice none 0 0, .slice none 0 0] 33 ?_;intro ao hg fJ hbox hb;have af:=zm (hbox);have dr:=ygw hg;have dt:=ygw hg;replace HB:=ybs hb;clear hb hbox hg)|((with_reducible refine zK (f:=23) rfl ?_);refine ygl 26 Try.func23 #[.int .i64 a0, .int .i64 a1] ?_;(with_reducible refine (r12_Right.calls a0 a1 false _ A5.out).mono ?_);rintro e w' ⟨rfl,⟨nd,rfl⟩⟩;refine ⟨_,rfl, ?_⟩;(try (rw [drewN_self fJ];generalize hq_ : World.drewN fJ _=fJ;replace af:=ykq hq_ af;replace HB:=ysq hq_;clear hq_));obtain ⟨_,_,_,_,_,_⟩:=yc3 af))
 refine za1 (results_ct rfl _ _ ao 33 #[.bool false, .slice none 0 0, .slice none 0 0] (0,0) _ rfl (ykp af) Try.underlying33 rfl (by kernel_rfl)) rfl ?_
 exact ⟨_,_,ye,yn,yn,yhb⟩
mutual
def r13_Long.l0 : Nat→Int→List (List Int)→Int→Bool→List (List Int)→List (List (List Int))→Int→List Int→Option (Int)
 | 0,_,_,_,_,_,_,_,_=>none
 | k+1,x0,x2,x8,ay,av,aj,aD,az=>if x8 < x0 then (if 0≤x8 then (if x8 < (av.length : Int) then ((r13_At.f x2 x8).bind fun aZ=>((r11_Put.f k aD az (rd_L1 av x8) aZ ay).bind fun bn=>(r13_Long.l1 k x0 x2 x8 0 ay av aj bn.1 bn.2.1))) else (none)) else (none)) else (some (az.length : Int))
def r13_Long.l1 : Nat→Int→List (List Int)→Int→Int→Bool→List (List Int)→List (List (List Int))→Int→List Int→Option (Int)
 | 0,_,_,_,_,_,_,_,_,_=>none
 | k+1,x0,x2,x8,x9,ay,av,aj,aD,az=>if x9 < 5 then (if 0≤x8 then (if x8 < (aj.length : Int) then (if 0≤x9 then (if x9 < ((rd_L2 aj x8).length : Int) then ((r06_Pulses.f k (rd_L1 (rd_L2 aj x8) x9)).bind fun bk=>(if bk > 0 then ((r06_Index.f k (rd_L1 (rd_L2 aj x8) x9)).bind fun a7=>((r06_Pulses.f k (rd_L1 (rd_L2 aj x8) x9)).bind fun a8=>((r06_Count.f k ((rd_L1 (rd_L2 aj x8) x9).length : Int) a8).bind fun a9=>((r05_PutNum.f k aD az a7 a9).bind fun bo=>(r13_Long.l1 k x0 x2 x8 (wrap64 (x9+1)) ay av aj bo.1 bo.2.1))))) else (r13_Long.l1 k x0 x2 x8 (wrap64 (x9+1)) ay av aj aD az))) else (none)) else (none)) else (none)) else (none)) else (r13_Long.l0 k x0 x2 (wrap64 (x8+1)) ay av aj aD az)
end
def r13_Long.f (k : Nat) (a0 : Int) (aV : Bool) (aC : List (List Int)) (au : List (List (List Int))) (l2 : List (List Int)) : Option (Int):=(r05_New.f).bind fun bp=>((r05_Put.f k bp.1 bp.2 0 1 2).bind fun bq=>(r13_Long.l0 k a0 l2 0 aV aC au bq.1 bq.2.1))
theorem r13_Long.mono_l : ∀ k,(∀ y0 y1 y2 y3 y4 y5 y6 y7,LeO (r13_Long.l0 k y0 y1 y2 y3 y4 y5 y6 y7) (r13_Long.l0 (k+1) y0 y1 y2 y3 y4 y5 y6 y7))∧(∀ y0 y1 y2 y3 y4 y5 y6 y7 y8,LeO (r13_Long.l1 k y0 y1 y2 y3 y4 y5 y6 y7 y8) (r13_Long.l1 (k+1) y0 y1 y2 y3 y4 y5 y6 y7 y8))
 | 0=>⟨fun _ _ _ _ _ _ _ _ r h=>by simp [r13_Long.l0] at h,fun _ _ _ _ _ _ _ _ _ r h=>by simp [r13_Long.l1] at h⟩
 | k+1=>by
  obtain ⟨ih0,ih1⟩:=r13_Long.mono_l k
  have i0:=@r05_Put.mono;have i1:=@r05_PutNum.mono;have i2:=@r06_Count.mono;have i3:=@r06_Index.mono;have i4:=@r06_Pulses.mono;have i5:=@r11_Put.mono
  refine ⟨?_, ?_⟩
  ·
   intro y0 y1 y2 y3 y4 y5 y6 y7
   unfold r13_Long.l0
   exact yLm
  intro y0 y1 y2 y3 y4 y5 y6 y7 y8
  unfold r13_Long.l1
  exact yLm
theorem r13_Long.mono : ∀ a0 a1 a2 a3 a4 k,LeO (r13_Long.f k a0 a1 a2 a3 a4) (r13_Long.f (k+1) a0 a1 a2 a3 a4):=by
 intro a0 a1 a2 a3 a4 k
 obtain ⟨ih0,ih1⟩:=r13_Long.mono_l k
 have i0:=@r05_Put.mono;have i1:=@r05_PutNum.mono;have i2:=@r06_Count.mono;have i3:=@r06_Index.mono;have i4:=@r06_Pulses.mono;have i5:=@r11_Put.mono
 unfold r13_Long.f
 exact yLm
def r13_Long.T6 : Bool × List (List Nat × List Nat):=(true, [([], []),([], []),([1], [1]),([], []),([2,3], [2,3]),([4], [4]),([], []),([], []),([6,7], [6,7]),([], []),([9], [9]),([0,5,8,10,8], [0,5,8,10]),([11], [11]),([12], [12]),([12], [12]),([13,11,0,1,2,3,4,5,6,7,8,9,10,11,12,13], [13])])
def r13_Long.B6 : List Nat := [0,0,2,0,14,30,0,0,192,0,512,2047,4095,8191,8191,16383]
theorem r13_Long.tab6 : rtab .any (opsOf Try.f13 6)=r13_Long.T6:=by kernel_rfl
theorem r13_Long.bits6 : waitsOk r13_Long.T6.2 r13_Long.B6=true:=by kernel_rfl
def r13_Long.T12 : Bool × List (List Nat × List Nat):=(true, [([], []),([], []),([1], [1]),([], []),([3], [3]),([], []),([5,2], [5]),([4,6,6], [4,6]),([0,2,7,7], [0,2,7]),([8], [8]),([9], [9]),([9], [9]),([10,8,0,1,2,3,4,5,6,7,8,9,10], [10])])
def r13_Long.B12 : List Nat := [0,0,2,0,8,0,38,126,255,511,1023,1023,2047]
theorem r13_Long.tab12 : rtab .any (opsOf Try.f13 12)=r13_Long.T12:=by kernel_rfl
theorem r13_Long.bits12 : waitsOk r13_Long.T12.2 r13_Long.B12=true:=by kernel_rfl
theorem r13_Long.calls (k : Nat) (a0 : Int) (aV : Bool) (br : Option Addr) (bg : Nat) (aC : List (List Int)) (bh : Option Addr) (bi : Nat) (au : List (List (List Int))) (A2 : Option Addr) (c2 : Nat) (l2 : List (List Int)) (r : Int) (w : World) (hr1_1 : Kd.C (Kd.slice 3 (Kd.int .i64)) w br aC.length aC) (hc1_1 : aC.length≤bg) (hr1_2 : Kd.C (Kd.slice 49 (Kd.slice 3 (Kd.int .i64))) w bh au.length au) (hc1_2 : au.length≤bi) (hr2 : Kd.C (Kd.slice 3 (Kd.int .i64)) w A2 l2.length l2) (hc2 : l2.length≤c2) (h : r13_Long.f k a0 aV aC au l2=some r) :
  Calls Try.prog 13 #[.int .i64 a0, .agg #[.bool aV, .slice br aC.length bg, .slice bh au.length bi], .slice A2 l2.length c2] w fun e w' => e=.returned (.int .i64 r)∧Below w.heap.size w w' := by
 have hu33:=Try.underlying33;have hu69:=Try.underlying69;have b5:=zm hr1_1;have cP:=zm hc1_1;clear hr1_1 hc1_1;have bU:=zm hr1_2;have cQ:=zm hc1_2;clear hr1_2 hc1_2;have HR2:=zm hr2;have HC2:=zm hc2;clear hr2 hc2;have HB:=zm (zY w.heap.size w);have H:=h
 unfold r13_Long.f at H
 clear h
 obtain ⟨⟨ba,aW⟩,A4,H⟩:=ybi H
 try dsimp only at H
 obtain ⟨⟨bV,bs,b6⟩,A5,H⟩:=ybi H
 try dsimp only at H
 have H' := zm H
 clear H
 go_enter Try.func13,Try.ntmps13
 go_wp2_with (first|((with_reducible refine zL (N:=4) rfl ?_);refine ybx 4 #[.bool aV, .slice br aC.length bg, .slice bh au.length bi] 33 ?_;intro ao hg w6 hbox hb;have ae:=zm (hbox);have cA:=ygw hg;have cB:=ygw hg;replace HB:=ybs hb;clear hb hbox hg)|((with_reducible refine zK (f:=36) rfl ?_);refine ygl 11 Try.func36 #[] ?_;(with_reducible refine (r05_New.calls  ba aW _ A4.out).mono ?_);rintro e w7 ⟨cR,rfl,ho0,hb⟩;refine ⟨_,rfl, ?_⟩;have ax:=zm (za0 ho0 (zE yhb));replace ae:=ybb ae hb;replace HB:=ybs hb;(try clear hb);(try clear ho0))|((with_reducible refine zL (N:=7) rfl ?_);refine ybx 7 #[.int .u64 0, .slice none 0 0] 69 ?_;intro af hg w8 hbox hb;replace ax:=yRb ax hb;have ac:=zm (hbox);have cC:=ygw hg;have cD:=ygw hg;replace HB:=ybs hb;have ag:=ynl ae hg;have ah:=yng ae hg;replace ae:=ybb ae hb;clear hb hbox hg;have:=ah.out;have:=ag.out;obtain ⟨bG,bH,bI,bJ⟩:=yc2 ac;obtain ⟨bu,bv,cE⟩:=zT ax.out;subst cE)|((with_reducible refine zb8 (t:=69) (p:=7) rfl ?_);refine za2 (t:=69) (p:=7) (v := ?vo_w12) (w1:=((w8.setCell ⟨af,0,none⟩ (.int .u64 ba)).setCell ⟨af,1,none⟩ (.slice bu aW.length bv))) ?hg ?ho ?hn ?hr ?_;(case ho=>rfl);(case hg=>rfl);(case hn=>rfl);(case hr=>first|(go_simp;done)|(go_simp;rfl));intro w12 hw;replace ax : Aside0 (Kd.R (Kd.int .i64) 3 w12 w.heap.size (fun _=>True) (.slice bu aW.length bv) aW):=⟨(by rw [hw];exact (yR1 ax ac))⟩;replace ae : Aside0 (w12.heap[ao]? = some (.cells #[.bool aV, .slice br aC.length bg, .slice bh au.length bi] 33 (0,0))):=⟨(by rw [hw];exact (yk ae))⟩;replace ac : Aside0 (w12.heap[af]? = some (.cells #[.int .u64 ba, .slice bu aW.length bv] 69 (0,0))):=⟨(by rw [hw];exact (ykp ac))⟩;replace HB : Aside0 (Below w.heap.size w w12):=⟨(by rw [hw];exact yhb)⟩;clear hw;obtain ⟨bK,bL,bM,bN⟩:=yc2 ac)|((with_reducible refine zK (f:=37) rfl ?_);refine ygl 14 Try.func37 #[.agg #[.int .u64 ba, .slice bu aW.length bv], .int .i64 0, .int .i64 1, .int .i64 2] ?_;(with_reducible refine (r05_Put.calls k ba (fun k_=>some k_=(.slice bu aW.length bv : Value).ownBlock) _ _ aW 0 1 2 bV bs b6 _ ?aw A5.out).mono ?_);(case aw=>exact Kd.R_V (Kd.R_tight rfl (Kd.R_types (Kd.R_types (ax.out) ae.out (by decide)) ac.out (by decide))));rintro e w14 ⟨cS,rfl,ho0,hb⟩;refine ⟨_,rfl, ?_⟩;have bw:=yho (fun k_=>k_≠ao∧k_≠af) ho0 (fun k_ hk_=>⟨Or.elim hk_ (fun hs_=>((Kd.R_types (Kd.R_types (ax.out) ae.out (by decide)) ac.out (by decide)).1 k_ hs_.symm).1.2) (fun hn_=>(Kd.freshB (yk ae) k_ hn_)),Or.elim hk_ (fun hs_=>((Kd.R_types (Kd.R_types (ax.out) ae.out (by decide)) ac.out (by decide)).1 k_ hs_.symm).2) (fun hn_=>(Kd.freshB (yk ac) k_ hn_))⟩);replace ax:=yRb ax hb;replace ae:=ybb ae hb;replace ac:=ybb ac hb;replace HB:=ybs hb;(try clear hb);(try clear ho0);obtain ⟨bO,bP,bQ,bR⟩:=yc2 ac;obtain ⟨cF,cG,cH⟩:=zU bw.out;subst cH))
 go_loopg [8] k (fun kq v8 w' => ∃ (ap : Int) (am : Int) (aq : List Int) (ak : Value),v8=.int .i64 ap∧Aside0 (r13_Long.l0 kq a0 l2 ap aV aC au am aq=some r)∧Aside0 (kq≤k)∧Aside0 (Kd.V (Kd.int .i64) 3 w' w.heap.size (fun k_=>k_≠ao∧k_≠af) ak aq)∧Aside0 (w'.heap[ao]? = some (.cells #[.bool aV,(.slice br aC.length bg),(.slice bh au.length bi)] 33 (0,0)))∧Aside0 (w'.heap[af]? = some (.cells #[.int .u64 am,ak] 69 (0,0)))∧Aside0 (Below w.heap.size w w'))
 case atStart=>exact ⟨(0),(bV),(bs),(.slice cF bs.length cG),yq,H',⟨zX _⟩,⟨yV0 bw⟩,⟨yk ae⟩,⟨ykp ac⟩,⟨yhb⟩⟩
 case round =>
  clear H'
  try clear c2
  try clear bG
  try clear bH
  try clear bK
  try clear bL
  try clear bO
  try clear bP
  try clear bI
  try clear bJ
  try clear bM
  try clear bN
  try clear bQ
  try clear bR
  obtain ⟨ap,am,aq,ak,rfl,HA,HK1,aa,ae,ac,HB⟩:=hrel
  obtain ⟨k1,rfl⟩:=ysu gk (fun h=>by subst h;exact absurd HA.out (by simp [r13_Long.l0]))
  have H:=HA.out;clear HA
  simp only [r13_Long.l0] at H
  replace H:=yId H
  obtain ⟨bW,H⟩ | ⟨bW,H⟩:=H
  ·
   obtain ⟨c18,H⟩:=yif H
   have b7 : decide (0≤ap)=true:=decide_eq_true c18
   clear c18
   obtain ⟨c19,H⟩:=yif H
   have b8 : decide (ap < (aC.length : Int))=true:=decide_eq_true c19
   clear c19
   obtain ⟨aZ,A20,H⟩:=ybi H
   obtain ⟨⟨bX,bx,b9⟩,A21,H⟩:=ybi H
   try dsimp only at H
   have H' := zm H
   clear H
   try go_wp2
   replace aa:=zm (zC aa.out)
   replace ae:=zm (zj ae.out)
   replace ac:=zm (zj ac.out)
   replace HB:=zm (zf HB.out)
   obtain ⟨⟨bj,bl,bm,ca,aE,bb,bc⟩,cb,cf⟩:=yat (at_L1 b5.out ap)
   have hw1253_0:=aE
   cases ca
   replace aE:=yhx HB aE
   have bd:=zm bc;have bz:=zm bb;clear bc bb
   refine yst (fun w' => w'.cell? ⟨af,0,none⟩=some (.int .u64 am)∧w'.cell? ⟨af,1,none⟩=some (ak)∧w'.cell? ⟨ao,0,none⟩=some (.bool aV)∧w'.cell? ⟨ao,1,none⟩=some (.slice (some bj) aC.length bg)∧w'.cell? ⟨ao,2,none⟩=some (.slice bh au.length bi)∧w'.cell? (bj.add (ap).toNat)=some (.slice bl (rd_L1 aC ap).length bm)) [15] 16 r13_Long.tab6 r13_Long.bits6 (fun hHeld HT_ HW_ => ?_)
   generalize wr.drew=w22 at aa ae ac HB bd aE hHeld ⊢
   refine yp 1 24 HT_ ?_
   refine yp 3 26 HT_ ?_
   refine yp 6 29 HT_ ?_
   refine yp 7 30 HT_ ?_
   refine yp 9 32 HT_ ?_
   refine yl 0 23 HT_ HW_ hHeld ?_
   refine yl 2 25 HT_ HW_ hHeld ?_
   refine yp 4 27 HT_ ?_
   refine yl 5 28 HT_ HW_ hHeld ?_
   refine yl 10 33 HT_ HW_ hHeld ?_
   refine yw 8 31 HT_ (fun K hK => ?_)
   refine ygs Try.func39 #[.slice A2 l2.length c2, .int .i64 ap] ?_
   with_reducible refine (r13_At.calls (fun k_=>k_ < w.heap.size) _ _ l2 ap aZ _ ?aw A20.out).mono ?_
   (case aw=>exact Kd.V_mk HC2.out (Kd.F_below (Kd.C_F (Kd.heap_slice 3 (Kd.heap_int .i64)) HR2.out) yhb))
   rintro e w23 ⟨cT,rfl,ho0,hb⟩
   refine ⟨_,rfl, ?_⟩
   replace aa:=yVb aa hb
   have aX:=yho (fun k_=>k_≠ao∧k_≠af) ho0 (fun k_ hk_=>⟨yoB ae hk_,yoB ac hk_⟩)
   replace ae:=ybb ae hb
   replace ac:=ybb ac hb
   replace HB:=ybs hb
   (try clear hb)
   (try clear ho0)
   obtain ⟨cg,ch,ci⟩:=zU aa.out
   (first|subst ci|(injection ci with f1_ f2_ f3_;have f4_:=f1_.symm;have f5_:=f3_.symm;clear f1_ f2_ f3_;subst f4_;subst f5_))
   obtain ⟨cI,cJ,cj⟩:=zU aX.out
   (first|subst cj|(injection cj with f1_ f2_ f3_;have f4_:=f1_.symm;have f5_:=f3_.symm;clear f1_ f2_ f3_;subst f4_;subst f5_))
   refine hK.out _ _ yH (fun hHeld => ?_)
   clear hK K
   refine ym (some 31) ?_
   refine yw 11 34 HT_ (fun K hK => ?_)
   refine ygs Try.func38 #[.agg #[.int .u64 am, .slice cg aq.length ch], .slice bl (rd_L1 aC ap).length bm, .slice cI aZ.length cJ, .bool aV] ?_
   with_reducible refine (r11_Put.calls k1 am (fun k_=>(k_≠ao∧k_≠af)) _ _ aq _ _ (rd_L1 aC ap) _ _ aZ aV bX bx b9 _ ?aw ?bf ?ck ?cl ?cm A21.out).mono ?_
   (case aw=>exact aa.out)
   (case bf=>exact ycb bd)
   (case ck=>exact bz.out)
   (case cl=>exact yce (zR aX.out).2.2)
   (case cm=>exact (zR aX.out).2.1)
   rintro e w26 ⟨cU,rfl,ho0,hb⟩
   refine ⟨_,rfl, ?_⟩
   replace aa:=yVb aa hb
   replace aX:=yVb aX hb
   have bA:=yho (fun k_=>k_≠ao∧k_≠af) ho0 (fun k_ hk_=>⟨yoB ae hk_,yoB ac hk_⟩)
   replace ae:=ybb ae hb
   replace ac:=ybb ac hb
   replace HB:=ybs hb
   (try clear hb)
   (try clear ho0)
   obtain ⟨cK,cL,cn⟩:=zU bA.out
   (first|subst cn|(injection cn with f1_ f2_ f3_;have f4_:=f1_.symm;have f5_:=f3_.symm;clear f1_ f2_ f3_;subst f4_;subst f5_))
   refine hK.out _ _ yH (fun hHeld => ?_)
   clear hK K
   refine ym (some 34) ?_
   refine yp 12 22 HT_ ?_
   refine yp 13 35 HT_ ?_
   refine yp 14 36 HT_ ?_
   refine last_ (i:=15) (N:=none) #[true,true,true,true,true,true,true,true,true,true,true,true,true,true,true,true] rfl rfl (one_of HT_.out (by kernel_rfl)) (by decide) (fun K hK => ?_)
   have da : w26.cell? ⟨af,0,none⟩=some (.int .u64 am):=(zs ac.out 0).trans rfl
   have hfs27:=zx ac.out 0
   have:=ag.out
   have:=ah.out
   have db : w26.cell? ⟨af,1,none⟩=some (.slice cg aq.length ch):=(zs ac.out 1).trans rfl
   have hfs29:=zx ac.out 1
   have:=ag.out
   have:=ah.out
   refine skip_ (w1 := ?_) (by rfl) rfl ?_ ?_
   rotate_left
   ·
    go_simp
    rfl
   refine hK.out _ _ ?_
   clear hK K
   refine done_ (done_of HT_.out (by kernel_rfl)) ?_
   try go_wp2
   go_loopg [9] k1 (fun kq v9 w' => ∃ (aA : Int) (ai : Int) (al : List Int) (ak : Value),v9=.int .i64 aA∧Aside0 (r13_Long.l1 kq a0 l2 ap aA aV aC au ai al=some r)∧Aside0 (kq≤k1)∧Aside0 (Kd.V (Kd.int .i64) 3 w' w.heap.size (fun k_=>k_≠ao∧k_≠af) ak al)∧Aside0 (w'.heap[ao]? = some (.cells #[.bool aV,(.slice (some bj) aC.length bg),(.slice bh au.length bi)] 33 (0,0)))∧Aside0 (w'.heap[af]? = some (.cells #[.int .u64 ai,ak] 69 (0,0)))∧Aside0 (Below w.heap.size w w'))
   case atStart=>exact ⟨(0),(bX),(bx),(.slice cK bx.length cL),yq,H',⟨zX _⟩,⟨yV0 bA⟩,⟨yk ae⟩,⟨ykp ac⟩,⟨yhb⟩⟩
   case round =>
    clear H'
    try clear c2
    try clear bW
    try clear b7
    try clear b8
    try clear aE
    try clear cb
    try clear cf
    obtain ⟨aA,ai,al,ak,rfl,HA,HK2,aa,ae,ac,HB⟩:=hrel
    obtain ⟨k2,rfl⟩:=ysu gk (fun h=>by subst h;exact absurd HA.out (by simp [r13_Long.l1]))
    have H:=HA.out;clear HA
    simp only [r13_Long.l1] at H
    replace H:=yId H
    obtain ⟨co,H⟩ | ⟨co,H⟩:=H
    ·
     obtain ⟨c31,H⟩:=yif H
     have cV : decide (0≤ap)=true:=decide_eq_true c31
     clear c31
     obtain ⟨c32,H⟩:=yif H
     have cW : decide (ap < (au.length : Int))=true:=decide_eq_true c32
     clear c32
     obtain ⟨c33,H⟩:=yif H
     have cX : decide (0≤aA)=true:=decide_eq_true c33
     clear c33
     obtain ⟨c34,H⟩:=yif H
     have cY : decide (aA < ((rd_L2 au ap).length : Int))=true:=decide_eq_true c34
     clear c34
     obtain ⟨bk,A35,H⟩:=ybi H
     replace H:=yIs H
     obtain ⟨cp,H⟩ | ⟨cp,H⟩:=H
     ·
      obtain ⟨a7,A37,H⟩:=ybi H
      obtain ⟨a8,A38,H⟩:=ybi H
      obtain ⟨a9,A39,H⟩:=ybi H
      obtain ⟨⟨bY,bB,cq⟩,A40,H⟩:=ybi H
      try dsimp only at H
      have H' := zm H
      clear H
      have:=ag.out
      have:=ah.out
      obtain ⟨_,_,_,_,_,_⟩:=yc3 ae
      obtain ⟨⟨bZ,bS,bT,bC,aG,aH,aI⟩,cr,ct⟩:=yat (at_L2 bU.out ap)
      cases bC
      replace aG:=yhx HB aG
      have aY:=zm aI;have bD:=zm aH;clear aI aH
      obtain ⟨⟨b4,aT,aU,bE,aJ,aK,aM⟩,cu,cv⟩:=yat (at_L1 aY.out aA)
      cases bE
      replace aJ:=yhx HB aJ
      have aN:=zm aM;have aQ:=zm aK;clear aM aK
      try go_wp2_with (first|((with_reducible refine zK (f:=40) rfl ?_);refine ygl 50 Try.func40 #[.slice aT (rd_L1 (rd_L2 au ap) aA).length aU] ?_;(with_reducible refine (r06_Pulses.calls k2 _ _ (rd_L1 (rd_L2 au ap) aA) bk _ ?aw aQ.out A35.out).mono ?_);(case aw=>exact ycb aN);rintro e w' ⟨rfl,⟨nd,rfl⟩⟩;refine ⟨_,rfl, ?_⟩;(try (rw [drewN_self wr];generalize hq_ : World.drewN wr _=wr;replace aa:=yVq hq_ aa;replace ae:=ykq hq_ ae;replace ac:=ykq hq_ ac;replace HB:=ysq hq_;clear hq_))))
      replace aa:=zm (zC aa.out)
      replace ae:=zm (zj ae.out)
      replace ac:=zm (zj ac.out)
      replace HB:=zm (zf HB.out)
      refine yst (fun w' => w'.cell? ⟨af,0,none⟩=some (.int .u64 ai)∧w'.cell? ⟨af,1,none⟩=some (ak)) [12] 13 r13_Long.tab12 r13_Long.bits12 (fun hHeld HT_ HW_ => ?_)
      generalize wr.drew=w43 at aa ae ac HB hHeld ⊢
      refine yp 1 54 HT_ ?_
      refine yp 3 56 HT_ ?_
      refine yp 4 57 HT_ ?_
      refine yp 5 58 HT_ ?_
      refine yl 0 53 HT_ HW_ hHeld ?_
      refine yw 2 55 HT_ (fun K hK => ?_)
      refine ygs Try.func42 #[.slice aT (rd_L1 (rd_L2 au ap) aA).length aU] ?_
      with_reducible refine (r06_Index.calls k2 _ _ (rd_L1 (rd_L2 au ap) aA) a7 _ ?aw ?bf A37.out).mono ?_
      (case aw=>exact ycb aN)
      (case bf=>exact aQ.out)
      rintro e w44 ⟨rfl,hb⟩
      refine ⟨_,rfl, ?_⟩
      replace aa:=yVb aa hb
      replace ae:=ybb ae hb
      replace ac:=ybb ac hb
      replace HB:=ybs hb
      (try clear hb)
      refine hK.out _ _ yH (fun hHeld => ?_)
      clear hK K
      refine ym (some 55) ?_
      refine yw 6 59 HT_ (fun K hK => ?_)
      refine ygs Try.func40 #[.slice aT (rd_L1 (rd_L2 au ap) aA).length aU] ?_
      with_reducible refine (r06_Pulses.calls k2 _ _ (rd_L1 (rd_L2 au ap) aA) a8 _ ?aw ?bf A38.out).mono ?_
      (case aw=>exact ycb aN)
      (case bf=>exact aQ.out)
      rintro e w' ⟨rfl,⟨nd,rfl⟩⟩
      refine ⟨_,rfl, ?_⟩
      refine hK.out _ _ yH (fun hHeld => ?_)
      clear hK K
      refine ym (some 59) ?_
      refine yw 7 60 HT_ (fun K hK => ?_)
      refine ygs Try.func43 #[.int .i64 ((rd_L1 (rd_L2 au ap) aA).length : Int), .int .i64 a8] ?_
      with_reducible refine (r06_Count.calls k2 ((rd_L1 (rd_L2 au ap) aA).length : Int) a8 a9 _ A39.out).mono ?_
      rintro e w45 ⟨rfl,hb⟩
      refine ⟨_,rfl, ?_⟩
      replace aa:=yVb aa hb
      replace ae:=ybb ae hb
      replace ac:=ybb ac hb
      replace HB:=ybs hb
      (try clear hb)
      obtain ⟨cw,cx,cy⟩:=zU aa.out
      (first|subst cy|(injection cy with f1_ f2_ f3_;have f4_:=f1_.symm;have f5_:=f3_.symm;clear f1_ f2_ f3_;subst f4_;subst f5_))
      refine hK.out _ _ yH (fun hHeld => ?_)
      clear hK K
      refine ym (some 60) ?_
      refine yw 8 61 HT_ (fun K hK => ?_)
      refine ygs Try.func41 #[.agg #[.int .u64 ai, .slice cw al.length cx], .int .u64 a7, .int .u64 a9] ?_
      with_reducible refine (r05_PutNum.calls k2 ai (fun k_=>(k_≠ao∧k_≠af)) _ _ al a7 a9 bY bB cq _ ?aw A40.out).mono ?_
      (case aw=>exact aa.out)
      rintro e w47 ⟨cZ,rfl,ho0,hb⟩
      refine ⟨_,rfl, ?_⟩
      replace aa:=yVb aa hb
      have bF:=yho (fun k_=>k_≠ao∧k_≠af) ho0 (fun k_ hk_=>⟨yoB ae hk_,yoB ac hk_⟩)
      replace ae:=ybb ae hb
      replace ac:=ybb ac hb
      replace HB:=ybs hb
      (try clear hb)
      (try clear ho0)
      obtain ⟨cM,cN,cz⟩:=zU bF.out
      (first|subst cz|(injection cz with f1_ f2_ f3_;have f4_:=f1_.symm;have f5_:=f3_.symm;clear f1_ f2_ f3_;subst f4_;subst f5_))
      refine hK.out _ _ yH (fun hHeld => ?_)
      clear hK K
      refine ym (some 61) ?_
      refine yp 9 52 HT_ ?_
      refine yp 10 62 HT_ ?_
      refine yp 11 63 HT_ ?_
      refine last_ (i:=12) (N:=none) #[true,true,true,true,true,true,true,true,true,true,true,true,true] rfl rfl (one_of HT_.out (by kernel_rfl)) (by decide) (fun K hK => ?_)
      have dc : w47.cell? ⟨af,0,none⟩=some (.int .u64 ai):=(zs ac.out 0).trans rfl
      have hfs48:=zx ac.out 0
      have:=ag.out
      have:=ah.out
      have dd : w47.cell? ⟨af,1,none⟩=some (.slice cw al.length cx):=(zs ac.out 1).trans rfl
      have hfs50:=zx ac.out 1
      have:=ag.out
      have:=ah.out
      refine skip_ (w1 := ?_) (by rfl) rfl ?_ ?_
      rotate_left
      ·
       go_simp
       rfl
      refine hK.out _ _ ?_
      clear hK K
      refine done_ (done_of HT_.out (by kernel_rfl)) ?_
      try go_wp2
      go_roundg k2
      case measure=>exact yom2 HK1 HK2
      case rel=>exact ⟨(wrap64 (aA+1)),(bY),(bB),(.slice cM bB.length cN),yq,H',⟨yom2 HK1 HK2⟩,⟨yV0 bF⟩,⟨yk ae⟩,⟨ykp ac⟩,⟨yhb⟩⟩
     have H' := zm H
     clear H
     have:=ag.out
     have:=ah.out
     obtain ⟨_,_,_,_,_,_⟩:=yc3 ae
     obtain ⟨⟨bZ,bS,bT,bC,aG,aH,aI⟩,cr,ct⟩:=yat (at_L2 bU.out ap)
     cases bC
     replace aG:=yhx HB aG
     have aY:=zm aI;have bD:=zm aH;clear aI aH
     obtain ⟨⟨b4,aT,aU,bE,aJ,aK,aM⟩,cu,cv⟩:=yat (at_L1 aY.out aA)
     cases bE
     replace aJ:=yhx HB aJ
     have aN:=zm aM;have aQ:=zm aK;clear aM aK
     go_wp2_with (first|((with_reducible refine zK (f:=40) rfl ?_);refine ygl 50 Try.func40 #[.slice aT (rd_L1 (rd_L2 au ap) aA).length aU] ?_;(with_reducible refine (r06_Pulses.calls k2 _ _ (rd_L1 (rd_L2 au ap) aA) bk _ ?aw aQ.out A35.out).mono ?_);(case aw=>exact ycb aN);rintro e w' ⟨rfl,⟨nd,rfl⟩⟩;refine ⟨_,rfl, ?_⟩))
     go_roundg k2
     case measure=>exact yom2 HK1 HK2
     case rel=>exact ⟨(wrap64 (aA+1)),(ai),(al),(ak),yq,H',⟨yom2 HK1 HK2⟩,⟨yr aa⟩,⟨yk ae⟩,⟨yk ac⟩,⟨yhb⟩⟩
    have H' := zm H
    clear H
    go_wp2
    go_roundg k2
    case measure=>exact yom2 HK1 HK2
    case rel=>exact ⟨(wrap64 (ap+1)),(ai),(al),(ak),yq,H',⟨yom2 HK1 HK2⟩,⟨yr aa⟩,⟨yk ae⟩,⟨yk ac⟩,⟨yhb⟩⟩
  obtain rfl:=zO H
  have:=ah.out
  have:=ag.out
  obtain ⟨_,_,_,_⟩:=yc2 ac
  obtain ⟨de,df,cO⟩:=zU aa.out
  subst cO
  go_wp2
  go_ret
  exact ⟨ye,yhb⟩
end Go.Proofs.Ytnmbndkojpjkmaa.Prt
