-- Functions of the program and of the document as plain Lean, each with the proof that the code comes to it. Written by a program of this session (wip/tools/myprint.py, pack.py) over the kit's printer; Lean checks it.
import Derived.Test.YtnmbndkojpjkmaaZPackAlonePrt0
import Derived.Test.YtnmbndkojpjkmaaZPackAloneM3
import Derived.Test.YtnmbndkojpjkmaaZPackAloneSh2
import Derived.Test.YtnmbndkojpjkmaaZPackAloneSh
namespace Go.Proofs.Ytnmbndkojpjkmaa.Prt
open Go.RowKit Go.Proofs.YtnmbndkojpjkmaaW.PrintWords Go.Proofs.YtnmbndkojpjkmaaW.PrintLast Go.Proofs.YtnmbndkojpjkmaaW.PrintMore
attribute [local go_sem] max2_int min2_int max_two min_two max_three min_three max_four min_four   -- for this text's walks alone
set_option linter.unusedVariables false
set_option linter.unusedSimpArgs false


mutual
def r12_Channel.l0 : Nat→List Int→Int→List Int→Option (List Int)
 | 0,_,_,_=>none
 | k+1,x0,x1,x5=>r12_Channel.l1 k x0 x1 x5 (-1) 0 0
def r12_Channel.l1 : Nat→List Int→Int→List Int→Int→Int→Int→Option (List Int)
 | 0,_,_,_,_,_,_=>none
 | k+1,x0,x1,x5,x6,x7,x8=>if x8 < 5 then (if 0≤x8 then (if x8 < (x0.length : Int) then (if x8 < (x5.length : Int) then ((r10_Width.f k x8).bind fun aj=>(if aj=0 then (none) else ((r12_May.f k x0 x5 x8 x1).bind fun aH=>(if aH=true then (if x6 < 0 then (r12_Channel.l1 k x0 x1 x5 x8 (wrap64 ((wrap64 (8 * (rd x0 x8))) - (wrap64 (Int.tdiv (wrap64 (16 * (rd x5 x8))) aj)))) (wrap64 (x8+1))) else (if (wrap64 ((wrap64 (8 * (rd x0 x8))) - (wrap64 (Int.tdiv (wrap64 (16 * (rd x5 x8))) aj)))) > x7 then (r12_Channel.l1 k x0 x1 x5 x8 (wrap64 ((wrap64 (8 * (rd x0 x8))) - (wrap64 (Int.tdiv (wrap64 (16 * (rd x5 x8))) aj)))) (wrap64 (x8+1))) else (r12_Channel.l1 k x0 x1 x5 x6 x7 (wrap64 (x8+1))))) else (r12_Channel.l1 k x0 x1 x5 x6 x7 (wrap64 (x8+1))))))) else (none)) else (none)) else (none)) else (if x6 < 0 then (some x5) else ((r12_More.f x5 x6).bind fun ay=>(r12_Channel.l0 k x0 x1 ay)))
end
def r12_Channel.f (k : Nat) (l0 : List Int) (a1 : Int) : Option (List Int):=r12_Channel.l0 k l0 a1 (([0,0,0,0,0] : List Int))
theorem r12_Channel.mono_l : ∀ k,(∀ y0 y1 y2,LeO (r12_Channel.l0 k y0 y1 y2) (r12_Channel.l0 (k+1) y0 y1 y2))∧(∀ y0 y1 y2 y3 y4 y5,LeO (r12_Channel.l1 k y0 y1 y2 y3 y4 y5) (r12_Channel.l1 (k+1) y0 y1 y2 y3 y4 y5))
 | 0=>⟨fun _ _ _ r h=>by simp [r12_Channel.l0] at h,fun _ _ _ _ _ _ r h=>by simp [r12_Channel.l1] at h⟩
 | k+1=>by
  obtain ⟨ih0,ih1⟩:=r12_Channel.mono_l k
  refine ⟨?_, ?_⟩
  ·
   intro y0 y1 y2
   unfold r12_Channel.l0
   repeat' with_reducible first|apply ih0|apply ih1|apply r10_Width.mono|apply r12_May.mono|apply yLr|apply yLn|apply yLi|apply yLb|intro _
  intro y0 y1 y2 y3 y4 y5
  unfold r12_Channel.l1
  repeat' with_reducible first|apply ih0|apply ih1|apply r10_Width.mono|apply r12_May.mono|apply yLr|apply yLn|apply yLi|apply yLb|intro _
theorem r12_Channel.mono : ∀ a0 a1 k,LeO (r12_Channel.f k a0 a1) (r12_Channel.f (k+1) a0 a1):=by
 intro a0 a1 k
 obtain ⟨ih0,ih1⟩:=r12_Channel.mono_l k
 unfold r12_Channel.f
 repeat' with_reducible first|apply ih0|apply ih1|apply r10_Width.mono|apply r12_May.mono|apply yLr|apply yLn|apply yLi|apply yLb|intro _
set_option maxHeartbeats 8000000 in
set_option maxRecDepth 100000 in
theorem r12_Channel.calls (k : Nat) (A0 : Option Addr) (c0 : Nat) (l0 : List Int) (a1 : Int) (r : List Int) (w : World) (hr0 : Kd.C (Kd.int .i64) w A0 l0.length l0) (hc0 : l0.length≤c0) (h : r12_Channel.f k l0 a1=some r) :
  Calls Try.prog 83 #[.slice A0 l0.length c0, .int .i64 a1] w fun e w' => ∃ v0_ : Value,e=.returned (v0_)∧Kd.R (Kd.int .i64) 3 w' w.heap.size (fun _=>True) v0_ r∧Below w.heap.size w w' := by
 have HR0:=zm hr0;have HC0:=zm hc0;clear hr0 hc0;have HB:=zm (Below.refl w.heap.size w);have H:=h
 unfold r12_Channel.f at H
 clear h
 obtain ⟨aI,aA⟩ : ∃ y_ : List Int,y_=(([0,0,0,0,0] : List Int)):=⟨_,rfl⟩
 replace H : (r12_Channel.l0 k l0 a1 aI)=some r:=yrw aA H
 have aq:=zm aA;clear aA
 have H' := zm H
 clear H
 go_enter Try.func83,Try.ntmps83
 go_wp2_with (first|((with_reducible refine gate_dst (N:=10) rfl ?_);refine Kd.R_lit (Kd.int .i64) _ 3 ?hg (N:=10) ?hd (xs:=([0,0,0,0,0] : List Int)) (inner := [.int .i64 0, .int .i64 0, .int .i64 0, .int .i64 0, .int .i64 0]) (ok:=fun _=>True) (okp:=fun _=>True) ?hr ?hp (fun _ hk=>hk) trivial (Below.refl _ _) (Nat.le_refl _) (by simp) ?_;(case hd=>rfl);(case hg=>rfl);(case hr=>first|(go_simp;done)|(go_simp;rfl));(case hp=>exact (Reps.one (show Kd.M (Kd.int .i64) _ _ _ 0 [.int .i64 0] from rfl) (Reps.one (show Kd.M (Kd.int .i64) _ _ _ 0 [.int .i64 0] from rfl) (Reps.one (show Kd.M (Kd.int .i64) _ _ _ 0 [.int .i64 0] from rfl) (Reps.one (show Kd.M (Kd.int .i64) _ _ _ 0 [.int .i64 0] from rfl) (Reps.one (show Kd.M (Kd.int .i64) _ _ _ 0 [.int .i64 0] from rfl) (Reps.none _ _)))))));intro aJ w3 ho4 hb hg_ hnew_;clear hg_ hnew_;(first|rw [← aq.out] at ho4|(simp only [Int.reduceToNat] at ho4;rw [← aq.out] at ho4));have aC:=zm (Kd.R_lower ho4 (zE yhb));replace HB:=ybs hb;clear hb ho4))
 repeat (go_quiet (first|((with_reducible refine gate_dst (N:=10) rfl ?_);refine Kd.R_lit (Kd.int .i64) _ 3 ?hg (N:=10) ?hd (xs:=([0,0,0,0,0] : List Int)) (inner := [.int .i64 0, .int .i64 0, .int .i64 0, .int .i64 0, .int .i64 0]) (ok:=fun _=>True) (okp:=fun _=>True) ?hr ?hp (fun _ hk=>hk) trivial (Below.refl _ _) (Nat.le_refl _) (by simp) ?_;(case hd=>rfl);(case hg=>rfl);(case hr=>first|(go_simp;done)|(go_simp;rfl));(case hp=>exact (Reps.one (show Kd.M (Kd.int .i64) _ _ _ 0 [.int .i64 0] from rfl) (Reps.one (show Kd.M (Kd.int .i64) _ _ _ 0 [.int .i64 0] from rfl) (Reps.one (show Kd.M (Kd.int .i64) _ _ _ 0 [.int .i64 0] from rfl) (Reps.one (show Kd.M (Kd.int .i64) _ _ _ 0 [.int .i64 0] from rfl) (Reps.one (show Kd.M (Kd.int .i64) _ _ _ 0 [.int .i64 0] from rfl) (Reps.none _ _)))))));intro aJ w3 ho4 hb hg_ hnew_;clear hg_ hnew_;(first|rw [← aq.out] at ho4|(simp only [Int.reduceToNat] at ho4;rw [← aq.out] at ho4));have aC:=zm (Kd.R_lower ho4 (zE yhb));replace HB:=ybs hb;clear hb ho4));try go_wp2_with (first|((with_reducible refine gate_dst (N:=10) rfl ?_);refine Kd.R_lit (Kd.int .i64) _ 3 ?hg (N:=10) ?hd (xs:=([0,0,0,0,0] : List Int)) (inner := [.int .i64 0, .int .i64 0, .int .i64 0, .int .i64 0, .int .i64 0]) (ok:=fun _=>True) (okp:=fun _=>True) ?hr ?hp (fun _ hk=>hk) trivial (Below.refl _ _) (Nat.le_refl _) (by simp) ?_;(case hd=>rfl);(case hg=>rfl);(case hr=>first|(go_simp;done)|(go_simp;rfl));(case hp=>exact (Reps.one (show Kd.M (Kd.int .i64) _ _ _ 0 [.int .i64 0] from rfl) (Reps.one (show Kd.M (Kd.int .i64) _ _ _ 0 [.int .i64 0] from rfl) (Reps.one (show Kd.M (Kd.int .i64) _ _ _ 0 [.int .i64 0] from rfl) (Reps.one (show Kd.M (Kd.int .i64) _ _ _ 0 [.int .i64 0] from rfl) (Reps.one (show Kd.M (Kd.int .i64) _ _ _ 0 [.int .i64 0] from rfl) (Reps.none _ _)))))));intro aJ w3 ho4 hb hg_ hnew_;clear hg_ hnew_;(first|rw [← aq.out] at ho4|(simp only [Int.reduceToNat] at ho4;rw [← aq.out] at ho4));have aC:=zm (Kd.R_lower ho4 (zE yhb));replace HB:=ybs hb;clear hb ho4)))
 go_loopg [5] k (fun kq v5 w' => ∃ (ai : List Int),Aside0 (r12_Channel.l0 kq l0 a1 ai=some r)∧Aside0 (kq≤k)∧Aside0 (Kd.R (Kd.int .i64) 3 w' w.heap.size (fun _=>True) v5 ai)∧Aside0 (Below w.heap.size w w'))
 case atStart=>exact ⟨(aI),H',⟨Nat.le_refl _⟩,⟨yr aC⟩,⟨yhb⟩⟩
 case round =>
  clear H'
  obtain ⟨ai,HA,HK1,aa,HB⟩:=hrel
  obtain ⟨k1,rfl⟩:=ysu gk (fun h=>by subst h;exact absurd HA.out (by simp [r12_Channel.l0]))
  have H:=HA.out;clear HA
  simp only [r12_Channel.l0] at H
  have H' := zm H
  clear H
  go_wp2
  repeat (go_quiet (fail);try go_wp2)
  go_loopg [6,7,8] k1 (fun kq v6 v7 v8 w' => ∃ (ap : Int) (az : Int) (ac : Int),v6=.int .i64 ap∧v7=.int .i64 az∧v8=.int .i64 ac∧Aside0 (r12_Channel.l1 kq l0 a1 ai ap az ac=some r)∧Aside0 (kq≤k1)∧Aside0 (Kd.R (Kd.int .i64) 3 w' w.heap.size (fun _=>True) u5 ai)∧Aside0 (Below w.heap.size w w'))
  case atStart=>exact ⟨((-1)),(0),(0),yq,yq,yq,H',⟨Nat.le_refl _⟩,⟨yr aa⟩,⟨yhb⟩⟩
  case round =>
   clear H'
   obtain ⟨ap,az,ac,rfl,rfl,rfl,HA,HK2,aa,HB⟩:=hrel
   obtain ⟨k2,rfl⟩:=ysu gk (fun h=>by subst h;exact absurd HA.out (by simp [r12_Channel.l1]))
   have H:=HA.out;clear HA
   simp only [r12_Channel.l1] at H
   by_cases c5 : ac < 5
   ·
    rw [if_pos c5] at H
    have aT:=yD c5
    clear c5
    obtain ⟨c6,H⟩:=yif H
    have a8 : decide (0≤ac)=true:=decide_eq_true c6
    clear c6
    obtain ⟨c7,H⟩:=yif H
    have a9 : decide (ac < (l0.length : Int))=true:=decide_eq_true c7
    clear c7
    obtain ⟨c8,H⟩:=yif H
    have ba : decide (ac < (ai.length : Int))=true:=decide_eq_true c8
    clear c8
    obtain ⟨aj,A9,H⟩:=ybi H
    obtain ⟨c10,H⟩:=yie H
    obtain ⟨aZ,a7⟩:=yF c10
    obtain ⟨aH,A11,H⟩:=ybi H
    by_cases c12 : aH=true
    ·
     subst c12
     rw [if_pos rfl] at H
     by_cases c13 : ap < 0
     ·
      rw [if_pos c13] at H
      have aK:=yD c13
      clear c13
      have H' := zm H
      clear H
      have ak : 0≤(ac : Int):=yt
      have al : ac < (l0.length : Int):=yt
      obtain ⟨aD,aw,ah⟩:=Kd.at_int HR0.out ac ak al
      cases aw
      replace ah:=yhx HB ah
      replace ak:=eq_true ak
      replace al:=eq_true al
      obtain ⟨bb,bc,aU⟩:=Kd.R_slice aa.out
      subst aU
      have am : 0≤(ac : Int):=yt
      have ao : ac < (ai.length : Int):=yt
      obtain ⟨aE,ax,au⟩:=Kd.at_int (Kd.R_reads' aa.out).2.2 ac am ao
      cases ax
      replace am:=eq_true am
      replace ao:=eq_true ao
      go_wp2_with (first|(go_at_call 46;(with_reducible refine (r10_Width.calls k2 ac aj _ A9.out).mono ?_);rintro e w' ⟨rfl,⟨nd,rfl⟩⟩;(try exact yww))|(go_at_call 95;(with_reducible refine (r12_May.calls k2 _ _ l0 _ _ ai ac a1 true _ ?ae HC0.out ?af ?ag A11.out).mono ?_);(case ae=>exact ycb HR0);(case af=>exact yce (Kd.R_reads' aa.out).2.2);(case ag=>exact (Kd.R_reads' aa.out).2.1);rintro e w15 ⟨rfl,hb⟩;replace aa:=yRb aa hb;replace HB:=ybs hb;(try clear hb)))
      repeat (go_quiet (first|(go_at_call 46;(with_reducible refine (r10_Width.calls k2 ac aj _ A9.out).mono ?_);rintro e w' ⟨rfl,⟨nd,rfl⟩⟩;(try exact yww))|(go_at_call 95;(with_reducible refine (r12_May.calls k2 _ _ l0 _ _ ai ac a1 true _ ?ae HC0.out ?af ?ag A11.out).mono ?_);(case ae=>exact ycb HR0);(case af=>exact yce (Kd.R_reads' aa.out).2.2);(case ag=>exact (Kd.R_reads' aa.out).2.1);rintro e w15 ⟨rfl,hb⟩;replace aa:=yRb aa hb;replace HB:=ybs hb;(try clear hb)));try go_wp2_with (first|(go_at_call 46;(with_reducible refine (r10_Width.calls k2 ac aj _ A9.out).mono ?_);rintro e w' ⟨rfl,⟨nd,rfl⟩⟩;(try exact yww))|(go_at_call 95;(with_reducible refine (r12_May.calls k2 _ _ l0 _ _ ai ac a1 true _ ?ae HC0.out ?af ?ag A11.out).mono ?_);(case ae=>exact ycb HR0);(case af=>exact yce (Kd.R_reads' aa.out).2.2);(case ag=>exact (Kd.R_reads' aa.out).2.1);rintro e w15 ⟨rfl,hb⟩;replace aa:=yRb aa hb;replace HB:=ybs hb;(try clear hb))))
      go_roundg k2
      case measure=>exact yom2 HK1 HK2
      case rel=>exact ⟨(ac),(wrap64 ((wrap64 (8 * (rd l0 ac))) - (wrap64 (Int.tdiv (wrap64 (16 * (rd ai ac))) aj)))),(wrap64 (ac+1)),yq,yq,yq,H',⟨yom2 HK1 HK2⟩,⟨yr aa⟩,⟨yhb⟩⟩
     rw [if_neg c13] at H
     have aK:=yG c13
     clear c13
     by_cases c16 : (wrap64 ((wrap64 (8 * (rd l0 ac))) - (wrap64 (Int.tdiv (wrap64 (16 * (rd ai ac))) aj)))) > az
     ·
      rw [if_pos c16] at H
      have aM:=yDs c16
      clear c16
      have H' := zm H
      clear H
      have ak : 0≤(ac : Int):=yt
      have al : ac < (l0.length : Int):=yt
      obtain ⟨aD,aw,ah⟩:=Kd.at_int HR0.out ac ak al
      cases aw
      replace ah:=yhx HB ah
      replace ak:=eq_true ak
      replace al:=eq_true al
      obtain ⟨bd,bf,aV⟩:=Kd.R_slice aa.out
      subst aV
      have am : 0≤(ac : Int):=yt
      have ao : ac < (ai.length : Int):=yt
      obtain ⟨aE,ax,au⟩:=Kd.at_int (Kd.R_reads' aa.out).2.2 ac am ao
      cases ax
      replace am:=eq_true am
      replace ao:=eq_true ao
      go_wp2_with (first|(go_at_call 46;(with_reducible refine (r10_Width.calls k2 ac aj _ A9.out).mono ?_);rintro e w' ⟨rfl,⟨nd,rfl⟩⟩;(try exact yww))|(go_at_call 95;(with_reducible refine (r12_May.calls k2 _ _ l0 _ _ ai ac a1 true _ ?ae HC0.out ?af ?ag A11.out).mono ?_);(case ae=>exact ycb HR0);(case af=>exact yce (Kd.R_reads' aa.out).2.2);(case ag=>exact (Kd.R_reads' aa.out).2.1);rintro e w18 ⟨rfl,hb⟩;replace aa:=yRb aa hb;replace HB:=ybs hb;(try clear hb)))
      repeat (go_quiet (first|(go_at_call 46;(with_reducible refine (r10_Width.calls k2 ac aj _ A9.out).mono ?_);rintro e w' ⟨rfl,⟨nd,rfl⟩⟩;(try exact yww))|(go_at_call 95;(with_reducible refine (r12_May.calls k2 _ _ l0 _ _ ai ac a1 true _ ?ae HC0.out ?af ?ag A11.out).mono ?_);(case ae=>exact ycb HR0);(case af=>exact yce (Kd.R_reads' aa.out).2.2);(case ag=>exact (Kd.R_reads' aa.out).2.1);rintro e w18 ⟨rfl,hb⟩;replace aa:=yRb aa hb;replace HB:=ybs hb;(try clear hb)));try go_wp2_with (first|(go_at_call 46;(with_reducible refine (r10_Width.calls k2 ac aj _ A9.out).mono ?_);rintro e w' ⟨rfl,⟨nd,rfl⟩⟩;(try exact yww))|(go_at_call 95;(with_reducible refine (r12_May.calls k2 _ _ l0 _ _ ai ac a1 true _ ?ae HC0.out ?af ?ag A11.out).mono ?_);(case ae=>exact ycb HR0);(case af=>exact yce (Kd.R_reads' aa.out).2.2);(case ag=>exact (Kd.R_reads' aa.out).2.1);rintro e w18 ⟨rfl,hb⟩;replace aa:=yRb aa hb;replace HB:=ybs hb;(try clear hb))))
      go_roundg k2
      case measure=>exact yom2 HK1 HK2
      case rel=>exact ⟨(ac),(wrap64 ((wrap64 (8 * (rd l0 ac))) - (wrap64 (Int.tdiv (wrap64 (16 * (rd ai ac))) aj)))),(wrap64 (ac+1)),yq,yq,yq,H',⟨yom2 HK1 HK2⟩,⟨yr aa⟩,⟨yhb⟩⟩
     rw [if_neg c16] at H
     have aM:=yGs c16
     clear c16
     have H' := zm H
     clear H
     have ak : 0≤(ac : Int):=yt
     have al : ac < (l0.length : Int):=yt
     obtain ⟨aD,aw,ah⟩:=Kd.at_int HR0.out ac ak al
     cases aw
     replace ah:=yhx HB ah
     replace ak:=eq_true ak
     replace al:=eq_true al
     obtain ⟨bg,bh,aW⟩:=Kd.R_slice aa.out
     subst aW
     have am : 0≤(ac : Int):=yt
     have ao : ac < (ai.length : Int):=yt
     obtain ⟨aE,ax,au⟩:=Kd.at_int (Kd.R_reads' aa.out).2.2 ac am ao
     cases ax
     replace am:=eq_true am
     replace ao:=eq_true ao
     go_wp2_with (first|(go_at_call 46;(with_reducible refine (r10_Width.calls k2 ac aj _ A9.out).mono ?_);rintro e w' ⟨rfl,⟨nd,rfl⟩⟩;(try exact yww))|(go_at_call 95;(with_reducible refine (r12_May.calls k2 _ _ l0 _ _ ai ac a1 true _ ?ae HC0.out ?af ?ag A11.out).mono ?_);(case ae=>exact ycb HR0);(case af=>exact yce (Kd.R_reads' aa.out).2.2);(case ag=>exact (Kd.R_reads' aa.out).2.1);rintro e w20 ⟨rfl,hb⟩;replace aa:=yRb aa hb;replace HB:=ybs hb;(try clear hb)))
     repeat (go_quiet (first|(go_at_call 46;(with_reducible refine (r10_Width.calls k2 ac aj _ A9.out).mono ?_);rintro e w' ⟨rfl,⟨nd,rfl⟩⟩;(try exact yww))|(go_at_call 95;(with_reducible refine (r12_May.calls k2 _ _ l0 _ _ ai ac a1 true _ ?ae HC0.out ?af ?ag A11.out).mono ?_);(case ae=>exact ycb HR0);(case af=>exact yce (Kd.R_reads' aa.out).2.2);(case ag=>exact (Kd.R_reads' aa.out).2.1);rintro e w20 ⟨rfl,hb⟩;replace aa:=yRb aa hb;replace HB:=ybs hb;(try clear hb)));try go_wp2_with (first|(go_at_call 46;(with_reducible refine (r10_Width.calls k2 ac aj _ A9.out).mono ?_);rintro e w' ⟨rfl,⟨nd,rfl⟩⟩;(try exact yww))|(go_at_call 95;(with_reducible refine (r12_May.calls k2 _ _ l0 _ _ ai ac a1 true _ ?ae HC0.out ?af ?ag A11.out).mono ?_);(case ae=>exact ycb HR0);(case af=>exact yce (Kd.R_reads' aa.out).2.2);(case ag=>exact (Kd.R_reads' aa.out).2.1);rintro e w20 ⟨rfl,hb⟩;replace aa:=yRb aa hb;replace HB:=ybs hb;(try clear hb))))
     go_roundg k2
     case measure=>exact yom2 HK1 HK2
     case rel=>exact ⟨(ap),(az),(wrap64 (ac+1)),yq,yq,yq,H',⟨yom2 HK1 HK2⟩,⟨yr aa⟩,⟨yhb⟩⟩
    replace c12:=Bool.eq_false_iff.mpr c12
    subst c12
    rw [ynf] at H
    have H' := zm H
    clear H
    have ak : 0≤(ac : Int):=yt
    have al : ac < (l0.length : Int):=yt
    obtain ⟨aD,aw,ah⟩:=Kd.at_int HR0.out ac ak al
    cases aw
    replace ah:=yhx HB ah
    replace ak:=eq_true ak
    replace al:=eq_true al
    obtain ⟨bi,bj,aX⟩:=Kd.R_slice aa.out
    subst aX
    have am : 0≤(ac : Int):=yt
    have ao : ac < (ai.length : Int):=yt
    obtain ⟨aE,ax,au⟩:=Kd.at_int (Kd.R_reads' aa.out).2.2 ac am ao
    cases ax
    replace am:=eq_true am
    replace ao:=eq_true ao
    go_wp2_with (first|(go_at_call 46;(with_reducible refine (r10_Width.calls k2 ac aj _ A9.out).mono ?_);rintro e w' ⟨rfl,⟨nd,rfl⟩⟩;(try exact yww))|(go_at_call 95;(with_reducible refine (r12_May.calls k2 _ _ l0 _ _ ai ac a1 false _ ?ae HC0.out ?af ?ag A11.out).mono ?_);(case ae=>exact ycb HR0);(case af=>exact yce (Kd.R_reads' aa.out).2.2);(case ag=>exact (Kd.R_reads' aa.out).2.1);rintro e w22 ⟨rfl,hb⟩;replace aa:=yRb aa hb;replace HB:=ybs hb;(try clear hb)))
    repeat (go_quiet (first|(go_at_call 46;(with_reducible refine (r10_Width.calls k2 ac aj _ A9.out).mono ?_);rintro e w' ⟨rfl,⟨nd,rfl⟩⟩;(try exact yww))|(go_at_call 95;(with_reducible refine (r12_May.calls k2 _ _ l0 _ _ ai ac a1 false _ ?ae HC0.out ?af ?ag A11.out).mono ?_);(case ae=>exact ycb HR0);(case af=>exact yce (Kd.R_reads' aa.out).2.2);(case ag=>exact (Kd.R_reads' aa.out).2.1);rintro e w22 ⟨rfl,hb⟩;replace aa:=yRb aa hb;replace HB:=ybs hb;(try clear hb)));try go_wp2_with (first|(go_at_call 46;(with_reducible refine (r10_Width.calls k2 ac aj _ A9.out).mono ?_);rintro e w' ⟨rfl,⟨nd,rfl⟩⟩;(try exact yww))|(go_at_call 95;(with_reducible refine (r12_May.calls k2 _ _ l0 _ _ ai ac a1 false _ ?ae HC0.out ?af ?ag A11.out).mono ?_);(case ae=>exact ycb HR0);(case af=>exact yce (Kd.R_reads' aa.out).2.2);(case ag=>exact (Kd.R_reads' aa.out).2.1);rintro e w22 ⟨rfl,hb⟩;replace aa:=yRb aa hb;replace HB:=ybs hb;(try clear hb))))
    go_roundg k2
    case measure=>exact yom2 HK1 HK2
    case rel=>exact ⟨(ap),(az),(wrap64 (ac+1)),yq,yq,yq,H',⟨yom2 HK1 HK2⟩,⟨yr aa⟩,⟨yhb⟩⟩
   rw [if_neg c5] at H
   have aT:=yG c5
   clear c5
   by_cases c23 : ap < 0
   ·
    rw [if_pos c23] at H
    have aN:=yD c23
    clear c23
    obtain rfl:=Option.some.inj H
    go_wp2
    repeat (go_quiet (fail);try go_wp2)
    go_ret
    exact ⟨_,ye,yr aa,yhb⟩
   rw [if_neg c23] at H
   have aN:=yG c23
   clear c23
   obtain ⟨ay,A24,H⟩:=ybi H
   have H' := zm H
   clear H
   obtain ⟨bk,bl,aY⟩:=Kd.R_slice aa.out
   subst aY
   go_wp2_with (first|(go_at_call 96;(with_reducible refine (r12_More.calls _ _ ai ap ay _ ?ae ?av A24.out).mono ?_);(case ae=>exact yce (Kd.R_reads' aa.out).2.2);(case av=>exact (Kd.R_reads' aa.out).2.1);rintro e w26 ⟨aQ,rfl,ho0,hb⟩;have aG:=zm (Kd.R_lower (Kd.R_new' ho0 (Kd.R_lt (yr aa))) (zE yhb));replace aa:=zm (Kd.R_elder' (yr aa) (Kd.R_base ho0) hb);replace HB:=ybs hb;(try clear hb);(try clear ho0)))
   repeat (go_quiet (first|(go_at_call 96;(with_reducible refine (r12_More.calls _ _ ai ap ay _ ?ae ?av A24.out).mono ?_);(case ae=>exact yce (Kd.R_reads' aa.out).2.2);(case av=>exact (Kd.R_reads' aa.out).2.1);rintro e w26 ⟨aQ,rfl,ho0,hb⟩;have aG:=zm (Kd.R_lower (Kd.R_new' ho0 (Kd.R_lt (yr aa))) (zE yhb));replace aa:=zm (Kd.R_elder' (yr aa) (Kd.R_base ho0) hb);replace HB:=ybs hb;(try clear hb);(try clear ho0)));try go_wp2_with (first|(go_at_call 96;(with_reducible refine (r12_More.calls _ _ ai ap ay _ ?ae ?av A24.out).mono ?_);(case ae=>exact yce (Kd.R_reads' aa.out).2.2);(case av=>exact (Kd.R_reads' aa.out).2.1);rintro e w26 ⟨aQ,rfl,ho0,hb⟩;have aG:=zm (Kd.R_lower (Kd.R_new' ho0 (Kd.R_lt (yr aa))) (zE yhb));replace aa:=zm (Kd.R_elder' (yr aa) (Kd.R_base ho0) hb);replace HB:=ybs hb;(try clear hb);(try clear ho0))))
   go_roundg k2
   case measure=>exact yom2 HK1 HK2
   case rel=>exact ⟨(ay),H',⟨yom2 HK1 HK2⟩,⟨yR0 aG⟩,⟨yhb⟩⟩
def r11_Right.l0 : Nat→List Int→Bool→Int→Option (Bool)
 | 0,_,_,_=>none
 | k+1,x0,x3,x4=>if x4 < (x0.length : Int) then (if x3=true then (if 0≤x4 then (if (rd x0 x4) ≥ 0 then (r11_Right.l0 k x0 (decide ((rd x0 x4)≤44)) (wrap64 (x4+1))) else (r11_Right.l0 k x0 false (wrap64 (x4+1)))) else (none)) else (r11_Right.l0 k x0 false (wrap64 (x4+1)))) else (some x3)
def r11_Right.f (k : Nat) (l0 : List Int) : Option (Bool):=r11_Right.l0 k l0 ((l0.length : Int) == 5) 0
theorem r11_Right.mono_l : ∀ k,(∀ y0 y1 y2,LeO (r11_Right.l0 k y0 y1 y2) (r11_Right.l0 (k+1) y0 y1 y2))
 | 0=>fun _ _ _ r h=>by simp [r11_Right.l0] at h
 | k+1=>by
  have ih0:=r11_Right.mono_l k
  ·
   intro y0 y1 y2
   unfold r11_Right.l0
   repeat' with_reducible first|apply ih0|apply yLr|apply yLn|apply yLi|apply yLb|intro _
theorem r11_Right.mono : ∀ a0 k,LeO (r11_Right.f k a0) (r11_Right.f (k+1) a0):=by
 intro a0 k
 have ih0:=r11_Right.mono_l k
 unfold r11_Right.f
 repeat' with_reducible first|apply ih0|apply yLr|apply yLn|apply yLi|apply yLb|intro _
set_option maxHeartbeats 8000000 in
set_option maxRecDepth 100000 in
theorem r11_Right.calls (k : Nat) (A0 : Option Addr) (c0 : Nat) (l0 : List Int) (r : Bool) (w : World) (hr0 : Kd.C (Kd.int .i64) w A0 l0.length l0) (hc0 : l0.length≤c0) (h : r11_Right.f k l0=some r) :
  Calls Try.prog 47 #[.slice A0 l0.length c0] w fun e w' => e=.returned (.bool r)∧Drawn0 w w' := by
 have HR0:=zm hr0;have HC0:=zm hc0;clear hr0 hc0;have H:=h
 unfold r11_Right.f at H
 clear h
 have H' := zm H
 clear H
 go_enter Try.func47,Try.ntmps47
 go_wp2
 go_loopg [3,4] k (fun kq v3 v4 w' => ∃ (ac : Bool) (aa : Int),v3=.bool ac∧v4=.int .i64 aa∧Aside0 (r11_Right.l0 kq l0 ac aa=some r)∧Aside0 (kq≤k)∧Drawn0 w w')
 case atStart=>exact ⟨(((l0.length : Int) == 5)),(0),yq,yq,H',⟨Nat.le_refl _⟩,yd⟩
 case round =>
  clear H'
  obtain ⟨ac,aa,rfl,rfl,HA,HK1,⟨m1,rfl⟩⟩:=hrel
  obtain ⟨k1,rfl⟩:=ysu gk (fun h=>by subst h;exact absurd HA.out (by simp [r11_Right.l0]))
  have H:=HA.out;clear HA
  simp only [r11_Right.l0] at H
  by_cases c2 : aa < (l0.length : Int)
  ·
   rw [if_pos c2] at H
   have al:=yD c2
   clear c2
   by_cases c3 : ac=true
   ·
    subst c3
    rw [if_pos rfl] at H
    obtain ⟨c4,H⟩:=yif H
    have au : decide (0≤aa)=true:=decide_eq_true c4
    clear c4
    by_cases c5 : (rd l0 aa) ≥ 0
    ·
     rw [if_pos c5] at H
     have am:=yDl c5
     clear c5
     have H' := zm H
     clear H
     obtain ⟨af,ag,ae,ao,ap⟩:=yai HR0 aa
     cases ag
     have ah : 0≤(aa : Int):=yt
     have ai : aa < (l0.length : Int):=yt
     obtain ⟨aj,aq,ak⟩:=Kd.at_int HR0.out aa ah ai
     obtain rfl : af=aj:=(by injection aq)
     replace ah:=eq_true ah
     replace ai:=eq_true ai
     go_wp2
     go_roundg k1
     case measure=>exact yom1 HK1
     case rel=>exact ⟨(decide ((rd l0 aa)≤44)),(wrap64 (aa+1)),yq,yq,H',⟨yom1 HK1⟩,yd⟩
    rw [if_neg c5] at H
    have am:=yGl c5
    clear c5
    have H' := zm H
    clear H
    obtain ⟨af,ag,ae,ao,ap⟩:=yai HR0 aa
    cases ag
    go_wp2
    go_roundg k1
    case measure=>exact yom1 HK1
    case rel=>exact ⟨(false),(wrap64 (aa+1)),yq,yq,H',⟨yom1 HK1⟩,yd⟩
   replace c3:=Bool.eq_false_iff.mpr c3
   subst c3
   rw [ynf] at H
   have H' := zm H
   clear H
   go_wp2
   go_roundg k1
   case measure=>exact yom1 HK1
   case rel=>exact ⟨(false),(wrap64 (aa+1)),yq,yq,H',⟨yom1 HK1⟩,yd⟩
  rw [if_neg c2] at H
  have al:=yG c2
  clear c2
  obtain rfl:=Option.some.inj H
  go_wp2
  go_ret
  exact ⟨yq,yd⟩
def r12_Fair.l0 : Nat→List (List Int)→Int→Option (Bool)
 | 0,_,_=>none
 | k+1,x1,x5=>if x5 < (x1.length : Int) then (if 0≤x5 then ((r11_Right.f k (rd_L1 x1 x5)).bind fun ao=>(if ao=true then (r12_Fair.l0 k x1 (wrap64 (x5+1))) else (some false))) else (none)) else (some true)
def r12_Fair.f (k : Nat) (a0 : Int) (l1 : List (List Int)) : Option (Bool):=if (l1.length : Int)=a0 then (r12_Fair.l0 k l1 0) else (some false)
theorem r12_Fair.mono_l : ∀ k,(∀ y0 y1,LeO (r12_Fair.l0 k y0 y1) (r12_Fair.l0 (k+1) y0 y1))
 | 0=>fun _ _ r h=>by simp [r12_Fair.l0] at h
 | k+1=>by
  have ih0:=r12_Fair.mono_l k
  ·
   intro y0 y1
   unfold r12_Fair.l0
   repeat' with_reducible first|apply ih0|apply r11_Right.mono|apply yLr|apply yLn|apply yLi|apply yLb|intro _
theorem r12_Fair.mono : ∀ a0 a1 k,LeO (r12_Fair.f k a0 a1) (r12_Fair.f (k+1) a0 a1):=by
 intro a0 a1 k
 have ih0:=r12_Fair.mono_l k
 unfold r12_Fair.f
 repeat' with_reducible first|apply ih0|apply r11_Right.mono|apply yLr|apply yLn|apply yLi|apply yLb|intro _
set_option maxHeartbeats 8000000 in
set_option maxRecDepth 100000 in
theorem r12_Fair.calls (k : Nat) (a0 : Int) (A1 : Option Addr) (c1 : Nat) (l1 : List (List Int)) (r : Bool) (w : World) (hr1 : Kd.C (Kd.slice 3 (Kd.int .i64)) w A1 l1.length l1) (hc1 : l1.length≤c1) (h : r12_Fair.f k a0 l1=some r) :
  Calls Try.prog 17 #[.int .i64 a0, .slice A1 l1.length c1] w fun e w' => e=.returned (.bool r)∧Drawn0 w w' := by
 have HR1:=zm hr1;have HC1:=zm hc1;clear hr1 hc1;have H:=h
 unfold r12_Fair.f at H
 clear h
 by_cases c3 : (l1.length : Int)=a0
 ·
  rw [if_pos c3] at H
  obtain ⟨aq,au⟩:=yE c3
  clear c3
  have H' := zm H
  clear H
  go_enter Try.func17,Try.ntmps17
  go_wp2
  go_loopg [5] k (fun kq v5 w' => ∃ (aa : Int),v5=.int .i64 aa∧Aside0 (r12_Fair.l0 kq l1 aa=some r)∧Aside0 (kq≤k)∧Drawn0 w w')
  case atStart=>exact ⟨(0),yq,H',⟨Nat.le_refl _⟩,yd⟩
  case round =>
   clear H'
   try clear c1
   try clear aq
   try clear au
   obtain ⟨aa,rfl,HA,HK1,⟨m1,rfl⟩⟩:=hrel
   obtain ⟨k1,rfl⟩:=ysu gk (fun h=>by subst h;exact absurd HA.out (by simp [r12_Fair.l0]))
   have H:=HA.out;clear HA
   simp only [r12_Fair.l0] at H
   by_cases c4 : aa < (l1.length : Int)
   ·
    rw [if_pos c4] at H
    have aw:=yD c4
    clear c4
    obtain ⟨c5,H⟩:=yif H
    have ax : decide (0≤aa)=true:=decide_eq_true c5
    clear c5
    obtain ⟨ao,A6,H⟩:=ybi H
    by_cases c7 : ao=true
    ·
     subst c7
     rw [if_pos rfl] at H
     have H' := zm H
     clear H
     have ah : 0≤(aa : Int):=yt
     have ai : aa < (l1.length : Int):=yt
     obtain ⟨av,aj,ak,ap,am,ac,ae⟩:=at_L1 HR1.out aa ah ai
     cases ap
     have af:=zm ae;have ag:=zm ac;clear ae ac
     replace ah:=eq_true ah
     replace ai:=eq_true ai
     go_wp2_with (first|((with_reducible refine gate_callee (f:=47) rfl ?_);refine ygl 20 Try.func47 #[.slice aj (rd_L1 l1 aa).length ak] ?_;(with_reducible refine (r11_Right.calls k1 _ _ (rd_L1 l1 aa) true _ ?al ag.out A6.out).mono ?_);(case al=>exact yce af.out);rintro e w' ⟨rfl,⟨nd,rfl⟩⟩;refine ⟨_,rfl, ?_⟩))
     go_roundg k1
     case measure=>exact yom1 HK1
     case rel=>exact ⟨(wrap64 (aa+1)),yq,H',⟨yom1 HK1⟩,yd⟩
    replace c7:=Bool.eq_false_iff.mpr c7
    subst c7
    rw [ynf] at H
    obtain rfl:=Option.some.inj H
    have ah : 0≤(aa : Int):=yt
    have ai : aa < (l1.length : Int):=yt
    obtain ⟨av,aj,ak,ap,am,ac,ae⟩:=at_L1 HR1.out aa ah ai
    cases ap
    have af:=zm ae;have ag:=zm ac;clear ae ac
    replace ah:=eq_true ah
    replace ai:=eq_true ai
    go_wp2_with (first|((with_reducible refine gate_callee (f:=47) rfl ?_);refine ygl 20 Try.func47 #[.slice aj (rd_L1 l1 aa).length ak] ?_;(with_reducible refine (r11_Right.calls k1 _ _ (rd_L1 l1 aa) false _ ?al ag.out A6.out).mono ?_);(case al=>exact yce af.out);rintro e w' ⟨rfl,⟨nd,rfl⟩⟩;refine ⟨_,rfl, ?_⟩))
    go_ret
    exact ⟨yq,yd⟩
   rw [if_neg c4] at H
   have aw:=yG c4
   clear c4
   obtain rfl:=Option.some.inj H
   go_wp2
   go_ret
   exact ⟨yq,yd⟩
 rw [if_neg c3] at H
 obtain ⟨aq,au⟩:=yF c3
 obtain rfl:=Option.some.inj H
 go_enter Try.func17,Try.ntmps17
 go_wp2
 go_ret
 exact ⟨yq,yd⟩
def r12_Pulses.l0 : Nat→Int→Int→List (List Int)→List (List Int)→Int→Option ((List (List Int)))
 | 0,_,_,_,_,_=>none
 | k+1,x0,x1,x2,x7,x8=>if x8 < (x2.length : Int) then (if 0≤x8 then ((r12_Room.f x0 x1).bind fun ak=>((r12_Channel.f k (rd_L1 x2 x8) ak).bind fun af=>(if x7.length < 5864062014805 then (r12_Pulses.l0 k x0 x1 x2 (x7 ++ [af]) (wrap64 (x8+1))) else (none)))) else (none)) else (some x7)
def r12_Pulses.f (k : Nat) (a0 : Int) (a1 : Int) (l2 : List (List Int)) : Option ((List (List Int))):=r12_Pulses.l0 k a0 a1 l2 ([] : List (List Int)) 0
theorem r12_Pulses.mono_l : ∀ k,(∀ y0 y1 y2 y3 y4,LeO (r12_Pulses.l0 k y0 y1 y2 y3 y4) (r12_Pulses.l0 (k+1) y0 y1 y2 y3 y4))
 | 0=>fun _ _ _ _ _ r h=>by simp [r12_Pulses.l0] at h
 | k+1=>by
  have ih0:=r12_Pulses.mono_l k
  ·
   intro y0 y1 y2 y3 y4
   unfold r12_Pulses.l0
   repeat' with_reducible first|apply ih0|apply r12_Channel.mono|apply yLr|apply yLn|apply yLi|apply yLb|intro _
theorem r12_Pulses.mono : ∀ a0 a1 a2 k,LeO (r12_Pulses.f k a0 a1 a2) (r12_Pulses.f (k+1) a0 a1 a2):=by
 intro a0 a1 a2 k
 have ih0:=r12_Pulses.mono_l k
 unfold r12_Pulses.f
 repeat' with_reducible first|apply ih0|apply r12_Channel.mono|apply yLr|apply yLn|apply yLi|apply yLb|intro _
def r12_Pulses.T5 : Bool × List (List Nat × List Nat):=(true, [([], []),([], []),([], []),([1,2], [1,2]),([3], [3]),([], []),([], []),([5,6], [5,6]),([4,7,7], [4,7]),([8], [8]),([0,9,8], [0,9]),([10,10,0,1,2,3,4,5,6,7,8,9,10], [0,10])])
def r12_Pulses.B5 : List Nat := [0,0,0,6,14,0,0,96,254,510,1023,2047]
theorem r12_Pulses.tab5 : rtab .any (opsOf Try.f45 5)=r12_Pulses.T5:=by kernel_rfl
theorem r12_Pulses.bits5 : waitsOk r12_Pulses.T5.2 r12_Pulses.B5=true:=by kernel_rfl
set_option maxHeartbeats 8000000 in
set_option maxRecDepth 100000 in
theorem r12_Pulses.calls (k : Nat) (a0 : Int) (a1 : Int) (A2 : Option Addr) (c2 : Nat) (l2 : List (List Int)) (r : List (List Int)) (w : World) (hr2 : Kd.C (Kd.slice 3 (Kd.int .i64)) w A2 l2.length l2) (hc2 : l2.length≤c2) (h : r12_Pulses.f k a0 a1 l2=some r) :
  Calls Try.prog 45 #[.int .i64 a0, .int .i64 a1, .slice A2 l2.length c2] w fun e w' => ∃ v0_ : Value,e=.returned (v0_)∧Kd.S (Kd.slice 3 (Kd.int .i64)) 49 w' w.heap.size (fun _=>True) v0_ r∧Below w.heap.size w w' := by
 have HR2:=zm hr2;have HC2:=zm hc2;clear hr2 hc2;have HB:=zm (Below.refl w.heap.size w);have H:=h
 unfold r12_Pulses.f at H
 clear h
 have H' := zm H
 clear H
 go_enter Try.func45,Try.ntmps45
 go_wp2
 go_loopg [7,8] k (fun kq v7 v8 w' => ∃ (al : List (List Int)) (aa : Int),v8=.int .i64 aa∧Aside0 (r12_Pulses.l0 kq a0 a1 l2 al aa=some r)∧Aside0 (kq≤k)∧Aside0 (Kd.S (Kd.slice 3 (Kd.int .i64)) 49 w' w.heap.size (fun _=>True) v7 al)∧Aside0 (Below w.heap.size w w'))
 case atStart=>exact ⟨(([] : List (List Int))),(0),yq,H',⟨Nat.le_refl _⟩,⟨yn⟩,⟨yhb⟩⟩
 case round =>
  clear H'
  try clear c2
  obtain ⟨al,aa,rfl,HA,HK1,ae,HB⟩:=hrel
  obtain ⟨k1,rfl⟩:=ysu gk (fun h=>by subst h;exact absurd HA.out (by simp [r12_Pulses.l0]))
  have H:=HA.out;clear HA
  simp only [r12_Pulses.l0] at H
  by_cases c4 : aa < (l2.length : Int)
  ·
   rw [if_pos c4] at H
   have aH:=yD c4
   clear c4
   obtain ⟨c5,H⟩:=yif H
   have aJ : decide (0≤aa)=true:=decide_eq_true c5
   clear c5
   obtain ⟨ak,A6,H⟩:=ybi H
   obtain ⟨af,A7,H⟩:=ybi H
   obtain ⟨c8,H⟩:=yif H
   have LMc8:=zm c8;clear c8
   obtain ⟨aw,am⟩ : ∃ y_ : List (List Int),y_=(al ++ [af]):=⟨_,rfl⟩
   replace H : (r12_Pulses.l0 k1 a0 a1 l2 aw (wrap64 (aa+1)))=some r:=yrw am H
   have ax:=zm am;clear am
   have H' := zm H
   clear H
   try go_wp2
   replace ae:=zm (Kd.S_drew ae.out)
   replace HB:=zm (zf HB.out)
   have au : 0≤(aa : Int):=yt
   have av : aa < (l2.length : Int):=yt
   obtain ⟨ay,ao,ap,aI,ac,ag,ah⟩:=at_L1 HR2.out aa au av
   have hw726_0:=ac
   cases aI
   replace ac:=yhx HB ac
   have ai:=zm ah;have aq:=zm ag;clear ah ag
   replace au:=eq_true au
   replace av:=eq_true av
   refine start_ (n:=12) (S:=fun w' => w'.cell? (ay.add (aa).toNat)=some (.slice ao (rd_L1 l2 aa).length ap)) (ds := []) #[false,false,false,false,false,false,false,false,false,false,false,false] (by kernel_rfl) rfl rfl ((yhx HB hw726_0 :)) (fun hHeld => ?_);refine with_tabW r12_Pulses.tab5 r12_Pulses.bits5 (fun HT_ HW_ => ?_)
   generalize wr.drew=w9 at ae HB ai ac hHeld ⊢
   refine yp 0 15 HT_ ?_
   refine yp 1 16 HT_ ?_
   refine yp 2 17 HT_ ?_
   refine yp 3 18 HT_ ?_
   refine yp 5 20 HT_ ?_
   refine yp 6 21 HT_ ?_
   refine yl 4 19 HT_ HW_ hHeld ?_
   refine yw 7 22 HT_ (fun K hK => ?_)
   refine ygs Try.func84 #[.int .i64 a0, .int .i64 a1] ?_
   with_reducible refine (r12_Room.calls a0 a1 ak _ A6.out).mono ?_
   rintro e w' ⟨rfl,⟨nd,rfl⟩⟩
   refine ⟨_,rfl, ?_⟩
   refine hK.out _ _ ((yhx HB hw726_0 :)) (fun hHeld => ?_)
   clear hK K
   refine ym (some 22) ?_
   refine yw 8 23 HT_ (fun K hK => ?_)
   refine ygs Try.func83 #[.slice ao (rd_L1 l2 aa).length ap, .int .i64 ak] ?_
   with_reducible refine (r12_Channel.calls k1 _ _ (rd_L1 l2 aa) ak af _ ?az ?aA A7.out).mono ?_
   (case az=>exact ycb ai)
   (case aA=>exact aq.out)
   rintro e w10 ⟨aK,rfl,ho0,hb⟩
   refine ⟨_,rfl, ?_⟩
   replace ae:=zm (Kd.S_elder' (yr ae) (Kd.R_base ho0) hb)
   have aj:=zm (Kd.R_lower ho0 (zE yhb))
   replace HB:=ybs hb
   (try clear hb)
   (try clear ho0)
   obtain ⟨aC,aD,aE⟩:=Kd.R_slice aj.out
   (first|subst aE|(injection aE with f1_ f2_ f3_;have f4_:=f1_.symm;have f5_:=f3_.symm;clear f1_ f2_ f3_;subst f4_;subst f5_))
   refine hK.out _ _ ((yhx HB hw726_0 :)) (fun hHeld => ?_)
   clear hK K
   refine ym (some 23) ?_
   refine yw 9 24 HT_ (fun K hK => ?_)
   refine value_ (w1 := ?_) (v := ?_) (by rfl) rfl ?_ ?_
   rotate_left 2
   ·
    go_simp
    constructor
    ·
     rfl
    rfl
   refine hK.out _ _ ((World.cell?_alloc_lt _ _ _ (zb _ _ ((yhx HB hw726_0 :)))).trans ((yhx HB hw726_0 :))) (fun hHeld => ?_)
   clear hK K
   refine ym (some 24) ?_
   refine yw 10 25 HT_ (fun K hK => ?_)
   refine Kd.S_append_step (Kd.slice 3 (Kd.int .i64)) (w0:=w) w.heap.size (by rfl) (.tmp 15) (.tmp 24) 22 49 (.slice none 0 0) 24 rfl Try.underlying22 info49 rfl (by decide) (by omega) u7 al af [.slice aC af.length aD] (fun _=>True) (fun k_=>some k_=(.slice aC af.length aD : Value).ownBlock) rfl rfl ?aP (fun k_ hk_=>((zG (ok' := fun k_=>((fun _=>True)) k_∧some k_≠(u7 : Value).ownBlock) (Kd.R_apart' (aj.out) (Kd.S_typed ae.out) (by decide)) (fun k_ hk=>⟨trivial,hk.2⟩))).1 k_ hk_.symm) ?aF ?aO ?aB ?aS ?aL ?_
   (case aP=>exact Kd.M_row (zG (Kd.R_tight rfl (zG (ok' := fun k_=>((fun _=>True)) k_∧some k_≠(u7 : Value).ownBlock) (Kd.R_apart' (aj.out) (Kd.S_typed ae.out) (by decide)) (fun k_ hk=>⟨trivial,hk.2⟩))) (fun _ h_=>h_)))
   (case aB=>exact yhb)
   (case aF=>exact (fun _ _=>trivial))
   (case aO=>exact (yS0 ae))
   (case aS=>exact (zE yhb))
   (case aL=>have:=LMc8.out;omega)
   intro aM w11 ho hb hg hat
   rw [← ax.out] at ho
   replace HB:=zm (hb)
   have aG:=zm (ho);clear ae aj ho hb hg hat
   refine hK.out _ _ ((yhx HB hw726_0 :)) (fun hHeld => ?_)
   clear hK K
   refine ym (some 25) ?_
   refine yp 11 7 HT_ ?_
   refine done_ (done_of HT_.out (by kernel_rfl)) ?_
   try go_wp2
   go_roundg k1
   case measure=>exact yom1 HK1
   case rel=>exact ⟨(aw),(wrap64 (aa+1)),yq,H',⟨yom1 HK1⟩,⟨yr aG⟩,⟨yhb⟩⟩
  rw [if_neg c4] at H
  have aH:=yG c4
  clear c4
  obtain rfl:=Option.some.inj H
  go_wp2
  go_ret
  exact ⟨_,ye,yr ae,yhb⟩
mutual
def r13_Right.j0 : Nat→Int→Int→Bool→Bool→List (List Int)→List (List (List Int))→Option (Bool)
 | 0,_,_,_,_,_,_=>none
 | k+1,x0,x1,x27,aG,ax,ai=>if x27=true then (some false) else ((r12_Pulses.f k x0 x1 ax).bind fun aE=>(r13_Right.l0 k x1 aE 0 aG ax ai))
def r13_Right.l0 : Nat→Int→List (List Int)→Int→Bool→List (List Int)→List (List (List Int))→Option (Bool)
 | 0,_,_,_,_,_,_=>none
 | k+1,x1,x7,x8,aG,ax,ai=>if x8 < x1 then (if 0≤x8 then (if x8 < (ai.length : Int) then (if ((rd_L2 ai x8).length : Int)=5 then (r13_Right.l1 k x1 x7 x8 0 aG ax ai) else (some false)) else (none)) else (none)) else (some true)
def r13_Right.l1 : Nat→Int→List (List Int)→Int→Int→Bool→List (List Int)→List (List (List Int))→Option (Bool)
 | 0,_,_,_,_,_,_,_=>none
 | k+1,x1,x7,x8,x9,aG,ax,ai=>if x9 < 5 then (if 0≤x8 then (if x8 < (ai.length : Int) then (if 0≤x9 then (if x9 < ((rd_L2 ai x8).length : Int) then ((r10_Width.f k x9).bind fun bB=>(if ((rd_L1 (rd_L2 ai x8) x9).length : Int)=bB then ((r06_Pulses.f k (rd_L1 (rd_L2 ai x8) x9)).bind fun bC=>(if x8 < (x7.length : Int) then (if x9 < ((rd_L1 x7 x8).length : Int) then (if bC=(rd (rd_L1 x7 x8) x9) then (r13_Right.l1 k x1 x7 x8 (wrap64 (x9+1)) aG ax ai) else (some false)) else (none)) else (none))) else (some false))) else (none)) else (none)) else (none)) else (none)) else (r13_Right.l0 k x1 x7 (wrap64 (x8+1)) aG ax ai)
end
def r13_Right.f (k : Nat) (a0 : Int) (a1 : Int) (aI : Bool) (ak : List (List Int)) (ac : List (List (List Int))) : Option (Bool):=(r12_Right.f a0 a1).bind fun ca=>(if ca=true then ((r12_Fair.f k a1 ak).bind fun cb=>(if cb=true then (r13_Right.j0 k a0 a1 ((ac.length : Int) != a1) aI ak ac) else (r13_Right.j0 k a0 a1 true aI ak ac))) else (r13_Right.j0 k a0 a1 true aI ak ac))
theorem r13_Right.mono_l : ∀ k,(∀ y0 y1 y2 y3 y4 y5,LeO (r13_Right.j0 k y0 y1 y2 y3 y4 y5) (r13_Right.j0 (k+1) y0 y1 y2 y3 y4 y5))∧(∀ y0 y1 y2 y3 y4 y5,LeO (r13_Right.l0 k y0 y1 y2 y3 y4 y5) (r13_Right.l0 (k+1) y0 y1 y2 y3 y4 y5))∧(∀ y0 y1 y2 y3 y4 y5 y6,LeO (r13_Right.l1 k y0 y1 y2 y3 y4 y5 y6) (r13_Right.l1 (k+1) y0 y1 y2 y3 y4 y5 y6))
 | 0=>⟨fun _ _ _ _ _ _ r h=>by simp [r13_Right.j0] at h,fun _ _ _ _ _ _ r h=>by simp [r13_Right.l0] at h,fun _ _ _ _ _ _ _ r h=>by simp [r13_Right.l1] at h⟩
 | k+1=>by
  obtain ⟨ih0,ih1,ih2⟩:=r13_Right.mono_l k
  refine ⟨?_, ?_, ?_⟩
  ·
   intro y0 y1 y2 y3 y4 y5
   unfold r13_Right.j0
   repeat' with_reducible first|apply ih0|apply ih1|apply ih2|apply r06_Pulses.mono|apply r10_Width.mono|apply r12_Fair.mono|apply r12_Pulses.mono|apply yLr|apply yLn|apply yLi|apply yLb|intro _
  ·
   intro y0 y1 y2 y3 y4 y5
   unfold r13_Right.l0
   repeat' with_reducible first|apply ih0|apply ih1|apply ih2|apply r06_Pulses.mono|apply r10_Width.mono|apply r12_Fair.mono|apply r12_Pulses.mono|apply yLr|apply yLn|apply yLi|apply yLb|intro _
  intro y0 y1 y2 y3 y4 y5 y6
  unfold r13_Right.l1
  repeat' with_reducible first|apply ih0|apply ih1|apply ih2|apply r06_Pulses.mono|apply r10_Width.mono|apply r12_Fair.mono|apply r12_Pulses.mono|apply yLr|apply yLn|apply yLi|apply yLb|intro _
theorem r13_Right.mono : ∀ a0 a1 a2 a3 a4 k,LeO (r13_Right.f k a0 a1 a2 a3 a4) (r13_Right.f (k+1) a0 a1 a2 a3 a4):=by
 intro a0 a1 a2 a3 a4 k
 obtain ⟨ih0,ih1,ih2⟩:=r13_Right.mono_l k
 unfold r13_Right.f
 repeat' with_reducible first|apply ih0|apply ih1|apply ih2|apply r06_Pulses.mono|apply r10_Width.mono|apply r12_Fair.mono|apply r12_Pulses.mono|apply yLr|apply yLn|apply yLi|apply yLb|intro _
def r13_Right.T12 : Bool × List (List Nat × List Nat):=(true, [([], []),([0], [0]),([], []),([1,2], [1,2]),([3], [3]),([], []),([4,5], [4,5]),([6], [6]),([7], [7]),([], []),([9], [9]),([8,10], [8,10]),([11,10], [11]),([12], [12]),([13,12], [12,13]),([12], [12]),([14,15,12], [12,14,15]),([16,12], [12,16]),([12], [12]),([17,18,12], [12,17,18]),([19,12], [12,19]),([20,12,12], [12,20]),([12], [12]),([12], [12]),([22,23,12], [12,22,23]),([24,12], [12,24]),([12], [12]),([25,26,12], [12,25,26]),([27,12], [12,27]),([21,28,12], [12,21,28]),([12,29], [12,29])])
def r13_Right.B12 : List Nat := [0,1,0,7,15,0,63,127,255,0,512,2047,4095,8191,16383,8191,65535,131071,8191,524287,1048575,2097151,8191,8191,12591103,29368319,8191,130031615,264249343,536870911,1073741823]
theorem r13_Right.tab12 : rtab .any (opsOf Try.f16 12)=r13_Right.T12:=by kernel_rfl
theorem r13_Right.bits12 : waitsOk r13_Right.T12.2 r13_Right.B12=true:=by kernel_rfl
set_option maxHeartbeats 8000000 in
set_option maxRecDepth 100000 in
theorem r13_Right.calls (k : Nat) (a0 : Int) (a1 : Int) (aI : Bool) (bf : Option Addr) (bg : Nat) (ak : List (List Int)) (bD : Option Addr) (bh : Nat) (ac : List (List (List Int))) (r : Bool) (w : World) (hr2_1 : Kd.C (Kd.slice 3 (Kd.int .i64)) w bf ak.length ak) (hc2_1 : ak.length≤bg) (hr2_2 : Kd.C (Kd.slice 49 (Kd.slice 3 (Kd.int .i64))) w bD ac.length ac) (hc2_2 : ac.length≤bh) (h : r13_Right.f k a0 a1 aI ak ac=some r) :
  Calls Try.prog 16 #[.int .i64 a0, .int .i64 a1, .agg #[.bool aI, .slice bf ak.length bg, .slice bD ac.length bh]] w fun e w' => e=.returned (.bool r)∧Below w.heap.size w w' := by
 have hu33:=Try.underlying33;have bE:=zm hr2_1;have bF:=zm hc2_1;clear hr2_1 hc2_1;have a9:=zm hr2_2;have cF:=zm hc2_2;clear hr2_2 hc2_2;have HB:=zm (Below.refl w.heap.size w);have H:=h
 unfold r13_Right.f at H
 clear h;have HC4:=zm H;clear H
 go_enter Try.func16,Try.ntmps16
 go_upto_region 1 with (first|((with_reducible refine gate_dst (N:=5) rfl ?_);(try (refine gate_guard (by rfl) ?_;dsimp only));refine ybx 5 #[.bool aI, .slice bf ak.length bg, .slice bD ac.length bh] 33 ?_;intro aC hg w5 hbox hb;have ag:=zm (hbox);have cG:=ygw hg;have cH:=ygw hg;replace HB:=ybs hb;clear hb hbox hg))
 (try simp only [Act.put,List.setIfInBounds_toArray,List.set_cons_zero,List.set_cons_succ])
 go_cut [27] (fun v27 wc => ∃ (kq : Nat) (bz : Bool),v27=.bool bz∧Aside0 (r13_Right.j0 kq a0 a1 bz aI ak ac=some r)∧Aside0 (kq≤k)∧Aside0 (wc.heap[aC]? = some (.cells #[.bool aI,(.slice bf ak.length bg),(.slice bD ac.length bh)] 33 (0,0)))∧Aside0 (Below w.heap.size w wc))
 case first =>
  have H:=HC4.out;clear HC4
  obtain ⟨ca,A6,H⟩:=ybi H
  by_cases c7 : ca=true
  ·
   subst c7
   rw [if_pos rfl] at H
   obtain ⟨cb,A8,H⟩:=ybi H
   by_cases c9 : cb=true
   ·
    subst c9
    rw [if_pos rfl] at H
    have H' := zm H
    clear H
    go_wp2_with (first|((with_reducible refine gate_callee (f:=23) rfl ?_);refine ygl 12 Try.func23 #[.int .i64 a0, .int .i64 a1] ?_;(with_reducible refine (r12_Right.calls a0 a1 true _ A6.out).mono ?_);rintro e w' ⟨rfl,⟨nd,rfl⟩⟩;refine ⟨_,rfl, ?_⟩;obtain ⟨_,_,_,_,_,_⟩:=yc3 ag)|(go_at_call 17;(with_reducible refine (r12_Fair.calls k a1 _ _ ak true _ ?aK bF.out A8.out).mono ?_);(case aK=>exact ycb bE);rintro e w' ⟨rfl,⟨nd,rfl⟩⟩))
    go_meet
    case rel=>exact ⟨_,(((ac.length : Int) != a1)),yq,H',⟨yo⟩,⟨yk ag⟩,⟨yhb⟩⟩
   replace c9:=Bool.eq_false_iff.mpr c9
   subst c9
   rw [ynf] at H
   have H' := zm H
   clear H
   go_wp2_with (first|((with_reducible refine gate_callee (f:=23) rfl ?_);refine ygl 12 Try.func23 #[.int .i64 a0, .int .i64 a1] ?_;(with_reducible refine (r12_Right.calls a0 a1 true _ A6.out).mono ?_);rintro e w' ⟨rfl,⟨nd,rfl⟩⟩;refine ⟨_,rfl, ?_⟩;obtain ⟨_,_,_,_,_,_⟩:=yc3 ag)|(go_at_call 17;(with_reducible refine (r12_Fair.calls k a1 _ _ ak false _ ?aK bF.out A8.out).mono ?_);(case aK=>exact ycb bE);rintro e w' ⟨rfl,⟨nd,rfl⟩⟩))
   go_meet
   case rel=>exact ⟨_,(true),yq,H',⟨yo⟩,⟨yk ag⟩,⟨yhb⟩⟩
  replace c7:=Bool.eq_false_iff.mpr c7
  subst c7
  rw [ynf] at H
  have H' := zm H
  clear H
  go_wp2_with (first|((with_reducible refine gate_callee (f:=23) rfl ?_);refine ygl 12 Try.func23 #[.int .i64 a0, .int .i64 a1] ?_;(with_reducible refine (r12_Right.calls a0 a1 false _ A6.out).mono ?_);rintro e w' ⟨rfl,⟨nd,rfl⟩⟩;refine ⟨_,rfl, ?_⟩))
  go_meet
  case rel=>exact ⟨_,(true),yq,H',⟨yo⟩,⟨yk ag⟩,⟨yhb⟩⟩
 case rest =>
  clear HC4
  obtain ⟨kq,bz,rfl,HA,HJ3,ag,HB⟩:=hcut
  obtain ⟨kj3,rfl⟩:=ysu kq (fun h=>by subst h;exact absurd HA.out (by simp [r13_Right.j0]))
  have H:=HA.out;clear HA
  simp only [r13_Right.j0] at H
  by_cases c12 : bz=true
  ·
   subst c12
   rw [if_pos rfl] at H
   obtain rfl:=Option.some.inj H
   go_wp2
   go_ret
   exact ⟨ye,yhb⟩
  replace c12:=Bool.eq_false_iff.mpr c12
  subst c12
  rw [ynf] at H
  obtain ⟨aE,A13,H⟩:=ybi H
  have H' := zm H
  clear H
  obtain ⟨bM,bN,bO,bP,bQ,bR⟩:=yc3 ag
  go_wp2_with (first|((with_reducible refine gate_callee (f:=45) rfl ?_);refine ygl 32 Try.func45 #[.int .i64 a0, .int .i64 a1, .slice bf ak.length bg] ?_;(with_reducible refine (r12_Pulses.calls kj3 a0 a1 _ _ ak aE _ ?aK bF.out A13.out).mono ?_);(case aK=>exact ycb bE);rintro e w15 ⟨cq,rfl,ho0,hb⟩;refine ⟨_,rfl, ?_⟩;have cr:=zm (Kd.S_lower ho0 (zE yhb));replace ag:=ybb ag hb;replace HB:=ybs hb;(try clear hb);(try clear ho0)))
  go_loopg [8] kj3 (fun kq v8 w' => ∃ (aa : Int),v8=.int .i64 aa∧Aside0 (r13_Right.l0 kq a1 aE aa aI ak ac=some r)∧Aside0 (kq≤kj3)∧Aside0 (Kd.S (Kd.slice 3 (Kd.int .i64)) 49 w' w.heap.size (fun _=>True) cq aE)∧Aside0 (w'.heap[aC]? = some (.cells #[.bool aI,(.slice bf ak.length bg),(.slice bD ac.length bh)] 33 (0,0)))∧Aside0 (Below w.heap.size w w'))
  case atStart=>exact ⟨(0),yq,H',⟨Nat.le_refl _⟩,⟨yr cr⟩,⟨yk ag⟩,⟨yhb⟩⟩
  case round =>
   clear H'
   try clear bM
   try clear bN
   try clear bO
   try clear bP
   try clear bQ
   try clear bR
   obtain ⟨aa,rfl,HA,HK2,aw,ag,HB⟩:=hrel
   obtain ⟨k2,rfl⟩:=ysu gk (fun h=>by subst h;exact absurd HA.out (by simp [r13_Right.l0]))
   have H:=HA.out;clear HA
   simp only [r13_Right.l0] at H
   by_cases c16 : aa < a1
   ·
    rw [if_pos c16] at H
    have b7:=yD c16
    clear c16
    obtain ⟨c17,H⟩:=yif H
    have ct : decide (0≤aa)=true:=decide_eq_true c17
    clear c17
    obtain ⟨c18,H⟩:=yif H
    have cu : decide (aa < (ac.length : Int))=true:=decide_eq_true c18
    clear c18
    by_cases c19 : ((rd_L2 ac aa).length : Int)=5
    ·
     rw [if_pos c19] at H
     obtain ⟨b8,b9⟩:=yE c19
     clear c19
     have H' := zm H
     clear H
     obtain ⟨bS,bT,bU,bV,bW,bX⟩:=yc3 ag
     have bn : 0≤(aa : Int):=yt
     have bo : aa < (ac.length : Int):=yt
     obtain ⟨am,ce,cf,cg,aH,aM,aN⟩:=at_L2 a9.out aa bn bo
     cases cg
     replace aH:=yhx HB aH
     have bY:=zm aN;have bZ:=zm aM;clear aN aM
     replace bn:=eq_true bn
     replace bo:=eq_true bo
     go_wp2
     go_loopg [9] k2 (fun kq v9 w' => ∃ (ae : Int),v9=.int .i64 ae∧Aside0 (r13_Right.l1 kq a1 aE aa ae aI ak ac=some r)∧Aside0 (kq≤k2)∧Aside0 (Kd.S (Kd.slice 3 (Kd.int .i64)) 49 w' w.heap.size (fun _=>True) cq aE)∧Aside0 (w'.heap[aC]? = some (.cells #[.bool aI,(.slice bf ak.length bg),(.slice (some am) ac.length bh)] 33 (0,0)))∧Aside0 (Below w.heap.size w w'))
     case atStart=>exact ⟨(0),yq,H',⟨Nat.le_refl _⟩,⟨yr aw⟩,⟨yk ag⟩,⟨yhb⟩⟩
     case round =>
      clear H'
      try clear b7
      try clear ct
      try clear cu
      try clear b8
      try clear b9
      try clear bS
      try clear bT
      try clear bU
      try clear bV
      try clear bW
      try clear bX
      try clear aH
      try clear bn
      try clear bo
      obtain ⟨ae,rfl,HA,HK3,aw,ag,HB⟩:=hrel
      obtain ⟨k3,rfl⟩:=ysu gk (fun h=>by subst h;exact absurd HA.out (by simp [r13_Right.l1]))
      have H:=HA.out;clear HA
      simp only [r13_Right.l1] at H
      by_cases c21 : ae < 5
      ·
       rw [if_pos c21] at H
       have cv:=yD c21
       clear c21
       obtain ⟨c22,H⟩:=yif H
       have cI : decide (0≤aa)=true:=decide_eq_true c22
       clear c22
       obtain ⟨c23,H⟩:=yif H
       have cJ : decide (aa < (ac.length : Int))=true:=decide_eq_true c23
       clear c23
       obtain ⟨c24,H⟩:=yif H
       have cK : decide (0≤ae)=true:=decide_eq_true c24
       clear c24
       obtain ⟨c25,H⟩:=yif H
       have cL : decide (ae < ((rd_L2 ac aa).length : Int))=true:=decide_eq_true c25
       clear c25
       obtain ⟨bB,A26,H⟩:=ybi H
       by_cases c27 : ((rd_L1 (rd_L2 ac aa) ae).length : Int)=bB
       ·
        rw [if_pos c27] at H
        obtain ⟨cw,cx⟩:=yE c27
        clear c27
        obtain ⟨bC,A28,H⟩:=ybi H
        obtain ⟨c29,H⟩:=yif H
        have cM : decide (aa < (aE.length : Int))=true:=decide_eq_true c29
        clear c29
        obtain ⟨c30,H⟩:=yif H
        have cN : decide (ae < ((rd_L1 aE aa).length : Int))=true:=decide_eq_true c30
        clear c30
        by_cases c31 : bC=(rd (rd_L1 aE aa) ae)
        ·
         rw [if_pos c31] at H
         obtain ⟨cy,cz⟩:=yE c31
         clear c31
         have H' := zm H
         clear H
         try go_wp2
         replace aw:=zm (Kd.S_drew aw.out)
         replace ag:=zm (zj ag.out)
         replace HB:=zm (zf HB.out)
         have ba : 0≤(aa : Int):=yt
         have bb : aa < (ac.length : Int):=yt
         obtain ⟨bp,bG,aJ,bH,af,ao,ap⟩:=at_L2 a9.out aa ba bb
         have hw741_0:=af
         obtain rfl : am=bp:=(by injection bH)
         replace af:=yhx HB af
         have aq:=zm ap;have bA:=zm ao;clear ap ao
         replace ba:=eq_true ba
         replace bb:=eq_true bb
         have bc : 0≤(ae : Int):=yt
         have bd : ae < ((rd_L2 ac aa).length : Int):=yt
         obtain ⟨aD,ay,az,bI,ah,au,av⟩:=at_L1 aq.out ae bc bd
         have hw742_0:=ah
         cases bI
         replace ah:=yhx HB ah
         have aA:=zm av;have a8:=zm au;clear av au
         replace bc:=eq_true bc
         replace bd:=eq_true bd
         have br : 0≤(aa : Int):=yt
         have bs : aa < (ac.length : Int):=yt
         obtain ⟨bJ,ch,ci,cj,aj,aQ,aT⟩:=at_L2 a9.out aa br bs
         have hw744_0:=aj
         obtain rfl : am=bJ:=(by injection cj)
         replace aj:=yhx HB aj
         have aU:=zm aT;have b4:=zm aQ;clear aT aQ
         replace br:=eq_true br
         replace bs:=eq_true bs
         have ea_:=Option.some.inj (af.symm.trans aj)
         injection ea_ with ea_ en_ ec_
         subst ea_;subst ec_;clear en_
         have bv : 0≤(ae : Int):=yt
         have bw : ae < ((rd_L2 ac aa).length : Int):=yt
         obtain ⟨cA,ck,cl,cm,al,aV,aW⟩:=at_L1 aU.out ae bv bw
         have hw745_0:=al
         cases cm
         replace al:=yhx HB al
         have bi:=zm aW;have b5:=zm aV;clear aW aV
         replace bv:=eq_true bv
         replace bw:=eq_true bw
         have bj : 0≤(aa : Int):=yt
         have bk : aa < (aE.length : Int):=yt
         obtain ⟨cO,cP,cB⟩:=Kd.S_slice aw.out
         (first|subst cB|(injection cB with f1_ f2_ f3_;have f4_:=f1_.symm;have f5_:=f3_.symm;clear f1_ f2_ f3_;subst f4_;subst f5_))
         obtain ⟨bK,cn,bx,co,aX,aY,aZ⟩:=at_L1 (Kd.S_reads' aw.out).2.2 aa bj bk
         cases co
         obtain ⟨ce747,hce747,hMe747,hcc747⟩:=Kd.S_get aw.out [] aa bj (by first|exact bk|exact yt|(have e_:=(Kd.S_reads' aw.out).1;omega))
         obtain ⟨ve747_0,rfl,ge747_0⟩:=hMe747
         have hv747_0:=hcc747 0 _ rfl
         rw [Nat.add_zero,show ((Kd.slice 3 (Kd.int .i64))).sz=1 from rfl,Nat.mul_one] at hv747_0
         replace hv747_0:=Option.some.inj (hv747_0.symm.trans aX)
         rw [hv747_0] at ge747_0
         have bl:=zm (show Kd.R (Kd.int .i64) 3 _ _ _ _ (rd_L1 aE aa) from ge747_0)
         clear hv747_0 ge747_0 hcc747 hce747;have a7:=zm aZ;have b6:=zm aY;clear aZ aY
         replace bj:=eq_true bj
         replace bk:=eq_true bk
         obtain ⟨bq,cp,bm,cD,cE⟩:=yai a7 ae
         cases cp
         refine yst (fun w' => w'.cell? ⟨aC,0,none⟩=some (.bool aI)∧w'.cell? ⟨aC,1,none⟩=some (.slice bf ak.length bg)∧w'.cell? ⟨aC,2,none⟩=some (.slice (some am) ac.length bh)∧w'.cell? (am.add (aa).toNat)=some (.slice (some aD) (rd_L2 ac aa).length aJ)∧w'.cell? (aD.add (ae).toNat)=some (.slice ay (rd_L1 (rd_L2 ac aa) ae).length az)∧w'.cell? (am.add (aa).toNat)=some (.slice (some aD) (rd_L2 ac aa).length aJ)∧w'.cell? (aD.add (ae).toNat)=some (.slice ay (rd_L1 (rd_L2 ac aa) ae).length az)∧w'.cell? (bK.add (aa).toNat)=some (.slice (some bq) (rd_L1 aE aa).length bx)∧w'.cell? (bq.add (ae).toNat)=some (.int .i64 (rd (rd_L1 aE aa) ae))) [] 31 r13_Right.tab12 r13_Right.bits12 (fun hHeld HT_ HW_ => ?_)
         generalize wr.drew=w32 at aw ag HB bl aq aA aU bi a7 af ah aj al aX bm hHeld ⊢
         refine yp 0 49 HT_ ?_
         refine yp 2 51 HT_ ?_
         refine yp 5 54 HT_ ?_
         refine yp 9 58 HT_ ?_
         refine yl 1 50 HT_ HW_ hHeld ?_
         refine yp 3 52 HT_ ?_
         refine yl 4 53 HT_ HW_ hHeld ?_
         refine yp 6 55 HT_ ?_
         refine yl 7 56 HT_ HW_ hHeld ?_
         refine yp 8 57 HT_ ?_
         refine yw 10 59 HT_ (fun K hK => ?_)
         refine ygs Try.func46 #[.int .i64 ae] ?_
         with_reducible refine (r10_Width.calls k3 ae bB _ A26.out).mono ?_
         rintro e w' ⟨rfl,⟨nd,rfl⟩⟩
         refine ⟨_,rfl, ?_⟩
         refine hK.out _ _ yH (fun hHeld => ?_)
         clear hK K
         refine ym (some 59) ?_
         refine yp 11 60 HT_ ?_
         refine yp 12 61 HT_ ?_
         refine yp 13 62 HT_ ?_
         refine yp 15 64 HT_ ?_
         refine yp 18 67 HT_ ?_
         refine yp 22 71 HT_ ?_
         refine yp 23 72 HT_ ?_
         refine yp 24 73 HT_ ?_
         refine yp 26 75 HT_ ?_
         refine yl 14 63 HT_ HW_ hHeld ?_
         refine yp 16 65 HT_ ?_
         refine yl 17 66 HT_ HW_ hHeld ?_
         refine yp 19 68 HT_ ?_
         refine yl 20 69 HT_ HW_ hHeld ?_
         refine yl 25 74 HT_ HW_ hHeld ?_
         refine yp 27 76 HT_ ?_
         refine yl 28 77 HT_ HW_ hHeld ?_
         refine yw 21 70 HT_ (fun K hK => ?_)
         refine ygs Try.func40 #[.slice ay (rd_L1 (rd_L2 ac aa) ae).length az] ?_
         with_reducible refine (r06_Pulses.calls k3 _ _ (rd_L1 (rd_L2 ac aa) ae) bC _ ?aK ?bL A28.out).mono ?_
         (case aK=>exact ycb aA)
         (case bL=>exact a8.out)
         rintro e w' ⟨rfl,⟨nd,rfl⟩⟩
         refine ⟨_,rfl, ?_⟩
         refine hK.out _ _ yH (fun hHeld => ?_)
         clear hK K
         refine ym (some 70) ?_
         refine yp 29 78 HT_ ?_
         refine yp 30 79 HT_ ?_
         refine done_ (done_of HT_.out (by kernel_rfl)) ?_
         try go_wp2
         go_roundg k3
         case measure=>exact yom3 HJ3 HK2 HK3
         case rel=>exact ⟨(wrap64 (ae+1)),yq,H',⟨yom3 HJ3 HK2 HK3⟩,⟨yr aw⟩,⟨yk ag⟩,⟨yhb⟩⟩
        rw [if_neg c31] at H
        obtain ⟨cy,cz⟩:=yF c31
        obtain rfl:=Option.some.inj H
        try go_wp2
        replace aw:=zm (Kd.S_drew aw.out)
        replace ag:=zm (zj ag.out)
        replace HB:=zm (zf HB.out)
        have ba : 0≤(aa : Int):=yt
        have bb : aa < (ac.length : Int):=yt
        obtain ⟨bp,bG,aJ,bH,af,ao,ap⟩:=at_L2 a9.out aa ba bb
        have hw741_0:=af
        obtain rfl : am=bp:=(by injection bH)
        replace af:=yhx HB af
        have aq:=zm ap;have bA:=zm ao;clear ap ao
        replace ba:=eq_true ba
        replace bb:=eq_true bb
        have bc : 0≤(ae : Int):=yt
        have bd : ae < ((rd_L2 ac aa).length : Int):=yt
        obtain ⟨aD,ay,az,bI,ah,au,av⟩:=at_L1 aq.out ae bc bd
        have hw742_0:=ah
        cases bI
        replace ah:=yhx HB ah
        have aA:=zm av;have a8:=zm au;clear av au
        replace bc:=eq_true bc
        replace bd:=eq_true bd
        have br : 0≤(aa : Int):=yt
        have bs : aa < (ac.length : Int):=yt
        obtain ⟨bJ,ch,ci,cj,aj,aQ,aT⟩:=at_L2 a9.out aa br bs
        have hw744_0:=aj
        obtain rfl : am=bJ:=(by injection cj)
        replace aj:=yhx HB aj
        have aU:=zm aT;have b4:=zm aQ;clear aT aQ
        replace br:=eq_true br
        replace bs:=eq_true bs
        have ea_:=Option.some.inj (af.symm.trans aj)
        injection ea_ with ea_ en_ ec_
        subst ea_;subst ec_;clear en_
        have bv : 0≤(ae : Int):=yt
        have bw : ae < ((rd_L2 ac aa).length : Int):=yt
        obtain ⟨cA,ck,cl,cm,al,aV,aW⟩:=at_L1 aU.out ae bv bw
        have hw745_0:=al
        cases cm
        replace al:=yhx HB al
        have bi:=zm aW;have b5:=zm aV;clear aW aV
        replace bv:=eq_true bv
        replace bw:=eq_true bw
        have bj : 0≤(aa : Int):=yt
        have bk : aa < (aE.length : Int):=yt
        obtain ⟨cQ,cR,cC⟩:=Kd.S_slice aw.out
        (first|subst cC|(injection cC with f1_ f2_ f3_;have f4_:=f1_.symm;have f5_:=f3_.symm;clear f1_ f2_ f3_;subst f4_;subst f5_))
        obtain ⟨bK,cn,bx,co,aX,aY,aZ⟩:=at_L1 (Kd.S_reads' aw.out).2.2 aa bj bk
        cases co
        obtain ⟨ce747,hce747,hMe747,hcc747⟩:=Kd.S_get aw.out [] aa bj (by first|exact bk|exact yt|(have e_:=(Kd.S_reads' aw.out).1;omega))
        obtain ⟨ve747_0,rfl,ge747_0⟩:=hMe747
        have hv747_0:=hcc747 0 _ rfl
        rw [Nat.add_zero,show ((Kd.slice 3 (Kd.int .i64))).sz=1 from rfl,Nat.mul_one] at hv747_0
        replace hv747_0:=Option.some.inj (hv747_0.symm.trans aX)
        rw [hv747_0] at ge747_0
        have bl:=zm (show Kd.R (Kd.int .i64) 3 _ _ _ _ (rd_L1 aE aa) from ge747_0)
        clear hv747_0 ge747_0 hcc747 hce747;have a7:=zm aZ;have b6:=zm aY;clear aZ aY
        replace bj:=eq_true bj
        replace bk:=eq_true bk
        obtain ⟨bq,cp,bm,cD,cE⟩:=yai a7 ae
        cases cp
        refine yst (fun w' => w'.cell? ⟨aC,0,none⟩=some (.bool aI)∧w'.cell? ⟨aC,1,none⟩=some (.slice bf ak.length bg)∧w'.cell? ⟨aC,2,none⟩=some (.slice (some am) ac.length bh)∧w'.cell? (am.add (aa).toNat)=some (.slice (some aD) (rd_L2 ac aa).length aJ)∧w'.cell? (aD.add (ae).toNat)=some (.slice ay (rd_L1 (rd_L2 ac aa) ae).length az)∧w'.cell? (am.add (aa).toNat)=some (.slice (some aD) (rd_L2 ac aa).length aJ)∧w'.cell? (aD.add (ae).toNat)=some (.slice ay (rd_L1 (rd_L2 ac aa) ae).length az)∧w'.cell? (bK.add (aa).toNat)=some (.slice (some bq) (rd_L1 aE aa).length bx)∧w'.cell? (bq.add (ae).toNat)=some (.int .i64 (rd (rd_L1 aE aa) ae))) [] 31 r13_Right.tab12 r13_Right.bits12 (fun hHeld HT_ HW_ => ?_)
        generalize wr.drew=w34 at aw ag HB bl aq aA aU bi a7 af ah aj al aX bm hHeld ⊢
        refine yp 0 49 HT_ ?_
        refine yp 2 51 HT_ ?_
        refine yp 5 54 HT_ ?_
        refine yp 9 58 HT_ ?_
        refine yl 1 50 HT_ HW_ hHeld ?_
        refine yp 3 52 HT_ ?_
        refine yl 4 53 HT_ HW_ hHeld ?_
        refine yp 6 55 HT_ ?_
        refine yl 7 56 HT_ HW_ hHeld ?_
        refine yp 8 57 HT_ ?_
        refine yw 10 59 HT_ (fun K hK => ?_)
        refine ygs Try.func46 #[.int .i64 ae] ?_
        with_reducible refine (r10_Width.calls k3 ae bB _ A26.out).mono ?_
        rintro e w' ⟨rfl,⟨nd,rfl⟩⟩
        refine ⟨_,rfl, ?_⟩
        refine hK.out _ _ yH (fun hHeld => ?_)
        clear hK K
        refine ym (some 59) ?_
        refine yp 11 60 HT_ ?_
        refine yp 12 61 HT_ ?_
        refine yp 13 62 HT_ ?_
        refine yp 15 64 HT_ ?_
        refine yp 18 67 HT_ ?_
        refine yp 22 71 HT_ ?_
        refine yp 23 72 HT_ ?_
        refine yp 24 73 HT_ ?_
        refine yp 26 75 HT_ ?_
        refine yl 14 63 HT_ HW_ hHeld ?_
        refine yp 16 65 HT_ ?_
        refine yl 17 66 HT_ HW_ hHeld ?_
        refine yp 19 68 HT_ ?_
        refine yl 20 69 HT_ HW_ hHeld ?_
        refine yl 25 74 HT_ HW_ hHeld ?_
        refine yp 27 76 HT_ ?_
        refine yl 28 77 HT_ HW_ hHeld ?_
        refine yw 21 70 HT_ (fun K hK => ?_)
        refine ygs Try.func40 #[.slice ay (rd_L1 (rd_L2 ac aa) ae).length az] ?_
        with_reducible refine (r06_Pulses.calls k3 _ _ (rd_L1 (rd_L2 ac aa) ae) bC _ ?aK ?bL A28.out).mono ?_
        (case aK=>exact ycb aA)
        (case bL=>exact a8.out)
        rintro e w' ⟨rfl,⟨nd,rfl⟩⟩
        refine ⟨_,rfl, ?_⟩
        refine hK.out _ _ yH (fun hHeld => ?_)
        clear hK K
        refine ym (some 70) ?_
        refine yp 29 78 HT_ ?_
        refine yp 30 79 HT_ ?_
        refine done_ (done_of HT_.out (by kernel_rfl)) ?_
        try go_wp2
        go_ret
        exact ⟨ye,yhb⟩
       rw [if_neg c27] at H
       obtain ⟨cw,cx⟩:=yF c27
       obtain rfl:=Option.some.inj H
       try go_wp2
       replace aw:=zm (Kd.S_drew aw.out)
       replace ag:=zm (zj ag.out)
       replace HB:=zm (zf HB.out)
       have ba : 0≤(aa : Int):=yt
       have bb : aa < (ac.length : Int):=yt
       obtain ⟨bp,bG,aJ,bH,af,ao,ap⟩:=at_L2 a9.out aa ba bb
       have hw741_0:=af
       obtain rfl : am=bp:=(by injection bH)
       replace af:=yhx HB af
       have aq:=zm ap;have bA:=zm ao;clear ap ao
       replace ba:=eq_true ba
       replace bb:=eq_true bb
       have bc : 0≤(ae : Int):=yt
       have bd : ae < ((rd_L2 ac aa).length : Int):=yt
       obtain ⟨aD,ay,az,bI,ah,au,av⟩:=at_L1 aq.out ae bc bd
       have hw742_0:=ah
       cases bI
       replace ah:=yhx HB ah
       have aA:=zm av;have a8:=zm au;clear av au
       replace bc:=eq_true bc
       replace bd:=eq_true bd
       refine yst (fun w' => w'.cell? ⟨aC,0,none⟩=some (.bool aI)∧w'.cell? ⟨aC,1,none⟩=some (.slice bf ak.length bg)∧w'.cell? ⟨aC,2,none⟩=some (.slice (some am) ac.length bh)∧w'.cell? (am.add (aa).toNat)=some (.slice (some aD) (rd_L2 ac aa).length aJ)∧w'.cell? (aD.add (ae).toNat)=some (.slice ay (rd_L1 (rd_L2 ac aa) ae).length az)) [] 31 r13_Right.tab12 r13_Right.bits12 (fun hHeld HT_ HW_ => ?_)
       generalize wr.drew=w36 at aw ag HB aq aA af ah hHeld ⊢
       refine yp 0 49 HT_ ?_
       refine yp 2 51 HT_ ?_
       refine yp 5 54 HT_ ?_
       refine yp 9 58 HT_ ?_
       refine yl 1 50 HT_ HW_ hHeld ?_
       refine yp 3 52 HT_ ?_
       refine yl 4 53 HT_ HW_ hHeld ?_
       refine yp 6 55 HT_ ?_
       refine yl 7 56 HT_ HW_ hHeld ?_
       refine yp 8 57 HT_ ?_
       refine yw 10 59 HT_ (fun K hK => ?_)
       refine ygs Try.func46 #[.int .i64 ae] ?_
       with_reducible refine (r10_Width.calls k3 ae bB _ A26.out).mono ?_
       rintro e w' ⟨rfl,⟨nd,rfl⟩⟩
       refine ⟨_,rfl, ?_⟩
       refine hK.out _ _ yH (fun hHeld => ?_)
       clear hK K
       refine ym (some 59) ?_
       refine yp 11 60 HT_ ?_
       refine yp 12 61 HT_ ?_
       refine yu 13 62 HT_ ?_
       refine yu 14 63 HT_ ?_
       refine yu 15 64 HT_ ?_
       refine yu 16 65 HT_ ?_
       refine yu 17 66 HT_ ?_
       refine yu 18 67 HT_ ?_
       refine yu 19 68 HT_ ?_
       refine yu 20 69 HT_ ?_
       refine yu 21 70 HT_ ?_
       refine yu 22 71 HT_ ?_
       refine yu 23 72 HT_ ?_
       refine yu 24 73 HT_ ?_
       refine yu 25 74 HT_ ?_
       refine yu 26 75 HT_ ?_
       refine yu 27 76 HT_ ?_
       refine yu 28 77 HT_ ?_
       refine yu 29 78 HT_ ?_
       refine yp 30 79 HT_ ?_
       refine done_ (done_of HT_.out (by kernel_rfl)) ?_
       try go_wp2
       go_ret
       exact ⟨ye,yhb⟩
      rw [if_neg c21] at H
      have cv:=yG c21
      clear c21
      have H' := zm H
      clear H
      go_wp2
      go_roundg k3
      case measure=>exact yom3 HJ3 HK2 HK3
      case rel=>exact ⟨(wrap64 (aa+1)),yq,H',⟨yom3 HJ3 HK2 HK3⟩,⟨yr aw⟩,⟨yk ag⟩,⟨yhb⟩⟩
    rw [if_neg c19] at H
    obtain ⟨b8,b9⟩:=yF c19
    obtain rfl:=Option.some.inj H
    obtain ⟨_,_,_,_,_,_⟩:=yc3 ag
    have bn : 0≤(aa : Int):=yt
    have bo : aa < (ac.length : Int):=yt
    obtain ⟨am,ce,cf,cg,aH,aM,aN⟩:=at_L2 a9.out aa bn bo
    cases cg
    replace aH:=yhx HB aH
    have bY:=zm aN;have bZ:=zm aM;clear aN aM
    replace bn:=eq_true bn
    replace bo:=eq_true bo
    go_wp2
    go_ret
    exact ⟨ye,yhb⟩
   rw [if_neg c16] at H
   have b7:=yG c16
   clear c16
   obtain rfl:=Option.some.inj H
   go_wp2
   go_ret
   exact ⟨ye,yhb⟩
def r05_Fair.f (a0 : Int) (a1 : Int) (a2 : Int) : Option (Bool):=if a0 ≥ 0 then (if a1 > a0 then (if a2 ≥ a1 then (some (decide (a2≤65536))) else (some false)) else (some false)) else (some false)
set_option maxHeartbeats 8000000 in
set_option maxRecDepth 100000 in
theorem r05_Fair.calls (a0 : Int) (a1 : Int) (a2 : Int) (r : Bool) (w : World) (h : r05_Fair.f a0 a1 a2=some r) :
  Calls Try.prog 77 #[.int .i64 a0, .int .i64 a1, .int .i64 a2] w fun e w' => e=.returned (.bool r)∧Drawn0 w w' := by
 have H:=h
 unfold r05_Fair.f at H
 clear h
 by_cases c4 : a0 ≥ 0
 ·
  rw [if_pos c4] at H
  have aa:=yDl c4
  clear c4
  by_cases c5 : a1 > a0
  ·
   rw [if_pos c5] at H
   have ac:=yDs c5
   clear c5
   by_cases c6 : a2 ≥ a1
   ·
    rw [if_pos c6] at H
    have ae:=yDl c6
    clear c6
    obtain rfl:=Option.some.inj H
    go_enter Try.func77,Try.ntmps77
    go_wp2
    go_ret
    exact ⟨yq,yd⟩
   rw [if_neg c6] at H
   have ae:=yGl c6
   clear c6
   obtain rfl:=Option.some.inj H
   go_enter Try.func77,Try.ntmps77
   go_wp2
   go_ret
   exact ⟨yq,yd⟩
  rw [if_neg c5] at H
  have ac:=yGs c5
  clear c5
  obtain rfl:=Option.some.inj H
  go_enter Try.func77,Try.ntmps77
  go_wp2
  go_ret
  exact ⟨yq,yd⟩
 rw [if_neg c4] at H
 have aa:=yGl c4
 clear c4
 obtain rfl:=Option.some.inj H
 go_enter Try.func77,Try.ntmps77
 go_wp2
 go_ret
 exact ⟨yq,yd⟩
def r05_add.l0 : Nat→Int→List Int→Int→Option (List Int)
 | 0,_,_,_=>none
 | k+1,x1,x5,x6=>if x6 ≥ 0 then (if 0≤x6 then (if x6 < (x5.length : Int) then (r05_add.l0 k (IntKind.u64.wrap (Int.tdiv (IntKind.u64.wrap (x1+(IntKind.u64.wrap (rd x5 x6)))) 256)) (x5.set (x6 : Int).toNat (wrap64 (Int.tmod (IntKind.u64.wrap (x1+(IntKind.u64.wrap (rd x5 x6)))) 256))) (wrap64 (x6 - 1))) else (none)) else (none)) else (some x5)
def r05_add.f (k : Nat) (l0 : List Int) (a1 : Int) : Option (List Int):=(some (([] : List Int) : List Int)).bind fun ah=>(if ah.length+l0.length < 17592186044416 then ((some (ah ++ l0 : List Int)).bind fun ae=>(r05_add.l0 k a1 ae (wrap64 ((ae.length : Int) - 1)))) else (none))
theorem r05_add.mono_l : ∀ k,(∀ y0 y1 y2,LeO (r05_add.l0 k y0 y1 y2) (r05_add.l0 (k+1) y0 y1 y2))
 | 0=>fun _ _ _ r h=>by simp [r05_add.l0] at h
 | k+1=>by
  have ih0:=r05_add.mono_l k
  ·
   intro y0 y1 y2
   unfold r05_add.l0
   repeat' with_reducible first|apply ih0|apply yLr|apply yLn|apply yLi|apply yLb|intro _
theorem r05_add.mono : ∀ a0 a1 k,LeO (r05_add.f k a0 a1) (r05_add.f (k+1) a0 a1):=by
 intro a0 a1 k
 have ih0:=r05_add.mono_l k
 unfold r05_add.f
 repeat' with_reducible first|apply ih0|apply yLr|apply yLn|apply yLi|apply yLb|intro _
set_option maxHeartbeats 8000000 in
set_option maxRecDepth 100000 in
theorem r05_add.calls (k : Nat) (A0 : Option Addr) (c0 : Nat) (l0 : List Int) (a1 : Int) (r : List Int) (w : World) (hr0 : Kd.C (Kd.int .i64) w A0 l0.length l0) (hc0 : l0.length≤c0) (h : r05_add.f k l0 a1=some r) :
  Calls Try.prog 79 #[.slice A0 l0.length c0, .int .u64 a1] w fun e w' => ∃ v0_ : Value,e=.returned (v0_)∧Kd.R (Kd.int .i64) 3 w' w.heap.size (fun _=>True) v0_ r∧Below w.heap.size w w' := by
 have HR0:=zm hr0;have HC0:=zm hc0;clear hr0 hc0;have HB:=zm (Below.refl w.heap.size w);have H:=h
 unfold r05_add.f at H
 clear h
 obtain ⟨ah,aj⟩ : ∃ y_ : List Int,y_=(([] : List Int)):=⟨_,rfl⟩
 replace H : (if ah.length+l0.length < 17592186044416 then ((some (ah ++ l0 : List Int)).bind fun ae=>(r05_add.l0 k a1 ae (wrap64 ((ae.length : Int) - 1)))) else (none))=some r:=yrw aj H
 have ao:=zm aj;clear aj
 obtain ⟨c3,H⟩:=yif H
 have LMc3:=zm c3;clear c3
 obtain ⟨ae,ak⟩ : ∃ y_ : List Int,y_=(ah ++ l0):=⟨_,rfl⟩
 replace H : (r05_add.l0 k a1 ae (wrap64 ((ae.length : Int) - 1)))=some r:=yrw ak H
 have az:=zm ak;clear ak
 have H' := zm H
 clear H
 go_enter Try.func79,Try.ntmps79
 go_wp2_with (first|((with_reducible refine gate_dst (N:=7) rfl ?_);refine Kd.R_lit (Kd.int .i64) _ 3 ?hg (N:=7) ?hd (xs:=([] : List Int)) (inner := []) (ok:=fun _=>True) (okp:=fun _=>True) ?hr ?hp (fun _ hk=>hk) trivial (Below.refl _ _) (Nat.le_refl _) (by simp) ?_;(case hd=>rfl);(case hg=>rfl);(case hr=>first|(go_simp;done)|(go_simp;rfl));(case hp=>exact (Reps.none _ _));intro aG w4 ho5 hb hg_ hnew_;clear hg_ hnew_;(first|rw [← ao.out] at ho5|(simp only [Int.reduceToNat] at ho5;rw [← ao.out] at ho5));have ap:=zm (Kd.R_lower ho5 (zE yhb));replace HB:=ybs hb;clear hb ho5)|((with_reducible refine gate_builtin (b:=.append) (xs := #[.tmp 7, .tmp 8]) rfl ?_);at_builtin;refine Kd.R_append_rows (Kd.int .i64) (w0:=w) w.heap.size rfl (.tmp 7) (.tmp 8) 49 3 (.int .i64 0) 8 rfl Try.underlying49 info3 rfl (by decide) (by omega) aG ah l0 _ _ _ (fun _=>True) (fun _=>False) rfl rfl ?aO ?aR (fun _ _ h=>h) (fun _ h=>h.elim) ?aF ?aB ?aS ?aL ?_;(case aR=>exact ycb HR0);(case aB=>exact yhb);(case aF=>exact (fun _ _=>trivial));(case aO=>exact (yr ap));(case aS=>exact (zE yhb));(case aL=>have:=LMc3.out;omega);intro aU w6 ho hb hg hat;rw [← az.out] at ho;replace HB:=zm (hb);have aq:=zm (ho);clear ap;clear ho hb hg hat;obtain ⟨Ao7,co7,eo7⟩:=Kd.R_slice aq.out;subst eo7))
 go_loopg [1,6] k (fun kq v1 v6 w' => ∃ (ag : Int) (ac : List Int) (aa : Int),v1=.int .u64 ag∧v6=.int .i64 aa∧Aside0 (r05_add.l0 kq ag ac aa=some r)∧Aside0 (kq≤k)∧Aside0 (Kd.R (Kd.int .i64) 3 w' w.heap.size (fun _=>True) (.slice Ao7 ae.length co7) ac)∧Aside0 (Below w.heap.size w w'))
 case atStart=>exact ⟨(a1),(ae),(wrap64 ((ae.length : Int) - 1)),yq,yq,H',⟨Nat.le_refl _⟩,⟨yr aq⟩,⟨yhb⟩⟩
 case round =>
  clear H'
  obtain ⟨ag,ac,aa,rfl,rfl,HA,HK1,af,HB⟩:=hrel
  have ai:=(Kd.R_reads' af.out).1
  rw [ai] at af
  (try simp only [ai])
  obtain ⟨k1,rfl⟩:=ysu gk (fun h=>by subst h;exact absurd HA.out (by simp [r05_add.l0]))
  have H:=HA.out;clear HA
  simp only [r05_add.l0] at H
  by_cases c8 : aa ≥ 0
  ·
   rw [if_pos c8] at H
   have aH:=yDl c8
   clear c8
   obtain ⟨c9,H⟩:=yif H
   have aV : decide (0≤aa)=true:=decide_eq_true c9
   clear c9
   obtain ⟨c10,H⟩:=yif H
   have aQ : decide (aa < (ac.length : Int))=true:=decide_eq_true c10
   clear c10
   obtain ⟨au,al⟩ : ∃ y_ : List Int,y_=(ac.set (aa : Int).toNat (wrap64 (Int.tmod (IntKind.u64.wrap (ag+(IntKind.u64.wrap (rd ac aa)))) 256))):=⟨_,rfl⟩
   replace H : (r05_add.l0 k1 (IntKind.u64.wrap (Int.tdiv (IntKind.u64.wrap (ag+(IntKind.u64.wrap (rd ac aa)))) 256)) au (wrap64 (aa - 1)))=some r:=yrw al H
   have aA:=zm al;clear al
   have H' := zm H
   clear H
   have av : 0≤(aa : Int):=yt
   have aw : aa < (ac.length : Int):=yt
   obtain ⟨aT,aI,am⟩:=Kd.at_int (Kd.R_reads' af.out).2.2 aa av aw
   cases aI
   replace av:=eq_true av
   replace aw:=eq_true aw
   have p11 : 0≤(aa : Int):=yt
   have q11 : (aa : Int) < ((ac.length : Int) : Int):=yt
   obtain ⟨ax,aW,aC,aD,aJ,aX,aE⟩:=Kd.R_form af.out (by omega)
   (first|cases aC|(injection aC with ea_ en_ ec_;(first|subst ea_|(injection ea_ with ea_;subst ea_));subst ec_;clear en_))
   have aK:=zm aD;have aY:=zm aE;clear aD aJ aE
   (first|simp only [add_plain] at am|skip)
   obtain ⟨aM,aN⟩:=Kd.R_celln 0 af.out (aa : Int) p11 q11
   replace p11:=eq_true p11
   replace q11:=eq_true q11
   have ay:=Kd.R_putg af.out (aa : Int) (wrap64 (Int.tmod (IntKind.u64.wrap (ag+(IntKind.u64.wrap (rd ac aa)))) 256))
   go_wp2_with (first|((with_reducible refine gate_store (t:=3) (p:=29) rfl ?_);refine store_event (t:=3) (p:=29) (v := ?vo_w13) (w1:=(wr.setCell ⟨ax,(aa : Int).toNat,none⟩ (.int .i64 (wrap64 (Int.tmod (IntKind.u64.wrap (ag+(IntKind.u64.wrap (rd ac aa)))) 256))))) ?hg ?ho ?hn ?hr ?_;(case ho=>rfl);(case hg=>rfl);(case hn=>rfl);(case hr=>first|(go_simp;done)|(go_simp;rfl));intro w13 hw;have hg : wr.grownBy w13 (some ax):=(by rw [hw];exact ay.2);have hp_ : Kd.R (Kd.int .i64) 3 w13 w.heap.size (fun _=>True) (.slice (some ⟨ax,0,none⟩) ac.length co7) au:=(by rw [hw,aA.out];exact ay.1);clear ay;replace af:=zm (hp_);replace HB:=zm ((by rw [hw];exact zk (HB.out) aK.out : Below w.heap.size w w13));clear hg hw hp_))
   (try simp only [← ai])
   go_roundg k1
   case measure=>exact yom1 HK1
   case rel=>exact ⟨(IntKind.u64.wrap (Int.tdiv (IntKind.u64.wrap (ag+(IntKind.u64.wrap (rd ac aa)))) 256)),(au),(wrap64 (aa - 1)),yq,yq,H',⟨yom1 HK1⟩,⟨by (try simp only [ai]);(with_reducible repeat (first|apply zo|apply zp|apply zq));exact af.out⟩,⟨yhb⟩⟩
  rw [if_neg c8] at H
  have aH:=yGl c8
  clear c8
  obtain rfl:=Option.some.inj H
  go_wp2
  go_ret
  exact ⟨_,ye,yr af,yhb⟩
def r05_part.f (a0 : Int) (a1 : Int) (a2 : Int) (a3 : Int) : Option (Int × Int):=if (IntKind.u64.wrap (a3))=0 then (none) else (if a2=a3 then (some (IntKind.u64.wrap (a0 - (IntKind.u64.wrap ((IntKind.u64.wrap (Int.tdiv a0 (IntKind.u64.wrap (a3)))) * (IntKind.u64.wrap (a1))))),IntKind.u64.wrap ((IntKind.u64.wrap (Int.tdiv a0 (IntKind.u64.wrap (a3)))) * (IntKind.u64.wrap (a1))))) else (some (IntKind.u64.wrap ((IntKind.u64.wrap (Int.tdiv a0 (IntKind.u64.wrap (a3)))) * (IntKind.u64.wrap (wrap64 (a2 - a1)))),IntKind.u64.wrap ((IntKind.u64.wrap (Int.tdiv a0 (IntKind.u64.wrap (a3)))) * (IntKind.u64.wrap (a1))))))
set_option maxHeartbeats 8000000 in
set_option maxRecDepth 100000 in
theorem r05_part.calls (a0 : Int) (a1 : Int) (a2 : Int) (a3 : Int) (r1 : Int) (r2 : Int) (w : World) (h : r05_part.f a0 a1 a2 a3=some (r1,r2)) :
  Calls Try.prog 78 #[.int .u64 a0, .int .i64 a1, .int .i64 a2, .int .i64 a3] w fun e w' => e=.returned (.tuple #[.int .u64 r1, .int .u64 r2])∧Drawn0 w w' := by
 have H:=h
 unfold r05_part.f at H
 clear h
 obtain ⟨c5,H⟩:=yie H
 obtain ⟨ae,af⟩:=yF c5
 by_cases c6 : a2=a3
 ·
  rw [if_pos c6] at H
  obtain ⟨aa,ac⟩:=yE c6
  clear c6
  simp only [Option.some.injEq,Prod.mk.injEq] at H
  obtain ⟨rfl,rfl⟩:=H
  go_enter Try.func78,Try.ntmps78
  go_wp2
  go_ret2
  exact ⟨yq,yd⟩
 rw [if_neg c6] at H
 obtain ⟨aa,ac⟩:=yF c6
 simp only [Option.some.injEq,Prod.mk.injEq] at H
 obtain ⟨rfl,rfl⟩:=H
 go_enter Try.func78,Try.ntmps78
 go_wp2
 go_ret2
 exact ⟨yq,yd⟩
def r05_Put.l0 : Nat→Int→List Int→Option (Int × List Int × Int)
 | 0,_,_=>none
 | k+1,aA,aC=>if aA < 16777216 then (if aC.length < 17592186044416 then (r05_Put.l0 k (IntKind.u64.wrap (aA * 256)) (aC ++ [0])) else (none)) else (some (aA,aC,0))
def r05_Put.f (k : Nat) (ap : Int) (ai : List Int) (a1 : Int) (a2 : Int) (a3 : Int) : Option (Int × List Int × Int):=(r05_Fair.f a1 a2 a3).bind fun bn=>(if bn=true then (if (ai.length : Int) ≥ 4000 then (some (ap,ai,3)) else ((r05_part.f ap a1 a2 a3).bind fun bh=>((r05_add.f k ai bh.2).bind fun aI=>(r05_Put.l0 k bh.1 aI)))) else (some (ap,ai,1)))
theorem r05_Put.mono_l : ∀ k,(∀ y0 y1,LeO (r05_Put.l0 k y0 y1) (r05_Put.l0 (k+1) y0 y1))
 | 0=>fun _ _ r h=>by simp [r05_Put.l0] at h
 | k+1=>by
  have ih0:=r05_Put.mono_l k
  ·
   intro y0 y1
   unfold r05_Put.l0
   repeat' with_reducible first|apply ih0|apply r05_add.mono|apply yLr|apply yLn|apply yLi|apply yLb|intro _
theorem r05_Put.mono : ∀ a0 a1 a2 a3 a4 k,LeO (r05_Put.f k a0 a1 a2 a3 a4) (r05_Put.f (k+1) a0 a1 a2 a3 a4):=by
 intro a0 a1 a2 a3 a4 k
 have ih0:=r05_Put.mono_l k
 unfold r05_Put.f
 repeat' with_reducible first|apply ih0|apply r05_add.mono|apply yLr|apply yLn|apply yLi|apply yLb|intro _
set_option maxHeartbeats 8000000 in
set_option maxRecDepth 100000 in
theorem r05_Put.calls (k : Nat) (ap : Int) (aD : Nat→Prop) (ay : Option Addr) (az : Nat) (ai : List Int) (a1 : Int) (a2 : Int) (a3 : Int) (r1 : Int) (r2 : List Int) (r3 : Int) (w : World) (bq : Kd.V (Kd.int .i64) 3 w w.heap.size (fun k_=>aD k_) (.slice ay ai.length az) ai) (h : r05_Put.f k ap ai a1 a2 a3=some (r1,r2,r3)) :
  Calls Try.prog 37 #[.agg #[.int .u64 ap, .slice ay ai.length az], .int .i64 a1, .int .i64 a2, .int .i64 a3] w fun e w' => ∃ v1_ : Value,e=.returned (.tuple #[.agg #[.int .u64 r1,v1_], .int .i64 r3])∧Kd.V (Kd.int .i64) 3 w' w.heap.size (fun k_=>(aD k_∨w.heap.size≤k_)) v1_ r2∧Below w.heap.size w w' := by
 have hu69:=Try.underlying69
 have ac:=zm (show Kd.V (Kd.int .i64) 3 w w.heap.size (fun k_=>(aD k_∨w.heap.size≤k_)) (.slice ay ai.length az) ai from zy bq (fun k_ hk => .inl hk))
 have HB:=zm (Below.refl w.heap.size w);have H:=h
 unfold r05_Put.f at H
 clear h
 obtain ⟨bn,A5,H⟩:=ybi H
 by_cases c6 : bn=true
 ·
  subst c6
  rw [if_pos rfl] at H
  by_cases c7 : (ai.length : Int) ≥ 4000
  ·
   rw [if_pos c7] at H
   have br:=yDl c7
   have bs : decide (4000≤ai.length)=true:=decide_eq_true (by omega)
   clear c7
   simp only [Option.some.injEq,Prod.mk.injEq] at H
   obtain ⟨rfl,rfl,rfl⟩:=H
   go_enter Try.func37,Try.ntmps37
   go_wp2_with (first|((with_reducible refine gate_dst (N:=4) rfl ?_);refine ybx 4 #[.int .u64 ap, .slice ay ai.length az] 69 ?_;intro aE hg w8 hbox hb;replace ac:=yVe ac hg hb;have aa:=zm (hbox);have bi:=ygw hg;have bj:=ygw hg;replace HB:=ybs hb;clear hb hbox hg)|((with_reducible refine gate_dst (N:=8) rfl ?_);refine ybx 8 #[.int .u64 0, .slice none 0 0] 69 ?_;intro ao hg w9 hbox hb;replace ac:=yVe ac hg hb;have ae:=zm (hbox);have bk:=ygw hg;have bl:=ygw hg;replace HB:=ybs hb;have aj:=ynl aa hg;have ak:=yng aa hg;replace aa:=ybb aa hb;clear hb hbox hg)|((with_reducible refine gate_callee (f:=77) rfl ?_);refine ygl 16 Try.func77 #[.int .i64 a1, .int .i64 a2, .int .i64 a3] ?_;(with_reducible refine (r05_Fair.calls a1 a2 a3 true _ A5.out).mono ?_);rintro e w' ⟨rfl,⟨nd,rfl⟩⟩;refine ⟨_,rfl, ?_⟩;(try (rw [drewN_self w9];generalize hq_ : World.drewN w9 _=w9;replace ac:=yVq hq_ ac;replace aa:=ykq hq_ aa;replace ae:=ykq hq_ ae;replace HB:=ysq hq_;clear hq_));have:=aj.out;have:=ak.out;obtain ⟨aK,aM,aN,aQ⟩:=yc2 aa;obtain ⟨aT,aU,aV,aW⟩:=yc2 ae))
   refine bodyPost_ret (results_ct rfl _ _ ao 69 #[.int .u64 ap, .slice ay ai.length az] (0,0) _ rfl (ykp ae) Try.underlying69 rfl (by kernel_rfl)) rfl ?_
   exact ⟨_,ye,yV0 ac,yhb⟩
  rw [if_neg c7] at H
  have br:=yGl c7
  have bs : decide (4000≤ai.length)=false:=decide_eq_false (by omega)
  clear c7
  obtain ⟨⟨bv,bo⟩,A13,H⟩:=ybi H
  try dsimp only at H
  obtain ⟨aI,A14,H⟩:=ybi H
  have H' := zm H
  clear H
  go_enter Try.func37,Try.ntmps37
  go_wp2_with (first|((with_reducible refine gate_dst (N:=4) rfl ?_);refine ybx 4 #[.int .u64 ap, .slice ay ai.length az] 69 ?_;intro aE hg w15 hbox hb;replace ac:=yVe ac hg hb;have aa:=zm (hbox);have bi:=ygw hg;have bj:=ygw hg;replace HB:=ybs hb;clear hb hbox hg)|((with_reducible refine gate_dst (N:=8) rfl ?_);refine ybx 8 #[.int .u64 0, .slice none 0 0] 69 ?_;intro ao hg w16 hbox hb;replace ac:=yVe ac hg hb;have ae:=zm (hbox);have bk:=ygw hg;have bl:=ygw hg;replace HB:=ybs hb;have aj:=ynl aa hg;have ak:=yng aa hg;replace aa:=ybb aa hb;clear hb hbox hg)|((with_reducible refine gate_callee (f:=77) rfl ?_);refine ygl 16 Try.func77 #[.int .i64 a1, .int .i64 a2, .int .i64 a3] ?_;(with_reducible refine (r05_Fair.calls a1 a2 a3 true _ A5.out).mono ?_);rintro e w' ⟨rfl,⟨nd,rfl⟩⟩;refine ⟨_,rfl, ?_⟩;(try (rw [drewN_self w16];generalize hq_ : World.drewN w16 _=w16;replace ac:=yVq hq_ ac;replace aa:=ykq hq_ aa;replace ae:=ykq hq_ ae;replace HB:=ysq hq_;clear hq_));have:=aj.out;have:=ak.out;obtain ⟨aX,aY,aZ,a7⟩:=yc2 aa)|((with_reducible refine gate_callee (f:=78) rfl ?_);refine ygl 30 Try.func78 #[.int .u64 ap, .int .i64 a1, .int .i64 a2, .int .i64 a3] ?_;(with_reducible refine (r05_part.calls ap a1 a2 a3 bv bo _ A13.out).mono ?_);rintro e w' ⟨rfl,⟨nd,rfl⟩⟩;refine ⟨_,rfl, ?_⟩;(try (rw [drewN_self w16];generalize hq_ : World.drewN w16 _=w16;replace ac:=yVq hq_ ac;replace aa:=ykq hq_ aa;replace ae:=ykq hq_ ae;replace HB:=ysq hq_;clear hq_));obtain ⟨a8,a9,ba,bb⟩:=yc2 aa)|((with_reducible refine gate_callee (f:=79) rfl ?_);refine ygl 37 Try.func79 #[.slice ay ai.length az, .int .u64 bo] ?_;(with_reducible refine (r05_add.calls k _ _ ai bo aI _ ?bw ?bx A14.out).mono ?_);(case bw=>exact yce (Kd.V_reads' ac.out).2.2);(case bx=>exact (Kd.V_reads' ac.out).2.1);rintro e w20 ⟨bM,rfl,ho0,hb⟩;refine ⟨_,rfl, ?_⟩;replace ac:=zm (Kd.V_elder' (yr ac) (Kd.R_base ho0) hb);have aG:=zm (Kd.R_lower (Kd.R_newM (M:=fun k_=>(w.heap.size≤k_)) ho0 (zE yhb) (fun k_ h_=>h_)) (zE yhb));replace aa:=ybb aa hb;replace ae:=ybb ae hb;replace HB:=ybs hb;(try clear hb);(try clear ho0);obtain ⟨bD,bE,bF⟩:=Kd.R_slice aG.out;subst bF)|((with_reducible refine gate_dst (N:=12) rfl ?_);refine ybx 12 #[.int .u64 0, .slice none 0 0] 69 ?_;intro aH hg w22 hbox hb;replace ac:=yVe ac hg hb;replace aG:=yRb aG hb;have al:=zm (hbox);have bK:=ygw hg;have bL:=ygw hg;replace HB:=ybs hb;have aq:=ynl aa hg;have au:=yng aa hg;replace aa:=ybb aa hb;have av:=ynl ae hg;have aw:=yng ae hg;replace ae:=ybb ae hb;clear hb hbox hg;have:=au.out;have:=aq.out;have:=aw.out;have:=av.out;obtain ⟨bc,bd,bf,bg⟩:=yc2 al))
  go_loopg [] k (fun kq w' => ∃ (af : Int) (ag : List Int) (am : Value),Aside0 (r05_Put.l0 kq af ag=some (r1,r2,r3))∧Aside0 (kq≤k)∧Aside0 (Kd.V (Kd.int .i64) 3 w' w.heap.size (fun k_=>(aD k_∨w.heap.size≤k_)∧some k_≠(am : Value).ownBlock∧k_≠aE∧k_≠ao∧k_≠aH) (.slice ay ai.length az) ai)∧Aside0 (Kd.R (Kd.int .i64) 3 w' w.heap.size (fun k_=>(w.heap.size≤k_)) am ag)∧Aside0 (w'.heap[aE]? = some (.cells #[.int .u64 ap,(.slice ay ai.length az)] 69 (0,0)))∧Aside0 (w'.heap[ao]? = some (.cells #[.int .u64 0,(.slice none 0 0)] 69 (0,0)))∧Aside0 (w'.heap[aH]? = some (.cells #[.int .u64 af,am] 69 (0,0)))∧Aside0 (Below w.heap.size w w'))
  case atStart=>exact ⟨(bv),(aI),(.slice bD aI.length bE),H',⟨Nat.le_refl _⟩,⟨yV0 ac⟩,⟨yR1 aG al⟩,⟨yk aa⟩,⟨yk ae⟩,⟨ykp al⟩,⟨yhb⟩⟩
  case round =>
   clear H'
   try clear br
   try clear bs
   try clear aK
   try clear aM
   try clear aT
   try clear aU
   try clear aX
   try clear aY
   try clear a8
   try clear a9
   try clear bc
   try clear bd
   try clear aN
   try clear aQ
   try clear aV
   try clear aW
   try clear aZ
   try clear a7
   try clear ba
   try clear bb
   try clear bf
   try clear bg
   obtain ⟨af,ag,am,HA,HK1,ax,ah,aa,ae,al,HB⟩:=hrel
   obtain ⟨k1,rfl⟩:=ysu gk (fun h=>by subst h;exact absurd HA.out (by simp [r05_Put.l0]))
   have H:=HA.out;clear HA
   simp only [r05_Put.l0] at H
   by_cases c26 : af < 16777216
   ·
    rw [if_pos c26] at H
    have bz:=yD c26
    clear c26
    obtain ⟨c27,H⟩:=yif H
    have LMc27:=zm c27;clear c27
    obtain ⟨bp,aJ⟩ : ∃ y_ : List Int,y_=(ag ++ [0]):=⟨_,rfl⟩
    replace H : (r05_Put.l0 k1 (IntKind.u64.wrap (af * 256)) bp)=some (r1,r2,r3):=yrw aJ H
    have bA:=zm aJ;clear aJ
    have H' := zm H
    clear H
    have:=au.out
    have:=aq.out
    have:=aw.out
    have:=av.out
    obtain ⟨_,_,_,_⟩:=yc2 al
    go_wp2_with (first|((with_reducible refine gate_builtin (b:=.append) (xs := #[.tmp 47, .tmp 48]) rfl ?_);at_builtin;refine Kd.R_append (Kd.int .i64) (w0:=w) w.heap.size rfl (.tmp 47) (.tmp 48) 49 3 (.int .i64 0) 8 rfl Try.underlying49 info3 rfl (by decide) (by omega) am ag 0 [.int .i64 0] (fun k_=>(w.heap.size≤k_)) (fun _=>False) rfl (by first|(go_simp;done)|(go_simp;rfl)) ?aP (fun _ hk=>hk.elim) ?aF ?aO ?aB ?aS ?aL ?_;(case aP=>exact rfl);(case aB=>exact yhb);(case aF=>exact (fun k_ hk=>(Nat.le_trans (zE yhb) hk)));(case aO=>exact (yR1 ah al));(case aS=>exact (zE yhb));(case aL=>have:=LMc27.out;omega);intro bN w31 ho hb hg hat;rw [← bA.out] at ho;replace ax:=zm (Kd.V_afterv (ok:=(fun k_=>(aD k_∨w.heap.size≤k_)∧k_≠aE∧k_≠ao∧k_≠aH)) (yV0 ax) hg hat);replace aa:=zm (blk_grown (yk aa) hg (zu ah.out aa.out (by decide)));replace ae:=zm (blk_grown (yk ae) hg (zu ah.out ae.out (by decide)));replace al:=zm (blk_grown (g:=aH) (o:=.cells #[.int .u64 (IntKind.u64.wrap (af * 256)),am] 69 (0,0)) (ykp al) hg (zu ah.out al.out (by decide)));replace HB:=zm (hb);have bm:=zm (ho);clear ah;clear ho hb hg hat;obtain ⟨bG,bH,bI⟩:=Kd.R_slice bm.out;subst bI;obtain ⟨_,_,_,_⟩:=yc2 al))
    go_roundg k1
    case measure=>exact yom1 HK1
    case rel=>exact ⟨(IntKind.u64.wrap (af * 256)),(bp),(.slice bG bp.length bH),H',⟨yom1 HK1⟩,⟨yV0 ax⟩,⟨yR1 bm al⟩,⟨yk aa⟩,⟨yk ae⟩,⟨ykp al⟩,⟨yhb⟩⟩
   rw [if_neg c26] at H
   have bz:=yG c26
   clear c26
   simp only [Option.some.injEq,Prod.mk.injEq] at H
   obtain ⟨rfl,rfl,rfl⟩:=H
   have:=au.out
   have:=aq.out
   have:=aw.out
   have:=av.out
   obtain ⟨_,_,_,_⟩:=yc2 al
   have:=ak.out
   have:=aj.out
   obtain ⟨_,_,_,_⟩:=yc2 ae
   obtain ⟨bB,bC,bJ⟩:=Kd.R_slice ah.out
   subst bJ
   go_wp2
   refine bodyPost_ret (results_ct rfl _ _ ao 69 #[.int .u64 af, .slice bB ag.length bC] (0,0) _ rfl (ykp ae) Try.underlying69 rfl (by kernel_rfl)) rfl ?_
   exact ⟨_,ye,zy (Kd.R_V (by (with_reducible repeat (first|apply zo|apply zp|apply zq));exact zG (zH (p:=⟨ao,1,none⟩) (zH (p:=⟨ao,0,none⟩) (Kd.R_types ah.out ae.out (by decide)) (fun _ hk=>hk.2) (.int .u64 af)) (fun _ hk=>hk.2) (.slice bB ag.length bC)) (fun _ hk=>(by first|exact hk.1|(have h_:=hk;(try simp only [and_assoc] at h_);first|exact h_.1|exact h_.2|exact h_.2.1|exact h_.2.2|exact h_.2.2.1|exact h_.2.2.2|exact h_.2.2.2.1|exact h_.2.2.2.2))))) (fun k_ hk=>by first|exact ⟨(.inr (hk.1)),hk.2⟩|exact (.inr (hk))),yhb⟩
 replace c6:=Bool.eq_false_iff.mpr c6
 subst c6
 rw [ynf] at H
 simp only [Option.some.injEq,Prod.mk.injEq] at H
 obtain ⟨rfl,rfl,rfl⟩:=H
 go_enter Try.func37,Try.ntmps37
 go_wp2_with (first|((with_reducible refine gate_dst (N:=4) rfl ?_);refine ybx 4 #[.int .u64 ap, .slice ay ai.length az] 69 ?_;intro aE hg w40 hbox hb;replace ac:=yVe ac hg hb;have aa:=zm (hbox);have bi:=ygw hg;have bj:=ygw hg;replace HB:=ybs hb;clear hb hbox hg)|((with_reducible refine gate_dst (N:=8) rfl ?_);refine ybx 8 #[.int .u64 0, .slice none 0 0] 69 ?_;intro ao hg w41 hbox hb;replace ac:=yVe ac hg hb;have ae:=zm (hbox);have bk:=ygw hg;have bl:=ygw hg;replace HB:=ybs hb;have aj:=ynl aa hg;have ak:=yng aa hg;replace aa:=ybb aa hb;clear hb hbox hg)|((with_reducible refine gate_callee (f:=77) rfl ?_);refine ygl 16 Try.func77 #[.int .i64 a1, .int .i64 a2, .int .i64 a3] ?_;(with_reducible refine (r05_Fair.calls a1 a2 a3 false _ A5.out).mono ?_);rintro e w' ⟨rfl,⟨nd,rfl⟩⟩;refine ⟨_,rfl, ?_⟩;(try (rw [drewN_self w41];generalize hq_ : World.drewN w41 _=w41;replace ac:=yVq hq_ ac;replace aa:=ykq hq_ aa;replace ae:=ykq hq_ ae;replace HB:=ysq hq_;clear hq_));have:=aj.out;have:=ak.out;obtain ⟨_,_,_,_⟩:=yc2 aa;obtain ⟨_,_,_,_⟩:=yc2 ae))
 refine bodyPost_ret (results_ct rfl _ _ ao 69 #[.int .u64 ap, .slice ay ai.length az] (0,0) _ rfl (ykp ae) Try.underlying69 rfl (by kernel_rfl)) rfl ?_
 exact ⟨_,ye,yV0 ac,yhb⟩
def r05_PutNum.j0 : Nat→Int→Int→Bool→Int→List Int→Option (Int × List Int × Int)
 | 0,_,_,_,_,_=>none
 | k+1,x1,x2,x22,aA,aC=>if x22=true then (some (aA,aC,1)) else (if x2≤65536 then ((r05_Put.f k aA aC (wrap64 (x1)) (wrap64 ((wrap64 (x1))+1)) (wrap64 (x2))).bind fun aV=>(some (aV.1,aV.2.1,aV.2.2))) else ((r05_Put.f k aA aC (wrap64 (IntKind.u64.wrap (Int.tdiv x1 65536))) (wrap64 ((wrap64 (IntKind.u64.wrap (Int.tdiv x1 65536)))+1)) (wrap64 ((wrap64 (IntKind.u64.wrap (Int.tdiv (IntKind.u64.wrap (x2 - 1)) 65536)))+1))).bind fun aQ=>(if aQ.2.2=0 then ((r05_Put.f k aQ.1 aQ.2.1 (wrap64 (Int.tmod x1 65536)) (wrap64 ((wrap64 (Int.tmod x1 65536))+1)) 65536).bind fun aT=>(if aT.2.2=0 then (some (aT.1,aT.2.1,0)) else (some (aA,aC,aT.2.2)))) else (some (aA,aC,aQ.2.2)))))
def r05_PutNum.f (k : Nat) (am : Int) (ai : List Int) (a1 : Int) (a2 : Int) : Option (Int × List Int × Int):=if a2=0 then (r05_PutNum.j0 k a1 a2 true am ai) else (if a2 > 4294967296 then (r05_PutNum.j0 k a1 a2 true am ai) else (r05_PutNum.j0 k a1 a2 (decide (a1 ≥ a2)) am ai))
theorem r05_PutNum.mono_l : ∀ k,(∀ y0 y1 y2 y3 y4,LeO (r05_PutNum.j0 k y0 y1 y2 y3 y4) (r05_PutNum.j0 (k+1) y0 y1 y2 y3 y4))
 | 0=>fun _ _ _ _ _ r h=>by simp [r05_PutNum.j0] at h
 | k+1=>by
  have ih0:=r05_PutNum.mono_l k
  ·
   intro y0 y1 y2 y3 y4
   unfold r05_PutNum.j0
   repeat' with_reducible first|apply ih0|apply r05_Put.mono|apply yLr|apply yLn|apply yLi|apply yLb|intro _
theorem r05_PutNum.mono : ∀ a0 a1 a2 a3 k,LeO (r05_PutNum.f k a0 a1 a2 a3) (r05_PutNum.f (k+1) a0 a1 a2 a3):=by
 intro a0 a1 a2 a3 k
 have ih0:=r05_PutNum.mono_l k
 unfold r05_PutNum.f
 repeat' with_reducible first|apply ih0|apply r05_Put.mono|apply yLr|apply yLn|apply yLi|apply yLb|intro _
set_option maxHeartbeats 8000000 in
set_option maxRecDepth 100000 in
theorem r05_PutNum.calls (k : Nat) (am : Int) (aj : Nat→Prop) (ax : Option Addr) (ay : Nat) (ai : List Int) (a1 : Int) (a2 : Int) (r1 : Int) (r2 : List Int) (r3 : Int) (w : World) (bh : Kd.V (Kd.int .i64) 3 w w.heap.size (fun k_=>aj k_) (.slice ax ai.length ay) ai) (h : r05_PutNum.f k am ai a1 a2=some (r1,r2,r3)) :
  Calls Try.prog 41 #[.agg #[.int .u64 am, .slice ax ai.length ay], .int .u64 a1, .int .u64 a2] w fun e w' => ∃ v1_ : Value,e=.returned (.tuple #[.agg #[.int .u64 r1,v1_], .int .i64 r3])∧Kd.V (Kd.int .i64) 3 w' w.heap.size (fun k_=>(aj k_∨w.heap.size≤k_)) v1_ r2∧Below w.heap.size w w' := by
 have hu69:=Try.underlying69
 have aM:=zm (show Kd.V (Kd.int .i64) 3 w w.heap.size (fun k_=>(aj k_∨w.heap.size≤k_)) (.slice ax ai.length ay) ai from zy bh (fun k_ hk => .inl hk))
 have HB:=zm (Below.refl w.heap.size w);have H:=h
 unfold r05_PutNum.f at H
 clear h;have HC4:=zm H;clear H
 go_enter Try.func41,Try.ntmps41
 go_upto_region 1 with (first|((with_reducible refine gate_dst (N:=3) rfl ?_);refine ybx 3 #[.int .u64 am, .slice ax ai.length ay] 69 ?_;intro ak hg w5 hbox hb;replace aM:=yVe aM hg hb;have ac:=zm (hbox);have bK:=ygw hg;have bL:=ygw hg;replace HB:=ybs hb;clear hb hbox hg)|((with_reducible refine gate_dst (N:=6) rfl ?_);refine ybx 6 #[.int .u64 0, .slice none 0 0] 69 ?_;intro af hg w6 hbox hb;replace aM:=yVe aM hg hb;have ae:=zm (hbox);have bM:=ygw hg;have bN:=ygw hg;replace HB:=ybs hb;have ao:=ynl ac hg;have ap:=yng ac hg;replace ac:=ybb ac hb;clear hb hbox hg))
 (try simp only [Act.put,List.setIfInBounds_toArray,List.set_cons_zero,List.set_cons_succ])
 go_cut [22] (fun v22 wc => ∃ (kq : Nat) (aU : Bool),v22=.bool aU∧Aside0 (r05_PutNum.j0 kq a1 a2 aU am ai=some (r1,r2,r3))∧Aside0 (kq≤k)∧Aside0 (Kd.V (Kd.int .i64) 3 wc w.heap.size (fun k_=>(aj k_∨w.heap.size≤k_)∧k_≠ak∧k_≠af) (.slice ax ai.length ay) ai)∧Aside0 (wc.heap[ak]? = some (.cells #[.int .u64 am,(.slice ax ai.length ay)] 69 (0,0)))∧Aside0 (wc.heap[af]? = some (.cells #[.int .u64 0,(.slice none 0 0)] 69 (0,0)))∧Aside0 (Below w.heap.size w wc))
 case first =>
  have H:=HC4.out;clear HC4
  by_cases c7 : a2=0
  ·
   rw [if_pos c7] at H
   obtain ⟨aW,bv⟩:=yE c7
   clear c7
   (first|rw [aW]|(simp only [i64_w,i32_w];rw [aW])|skip)
   have H' := zm H
   clear H
   go_wp2
   go_meet
   case rel=>exact ⟨_,(true),yq,H',⟨yo⟩,⟨yV0 aM⟩,⟨yk ac⟩,⟨yk ae⟩,⟨yhb⟩⟩
  rw [if_neg c7] at H
  obtain ⟨aW,bv⟩:=yF c7
  (first|rw [aW]|(simp only [i64_w,i32_w];rw [aW])|skip)
  by_cases c8 : a2 > 4294967296
  ·
   rw [if_pos c8] at H
   have bw:=yDs c8
   clear c8
   have H' := zm H
   clear H
   go_wp2
   go_meet
   case rel=>exact ⟨_,(true),yq,H',⟨yo⟩,⟨yV0 aM⟩,⟨yk ac⟩,⟨yk ae⟩,⟨yhb⟩⟩
  rw [if_neg c8] at H
  have bw:=yGs c8
  clear c8
  have H' := zm H
  clear H
  go_wp2
  go_meet
  case rel=>exact ⟨_,(decide (a1 ≥ a2)),yq,H',⟨yo⟩,⟨yV0 aM⟩,⟨yk ac⟩,⟨yk ae⟩,⟨yhb⟩⟩
 case rest =>
  clear HC4
  obtain ⟨kq,aU,rfl,HA,HJ3,aa,ac,ae,HB⟩:=hcut
  obtain ⟨kj3,rfl⟩:=ysu kq (fun h=>by subst h;exact absurd HA.out (by simp [r05_PutNum.j0]))
  have H:=HA.out;clear HA
  simp only [r05_PutNum.j0] at H
  by_cases c9 : aU=true
  ·
   subst c9
   rw [if_pos rfl] at H
   simp only [Option.some.injEq,Prod.mk.injEq] at H
   obtain ⟨rfl,rfl,rfl⟩:=H
   have:=ao.out
   have:=ap.out
   obtain ⟨_,_,_,_⟩:=yc2 ac
   obtain ⟨_,_,_,_⟩:=yc2 ae
   go_wp2
   refine bodyPost_ret (results_ct rfl _ _ af 69 #[.int .u64 am, .slice ax ai.length ay] (0,0) _ rfl (ykp ae) Try.underlying69 rfl (by kernel_rfl)) rfl ?_
   exact ⟨_,ye,yV0 aa,yhb⟩
  replace c9:=Bool.eq_false_iff.mpr c9
  subst c9
  rw [ynf] at H
  by_cases c13 : a2≤65536
  ·
   rw [if_pos c13] at H
   have bi:=yD c13
   clear c13
   obtain ⟨⟨bj,bk,bx⟩,A14,H⟩:=ybi H
   try dsimp only at H
   simp only [Option.some.injEq,Prod.mk.injEq] at H
   obtain ⟨rfl,rfl,rfl⟩:=H
   have:=ao.out
   have:=ap.out
   obtain ⟨_,_,_,_⟩:=yc2 ac
   go_wp2_with (first|((with_reducible refine gate_callee (f:=37) rfl ?_);refine ygl 34 Try.func37 #[.agg #[.int .u64 am, .slice ax ai.length ay], .int .i64 (wrap64 (a1)), .int .i64 (wrap64 ((wrap64 (a1))+1)), .int .i64 (wrap64 (a2))] ?_;(with_reducible refine (r05_Put.calls kj3 am (fun k_=>((aj k_∨w.heap.size≤k_)∧(k_≠ak∧k_≠af))) _ _ ai (wrap64 (a1)) (wrap64 ((wrap64 (a1))+1)) (wrap64 (a2)) bj bk bx _ aa.out A14.out).mono ?_);rintro e w17 ⟨bO,rfl,ho0,hb⟩;refine ⟨_,rfl, ?_⟩;replace aa:=yVb aa hb;have ba:=yho (fun k_=>(aj k_∨w.heap.size≤k_)∧k_≠ak∧k_≠af) ho0 (fun k_ hk_=>⟨Or.elim hk_ (fun hs_=>hs_.1) (fun hn_=>(.inr (Nat.le_trans (zE yhb) hn_))),yoB ac hk_,yoB ae hk_⟩);replace ac:=ybb ac hb;replace ae:=ybb ae hb;replace HB:=ybs hb;(try clear hb);(try clear ho0);obtain ⟨_,_,_,_⟩:=yc2 ae;obtain ⟨bz,bA,bB⟩:=Kd.V_slice ba.out;subst bB))
   refine bodyPost_ret (results_ct rfl _ _ af 69 #[.int .u64 bj, .slice bz bk.length bA] (0,0) _ rfl (ykp ae) Try.underlying69 rfl (by kernel_rfl)) rfl ?_
   exact ⟨_,ye,yV0 ba,yhb⟩
  rw [if_neg c13] at H
  have bi:=yG c13
  clear c13
  obtain ⟨⟨aN,az,aY⟩,A20,H⟩:=ybi H
  try dsimp only at H
  by_cases c21 : aY=0
  ·
   rw [if_pos c21] at H
   obtain ⟨bl,bm⟩:=yE c21
   clear c21
   obtain ⟨⟨bd,bf,bg⟩,A22,H⟩:=ybi H
   try dsimp only at H
   by_cases c23 : bg=0
   ·
    rw [if_pos c23] at H
    obtain ⟨bn,bo⟩:=yE c23
    clear c23
    simp only [Option.some.injEq,Prod.mk.injEq] at H
    obtain ⟨rfl,rfl,rfl⟩:=H
    have:=ao.out
    have:=ap.out
    obtain ⟨_,_,_,_⟩:=yc2 ac
    go_wp2_with (first|((with_reducible refine gate_callee (f:=37) rfl ?_);refine ygl 51 Try.func37 #[.agg #[.int .u64 am, .slice ax ai.length ay], .int .i64 (wrap64 (IntKind.u64.wrap (Int.tdiv a1 65536))), .int .i64 (wrap64 ((wrap64 (IntKind.u64.wrap (Int.tdiv a1 65536)))+1)), .int .i64 (wrap64 ((wrap64 (IntKind.u64.wrap (Int.tdiv (IntKind.u64.wrap (a2 - 1)) 65536)))+1))] ?_;(with_reducible refine (r05_Put.calls kj3 am (fun k_=>((aj k_∨w.heap.size≤k_)∧(k_≠ak∧k_≠af))) _ _ ai (wrap64 (IntKind.u64.wrap (Int.tdiv a1 65536))) (wrap64 ((wrap64 (IntKind.u64.wrap (Int.tdiv a1 65536)))+1)) (wrap64 ((wrap64 (IntKind.u64.wrap (Int.tdiv (IntKind.u64.wrap (a2 - 1)) 65536)))+1)) aN az aY _ aa.out A20.out).mono ?_);rintro e w26 ⟨bp,rfl,ho0,hb⟩;refine ⟨_,rfl, ?_⟩;replace aa:=yVb aa hb;have ag:=yho (fun k_=>(aj k_∨w.heap.size≤k_)∧k_≠ak∧k_≠af) ho0 (fun k_ hk_=>⟨Or.elim hk_ (fun hs_=>hs_.1) (fun hn_=>(.inr (Nat.le_trans (zE yhb) hn_))),yoB ac hk_,yoB ae hk_⟩);replace ac:=ybb ac hb;replace ae:=ybb ae hb;replace HB:=ybs hb;(try clear hb);(try clear ho0))|((with_reducible refine gate_dst (N:=8) rfl ?_);refine ybx 8 #[.int .u64 0, .slice none 0 0] 69 ?_;intro al hg w27 hbox hb;replace aa:=yVe aa hg hb;replace ag:=yVe ag hg hb;have ah:=zm (hbox);have bb:=ygw hg;have bc:=ygw hg;replace HB:=ybs hb;have aq:=ynl ac hg;have au:=yng ac hg;replace ac:=ybb ac hb;have av:=ynl ae hg;have aw:=yng ae hg;replace ae:=ybb ae hb;clear hb hbox hg;have:=au.out;have:=aq.out;have:=aw.out;have:=av.out;obtain ⟨_,_,_,_⟩:=yc2 ah;obtain ⟨aZ,a7,bC⟩:=Kd.V_slice ag.out;subst bC)|((with_reducible refine gate_store (t:=69) (p:=8) rfl ?_);refine store_event (t:=69) (p:=8) (v := ?vo_w32) (w1:=((w27.setCell ⟨al,0,none⟩ (.int .u64 aN)).setCell ⟨al,1,none⟩ (.slice aZ az.length a7))) ?hg ?ho ?hn ?hr ?_;(case ho=>rfl);(case hg=>rfl);(case hn=>rfl);(case hr=>first|(go_simp;done)|(go_simp;rfl));intro w32 hw;replace aa : Aside0 (Kd.V (Kd.int .i64) 3 w32 w.heap.size (fun k_=>(aj k_∨w.heap.size≤k_)∧k_≠ak∧k_≠af∧k_≠al) (.slice ax ai.length ay) ai):=⟨(by rw [hw];exact (yV0 aa))⟩;replace ag : Aside0 (Kd.V (Kd.int .i64) 3 w32 w.heap.size (fun k_=>(aj k_∨w.heap.size≤k_)∧k_≠ak∧k_≠af∧k_≠al) (.slice aZ az.length a7) az):=⟨(by rw [hw];exact (yV0 ag))⟩;replace ac : Aside0 (w32.heap[ak]? = some (.cells #[.int .u64 am, .slice ax ai.length ay] 69 (0,0))):=⟨(by rw [hw];exact (yk ac))⟩;replace ae : Aside0 (w32.heap[af]? = some (.cells #[.int .u64 0, .slice none 0 0] 69 (0,0))):=⟨(by rw [hw];exact (yk ae))⟩;replace ah : Aside0 (w32.heap[al]? = some (.cells #[.int .u64 aN, .slice aZ az.length a7] 69 (0,0))):=⟨(by rw [hw];exact (ykp ah))⟩;replace HB : Aside0 (Below w.heap.size w w32):=⟨(by rw [hw];exact yhb)⟩;clear hw;obtain ⟨_,_,_,_⟩:=yc2 ah)|((with_reducible refine gate_callee (f:=37) rfl ?_);refine ygl 67 Try.func37 #[.agg #[.int .u64 aN, .slice aZ az.length a7], .int .i64 (wrap64 (Int.tmod a1 65536)), .int .i64 (wrap64 ((wrap64 (Int.tmod a1 65536))+1)), .int .i64 65536] ?_;(with_reducible refine (r05_Put.calls kj3 aN (fun k_=>((aj k_∨w.heap.size≤k_)∧(k_≠ak∧(k_≠af∧k_≠al)))) _ _ az (wrap64 (Int.tmod a1 65536)) (wrap64 ((wrap64 (Int.tmod a1 65536))+1)) 65536 bd bf bg _ ag.out A22.out).mono ?_);rintro e w34 ⟨bD,rfl,ho0,hb⟩;refine ⟨_,rfl, ?_⟩;replace aa:=yVb aa hb;replace ag:=yVb ag hb;have aK:=yho (fun k_=>(aj k_∨w.heap.size≤k_)∧k_≠ak∧k_≠af∧k_≠al) ho0 (fun k_ hk_=>⟨Or.elim hk_ (fun hs_=>hs_.1) (fun hn_=>(.inr (Nat.le_trans (zE yhb) hn_))),yoB ac hk_,yoB ae hk_,yoB ah hk_⟩);replace ac:=ybb ac hb;replace ae:=ybb ae hb;replace ah:=ybb ah hb;replace HB:=ybs hb;(try clear hb);(try clear ho0))|((with_reducible refine gate_dst (N:=10) rfl ?_);refine ybx 10 #[.int .u64 0, .slice none 0 0] 69 ?_;intro bq hg w35 hbox hb;replace aa:=yVe aa hg hb;replace ag:=yVe ag hg hb;replace aK:=yVe aK hg hb;have aX:=zm (hbox);have br:=ygw hg;have bs:=ygw hg;replace HB:=ybs hb;have aD:=ynl ac hg;have aE:=yng ac hg;replace ac:=ybb ac hb;have aG:=ynl ae hg;have aH:=yng ae hg;replace ae:=ybb ae hb;have aI:=ynl ah hg;have aJ:=yng ah hg;replace ah:=ybb ah hb;clear hb hbox hg;have:=aE.out;have:=aD.out;have:=aH.out;have:=aG.out;have:=aJ.out;have:=aI.out;obtain ⟨_,_,_,_⟩:=yc2 aX;obtain ⟨bE,bF,bG⟩:=Kd.V_slice aK.out;subst bG;obtain ⟨_,_,_,_⟩:=yc2 ae))
    refine bodyPost_ret (results_ct rfl _ _ af 69 #[.int .u64 bd, .slice bE bf.length bF] (0,0) _ rfl (ykp ae) Try.underlying69 rfl (by kernel_rfl)) rfl ?_
    exact ⟨_,ye,yV0 aK,yhb⟩
   rw [if_neg c23] at H
   obtain ⟨bn,bo⟩:=yF c23
   simp only [Option.some.injEq,Prod.mk.injEq] at H
   obtain ⟨rfl,rfl,rfl⟩:=H
   have:=ao.out
   have:=ap.out
   obtain ⟨_,_,_,_⟩:=yc2 ac
   go_wp2_with (first|((with_reducible refine gate_callee (f:=37) rfl ?_);refine ygl 51 Try.func37 #[.agg #[.int .u64 am, .slice ax ai.length ay], .int .i64 (wrap64 (IntKind.u64.wrap (Int.tdiv a1 65536))), .int .i64 (wrap64 ((wrap64 (IntKind.u64.wrap (Int.tdiv a1 65536)))+1)), .int .i64 (wrap64 ((wrap64 (IntKind.u64.wrap (Int.tdiv (IntKind.u64.wrap (a2 - 1)) 65536)))+1))] ?_;(with_reducible refine (r05_Put.calls kj3 am (fun k_=>((aj k_∨w.heap.size≤k_)∧(k_≠ak∧k_≠af))) _ _ ai (wrap64 (IntKind.u64.wrap (Int.tdiv a1 65536))) (wrap64 ((wrap64 (IntKind.u64.wrap (Int.tdiv a1 65536)))+1)) (wrap64 ((wrap64 (IntKind.u64.wrap (Int.tdiv (IntKind.u64.wrap (a2 - 1)) 65536)))+1)) aN az aY _ aa.out A20.out).mono ?_);rintro e w44 ⟨bp,rfl,ho0,hb⟩;refine ⟨_,rfl, ?_⟩;replace aa:=yVb aa hb;have ag:=yho (fun k_=>(aj k_∨w.heap.size≤k_)∧k_≠ak∧k_≠af) ho0 (fun k_ hk_=>⟨Or.elim hk_ (fun hs_=>hs_.1) (fun hn_=>(.inr (Nat.le_trans (zE yhb) hn_))),yoB ac hk_,yoB ae hk_⟩);replace ac:=ybb ac hb;replace ae:=ybb ae hb;replace HB:=ybs hb;(try clear hb);(try clear ho0))|((with_reducible refine gate_dst (N:=8) rfl ?_);refine ybx 8 #[.int .u64 0, .slice none 0 0] 69 ?_;intro al hg w45 hbox hb;replace aa:=yVe aa hg hb;replace ag:=yVe ag hg hb;have ah:=zm (hbox);have bb:=ygw hg;have bc:=ygw hg;replace HB:=ybs hb;have aq:=ynl ac hg;have au:=yng ac hg;replace ac:=ybb ac hb;have av:=ynl ae hg;have aw:=yng ae hg;replace ae:=ybb ae hb;clear hb hbox hg;have:=au.out;have:=aq.out;have:=aw.out;have:=av.out;obtain ⟨_,_,_,_⟩:=yc2 ah;obtain ⟨a8,a9,bH⟩:=Kd.V_slice ag.out;subst bH)|((with_reducible refine gate_store (t:=69) (p:=8) rfl ?_);refine store_event (t:=69) (p:=8) (v := ?vo_w50) (w1:=((w45.setCell ⟨al,0,none⟩ (.int .u64 aN)).setCell ⟨al,1,none⟩ (.slice a8 az.length a9))) ?hg ?ho ?hn ?hr ?_;(case ho=>rfl);(case hg=>rfl);(case hn=>rfl);(case hr=>first|(go_simp;done)|(go_simp;rfl));intro w50 hw;replace aa : Aside0 (Kd.V (Kd.int .i64) 3 w50 w.heap.size (fun k_=>(aj k_∨w.heap.size≤k_)∧k_≠ak∧k_≠af∧k_≠al) (.slice ax ai.length ay) ai):=⟨(by rw [hw];exact (yV0 aa))⟩;replace ag : Aside0 (Kd.V (Kd.int .i64) 3 w50 w.heap.size (fun k_=>(aj k_∨w.heap.size≤k_)∧k_≠ak∧k_≠af∧k_≠al) (.slice a8 az.length a9) az):=⟨(by rw [hw];exact (yV0 ag))⟩;replace ac : Aside0 (w50.heap[ak]? = some (.cells #[.int .u64 am, .slice ax ai.length ay] 69 (0,0))):=⟨(by rw [hw];exact (yk ac))⟩;replace ae : Aside0 (w50.heap[af]? = some (.cells #[.int .u64 0, .slice none 0 0] 69 (0,0))):=⟨(by rw [hw];exact (yk ae))⟩;replace ah : Aside0 (w50.heap[al]? = some (.cells #[.int .u64 aN, .slice a8 az.length a9] 69 (0,0))):=⟨(by rw [hw];exact (ykp ah))⟩;replace HB : Aside0 (Below w.heap.size w w50):=⟨(by rw [hw];exact yhb)⟩;clear hw;obtain ⟨_,_,_,_⟩:=yc2 ah)|((with_reducible refine gate_callee (f:=37) rfl ?_);refine ygl 67 Try.func37 #[.agg #[.int .u64 aN, .slice a8 az.length a9], .int .i64 (wrap64 (Int.tmod a1 65536)), .int .i64 (wrap64 ((wrap64 (Int.tmod a1 65536))+1)), .int .i64 65536] ?_;(with_reducible refine (r05_Put.calls kj3 aN (fun k_=>((aj k_∨w.heap.size≤k_)∧(k_≠ak∧(k_≠af∧k_≠al)))) _ _ az (wrap64 (Int.tmod a1 65536)) (wrap64 ((wrap64 (Int.tmod a1 65536))+1)) 65536 bd bf bg _ ag.out A22.out).mono ?_);rintro e w52 ⟨bD,rfl,ho0,hb⟩;refine ⟨_,rfl, ?_⟩;replace aa:=yVb aa hb;replace ag:=yVb ag hb;have aK:=yho (fun k_=>(aj k_∨w.heap.size≤k_)∧k_≠ak∧k_≠af∧k_≠al) ho0 (fun k_ hk_=>⟨Or.elim hk_ (fun hs_=>hs_.1) (fun hn_=>(.inr (Nat.le_trans (zE yhb) hn_))),yoB ac hk_,yoB ae hk_,yoB ah hk_⟩);replace ac:=ybb ac hb;replace ae:=ybb ae hb;replace ah:=ybb ah hb;replace HB:=ybs hb;(try clear hb);(try clear ho0))|((with_reducible refine gate_dst (N:=10) rfl ?_);refine ybx 10 #[.int .u64 0, .slice none 0 0] 69 ?_;intro bq hg w53 hbox hb;replace aa:=yVe aa hg hb;replace ag:=yVe ag hg hb;replace aK:=yVe aK hg hb;have aX:=zm (hbox);have br:=ygw hg;have bs:=ygw hg;replace HB:=ybs hb;have aD:=ynl ac hg;have aE:=yng ac hg;replace ac:=ybb ac hb;have aG:=ynl ae hg;have aH:=yng ae hg;replace ae:=ybb ae hb;have aI:=ynl ah hg;have aJ:=yng ah hg;replace ah:=ybb ah hb;clear hb hbox hg;have:=aE.out;have:=aD.out;have:=aH.out;have:=aG.out;have:=aJ.out;have:=aI.out;obtain ⟨_,_,_,_⟩:=yc2 aX;obtain ⟨bP,bQ,bI⟩:=Kd.V_slice aK.out;subst bI;obtain ⟨_,_,_,_⟩:=yc2 ac;obtain ⟨_,_,_,_⟩:=yc2 ae))
   refine bodyPost_ret (results_ct rfl _ _ af 69 #[.int .u64 am, .slice ax ai.length ay] (0,0) _ rfl (ykp ae) Try.underlying69 rfl (by kernel_rfl)) rfl ?_
   exact ⟨_,ye,yV0 aa,yhb⟩
  rw [if_neg c21] at H
  obtain ⟨bl,bm⟩:=yF c21
  simp only [Option.some.injEq,Prod.mk.injEq] at H
  obtain ⟨rfl,rfl,rfl⟩:=H
  have:=ao.out
  have:=ap.out
  obtain ⟨_,_,_,_⟩:=yc2 ac
  go_wp2_with (first|((with_reducible refine gate_callee (f:=37) rfl ?_);refine ygl 51 Try.func37 #[.agg #[.int .u64 am, .slice ax ai.length ay], .int .i64 (wrap64 (IntKind.u64.wrap (Int.tdiv a1 65536))), .int .i64 (wrap64 ((wrap64 (IntKind.u64.wrap (Int.tdiv a1 65536)))+1)), .int .i64 (wrap64 ((wrap64 (IntKind.u64.wrap (Int.tdiv (IntKind.u64.wrap (a2 - 1)) 65536)))+1))] ?_;(with_reducible refine (r05_Put.calls kj3 am (fun k_=>((aj k_∨w.heap.size≤k_)∧(k_≠ak∧k_≠af))) _ _ ai (wrap64 (IntKind.u64.wrap (Int.tdiv a1 65536))) (wrap64 ((wrap64 (IntKind.u64.wrap (Int.tdiv a1 65536)))+1)) (wrap64 ((wrap64 (IntKind.u64.wrap (Int.tdiv (IntKind.u64.wrap (a2 - 1)) 65536)))+1)) aN az aY _ aa.out A20.out).mono ?_);rintro e w63 ⟨bp,rfl,ho0,hb⟩;refine ⟨_,rfl, ?_⟩;replace aa:=yVb aa hb;have ag:=yho (fun k_=>(aj k_∨w.heap.size≤k_)∧k_≠ak∧k_≠af) ho0 (fun k_ hk_=>⟨Or.elim hk_ (fun hs_=>hs_.1) (fun hn_=>(.inr (Nat.le_trans (zE yhb) hn_))),yoB ac hk_,yoB ae hk_⟩);replace ac:=ybb ac hb;replace ae:=ybb ae hb;replace HB:=ybs hb;(try clear hb);(try clear ho0))|((with_reducible refine gate_dst (N:=8) rfl ?_);refine ybx 8 #[.int .u64 0, .slice none 0 0] 69 ?_;intro al hg w64 hbox hb;replace aa:=yVe aa hg hb;replace ag:=yVe ag hg hb;have ah:=zm (hbox);have bb:=ygw hg;have bc:=ygw hg;replace HB:=ybs hb;have aq:=ynl ac hg;have au:=yng ac hg;replace ac:=ybb ac hb;have av:=ynl ae hg;have aw:=yng ae hg;replace ae:=ybb ae hb;clear hb hbox hg;have:=au.out;have:=aq.out;have:=aw.out;have:=av.out;obtain ⟨_,_,_,_⟩:=yc2 ah;obtain ⟨bR,bS,bJ⟩:=Kd.V_slice ag.out;subst bJ;obtain ⟨_,_,_,_⟩:=yc2 ac;obtain ⟨_,_,_,_⟩:=yc2 ae))
  refine bodyPost_ret (results_ct rfl _ _ af 69 #[.int .u64 am, .slice ax ai.length ay] (0,0) _ rfl (ykp ae) Try.underlying69 rfl (by kernel_rfl)) rfl ?_
  exact ⟨_,ye,yV0 aa,yhb⟩
mutual
def r11_Put.j0 : Nat→List Int→List Int→Bool→Bool→Int→List Int→Option (Int × List Int × Int)
 | 0,_,_,_,_,_,_=>none
 | k+1,x1,x2,x3,x26,ap,aq=>if x26=true then (some (ap,aq,1)) else (r11_Put.l0 k x1 x2 x3 0 ap aq ap aq)
def r11_Put.l0 : Nat→List Int→List Int→Bool→Int→Int→List Int→Int→List Int→Option (Int × List Int × Int)
 | 0,_,_,_,_,_,_,_,_=>none
 | k+1,x1,x2,x3,x11,ap,aq,aD,aE=>if x11 < 5 then (if x3=true then (r11_Put.j3 k x1 x2 x3 x11 x3 ap aq aD aE) else (if 0≤x11 then (if x11 < (x1.length : Int) then (if x11 < (x2.length : Int) then (if (wrap64 ((wrap64 ((rd x1 x11) - (rd x2 x11)))+3)) < 0 then (r11_Put.j2 k x1 x2 x3 x11 x3 (wrap64 ((wrap64 ((rd x1 x11) - (rd x2 x11)))+3)) true ap aq aD aE) else (r11_Put.j2 k x1 x2 x3 x11 x3 (wrap64 ((wrap64 ((rd x1 x11) - (rd x2 x11)))+3)) (decide ((wrap64 ((wrap64 ((rd x1 x11) - (rd x2 x11)))+3)) > 6)) ap aq aD aE)) else (none)) else (none)) else (none))) else (some (aD,aE,0))
def r11_Put.j3 : Nat→List Int→List Int→Bool→Int→Bool→Int→List Int→Int→List Int→Option (Int × List Int × Int)
 | 0,_,_,_,_,_,_,_,_,_=>none
 | k+1,x1,x2,x3,x11,x13,ap,aq,aD,aE=>if x13=true then (if 0≤x11 then (if x11 < (x1.length : Int) then ((r05_PutNum.f k aD aE (IntKind.u64.wrap (rd x1 x11)) 45).bind fun a9=>(if a9.2.2=0 then (r11_Put.l0 k x1 x2 x3 (wrap64 (x11+1)) ap aq a9.1 a9.2.1) else (some (ap,aq,a9.2.2)))) else (none)) else (none)) else (r11_Put.l0 k x1 x2 x3 (wrap64 (x11+1)) ap aq aD aE)
def r11_Put.j2 : Nat→List Int→List Int→Bool→Int→Bool→Int→Bool→Int→List Int→Int→List Int→Option (Int × List Int × Int)
 | 0,_,_,_,_,_,_,_,_,_,_,_=>none
 | k+1,x1,x2,x3,x11,x13,x14,x51,ap,aq,aD,aE=>if x51=true then ((r05_Put.f k aD aE 7 (7+1) 8).bind fun ba=>(if ba.2.2=0 then (r11_Put.j3 k x1 x2 x3 x11 true ap aq ba.1 ba.2.1) else (some (ap,aq,ba.2.2)))) else ((r05_Put.f k aD aE x14 (wrap64 (x14+1)) 8).bind fun bb=>(if bb.2.2=0 then (r11_Put.j3 k x1 x2 x3 x11 x13 ap aq bb.1 bb.2.1) else (some (ap,aq,bb.2.2))))
end
def r11_Put.f (k : Nat) (aK : Int) (aA : List Int) (l1 : List Int) (l2 : List Int) (a3 : Bool) : Option (Int × List Int × Int):=(r11_Right.f k l1).bind fun bO=>(if bO=true then (if a3=true then (r11_Put.j0 k l1 l2 a3 false aK aA) else ((r11_Right.f k l2).bind fun bk=>(r11_Put.j0 k l1 l2 a3 (!bk) aK aA))) else (r11_Put.j0 k l1 l2 a3 true aK aA))
theorem r11_Put.mono_l : ∀ k,(∀ y0 y1 y2 y3 y4 y5,LeO (r11_Put.j0 k y0 y1 y2 y3 y4 y5) (r11_Put.j0 (k+1) y0 y1 y2 y3 y4 y5))∧(∀ y0 y1 y2 y3 y4 y5 y6 y7,LeO (r11_Put.l0 k y0 y1 y2 y3 y4 y5 y6 y7) (r11_Put.l0 (k+1) y0 y1 y2 y3 y4 y5 y6 y7))∧(∀ y0 y1 y2 y3 y4 y5 y6 y7 y8,LeO (r11_Put.j3 k y0 y1 y2 y3 y4 y5 y6 y7 y8) (r11_Put.j3 (k+1) y0 y1 y2 y3 y4 y5 y6 y7 y8))∧(∀ y0 y1 y2 y3 y4 y5 y6 y7 y8 y9 y10,LeO (r11_Put.j2 k y0 y1 y2 y3 y4 y5 y6 y7 y8 y9 y10) (r11_Put.j2 (k+1) y0 y1 y2 y3 y4 y5 y6 y7 y8 y9 y10))
 | 0=>⟨fun _ _ _ _ _ _ r h=>by simp [r11_Put.j0] at h,fun _ _ _ _ _ _ _ _ r h=>by simp [r11_Put.l0] at h,fun _ _ _ _ _ _ _ _ _ r h=>by simp [r11_Put.j3] at h,fun _ _ _ _ _ _ _ _ _ _ _ r h=>by simp [r11_Put.j2] at h⟩
 | k+1=>by
  obtain ⟨ih0,ih1,ih2,ih3⟩:=r11_Put.mono_l k
  refine ⟨?_, ?_, ?_, ?_⟩
  ·
   intro y0 y1 y2 y3 y4 y5
   unfold r11_Put.j0
   repeat' with_reducible first|apply ih0|apply ih1|apply ih2|apply ih3|apply r05_Put.mono|apply r05_PutNum.mono|apply r11_Right.mono|apply yLr|apply yLn|apply yLi|apply yLb|intro _
  ·
   intro y0 y1 y2 y3 y4 y5 y6 y7
   unfold r11_Put.l0
   repeat' with_reducible first|apply ih0|apply ih1|apply ih2|apply ih3|apply r05_Put.mono|apply r05_PutNum.mono|apply r11_Right.mono|apply yLr|apply yLn|apply yLi|apply yLb|intro _
  ·
   intro y0 y1 y2 y3 y4 y5 y6 y7 y8
   unfold r11_Put.j3
   repeat' with_reducible first|apply ih0|apply ih1|apply ih2|apply ih3|apply r05_Put.mono|apply r05_PutNum.mono|apply r11_Right.mono|apply yLr|apply yLn|apply yLi|apply yLb|intro _
  intro y0 y1 y2 y3 y4 y5 y6 y7 y8 y9 y10
  unfold r11_Put.j2
  repeat' with_reducible first|apply ih0|apply ih1|apply ih2|apply ih3|apply r05_Put.mono|apply r05_PutNum.mono|apply r11_Right.mono|apply yLr|apply yLn|apply yLi|apply yLb|intro _
theorem r11_Put.mono : ∀ a0 a1 a2 a3 a4 k,LeO (r11_Put.f k a0 a1 a2 a3 a4) (r11_Put.f (k+1) a0 a1 a2 a3 a4):=by
 intro a0 a1 a2 a3 a4 k
 obtain ⟨ih0,ih1,ih2,ih3⟩:=r11_Put.mono_l k
 unfold r11_Put.f
 repeat' with_reducible first|apply ih0|apply ih1|apply ih2|apply ih3|apply r05_Put.mono|apply r05_PutNum.mono|apply r11_Right.mono|apply yLr|apply yLn|apply yLi|apply yLb|intro _
def r11_Put.T10 : Bool × List (List Nat × List Nat):=(true, [([], []),([], []),([0,1], [0,1]),([2], [2]),([], []),([], []),([4,5], [4,5]),([6], [6]),([3,7], [3,7]),([8], [8]),([9,0,1,2,3,4,5,6,7,8,9], [9])])
def r11_Put.B10 : List Nat := [0,0,3,7,0,0,48,112,255,511,1023]
theorem r11_Put.tab10 : rtab .any (opsOf Try.f38 10)=r11_Put.T10:=by kernel_rfl
theorem r11_Put.bits10 : waitsOk r11_Put.T10.2 r11_Put.B10=true:=by kernel_rfl
def r11_Put.T18 : Bool × List (List Nat × List Nat):=(true, [([], []),([], []),([], []),([1,2], [1,2]),([3], [3]),([4], [4]),([0,5], [0,5]),([6], [6]),([7], [7]),([7], [7]),([8,6,0,1,2,3,4,5,6,7,8], [8]),([9,10,0,1,2,3,4,5,6,7,8,9,10], [9])])
def r11_Put.B18 : List Nat := [0,0,0,6,14,30,63,127,255,255,511,2047]
theorem r11_Put.tab18 : rtab .any (opsOf Try.f38 18)=r11_Put.T18:=by kernel_rfl
theorem r11_Put.bits18 : waitsOk r11_Put.T18.2 r11_Put.B18=true:=by kernel_rfl
set_option maxHeartbeats 8000000 in
set_option maxRecDepth 100000 in
theorem r11_Put.calls (k : Nat) (aK : Int) (az : Nat→Prop) (aN : Option Addr) (aQ : Nat) (aA : List Int) (A1 : Option Addr) (c1 : Nat) (l1 : List Int) (A2 : Option Addr) (c2 : Nat) (l2 : List Int) (a3 : Bool) (r1 : Int) (r2 : List Int) (r3 : Int) (w : World) (b6 : Kd.V (Kd.int .i64) 3 w w.heap.size (fun k_=>az k_) (.slice aN aA.length aQ) aA) (hr1 : Kd.C (Kd.int .i64) w A1 l1.length l1) (hc1 : l1.length≤c1) (hr2 : Kd.C (Kd.int .i64) w A2 l2.length l2) (hc2 : l2.length≤c2) (h : r11_Put.f k aK aA l1 l2 a3=some (r1,r2,r3)) :
  Calls Try.prog 38 #[.agg #[.int .u64 aK, .slice aN aA.length aQ], .slice A1 l1.length c1, .slice A2 l2.length c2, .bool a3] w fun e w' => ∃ v1_ : Value,e=.returned (.tuple #[.agg #[.int .u64 r1,v1_], .int .i64 r3])∧Kd.V (Kd.int .i64) 3 w' w.heap.size (fun k_=>(az k_∨w.heap.size≤k_)) v1_ r2∧Below w.heap.size w w' := by
 have hu69:=Try.underlying69
 have aW:=zm (show Kd.V (Kd.int .i64) 3 w w.heap.size (fun k_=>(az k_∨w.heap.size≤k_)) (.slice aN aA.length aQ) aA from zy b6 (fun k_ hk => .inl hk))
 have HR1:=zm hr1;have HC1:=zm hc1;clear hr1 hc1;have HR2:=zm hr2;have HC2:=zm hc2;clear hr2 hc2;have HB:=zm (Below.refl w.heap.size w);have H:=h
 unfold r11_Put.f at H
 clear h;have HC5:=zm H;clear H
 go_enter Try.func38,Try.ntmps38
 go_upto_region 1 with (first|((with_reducible refine gate_dst (N:=4) rfl ?_);refine ybx 4 #[.int .u64 aK, .slice aN aA.length aQ] 69 ?_;intro ay hg w6 hbox hb;replace aW:=yVe aW hg hb;have ah:=zm (hbox);have cT:=ygw hg;have cU:=ygw hg;replace HB:=ybs hb;clear hb hbox hg)|((with_reducible refine gate_dst (N:=8) rfl ?_);refine ybx 8 #[.int .u64 0, .slice none 0 0] 69 ?_;intro ao hg w7 hbox hb;replace aW:=yVe aW hg hb;have af:=zm (hbox);have cV:=ygw hg;have cW:=ygw hg;replace HB:=ybs hb;have aH:=ynl ah hg;have aI:=yng ah hg;replace ah:=ybb ah hb;clear hb hbox hg))
 (try simp only [Act.put,List.setIfInBounds_toArray,List.set_cons_zero,List.set_cons_succ])
 go_cut [26] (fun v26 wc => ∃ (kq : Nat) (bc : Bool),v26=.bool bc∧Aside0 (r11_Put.j0 kq l1 l2 a3 bc aK aA=some (r1,r2,r3))∧Aside0 (kq≤k)∧Aside0 (Kd.V (Kd.int .i64) 3 wc w.heap.size (fun k_=>(az k_∨w.heap.size≤k_)∧k_≠ay∧k_≠ao) (.slice aN aA.length aQ) aA)∧Aside0 (wc.heap[ay]? = some (.cells #[.int .u64 aK,(.slice aN aA.length aQ)] 69 (0,0)))∧Aside0 (wc.heap[ao]? = some (.cells #[.int .u64 0,(.slice none 0 0)] 69 (0,0)))∧Aside0 (Below w.heap.size w wc))
 case first =>
  have H:=HC5.out;clear HC5
  obtain ⟨bO,A8,H⟩:=ybi H
  by_cases c9 : bO=true
  ·
   subst c9
   rw [if_pos rfl] at H
   by_cases c10 : a3=true
   ·
    subst c10
    rw [if_pos rfl] at H
    have H' := zm H
    clear H
    go_wp2_with (first|((with_reducible refine gate_callee (f:=47) rfl ?_);refine ygl 16 Try.func47 #[.slice A1 l1.length c1] ?_;(with_reducible refine (r11_Right.calls k _ _ l1 true _ ?aT HC1.out A8.out).mono ?_);(case aT=>exact ycb HR1);rintro e w' ⟨rfl,⟨nd,rfl⟩⟩;refine ⟨_,rfl, ?_⟩))
    go_meet
    case rel=>exact ⟨_,(false),yq,H',⟨yo⟩,⟨yV0 aW⟩,⟨yk ah⟩,⟨yk af⟩,⟨yhb⟩⟩
   replace c10:=Bool.eq_false_iff.mpr c10
   subst c10
   rw [ynf] at H
   obtain ⟨bk,A11,H⟩:=ybi H
   have H' := zm H
   clear H
   go_wp2_with (first|((with_reducible refine gate_callee (f:=47) rfl ?_);refine ygl 16 Try.func47 #[.slice A1 l1.length c1] ?_;(with_reducible refine (r11_Right.calls k _ _ l1 true _ ?aT HC1.out A8.out).mono ?_);(case aT=>exact ycb HR1);rintro e w' ⟨rfl,⟨nd,rfl⟩⟩;refine ⟨_,rfl, ?_⟩)|(go_at_call 47;(with_reducible refine (r11_Right.calls k _ _ l2 bk _ ?aT HC2.out A11.out).mono ?_);(case aT=>exact ycb HR2);rintro e w' ⟨rfl,⟨nd,rfl⟩⟩))
   go_meet
   case rel=>exact ⟨_,(!bk),yq,H',⟨yo⟩,⟨yV0 aW⟩,⟨yk ah⟩,⟨yk af⟩,⟨yhb⟩⟩
  replace c9:=Bool.eq_false_iff.mpr c9
  subst c9
  rw [ynf] at H
  have H' := zm H
  clear H
  go_wp2_with (first|((with_reducible refine gate_callee (f:=47) rfl ?_);refine ygl 16 Try.func47 #[.slice A1 l1.length c1] ?_;(with_reducible refine (r11_Right.calls k _ _ l1 false _ ?aT HC1.out A8.out).mono ?_);(case aT=>exact ycb HR1);rintro e w' ⟨rfl,⟨nd,rfl⟩⟩;refine ⟨_,rfl, ?_⟩))
  go_meet
  case rel=>exact ⟨_,(true),yq,H',⟨yo⟩,⟨yV0 aW⟩,⟨yk ah⟩,⟨yk af⟩,⟨yhb⟩⟩
 case rest =>
  clear HC5
  try clear c1
  try clear c2
  obtain ⟨kq,bc,rfl,HA,HJ4,ac,ah,af,HB⟩:=hcut
  obtain ⟨kj4,rfl⟩:=ysu kq (fun h=>by subst h;exact absurd HA.out (by simp [r11_Put.j0]))
  have H:=HA.out;clear HA
  simp only [r11_Put.j0] at H
  by_cases c12 : bc=true
  ·
   subst c12
   rw [if_pos rfl] at H
   simp only [Option.some.injEq,Prod.mk.injEq] at H
   obtain ⟨rfl,rfl,rfl⟩:=H
   have:=aH.out
   have:=aI.out
   obtain ⟨bl,bm,bn,bo⟩:=yc2 ah
   obtain ⟨bp,bq,br,bs⟩:=yc2 af
   go_wp2
   refine bodyPost_ret (results_ct rfl _ _ ao 69 #[.int .u64 aK, .slice aN aA.length aQ] (0,0) _ rfl (ykp af) Try.underlying69 rfl (by kernel_rfl)) rfl ?_
   exact ⟨_,ye,yV0 ac,yhb⟩
  replace c12:=Bool.eq_false_iff.mpr c12
  subst c12
  rw [ynf] at H
  have H' := zm H
  clear H
  have:=aH.out
  have:=aI.out
  obtain ⟨bv,bw,bx,bz⟩:=yc2 ah
  go_wp2_with (first|((with_reducible refine gate_dst (N:=10) rfl ?_);refine ybx 10 #[.int .u64 0, .slice none 0 0] 69 ?_;intro am hg w18 hbox hb;replace ac:=yVe ac hg hb;have ag:=zm (hbox);have cX:=ygw hg;have cY:=ygw hg;replace HB:=ybs hb;have au:=ynl ah hg;have av:=yng ah hg;replace ah:=ybb ah hb;have aw:=ynl af hg;have ax:=yng af hg;replace af:=ybb af hb;clear hb hbox hg;have:=av.out;have:=au.out;have:=ax.out;have:=aw.out;obtain ⟨bA,bB,bC,bD⟩:=yc2 ag))
  go_loopg [11] kj4 (fun kq v11 w' => ∃ (ae : Int) (aJ : Int) (ai : Int) (aj : List Int) (aC : Value),v11=.int .i64 ae∧Aside0 (r11_Put.l0 kq l1 l2 a3 ae aK aA ai aj=some (r1,r2,r3))∧Aside0 (kq≤kj4)∧Aside0 (Kd.V (Kd.int .i64) 3 w' w.heap.size (fun k_=>(az k_∨w.heap.size≤k_)∧k_≠ay∧k_≠ao∧k_≠am) (.slice aN aA.length aQ) aA)∧Aside0 (Kd.V (Kd.int .i64) 3 w' w.heap.size (fun k_=>(az k_∨w.heap.size≤k_)∧k_≠ay∧k_≠ao∧k_≠am) aC aj)∧Aside0 (w'.heap[ay]? = some (.cells #[.int .u64 aK,(.slice aN aA.length aQ)] 69 (0,0)))∧Aside0 (w'.heap[ao]? = some (.cells #[.int .u64 aJ,(.slice none 0 0)] 69 (0,0)))∧Aside0 (w'.heap[am]? = some (.cells #[.int .u64 ai,aC] 69 (0,0)))∧Aside0 (Below w.heap.size w w'))
  case atStart=>exact ⟨(0),(0),(aK),(aA),(.slice aN aA.length aQ),yq,H',⟨Nat.le_refl _⟩,⟨yV0 ac⟩,⟨yV0 ac⟩,⟨yk ah⟩,⟨yk af⟩,⟨ykp ag⟩,⟨yhb⟩⟩
  case round =>
   clear H'
   try clear bl
   try clear bm
   try clear bp
   try clear bq
   try clear bv
   try clear bw
   try clear bA
   try clear bB
   try clear bn
   try clear bo
   try clear br
   try clear bs
   try clear bx
   try clear bz
   try clear bC
   try clear bD
   obtain ⟨ae,aJ,ai,aj,aC,rfl,HA,HK2,ac,aa,ah,af,ag,HB⟩:=hrel
   obtain ⟨k2,rfl⟩:=ysu gk (fun h=>by subst h;exact absurd HA.out (by simp [r11_Put.l0]))
   have H:=HA.out;clear HA
   simp only [r11_Put.l0] at H
   by_cases c22 : ae < 5
   ·
    rw [if_pos c22] at H
    have bh:=yD c22
    clear c22;have bP:=zm H;clear H
    go_upto_if 35 with (fail)
    go_cut [13] (fun v13 wc => ∃ (kq : Nat) (aX : Bool) (aM : Int) (ak : Int) (al : List Int) (aC : Value),v13=.bool aX∧Aside0 (r11_Put.j3 kq l1 l2 a3 ae aX aK aA ak al=some (r1,r2,r3))∧Aside0 (kq≤k2)∧Aside0 (Kd.V (Kd.int .i64) 3 wc w.heap.size (fun k_=>(az k_∨w.heap.size≤k_)∧k_≠ay∧k_≠ao∧k_≠am) (.slice aN aA.length aQ) aA)∧Aside0 (Kd.V (Kd.int .i64) 3 wc w.heap.size (fun k_=>(az k_∨w.heap.size≤k_)∧k_≠ay∧k_≠ao∧k_≠am) aC al)∧Aside0 (wc.heap[ay]? = some (.cells #[.int .u64 aK,(.slice aN aA.length aQ)] 69 (0,0)))∧Aside0 (wc.heap[ao]? = some (.cells #[.int .u64 aM,(.slice none 0 0)] 69 (0,0)))∧Aside0 (wc.heap[am]? = some (.cells #[.int .u64 ak,aC] 69 (0,0)))∧Aside0 (Below w.heap.size w wc))
    case first =>
     have H:=bP.out;clear bP
     by_cases c24 : a3=true
     ·
      subst c24
      rw [if_pos rfl] at H
      have H' := zm H
      clear H
      go_wp2
      go_meet
      case rel=>exact ⟨_,(true),(aJ),(ai),(aj),(aC),yq,H',⟨yom2 HJ4 HK2⟩,⟨yr ac⟩,⟨yr aa⟩,⟨yk ah⟩,⟨yk af⟩,⟨yk ag⟩,⟨yhb⟩⟩
     replace c24:=Bool.eq_false_iff.mpr c24
     subst c24
     rw [ynf] at H
     obtain ⟨c25,H⟩:=yif H
     have bi : decide (0≤ae)=true:=decide_eq_true c25
     clear c25
     (first|rw [bi]|(simp only [i64_w,i32_w];rw [bi])|skip)
     obtain ⟨c26,H⟩:=yif H
     have b7 : decide (ae < (l1.length : Int))=true:=decide_eq_true c26
     clear c26
     obtain ⟨c27,H⟩:=yif H
     have b8 : decide (ae < (l2.length : Int))=true:=decide_eq_true c27
     clear c27;have bQ:=zm H;clear H
     try go_wp2
     replace ac:=zm (zC ac.out)
     replace aa:=zm (zC aa.out)
     replace ah:=zm (zj ah.out)
     replace af:=zm (zj af.out)
     replace ag:=zm (zj ag.out)
     replace HB:=zm (zf HB.out)
     have bE : 0≤(ae : Int):=yt
     have bF : ae < (l1.length : Int):=yt
     obtain ⟨b9,co,aU⟩:=Kd.at_int HR1.out ae bE bF
     have hw810_0:=aU
     cases co
     replace aU:=yhx HB aU
     replace bE:=eq_true bE
     replace bF:=eq_true bF
     have bG : 0≤(ae : Int):=yt
     have bH : ae < (l2.length : Int):=yt
     obtain ⟨ca,cp,aV⟩:=Kd.at_int HR2.out ae bG bH
     have hw811_0:=aV
     cases cp
     replace aV:=yhx HB aV
     replace bG:=eq_true bG
     replace bH:=eq_true bH
     refine yst (fun w' => w'.cell? (b9.add (ae).toNat)=some (.int .i64 (rd l1 ae))∧w'.cell? (ca.add (ae).toNat)=some (.int .i64 (rd l2 ae))) [] 11 r11_Put.tab10 r11_Put.bits10 (fun hHeld HT_ HW_ => ?_)
     generalize wr.drew=w29 at ac aa ah af ag HB aU aV hHeld ⊢
     refine yp 0 36 HT_ ?_
     refine yp 1 37 HT_ ?_
     refine yp 2 38 HT_ ?_
     refine yp 4 40 HT_ ?_
     refine yp 5 41 HT_ ?_
     refine yp 6 42 HT_ ?_
     refine yl 3 39 HT_ HW_ hHeld ?_
     refine yl 7 43 HT_ HW_ hHeld ?_
     refine yp 8 44 HT_ ?_
     refine yp 9 45 HT_ ?_
     refine yp 10 14 HT_ ?_
     refine done_ (done_of HT_.out (by kernel_rfl)) ?_
     go_upto_region 11 with (fail)
     go_cut [51] (fun v51 wc => ∃ (kq : Nat) (aY : Bool),v51=.bool aY∧Aside0 (r11_Put.j2 kq l1 l2 false ae false (wrap64 ((wrap64 ((rd l1 ae) - (rd l2 ae)))+3)) aY aK aA ai aj=some (r1,r2,r3))∧Aside0 (kq≤k2)∧Aside0 (Kd.V (Kd.int .i64) 3 wc w.heap.size (fun k_=>(az k_∨w.heap.size≤k_)∧k_≠ay∧k_≠ao∧k_≠am) (.slice aN aA.length aQ) aA)∧Aside0 (Kd.V (Kd.int .i64) 3 wc w.heap.size (fun k_=>(az k_∨w.heap.size≤k_)∧k_≠ay∧k_≠ao∧k_≠am) aC aj)∧Aside0 (wc.heap[ay]? = some (.cells #[.int .u64 aK,(.slice aN aA.length aQ)] 69 (0,0)))∧Aside0 (wc.heap[ao]? = some (.cells #[.int .u64 aJ,(.slice none 0 0)] 69 (0,0)))∧Aside0 (wc.heap[am]? = some (.cells #[.int .u64 ai,aC] 69 (0,0)))∧Aside0 (Below w.heap.size w wc))
     case first =>
      have H:=bQ.out;clear bQ
      by_cases c30 : (wrap64 ((wrap64 ((rd l1 ae) - (rd l2 ae)))+3)) < 0
      ·
       rw [if_pos c30] at H
       have aZ:=yD c30
       clear c30
       (first|rw [aZ]|(simp only [i64_w,i32_w];rw [aZ])|skip)
       have H' := zm H
       clear H
       go_wp2
       go_meet
       case rel=>exact ⟨_,(true),yq,H',⟨yom2 HJ4 HK2⟩,⟨yr ac⟩,⟨yr aa⟩,⟨yk ah⟩,⟨yk af⟩,⟨yk ag⟩,⟨yhb⟩⟩
      rw [if_neg c30] at H
      have aZ:=yG c30
      clear c30
      (first|rw [aZ]|(simp only [i64_w,i32_w];rw [aZ])|skip)
      have H' := zm H
      clear H
      go_wp2
      go_meet
      case rel=>exact ⟨_,(decide ((wrap64 ((wrap64 ((rd l1 ae) - (rd l2 ae)))+3)) > 6)),yq,H',⟨yom2 HJ4 HK2⟩,⟨yr ac⟩,⟨yr aa⟩,⟨yk ah⟩,⟨yk af⟩,⟨yk ag⟩,⟨yhb⟩⟩
     case rest =>
      clear bQ
      try clear bh
      try clear bi
      try clear b7
      try clear b8
      try clear aU
      try clear aV
      try clear bE
      try clear bG
      try clear bF
      try clear bH
      obtain ⟨kq,aY,rfl,HA,cb,ac,aa,ah,af,ag,HB⟩:=hcut
      obtain ⟨bI,rfl⟩:=ysu kq (fun h=>by subst h;exact absurd HA.out (by simp [r11_Put.j2]))
      have H:=HA.out;clear HA
      simp only [r11_Put.j2] at H
      by_cases c31 : aY=true
      ·
       subst c31
       rw [if_pos rfl] at H
       obtain ⟨⟨bR,bJ,bS⟩,A32,H⟩:=ybi H
       try dsimp only at H
       by_cases c33 : bS=0
       ·
        rw [if_pos c33] at H
        obtain ⟨ce,cf⟩:=yE c33
        clear c33
        have H' := zm H
        clear H
        have:=av.out
        have:=au.out
        have:=ax.out
        have:=aw.out
        obtain ⟨_,_,_,_⟩:=yc2 ag
        obtain ⟨cq,cr,ct⟩:=Kd.V_slice aa.out
        subst ct
        go_wp2_with (first|((with_reducible refine gate_callee (f:=37) rfl ?_);refine ygl 57 Try.func37 #[.agg #[.int .u64 ai, .slice cq aj.length cr], .int .i64 7, .int .i64 (7+1), .int .i64 8] ?_;(with_reducible refine (r05_Put.calls bI ai (fun k_=>((az k_∨w.heap.size≤k_)∧(k_≠ay∧(k_≠ao∧k_≠am)))) _ _ aj 7 (7+1) 8 bR bJ bS _ aa.out A32.out).mono ?_);rintro e w38 ⟨cu,rfl,ho0,hb⟩;refine ⟨_,rfl, ?_⟩;replace ac:=yVb ac hb;replace aa:=yVb aa hb;have bd:=yho (fun k_=>(az k_∨w.heap.size≤k_)∧k_≠ay∧k_≠ao∧k_≠am) ho0 (fun k_ hk_=>⟨Or.elim hk_ (fun hs_=>hs_.1) (fun hn_=>(.inr (Nat.le_trans (zE yhb) hn_))),yoB ah hk_,yoB af hk_,yoB ag hk_⟩);replace ah:=ybb ah hb;replace af:=ybb af hb;replace ag:=ybb ag hb;replace HB:=ybs hb;(try clear hb);(try clear ho0);obtain ⟨_,_,_,_⟩:=yc2 ag;obtain ⟨cv,cw,cx⟩:=Kd.V_slice bd.out;subst cx))
        go_meet
        case rel=>exact ⟨_,(true),(aJ),(bR),(bJ),(.slice cv bJ.length cw),yq,H',⟨yom3 HJ4 HK2 cb⟩,⟨yV0 ac⟩,⟨yV0 bd⟩,⟨yk ah⟩,⟨yk af⟩,⟨ykp ag⟩,⟨yhb⟩⟩
       rw [if_neg c33] at H
       obtain ⟨ce,cf⟩:=yF c33
       simp only [Option.some.injEq,Prod.mk.injEq] at H
       obtain ⟨rfl,rfl,rfl⟩:=H
       have:=av.out
       have:=au.out
       have:=ax.out
       have:=aw.out
       obtain ⟨_,_,_,_⟩:=yc2 ag
       obtain ⟨cy,cz,cA⟩:=Kd.V_slice aa.out
       subst cA
       go_wp2_with (first|((with_reducible refine gate_callee (f:=37) rfl ?_);refine ygl 57 Try.func37 #[.agg #[.int .u64 ai, .slice cy aj.length cz], .int .i64 7, .int .i64 (7+1), .int .i64 8] ?_;(with_reducible refine (r05_Put.calls bI ai (fun k_=>((az k_∨w.heap.size≤k_)∧(k_≠ay∧(k_≠ao∧k_≠am)))) _ _ aj 7 (7+1) 8 bR bJ bS _ aa.out A32.out).mono ?_);rintro e w45 ⟨cu,rfl,ho0,hb⟩;refine ⟨_,rfl, ?_⟩;replace ac:=yVb ac hb;replace aa:=yVb aa hb;have bd:=yho (fun k_=>(az k_∨w.heap.size≤k_)∧k_≠ay∧k_≠ao∧k_≠am) ho0 (fun k_ hk_=>⟨Or.elim hk_ (fun hs_=>hs_.1) (fun hn_=>(.inr (Nat.le_trans (zE yhb) hn_))),yoB ah hk_,yoB af hk_,yoB ag hk_⟩);replace ah:=ybb ah hb;replace af:=ybb af hb;replace ag:=ybb ag hb;replace HB:=ybs hb;(try clear hb);(try clear ho0);obtain ⟨_,_,_,_⟩:=yc2 ag;obtain ⟨db,dc,cB⟩:=Kd.V_slice bd.out;subst cB;have:=aH.out;have:=aI.out;obtain ⟨_,_,_,_⟩:=yc2 ah;obtain ⟨_,_,_,_⟩:=yc2 af))
       refine bodyPost_ret (results_ct rfl _ _ ao 69 #[.int .u64 aK, .slice aN aA.length aQ] (0,0) _ rfl (ykp af) Try.underlying69 rfl (by kernel_rfl)) rfl ?_
       exact ⟨_,ye,yV0 ac,yhb⟩
      replace c31:=Bool.eq_false_iff.mpr c31
      subst c31
      rw [ynf] at H
      obtain ⟨⟨bT,bK,bU⟩,A51,H⟩:=ybi H
      try dsimp only at H
      by_cases c52 : bU=0
      ·
       rw [if_pos c52] at H
       obtain ⟨cg,ch⟩:=yE c52
       clear c52
       have H' := zm H
       clear H
       have:=av.out
       have:=au.out
       have:=ax.out
       have:=aw.out
       obtain ⟨_,_,_,_⟩:=yc2 ag
       obtain ⟨cC,cD,cE⟩:=Kd.V_slice aa.out
       subst cE
       go_wp2_with (first|((with_reducible refine gate_callee (f:=37) rfl ?_);refine ygl 57 Try.func37 #[.agg #[.int .u64 ai, .slice cC aj.length cD], .int .i64 (wrap64 ((wrap64 ((rd l1 ae) - (rd l2 ae)))+3)), .int .i64 (wrap64 ((wrap64 ((wrap64 ((rd l1 ae) - (rd l2 ae)))+3))+1)), .int .i64 8] ?_;(with_reducible refine (r05_Put.calls bI ai (fun k_=>((az k_∨w.heap.size≤k_)∧(k_≠ay∧(k_≠ao∧k_≠am)))) _ _ aj (wrap64 ((wrap64 ((rd l1 ae) - (rd l2 ae)))+3)) (wrap64 ((wrap64 ((wrap64 ((rd l1 ae) - (rd l2 ae)))+3))+1)) 8 bT bK bU _ aa.out A51.out).mono ?_);rintro e w57 ⟨cF,rfl,ho0,hb⟩;refine ⟨_,rfl, ?_⟩;replace ac:=yVb ac hb;replace aa:=yVb aa hb;have bf:=yho (fun k_=>(az k_∨w.heap.size≤k_)∧k_≠ay∧k_≠ao∧k_≠am) ho0 (fun k_ hk_=>⟨Or.elim hk_ (fun hs_=>hs_.1) (fun hn_=>(.inr (Nat.le_trans (zE yhb) hn_))),yoB ah hk_,yoB af hk_,yoB ag hk_⟩);replace ah:=ybb ah hb;replace af:=ybb af hb;replace ag:=ybb ag hb;replace HB:=ybs hb;(try clear hb);(try clear ho0);obtain ⟨_,_,_,_⟩:=yc2 ag;obtain ⟨cG,cH,cI⟩:=Kd.V_slice bf.out;subst cI))
       go_meet
       case rel=>exact ⟨_,(false),(aJ),(bT),(bK),(.slice cG bK.length cH),yq,H',⟨yom3 HJ4 HK2 cb⟩,⟨yV0 ac⟩,⟨yV0 bf⟩,⟨yk ah⟩,⟨yk af⟩,⟨ykp ag⟩,⟨yhb⟩⟩
      rw [if_neg c52] at H
      obtain ⟨cg,ch⟩:=yF c52
      simp only [Option.some.injEq,Prod.mk.injEq] at H
      obtain ⟨rfl,rfl,rfl⟩:=H
      have:=av.out
      have:=au.out
      have:=ax.out
      have:=aw.out
      obtain ⟨_,_,_,_⟩:=yc2 ag
      obtain ⟨cJ,cK,cL⟩:=Kd.V_slice aa.out
      subst cL
      go_wp2_with (first|((with_reducible refine gate_callee (f:=37) rfl ?_);refine ygl 57 Try.func37 #[.agg #[.int .u64 ai, .slice cJ aj.length cK], .int .i64 (wrap64 ((wrap64 ((rd l1 ae) - (rd l2 ae)))+3)), .int .i64 (wrap64 ((wrap64 ((wrap64 ((rd l1 ae) - (rd l2 ae)))+3))+1)), .int .i64 8] ?_;(with_reducible refine (r05_Put.calls bI ai (fun k_=>((az k_∨w.heap.size≤k_)∧(k_≠ay∧(k_≠ao∧k_≠am)))) _ _ aj (wrap64 ((wrap64 ((rd l1 ae) - (rd l2 ae)))+3)) (wrap64 ((wrap64 ((wrap64 ((rd l1 ae) - (rd l2 ae)))+3))+1)) 8 bT bK bU _ aa.out A51.out).mono ?_);rintro e w64 ⟨cF,rfl,ho0,hb⟩;refine ⟨_,rfl, ?_⟩;replace ac:=yVb ac hb;replace aa:=yVb aa hb;have bf:=yho (fun k_=>(az k_∨w.heap.size≤k_)∧k_≠ay∧k_≠ao∧k_≠am) ho0 (fun k_ hk_=>⟨Or.elim hk_ (fun hs_=>hs_.1) (fun hn_=>(.inr (Nat.le_trans (zE yhb) hn_))),yoB ah hk_,yoB af hk_,yoB ag hk_⟩);replace ah:=ybb ah hb;replace af:=ybb af hb;replace ag:=ybb ag hb;replace HB:=ybs hb;(try clear hb);(try clear ho0);obtain ⟨_,_,_,_⟩:=yc2 ag;obtain ⟨dd,de,cM⟩:=Kd.V_slice bf.out;subst cM;have:=aH.out;have:=aI.out;obtain ⟨_,_,_,_⟩:=yc2 ah;obtain ⟨_,_,_,_⟩:=yc2 af))
      refine bodyPost_ret (results_ct rfl _ _ ao 69 #[.int .u64 aK, .slice aN aA.length aQ] (0,0) _ rfl (ykp af) Try.underlying69 rfl (by kernel_rfl)) rfl ?_
      exact ⟨_,ye,yV0 ac,yhb⟩
    case rest =>
     clear bP
     try clear bh
     obtain ⟨kq,aX,aM,ak,al,aC,rfl,HA,bL,ac,aa,ah,af,ag,HB⟩:=hcut
     obtain ⟨bM,rfl⟩:=ysu kq (fun h=>by subst h;exact absurd HA.out (by simp [r11_Put.j3]))
     have H:=HA.out;clear HA
     simp only [r11_Put.j3] at H
     by_cases c70 : aX=true
     ·
      subst c70
      rw [if_pos rfl] at H
      obtain ⟨c71,H⟩:=yif H
      have cZ : decide (0≤ae)=true:=decide_eq_true c71
      clear c71
      obtain ⟨c72,H⟩:=yif H
      have da : decide (ae < (l1.length : Int))=true:=decide_eq_true c72
      clear c72
      obtain ⟨⟨bV,bN,bW⟩,A73,H⟩:=ybi H
      try dsimp only at H
      by_cases c74 : bW=0
      ·
       rw [if_pos c74] at H
       obtain ⟨ci,cj⟩:=yE c74
       clear c74
       have H' := zm H
       clear H
       try go_wp2
       replace ac:=zm (zC ac.out)
       replace aa:=zm (zC aa.out)
       replace ah:=zm (zj ah.out)
       replace af:=zm (zj af.out)
       replace ag:=zm (zj ag.out)
       replace HB:=zm (zf HB.out)
       have a7 : 0≤(ae : Int):=yt
       have a8 : ae < (l1.length : Int):=yt
       obtain ⟨bj,bX,aG⟩:=Kd.at_int HR1.out ae a7 a8
       have hw822_0:=aG
       cases bX
       replace aG:=yhx HB aG
       replace a7:=eq_true a7
       replace a8:=eq_true a8
       obtain ⟨bY,bZ,ck⟩:=Kd.V_slice aa.out
       (first|subst ck|(injection ck with f1_ f2_ f3_;have f4_:=f1_.symm;have f5_:=f3_.symm;clear f1_ f2_ f3_;subst f4_;subst f5_))
       refine yst (fun w' => w'.cell? ⟨am,0,none⟩=some (.int .u64 ak)∧w'.cell? ⟨am,1,none⟩=some (.slice bY al.length bZ)∧w'.cell? (bj.add (ae).toNat)=some (.int .i64 (rd l1 ae))) [10] 12 r11_Put.tab18 r11_Put.bits18 (fun hHeld HT_ HW_ => ?_)
       generalize wc.drew=w75 at ac aa ah af ag HB aG hHeld ⊢
       refine yp 1 67 HT_ ?_
       refine yp 2 68 HT_ ?_
       refine yp 3 69 HT_ ?_
       refine yl 0 66 HT_ HW_ hHeld ?_
       refine yl 4 70 HT_ HW_ hHeld ?_
       refine yp 5 71 HT_ ?_
       refine yw 6 72 HT_ (fun K hK => ?_)
       refine ygs Try.func41 #[.agg #[.int .u64 ak, .slice bY al.length bZ], .int .u64 (IntKind.u64.wrap (rd l1 ae)), .int .u64 45] ?_
       with_reducible refine (r05_PutNum.calls bM ak (fun k_=>((az k_∨w.heap.size≤k_)∧(k_≠ay∧(k_≠ao∧k_≠am)))) _ _ al (IntKind.u64.wrap (rd l1 ae)) 45 bV bN bW _ ?aT A73.out).mono ?_
       (case aT=>exact aa.out)
       rintro e w77 ⟨cN,rfl,ho0,hb⟩
       refine ⟨_,rfl, ?_⟩
       replace ac:=yVb ac hb
       replace aa:=yVb aa hb
       have bg:=yho (fun k_=>(az k_∨w.heap.size≤k_)∧k_≠ay∧k_≠ao∧k_≠am) ho0 (fun k_ hk_=>⟨Or.elim hk_ (fun hs_=>hs_.1) (fun hn_=>(.inr (Nat.le_trans (zE yhb) hn_))),yoB ah hk_,yoB af hk_,yoB ag hk_⟩)
       replace ah:=ybb ah hb
       replace af:=ybb af hb
       replace ag:=ybb ag hb
       replace HB:=ybs hb
       (try clear hb)
       (try clear ho0)
       obtain ⟨cO,cP,cl⟩:=Kd.V_slice bg.out
       (first|subst cl|(injection cl with f1_ f2_ f3_;have f4_:=f1_.symm;have f5_:=f3_.symm;clear f1_ f2_ f3_;subst f4_;subst f5_))
       refine hK.out _ _ yH (fun hHeld => ?_)
       clear hK K
       refine ym (some 72) ?_
       refine yp 7 65 HT_ ?_
       refine yp 8 73 HT_ ?_
       refine yp 9 74 HT_ ?_
       refine last_ (i:=10) (N:=none) #[true,true,true,true,true,true,true,true,true,true,true,false] rfl rfl (one_of HT_.out (by kernel_rfl)) (by decide) (fun K hK => ?_)
       have df : w77.cell? ⟨am,0,none⟩=some (.int .u64 ak):=(zs ag.out 0).trans rfl
       have hfs78:=zx ag.out 0
       have:=au.out
       have:=aw.out
       have:=av.out
       have:=ax.out
       have dg : w77.cell? ⟨am,1,none⟩=some (.slice bY al.length bZ):=(zs ag.out 1).trans rfl
       have hfs80:=zx ag.out 1
       have:=au.out
       have:=aw.out
       have:=av.out
       have:=ax.out
       refine skip_ (w1 := ?_) (by rfl) rfl ?_ ?_
       rotate_left
       ·
        go_simp
        rfl
       refine hK.out _ _ ?_
       clear hK K
       refine yp 11 12 HT_ ?_
       refine done_ (done_of HT_.out (by kernel_rfl)) ?_
       try go_wp2
       go_roundg bM
       case measure=>exact yom3 HJ4 HK2 bL
       case rel=>exact ⟨(wrap64 (ae+1)),(aM),(bV),(bN),(.slice cO bN.length cP),yq,H',⟨yom3 HJ4 HK2 bL⟩,⟨yV0 ac⟩,⟨yV0 bg⟩,⟨yk ah⟩,⟨yk af⟩,⟨ykp ag⟩,⟨yhb⟩⟩
      rw [if_neg c74] at H
      obtain ⟨ci,cj⟩:=yF c74
      simp only [Option.some.injEq,Prod.mk.injEq] at H
      obtain ⟨rfl,rfl,rfl⟩:=H
      try go_wp2
      replace ac:=zm (zC ac.out)
      replace aa:=zm (zC aa.out)
      replace ah:=zm (zj ah.out)
      replace af:=zm (zj af.out)
      replace ag:=zm (zj ag.out)
      replace HB:=zm (zf HB.out)
      have a7 : 0≤(ae : Int):=yt
      have a8 : ae < (l1.length : Int):=yt
      obtain ⟨bj,bX,aG⟩:=Kd.at_int HR1.out ae a7 a8
      have hw822_0:=aG
      cases bX
      replace aG:=yhx HB aG
      replace a7:=eq_true a7
      replace a8:=eq_true a8
      obtain ⟨b4,b5,cm⟩:=Kd.V_slice aa.out
      (first|subst cm|(injection cm with f1_ f2_ f3_;have f4_:=f1_.symm;have f5_:=f3_.symm;clear f1_ f2_ f3_;subst f4_;subst f5_))
      refine yst (fun w' => w'.cell? ⟨am,0,none⟩=some (.int .u64 ak)∧w'.cell? ⟨am,1,none⟩=some (.slice b4 al.length b5)∧w'.cell? (bj.add (ae).toNat)=some (.int .i64 (rd l1 ae))) [10] 12 r11_Put.tab18 r11_Put.bits18 (fun hHeld HT_ HW_ => ?_)
      generalize wc.drew=w81 at ac aa ah af ag HB aG hHeld ⊢
      refine yp 1 67 HT_ ?_
      refine yp 2 68 HT_ ?_
      refine yp 3 69 HT_ ?_
      refine yl 0 66 HT_ HW_ hHeld ?_
      refine yl 4 70 HT_ HW_ hHeld ?_
      refine yp 5 71 HT_ ?_
      refine yw 6 72 HT_ (fun K hK => ?_)
      refine ygs Try.func41 #[.agg #[.int .u64 ak, .slice b4 al.length b5], .int .u64 (IntKind.u64.wrap (rd l1 ae)), .int .u64 45] ?_
      with_reducible refine (r05_PutNum.calls bM ak (fun k_=>((az k_∨w.heap.size≤k_)∧(k_≠ay∧(k_≠ao∧k_≠am)))) _ _ al (IntKind.u64.wrap (rd l1 ae)) 45 bV bN bW _ ?aT A73.out).mono ?_
      (case aT=>exact aa.out)
      rintro e w83 ⟨cN,rfl,ho0,hb⟩
      refine ⟨_,rfl, ?_⟩
      replace ac:=yVb ac hb
      replace aa:=yVb aa hb
      have bg:=yho (fun k_=>(az k_∨w.heap.size≤k_)∧k_≠ay∧k_≠ao∧k_≠am) ho0 (fun k_ hk_=>⟨Or.elim hk_ (fun hs_=>hs_.1) (fun hn_=>(.inr (Nat.le_trans (zE yhb) hn_))),yoB ah hk_,yoB af hk_,yoB ag hk_⟩)
      replace ah:=ybb ah hb
      replace af:=ybb af hb
      replace ag:=ybb ag hb
      replace HB:=ybs hb
      (try clear hb)
      (try clear ho0)
      obtain ⟨dh,di,cn⟩:=Kd.V_slice bg.out
      (first|subst cn|(injection cn with f1_ f2_ f3_;have f4_:=f1_.symm;have f5_:=f3_.symm;clear f1_ f2_ f3_;subst f4_;subst f5_))
      refine hK.out _ _ yH (fun hHeld => ?_)
      clear hK K
      refine ym (some 72) ?_
      refine yp 7 65 HT_ ?_
      refine yp 8 73 HT_ ?_
      refine yp 9 74 HT_ ?_
      refine last_ (i:=10) (N:=none) #[true,true,true,true,true,true,true,true,true,true,true,false] rfl rfl (one_of HT_.out (by kernel_rfl)) (by decide) (fun K hK => ?_)
      have dj : w83.cell? ⟨am,0,none⟩=some (.int .u64 ak):=(zs ag.out 0).trans rfl
      have hfs84:=zx ag.out 0
      have:=au.out
      have:=aw.out
      have:=av.out
      have:=ax.out
      have dk : w83.cell? ⟨am,1,none⟩=some (.slice b4 al.length b5):=(zs ag.out 1).trans rfl
      have hfs86:=zx ag.out 1
      have:=au.out
      have:=aw.out
      have:=av.out
      have:=ax.out
      refine skip_ (w1 := ?_) (by rfl) rfl ?_ ?_
      rotate_left
      ·
       go_simp
       rfl
      refine hK.out _ _ ?_
      clear hK K
      refine yp 11 12 HT_ ?_
      refine done_ (done_of HT_.out (by kernel_rfl)) ?_
      have:=aH.out
      have:=aI.out
      have:=au.out
      have:=av.out
      obtain ⟨_,_,_,_⟩:=yc2 ah
      have:=aw.out
      have:=ax.out
      obtain ⟨_,_,_,_⟩:=yc2 af
      try go_wp2
      refine bodyPost_ret (results_ct rfl _ _ ao 69 #[.int .u64 aK, .slice aN aA.length aQ] (0,0) _ rfl (ykp af) Try.underlying69 rfl (by kernel_rfl)) rfl ?_
      exact ⟨_,ye,yV0 ac,yhb⟩
     replace c70:=Bool.eq_false_iff.mpr c70
     subst c70
     rw [ynf] at H
     have H' := zm H
     clear H
     go_wp2
     go_roundg bM
     case measure=>exact yom3 HJ4 HK2 bL
     case rel=>exact ⟨(wrap64 (ae+1)),(aM),(ak),(al),(aC),yq,H',⟨yom3 HJ4 HK2 bL⟩,⟨yr ac⟩,⟨yr aa⟩,⟨yk ah⟩,⟨yk af⟩,⟨yk ag⟩,⟨yhb⟩⟩
   rw [if_neg c22] at H
   have bh:=yG c22
   clear c22
   simp only [Option.some.injEq,Prod.mk.injEq] at H
   obtain ⟨rfl,rfl,rfl⟩:=H
   have:=av.out
   have:=au.out
   have:=ax.out
   have:=aw.out
   obtain ⟨_,_,_,_⟩:=yc2 ag
   have:=aI.out
   have:=aH.out
   obtain ⟨_,_,_,_⟩:=yc2 af
   obtain ⟨cQ,cR,cS⟩:=Kd.V_slice aa.out
   subst cS
   go_wp2
   refine bodyPost_ret (results_ct rfl _ _ ao 69 #[.int .u64 ai, .slice cQ aj.length cR] (0,0) _ rfl (ykp af) Try.underlying69 rfl (by kernel_rfl)) rfl ?_
   exact ⟨_,ye,yV0 aa,yhb⟩
def r05_New.f  : Option (Int × List Int):=some (4294967295,(([0,0,0,0] : List Int)))
set_option maxHeartbeats 8000000 in
set_option maxRecDepth 100000 in
theorem r05_New.calls  (r1 : Int) (r2 : List Int) (w : World) (h : r05_New.f  = some (r1,r2)) :
  Calls Try.prog 36 #[] w fun e w' => ∃ v1_ : Value,e=.returned (.agg #[.int .u64 r1,v1_])∧Kd.R (Kd.int .i64) 3 w' w.heap.size (fun _=>True) v1_ r2∧Below w.heap.size w w' := by
 have hu69:=Try.underlying69;have HB:=zm (Below.refl w.heap.size w);have H:=h
 unfold r05_New.f at H
 clear h
 obtain ⟨ag,ac⟩ : ∃ y_ : List Int,y_=(([0,0,0,0] : List Int)):=⟨_,rfl⟩
 replace H : (some (4294967295,ag))=some (r1,r2):=yrw ac H
 have ae:=zm ac;clear ac
 simp only [Option.some.injEq,Prod.mk.injEq] at H
 obtain ⟨rfl,rfl⟩:=H
 go_enter Try.func36,Try.ntmps36
 go_wp2_with (first|((with_reducible refine gate_dst (N:=0) rfl ?_);refine ybx 0 #[.int .u64 0, .slice none 0 0] 69 ?_;intro ah hg w1 hbox hb;have aa:=zm (hbox);have ai:=ygw hg;have aj:=ygw hg;replace HB:=ybs hb;clear hb hbox hg)|((with_reducible refine gate_dst (N:=1) rfl ?_);refine Kd.R_lit (Kd.int .i64) _ 3 ?hg (N:=1) ?hd (xs:=([0,0,0,0] : List Int)) (inner := [.int .i64 0, .int .i64 0, .int .i64 0, .int .i64 0]) (ok:=fun _=>True) (okp:=fun _=>True) ?hr ?hp (fun _ hk=>hk) trivial (Below.refl _ _) (Nat.le_refl _) (by simp) ?_;(case hd=>rfl);(case hg=>rfl);(case hr=>first|(go_simp;done)|(go_simp;rfl));(case hp=>exact (Reps.one (show Kd.M (Kd.int .i64) _ _ _ 0 [.int .i64 0] from rfl) (Reps.one (show Kd.M (Kd.int .i64) _ _ _ 0 [.int .i64 0] from rfl) (Reps.one (show Kd.M (Kd.int .i64) _ _ _ 0 [.int .i64 0] from rfl) (Reps.one (show Kd.M (Kd.int .i64) _ _ _ 0 [.int .i64 0] from rfl) (Reps.none _ _))))));intro ak w2 ho3 hb hg_ hnew_;clear hg_ hnew_;(first|rw [← ae.out] at ho3|(simp only [Int.reduceToNat] at ho3;rw [← ae.out] at ho3));have af:=zm (Kd.R_lower ho3 (zE yhb));replace aa:=ybb aa hb;replace HB:=ybs hb;clear hb ho3;obtain ⟨Ao4,co4,eo4⟩:=Kd.R_slice af.out;subst eo4;obtain ⟨_,_,_,_⟩:=yc2 aa))
 refine bodyPost_ret (results_cell_row rfl _ _ ah 69 #[.int .u64 4294967295, .slice Ao4 ag.length co4] (0,0) _ rfl (ykp aa) Try.underlying69 rfl (by kernel_rfl)) rfl ?_
 exact ⟨_,ye,yR1 af aa,yhb⟩
def r13_At.f (l0 : List (List Int)) (a1 : Int) : Option (List Int):=if a1 < (l0.length : Int) then (if 0≤a1 then (some (rd_L1 l0 a1)) else (none)) else (some ([] : List Int))
set_option maxHeartbeats 8000000 in
set_option maxRecDepth 100000 in
theorem r13_At.calls (P0_ : Nat→Prop) (A0 : Option Addr) (c0 : Nat) (l0 : List (List Int)) (a1 : Int) (r : List Int) (w : World) (hs0 : Kd.V (Kd.slice 3 (Kd.int .i64)) 49 w w.heap.size (fun k_=>P0_ k_) (.slice A0 l0.length c0) l0) (h : r13_At.f l0 a1=some r) :
  Calls Try.prog 39 #[.slice A0 l0.length c0, .int .i64 a1] w fun e w' => ∃ v0_ : Value,e=.returned (v0_)∧Kd.V (Kd.int .i64) 3 w' w.heap.size (fun k_=>(P0_ k_∨w.heap.size≤k_)) v0_ r∧Below w.heap.size w w' := by
 have HO0:=zm (show Kd.V (Kd.slice 3 (Kd.int .i64)) 49 w w.heap.size (fun k_=>(P0_ k_∨w.heap.size≤k_)) (.slice A0 l0.length c0) l0 from zy hs0 (fun k_ hk => .inl hk))
 have HB:=zm (Below.refl w.heap.size w);have H:=h
 unfold r13_At.f at H
 clear h
 by_cases c3 : a1 < (l0.length : Int)
 ·
  rw [if_pos c3] at H
  have ak:=yD c3
  clear c3
  obtain ⟨c4,H⟩:=yif H
  have aq : decide (0≤a1)=true:=decide_eq_true c4
  clear c4
  obtain rfl:=Option.some.inj H
  have ae : 0≤(a1 : Int):=yt
  have af : a1 < (l0.length : Int):=yt
  obtain ⟨ap,al,am,ao,ag,aa,ac⟩:=at_L1 (Kd.V_reads' HO0.out).2.2 a1 ae af
  cases ao
  obtain ⟨ce828,hce828,hMe828,hcc828⟩:=Kd.V_get HO0.out [] a1 ae (by first|exact af|exact yt|(have e_:=(Kd.V_reads' HO0.out).1;omega))
  obtain ⟨ua828_0,uc828_0,rfl,ul828_0,ge828_0⟩:=Kd.FK_slice_open hMe828
  have hv828_0:=hcc828 0 _ rfl
  rw [Nat.add_zero,show ((Kd.slice 3 (Kd.int .i64))).sz=1 from rfl,Nat.mul_one] at hv828_0
  replace hv828_0:=Option.some.inj (hv828_0.symm.trans ag)
  injection hv828_0 with hva_ hvn_ hvc_
  rw [hva_] at ge828_0
  rw [hvc_] at ul828_0
  have ah:=zm (show Kd.V (Kd.int .i64) 3 _ w.heap.size _ _ (rd_L1 l0 a1) from Kd.V_mk ul828_0 ge828_0)
  clear hva_ hvn_ hvc_ ge828_0 ul828_0 hcc828 hce828;have ai:=zm ac;have aj:=zm aa;clear ac aa
  replace ae:=eq_true ae
  replace af:=eq_true af
  go_enter Try.func39,Try.ntmps39
  go_wp2
  go_ret
  exact ⟨_,ye,yr ah,yhb⟩
 rw [if_neg c3] at H
 have ak:=yG c3
 clear c3
 obtain rfl:=Option.some.inj H
 go_enter Try.func39,Try.ntmps39
 go_wp2
 go_ret
 exact ⟨_,ye,(by first|exact Kd.V_nil _ _ _ _ _|exact zy (Kd.R_V (yn)) (fun k_ hk=>by first|exact ⟨(.inr (hk.1)),hk.2⟩|exact (.inr (hk)))),yhb⟩
mutual
def r13_Long.l0 : Nat→Int→List (List Int)→Int→Bool→List (List Int)→List (List (List Int))→Int→List Int→Option (Int)
 | 0,_,_,_,_,_,_,_,_=>none
 | k+1,x0,x2,x8,az,aw,ak,aD,aA=>if x8 < x0 then (if 0≤x8 then (if x8 < (aw.length : Int) then ((r13_At.f x2 x8).bind fun ba=>((r11_Put.f k aD aA (rd_L1 aw x8) ba az).bind fun bv=>(r13_Long.l1 k x0 x2 x8 0 az aw ak bv.1 bv.2.1))) else (none)) else (none)) else (some (aA.length : Int))
def r13_Long.l1 : Nat→Int→List (List Int)→Int→Int→Bool→List (List Int)→List (List (List Int))→Int→List Int→Option (Int)
 | 0,_,_,_,_,_,_,_,_,_=>none
 | k+1,x0,x2,x8,x9,az,aw,ak,aD,aA=>if x9 < 5 then (if 0≤x8 then (if x8 < (ak.length : Int) then (if 0≤x9 then (if x9 < ((rd_L2 ak x8).length : Int) then ((r06_Pulses.f k (rd_L1 (rd_L2 ak x8) x9)).bind fun bb=>(if bb > 0 then ((r06_Index.f k (rd_L1 (rd_L2 ak x8) x9)).bind fun bc=>((r06_Pulses.f k (rd_L1 (rd_L2 ak x8) x9)).bind fun bd=>((r06_Count.f k ((rd_L1 (rd_L2 ak x8) x9).length : Int) bd).bind fun bf=>((r05_PutNum.f k aD aA bc bf).bind fun bw=>(r13_Long.l1 k x0 x2 x8 (wrap64 (x9+1)) az aw ak bw.1 bw.2.1))))) else (r13_Long.l1 k x0 x2 x8 (wrap64 (x9+1)) az aw ak aD aA))) else (none)) else (none)) else (none)) else (none)) else (r13_Long.l0 k x0 x2 (wrap64 (x8+1)) az aw ak aD aA)
end
def r13_Long.f (k : Nat) (a0 : Int) (aV : Bool) (aC : List (List Int)) (ap : List (List (List Int))) (l2 : List (List Int)) : Option (Int):=(r05_New.f).bind fun bx=>((r05_Put.f k bx.1 bx.2 0 1 2).bind fun bz=>(r13_Long.l0 k a0 l2 0 aV aC ap bz.1 bz.2.1))
theorem r13_Long.mono_l : ∀ k,(∀ y0 y1 y2 y3 y4 y5 y6 y7,LeO (r13_Long.l0 k y0 y1 y2 y3 y4 y5 y6 y7) (r13_Long.l0 (k+1) y0 y1 y2 y3 y4 y5 y6 y7))∧(∀ y0 y1 y2 y3 y4 y5 y6 y7 y8,LeO (r13_Long.l1 k y0 y1 y2 y3 y4 y5 y6 y7 y8) (r13_Long.l1 (k+1) y0 y1 y2 y3 y4 y5 y6 y7 y8))
 | 0=>⟨fun _ _ _ _ _ _ _ _ r h=>by simp [r13_Long.l0] at h,fun _ _ _ _ _ _ _ _ _ r h=>by simp [r13_Long.l1] at h⟩
 | k+1=>by
  obtain ⟨ih0,ih1⟩:=r13_Long.mono_l k
  refine ⟨?_, ?_⟩
  ·
   intro y0 y1 y2 y3 y4 y5 y6 y7
   unfold r13_Long.l0
   repeat' with_reducible first|apply ih0|apply ih1|apply r05_Put.mono|apply r05_PutNum.mono|apply r06_Count.mono|apply r06_Index.mono|apply r06_Pulses.mono|apply r11_Put.mono|apply yLr|apply yLn|apply yLi|apply yLb|intro _
  intro y0 y1 y2 y3 y4 y5 y6 y7 y8
  unfold r13_Long.l1
  repeat' with_reducible first|apply ih0|apply ih1|apply r05_Put.mono|apply r05_PutNum.mono|apply r06_Count.mono|apply r06_Index.mono|apply r06_Pulses.mono|apply r11_Put.mono|apply yLr|apply yLn|apply yLi|apply yLb|intro _
theorem r13_Long.mono : ∀ a0 a1 a2 a3 a4 k,LeO (r13_Long.f k a0 a1 a2 a3 a4) (r13_Long.f (k+1) a0 a1 a2 a3 a4):=by
 intro a0 a1 a2 a3 a4 k
 obtain ⟨ih0,ih1⟩:=r13_Long.mono_l k
 unfold r13_Long.f
 repeat' with_reducible first|apply ih0|apply ih1|apply r05_Put.mono|apply r05_PutNum.mono|apply r06_Count.mono|apply r06_Index.mono|apply r06_Pulses.mono|apply r11_Put.mono|apply yLr|apply yLn|apply yLi|apply yLb|intro _
def r13_Long.T6 : Bool × List (List Nat × List Nat):=(true, [([], []),([], []),([1], [1]),([], []),([2,3], [2,3]),([4], [4]),([], []),([], []),([6,7], [6,7]),([], []),([9], [9]),([0,5,8,10,8], [0,5,8,10]),([11], [11]),([12], [12]),([12], [12]),([13,11,0,1,2,3,4,5,6,7,8,9,10,11,12,13], [13])])
def r13_Long.B6 : List Nat := [0,0,2,0,14,30,0,0,192,0,512,2047,4095,8191,8191,16383]
theorem r13_Long.tab6 : rtab .any (opsOf Try.f13 6)=r13_Long.T6:=by kernel_rfl
theorem r13_Long.bits6 : waitsOk r13_Long.T6.2 r13_Long.B6=true:=by kernel_rfl
def r13_Long.T12 : Bool × List (List Nat × List Nat):=(true, [([], []),([], []),([1], [1]),([], []),([3], [3]),([], []),([5,2], [5]),([4,6,6], [4,6]),([0,2,7,7], [0,2,7]),([8], [8]),([9], [9]),([9], [9]),([10,8,0,1,2,3,4,5,6,7,8,9,10], [10])])
def r13_Long.B12 : List Nat := [0,0,2,0,8,0,38,126,255,511,1023,1023,2047]
theorem r13_Long.tab12 : rtab .any (opsOf Try.f13 12)=r13_Long.T12:=by kernel_rfl
theorem r13_Long.bits12 : waitsOk r13_Long.T12.2 r13_Long.B12=true:=by kernel_rfl
set_option maxHeartbeats 8000000 in
set_option maxRecDepth 100000 in
theorem r13_Long.calls (k : Nat) (a0 : Int) (aV : Bool) (bA : Option Addr) (bl : Nat) (aC : List (List Int)) (bm : Option Addr) (bn : Nat) (ap : List (List (List Int))) (A2 : Option Addr) (c2 : Nat) (l2 : List (List Int)) (r : Int) (w : World) (hr1_1 : Kd.C (Kd.slice 3 (Kd.int .i64)) w bA aC.length aC) (hc1_1 : aC.length≤bl) (hr1_2 : Kd.C (Kd.slice 49 (Kd.slice 3 (Kd.int .i64))) w bm ap.length ap) (hc1_2 : ap.length≤bn) (hr2 : Kd.C (Kd.slice 3 (Kd.int .i64)) w A2 l2.length l2) (hc2 : l2.length≤c2) (h : r13_Long.f k a0 aV aC ap l2=some r) :
  Calls Try.prog 13 #[.int .i64 a0, .agg #[.bool aV, .slice bA aC.length bl, .slice bm ap.length bn], .slice A2 l2.length c2] w fun e w' => e=.returned (.int .i64 r)∧Below w.heap.size w w' := by
 have hu33:=Try.underlying33;have hu69:=Try.underlying69;have ce:=zm hr1_1;have cP:=zm hc1_1;clear hr1_1 hc1_1;have b5:=zm hr1_2;have cQ:=zm hc1_2;clear hr1_2 hc1_2;have HR2:=zm hr2;have HC2:=zm hc2;clear hr2 hc2;have HB:=zm (Below.refl w.heap.size w);have H:=h
 unfold r13_Long.f at H
 clear h
 obtain ⟨⟨bg,aW⟩,A4,H⟩:=ybi H
 try dsimp only at H
 obtain ⟨⟨b6,bB,cf⟩,A5,H⟩:=ybi H
 try dsimp only at H
 have H' := zm H
 clear H
 go_enter Try.func13,Try.ntmps13
 go_wp2_with (first|((with_reducible refine gate_dst (N:=4) rfl ?_);refine ybx 4 #[.bool aV, .slice bA aC.length bl, .slice bm ap.length bn] 33 ?_;intro aq hg w6 hbox hb;have ae:=zm (hbox);have cA:=ygw hg;have cB:=ygw hg;replace HB:=ybs hb;clear hb hbox hg)|((with_reducible refine gate_callee (f:=36) rfl ?_);refine ygl 11 Try.func36 #[] ?_;(with_reducible refine (r05_New.calls  bg aW _ A4.out).mono ?_);rintro e w7 ⟨cR,rfl,ho0,hb⟩;refine ⟨_,rfl, ?_⟩;have ay:=zm (Kd.R_lower ho0 (zE yhb));replace ae:=ybb ae hb;replace HB:=ybs hb;(try clear hb);(try clear ho0))|((with_reducible refine gate_dst (N:=7) rfl ?_);refine ybx 7 #[.int .u64 0, .slice none 0 0] 69 ?_;intro af hg w8 hbox hb;replace ay:=yRb ay hb;have ac:=zm (hbox);have cC:=ygw hg;have cD:=ygw hg;replace HB:=ybs hb;have ag:=ynl ae hg;have ah:=yng ae hg;replace ae:=ybb ae hb;clear hb hbox hg;have:=ah.out;have:=ag.out;obtain ⟨bN,bO,bP,bQ⟩:=yc2 ac;obtain ⟨bC,bD,cE⟩:=Kd.R_slice ay.out;subst cE)|((with_reducible refine gate_store (t:=69) (p:=7) rfl ?_);refine store_event (t:=69) (p:=7) (v := ?vo_w12) (w1:=((w8.setCell ⟨af,0,none⟩ (.int .u64 bg)).setCell ⟨af,1,none⟩ (.slice bC aW.length bD))) ?hg ?ho ?hn ?hr ?_;(case ho=>rfl);(case hg=>rfl);(case hn=>rfl);(case hr=>first|(go_simp;done)|(go_simp;rfl));intro w12 hw;replace ay : Aside0 (Kd.R (Kd.int .i64) 3 w12 w.heap.size (fun _=>True) (.slice bC aW.length bD) aW):=⟨(by rw [hw];exact (yR1 ay ac))⟩;replace ae : Aside0 (w12.heap[aq]? = some (.cells #[.bool aV, .slice bA aC.length bl, .slice bm ap.length bn] 33 (0,0))):=⟨(by rw [hw];exact (yk ae))⟩;replace ac : Aside0 (w12.heap[af]? = some (.cells #[.int .u64 bg, .slice bC aW.length bD] 69 (0,0))):=⟨(by rw [hw];exact (ykp ac))⟩;replace HB : Aside0 (Below w.heap.size w w12):=⟨(by rw [hw];exact yhb)⟩;clear hw;obtain ⟨bR,bS,bT,bU⟩:=yc2 ac)|((with_reducible refine gate_callee (f:=37) rfl ?_);refine ygl 14 Try.func37 #[.agg #[.int .u64 bg, .slice bC aW.length bD], .int .i64 0, .int .i64 1, .int .i64 2] ?_;(with_reducible refine (r05_Put.calls k bg (fun k_=>some k_=(.slice bC aW.length bD : Value).ownBlock) _ _ aW 0 1 2 b6 bB cf _ ?ax A5.out).mono ?_);(case ax=>exact Kd.R_V (Kd.R_tight rfl (Kd.R_types (Kd.R_types (ay.out) ae.out (by decide)) ac.out (by decide))));rintro e w14 ⟨cS,rfl,ho0,hb⟩;refine ⟨_,rfl, ?_⟩;have bE:=yho (fun k_=>k_≠aq∧k_≠af) ho0 (fun k_ hk_=>⟨Or.elim hk_ (fun hs_=>((Kd.R_types (Kd.R_types (ay.out) ae.out (by decide)) ac.out (by decide)).1 k_ hs_.symm).1.2) (fun hn_=>(Kd.freshB (yk ae) k_ hn_)),Or.elim hk_ (fun hs_=>((Kd.R_types (Kd.R_types (ay.out) ae.out (by decide)) ac.out (by decide)).1 k_ hs_.symm).2) (fun hn_=>(Kd.freshB (yk ac) k_ hn_))⟩);replace ay:=yRb ay hb;replace ae:=ybb ae hb;replace ac:=ybb ac hb;replace HB:=ybs hb;(try clear hb);(try clear ho0);obtain ⟨bV,bW,bX,bY⟩:=yc2 ac;obtain ⟨cF,cG,cH⟩:=Kd.V_slice bE.out;subst cH))
 go_loopg [8] k (fun kq v8 w' => ∃ (aj : Int) (ao : Int) (au : List Int) (al : Value),v8=.int .i64 aj∧Aside0 (r13_Long.l0 kq a0 l2 aj aV aC ap ao au=some r)∧Aside0 (kq≤k)∧Aside0 (Kd.V (Kd.int .i64) 3 w' w.heap.size (fun k_=>k_≠aq∧k_≠af) al au)∧Aside0 (w'.heap[aq]? = some (.cells #[.bool aV,(.slice bA aC.length bl),(.slice bm ap.length bn)] 33 (0,0)))∧Aside0 (w'.heap[af]? = some (.cells #[.int .u64 ao,al] 69 (0,0)))∧Aside0 (Below w.heap.size w w'))
 case atStart=>exact ⟨(0),(b6),(bB),(.slice cF bB.length cG),yq,H',⟨Nat.le_refl _⟩,⟨yV0 bE⟩,⟨yk ae⟩,⟨ykp ac⟩,⟨yhb⟩⟩
 case round =>
  clear H'
  try clear c2
  try clear bN
  try clear bO
  try clear bR
  try clear bS
  try clear bV
  try clear bW
  try clear bP
  try clear bQ
  try clear bT
  try clear bU
  try clear bX
  try clear bY
  obtain ⟨aj,ao,au,al,rfl,HA,HK1,aa,ae,ac,HB⟩:=hrel
  obtain ⟨k1,rfl⟩:=ysu gk (fun h=>by subst h;exact absurd HA.out (by simp [r13_Long.l0]))
  have H:=HA.out;clear HA
  simp only [r13_Long.l0] at H
  by_cases c17 : aj < a0
  ·
   rw [if_pos c17] at H
   have b7:=yD c17
   clear c17
   obtain ⟨c18,H⟩:=yif H
   have cg : decide (0≤aj)=true:=decide_eq_true c18
   clear c18
   obtain ⟨c19,H⟩:=yif H
   have ch : decide (aj < (aC.length : Int))=true:=decide_eq_true c19
   clear c19
   obtain ⟨ba,A20,H⟩:=ybi H
   obtain ⟨⟨b8,bF,ci⟩,A21,H⟩:=ybi H
   try dsimp only at H
   have H' := zm H
   clear H
   try go_wp2
   replace aa:=zm (zC aa.out)
   replace ae:=zm (zj ae.out)
   replace ac:=zm (zj ac.out)
   replace HB:=zm (zf HB.out)
   have bp : 0≤(aj : Int):=yt
   have bq : aj < (aC.length : Int):=yt
   obtain ⟨bo,br,bs,cj,aE,bh,bi⟩:=at_L1 ce.out aj bp bq
   have hw1253_0:=aE
   cases cj
   replace aE:=yhx HB aE
   have bj:=zm bi;have bG:=zm bh;clear bi bh
   replace bp:=eq_true bp
   replace bq:=eq_true bq
   refine yst (fun w' => w'.cell? ⟨af,0,none⟩=some (.int .u64 ao)∧w'.cell? ⟨af,1,none⟩=some (al)∧w'.cell? ⟨aq,0,none⟩=some (.bool aV)∧w'.cell? ⟨aq,1,none⟩=some (.slice (some bo) aC.length bl)∧w'.cell? ⟨aq,2,none⟩=some (.slice bm ap.length bn)∧w'.cell? (bo.add (aj).toNat)=some (.slice br (rd_L1 aC aj).length bs)) [15] 16 r13_Long.tab6 r13_Long.bits6 (fun hHeld HT_ HW_ => ?_)
   generalize wr.drew=w22 at aa ae ac HB bj aE hHeld ⊢
   refine yp 1 24 HT_ ?_
   refine yp 3 26 HT_ ?_
   refine yp 6 29 HT_ ?_
   refine yp 7 30 HT_ ?_
   refine yp 9 32 HT_ ?_
   refine yl 0 23 HT_ HW_ hHeld ?_
   refine yl 2 25 HT_ HW_ hHeld ?_
   refine yp 4 27 HT_ ?_
   refine yl 5 28 HT_ HW_ hHeld ?_
   refine yl 10 33 HT_ HW_ hHeld ?_
   refine yw 8 31 HT_ (fun K hK => ?_)
   refine ygs Try.func39 #[.slice A2 l2.length c2, .int .i64 aj] ?_
   with_reducible refine (r13_At.calls (fun k_=>k_ < w.heap.size) _ _ l2 aj ba _ ?ax A20.out).mono ?_
   (case ax=>exact Kd.V_mk HC2.out (Kd.F_below (Kd.C_F (Kd.heap_slice 3 (Kd.heap_int .i64)) HR2.out) yhb))
   rintro e w23 ⟨cT,rfl,ho0,hb⟩
   refine ⟨_,rfl, ?_⟩
   replace aa:=yVb aa hb
   have aX:=yho (fun k_=>k_≠aq∧k_≠af) ho0 (fun k_ hk_=>⟨yoB ae hk_,yoB ac hk_⟩)
   replace ae:=ybb ae hb
   replace ac:=ybb ac hb
   replace HB:=ybs hb
   (try clear hb)
   (try clear ho0)
   obtain ⟨ck,cl,cm⟩:=Kd.V_slice aa.out
   (first|subst cm|(injection cm with f1_ f2_ f3_;have f4_:=f1_.symm;have f5_:=f3_.symm;clear f1_ f2_ f3_;subst f4_;subst f5_))
   obtain ⟨cI,cJ,cn⟩:=Kd.V_slice aX.out
   (first|subst cn|(injection cn with f1_ f2_ f3_;have f4_:=f1_.symm;have f5_:=f3_.symm;clear f1_ f2_ f3_;subst f4_;subst f5_))
   refine hK.out _ _ yH (fun hHeld => ?_)
   clear hK K
   refine ym (some 31) ?_
   refine yw 11 34 HT_ (fun K hK => ?_)
   refine ygs Try.func38 #[.agg #[.int .u64 ao, .slice ck au.length cl], .slice br (rd_L1 aC aj).length bs, .slice cI ba.length cJ, .bool aV] ?_
   with_reducible refine (r11_Put.calls k1 ao (fun k_=>(k_≠aq∧k_≠af)) _ _ au _ _ (rd_L1 aC aj) _ _ ba aV b8 bF ci _ ?ax ?bk ?co ?cp ?cq A21.out).mono ?_
   (case ax=>exact aa.out)
   (case bk=>exact ycb bj)
   (case co=>exact bG.out)
   (case cp=>exact yce (Kd.V_reads' aX.out).2.2)
   (case cq=>exact (Kd.V_reads' aX.out).2.1)
   rintro e w26 ⟨cU,rfl,ho0,hb⟩
   refine ⟨_,rfl, ?_⟩
   replace aa:=yVb aa hb
   replace aX:=yVb aX hb
   have bH:=yho (fun k_=>k_≠aq∧k_≠af) ho0 (fun k_ hk_=>⟨yoB ae hk_,yoB ac hk_⟩)
   replace ae:=ybb ae hb
   replace ac:=ybb ac hb
   replace HB:=ybs hb
   (try clear hb)
   (try clear ho0)
   obtain ⟨cK,cL,cr⟩:=Kd.V_slice bH.out
   (first|subst cr|(injection cr with f1_ f2_ f3_;have f4_:=f1_.symm;have f5_:=f3_.symm;clear f1_ f2_ f3_;subst f4_;subst f5_))
   refine hK.out _ _ yH (fun hHeld => ?_)
   clear hK K
   refine ym (some 34) ?_
   refine yp 12 22 HT_ ?_
   refine yp 13 35 HT_ ?_
   refine yp 14 36 HT_ ?_
   refine last_ (i:=15) (N:=none) #[true,true,true,true,true,true,true,true,true,true,true,true,true,true,true,true] rfl rfl (one_of HT_.out (by kernel_rfl)) (by decide) (fun K hK => ?_)
   have da : w26.cell? ⟨af,0,none⟩=some (.int .u64 ao):=(zs ac.out 0).trans rfl
   have hfs27:=zx ac.out 0
   have:=ag.out
   have:=ah.out
   have db : w26.cell? ⟨af,1,none⟩=some (.slice ck au.length cl):=(zs ac.out 1).trans rfl
   have hfs29:=zx ac.out 1
   have:=ag.out
   have:=ah.out
   refine skip_ (w1 := ?_) (by rfl) rfl ?_ ?_
   rotate_left
   ·
    go_simp
    rfl
   refine hK.out _ _ ?_
   clear hK K
   refine done_ (done_of HT_.out (by kernel_rfl)) ?_
   try go_wp2
   go_loopg [9] k1 (fun kq v9 w' => ∃ (av : Int) (ai : Int) (am : List Int) (al : Value),v9=.int .i64 av∧Aside0 (r13_Long.l1 kq a0 l2 aj av aV aC ap ai am=some r)∧Aside0 (kq≤k1)∧Aside0 (Kd.V (Kd.int .i64) 3 w' w.heap.size (fun k_=>k_≠aq∧k_≠af) al am)∧Aside0 (w'.heap[aq]? = some (.cells #[.bool aV,(.slice (some bo) aC.length bl),(.slice bm ap.length bn)] 33 (0,0)))∧Aside0 (w'.heap[af]? = some (.cells #[.int .u64 ai,al] 69 (0,0)))∧Aside0 (Below w.heap.size w w'))
   case atStart=>exact ⟨(0),(b8),(bF),(.slice cK bF.length cL),yq,H',⟨Nat.le_refl _⟩,⟨yV0 bH⟩,⟨yk ae⟩,⟨ykp ac⟩,⟨yhb⟩⟩
   case round =>
    clear H'
    try clear c2
    try clear b7
    try clear cg
    try clear ch
    try clear aE
    try clear bp
    try clear bq
    obtain ⟨av,ai,am,al,rfl,HA,HK2,aa,ae,ac,HB⟩:=hrel
    obtain ⟨k2,rfl⟩:=ysu gk (fun h=>by subst h;exact absurd HA.out (by simp [r13_Long.l1]))
    have H:=HA.out;clear HA
    simp only [r13_Long.l1] at H
    by_cases c30 : av < 5
    ·
     rw [if_pos c30] at H
     have ct:=yD c30
     clear c30
     obtain ⟨c31,H⟩:=yif H
     have cV : decide (0≤aj)=true:=decide_eq_true c31
     clear c31
     obtain ⟨c32,H⟩:=yif H
     have cW : decide (aj < (ap.length : Int))=true:=decide_eq_true c32
     clear c32
     obtain ⟨c33,H⟩:=yif H
     have cX : decide (0≤av)=true:=decide_eq_true c33
     clear c33
     obtain ⟨c34,H⟩:=yif H
     have cY : decide (av < ((rd_L2 ap aj).length : Int))=true:=decide_eq_true c34
     clear c34
     obtain ⟨bb,A35,H⟩:=ybi H
     by_cases c36 : bb > 0
     ·
      rw [if_pos c36] at H
      have cu:=yDs c36
      clear c36
      obtain ⟨bc,A37,H⟩:=ybi H
      obtain ⟨bd,A38,H⟩:=ybi H
      obtain ⟨bf,A39,H⟩:=ybi H
      obtain ⟨⟨b9,bI,cv⟩,A40,H⟩:=ybi H
      try dsimp only at H
      have H' := zm H
      clear H
      have:=ag.out
      have:=ah.out
      obtain ⟨_,_,_,_,_,_⟩:=yc3 ae
      have aY : 0≤(aj : Int):=yt
      have aZ : aj < (ap.length : Int):=yt
      obtain ⟨ca,bZ,b4,bJ,aG,aH,aI⟩:=at_L2 b5.out aj aY aZ
      cases bJ
      replace aG:=yhx HB aG
      have a7:=zm aI;have bK:=zm aH;clear aI aH
      replace aY:=eq_true aY
      replace aZ:=eq_true aZ
      have a8 : 0≤(av : Int):=yt
      have a9 : av < ((rd_L2 ap aj).length : Int):=yt
      obtain ⟨cb,aT,aU,bL,aJ,aK,aM⟩:=at_L1 a7.out av a8 a9
      cases bL
      replace aJ:=yhx HB aJ
      have aN:=zm aM;have aQ:=zm aK;clear aM aK
      replace a8:=eq_true a8
      replace a9:=eq_true a9
      try go_wp2_with (first|((with_reducible refine gate_callee (f:=40) rfl ?_);refine ygl 50 Try.func40 #[.slice aT (rd_L1 (rd_L2 ap aj) av).length aU] ?_;(with_reducible refine (r06_Pulses.calls k2 _ _ (rd_L1 (rd_L2 ap aj) av) bb _ ?ax aQ.out A35.out).mono ?_);(case ax=>exact ycb aN);rintro e w' ⟨rfl,⟨nd,rfl⟩⟩;refine ⟨_,rfl, ?_⟩;(try (rw [drewN_self wr];generalize hq_ : World.drewN wr _=wr;replace aa:=yVq hq_ aa;replace ae:=ykq hq_ ae;replace ac:=ykq hq_ ac;replace HB:=ysq hq_;clear hq_))))
      replace aa:=zm (zC aa.out)
      replace ae:=zm (zj ae.out)
      replace ac:=zm (zj ac.out)
      replace HB:=zm (zf HB.out)
      refine yst (fun w' => w'.cell? ⟨af,0,none⟩=some (.int .u64 ai)∧w'.cell? ⟨af,1,none⟩=some (al)) [12] 13 r13_Long.tab12 r13_Long.bits12 (fun hHeld HT_ HW_ => ?_)
      generalize wr.drew=w43 at aa ae ac HB hHeld ⊢
      refine yp 1 54 HT_ ?_
      refine yp 3 56 HT_ ?_
      refine yp 4 57 HT_ ?_
      refine yp 5 58 HT_ ?_
      refine yl 0 53 HT_ HW_ hHeld ?_
      refine yw 2 55 HT_ (fun K hK => ?_)
      refine ygs Try.func42 #[.slice aT (rd_L1 (rd_L2 ap aj) av).length aU] ?_
      with_reducible refine (r06_Index.calls k2 _ _ (rd_L1 (rd_L2 ap aj) av) bc _ ?ax ?bk A37.out).mono ?_
      (case ax=>exact ycb aN)
      (case bk=>exact aQ.out)
      rintro e w44 ⟨rfl,hb⟩
      refine ⟨_,rfl, ?_⟩
      replace aa:=yVb aa hb
      replace ae:=ybb ae hb
      replace ac:=ybb ac hb
      replace HB:=ybs hb
      (try clear hb)
      refine hK.out _ _ yH (fun hHeld => ?_)
      clear hK K
      refine ym (some 55) ?_
      refine yw 6 59 HT_ (fun K hK => ?_)
      refine ygs Try.func40 #[.slice aT (rd_L1 (rd_L2 ap aj) av).length aU] ?_
      with_reducible refine (r06_Pulses.calls k2 _ _ (rd_L1 (rd_L2 ap aj) av) bd _ ?ax ?bk A38.out).mono ?_
      (case ax=>exact ycb aN)
      (case bk=>exact aQ.out)
      rintro e w' ⟨rfl,⟨nd,rfl⟩⟩
      refine ⟨_,rfl, ?_⟩
      refine hK.out _ _ yH (fun hHeld => ?_)
      clear hK K
      refine ym (some 59) ?_
      refine yw 7 60 HT_ (fun K hK => ?_)
      refine ygs Try.func43 #[.int .i64 ((rd_L1 (rd_L2 ap aj) av).length : Int), .int .i64 bd] ?_
      with_reducible refine (r06_Count.calls k2 ((rd_L1 (rd_L2 ap aj) av).length : Int) bd bf _ A39.out).mono ?_
      rintro e w45 ⟨rfl,hb⟩
      refine ⟨_,rfl, ?_⟩
      replace aa:=yVb aa hb
      replace ae:=ybb ae hb
      replace ac:=ybb ac hb
      replace HB:=ybs hb
      (try clear hb)
      obtain ⟨cw,cx,cy⟩:=Kd.V_slice aa.out
      (first|subst cy|(injection cy with f1_ f2_ f3_;have f4_:=f1_.symm;have f5_:=f3_.symm;clear f1_ f2_ f3_;subst f4_;subst f5_))
      refine hK.out _ _ yH (fun hHeld => ?_)
      clear hK K
      refine ym (some 60) ?_
      refine yw 8 61 HT_ (fun K hK => ?_)
      refine ygs Try.func41 #[.agg #[.int .u64 ai, .slice cw am.length cx], .int .u64 bc, .int .u64 bf] ?_
      with_reducible refine (r05_PutNum.calls k2 ai (fun k_=>(k_≠aq∧k_≠af)) _ _ am bc bf b9 bI cv _ ?ax A40.out).mono ?_
      (case ax=>exact aa.out)
      rintro e w47 ⟨cZ,rfl,ho0,hb⟩
      refine ⟨_,rfl, ?_⟩
      replace aa:=yVb aa hb
      have bM:=yho (fun k_=>k_≠aq∧k_≠af) ho0 (fun k_ hk_=>⟨yoB ae hk_,yoB ac hk_⟩)
      replace ae:=ybb ae hb
      replace ac:=ybb ac hb
      replace HB:=ybs hb
      (try clear hb)
      (try clear ho0)
      obtain ⟨cM,cN,cz⟩:=Kd.V_slice bM.out
      (first|subst cz|(injection cz with f1_ f2_ f3_;have f4_:=f1_.symm;have f5_:=f3_.symm;clear f1_ f2_ f3_;subst f4_;subst f5_))
      refine hK.out _ _ yH (fun hHeld => ?_)
      clear hK K
      refine ym (some 61) ?_
      refine yp 9 52 HT_ ?_
      refine yp 10 62 HT_ ?_
      refine yp 11 63 HT_ ?_
      refine last_ (i:=12) (N:=none) #[true,true,true,true,true,true,true,true,true,true,true,true,true] rfl rfl (one_of HT_.out (by kernel_rfl)) (by decide) (fun K hK => ?_)
      have dc : w47.cell? ⟨af,0,none⟩=some (.int .u64 ai):=(zs ac.out 0).trans rfl
      have hfs48:=zx ac.out 0
      have:=ag.out
      have:=ah.out
      have dd : w47.cell? ⟨af,1,none⟩=some (.slice cw am.length cx):=(zs ac.out 1).trans rfl
      have hfs50:=zx ac.out 1
      have:=ag.out
      have:=ah.out
      refine skip_ (w1 := ?_) (by rfl) rfl ?_ ?_
      rotate_left
      ·
       go_simp
       rfl
      refine hK.out _ _ ?_
      clear hK K
      refine done_ (done_of HT_.out (by kernel_rfl)) ?_
      try go_wp2
      go_roundg k2
      case measure=>exact yom2 HK1 HK2
      case rel=>exact ⟨(wrap64 (av+1)),(b9),(bI),(.slice cM bI.length cN),yq,H',⟨yom2 HK1 HK2⟩,⟨yV0 bM⟩,⟨yk ae⟩,⟨ykp ac⟩,⟨yhb⟩⟩
     rw [if_neg c36] at H
     have cu:=yGs c36
     clear c36
     have H' := zm H
     clear H
     have:=ag.out
     have:=ah.out
     obtain ⟨_,_,_,_,_,_⟩:=yc3 ae
     have aY : 0≤(aj : Int):=yt
     have aZ : aj < (ap.length : Int):=yt
     obtain ⟨ca,bZ,b4,bJ,aG,aH,aI⟩:=at_L2 b5.out aj aY aZ
     cases bJ
     replace aG:=yhx HB aG
     have a7:=zm aI;have bK:=zm aH;clear aI aH
     replace aY:=eq_true aY
     replace aZ:=eq_true aZ
     have a8 : 0≤(av : Int):=yt
     have a9 : av < ((rd_L2 ap aj).length : Int):=yt
     obtain ⟨cb,aT,aU,bL,aJ,aK,aM⟩:=at_L1 a7.out av a8 a9
     cases bL
     replace aJ:=yhx HB aJ
     have aN:=zm aM;have aQ:=zm aK;clear aM aK
     replace a8:=eq_true a8
     replace a9:=eq_true a9
     go_wp2_with (first|((with_reducible refine gate_callee (f:=40) rfl ?_);refine ygl 50 Try.func40 #[.slice aT (rd_L1 (rd_L2 ap aj) av).length aU] ?_;(with_reducible refine (r06_Pulses.calls k2 _ _ (rd_L1 (rd_L2 ap aj) av) bb _ ?ax aQ.out A35.out).mono ?_);(case ax=>exact ycb aN);rintro e w' ⟨rfl,⟨nd,rfl⟩⟩;refine ⟨_,rfl, ?_⟩))
     go_roundg k2
     case measure=>exact yom2 HK1 HK2
     case rel=>exact ⟨(wrap64 (av+1)),(ai),(am),(al),yq,H',⟨yom2 HK1 HK2⟩,⟨yr aa⟩,⟨yk ae⟩,⟨yk ac⟩,⟨yhb⟩⟩
    rw [if_neg c30] at H
    have ct:=yG c30
    clear c30
    have H' := zm H
    clear H
    go_wp2
    go_roundg k2
    case measure=>exact yom2 HK1 HK2
    case rel=>exact ⟨(wrap64 (aj+1)),(ai),(am),(al),yq,H',⟨yom2 HK1 HK2⟩,⟨yr aa⟩,⟨yk ae⟩,⟨yk ac⟩,⟨yhb⟩⟩
  rw [if_neg c17] at H
  have b7:=yG c17
  clear c17
  obtain rfl:=Option.some.inj H
  have:=ah.out
  have:=ag.out
  obtain ⟨_,_,_,_⟩:=yc2 ac
  obtain ⟨de,df,cO⟩:=Kd.V_slice aa.out
  subst cO
  go_wp2
  go_ret
  exact ⟨ye,yhb⟩
end Go.Proofs.Ytnmbndkojpjkmaa.Prt
