-- Functions of the program and of the document as plain Lean, each with the proof that the code comes to it. Written by a program of this session (wip/tools/myprint.py, pack.py) over the kit's printer; Lean checks it.
import Derived.Test.YtkaoiblgfpphoaaZGainPutsPrt0
import Derived.Test.YtkaoiblgfpphoaaZGainPutsM3
import Derived.Test.YtkaoiblgfpphoaaZGainPutsM1
import Derived.Test.YtkaoiblgfpphoaaZGainPutsM2
namespace Go.Proofs.Ytkaoiblgfpphoaa.Prt
open Go.RowKit Go.Proofs.YtkaoiblgfpphoaaW.PrintWords Go.Proofs.YtkaoiblgfpphoaaW.PrintLast Go.Proofs.YtkaoiblgfpphoaaW.PrintMore
attribute [local go_sem] max2_int min2_int max_two min_two max_three min_three max_four min_four   -- for this text's walks alone
set_option linter.unusedVariables false
set_option linter.unusedSimpArgs false

/-! ### gain_Take: function 47 -/
mutual
def gain_Take.j0 : Nat→List Int→Bool→Bool→Int→Int→List Int→Int→Option (Int × Int × List Int × Int × List Int × Int)
 | 0,_,_,_,_,_,_,_=>none
 | k+1,x1,x2,x20,x740000,x740001,x740002,x740003=>if x20=true then ((coder_Take.f k x740000 x740001 x740002 x740003 0 1 1).bind fun bt742=>(some (bt742.1,bt742.2.1,bt742.2.2.1,bt742.2.2.2.1,([] : List Int),1))) else (gain_Take.l0 k x1 x2 ([] : List Int) 0 x740000 x740001 x740002 x740003)
def gain_Take.l0 : Nat→List Int→Bool→List Int→Int→Int→Int→List Int→Int→Option (Int × Int × List Int × Int × List Int × Int)
 | 0,_,_,_,_,_,_,_,_=>none
 | k+1,x1,x2,x9,x27,x740000,x740001,x740002,x740003=>if x27 < 5 then (if x2=true then ((gain_take.f k x740000 x740001 x740002 x740003 0 x2).bind fun bt749=>(if x9.length < 17592186044416 then (gain_Take.l0 k x1 x2 (x9 ++ [bt749.2.2.2.2]) (wrap64 (x27+1)) bt749.1 bt749.2.1 bt749.2.2.1 bt749.2.2.2.1) else (none))) else (if 0≤x27 then (if x27 < (x1.length : Int) then ((gain_take.f k x740000 x740001 x740002 x740003 (rd x1 x27) x2).bind fun bt761=>(if x9.length < 17592186044416 then (gain_Take.l0 k x1 x2 (x9 ++ [bt761.2.2.2.2]) (wrap64 (x27+1)) bt761.1 bt761.2.1 bt761.2.2.1 bt761.2.2.2.1) else (none))) else (none)) else (none))) else (some (x740000,x740001,x740002,x740003,x9,0))
end
def gain_Take.f (k : Nat) (a0_0 : Int) (a0_1 : Int) (l0_2 : List Int) (a0_3 : Int) (l1 : List Int) (a2 : Bool) : Option (Int × Int × List Int × Int × List Int × Int):=if a2=true then (gain_Take.j0 k l1 a2 false a0_0 a0_1 l0_2 a0_3) else ((gain_Right.f k l1).bind fun t741=>(gain_Take.j0 k l1 a2 (!t741) a0_0 a0_1 l0_2 a0_3))
theorem gain_Take.mono_l : ∀ k,(∀ y0 y1 y2 y3 y4 y5 y6,LeO (gain_Take.j0 k y0 y1 y2 y3 y4 y5 y6) (gain_Take.j0 (k+1) y0 y1 y2 y3 y4 y5 y6))∧(∀ y0 y1 y2 y3 y4 y5 y6 y7,LeO (gain_Take.l0 k y0 y1 y2 y3 y4 y5 y6 y7) (gain_Take.l0 (k+1) y0 y1 y2 y3 y4 y5 y6 y7))
 | 0=>⟨fun _ _ _ _ _ _ _ r h=>by simp [gain_Take.j0] at h,fun _ _ _ _ _ _ _ _ r h=>by simp [gain_Take.l0] at h⟩
 | k+1=>by
  obtain ⟨ih0,ih1⟩:=gain_Take.mono_l k
  refine ⟨?_, ?_⟩
  ·
   intro y0 y1 y2 y3 y4 y5 y6
   unfold gain_Take.j0
   repeat' first
   | (with_reducible exact ih0 _ _ _ _ _ _ _)
   | (with_reducible exact ih1 _ _ _ _ _ _ _ _)
   | (with_reducible exact coder_Take.mono _ _ _ _ _ _ _ _)
   | (with_reducible exact gain_Right.mono _ _)
   | (with_reducible exact gain_take.mono _ _ _ _ _ _ _)
   | (with_reducible exact LeO.refl _)
   | (with_reducible exact LeO.none _)
   | (with_reducible refine LeO.ite ?_ ?_)
   | (with_reducible refine LeO.bind ?_ (fun _ => ?_))
   | exact ih0 _ _ _ _ _ _ _
   | exact ih1 _ _ _ _ _ _ _ _
   | exact coder_Take.mono _ _ _ _ _ _ _ _
   | exact gain_Right.mono _ _
   | exact gain_take.mono _ _ _ _ _ _ _
   | exact LeO.none _
   | refine LeO.ite ?_ ?_
   | refine LeO.bind ?_ (fun _ => ?_)
  ·
   intro y0 y1 y2 y3 y4 y5 y6 y7
   unfold gain_Take.l0
   repeat' first
   | (with_reducible exact ih0 _ _ _ _ _ _ _)
   | (with_reducible exact ih1 _ _ _ _ _ _ _ _)
   | (with_reducible exact coder_Take.mono _ _ _ _ _ _ _ _)
   | (with_reducible exact gain_Right.mono _ _)
   | (with_reducible exact gain_take.mono _ _ _ _ _ _ _)
   | (with_reducible exact LeO.refl _)
   | (with_reducible exact LeO.none _)
   | (with_reducible refine LeO.ite ?_ ?_)
   | (with_reducible refine LeO.bind ?_ (fun _ => ?_))
   | exact ih0 _ _ _ _ _ _ _
   | exact ih1 _ _ _ _ _ _ _ _
   | exact coder_Take.mono _ _ _ _ _ _ _ _
   | exact gain_Right.mono _ _
   | exact gain_take.mono _ _ _ _ _ _ _
   | exact LeO.none _
   | refine LeO.ite ?_ ?_
   | refine LeO.bind ?_ (fun _ => ?_)
theorem gain_Take.mono : ∀ a0 a1 a2 a3 a4 a5 k,LeO (gain_Take.f k a0 a1 a2 a3 a4 a5) (gain_Take.f (k+1) a0 a1 a2 a3 a4 a5):=by
 intro a0 a1 a2 a3 a4 a5 k
 obtain ⟨ih0,ih1⟩:=gain_Take.mono_l k
 unfold gain_Take.f
 repeat' first
   | (with_reducible exact ih0 _ _ _ _ _ _ _)
   | (with_reducible exact ih1 _ _ _ _ _ _ _ _)
   | (with_reducible exact coder_Take.mono _ _ _ _ _ _ _ _)
   | (with_reducible exact gain_Right.mono _ _)
   | (with_reducible exact gain_take.mono _ _ _ _ _ _ _)
   | (with_reducible exact LeO.refl _)
   | (with_reducible exact LeO.none _)
   | (with_reducible refine LeO.ite ?_ ?_)
   | (with_reducible refine LeO.bind ?_ (fun _ => ?_))
   | exact ih0 _ _ _ _ _ _ _
   | exact ih1 _ _ _ _ _ _ _ _
   | exact coder_Take.mono _ _ _ _ _ _ _ _
   | exact gain_Right.mono _ _
   | exact gain_take.mono _ _ _ _ _ _ _
   | exact LeO.none _
   | refine LeO.ite ?_ ?_
   | refine LeO.bind ?_ (fun _ => ?_)
set_option maxHeartbeats 8000000 in
set_option maxRecDepth 100000 in
theorem gain_Take.calls (k : Nat) (a0_0 : Int) (a0_1 : Int) (P0_2_ : Nat→Prop) (A0_2 : Option Addr) (c0_2 : Nat) (l0_2 : List Int) (a0_3 : Int) (A1 : Option Addr) (c1 : Nat) (l1 : List Int) (a2 : Bool) (r1 : Int) (r2 : Int) (r3 : List Int) (r4 : Int) (r5 : List Int) (r6 : Int) (w : World) (hs0_2 : Kd.V (Kd.int .u8) 5 w w.heap.size (fun k_=>P0_2_ k_) (.slice A0_2 l0_2.length c0_2) l0_2) (hr1 : Kd.C (Kd.int .i64) w A1 l1.length l1) (hc1 : l1.length≤c1) (h : gain_Take.f k a0_0 a0_1 l0_2 a0_3 l1 a2=some (r1,r2,r3,r4,r5,r6)) :
  Calls Try.prog 47 #[.agg #[.int .u64 a0_0, .int .u32 a0_1, .slice A0_2 l0_2.length c0_2, .int .i64 a0_3], .slice A1 l1.length c1, .bool a2] w fun e w' => ∃ v2_ v4_ : Value,e=.returned (.tuple #[.agg #[.int .u64 r1, .int .u32 r2,v2_, .int .i64 r4],v4_, .int .i64 r6])∧Kd.V (Kd.int .u8) 5 w' w.heap.size (fun k_=>(P0_2_ k_∨w.heap.size≤k_)∧some k_≠(v4_ : Value).ownBlock) v2_ r3∧Kd.R (Kd.int .i64) 3 w' w.heap.size (fun k_=>(w.heap.size≤k_)) v4_ r5∧Below w.heap.size w w' := by
 have hu43:=Try.underlying43
 have HO0_2:=zm (show Kd.V (Kd.int .u8) 5 w w.heap.size (fun k_=>(P0_2_ k_∨w.heap.size≤k_)) (.slice A0_2 l0_2.length c0_2) l0_2 from zy hs0_2 (fun k_ hk => .inl hk))
 have HR1:=zm hr1;have HC1:=zm hc1;clear hr1 hc1;have HB:=zm (Below.refl w.heap.size w)
 have H : (if a2=true then (gain_Take.j0 k l1 a2 false a0_0 a0_1 l0_2 a0_3) else ((gain_Right.f k l1).bind fun t741=>(gain_Take.j0 k l1 a2 (!t741) a0_0 a0_1 l0_2 a0_3)))=some (r1,r2,r3,r4,r5,r6):=h
 clear h;have HC4:=zm H;clear H
 go_enter Try.func47,Try.ntmps47
 go_upto_region 1 with (first|((with_reducible refine gate_dst (N:=3) rfl ?_);refine box_event ?hg (N:=3) ?hd (cs := #[.int .u64 a0_0, .int .u32 a0_1, .slice A0_2 l0_2.length c0_2, .int .i64 a0_3]) (t:=43) ?hr ?_;(case hd=>rfl);(case hg=>rfl);(case hr=>first|(go_simp;done)|(go_simp;rfl));intro gb739 hg w5 hbox hb;have n0_:=zm (Kd.V_below (Kd.V_elderB (by (with_reducible repeat (first|apply zA|apply zB|apply zC));exact HO0_2.out) gb739 (Nat.le_of_eq hg.symm)) hb);have n1_:=zm (zJ (by repeat (first|(with_reducible first|exact HB.out|apply ze|apply zd|apply zf)|exact HB.out)) hb);have n2_:=zm (hbox);have n3_:=zm ((by rw [hg];exact (zE (by repeat (first|(with_reducible first|exact HB.out|apply ze|apply zd|apply zf)|exact HB.out))) : w.heap.size≤gb739));have n4_:=zm ((by rw [hg];exact (zE (by repeat (first|(with_reducible first|exact HB.out|apply ze|apply zd|apply zf)|exact HB.out))) : w.heap.size≤gb739));clear HO0_2;clear HB;have HO0_2:=n0_;have HB:=n1_;have BK739:=n2_;have GW739:=n3_;have GE739:=n4_;clear n0_ n1_ n2_ n3_ n4_;clear hb hbox hg)|((with_reducible refine gate_dst (N:=6) rfl ?_);refine box_event ?hg (N:=6) ?hd (cs := #[.int .u64 0, .int .u32 0, .slice none 0 0, .int .i64 0]) (t:=43) ?hr ?_;(case hd=>rfl);(case hg=>rfl);(case hr=>first|(go_simp;done)|(go_simp;rfl));intro gb740 hg w6 hbox hb;have n0_:=zm (Kd.V_below (Kd.V_elderB (by (with_reducible repeat (first|apply zA|apply zB|apply zC));exact HO0_2.out) gb740 (Nat.le_of_eq hg.symm)) hb);have n1_:=zm (zF (g:=gb739) (o:=.cells #[.int .u64 a0_0, .int .u32 a0_1, .slice A0_2 l0_2.length c0_2, .int .i64 a0_3] 43 (0,0)) (by (with_reducible repeat (first|refine zh ?_ _|refine zj ?_|refine zi ?_ _));exact BK739.out) hb);have n2_:=zm (zJ (by repeat (first|(with_reducible first|exact HB.out|apply ze|apply zd|apply zf|refine zk ?_ GE739.out)|exact HB.out)) hb);have n3_:=zm (hbox);have n4_:=zm ((by rw [hg];exact (zE (by repeat (first|(with_reducible first|exact HB.out|apply ze|apply zd|apply zf|refine zk ?_ GE739.out)|exact HB.out))) : w.heap.size≤gb740));have n5_:=zm ((by rw [hg];exact (zE (by repeat (first|(with_reducible first|exact HB.out|apply ze|apply zd|apply zf|refine zk ?_ GE739.out)|exact HB.out))) : w.heap.size≤gb740));have n6_:=zm ((by rw [hg];exact zn (zD (g:=gb739) (o:=.cells #[.int .u64 a0_0, .int .u32 a0_1, .slice A0_2 l0_2.length c0_2, .int .i64 a0_3] 43 (0,0)) (by (with_reducible repeat (first|refine zh ?_ _|refine zj ?_|refine zi ?_ _));exact BK739.out)) : gb739≠gb740));have n7_:=zm ((by rw [hg];exact zg (zD (g:=gb739) (o:=.cells #[.int .u64 a0_0, .int .u32 a0_1, .slice A0_2 l0_2.length c0_2, .int .i64 a0_3] 43 (0,0)) (by (with_reducible repeat (first|refine zh ?_ _|refine zj ?_|refine zi ?_ _));exact BK739.out)) : gb740≠gb739));clear HO0_2;clear BK739;clear HB;have HO0_2:=n0_;have BK739:=n1_;have HB:=n2_;have BK740:=n3_;have GW740:=n4_;have GE740:=n5_;have NB739_740:=n6_;have NB740_739:=n7_;clear n0_ n1_ n2_ n3_ n4_ n5_ n6_ n7_;clear hb hbox hg))
 (try simp only [Act.put,List.setIfInBounds_toArray,List.set_cons_zero,List.set_cons_succ])
 go_cut [20] (fun v20 wc => ∃ (kq : Nat) (x20_3 : Bool),v20=.bool x20_3∧Aside0 (gain_Take.j0 kq l1 a2 x20_3 a0_0 a0_1 l0_2 a0_3=some (r1,r2,r3,r4,r5,r6))∧Aside0 (kq≤k)∧Aside0 (Kd.V (Kd.int .u8) 5 wc w.heap.size (fun k_=>(P0_2_ k_∨w.heap.size≤k_)∧k_≠gb739∧k_≠gb740) (.slice A0_2 l0_2.length c0_2) l0_2)∧Aside0 (wc.heap[gb739]? = some (.cells #[.int .u64 a0_0, .int .u32 a0_1,(.slice A0_2 l0_2.length c0_2), .int .i64 a0_3] 43 (0,0)))∧Aside0 (wc.heap[gb740]? = some (.cells #[.int .u64 0, .int .u32 0,(.slice none 0 0), .int .i64 0] 43 (0,0)))∧Aside0 (Below w.heap.size w wc))
 case first =>
  have H:=HC4.out;clear HC4
  by_cases c7 : a2=true
  ·
   subst c7
   have H1 : (gain_Take.j0 k l1 true false a0_0 a0_1 l0_2 a0_3)=some (r1,r2,r3,r4,r5,r6):=by rw [if_pos rfl] at H;exact H
   clear H;have H:=H1;clear H1
   have H' := zm H
   clear H
   go_wp2
   go_meet
   case rel=>exact ⟨_,(false),(by first|rfl|(simp;done)|(simp [*];done)),H',⟨by first|omega|exact Nat.le_refl _⟩,⟨by (with_reducible repeat (first|apply zA|apply zB|apply zC));exact zy HO0_2.out (fun _ hk=>⟨hk.1.1,⟨hk.1.2,hk.2⟩⟩)⟩,⟨by (with_reducible repeat (first|refine zh ?_ _|refine zj ?_|refine zi ?_ _));exact BK739.out⟩,⟨by (with_reducible repeat (first|refine zh ?_ _|refine zj ?_|refine zi ?_ _));exact BK740.out⟩,⟨by repeat (first|(with_reducible first|exact HB.out|apply ze|apply zd|apply zf|refine zk ?_ GE739.out|refine zk ?_ GE740.out)|exact HB.out)⟩⟩
  ·
   replace c7:=Bool.eq_false_iff.mpr c7
   subst c7
   have H1 : ((gain_Right.f k l1).bind fun t741=>(gain_Take.j0 k l1 false (!t741) a0_0 a0_1 l0_2 a0_3))=some (r1,r2,r3,r4,r5,r6):=by rw [if_neg (show ¬ (false=true) by decide)] at H;exact H
   clear H;have H:=H1;clear H1
   replace H:=Option.bind_eq_some_iff.mp H
   obtain ⟨t741,A80,H⟩:=H
   replace H : (gain_Take.j0 k l1 false (!t741) a0_0 a0_1 l0_2 a0_3)=some (r1,r2,r3,r4,r5,r6):=H
   have A8:=zm A80;clear A80
   have H' := zm H
   clear H
   go_wp2_with (first|(go_at_call 45;(with_reducible refine (gain_Right.calls k _ _ l1 t741 _ ?side1 ?side2 A8.out).mono ?_);(case side1=>repeat (first|exact (Kd.C_below HR1.out HB.out)|(with_reducible refine Kd.C_alloc ?_ _)|(with_reducible refine Kd.C_drewN ?_ _)|(with_reducible refine Kd.C_drew ?_)));(case side2=>exact HC1.out);rintro e w' ⟨rfl,⟨nd,rfl⟩⟩))
   go_meet
   case rel=>exact ⟨_,(!t741),(by first|rfl|(simp;done)|(simp [*];done)),H',⟨by first|omega|exact Nat.le_refl _⟩,⟨by (with_reducible repeat (first|apply zA|apply zB|apply zC));exact zy HO0_2.out (fun _ hk=>⟨hk.1.1,⟨hk.1.2,hk.2⟩⟩)⟩,⟨by (with_reducible repeat (first|refine zh ?_ _|refine zj ?_|refine zi ?_ _));exact BK739.out⟩,⟨by (with_reducible repeat (first|refine zh ?_ _|refine zj ?_|refine zi ?_ _));exact BK740.out⟩,⟨by repeat (first|(with_reducible first|exact HB.out|apply ze|apply zd|apply zf|refine zk ?_ GE739.out|refine zk ?_ GE740.out)|exact HB.out)⟩⟩
 case rest =>
  clear HC4
  try clear c1
  try clear p2
  try clear c4
  try clear c7
  obtain ⟨kq,x20_3,rfl,HA,HJ3,HO_740002,BK739,BK740,HB⟩:=hcut
  cases kq with
  | zero=>exact absurd HA.out (by simp [gain_Take.j0])
  | succ kj3 =>
   have H:=HA.out;clear HA
   simp only [gain_Take.j0] at H
   by_cases c9 : x20_3=true
   ·
    subst c9
    have H1 : ((coder_Take.f kj3 a0_0 a0_1 l0_2 a0_3 0 1 1).bind fun bt742=>(some (bt742.1,bt742.2.1,bt742.2.2.1,bt742.2.2.2.1,([] : List Int),1)))=some (r1,r2,r3,r4,r5,r6):=by rw [if_pos rfl] at H;exact H
    clear H;have H:=H1;clear H1
    replace H:=Option.bind_eq_some_iff.mp H
    obtain ⟨⟨t742,t743,t744,t747,t748⟩,A100,H⟩:=H
    replace H : (some (t742,t743,t744,t747,([] : List Int),1))=some (r1,r2,r3,r4,r5,r6):=H
    have A10:=zm A100;clear A100
    simp only [Option.some.injEq,Prod.mk.injEq] at H
    obtain ⟨rfl,rfl,rfl,rfl,rfl,rfl⟩:=H
    have hnb11:=NB739_740.out;have hnc11:=NB740_739.out
    have hcz12_0 : wc.cell? ⟨gb739,0,none⟩=some (.int .u64 a0_0):=(zs BK739.out 0).trans rfl
    have hcz12_1 : wc.cell? ⟨gb739,1,none⟩=some (.int .u32 a0_1):=(zs BK739.out 1).trans rfl
    have hcz12_2 : wc.cell? ⟨gb739,2,none⟩=some (.slice A0_2 l0_2.length c0_2):=(zs BK739.out 2).trans rfl
    have hcz12_3 : wc.cell? ⟨gb739,3,none⟩=some (.int .i64 a0_3):=(zs BK739.out 3).trans rfl
    have hfz12_0:=zx BK739.out 0
    have hfz12_1:=zx BK739.out 1
    have hfz12_2:=zx BK739.out 2
    have hfz12_3:=zx BK739.out 3
    go_wp2_with (first|((with_reducible refine gate_callee (f:=34) rfl ?_);refine goesL_ (some 23) rfl rfl Try.func34 (by kernel_rfl) rfl #[.agg #[.int .u64 a0_0, .int .u32 a0_1, .slice A0_2 l0_2.length c0_2, .int .i64 a0_3], .int .i64 0, .int .i64 1, .int .i64 1] rfl (by (try simp only [List.map_toArray,List.map_cons,List.map_nil]);first|done|rfl|(simp only [List.length_drop,List.length_take];rfl)) ?_;(with_reducible refine (coder_Take.calls kj3 a0_0 a0_1 (fun k_=>((P0_2_ k_∨w.heap.size≤k_)∧(k_≠gb739∧k_≠gb740))) _ _ l0_2 a0_3 0 1 1 t742 t743 t744 t747 t748 _ ?side1 A10.out).mono ?_);(case side1=>exact HO_740002.out);rintro e w13 ⟨v745,rfl,ho0,hb⟩;refine ⟨_,rfl, ?_⟩;have n0_:=zm (Kd.V_below (by (with_reducible repeat (first|apply zA|apply zB|apply zC));exact HO_740002.out) hb);have n1_:=zm (Kd.V_lower (zy (ok' := fun k_=>(P0_2_ k_∨w.heap.size≤k_)∧k_≠gb739∧k_≠gb740) ho0 (fun k_ hk_=>⟨Or.elim hk_ (fun hs_=>hs_.1) (fun hn_=>(.inr (Nat.le_trans (zE (by repeat (first|(with_reducible first|exact HB.out|apply ze|apply zd|apply zf|refine zk ?_ GE739.out|refine zk ?_ GE740.out)|exact HB.out))) hn_))),Or.elim hk_ (fun hs_=>hs_.2.1) (fun hn_=>(Kd.freshB (g:=gb739) (o:=.cells #[.int .u64 a0_0, .int .u32 a0_1, .slice A0_2 l0_2.length c0_2, .int .i64 a0_3] 43 (0,0)) (by (with_reducible repeat (first|refine zh ?_ _|refine zj ?_|refine zi ?_ _));exact BK739.out) k_ hn_)),Or.elim hk_ (fun hs_=>hs_.2.2) (fun hn_=>(Kd.freshB (g:=gb740) (o:=.cells #[.int .u64 0, .int .u32 0, .slice none 0 0, .int .i64 0] 43 (0,0)) (by (with_reducible repeat (first|refine zh ?_ _|refine zj ?_|refine zi ?_ _));exact BK740.out) k_ hn_))⟩)) (zE (by repeat (first|(with_reducible first|exact HB.out|apply ze|apply zd|apply zf|refine zk ?_ GE739.out|refine zk ?_ GE740.out)|exact HB.out))));have n2_:=zm (zF (g:=gb739) (o:=.cells #[.int .u64 a0_0, .int .u32 a0_1, .slice A0_2 l0_2.length c0_2, .int .i64 a0_3] 43 (0,0)) (by (with_reducible repeat (first|refine zh ?_ _|refine zj ?_|refine zi ?_ _));exact BK739.out) hb);have n3_:=zm (zF (g:=gb740) (o:=.cells #[.int .u64 0, .int .u32 0, .slice none 0 0, .int .i64 0] 43 (0,0)) (by (with_reducible repeat (first|refine zh ?_ _|refine zj ?_|refine zi ?_ _));exact BK740.out) hb);have n4_:=zm (zJ (by repeat (first|(with_reducible first|exact HB.out|apply ze|apply zd|apply zf|refine zk ?_ GE739.out|refine zk ?_ GE740.out)|exact HB.out)) hb);clear HO_740002;clear BK739;clear BK740;clear HB;have HO_740002:=n0_;have HO746:=n1_;have BK739:=n2_;have BK740:=n3_;have HB:=n4_;clear n0_ n1_ n2_ n3_ n4_;(try clear hb);(try clear hb2);(try clear hk);(try clear hi);(try clear ho0);have hcz14_0 : w13.cell? ⟨gb739,0,none⟩=some (.int .u64 a0_0):=(zs BK739.out 0).trans rfl;have hcz14_1 : w13.cell? ⟨gb739,1,none⟩=some (.int .u32 a0_1):=(zs BK739.out 1).trans rfl;have hcz14_2 : w13.cell? ⟨gb739,2,none⟩=some (.slice A0_2 l0_2.length c0_2):=(zs BK739.out 2).trans rfl;have hcz14_3 : w13.cell? ⟨gb739,3,none⟩=some (.int .i64 a0_3):=(zs BK739.out 3).trans rfl;have hfz14_0:=zx BK739.out 0;have hfz14_1:=zx BK739.out 1;have hfz14_2:=zx BK739.out 2;have hfz14_3:=zx BK739.out 3;obtain ⟨Ao15,co15,eo15⟩:=Kd.V_slice HO746.out;subst eo15;have hcz16_0 : w13.cell? ⟨gb740,0,none⟩=some (.int .u64 0):=(zs BK740.out 0).trans rfl;have hcz16_1 : w13.cell? ⟨gb740,1,none⟩=some (.int .u32 0):=(zs BK740.out 1).trans rfl;have hcz16_2 : w13.cell? ⟨gb740,2,none⟩=some (.slice none 0 0):=(zs BK740.out 2).trans rfl;have hcz16_3 : w13.cell? ⟨gb740,3,none⟩=some (.int .i64 0):=(zs BK740.out 3).trans rfl;have hfz16_0:=zx BK740.out 0;have hfz16_1:=zx BK740.out 1;have hfz16_2:=zx BK740.out 2;have hfz16_3:=zx BK740.out 3))
    refine bodyPost_ret (results_ctt rfl _ _ gb740 43 #[.int .u64 t742, .int .u32 t743, .slice Ao15 t744.length co15, .int .i64 t747] (0,0) _ rfl (by (with_reducible repeat (first|refine zh ?_ _|refine zj ?_|refine zi ?_ _));refine zw (cs := #[.int .u64 t742, .int .u32 t743, .slice Ao15 t744.length co15, .int .i64 0]) ?_ 3 _ rfl;(with_reducible repeat (first|refine zh ?_ _|refine zj ?_|refine zi ?_ _));refine zw (cs := #[.int .u64 t742, .int .u32 t743, .slice none 0 0, .int .i64 0]) ?_ 2 _ rfl;(with_reducible repeat (first|refine zh ?_ _|refine zj ?_|refine zi ?_ _));refine zw (cs := #[.int .u64 t742, .int .u32 0, .slice none 0 0, .int .i64 0]) ?_ 1 _ rfl;(with_reducible repeat (first|refine zh ?_ _|refine zj ?_|refine zi ?_ _));refine zw (cs := #[.int .u64 0, .int .u32 0, .slice none 0 0, .int .i64 0]) ?_ 0 _ rfl;(with_reducible repeat (first|refine zh ?_ _|refine zj ?_|refine zi ?_ _|refine zv ?_ NB740_739.out _));exact BK740.out) Try.underlying43 rfl (by kernel_rfl)) rfl ?_
    exact ⟨_,_,by first|rfl|(simp [errW_none,errW_some] <;> rfl)|(simp [*,errW_none,errW_some] <;> rfl),by (with_reducible repeat (first|apply zA|apply zB|apply zC));exact zy (zI (p:=⟨gb740,3,none⟩) (zI (p:=⟨gb740,2,none⟩) (zI (p:=⟨gb740,1,none⟩) (zI (p:=⟨gb740,0,none⟩) (zI (p:=⟨gb739,3,none⟩) (zI (p:=⟨gb739,2,none⟩) (zI (p:=⟨gb739,1,none⟩) (zI (p:=⟨gb739,0,none⟩) (zy (zy HO746.out (fun k_ hk=>(⟨hk,hk.2.1⟩ : _∧k_≠gb739))) (fun k_ hk=>(⟨hk,hk.1.2.2⟩ : _∧k_≠gb740))) (fun _ hk=>hk.1.2) (.int .u64 t742)) (fun _ hk=>hk.1.2) (.int .u32 t743)) (fun _ hk=>hk.1.2) (.slice Ao15 t744.length co15)) (fun _ hk=>hk.1.2) (.int .i64 t747)) (fun _ hk=>hk.2) (.int .u64 t742)) (fun _ hk=>hk.2) (.int .u32 t743)) (fun _ hk=>hk.2) (.slice Ao15 t744.length co15)) (fun _ hk=>hk.2) (.int .i64 t747)) (fun _ hk=>⟨hk.1.1.1,(by simp [Value.ownBlock])⟩),by first|exact Kd.R_nil _ _ _ _ _|exact Kd.N_nil _ _ _ _ _|exact Kd.V_nil _ _ _ _ _|exact Kd.Q_nil _ _ _ _ _|exact Kd.S_nil _ _ _ _ _,by repeat (first|(with_reducible first|exact HB.out|apply ze|apply zd|apply zf|refine zk ?_ GE739.out|refine zk ?_ GE740.out)|exact HB.out)⟩
   ·
    replace c9:=Bool.eq_false_iff.mpr c9
    subst c9
    have H1 : (gain_Take.l0 kj3 l1 a2 ([] : List Int) 0 a0_0 a0_1 l0_2 a0_3)=some (r1,r2,r3,r4,r5,r6):=by rw [if_neg (show ¬ (false=true) by decide)] at H;exact H
    clear H;have H:=H1;clear H1
    have H' := zm H
    clear H
    go_wp2
    go_loopg [9,27] kj3 (fun kq v9 v27 w' => ∃ (x9_2 : List Int) (x27_2 : Int) (x740000_2 : Int) (x740001_2 : Int) (x740002_2 : List Int) (x740003_2 : Int) (u740002 : Value),v27=.int .i64 x27_2∧Aside0 (gain_Take.l0 kq l1 a2 x9_2 x27_2 x740000_2 x740001_2 x740002_2 x740003_2=some (r1,r2,r3,r4,r5,r6))∧Aside0 (kq≤kj3)∧Aside0 (Kd.R (Kd.int .i64) 3 w' w.heap.size (fun k_=>(w.heap.size≤k_)) v9 x9_2)∧Aside0 (Kd.V (Kd.int .u8) 5 w' w.heap.size (fun k_=>(P0_2_ k_∨w.heap.size≤k_)∧some k_≠(v9 : Value).ownBlock∧k_≠gb739∧k_≠gb740) u740002 x740002_2)∧Aside0 (w'.heap[gb739]? = some (.cells #[.int .u64 x740000_2, .int .u32 x740001_2,u740002, .int .i64 x740003_2] 43 (0,0)))∧Aside0 (w'.heap[gb740]? = some (.cells #[.int .u64 0, .int .u32 0,(.slice none 0 0), .int .i64 0] 43 (0,0)))∧Aside0 (Below w.heap.size w w'))
    case atStart=>exact ⟨(([] : List Int)),(0),(a0_0),(a0_1),(l0_2),(a0_3),(.slice A0_2 l0_2.length c0_2),(by first|rfl|(simp;done)|(simp [*];done)),H',⟨Nat.le_refl _⟩,⟨by first|exact Kd.R_nil _ _ _ _ _|exact Kd.N_nil _ _ _ _ _|exact Kd.V_nil _ _ _ _ _|exact Kd.Q_nil _ _ _ _ _|exact Kd.S_nil _ _ _ _ _⟩,⟨by (with_reducible repeat (first|apply zA|apply zB|apply zC));exact zy HO_740002.out (fun _ hk=>⟨hk.1,⟨(by simp [Value.ownBlock]),⟨hk.2.1,hk.2.2⟩⟩⟩)⟩,⟨by (with_reducible repeat (first|refine zh ?_ _|refine zj ?_|refine zi ?_ _));exact BK739.out⟩,⟨by (with_reducible repeat (first|refine zh ?_ _|refine zj ?_|refine zi ?_ _));exact BK740.out⟩,⟨by repeat (first|(with_reducible first|exact HB.out|apply ze|apply zd|apply zf|refine zk ?_ GE739.out|refine zk ?_ GE740.out)|exact HB.out)⟩⟩
    case round =>
     clear H'
     try clear c1
     try clear p2
     try clear c3
     try clear c4
     try clear c7
     try clear c9
     try clear c11
     try clear hcz12_0
     try clear hcz12_1
     try clear hcz12_2
     try clear hcz12_3
     try clear hcz14_0
     try clear hcz14_1
     try clear hcz14_2
     try clear hcz14_3
     try clear hcz16_0
     try clear hcz16_1
     try clear hcz16_2
     try clear hcz16_3
     try clear hfz12_0
     try clear hfz12_1
     try clear hfz12_2
     try clear hfz12_3
     try clear hfz14_0
     try clear hfz14_1
     try clear hfz14_2
     try clear hfz14_3
     try clear hfz16_0
     try clear hfz16_1
     try clear hfz16_2
     try clear hfz16_3
     try clear p2
     obtain ⟨x9_2,x27_2,x740000_2,x740001_2,x740002_2,x740003_2,u740002,rfl,HA,HK2,HO_9,HO_740002,BK739,BK740,HB⟩:=hrel
     cases gk with
     | zero=>exact absurd HA.out (by simp [gain_Take.l0])
     | succ k2 =>
      have H:=HA.out;clear HA
      simp only [gain_Take.l0] at H
      by_cases c17 : x27_2 < 5
      ·
       rw [if_pos c17] at H
       have c17b0 : decide (x27_2 < 5)=true:=decide_eq_true c17
       clear c17
       by_cases c18 : a2=true
       ·
        subst c18
        have H1 : ((gain_take.f k2 x740000_2 x740001_2 x740002_2 x740003_2 0 true).bind fun bt749=>(if x9_2.length < 17592186044416 then (gain_Take.l0 k2 l1 true (x9_2 ++ [bt749.2.2.2.2]) (wrap64 (x27_2+1)) bt749.1 bt749.2.1 bt749.2.2.1 bt749.2.2.2.1) else (none)))=some (r1,r2,r3,r4,r5,r6):=by rw [if_pos rfl] at H;exact H
        clear H;have H:=H1;clear H1
        replace H:=Option.bind_eq_some_iff.mp H
        obtain ⟨⟨t749,t750,t751,t754,t755⟩,A190,H⟩:=H
        replace H : (if x9_2.length < 17592186044416 then (gain_Take.l0 k2 l1 true (x9_2 ++ [t755]) (wrap64 (x27_2+1)) t749 t750 t751 t754) else (none))=some (r1,r2,r3,r4,r5,r6):=H
        have A19:=zm A190;clear A190
        by_cases c20 : x9_2.length < 17592186044416
        ·
         rw [if_pos c20] at H
         have LMc20:=zm c20;clear c20
         obtain ⟨y757,hy757⟩ : ∃ y_ : List Int,y_=(x9_2 ++ [t755]):=⟨_,rfl⟩
         replace H : (gain_Take.l0 k2 l1 true y757 (wrap64 (x27_2+1)) t749 t750 t751 t754)=some (r1,r2,r3,r4,r5,r6):=by first|(rw [hy757];with_reducible exact H)|(have H2_:=(Option.bind_some _ _).symm.trans H;rw [hy757];with_reducible exact H2_)|(have H2_:=(Option.bind_some _ _).symm.trans H;with_reducible exact H2_)|with_reducible exact H|(rw [hy757];exact H)|exact H
         have Ny757:=zm hy757;clear hy757
         have H' := zm H
         clear H;have hnb21:=NB739_740.out;have hnc21:=NB740_739.out
         have hcz22_0 : wr.cell? ⟨gb739,0,none⟩=some (.int .u64 x740000_2):=(zs BK739.out 0).trans rfl
         have hcz22_1 : wr.cell? ⟨gb739,1,none⟩=some (.int .u32 x740001_2):=(zs BK739.out 1).trans rfl
         have hcz22_2 : wr.cell? ⟨gb739,2,none⟩=some (u740002):=(zs BK739.out 2).trans rfl
         have hcz22_3 : wr.cell? ⟨gb739,3,none⟩=some (.int .i64 x740003_2):=(zs BK739.out 3).trans rfl
         have hfz22_0:=zx BK739.out 0
         have hfz22_1:=zx BK739.out 1
         have hfz22_2:=zx BK739.out 2
         have hfz22_3:=zx BK739.out 3
         obtain ⟨Ao23,co23,eo23⟩:=Kd.V_slice HO_740002.out
         subst eo23
         try go_wp2_with (first|((with_reducible refine gate_callee (f:=65) rfl ?_);refine goesL_ (some 40) rfl rfl Try.func65 (by kernel_rfl) rfl #[.agg #[.int .u64 x740000_2, .int .u32 x740001_2, .slice Ao23 x740002_2.length co23, .int .i64 x740003_2], .int .i64 0, .bool true] rfl (by (try simp only [List.map_toArray,List.map_cons,List.map_nil]);first|done|rfl|(simp only [List.length_drop,List.length_take];rfl)) ?_;(with_reducible refine (gain_take.calls k2 x740000_2 x740001_2 (fun k_=>((P0_2_ k_∨w.heap.size≤k_)∧(some k_≠(u9 : Value).ownBlock∧(k_≠gb739∧k_≠gb740)))) _ _ x740002_2 x740003_2 0 true t749 t750 t751 t754 t755 _ ?side1 A19.out).mono ?_);(case side1=>exact HO_740002.out);rintro e w24 ⟨v752,rfl,ho0,hb⟩;refine ⟨_,rfl, ?_⟩;have n0_:=zm (Kd.R_below (by (with_reducible repeat (first|apply zo|apply zp|apply zq));exact HO_9.out) hb);have n1_:=zm (Kd.V_below (by (with_reducible repeat (first|apply zA|apply zB|apply zC));exact HO_740002.out) hb);have n2_:=zm (Kd.V_lower (zy (ok' := fun k_=>(P0_2_ k_∨w.heap.size≤k_)∧some k_≠(u9 : Value).ownBlock∧k_≠gb739∧k_≠gb740) ho0 (fun k_ hk_=>⟨Or.elim hk_ (fun hs_=>hs_.1) (fun hn_=>(.inr (Nat.le_trans (zE (by repeat (first|(with_reducible first|exact HB.out|apply ze|apply zd|apply zf|refine zk ?_ GE739.out|refine zk ?_ GE740.out)|exact HB.out))) hn_))),Or.elim hk_ (fun hs_=>hs_.2.1) (fun hn_=>(Kd.fresh' (Kd.R_lt (by (with_reducible repeat (first|apply zo|apply zp|apply zq));exact HO_9.out)) k_ hn_)),Or.elim hk_ (fun hs_=>hs_.2.2.1) (fun hn_=>(Kd.freshB (g:=gb739) (o:=.cells #[.int .u64 x740000_2, .int .u32 x740001_2, .slice Ao23 x740002_2.length co23, .int .i64 x740003_2] 43 (0,0)) (by (with_reducible repeat (first|refine zh ?_ _|refine zj ?_|refine zi ?_ _));exact BK739.out) k_ hn_)),Or.elim hk_ (fun hs_=>hs_.2.2.2) (fun hn_=>(Kd.freshB (g:=gb740) (o:=.cells #[.int .u64 0, .int .u32 0, .slice none 0 0, .int .i64 0] 43 (0,0)) (by (with_reducible repeat (first|refine zh ?_ _|refine zj ?_|refine zi ?_ _));exact BK740.out) k_ hn_))⟩)) (zE (by repeat (first|(with_reducible first|exact HB.out|apply ze|apply zd|apply zf|refine zk ?_ GE739.out|refine zk ?_ GE740.out)|exact HB.out))));have n3_:=zm (zF (g:=gb739) (o:=.cells #[.int .u64 x740000_2, .int .u32 x740001_2, .slice Ao23 x740002_2.length co23, .int .i64 x740003_2] 43 (0,0)) (by (with_reducible repeat (first|refine zh ?_ _|refine zj ?_|refine zi ?_ _));exact BK739.out) hb);have n4_:=zm (zF (g:=gb740) (o:=.cells #[.int .u64 0, .int .u32 0, .slice none 0 0, .int .i64 0] 43 (0,0)) (by (with_reducible repeat (first|refine zh ?_ _|refine zj ?_|refine zi ?_ _));exact BK740.out) hb);have n5_:=zm (zJ (by repeat (first|(with_reducible first|exact HB.out|apply ze|apply zd|apply zf|refine zk ?_ GE739.out|refine zk ?_ GE740.out)|exact HB.out)) hb);clear HO_9;clear HO_740002;clear BK739;clear BK740;clear HB;have HO_9:=n0_;have HO_740002:=n1_;have HO753:=n2_;have BK739:=n3_;have BK740:=n4_;have HB:=n5_;clear n0_ n1_ n2_ n3_ n4_ n5_;(try clear hb);(try clear hb2);(try clear hk);(try clear hi);(try clear ho0))|((with_reducible refine gate_dst (N:=12) rfl ?_);refine box_event ?hg (N:=12) ?hd (cs := #[.int .u64 0, .int .u32 0, .slice none 0 0, .int .i64 0]) (t:=43) ?hr ?_;(case hd=>rfl);(case hg=>rfl);(case hr=>first|(go_simp;done)|(go_simp;rfl));intro gb756 hg w25 hbox hb;have n0_:=zm (Kd.R_below (by (with_reducible repeat (first|apply zo|apply zp|apply zq));exact HO_9.out) hb);have n1_:=zm (Kd.V_below (Kd.V_elderB (by (with_reducible repeat (first|apply zA|apply zB|apply zC));exact HO_740002.out) gb756 (Nat.le_of_eq hg.symm)) hb);have n2_:=zm (Kd.V_below (Kd.V_elderB (by (with_reducible repeat (first|apply zA|apply zB|apply zC));exact HO753.out) gb756 (Nat.le_of_eq hg.symm)) hb);have n3_:=zm (zF (g:=gb739) (o:=.cells #[.int .u64 x740000_2, .int .u32 x740001_2, .slice Ao23 x740002_2.length co23, .int .i64 x740003_2] 43 (0,0)) (by (with_reducible repeat (first|refine zh ?_ _|refine zj ?_|refine zi ?_ _));exact BK739.out) hb);have n4_:=zm (zF (g:=gb740) (o:=.cells #[.int .u64 0, .int .u32 0, .slice none 0 0, .int .i64 0] 43 (0,0)) (by (with_reducible repeat (first|refine zh ?_ _|refine zj ?_|refine zi ?_ _));exact BK740.out) hb);have n5_:=zm (zJ (by repeat (first|(with_reducible first|exact HB.out|apply ze|apply zd|apply zf|refine zk ?_ GE739.out|refine zk ?_ GE740.out)|exact HB.out)) hb);have n6_:=zm (hbox);have n7_:=zm ((by rw [hg];exact (zE (by repeat (first|(with_reducible first|exact HB.out|apply ze|apply zd|apply zf|refine zk ?_ GE739.out|refine zk ?_ GE740.out)|exact HB.out))) : w.heap.size≤gb756));have n8_:=zm ((by rw [hg];exact (zE (by repeat (first|(with_reducible first|exact HB.out|apply ze|apply zd|apply zf|refine zk ?_ GE739.out|refine zk ?_ GE740.out)|exact HB.out))) : w.heap.size≤gb756));have n9_:=zm ((by rw [hg];exact zn (zD (g:=gb739) (o:=.cells #[.int .u64 x740000_2, .int .u32 x740001_2, .slice Ao23 x740002_2.length co23, .int .i64 x740003_2] 43 (0,0)) (by (with_reducible repeat (first|refine zh ?_ _|refine zj ?_|refine zi ?_ _));exact BK739.out)) : gb739≠gb756));have n10_:=zm ((by rw [hg];exact zg (zD (g:=gb739) (o:=.cells #[.int .u64 x740000_2, .int .u32 x740001_2, .slice Ao23 x740002_2.length co23, .int .i64 x740003_2] 43 (0,0)) (by (with_reducible repeat (first|refine zh ?_ _|refine zj ?_|refine zi ?_ _));exact BK739.out)) : gb756≠gb739));have n11_:=zm ((by rw [hg];exact zn (zD (g:=gb740) (o:=.cells #[.int .u64 0, .int .u32 0, .slice none 0 0, .int .i64 0] 43 (0,0)) (by (with_reducible repeat (first|refine zh ?_ _|refine zj ?_|refine zi ?_ _));exact BK740.out)) : gb740≠gb756));have n12_:=zm ((by rw [hg];exact zg (zD (g:=gb740) (o:=.cells #[.int .u64 0, .int .u32 0, .slice none 0 0, .int .i64 0] 43 (0,0)) (by (with_reducible repeat (first|refine zh ?_ _|refine zj ?_|refine zi ?_ _));exact BK740.out)) : gb756≠gb740));clear HO_9;clear HO_740002;clear HO753;clear BK739;clear BK740;clear HB;have HO_9:=n0_;have HO_740002:=n1_;have HO753:=n2_;have BK739:=n3_;have BK740:=n4_;have HB:=n5_;have BK756:=n6_;have GW756:=n7_;have GE756:=n8_;have NB739_756:=n9_;have NB756_739:=n10_;have NB740_756:=n11_;have NB756_740:=n12_;clear n0_ n1_ n2_ n3_ n4_ n5_ n6_ n7_ n8_ n9_ n10_ n11_ n12_;clear hb hbox hg;have hnb26:=NB756_739.out;have hnc26:=NB739_756.out;have hnb27:=NB756_740.out;have hnc27:=NB740_756.out;have hcz28_0 : w25.cell? ⟨gb756,0,none⟩=some (.int .u64 0):=(zs BK756.out 0).trans rfl;have hcz28_1 : w25.cell? ⟨gb756,1,none⟩=some (.int .u32 0):=(zs BK756.out 1).trans rfl;have hcz28_2 : w25.cell? ⟨gb756,2,none⟩=some (.slice none 0 0):=(zs BK756.out 2).trans rfl;have hcz28_3 : w25.cell? ⟨gb756,3,none⟩=some (.int .i64 0):=(zs BK756.out 3).trans rfl;have hfz28_0:=zx BK756.out 0;have hfz28_1:=zx BK756.out 1;have hfz28_2:=zx BK756.out 2;have hfz28_3:=zx BK756.out 3;obtain ⟨Ao29,co29,eo29⟩:=Kd.V_slice HO753.out;subst eo29))
         have n0_ : Aside0 (Kd.R (Kd.int .i64) 3 ((((w25.setCell ⟨gb756,0,none⟩ (.int .u64 t749)).setCell ⟨gb756,1,none⟩ (.int .u32 t750)).setCell ⟨gb756,2,none⟩ (.slice Ao29 t751.length co29)).setCell ⟨gb756,3,none⟩ (.int .i64 t754)) w.heap.size (fun k_=>(w.heap.size≤k_)) u9 x9_2):=⟨by (with_reducible repeat (first|apply zo|apply zp|apply zq));exact zG (zH (p:=⟨gb756,3,none⟩) (zH (p:=⟨gb756,2,none⟩) (zH (p:=⟨gb756,1,none⟩) (zH (p:=⟨gb756,0,none⟩) (Kd.R_types HO_9.out BK756.out (by decide)) (fun _ hk=>hk.2) (.int .u64 t749)) (fun _ hk=>hk.2) (.int .u32 t750)) (fun _ hk=>hk.2) (.slice Ao29 t751.length co29)) (fun _ hk=>hk.2) (.int .i64 t754)) (fun _ hk=>hk.1)⟩
         have n1_ : Aside0 (Kd.V (Kd.int .u8) 5 ((((w25.setCell ⟨gb756,0,none⟩ (.int .u64 t749)).setCell ⟨gb756,1,none⟩ (.int .u32 t750)).setCell ⟨gb756,2,none⟩ (.slice Ao29 t751.length co29)).setCell ⟨gb756,3,none⟩ (.int .i64 t754)) w.heap.size (fun k_=>(P0_2_ k_∨w.heap.size≤k_)∧some k_≠(u9 : Value).ownBlock∧k_≠gb739∧k_≠gb740∧k_≠gb756) (.slice Ao23 x740002_2.length co23) x740002_2):=⟨by (with_reducible repeat (first|apply zA|apply zB|apply zC));exact zy (zI (p:=⟨gb756,3,none⟩) (zI (p:=⟨gb756,2,none⟩) (zI (p:=⟨gb756,1,none⟩) (zI (p:=⟨gb756,0,none⟩) (zy HO_740002.out (fun k_ hk=>(⟨hk,hk.2⟩ : _∧k_≠gb756))) (fun _ hk=>hk.2) (.int .u64 t749)) (fun _ hk=>hk.2) (.int .u32 t750)) (fun _ hk=>hk.2) (.slice Ao29 t751.length co29)) (fun _ hk=>hk.2) (.int .i64 t754)) (fun _ hk=>⟨hk.1.1.1,⟨hk.1.1.2.1,⟨hk.1.1.2.2.1,⟨hk.1.1.2.2.2,hk.1.2⟩⟩⟩⟩)⟩
         have n2_ : Aside0 (Kd.V (Kd.int .u8) 5 ((((w25.setCell ⟨gb756,0,none⟩ (.int .u64 t749)).setCell ⟨gb756,1,none⟩ (.int .u32 t750)).setCell ⟨gb756,2,none⟩ (.slice Ao29 t751.length co29)).setCell ⟨gb756,3,none⟩ (.int .i64 t754)) w.heap.size (fun k_=>(P0_2_ k_∨w.heap.size≤k_)∧some k_≠(u9 : Value).ownBlock∧k_≠gb739∧k_≠gb740∧k_≠gb756) (.slice Ao29 t751.length co29) t751):=⟨by (with_reducible repeat (first|apply zA|apply zB|apply zC));exact zy (zI (p:=⟨gb756,3,none⟩) (zI (p:=⟨gb756,2,none⟩) (zI (p:=⟨gb756,1,none⟩) (zI (p:=⟨gb756,0,none⟩) (zy HO753.out (fun k_ hk=>(⟨hk,hk.2⟩ : _∧k_≠gb756))) (fun _ hk=>hk.2) (.int .u64 t749)) (fun _ hk=>hk.2) (.int .u32 t750)) (fun _ hk=>hk.2) (.slice Ao29 t751.length co29)) (fun _ hk=>hk.2) (.int .i64 t754)) (fun _ hk=>⟨hk.1.1.1,⟨hk.1.1.2.1,⟨hk.1.1.2.2.1,⟨hk.1.1.2.2.2,hk.1.2⟩⟩⟩⟩)⟩
         have n3_ : Aside0 (((((w25.setCell ⟨gb756,0,none⟩ (.int .u64 t749)).setCell ⟨gb756,1,none⟩ (.int .u32 t750)).setCell ⟨gb756,2,none⟩ (.slice Ao29 t751.length co29)).setCell ⟨gb756,3,none⟩ (.int .i64 t754)).heap[gb739]? = some (.cells #[.int .u64 x740000_2, .int .u32 x740001_2, .slice Ao23 x740002_2.length co23, .int .i64 x740003_2] 43 (0,0))):=⟨by (with_reducible repeat (first|refine zh ?_ _|refine zj ?_|refine zi ?_ _|refine zv ?_ NB739_756.out _));exact BK739.out⟩
         have n4_ : Aside0 (((((w25.setCell ⟨gb756,0,none⟩ (.int .u64 t749)).setCell ⟨gb756,1,none⟩ (.int .u32 t750)).setCell ⟨gb756,2,none⟩ (.slice Ao29 t751.length co29)).setCell ⟨gb756,3,none⟩ (.int .i64 t754)).heap[gb740]? = some (.cells #[.int .u64 0, .int .u32 0, .slice none 0 0, .int .i64 0] 43 (0,0))):=⟨by (with_reducible repeat (first|refine zh ?_ _|refine zj ?_|refine zi ?_ _|refine zv ?_ NB740_756.out _));exact BK740.out⟩
         have n5_ : Aside0 (((((w25.setCell ⟨gb756,0,none⟩ (.int .u64 t749)).setCell ⟨gb756,1,none⟩ (.int .u32 t750)).setCell ⟨gb756,2,none⟩ (.slice Ao29 t751.length co29)).setCell ⟨gb756,3,none⟩ (.int .i64 t754)).heap[gb756]? = some (.cells #[.int .u64 t749, .int .u32 t750, .slice Ao29 t751.length co29, .int .i64 t754] 43 (0,0))):=⟨by (with_reducible repeat (first|refine zh ?_ _|refine zj ?_|refine zi ?_ _));refine zw (cs := #[.int .u64 t749, .int .u32 t750, .slice Ao29 t751.length co29, .int .i64 0]) ?_ 3 _ rfl;(with_reducible repeat (first|refine zh ?_ _|refine zj ?_|refine zi ?_ _));refine zw (cs := #[.int .u64 t749, .int .u32 t750, .slice none 0 0, .int .i64 0]) ?_ 2 _ rfl;(with_reducible repeat (first|refine zh ?_ _|refine zj ?_|refine zi ?_ _));refine zw (cs := #[.int .u64 t749, .int .u32 0, .slice none 0 0, .int .i64 0]) ?_ 1 _ rfl;(with_reducible repeat (first|refine zh ?_ _|refine zj ?_|refine zi ?_ _));refine zw (cs := #[.int .u64 0, .int .u32 0, .slice none 0 0, .int .i64 0]) ?_ 0 _ rfl;(with_reducible repeat (first|refine zh ?_ _|refine zj ?_|refine zi ?_ _));exact BK756.out⟩
         have n6_ : Aside0 (Below w.heap.size w ((((w25.setCell ⟨gb756,0,none⟩ (.int .u64 t749)).setCell ⟨gb756,1,none⟩ (.int .u32 t750)).setCell ⟨gb756,2,none⟩ (.slice Ao29 t751.length co29)).setCell ⟨gb756,3,none⟩ (.int .i64 t754))):=⟨by repeat (first|(with_reducible first|exact HB.out|apply ze|apply zd|apply zf|refine zk ?_ GE739.out|refine zk ?_ GE740.out|refine zk ?_ GE756.out)|exact HB.out)⟩
         (try clear HO_9)
         (try clear HO_740002)
         (try clear HO753)
         (try clear BK739)
         (try clear BK740)
         (try clear BK756)
         (try clear HB)
         generalize ((((w25.setCell ⟨gb756,0,none⟩ (.int .u64 t749)).setCell ⟨gb756,1,none⟩ (.int .u32 t750)).setCell ⟨gb756,2,none⟩ (.slice Ao29 t751.length co29)).setCell ⟨gb756,3,none⟩ (.int .i64 t754))=w30 at n0_ n1_ n2_ n3_ n4_ n5_ n6_ ⊢
         have HO_9:=n0_;have HO_740002:=n1_;have HO753:=n2_;have BK739:=n3_;have BK740:=n4_;have BK756:=n5_;have HB:=n6_;clear n0_ n1_ n2_ n3_ n4_ n5_ n6_;have n0_:=zm (zq HO_9.out);have n1_:=zm (zC HO_740002.out);have n2_:=zm (zC HO753.out);have n3_:=zm (zj BK739.out);have n4_:=zm (zj BK740.out);have n5_:=zm (zj BK756.out);have n6_:=zm (zf HB.out);clear HO_9;clear HO_740002;clear HO753;clear BK739;clear BK740;clear BK756;clear HB;have HO_9:=n0_;have HO_740002:=n1_;have HO753:=n2_;have BK739:=n3_;have BK740:=n4_;have BK756:=n5_;have HB:=n6_;clear n0_ n1_ n2_ n3_ n4_ n5_ n6_
         refine start_ (n:=7) (S:=fun w' => w'.cell? ⟨gb756,0,none⟩=some (.int .u64 t749)∧w'.cell? ⟨gb756,1,none⟩=some (.int .u32 t750)∧w'.cell? ⟨gb756,2,none⟩=some (.slice Ao29 t751.length co29)∧w'.cell? ⟨gb756,3,none⟩=some (.int .i64 t754)) (ds := []) #[false,false,false,false,false,false,false] (by kernel_rfl) rfl rfl ⟨(zs BK756.out 0).trans rfl,(zs BK756.out 1).trans rfl,(zs BK756.out 2).trans rfl,(zs BK756.out 3).trans rfl⟩ (fun hHeld => ?_)
         generalize w30.drew=w31 at HO_9 HO_740002 HO753 BK739 BK740 BK756 HB hHeld ⊢
         refine pure_ (i:=1) (N:=some 44) (v := ?_) (a' := ?_) #[false,true,false,false,false,false,false] rfl rfl (by kernel_rfl) (fun _ _ _ h=>h) (Or.inl ⟨by rfl, ?_⟩) ?_ ?_
         rotate_left
         ·
          intro w'
          go_simp
          with_reducible rfl
         rotate_left
         ·
          simp only [Act.put,List.setIfInBounds_toArray,List.set_cons_zero,List.set_cons_succ,i64_w,i32_w]
          rfl
         refine pure_ (i:=2) (N:=some 45) (v := ?_) (a' := ?_) #[false,true,true,false,false,false,false] rfl rfl (by kernel_rfl) (fun _ _ _ h=>h) (Or.inl ⟨by rfl, ?_⟩) ?_ ?_
         rotate_left
         ·
          intro w'
          go_simp
          with_reducible rfl
         rotate_left
         ·
          simp only [Act.put,List.setIfInBounds_toArray,List.set_cons_zero,List.set_cons_succ,i64_w,i32_w]
          rfl
         refine take_ (i:=0) (N:=some 43) (v := ?_) (a' := ?_) #[true,true,true,false,false,false,false] rfl rfl (by kernel_rfl) (fun _ _ _ h=>h) (Or.inl ⟨by rfl, ?_⟩) hHeld ?_ ?_
         rotate_left
         ·
          rintro w' ⟨s0,s1,s2,s3⟩
          go_simp
          with_reducible rfl
         rotate_left
         ·
          simp only [Act.put,List.setIfInBounds_toArray,List.set_cons_zero,List.set_cons_succ,i64_w,i32_w]
          rfl
         refine one_ (i:=3) (N:=some 46) #[true,true,true,true,false,false,false] rfl rfl (by kernel_rfl) (by decide) (fun K hK => ?_)
         refine value_ (w1 := ?_) (v := ?_) (by rfl) rfl ?_ ?_
         rotate_left 2
         ·
          go_simp
          constructor
          ·
           rfl
          ·
           rfl
         refine hK.out _ _ ⟨(zs (zi BK756.out _) 0).trans rfl,(zs (zi BK756.out _) 1).trans rfl,(zs (zi BK756.out _) 2).trans rfl,(zs (zi BK756.out _) 3).trans rfl⟩ (fun hHeld => ?_)
         clear hK K
         refine norm_ (a' := ?_) ?_ ?_
         rotate_left
         ·
          show Act.put _ (some 46) _=_
          simp only [Act.put,List.setIfInBounds_toArray,List.set_cons_zero,List.set_cons_succ,i64_w,i32_w]
          rfl
         refine one_ (i:=4) (N:=some 47) #[true,true,true,true,true,false,false] rfl rfl (by kernel_rfl) (by decide) (fun K hK => ?_)
         refine Kd.R_append_step (Kd.int .i64) (w0:=w) w.heap.size (by rfl) (.tmp 44) (.tmp 46) 31 3 (.int .i64 0) 8 rfl Try.underlying31 info3 rfl (by decide) (by omega) u9 x9_2 t755 [.int .i64 t755] (fun k_=>(w.heap.size≤k_)) (fun _=>False) rfl rfl ?aP (fun _ hk=>hk.elim) ?aF ?aO ?aB ?aS ?aL ?_
         (case aP=>exact rfl)
         (case aB=>exact (by repeat (first|(with_reducible first|exact HB.out|apply ze|apply zd|apply zf|refine zk ?_ GE739.out|refine zk ?_ GE740.out|refine zk ?_ GE756.out)|exact HB.out)))
         (case aF=>exact (fun k_ hk=>(Nat.le_trans (zE (by repeat (first|(with_reducible first|exact HB.out|apply ze|apply zd|apply zf|refine zk ?_ GE739.out|refine zk ?_ GE740.out|refine zk ?_ GE756.out)|exact HB.out))) hk)))
         (case aO=>exact (by (with_reducible repeat (first|apply zo|apply zp|apply zq));exact HO_9.out))
         (case aS=>exact (zE (by repeat (first|(with_reducible first|exact HB.out|apply ze|apply zd|apply zf|refine zk ?_ GE739.out|refine zk ?_ GE740.out|refine zk ?_ GE756.out)|exact HB.out))))
         (case aL=>have:=LMc20.out;omega)
         intro v758 w32 ho hb hg hat
         rw [← Ny757.out] at ho
         have n0_:=zm (Kd.V_afterv (ok:=(fun k_=>(P0_2_ k_∨w.heap.size≤k_)∧k_≠gb739∧k_≠gb740∧k_≠gb756)) (by (with_reducible repeat (first|apply zA|apply zB|apply zC));exact zy HO_740002.out (fun _ hk=>⟨⟨hk.1,⟨hk.2.2.1,⟨hk.2.2.2.1,hk.2.2.2.2⟩⟩⟩,hk.2.1⟩)) hg hat)
         have n1_:=zm (blk_grown (g:=gb739) (o:=.cells #[.int .u64 x740000_2, .int .u32 x740001_2, .slice Ao23 x740002_2.length co23, .int .i64 x740003_2] 43 (0,0)) (by (with_reducible repeat (first|refine zh ?_ _|refine zj ?_|refine zi ?_ _));exact BK739.out) hg (zu HO_9.out BK739.out (by decide)))
         have n2_:=zm (blk_grown (g:=gb740) (o:=.cells #[.int .u64 0, .int .u32 0, .slice none 0 0, .int .i64 0] 43 (0,0)) (by (with_reducible repeat (first|refine zh ?_ _|refine zj ?_|refine zi ?_ _));exact BK740.out) hg (zu HO_9.out BK740.out (by decide)))
         have n3_:=zm (Kd.V_afterv (ok:=(fun k_=>(P0_2_ k_∨w.heap.size≤k_)∧k_≠gb739∧k_≠gb740∧k_≠gb756)) (by (with_reducible repeat (first|apply zA|apply zB|apply zC));exact zy HO753.out (fun _ hk=>⟨⟨hk.1,⟨hk.2.2.1,⟨hk.2.2.2.1,hk.2.2.2.2⟩⟩⟩,hk.2.1⟩)) hg hat)
         have n4_:=zm (blk_grown (g:=gb756) (o:=.cells #[.int .u64 t749, .int .u32 t750, .slice Ao29 t751.length co29, .int .i64 t754] 43 (0,0)) (by (with_reducible repeat (first|refine zh ?_ _|refine zj ?_|refine zi ?_ _));exact BK756.out) hg (zu HO_9.out BK756.out (by decide)))
         have n5_:=zm (hb);have n6_:=zm (ho);clear HO_740002;clear BK739;clear BK740;clear HO753;clear BK756;clear HB;clear HO_9;have HO_740002:=n0_;have BK739:=n1_;have BK740:=n2_;have HO753:=n3_;have BK756:=n4_;have HB:=n5_;have HO759:=n6_;clear n0_ n1_ n2_ n3_ n4_ n5_ n6_;clear ho hb hg hat
         refine hK.out _ _ ⟨(zs BK756.out 0).trans rfl,(zs BK756.out 1).trans rfl,(zs BK756.out 2).trans rfl,(zs BK756.out 3).trans rfl⟩ (fun hHeld => ?_)
         clear hK K
         refine norm_ (a' := ?_) ?_ ?_
         rotate_left
         ·
          show Act.put _ (some 47) _=_
          simp only [Act.put,List.setIfInBounds_toArray,List.set_cons_zero,List.set_cons_succ,i64_w,i32_w]
          rfl
         refine one_ (i:=5) (N:=none) #[true,true,true,true,true,true,false] rfl rfl (by kernel_rfl) (by decide) (fun K hK => ?_)
         have hs33 : w32.cell? ⟨gb739,0,none⟩=some (.int .u64 x740000_2):=(zs BK739.out 0).trans rfl
         have hfs33:=zx BK739.out 0
         have hns33_1:=NB740_739.out;have hns33_2:=NB756_739.out;have hms33_1:=NB739_740.out;have hms33_2:=NB739_756.out
         have hs34 : w32.cell? ⟨gb739,1,none⟩=some (.int .u32 x740001_2):=(zs BK739.out 1).trans rfl
         have hfs34:=zx BK739.out 1
         have hns34_1:=NB740_739.out;have hns34_2:=NB756_739.out;have hms34_1:=NB739_740.out;have hms34_2:=NB739_756.out
         have hs35 : w32.cell? ⟨gb739,2,none⟩=some (.slice Ao23 x740002_2.length co23):=(zs BK739.out 2).trans rfl
         have hfs35:=zx BK739.out 2
         have hns35_1:=NB740_739.out;have hns35_2:=NB756_739.out;have hms35_1:=NB739_740.out;have hms35_2:=NB739_756.out
         have hs36 : w32.cell? ⟨gb739,3,none⟩=some (.int .i64 x740003_2):=(zs BK739.out 3).trans rfl
         have hfs36:=zx BK739.out 3
         have hns36_1:=NB740_739.out;have hns36_2:=NB756_739.out;have hms36_1:=NB739_740.out;have hms36_2:=NB739_756.out
         refine skip_ (w1 := ?_) (by rfl) rfl ?_ ?_
         rotate_left
         ·
          go_simp
          rfl
         refine hK.out _ _ ⟨((zr (p:=⟨gb739,_,none⟩) NB756_739.out _).trans (((zr (p:=⟨gb739,_,none⟩) NB756_739.out _).trans (((zr (p:=⟨gb739,_,none⟩) NB756_739.out _).trans (((zr (p:=⟨gb739,_,none⟩) NB756_739.out _).trans (hHeld.1)))))))),((zr (p:=⟨gb739,_,none⟩) NB756_739.out _).trans (((zr (p:=⟨gb739,_,none⟩) NB756_739.out _).trans (((zr (p:=⟨gb739,_,none⟩) NB756_739.out _).trans (((zr (p:=⟨gb739,_,none⟩) NB756_739.out _).trans (hHeld.2.1)))))))),((zr (p:=⟨gb739,_,none⟩) NB756_739.out _).trans (((zr (p:=⟨gb739,_,none⟩) NB756_739.out _).trans (((zr (p:=⟨gb739,_,none⟩) NB756_739.out _).trans (((zr (p:=⟨gb739,_,none⟩) NB756_739.out _).trans (hHeld.2.2.1)))))))),((zr (p:=⟨gb739,_,none⟩) NB756_739.out _).trans (((zr (p:=⟨gb739,_,none⟩) NB756_739.out _).trans (((zr (p:=⟨gb739,_,none⟩) NB756_739.out _).trans (((zr (p:=⟨gb739,_,none⟩) NB756_739.out _).trans (hHeld.2.2.2))))))))⟩ (fun hHeld => ?_)
         clear hK K
         refine pure_ (i:=6) (N:=some 9) (v := ?_) (a' := ?_) #[true,true,true,true,true,true,true] rfl rfl (by kernel_rfl) (fun _ _ _ h=>h) (Or.inl ⟨by rfl, ?_⟩) ?_ ?_
         rotate_left
         ·
          intro w'
          go_simp
          with_reducible rfl
         rotate_left
         ·
          simp only [Act.put,List.setIfInBounds_toArray,List.set_cons_zero,List.set_cons_succ,i64_w,i32_w]
          rfl
         refine done_ (by kernel_rfl) ?_
         try go_wp2
         go_roundg k2
         case measure=>have:=HJ3.out;have:=HK2.out;omega
         case rel=>exact ⟨(y757),(wrap64 (x27_2+1)),(t749),(t750),(t751),(t754),(.slice Ao29 t751.length co29),(by first|rfl|(simp;done)|(simp [*];done)),H',⟨by have:=HJ3.out;have:=HK2.out;omega⟩,⟨by (with_reducible repeat (first|apply zo|apply zp|apply zq));exact zG (zH (p:=⟨gb739,3,none⟩) (zH (p:=⟨gb739,2,none⟩) (zH (p:=⟨gb739,1,none⟩) (zH (p:=⟨gb739,0,none⟩) (Kd.R_types HO759.out BK739.out (by decide)) (fun _ hk=>hk.2) (.int .u64 t749)) (fun _ hk=>hk.2) (.int .u32 t750)) (fun _ hk=>hk.2) (.slice Ao29 t751.length co29)) (fun _ hk=>hk.2) (.int .i64 t754)) (fun _ hk=>hk.1)⟩,⟨by (with_reducible repeat (first|apply zA|apply zB|apply zC));exact zy (zI (p:=⟨gb739,3,none⟩) (zI (p:=⟨gb739,2,none⟩) (zI (p:=⟨gb739,1,none⟩) (zI (p:=⟨gb739,0,none⟩) (zy HO753.out (fun k_ hk=>(⟨hk,hk.1.2.1⟩ : _∧k_≠gb739))) (fun _ hk=>hk.2) (.int .u64 t749)) (fun _ hk=>hk.2) (.int .u32 t750)) (fun _ hk=>hk.2) (.slice Ao29 t751.length co29)) (fun _ hk=>hk.2) (.int .i64 t754)) (fun _ hk=>⟨hk.1.1.1,⟨hk.1.2,⟨hk.1.1.2.1,hk.1.1.2.2.1⟩⟩⟩)⟩,⟨by (with_reducible repeat (first|refine zh ?_ _|refine zj ?_|refine zi ?_ _));refine zw (cs := #[.int .u64 t749, .int .u32 t750, .slice Ao29 t751.length co29, .int .i64 x740003_2]) ?_ 3 _ rfl;(with_reducible repeat (first|refine zh ?_ _|refine zj ?_|refine zi ?_ _));refine zw (cs := #[.int .u64 t749, .int .u32 t750, .slice Ao23 x740002_2.length co23, .int .i64 x740003_2]) ?_ 2 _ rfl;(with_reducible repeat (first|refine zh ?_ _|refine zj ?_|refine zi ?_ _));refine zw (cs := #[.int .u64 t749, .int .u32 x740001_2, .slice Ao23 x740002_2.length co23, .int .i64 x740003_2]) ?_ 1 _ rfl;(with_reducible repeat (first|refine zh ?_ _|refine zj ?_|refine zi ?_ _));refine zw (cs := #[.int .u64 x740000_2, .int .u32 x740001_2, .slice Ao23 x740002_2.length co23, .int .i64 x740003_2]) ?_ 0 _ rfl;(with_reducible repeat (first|refine zh ?_ _|refine zj ?_|refine zi ?_ _));exact BK739.out⟩,⟨by (with_reducible repeat (first|refine zh ?_ _|refine zj ?_|refine zi ?_ _|refine zv ?_ NB740_739.out _));exact BK740.out⟩,⟨by repeat (first|(with_reducible first|exact HB.out|apply ze|apply zd|apply zf|refine zk ?_ GE739.out|refine zk ?_ GE740.out|refine zk ?_ GE756.out)|exact HB.out)⟩⟩
        ·
         rw [if_neg c20] at H
         exact absurd H (by simp)
       ·
        replace c18:=Bool.eq_false_iff.mpr c18
        subst c18
        have H1 : (if 0≤x27_2 then (if x27_2 < (l1.length : Int) then ((gain_take.f k2 x740000_2 x740001_2 x740002_2 x740003_2 (rd l1 x27_2) false).bind fun bt761=>(if x9_2.length < 17592186044416 then (gain_Take.l0 k2 l1 false (x9_2 ++ [bt761.2.2.2.2]) (wrap64 (x27_2+1)) bt761.1 bt761.2.1 bt761.2.2.1 bt761.2.2.2.1) else (none))) else (none)) else (none))=some (r1,r2,r3,r4,r5,r6):=by rw [if_neg (show ¬ (false=true) by decide)] at H;exact H
        clear H;have H:=H1;clear H1
        by_cases c37 : 0≤x27_2
        ·
         rw [if_pos c37] at H
         have c37b0 : decide (0≤x27_2)=true:=decide_eq_true c37
         clear c37
         by_cases c38 : x27_2 < (l1.length : Int)
         ·
          rw [if_pos c38] at H
          have c38b0 : decide (x27_2 < (l1.length : Int))=true:=decide_eq_true c38
          clear c38
          replace H:=Option.bind_eq_some_iff.mp H
          obtain ⟨⟨t761,t762,t763,t766,t767⟩,A390,H⟩:=H
          replace H : (if x9_2.length < 17592186044416 then (gain_Take.l0 k2 l1 false (x9_2 ++ [t767]) (wrap64 (x27_2+1)) t761 t762 t763 t766) else (none))=some (r1,r2,r3,r4,r5,r6):=H
          have A39:=zm A390;clear A390
          by_cases c40 : x9_2.length < 17592186044416
          ·
           rw [if_pos c40] at H
           have LMc40:=zm c40;clear c40
           obtain ⟨y769,hy769⟩ : ∃ y_ : List Int,y_=(x9_2 ++ [t767]):=⟨_,rfl⟩
           replace H : (gain_Take.l0 k2 l1 false y769 (wrap64 (x27_2+1)) t761 t762 t763 t766)=some (r1,r2,r3,r4,r5,r6):=by first|(rw [hy769];with_reducible exact H)|(have H2_:=(Option.bind_some _ _).symm.trans H;rw [hy769];with_reducible exact H2_)|(have H2_:=(Option.bind_some _ _).symm.trans H;with_reducible exact H2_)|with_reducible exact H|(rw [hy769];exact H)|exact H
           have Ny769:=zm hy769;clear hy769
           have H' := zm H
           clear H
           have p760 : 0≤(x27_2 : Int):=of_decide_eq_true (by first|(with_reducible assumption)|assumption)
           have q760 : x27_2 < (l1.length : Int):=of_decide_eq_true (by first|(with_reducible assumption)|assumption)
           obtain ⟨ad760,e760,hx760_0⟩:=Kd.at_int HR1.out x27_2 p760 q760
           cases e760
           replace hx760_0:=(HB.out.cell (zb w _ hx760_0)).trans hx760_0
           replace p760:=eq_true p760
           replace q760:=eq_true q760
           have hnb41:=NB739_740.out;have hnc41:=NB740_739.out
           have hcz42_0 : wr.cell? ⟨gb739,0,none⟩=some (.int .u64 x740000_2):=(zs BK739.out 0).trans rfl
           have hcz42_1 : wr.cell? ⟨gb739,1,none⟩=some (.int .u32 x740001_2):=(zs BK739.out 1).trans rfl
           have hcz42_2 : wr.cell? ⟨gb739,2,none⟩=some (u740002):=(zs BK739.out 2).trans rfl
           have hcz42_3 : wr.cell? ⟨gb739,3,none⟩=some (.int .i64 x740003_2):=(zs BK739.out 3).trans rfl
           have hfz42_0:=zx BK739.out 0
           have hfz42_1:=zx BK739.out 1
           have hfz42_2:=zx BK739.out 2
           have hfz42_3:=zx BK739.out 3
           obtain ⟨Ao43,co43,eo43⟩:=Kd.V_slice HO_740002.out
           subst eo43
           try go_wp2_with (first|((with_reducible refine gate_callee (f:=65) rfl ?_);refine goesL_ (some 40) rfl rfl Try.func65 (by kernel_rfl) rfl #[.agg #[.int .u64 x740000_2, .int .u32 x740001_2, .slice Ao43 x740002_2.length co43, .int .i64 x740003_2], .int .i64 (rd l1 x27_2), .bool false] rfl (by (try simp only [List.map_toArray,List.map_cons,List.map_nil]);first|done|rfl|(simp only [List.length_drop,List.length_take];rfl)) ?_;(with_reducible refine (gain_take.calls k2 x740000_2 x740001_2 (fun k_=>((P0_2_ k_∨w.heap.size≤k_)∧(some k_≠(u9 : Value).ownBlock∧(k_≠gb739∧k_≠gb740)))) _ _ x740002_2 x740003_2 (rd l1 x27_2) false t761 t762 t763 t766 t767 _ ?side1 A39.out).mono ?_);(case side1=>exact HO_740002.out);rintro e w44 ⟨v764,rfl,ho0,hb⟩;refine ⟨_,rfl, ?_⟩;have n0_:=zm (Kd.R_below (by (with_reducible repeat (first|apply zo|apply zp|apply zq));exact HO_9.out) hb);have n1_:=zm (Kd.V_below (by (with_reducible repeat (first|apply zA|apply zB|apply zC));exact HO_740002.out) hb);have n2_:=zm (Kd.V_lower (zy (ok' := fun k_=>(P0_2_ k_∨w.heap.size≤k_)∧some k_≠(u9 : Value).ownBlock∧k_≠gb739∧k_≠gb740) ho0 (fun k_ hk_=>⟨Or.elim hk_ (fun hs_=>hs_.1) (fun hn_=>(.inr (Nat.le_trans (zE (by repeat (first|(with_reducible first|exact HB.out|apply ze|apply zd|apply zf|refine zk ?_ GE739.out|refine zk ?_ GE740.out)|exact HB.out))) hn_))),Or.elim hk_ (fun hs_=>hs_.2.1) (fun hn_=>(Kd.fresh' (Kd.R_lt (by (with_reducible repeat (first|apply zo|apply zp|apply zq));exact HO_9.out)) k_ hn_)),Or.elim hk_ (fun hs_=>hs_.2.2.1) (fun hn_=>(Kd.freshB (g:=gb739) (o:=.cells #[.int .u64 x740000_2, .int .u32 x740001_2, .slice Ao43 x740002_2.length co43, .int .i64 x740003_2] 43 (0,0)) (by (with_reducible repeat (first|refine zh ?_ _|refine zj ?_|refine zi ?_ _));exact BK739.out) k_ hn_)),Or.elim hk_ (fun hs_=>hs_.2.2.2) (fun hn_=>(Kd.freshB (g:=gb740) (o:=.cells #[.int .u64 0, .int .u32 0, .slice none 0 0, .int .i64 0] 43 (0,0)) (by (with_reducible repeat (first|refine zh ?_ _|refine zj ?_|refine zi ?_ _));exact BK740.out) k_ hn_))⟩)) (zE (by repeat (first|(with_reducible first|exact HB.out|apply ze|apply zd|apply zf|refine zk ?_ GE739.out|refine zk ?_ GE740.out)|exact HB.out))));have n3_:=zm (zF (g:=gb739) (o:=.cells #[.int .u64 x740000_2, .int .u32 x740001_2, .slice Ao43 x740002_2.length co43, .int .i64 x740003_2] 43 (0,0)) (by (with_reducible repeat (first|refine zh ?_ _|refine zj ?_|refine zi ?_ _));exact BK739.out) hb);have n4_:=zm (zF (g:=gb740) (o:=.cells #[.int .u64 0, .int .u32 0, .slice none 0 0, .int .i64 0] 43 (0,0)) (by (with_reducible repeat (first|refine zh ?_ _|refine zj ?_|refine zi ?_ _));exact BK740.out) hb);have n5_:=zm (zJ (by repeat (first|(with_reducible first|exact HB.out|apply ze|apply zd|apply zf|refine zk ?_ GE739.out|refine zk ?_ GE740.out)|exact HB.out)) hb);clear HO_9;clear HO_740002;clear BK739;clear BK740;clear HB;have HO_9:=n0_;have HO_740002:=n1_;have HO765:=n2_;have BK739:=n3_;have BK740:=n4_;have HB:=n5_;clear n0_ n1_ n2_ n3_ n4_ n5_;(try clear hb);(try clear hb2);(try clear hk);(try clear hi);(try clear ho0))|((with_reducible refine gate_dst (N:=12) rfl ?_);refine box_event ?hg (N:=12) ?hd (cs := #[.int .u64 0, .int .u32 0, .slice none 0 0, .int .i64 0]) (t:=43) ?hr ?_;(case hd=>rfl);(case hg=>rfl);(case hr=>first|(go_simp;done)|(go_simp;rfl));intro gb768 hg w45 hbox hb;have n0_:=zm (Kd.R_below (by (with_reducible repeat (first|apply zo|apply zp|apply zq));exact HO_9.out) hb);have n1_:=zm (Kd.V_below (Kd.V_elderB (by (with_reducible repeat (first|apply zA|apply zB|apply zC));exact HO_740002.out) gb768 (Nat.le_of_eq hg.symm)) hb);have n2_:=zm (Kd.V_below (Kd.V_elderB (by (with_reducible repeat (first|apply zA|apply zB|apply zC));exact HO765.out) gb768 (Nat.le_of_eq hg.symm)) hb);have n3_:=zm (zF (g:=gb739) (o:=.cells #[.int .u64 x740000_2, .int .u32 x740001_2, .slice Ao43 x740002_2.length co43, .int .i64 x740003_2] 43 (0,0)) (by (with_reducible repeat (first|refine zh ?_ _|refine zj ?_|refine zi ?_ _));exact BK739.out) hb);have n4_:=zm (zF (g:=gb740) (o:=.cells #[.int .u64 0, .int .u32 0, .slice none 0 0, .int .i64 0] 43 (0,0)) (by (with_reducible repeat (first|refine zh ?_ _|refine zj ?_|refine zi ?_ _));exact BK740.out) hb);have n5_:=zm (zJ (by repeat (first|(with_reducible first|exact HB.out|apply ze|apply zd|apply zf|refine zk ?_ GE739.out|refine zk ?_ GE740.out)|exact HB.out)) hb);have n6_:=zm (hbox);have n7_:=zm ((by rw [hg];exact (zE (by repeat (first|(with_reducible first|exact HB.out|apply ze|apply zd|apply zf|refine zk ?_ GE739.out|refine zk ?_ GE740.out)|exact HB.out))) : w.heap.size≤gb768));have n8_:=zm ((by rw [hg];exact (zE (by repeat (first|(with_reducible first|exact HB.out|apply ze|apply zd|apply zf|refine zk ?_ GE739.out|refine zk ?_ GE740.out)|exact HB.out))) : w.heap.size≤gb768));have n9_:=zm ((by rw [hg];exact zn (zD (g:=gb739) (o:=.cells #[.int .u64 x740000_2, .int .u32 x740001_2, .slice Ao43 x740002_2.length co43, .int .i64 x740003_2] 43 (0,0)) (by (with_reducible repeat (first|refine zh ?_ _|refine zj ?_|refine zi ?_ _));exact BK739.out)) : gb739≠gb768));have n10_:=zm ((by rw [hg];exact zg (zD (g:=gb739) (o:=.cells #[.int .u64 x740000_2, .int .u32 x740001_2, .slice Ao43 x740002_2.length co43, .int .i64 x740003_2] 43 (0,0)) (by (with_reducible repeat (first|refine zh ?_ _|refine zj ?_|refine zi ?_ _));exact BK739.out)) : gb768≠gb739));have n11_:=zm ((by rw [hg];exact zn (zD (g:=gb740) (o:=.cells #[.int .u64 0, .int .u32 0, .slice none 0 0, .int .i64 0] 43 (0,0)) (by (with_reducible repeat (first|refine zh ?_ _|refine zj ?_|refine zi ?_ _));exact BK740.out)) : gb740≠gb768));have n12_:=zm ((by rw [hg];exact zg (zD (g:=gb740) (o:=.cells #[.int .u64 0, .int .u32 0, .slice none 0 0, .int .i64 0] 43 (0,0)) (by (with_reducible repeat (first|refine zh ?_ _|refine zj ?_|refine zi ?_ _));exact BK740.out)) : gb768≠gb740));clear HO_9;clear HO_740002;clear HO765;clear BK739;clear BK740;clear HB;have HO_9:=n0_;have HO_740002:=n1_;have HO765:=n2_;have BK739:=n3_;have BK740:=n4_;have HB:=n5_;have BK768:=n6_;have GW768:=n7_;have GE768:=n8_;have NB739_768:=n9_;have NB768_739:=n10_;have NB740_768:=n11_;have NB768_740:=n12_;clear n0_ n1_ n2_ n3_ n4_ n5_ n6_ n7_ n8_ n9_ n10_ n11_ n12_;clear hb hbox hg;have hnb46:=NB768_739.out;have hnc46:=NB739_768.out;have hnb47:=NB768_740.out;have hnc47:=NB740_768.out;have hcz48_0 : w45.cell? ⟨gb768,0,none⟩=some (.int .u64 0):=(zs BK768.out 0).trans rfl;have hcz48_1 : w45.cell? ⟨gb768,1,none⟩=some (.int .u32 0):=(zs BK768.out 1).trans rfl;have hcz48_2 : w45.cell? ⟨gb768,2,none⟩=some (.slice none 0 0):=(zs BK768.out 2).trans rfl;have hcz48_3 : w45.cell? ⟨gb768,3,none⟩=some (.int .i64 0):=(zs BK768.out 3).trans rfl;have hfz48_0:=zx BK768.out 0;have hfz48_1:=zx BK768.out 1;have hfz48_2:=zx BK768.out 2;have hfz48_3:=zx BK768.out 3;obtain ⟨Ao49,co49,eo49⟩:=Kd.V_slice HO765.out;subst eo49))
           have n0_ : Aside0 (Kd.R (Kd.int .i64) 3 ((((w45.setCell ⟨gb768,0,none⟩ (.int .u64 t761)).setCell ⟨gb768,1,none⟩ (.int .u32 t762)).setCell ⟨gb768,2,none⟩ (.slice Ao49 t763.length co49)).setCell ⟨gb768,3,none⟩ (.int .i64 t766)) w.heap.size (fun k_=>(w.heap.size≤k_)) u9 x9_2):=⟨by (with_reducible repeat (first|apply zo|apply zp|apply zq));exact zG (zH (p:=⟨gb768,3,none⟩) (zH (p:=⟨gb768,2,none⟩) (zH (p:=⟨gb768,1,none⟩) (zH (p:=⟨gb768,0,none⟩) (Kd.R_types HO_9.out BK768.out (by decide)) (fun _ hk=>hk.2) (.int .u64 t761)) (fun _ hk=>hk.2) (.int .u32 t762)) (fun _ hk=>hk.2) (.slice Ao49 t763.length co49)) (fun _ hk=>hk.2) (.int .i64 t766)) (fun _ hk=>hk.1)⟩
           have n1_ : Aside0 (Kd.V (Kd.int .u8) 5 ((((w45.setCell ⟨gb768,0,none⟩ (.int .u64 t761)).setCell ⟨gb768,1,none⟩ (.int .u32 t762)).setCell ⟨gb768,2,none⟩ (.slice Ao49 t763.length co49)).setCell ⟨gb768,3,none⟩ (.int .i64 t766)) w.heap.size (fun k_=>(P0_2_ k_∨w.heap.size≤k_)∧some k_≠(u9 : Value).ownBlock∧k_≠gb739∧k_≠gb740∧k_≠gb768) (.slice Ao43 x740002_2.length co43) x740002_2):=⟨by (with_reducible repeat (first|apply zA|apply zB|apply zC));exact zy (zI (p:=⟨gb768,3,none⟩) (zI (p:=⟨gb768,2,none⟩) (zI (p:=⟨gb768,1,none⟩) (zI (p:=⟨gb768,0,none⟩) (zy HO_740002.out (fun k_ hk=>(⟨hk,hk.2⟩ : _∧k_≠gb768))) (fun _ hk=>hk.2) (.int .u64 t761)) (fun _ hk=>hk.2) (.int .u32 t762)) (fun _ hk=>hk.2) (.slice Ao49 t763.length co49)) (fun _ hk=>hk.2) (.int .i64 t766)) (fun _ hk=>⟨hk.1.1.1,⟨hk.1.1.2.1,⟨hk.1.1.2.2.1,⟨hk.1.1.2.2.2,hk.1.2⟩⟩⟩⟩)⟩
           have n2_ : Aside0 (Kd.V (Kd.int .u8) 5 ((((w45.setCell ⟨gb768,0,none⟩ (.int .u64 t761)).setCell ⟨gb768,1,none⟩ (.int .u32 t762)).setCell ⟨gb768,2,none⟩ (.slice Ao49 t763.length co49)).setCell ⟨gb768,3,none⟩ (.int .i64 t766)) w.heap.size (fun k_=>(P0_2_ k_∨w.heap.size≤k_)∧some k_≠(u9 : Value).ownBlock∧k_≠gb739∧k_≠gb740∧k_≠gb768) (.slice Ao49 t763.length co49) t763):=⟨by (with_reducible repeat (first|apply zA|apply zB|apply zC));exact zy (zI (p:=⟨gb768,3,none⟩) (zI (p:=⟨gb768,2,none⟩) (zI (p:=⟨gb768,1,none⟩) (zI (p:=⟨gb768,0,none⟩) (zy HO765.out (fun k_ hk=>(⟨hk,hk.2⟩ : _∧k_≠gb768))) (fun _ hk=>hk.2) (.int .u64 t761)) (fun _ hk=>hk.2) (.int .u32 t762)) (fun _ hk=>hk.2) (.slice Ao49 t763.length co49)) (fun _ hk=>hk.2) (.int .i64 t766)) (fun _ hk=>⟨hk.1.1.1,⟨hk.1.1.2.1,⟨hk.1.1.2.2.1,⟨hk.1.1.2.2.2,hk.1.2⟩⟩⟩⟩)⟩
           have n3_ : Aside0 (((((w45.setCell ⟨gb768,0,none⟩ (.int .u64 t761)).setCell ⟨gb768,1,none⟩ (.int .u32 t762)).setCell ⟨gb768,2,none⟩ (.slice Ao49 t763.length co49)).setCell ⟨gb768,3,none⟩ (.int .i64 t766)).heap[gb739]? = some (.cells #[.int .u64 x740000_2, .int .u32 x740001_2, .slice Ao43 x740002_2.length co43, .int .i64 x740003_2] 43 (0,0))):=⟨by (with_reducible repeat (first|refine zh ?_ _|refine zj ?_|refine zi ?_ _|refine zv ?_ NB739_768.out _));exact BK739.out⟩
           have n4_ : Aside0 (((((w45.setCell ⟨gb768,0,none⟩ (.int .u64 t761)).setCell ⟨gb768,1,none⟩ (.int .u32 t762)).setCell ⟨gb768,2,none⟩ (.slice Ao49 t763.length co49)).setCell ⟨gb768,3,none⟩ (.int .i64 t766)).heap[gb740]? = some (.cells #[.int .u64 0, .int .u32 0, .slice none 0 0, .int .i64 0] 43 (0,0))):=⟨by (with_reducible repeat (first|refine zh ?_ _|refine zj ?_|refine zi ?_ _|refine zv ?_ NB740_768.out _));exact BK740.out⟩
           have n5_ : Aside0 (((((w45.setCell ⟨gb768,0,none⟩ (.int .u64 t761)).setCell ⟨gb768,1,none⟩ (.int .u32 t762)).setCell ⟨gb768,2,none⟩ (.slice Ao49 t763.length co49)).setCell ⟨gb768,3,none⟩ (.int .i64 t766)).heap[gb768]? = some (.cells #[.int .u64 t761, .int .u32 t762, .slice Ao49 t763.length co49, .int .i64 t766] 43 (0,0))):=⟨by (with_reducible repeat (first|refine zh ?_ _|refine zj ?_|refine zi ?_ _));refine zw (cs := #[.int .u64 t761, .int .u32 t762, .slice Ao49 t763.length co49, .int .i64 0]) ?_ 3 _ rfl;(with_reducible repeat (first|refine zh ?_ _|refine zj ?_|refine zi ?_ _));refine zw (cs := #[.int .u64 t761, .int .u32 t762, .slice none 0 0, .int .i64 0]) ?_ 2 _ rfl;(with_reducible repeat (first|refine zh ?_ _|refine zj ?_|refine zi ?_ _));refine zw (cs := #[.int .u64 t761, .int .u32 0, .slice none 0 0, .int .i64 0]) ?_ 1 _ rfl;(with_reducible repeat (first|refine zh ?_ _|refine zj ?_|refine zi ?_ _));refine zw (cs := #[.int .u64 0, .int .u32 0, .slice none 0 0, .int .i64 0]) ?_ 0 _ rfl;(with_reducible repeat (first|refine zh ?_ _|refine zj ?_|refine zi ?_ _));exact BK768.out⟩
           have n6_ : Aside0 (Below w.heap.size w ((((w45.setCell ⟨gb768,0,none⟩ (.int .u64 t761)).setCell ⟨gb768,1,none⟩ (.int .u32 t762)).setCell ⟨gb768,2,none⟩ (.slice Ao49 t763.length co49)).setCell ⟨gb768,3,none⟩ (.int .i64 t766))):=⟨by repeat (first|(with_reducible first|exact HB.out|apply ze|apply zd|apply zf|refine zk ?_ GE739.out|refine zk ?_ GE740.out|refine zk ?_ GE768.out)|exact HB.out)⟩
           (try clear HO_9)
           (try clear HO_740002)
           (try clear HO765)
           (try clear BK739)
           (try clear BK740)
           (try clear BK768)
           (try clear HB)
           generalize ((((w45.setCell ⟨gb768,0,none⟩ (.int .u64 t761)).setCell ⟨gb768,1,none⟩ (.int .u32 t762)).setCell ⟨gb768,2,none⟩ (.slice Ao49 t763.length co49)).setCell ⟨gb768,3,none⟩ (.int .i64 t766))=w50 at n0_ n1_ n2_ n3_ n4_ n5_ n6_ ⊢
           have HO_9:=n0_;have HO_740002:=n1_;have HO765:=n2_;have BK739:=n3_;have BK740:=n4_;have BK768:=n5_;have HB:=n6_;clear n0_ n1_ n2_ n3_ n4_ n5_ n6_;have n0_:=zm (zq HO_9.out);have n1_:=zm (zC HO_740002.out);have n2_:=zm (zC HO765.out);have n3_:=zm (zj BK739.out);have n4_:=zm (zj BK740.out);have n5_:=zm (zj BK768.out);have n6_:=zm (zf HB.out);clear HO_9;clear HO_740002;clear HO765;clear BK739;clear BK740;clear BK768;clear HB;have HO_9:=n0_;have HO_740002:=n1_;have HO765:=n2_;have BK739:=n3_;have BK740:=n4_;have BK768:=n5_;have HB:=n6_;clear n0_ n1_ n2_ n3_ n4_ n5_ n6_
           refine start_ (n:=7) (S:=fun w' => w'.cell? ⟨gb768,0,none⟩=some (.int .u64 t761)∧w'.cell? ⟨gb768,1,none⟩=some (.int .u32 t762)∧w'.cell? ⟨gb768,2,none⟩=some (.slice Ao49 t763.length co49)∧w'.cell? ⟨gb768,3,none⟩=some (.int .i64 t766)) (ds := []) #[false,false,false,false,false,false,false] (by kernel_rfl) rfl rfl ⟨(zs BK768.out 0).trans rfl,(zs BK768.out 1).trans rfl,(zs BK768.out 2).trans rfl,(zs BK768.out 3).trans rfl⟩ (fun hHeld => ?_)
           generalize w50.drew=w51 at HO_9 HO_740002 HO765 BK739 BK740 BK768 HB hHeld ⊢
           refine pure_ (i:=1) (N:=some 44) (v := ?_) (a' := ?_) #[false,true,false,false,false,false,false] rfl rfl (by kernel_rfl) (fun _ _ _ h=>h) (Or.inl ⟨by rfl, ?_⟩) ?_ ?_
           rotate_left
           ·
            intro w'
            go_simp
            with_reducible rfl
           rotate_left
           ·
            simp only [Act.put,List.setIfInBounds_toArray,List.set_cons_zero,List.set_cons_succ,i64_w,i32_w]
            rfl
           refine pure_ (i:=2) (N:=some 45) (v := ?_) (a' := ?_) #[false,true,true,false,false,false,false] rfl rfl (by kernel_rfl) (fun _ _ _ h=>h) (Or.inl ⟨by rfl, ?_⟩) ?_ ?_
           rotate_left
           ·
            intro w'
            go_simp
            with_reducible rfl
           rotate_left
           ·
            simp only [Act.put,List.setIfInBounds_toArray,List.set_cons_zero,List.set_cons_succ,i64_w,i32_w]
            rfl
           refine take_ (i:=0) (N:=some 43) (v := ?_) (a' := ?_) #[true,true,true,false,false,false,false] rfl rfl (by kernel_rfl) (fun _ _ _ h=>h) (Or.inl ⟨by rfl, ?_⟩) hHeld ?_ ?_
           rotate_left
           ·
            rintro w' ⟨s0,s1,s2,s3⟩
            go_simp
            with_reducible rfl
           rotate_left
           ·
            simp only [Act.put,List.setIfInBounds_toArray,List.set_cons_zero,List.set_cons_succ,i64_w,i32_w]
            rfl
           refine one_ (i:=3) (N:=some 46) #[true,true,true,true,false,false,false] rfl rfl (by kernel_rfl) (by decide) (fun K hK => ?_)
           refine value_ (w1 := ?_) (v := ?_) (by rfl) rfl ?_ ?_
           rotate_left 2
           ·
            go_simp
            constructor
            ·
             rfl
            ·
             rfl
           refine hK.out _ _ ⟨(zs (zi BK768.out _) 0).trans rfl,(zs (zi BK768.out _) 1).trans rfl,(zs (zi BK768.out _) 2).trans rfl,(zs (zi BK768.out _) 3).trans rfl⟩ (fun hHeld => ?_)
           clear hK K
           refine norm_ (a' := ?_) ?_ ?_
           rotate_left
           ·
            show Act.put _ (some 46) _=_
            simp only [Act.put,List.setIfInBounds_toArray,List.set_cons_zero,List.set_cons_succ,i64_w,i32_w]
            rfl
           refine one_ (i:=4) (N:=some 47) #[true,true,true,true,true,false,false] rfl rfl (by kernel_rfl) (by decide) (fun K hK => ?_)
           refine Kd.R_append_step (Kd.int .i64) (w0:=w) w.heap.size (by rfl) (.tmp 44) (.tmp 46) 31 3 (.int .i64 0) 8 rfl Try.underlying31 info3 rfl (by decide) (by omega) u9 x9_2 t767 [.int .i64 t767] (fun k_=>(w.heap.size≤k_)) (fun _=>False) rfl rfl ?aP (fun _ hk=>hk.elim) ?aF ?aO ?aB ?aS ?aL ?_
           (case aP=>exact rfl)
           (case aB=>exact (by repeat (first|(with_reducible first|exact HB.out|apply ze|apply zd|apply zf|refine zk ?_ GE739.out|refine zk ?_ GE740.out|refine zk ?_ GE768.out)|exact HB.out)))
           (case aF=>exact (fun k_ hk=>(Nat.le_trans (zE (by repeat (first|(with_reducible first|exact HB.out|apply ze|apply zd|apply zf|refine zk ?_ GE739.out|refine zk ?_ GE740.out|refine zk ?_ GE768.out)|exact HB.out))) hk)))
           (case aO=>exact (by (with_reducible repeat (first|apply zo|apply zp|apply zq));exact HO_9.out))
           (case aS=>exact (zE (by repeat (first|(with_reducible first|exact HB.out|apply ze|apply zd|apply zf|refine zk ?_ GE739.out|refine zk ?_ GE740.out|refine zk ?_ GE768.out)|exact HB.out))))
           (case aL=>have:=LMc40.out;omega)
           intro v770 w52 ho hb hg hat
           rw [← Ny769.out] at ho
           have n0_:=zm (Kd.V_afterv (ok:=(fun k_=>(P0_2_ k_∨w.heap.size≤k_)∧k_≠gb739∧k_≠gb740∧k_≠gb768)) (by (with_reducible repeat (first|apply zA|apply zB|apply zC));exact zy HO_740002.out (fun _ hk=>⟨⟨hk.1,⟨hk.2.2.1,⟨hk.2.2.2.1,hk.2.2.2.2⟩⟩⟩,hk.2.1⟩)) hg hat)
           have n1_:=zm (blk_grown (g:=gb739) (o:=.cells #[.int .u64 x740000_2, .int .u32 x740001_2, .slice Ao43 x740002_2.length co43, .int .i64 x740003_2] 43 (0,0)) (by (with_reducible repeat (first|refine zh ?_ _|refine zj ?_|refine zi ?_ _));exact BK739.out) hg (zu HO_9.out BK739.out (by decide)))
           have n2_:=zm (blk_grown (g:=gb740) (o:=.cells #[.int .u64 0, .int .u32 0, .slice none 0 0, .int .i64 0] 43 (0,0)) (by (with_reducible repeat (first|refine zh ?_ _|refine zj ?_|refine zi ?_ _));exact BK740.out) hg (zu HO_9.out BK740.out (by decide)))
           have n3_:=zm (Kd.V_afterv (ok:=(fun k_=>(P0_2_ k_∨w.heap.size≤k_)∧k_≠gb739∧k_≠gb740∧k_≠gb768)) (by (with_reducible repeat (first|apply zA|apply zB|apply zC));exact zy HO765.out (fun _ hk=>⟨⟨hk.1,⟨hk.2.2.1,⟨hk.2.2.2.1,hk.2.2.2.2⟩⟩⟩,hk.2.1⟩)) hg hat)
           have n4_:=zm (blk_grown (g:=gb768) (o:=.cells #[.int .u64 t761, .int .u32 t762, .slice Ao49 t763.length co49, .int .i64 t766] 43 (0,0)) (by (with_reducible repeat (first|refine zh ?_ _|refine zj ?_|refine zi ?_ _));exact BK768.out) hg (zu HO_9.out BK768.out (by decide)))
           have n5_:=zm (hb);have n6_:=zm (ho);clear HO_740002;clear BK739;clear BK740;clear HO765;clear BK768;clear HB;clear HO_9;have HO_740002:=n0_;have BK739:=n1_;have BK740:=n2_;have HO765:=n3_;have BK768:=n4_;have HB:=n5_;have HO771:=n6_;clear n0_ n1_ n2_ n3_ n4_ n5_ n6_;clear ho hb hg hat
           refine hK.out _ _ ⟨(zs BK768.out 0).trans rfl,(zs BK768.out 1).trans rfl,(zs BK768.out 2).trans rfl,(zs BK768.out 3).trans rfl⟩ (fun hHeld => ?_)
           clear hK K
           refine norm_ (a' := ?_) ?_ ?_
           rotate_left
           ·
            show Act.put _ (some 47) _=_
            simp only [Act.put,List.setIfInBounds_toArray,List.set_cons_zero,List.set_cons_succ,i64_w,i32_w]
            rfl
           refine one_ (i:=5) (N:=none) #[true,true,true,true,true,true,false] rfl rfl (by kernel_rfl) (by decide) (fun K hK => ?_)
           have hs53 : w52.cell? ⟨gb739,0,none⟩=some (.int .u64 x740000_2):=(zs BK739.out 0).trans rfl
           have hfs53:=zx BK739.out 0
           have hns53_1:=NB740_739.out;have hns53_2:=NB768_739.out;have hms53_1:=NB739_740.out;have hms53_2:=NB739_768.out
           have hs54 : w52.cell? ⟨gb739,1,none⟩=some (.int .u32 x740001_2):=(zs BK739.out 1).trans rfl
           have hfs54:=zx BK739.out 1
           have hns54_1:=NB740_739.out;have hns54_2:=NB768_739.out;have hms54_1:=NB739_740.out;have hms54_2:=NB739_768.out
           have hs55 : w52.cell? ⟨gb739,2,none⟩=some (.slice Ao43 x740002_2.length co43):=(zs BK739.out 2).trans rfl
           have hfs55:=zx BK739.out 2
           have hns55_1:=NB740_739.out;have hns55_2:=NB768_739.out;have hms55_1:=NB739_740.out;have hms55_2:=NB739_768.out
           have hs56 : w52.cell? ⟨gb739,3,none⟩=some (.int .i64 x740003_2):=(zs BK739.out 3).trans rfl
           have hfs56:=zx BK739.out 3
           have hns56_1:=NB740_739.out;have hns56_2:=NB768_739.out;have hms56_1:=NB739_740.out;have hms56_2:=NB739_768.out
           refine skip_ (w1 := ?_) (by rfl) rfl ?_ ?_
           rotate_left
           ·
            go_simp
            rfl
           refine hK.out _ _ ⟨((zr (p:=⟨gb739,_,none⟩) NB768_739.out _).trans (((zr (p:=⟨gb739,_,none⟩) NB768_739.out _).trans (((zr (p:=⟨gb739,_,none⟩) NB768_739.out _).trans (((zr (p:=⟨gb739,_,none⟩) NB768_739.out _).trans (hHeld.1)))))))),((zr (p:=⟨gb739,_,none⟩) NB768_739.out _).trans (((zr (p:=⟨gb739,_,none⟩) NB768_739.out _).trans (((zr (p:=⟨gb739,_,none⟩) NB768_739.out _).trans (((zr (p:=⟨gb739,_,none⟩) NB768_739.out _).trans (hHeld.2.1)))))))),((zr (p:=⟨gb739,_,none⟩) NB768_739.out _).trans (((zr (p:=⟨gb739,_,none⟩) NB768_739.out _).trans (((zr (p:=⟨gb739,_,none⟩) NB768_739.out _).trans (((zr (p:=⟨gb739,_,none⟩) NB768_739.out _).trans (hHeld.2.2.1)))))))),((zr (p:=⟨gb739,_,none⟩) NB768_739.out _).trans (((zr (p:=⟨gb739,_,none⟩) NB768_739.out _).trans (((zr (p:=⟨gb739,_,none⟩) NB768_739.out _).trans (((zr (p:=⟨gb739,_,none⟩) NB768_739.out _).trans (hHeld.2.2.2))))))))⟩ (fun hHeld => ?_)
           clear hK K
           refine pure_ (i:=6) (N:=some 9) (v := ?_) (a' := ?_) #[true,true,true,true,true,true,true] rfl rfl (by kernel_rfl) (fun _ _ _ h=>h) (Or.inl ⟨by rfl, ?_⟩) ?_ ?_
           rotate_left
           ·
            intro w'
            go_simp
            with_reducible rfl
           rotate_left
           ·
            simp only [Act.put,List.setIfInBounds_toArray,List.set_cons_zero,List.set_cons_succ,i64_w,i32_w]
            rfl
           refine done_ (by kernel_rfl) ?_
           try go_wp2
           go_roundg k2
           case measure=>have:=HJ3.out;have:=HK2.out;omega
           case rel=>exact ⟨(y769),(wrap64 (x27_2+1)),(t761),(t762),(t763),(t766),(.slice Ao49 t763.length co49),(by first|rfl|(simp;done)|(simp [*];done)),H',⟨by have:=HJ3.out;have:=HK2.out;omega⟩,⟨by (with_reducible repeat (first|apply zo|apply zp|apply zq));exact zG (zH (p:=⟨gb739,3,none⟩) (zH (p:=⟨gb739,2,none⟩) (zH (p:=⟨gb739,1,none⟩) (zH (p:=⟨gb739,0,none⟩) (Kd.R_types HO771.out BK739.out (by decide)) (fun _ hk=>hk.2) (.int .u64 t761)) (fun _ hk=>hk.2) (.int .u32 t762)) (fun _ hk=>hk.2) (.slice Ao49 t763.length co49)) (fun _ hk=>hk.2) (.int .i64 t766)) (fun _ hk=>hk.1)⟩,⟨by (with_reducible repeat (first|apply zA|apply zB|apply zC));exact zy (zI (p:=⟨gb739,3,none⟩) (zI (p:=⟨gb739,2,none⟩) (zI (p:=⟨gb739,1,none⟩) (zI (p:=⟨gb739,0,none⟩) (zy HO765.out (fun k_ hk=>(⟨hk,hk.1.2.1⟩ : _∧k_≠gb739))) (fun _ hk=>hk.2) (.int .u64 t761)) (fun _ hk=>hk.2) (.int .u32 t762)) (fun _ hk=>hk.2) (.slice Ao49 t763.length co49)) (fun _ hk=>hk.2) (.int .i64 t766)) (fun _ hk=>⟨hk.1.1.1,⟨hk.1.2,⟨hk.1.1.2.1,hk.1.1.2.2.1⟩⟩⟩)⟩,⟨by (with_reducible repeat (first|refine zh ?_ _|refine zj ?_|refine zi ?_ _));refine zw (cs := #[.int .u64 t761, .int .u32 t762, .slice Ao49 t763.length co49, .int .i64 x740003_2]) ?_ 3 _ rfl;(with_reducible repeat (first|refine zh ?_ _|refine zj ?_|refine zi ?_ _));refine zw (cs := #[.int .u64 t761, .int .u32 t762, .slice Ao43 x740002_2.length co43, .int .i64 x740003_2]) ?_ 2 _ rfl;(with_reducible repeat (first|refine zh ?_ _|refine zj ?_|refine zi ?_ _));refine zw (cs := #[.int .u64 t761, .int .u32 x740001_2, .slice Ao43 x740002_2.length co43, .int .i64 x740003_2]) ?_ 1 _ rfl;(with_reducible repeat (first|refine zh ?_ _|refine zj ?_|refine zi ?_ _));refine zw (cs := #[.int .u64 x740000_2, .int .u32 x740001_2, .slice Ao43 x740002_2.length co43, .int .i64 x740003_2]) ?_ 0 _ rfl;(with_reducible repeat (first|refine zh ?_ _|refine zj ?_|refine zi ?_ _));exact BK739.out⟩,⟨by (with_reducible repeat (first|refine zh ?_ _|refine zj ?_|refine zi ?_ _|refine zv ?_ NB740_739.out _));exact BK740.out⟩,⟨by repeat (first|(with_reducible first|exact HB.out|apply ze|apply zd|apply zf|refine zk ?_ GE739.out|refine zk ?_ GE740.out|refine zk ?_ GE768.out)|exact HB.out)⟩⟩
          ·
           rw [if_neg c40] at H
           exact absurd H (by simp)
         ·
          rw [if_neg c38] at H
          exact absurd H (by simp)
        ·
         rw [if_neg c37] at H
         exact absurd H (by simp)
      ·
       rw [if_neg c17] at H
       have c17b0 : decide (x27_2 < 5)=false:=decide_eq_false c17
       clear c17
       simp only [Option.some.injEq,Prod.mk.injEq] at H
       obtain ⟨rfl,rfl,rfl,rfl,rfl,rfl⟩:=H
       have hnb57:=NB739_740.out;have hnc57:=NB740_739.out
       have hcz58_0 : wr.cell? ⟨gb739,0,none⟩=some (.int .u64 x740000_2):=(zs BK739.out 0).trans rfl
       have hcz58_1 : wr.cell? ⟨gb739,1,none⟩=some (.int .u32 x740001_2):=(zs BK739.out 1).trans rfl
       have hcz58_2 : wr.cell? ⟨gb739,2,none⟩=some (u740002):=(zs BK739.out 2).trans rfl
       have hcz58_3 : wr.cell? ⟨gb739,3,none⟩=some (.int .i64 x740003_2):=(zs BK739.out 3).trans rfl
       have hfz58_0:=zx BK739.out 0
       have hfz58_1:=zx BK739.out 1
       have hfz58_2:=zx BK739.out 2
       have hfz58_3:=zx BK739.out 3
       have hcz59_0 : wr.cell? ⟨gb740,0,none⟩=some (.int .u64 0):=(zs BK740.out 0).trans rfl
       have hcz59_1 : wr.cell? ⟨gb740,1,none⟩=some (.int .u32 0):=(zs BK740.out 1).trans rfl
       have hcz59_2 : wr.cell? ⟨gb740,2,none⟩=some (.slice none 0 0):=(zs BK740.out 2).trans rfl
       have hcz59_3 : wr.cell? ⟨gb740,3,none⟩=some (.int .i64 0):=(zs BK740.out 3).trans rfl
       have hfz59_0:=zx BK740.out 0
       have hfz59_1:=zx BK740.out 1
       have hfz59_2:=zx BK740.out 2
       have hfz59_3:=zx BK740.out 3
       obtain ⟨Ao60,co60,eo60⟩:=Kd.V_slice HO_740002.out
       subst eo60
       go_wp2
       refine bodyPost_ret (results_ctt rfl _ _ gb740 43 #[.int .u64 x740000_2, .int .u32 x740001_2, .slice Ao60 x740002_2.length co60, .int .i64 x740003_2] (0,0) _ rfl (by (with_reducible repeat (first|refine zh ?_ _|refine zj ?_|refine zi ?_ _));refine zw (cs := #[.int .u64 x740000_2, .int .u32 x740001_2, .slice Ao60 x740002_2.length co60, .int .i64 0]) ?_ 3 _ rfl;(with_reducible repeat (first|refine zh ?_ _|refine zj ?_|refine zi ?_ _));refine zw (cs := #[.int .u64 x740000_2, .int .u32 x740001_2, .slice none 0 0, .int .i64 0]) ?_ 2 _ rfl;(with_reducible repeat (first|refine zh ?_ _|refine zj ?_|refine zi ?_ _));refine zw (cs := #[.int .u64 x740000_2, .int .u32 0, .slice none 0 0, .int .i64 0]) ?_ 1 _ rfl;(with_reducible repeat (first|refine zh ?_ _|refine zj ?_|refine zi ?_ _));refine zw (cs := #[.int .u64 0, .int .u32 0, .slice none 0 0, .int .i64 0]) ?_ 0 _ rfl;(with_reducible repeat (first|refine zh ?_ _|refine zj ?_|refine zi ?_ _));exact BK740.out) Try.underlying43 rfl (by kernel_rfl)) rfl ?_
       exact ⟨_,_,by first|rfl|(simp [errW_none,errW_some] <;> rfl)|(simp [*,errW_none,errW_some] <;> rfl),by (with_reducible repeat (first|apply zA|apply zB|apply zC));exact zy (zI (p:=⟨gb740,3,none⟩) (zI (p:=⟨gb740,2,none⟩) (zI (p:=⟨gb740,1,none⟩) (zI (p:=⟨gb740,0,none⟩) (zy HO_740002.out (fun k_ hk=>(⟨hk,hk.2.2.2⟩ : _∧k_≠gb740))) (fun _ hk=>hk.2) (.int .u64 x740000_2)) (fun _ hk=>hk.2) (.int .u32 x740001_2)) (fun _ hk=>hk.2) (.slice Ao60 x740002_2.length co60)) (fun _ hk=>hk.2) (.int .i64 x740003_2)) (fun _ hk=>⟨hk.1.1,hk.1.2.1⟩),by (with_reducible repeat (first|apply zo|apply zp|apply zq));exact zG (zH (p:=⟨gb740,3,none⟩) (zH (p:=⟨gb740,2,none⟩) (zH (p:=⟨gb740,1,none⟩) (zH (p:=⟨gb740,0,none⟩) (Kd.R_types HO_9.out BK740.out (by decide)) (fun _ hk=>hk.2) (.int .u64 x740000_2)) (fun _ hk=>hk.2) (.int .u32 x740001_2)) (fun _ hk=>hk.2) (.slice Ao60 x740002_2.length co60)) (fun _ hk=>hk.2) (.int .i64 x740003_2)) (fun _ hk=>hk.1),by repeat (first|(with_reducible first|exact HB.out|apply ze|apply zd|apply zf|refine zk ?_ GE739.out|refine zk ?_ GE740.out)|exact HB.out)⟩

end Go.Proofs.Ytkaoiblgfpphoaa.Prt

namespace Go.Proofs.Ytkaoiblgfpphoaa.Prt
open Go.RowKit Go.Proofs.YtkaoiblgfpphoaaW.PrintWords Go.Proofs.YtkaoiblgfpphoaaW.PrintLast Go.Proofs.YtkaoiblgfpphoaaW.PrintMore
attribute [local go_sem] max2_int min2_int max_two min_two max_three min_three max_four min_four   -- for this text's walks alone
set_option linter.unusedVariables false
set_option linter.unusedSimpArgs false

/-! ### psalteryref06_Same: function 49 -/
def psalteryref06_Same.l0 : Nat→List Int→List Int→Int→Option (Bool)
 | 0,_,_,_=>none
 | k+1,x0,x1,x5=>if x5 < (x0.length : Int) then (if 0≤x5 then (if x5 < (x1.length : Int) then (if (rd x0 x5)=(rd x1 x5) then (psalteryref06_Same.l0 k x0 x1 (wrap64 (x5+1))) else (some false)) else (none)) else (none)) else (some true)
def psalteryref06_Same.f (k : Nat) (l0 : List Int) (l1 : List Int) : Option (Bool):=if (l0.length : Int)=(l1.length : Int) then (psalteryref06_Same.l0 k l0 l1 0) else (some false)
theorem psalteryref06_Same.mono_l : ∀ k,(∀ y0 y1 y2,LeO (psalteryref06_Same.l0 k y0 y1 y2) (psalteryref06_Same.l0 (k+1) y0 y1 y2))
 | 0=>fun _ _ _ r h=>by simp [psalteryref06_Same.l0] at h
 | k+1=>by
  have ih0:=psalteryref06_Same.mono_l k
  ·
   intro y0 y1 y2
   unfold psalteryref06_Same.l0
   repeat' first
   | (with_reducible exact ih0 _ _ _)
   | (with_reducible exact LeO.refl _)
   | (with_reducible exact LeO.none _)
   | (with_reducible refine LeO.ite ?_ ?_)
   | (with_reducible refine LeO.bind ?_ (fun _ => ?_))
   | exact ih0 _ _ _
   | exact LeO.none _
   | refine LeO.ite ?_ ?_
   | refine LeO.bind ?_ (fun _ => ?_)
theorem psalteryref06_Same.mono : ∀ a0 a1 k,LeO (psalteryref06_Same.f k a0 a1) (psalteryref06_Same.f (k+1) a0 a1):=by
 intro a0 a1 k
 have ih0:=psalteryref06_Same.mono_l k
 unfold psalteryref06_Same.f
 repeat' first
   | (with_reducible exact ih0 _ _ _)
   | (with_reducible exact LeO.refl _)
   | (with_reducible exact LeO.none _)
   | (with_reducible refine LeO.ite ?_ ?_)
   | (with_reducible refine LeO.bind ?_ (fun _ => ?_))
   | exact ih0 _ _ _
   | exact LeO.none _
   | refine LeO.ite ?_ ?_
   | refine LeO.bind ?_ (fun _ => ?_)
set_option maxHeartbeats 8000000 in
set_option maxRecDepth 100000 in
theorem psalteryref06_Same.calls (k : Nat) (A0 : Option Addr) (c0 : Nat) (l0 : List Int) (A1 : Option Addr) (c1 : Nat) (l1 : List Int) (r : Bool) (w : World) (hr0 : Kd.C (Kd.int .i64) w A0 l0.length l0) (hc0 : l0.length≤c0) (hr1 : Kd.C (Kd.int .i64) w A1 l1.length l1) (hc1 : l1.length≤c1) (h : psalteryref06_Same.f k l0 l1=some r) :
  Calls Try.prog 49 #[.slice A0 l0.length c0, .slice A1 l1.length c1] w fun e w' => e=.returned (.bool r)∧Drawn0 w w' := by
 have HR0:=zm hr0;have HC0:=zm hc0;clear hr0 hc0;have HR1:=zm hr1;have HC1:=zm hc1;clear hr1 hc1
 have H : (if (l0.length : Int)=(l1.length : Int) then (psalteryref06_Same.l0 k l0 l1 0) else (some false))=some r:=h
 clear h
 by_cases c3 : (l0.length : Int)=(l1.length : Int)
 ·
  rw [if_pos c3] at H
  have c3b0 : ((l0.length : Int) == (l1.length : Int))=true:=beq_iff_eq.mpr c3
  have c3b1 : ((l0.length : Int) != (l1.length : Int))=false:=bne_eq_false_iff_eq.mpr c3
  have c3b2 : (l0.length == l1.length)=true:=by first|simpa using c3|(simp at c3 ⊢; omega)
  clear c3
  have H' := zm H
  clear H
  go_enter Try.func49,Try.ntmps49
  go_wp2
  repeat (go_quiet (fail);try go_wp2)
  go_loopg [5] k (fun kq v5 w' => ∃ (x5_1 : Int),v5=.int .i64 x5_1∧Aside0 (psalteryref06_Same.l0 kq l0 l1 x5_1=some r)∧Aside0 (kq≤k)∧Drawn0 w w')
  case atStart=>exact ⟨(0),(by first|rfl|(simp;done)|(simp [*];done)),H',⟨Nat.le_refl _⟩,by repeat (first|exact Drawn0.refl _|apply Drawn0.step)⟩
  case round =>
   clear H'
   try clear c1
   try clear p2
   try clear c3
   try clear c3b0
   try clear c3b1
   try clear c3b2
   obtain ⟨x5_1,rfl,HA,HK1,⟨m1,rfl⟩⟩:=hrel
   cases gk with
   | zero=>exact absurd HA.out (by simp [psalteryref06_Same.l0])
   | succ k1 =>
    have H:=HA.out;clear HA
    simp only [psalteryref06_Same.l0] at H
    by_cases c4 : x5_1 < (l0.length : Int)
    ·
     rw [if_pos c4] at H
     have c4b0 : decide (x5_1 < (l0.length : Int))=true:=decide_eq_true c4
     clear c4
     by_cases c5 : 0≤x5_1
     ·
      rw [if_pos c5] at H
      have c5b0 : decide (0≤x5_1)=true:=decide_eq_true c5
      clear c5
      by_cases c6 : x5_1 < (l1.length : Int)
      ·
       rw [if_pos c6] at H
       have c6b0 : decide (x5_1 < (l1.length : Int))=true:=decide_eq_true c6
       clear c6
       by_cases c7 : (rd l0 x5_1)=(rd l1 x5_1)
       ·
        rw [if_pos c7] at H
        have c7b0 : ((rd l0 x5_1) == (rd l1 x5_1))=true:=beq_iff_eq.mpr c7
        have c7b1 : ((rd l0 x5_1) != (rd l1 x5_1))=false:=bne_eq_false_iff_eq.mpr c7
        clear c7
        have H' := zm H
        clear H
        have p772 : 0≤(x5_1 : Int):=of_decide_eq_true (by first|(with_reducible assumption)|assumption)
        have q772 : x5_1 < (l0.length : Int):=of_decide_eq_true (by first|(with_reducible assumption)|assumption)
        obtain ⟨ad772,e772,hx772_0⟩:=Kd.at_int HR0.out x5_1 p772 q772
        cases e772
        replace p772:=eq_true p772
        replace q772:=eq_true q772
        have p773 : 0≤(x5_1 : Int):=of_decide_eq_true (by first|(with_reducible assumption)|assumption)
        have q773 : x5_1 < (l1.length : Int):=of_decide_eq_true (by first|(with_reducible assumption)|assumption)
        obtain ⟨ad773,e773,hx773_0⟩:=Kd.at_int HR1.out x5_1 p773 q773
        cases e773
        replace p773:=eq_true p773
        replace q773:=eq_true q773
        go_wp2
        repeat (go_quiet (fail);try go_wp2)
        go_roundg k1
        case measure=>have:=HK1.out;omega
        case rel=>exact ⟨(wrap64 (x5_1+1)),(by first|rfl|(simp;done)|(simp [*];done)),H',⟨by have:=HK1.out;omega⟩,by repeat (first|exact Drawn0.refl _|apply Drawn0.step)⟩
       ·
        rw [if_neg c7] at H
        have c7b0 : ((rd l0 x5_1) == (rd l1 x5_1))=false:=beq_eq_false_iff_ne.mpr c7
        have c7b1 : ((rd l0 x5_1) != (rd l1 x5_1))=true:=bne_iff_ne.mpr c7
        obtain rfl:=Option.some.inj H
        have p772 : 0≤(x5_1 : Int):=of_decide_eq_true (by first|(with_reducible assumption)|assumption)
        have q772 : x5_1 < (l0.length : Int):=of_decide_eq_true (by first|(with_reducible assumption)|assumption)
        obtain ⟨ad772,e772,hx772_0⟩:=Kd.at_int HR0.out x5_1 p772 q772
        cases e772
        replace p772:=eq_true p772
        replace q772:=eq_true q772
        have p773 : 0≤(x5_1 : Int):=of_decide_eq_true (by first|(with_reducible assumption)|assumption)
        have q773 : x5_1 < (l1.length : Int):=of_decide_eq_true (by first|(with_reducible assumption)|assumption)
        obtain ⟨ad773,e773,hx773_0⟩:=Kd.at_int HR1.out x5_1 p773 q773
        cases e773
        replace p773:=eq_true p773
        replace q773:=eq_true q773
        go_wp2
        repeat (go_quiet (fail);try go_wp2)
        go_ret
        exact ⟨by first|rfl|(simp;done)|(simp [*];done),by repeat (first|exact Drawn0.refl _|apply Drawn0.step)⟩
      ·
       rw [if_neg c6] at H
       exact absurd H (by simp)
     ·
      rw [if_neg c5] at H
      exact absurd H (by simp)
    ·
     rw [if_neg c4] at H
     have c4b0 : decide (x5_1 < (l0.length : Int))=false:=decide_eq_false c4
     clear c4
     obtain rfl:=Option.some.inj H
     go_wp2
     repeat (go_quiet (fail);try go_wp2)
     go_ret
     exact ⟨by first|rfl|(simp;done)|(simp [*];done),by repeat (first|exact Drawn0.refl _|apply Drawn0.step)⟩
 ·
  rw [if_neg c3] at H
  have c3b0 : ((l0.length : Int) == (l1.length : Int))=false:=beq_eq_false_iff_ne.mpr c3
  have c3b1 : ((l0.length : Int) != (l1.length : Int))=true:=bne_iff_ne.mpr c3
  have c3b2 : (l0.length == l1.length)=false:=by first|simpa using c3|(simp at c3 ⊢; omega)
  obtain rfl:=Option.some.inj H
  go_enter Try.func49,Try.ntmps49
  go_wp2
  repeat (go_quiet (fail);try go_wp2)
  go_ret
  exact ⟨by first|rfl|(simp;done)|(simp [*];done),by repeat (first|exact Drawn0.refl _|apply Drawn0.step)⟩

end Go.Proofs.Ytkaoiblgfpphoaa.Prt

namespace Go.Proofs.Ytkaoiblgfpphoaa.Prt
open Go.RowKit Go.Proofs.YtkaoiblgfpphoaaW.PrintWords Go.Proofs.YtkaoiblgfpphoaaW.PrintLast Go.Proofs.YtkaoiblgfpphoaaW.PrintMore
attribute [local go_sem] max2_int min2_int max_two min_two max_three min_three max_four min_four   -- for this text's walks alone
set_option linter.unusedVariables false
set_option linter.unusedSimpArgs false

/-! ### psalterylaw11_knows: function 42 -/
def psalterylaw11_knows.f (k : Nat)  : Option (Bool):=(some (([5,5,5,5,5] : List Int) : List Int)).bind fun y774=>((some (([5,4,8,9,5] : List Int) : List Int)).bind fun y777=>((coder_New.f).bind fun bt780=>((gain_Put.f k bt780.1 bt780.2.1 bt780.2.2 y774 y777 false).bind fun bt785=>((coder_Finish.f bt785.1 bt785.2.1 bt785.2.2.1).bind fun t792=>((coder_Open.f t792).bind fun bt795=>((gain_Take.f k bt795.1 bt795.2.1 bt795.2.2.1 bt795.2.2.2 y777 false).bind fun bt801=>(if bt785.2.2.2=0 then ((psalteryref06_Same.f k bt801.2.2.2.2.1 y774).bind fun t812=>(if t812=true then (if bt801.2.2.2.2.2=0 then ((coder_RightDec.f bt801.1 bt801.2.1 bt801.2.2.1 bt801.2.2.2.1).bind fun t813=>(if t813=true then ((gain_Most.f true).bind fun t814=>(if t814=30 then ((gain_Most.f false).bind fun t815=>(if t815=45 then ((gain_Right.f k y774).bind fun t816=>(some t816)) else (none))) else (none))) else (none))) else (none)) else (none))) else (none))))))))
theorem psalterylaw11_knows.mono : ∀ k,LeO (psalterylaw11_knows.f k ) (psalterylaw11_knows.f (k+1) ):=by
 intro  k
 unfold psalterylaw11_knows.f
 repeat' first
   | (with_reducible exact gain_Put.mono _ _ _ _ _ _ _)
   | (with_reducible exact gain_Right.mono _ _)
   | (with_reducible exact gain_Take.mono _ _ _ _ _ _ _)
   | (with_reducible exact psalteryref06_Same.mono _ _ _)
   | (with_reducible exact LeO.refl _)
   | (with_reducible exact LeO.none _)
   | (with_reducible refine LeO.ite ?_ ?_)
   | (with_reducible refine LeO.bind ?_ (fun _ => ?_))
   | exact gain_Put.mono _ _ _ _ _ _ _
   | exact gain_Right.mono _ _
   | exact gain_Take.mono _ _ _ _ _ _ _
   | exact psalteryref06_Same.mono _ _ _
   | exact LeO.none _
   | refine LeO.ite ?_ ?_
   | refine LeO.bind ?_ (fun _ => ?_)
set_option maxHeartbeats 8000000 in
set_option maxRecDepth 100000 in
theorem psalterylaw11_knows.calls (k : Nat)  (r : Bool) (w : World) (h : psalterylaw11_knows.f k  = some r) :
  Calls Try.prog 42 #[] w fun e w' => e=.returned (.bool r)∧Below w.heap.size w w' := by
 have hu26:=Try.underlying26;have hu43:=Try.underlying43;have HB:=zm (Below.refl w.heap.size w)
 have H : ((some (([5,5,5,5,5] : List Int) : List Int)).bind fun y774=>((some (([5,4,8,9,5] : List Int) : List Int)).bind fun y777=>((coder_New.f).bind fun bt780=>((gain_Put.f k bt780.1 bt780.2.1 bt780.2.2 y774 y777 false).bind fun bt785=>((coder_Finish.f bt785.1 bt785.2.1 bt785.2.2.1).bind fun t792=>((coder_Open.f t792).bind fun bt795=>((gain_Take.f k bt795.1 bt795.2.1 bt795.2.2.1 bt795.2.2.2 y777 false).bind fun bt801=>(if bt785.2.2.2=0 then ((psalteryref06_Same.f k bt801.2.2.2.2.1 y774).bind fun t812=>(if t812=true then (if bt801.2.2.2.2.2=0 then ((coder_RightDec.f bt801.1 bt801.2.1 bt801.2.2.1 bt801.2.2.2.1).bind fun t813=>(if t813=true then ((gain_Most.f true).bind fun t814=>(if t814=30 then ((gain_Most.f false).bind fun t815=>(if t815=45 then ((gain_Right.f k y774).bind fun t816=>(some t816)) else (none))) else (none))) else (none))) else (none)) else (none))) else (none)))))))))=some r:=h
 clear h
 obtain ⟨y774,hy774⟩ : ∃ y_ : List Int,y_=(([5,5,5,5,5] : List Int)):=⟨_,rfl⟩
 replace H : ((some (([5,4,8,9,5] : List Int) : List Int)).bind fun y777=>((coder_New.f).bind fun bt780=>((gain_Put.f k bt780.1 bt780.2.1 bt780.2.2 y774 y777 false).bind fun bt785=>((coder_Finish.f bt785.1 bt785.2.1 bt785.2.2.1).bind fun t792=>((coder_Open.f t792).bind fun bt795=>((gain_Take.f k bt795.1 bt795.2.1 bt795.2.2.1 bt795.2.2.2 y777 false).bind fun bt801=>(if bt785.2.2.2=0 then ((psalteryref06_Same.f k bt801.2.2.2.2.1 y774).bind fun t812=>(if t812=true then (if bt801.2.2.2.2.2=0 then ((coder_RightDec.f bt801.1 bt801.2.1 bt801.2.2.1 bt801.2.2.2.1).bind fun t813=>(if t813=true then ((gain_Most.f true).bind fun t814=>(if t814=30 then ((gain_Most.f false).bind fun t815=>(if t815=45 then ((gain_Right.f k y774).bind fun t816=>(some t816)) else (none))) else (none))) else (none))) else (none)) else (none))) else (none))))))))=some r:=by first|(rw [hy774];with_reducible exact H)|(have H2_:=(Option.bind_some _ _).symm.trans H;rw [hy774];with_reducible exact H2_)|(have H2_:=(Option.bind_some _ _).symm.trans H;with_reducible exact H2_)|with_reducible exact H|(rw [hy774];exact H)|exact H
 have Ny774:=zm hy774;clear hy774
 obtain ⟨y777,hy777⟩ : ∃ y_ : List Int,y_=(([5,4,8,9,5] : List Int)):=⟨_,rfl⟩
 replace H : ((coder_New.f).bind fun bt780=>((gain_Put.f k bt780.1 bt780.2.1 bt780.2.2 y774 y777 false).bind fun bt785=>((coder_Finish.f bt785.1 bt785.2.1 bt785.2.2.1).bind fun t792=>((coder_Open.f t792).bind fun bt795=>((gain_Take.f k bt795.1 bt795.2.1 bt795.2.2.1 bt795.2.2.2 y777 false).bind fun bt801=>(if bt785.2.2.2=0 then ((psalteryref06_Same.f k bt801.2.2.2.2.1 y774).bind fun t812=>(if t812=true then (if bt801.2.2.2.2.2=0 then ((coder_RightDec.f bt801.1 bt801.2.1 bt801.2.2.1 bt801.2.2.2.1).bind fun t813=>(if t813=true then ((gain_Most.f true).bind fun t814=>(if t814=30 then ((gain_Most.f false).bind fun t815=>(if t815=45 then ((gain_Right.f k y774).bind fun t816=>(some t816)) else (none))) else (none))) else (none))) else (none)) else (none))) else (none)))))))=some r:=by first|(rw [hy777];with_reducible exact H)|(have H2_:=(Option.bind_some _ _).symm.trans H;rw [hy777];with_reducible exact H2_)|(have H2_:=(Option.bind_some _ _).symm.trans H;with_reducible exact H2_)|with_reducible exact H|(rw [hy777];exact H)|exact H
 have Ny777:=zm hy777;clear hy777
 replace H:=Option.bind_eq_some_iff.mp H
 obtain ⟨⟨t780,t781,t782⟩,A10,H⟩:=H
 replace H : ((gain_Put.f k t780 t781 t782 y774 y777 false).bind fun bt785=>((coder_Finish.f bt785.1 bt785.2.1 bt785.2.2.1).bind fun t792=>((coder_Open.f t792).bind fun bt795=>((gain_Take.f k bt795.1 bt795.2.1 bt795.2.2.1 bt795.2.2.2 y777 false).bind fun bt801=>(if bt785.2.2.2=0 then ((psalteryref06_Same.f k bt801.2.2.2.2.1 y774).bind fun t812=>(if t812=true then (if bt801.2.2.2.2.2=0 then ((coder_RightDec.f bt801.1 bt801.2.1 bt801.2.2.1 bt801.2.2.2.1).bind fun t813=>(if t813=true then ((gain_Most.f true).bind fun t814=>(if t814=30 then ((gain_Most.f false).bind fun t815=>(if t815=45 then ((gain_Right.f k y774).bind fun t816=>(some t816)) else (none))) else (none))) else (none))) else (none)) else (none))) else (none))))))=some r:=H
 have A1:=zm A10;clear A10
 replace H:=Option.bind_eq_some_iff.mp H
 obtain ⟨⟨t785,t786,t787,t790⟩,A20,H⟩:=H
 replace H : ((coder_Finish.f t785 t786 t787).bind fun t792=>((coder_Open.f t792).bind fun bt795=>((gain_Take.f k bt795.1 bt795.2.1 bt795.2.2.1 bt795.2.2.2 y777 false).bind fun bt801=>(if t790=0 then ((psalteryref06_Same.f k bt801.2.2.2.2.1 y774).bind fun t812=>(if t812=true then (if bt801.2.2.2.2.2=0 then ((coder_RightDec.f bt801.1 bt801.2.1 bt801.2.2.1 bt801.2.2.2.1).bind fun t813=>(if t813=true then ((gain_Most.f true).bind fun t814=>(if t814=30 then ((gain_Most.f false).bind fun t815=>(if t815=45 then ((gain_Right.f k y774).bind fun t816=>(some t816)) else (none))) else (none))) else (none))) else (none)) else (none))) else (none)))))=some r:=H
 have A2:=zm A20;clear A20
 replace H:=Option.bind_eq_some_iff.mp H
 obtain ⟨t792,A30,H⟩:=H
 replace H : ((coder_Open.f t792).bind fun bt795=>((gain_Take.f k bt795.1 bt795.2.1 bt795.2.2.1 bt795.2.2.2 y777 false).bind fun bt801=>(if t790=0 then ((psalteryref06_Same.f k bt801.2.2.2.2.1 y774).bind fun t812=>(if t812=true then (if bt801.2.2.2.2.2=0 then ((coder_RightDec.f bt801.1 bt801.2.1 bt801.2.2.1 bt801.2.2.2.1).bind fun t813=>(if t813=true then ((gain_Most.f true).bind fun t814=>(if t814=30 then ((gain_Most.f false).bind fun t815=>(if t815=45 then ((gain_Right.f k y774).bind fun t816=>(some t816)) else (none))) else (none))) else (none))) else (none)) else (none))) else (none))))=some r:=H
 have A3:=zm A30;clear A30
 replace H:=Option.bind_eq_some_iff.mp H
 obtain ⟨⟨t795,t796,t797,t800⟩,A40,H⟩:=H
 replace H : ((gain_Take.f k t795 t796 t797 t800 y777 false).bind fun bt801=>(if t790=0 then ((psalteryref06_Same.f k bt801.2.2.2.2.1 y774).bind fun t812=>(if t812=true then (if bt801.2.2.2.2.2=0 then ((coder_RightDec.f bt801.1 bt801.2.1 bt801.2.2.1 bt801.2.2.2.1).bind fun t813=>(if t813=true then ((gain_Most.f true).bind fun t814=>(if t814=30 then ((gain_Most.f false).bind fun t815=>(if t815=45 then ((gain_Right.f k y774).bind fun t816=>(some t816)) else (none))) else (none))) else (none))) else (none)) else (none))) else (none)))=some r:=H
 have A4:=zm A40;clear A40
 replace H:=Option.bind_eq_some_iff.mp H
 obtain ⟨⟨t801,t802,t803,t806,t807,t810⟩,A50,H⟩:=H
 replace H : (if t790=0 then ((psalteryref06_Same.f k t807 y774).bind fun t812=>(if t812=true then (if t810=0 then ((coder_RightDec.f t801 t802 t803 t806).bind fun t813=>(if t813=true then ((gain_Most.f true).bind fun t814=>(if t814=30 then ((gain_Most.f false).bind fun t815=>(if t815=45 then ((gain_Right.f k y774).bind fun t816=>(some t816)) else (none))) else (none))) else (none))) else (none)) else (none))) else (none))=some r:=H
 have A5:=zm A50;clear A50
 by_cases c6 : t790=0
 ·
  rw [if_pos c6] at H
  have c6b0 : (t790 == 0)=true:=beq_iff_eq.mpr c6
  have c6b1 : (t790 != 0)=false:=bne_eq_false_iff_eq.mpr c6
  clear c6
  replace H:=Option.bind_eq_some_iff.mp H
  obtain ⟨t812,A70,H⟩:=H
  replace H : (if t812=true then (if t810=0 then ((coder_RightDec.f t801 t802 t803 t806).bind fun t813=>(if t813=true then ((gain_Most.f true).bind fun t814=>(if t814=30 then ((gain_Most.f false).bind fun t815=>(if t815=45 then ((gain_Right.f k y774).bind fun t816=>(some t816)) else (none))) else (none))) else (none))) else (none)) else (none))=some r:=H
  have A7:=zm A70;clear A70
  by_cases c8 : t812=true
  ·
   subst c8
   have H1 : (if t810=0 then ((coder_RightDec.f t801 t802 t803 t806).bind fun t813=>(if t813=true then ((gain_Most.f true).bind fun t814=>(if t814=30 then ((gain_Most.f false).bind fun t815=>(if t815=45 then ((gain_Right.f k y774).bind fun t816=>(some t816)) else (none))) else (none))) else (none))) else (none))=some r:=by rw [if_pos rfl] at H;exact H
   clear H;have H:=H1;clear H1
   by_cases c9 : t810=0
   ·
    rw [if_pos c9] at H
    have c9b0 : (t810 == 0)=true:=beq_iff_eq.mpr c9
    have c9b1 : (t810 != 0)=false:=bne_eq_false_iff_eq.mpr c9
    clear c9
    replace H:=Option.bind_eq_some_iff.mp H
    obtain ⟨t813,A100,H⟩:=H
    replace H : (if t813=true then ((gain_Most.f true).bind fun t814=>(if t814=30 then ((gain_Most.f false).bind fun t815=>(if t815=45 then ((gain_Right.f k y774).bind fun t816=>(some t816)) else (none))) else (none))) else (none))=some r:=H
    have A10:=zm A100;clear A100
    by_cases c11 : t813=true
    ·
     subst c11
     have H1 : ((gain_Most.f true).bind fun t814=>(if t814=30 then ((gain_Most.f false).bind fun t815=>(if t815=45 then ((gain_Right.f k y774).bind fun t816=>(some t816)) else (none))) else (none)))=some r:=by rw [if_pos rfl] at H;exact H
     clear H;have H:=H1;clear H1
     replace H:=Option.bind_eq_some_iff.mp H
     obtain ⟨t814,A120,H⟩:=H
     replace H : (if t814=30 then ((gain_Most.f false).bind fun t815=>(if t815=45 then ((gain_Right.f k y774).bind fun t816=>(some t816)) else (none))) else (none))=some r:=H
     have A12:=zm A120;clear A120
     by_cases c13 : t814=30
     ·
      rw [if_pos c13] at H
      have c13b0 : (t814 == 30)=true:=beq_iff_eq.mpr c13
      have c13b1 : (t814 != 30)=false:=bne_eq_false_iff_eq.mpr c13
      clear c13
      replace H:=Option.bind_eq_some_iff.mp H
      obtain ⟨t815,A140,H⟩:=H
      replace H : (if t815=45 then ((gain_Right.f k y774).bind fun t816=>(some t816)) else (none))=some r:=H
      have A14:=zm A140;clear A140
      by_cases c15 : t815=45
      ·
       rw [if_pos c15] at H
       have c15b0 : (t815 == 45)=true:=beq_iff_eq.mpr c15
       have c15b1 : (t815 != 45)=false:=bne_eq_false_iff_eq.mpr c15
       clear c15
       replace H:=Option.bind_eq_some_iff.mp H
       obtain ⟨t816,A160,H⟩:=H
       replace H : (some t816)=some r:=H
       have A16:=zm A160;clear A160
       obtain rfl:=Option.some.inj H
       go_enter Try.func42,Try.ntmps42
       go_wp2_with (first|((with_reducible refine gate_dst (N:=8) rfl ?_);refine Kd.R_lit (Kd.int .i64) _ 3 ?hg (N:=8) ?hd (xs:=([5,5,5,5,5] : List Int)) (inner := [.int .i64 5, .int .i64 5, .int .i64 5, .int .i64 5, .int .i64 5]) (ok:=fun _=>True) (okp:=fun _=>True) ?hr ?hp (fun _ hk=>hk) trivial (Below.refl _ _) (Nat.le_refl _) (by simp) ?_;(case hd=>rfl);(case hg=>rfl);(case hr=>first|(go_simp;done)|(go_simp;rfl));(case hp=>exact (Reps.one (show Kd.M (Kd.int .i64) _ _ _ 5 [.int .i64 5] from rfl) (Reps.one (show Kd.M (Kd.int .i64) _ _ _ 5 [.int .i64 5] from rfl) (Reps.one (show Kd.M (Kd.int .i64) _ _ _ 5 [.int .i64 5] from rfl) (Reps.one (show Kd.M (Kd.int .i64) _ _ _ 5 [.int .i64 5] from rfl) (Reps.one (show Kd.M (Kd.int .i64) _ _ _ 5 [.int .i64 5] from rfl) (Reps.none _ _)))))));intro v775 w17 ho18 hb hg_ hnew_;clear hg_ hnew_;(first|rw [← Ny774.out] at ho18|(simp only [Int.reduceToNat] at ho18;rw [← Ny774.out] at ho18));have n0_:=zm (Kd.R_lower ho18 (zE (by repeat (first|(with_reducible first|exact HB.out|apply ze|apply zd|apply zf)|exact HB.out))));have n1_:=zm (zJ (by repeat (first|(with_reducible first|exact HB.out|apply ze|apply zd|apply zf)|exact HB.out)) hb);clear HB;have HO776:=n0_;have HB:=n1_;clear n0_ n1_;clear hb ho18)|((with_reducible refine gate_dst (N:=9) rfl ?_);refine Kd.R_lit (Kd.int .i64) _ 3 ?hg (N:=9) ?hd (xs:=([5,4,8,9,5] : List Int)) (inner := [.int .i64 5, .int .i64 4, .int .i64 8, .int .i64 9, .int .i64 5]) (ok:=fun _=>True) (okp:=fun _=>True) ?hr ?hp (fun _ hk=>hk) trivial (Below.refl _ _) (Nat.le_refl _) (by simp) ?_;(case hd=>rfl);(case hg=>rfl);(case hr=>first|(go_simp;done)|(go_simp;rfl));(case hp=>exact (Reps.one (show Kd.M (Kd.int .i64) _ _ _ 5 [.int .i64 5] from rfl) (Reps.one (show Kd.M (Kd.int .i64) _ _ _ 4 [.int .i64 4] from rfl) (Reps.one (show Kd.M (Kd.int .i64) _ _ _ 8 [.int .i64 8] from rfl) (Reps.one (show Kd.M (Kd.int .i64) _ _ _ 9 [.int .i64 9] from rfl) (Reps.one (show Kd.M (Kd.int .i64) _ _ _ 5 [.int .i64 5] from rfl) (Reps.none _ _)))))));intro v778 w19 ho20 hb hg_ hnew_;clear hg_ hnew_;(first|rw [← Ny777.out] at ho20|(simp only [Int.reduceToNat] at ho20;rw [← Ny777.out] at ho20));have n0_:=zm (Kd.R_elder' (by (with_reducible repeat (first|apply zo|apply zp|apply zq));exact HO776.out) (Kd.R_base ho20) hb);have n1_:=zm (Kd.R_lower (Kd.R_new' ho20 (Kd.R_lt (by (with_reducible repeat (first|apply zo|apply zp|apply zq));exact HO776.out))) (zE (by repeat (first|(with_reducible first|exact HB.out|apply ze|apply zd|apply zf)|exact HB.out))));have n2_:=zm (zJ (by repeat (first|(with_reducible first|exact HB.out|apply ze|apply zd|apply zf)|exact HB.out)) hb);clear HO776;clear HB;have HO776:=n0_;have HO779:=n1_;have HB:=n2_;clear n0_ n1_ n2_;clear hb ho20)|((with_reducible refine gate_callee (f:=29) rfl ?_);refine goesL_ (some 11) rfl rfl Try.func29 (by kernel_rfl) rfl #[] rfl (by (try simp only [List.map_toArray,List.map_cons,List.map_nil]);first|done|rfl|(simp only [List.length_drop,List.length_take];rfl)) ?_;(with_reducible refine (coder_New.calls  t780 t781 t782 _ A1.out).mono ?_);rintro e w21 ⟨v783,rfl,ho0,hb⟩;refine ⟨_,rfl, ?_⟩;have n0_:=zm (Kd.R_below (by (with_reducible repeat (first|apply zo|apply zp|apply zq));exact HO776.out) hb);have n1_:=zm (Kd.R_below (by (with_reducible repeat (first|apply zo|apply zp|apply zq));exact HO779.out) hb);have n2_:=zm (Kd.R_lower ho0 (zE (by repeat (first|(with_reducible first|exact HB.out|apply ze|apply zd|apply zf)|exact HB.out))));have n3_:=zm (zJ (by repeat (first|(with_reducible first|exact HB.out|apply ze|apply zd|apply zf)|exact HB.out)) hb);clear HO776;clear HO779;clear HB;have HO776:=n0_;have HO779:=n1_;have HO784:=n2_;have HB:=n3_;clear n0_ n1_ n2_ n3_;(try clear hb);(try clear hb2);(try clear hk);(try clear hi);(try clear ho0);obtain ⟨Ao22,co22,eo22⟩:=Kd.R_slice HO784.out;subst eo22;obtain ⟨Ao23,co23,eo23⟩:=Kd.R_slice HO776.out;subst eo23;obtain ⟨Ao24,co24,eo24⟩:=Kd.R_slice HO779.out;subst eo24)|((with_reducible refine gate_callee (f:=43) rfl ?_);refine goesL_ (some 14) rfl rfl Try.func43 (by kernel_rfl) rfl #[.agg #[.int .u64 t780, .int .u32 t781, .slice Ao22 t782.length co22], .slice Ao23 y774.length co23, .slice Ao24 y777.length co24, .bool false] rfl (by (try simp only [List.map_toArray,List.map_cons,List.map_nil]);first|done|rfl|(simp only [List.length_drop,List.length_take];rfl)) ?_;(with_reducible refine (gain_Put.calls k t780 t781 (fun k_=>some k_=(.slice Ao22 t782.length co22 : Value).ownBlock) _ _ t782 _ _ y774 _ _ y777 false t785 t786 t787 t790 _ ?side1 ?side2 ?side3 ?side4 ?side5 A2.out).mono ?_);(case side1=>exact Kd.R_V (Kd.R_tight rfl (Kd.R_apart' (Kd.R_apart' (HO784.out) (Kd.R_typed HO776.out) (by decide)) (Kd.R_typed HO779.out) (by decide))));(case side2=>repeat (first|exact (Kd.R_reads' HO776.out).2.2|(with_reducible refine Kd.C_alloc ?_ _)|(with_reducible refine Kd.C_drewN ?_ _)|(with_reducible refine Kd.C_drew ?_)));(case side3=>exact (Kd.R_reads' HO776.out).2.1);(case side4=>repeat (first|exact (Kd.R_reads' HO779.out).2.2|(with_reducible refine Kd.C_alloc ?_ _)|(with_reducible refine Kd.C_drewN ?_ _)|(with_reducible refine Kd.C_drew ?_)));(case side5=>exact (Kd.R_reads' HO779.out).2.1);rintro e w25 ⟨v788,rfl,ho0,hb⟩;refine ⟨_,rfl, ?_⟩;have n0_:=zm (Kd.R_below (by (with_reducible repeat (first|apply zo|apply zp|apply zq));exact HO776.out) hb);have n1_:=zm (Kd.R_below (by (with_reducible repeat (first|apply zo|apply zp|apply zq));exact HO779.out) hb);have n2_:=zm (Kd.R_below (by (with_reducible repeat (first|apply zo|apply zp|apply zq));exact HO784.out) hb);have n3_:=zm (Kd.V_lower (zy (ok' := fun k_=>some k_≠(.slice Ao23 y774.length co23 : Value).ownBlock∧some k_≠(.slice Ao24 y777.length co24 : Value).ownBlock) ho0 (fun k_ hk_=>⟨Or.elim hk_ (fun hs_=>((Kd.R_apart' (Kd.R_apart' (HO784.out) (Kd.R_typed HO776.out) (by decide)) (Kd.R_typed HO779.out) (by decide)).1 k_ hs_.symm).1.2) (fun hn_=>(Kd.fresh' (Kd.R_lt (by (with_reducible repeat (first|apply zo|apply zp|apply zq));exact HO776.out)) k_ hn_)),Or.elim hk_ (fun hs_=>((Kd.R_apart' (Kd.R_apart' (HO784.out) (Kd.R_typed HO776.out) (by decide)) (Kd.R_typed HO779.out) (by decide)).1 k_ hs_.symm).2) (fun hn_=>(Kd.fresh' (Kd.R_lt (by (with_reducible repeat (first|apply zo|apply zp|apply zq));exact HO779.out)) k_ hn_))⟩)) (zE (by repeat (first|(with_reducible first|exact HB.out|apply ze|apply zd|apply zf)|exact HB.out))));have n4_:=zm (zJ (by repeat (first|(with_reducible first|exact HB.out|apply ze|apply zd|apply zf)|exact HB.out)) hb);clear HO776;clear HO779;clear HO784;clear HB;have HO776:=n0_;have HO779:=n1_;have HO784:=n2_;have HO789:=n3_;have HB:=n4_;clear n0_ n1_ n2_ n3_ n4_;(try clear hb);(try clear hb2);(try clear hk);(try clear hi);(try clear ho0))|((with_reducible refine gate_dst (N:=3) rfl ?_);refine box_event ?hg (N:=3) ?hd (cs := #[.int .u64 0, .int .u32 0, .slice none 0 0]) (t:=26) ?hr ?_;(case hd=>rfl);(case hg=>rfl);(case hr=>first|(go_simp;done)|(go_simp;rfl));intro gb791 hg w26 hbox hb;have n0_:=zm (Kd.R_below (by (with_reducible repeat (first|apply zo|apply zp|apply zq));exact HO776.out) hb);have n1_:=zm (Kd.R_below (by (with_reducible repeat (first|apply zo|apply zp|apply zq));exact HO779.out) hb);have n2_:=zm (Kd.R_below (by (with_reducible repeat (first|apply zo|apply zp|apply zq));exact HO784.out) hb);have n3_:=zm (Kd.V_below (Kd.V_elderB (by (with_reducible repeat (first|apply zA|apply zB|apply zC));exact HO789.out) gb791 (Nat.le_of_eq hg.symm)) hb);have n4_:=zm (zJ (by repeat (first|(with_reducible first|exact HB.out|apply ze|apply zd|apply zf)|exact HB.out)) hb);have n5_:=zm (hbox);have n6_:=zm ((by rw [hg];exact (zE (by repeat (first|(with_reducible first|exact HB.out|apply ze|apply zd|apply zf)|exact HB.out))) : w.heap.size≤gb791));have n7_:=zm ((by rw [hg];exact (zE (by repeat (first|(with_reducible first|exact HB.out|apply ze|apply zd|apply zf)|exact HB.out))) : w.heap.size≤gb791));clear HO776;clear HO779;clear HO784;clear HO789;clear HB;have HO776:=n0_;have HO779:=n1_;have HO784:=n2_;have HO789:=n3_;have HB:=n4_;have BK791:=n5_;have GW791:=n6_;have GE791:=n7_;clear n0_ n1_ n2_ n3_ n4_ n5_ n6_ n7_;clear hb hbox hg;have hcz27_0 : w26.cell? ⟨gb791,0,none⟩=some (.int .u64 0):=(zs BK791.out 0).trans rfl;have hcz27_1 : w26.cell? ⟨gb791,1,none⟩=some (.int .u32 0):=(zs BK791.out 1).trans rfl;have hcz27_2 : w26.cell? ⟨gb791,2,none⟩=some (.slice none 0 0):=(zs BK791.out 2).trans rfl;have hfz27_0:=zx BK791.out 0;have hfz27_1:=zx BK791.out 1;have hfz27_2:=zx BK791.out 2;obtain ⟨Ao28,co28,eo28⟩:=Kd.V_slice HO789.out;subst eo28)|((with_reducible refine gate_callee (f:=24) rfl ?_);refine goesL_ (some 19) rfl rfl Try.func24 (by kernel_rfl) rfl #[.agg #[.int .u64 t785, .int .u32 t786, .slice Ao28 t787.length co28]] rfl (by (try simp only [List.map_toArray,List.map_cons,List.map_nil]);first|done|rfl|(simp only [List.length_drop,List.length_take];rfl)) ?_;(with_reducible refine (coder_Finish.calls t785 t786 _ _ t787 t792 _ ?side1 ?side2 A3.out).mono ?_);(case side1=>refine (Kd.V_reads' (e:=5) (base:=w.heap.size) (ok:=fun k_=>((some k_≠(.slice Ao23 y774.length co23 : Value).ownBlock∧some k_≠(.slice Ao24 y777.length co24 : Value).ownBlock)∧k_≠gb791)) (n:=t787.length) (c:=co28) ?_).2.2;exact (by (with_reducible repeat (first|apply zA|apply zB|apply zC));exact (zy (zI (p:=⟨gb791,2,none⟩) (zI (p:=⟨gb791,1,none⟩) (zI (p:=⟨gb791,0,none⟩) (zy HO789.out (fun k_ hk=>(⟨hk,hk.2⟩ : _∧k_≠gb791))) (fun _ hk=>hk.2) (.int .u64 t785)) (fun _ hk=>hk.2) (.int .u32 t786)) (fun _ hk=>hk.2) (.slice Ao28 t787.length co28)) (fun _ h_=>h_.1))));(case side2=>exact (Kd.V_reads' HO789.out).2.1);rintro e w29 ⟨v793,rfl,ho0,hb⟩;refine ⟨_,rfl, ?_⟩;have n0_:=zm (Kd.R_below (by (with_reducible repeat (first|apply zo|apply zp|apply zq));exact (zG (zH (p:=⟨gb791,2,none⟩) (zH (p:=⟨gb791,1,none⟩) (zH (p:=⟨gb791,0,none⟩) (Kd.R_types HO776.out BK791.out (by decide)) (fun _ hk=>hk.2) (.int .u64 t785)) (fun _ hk=>hk.2) (.int .u32 t786)) (fun _ hk=>hk.2) (.slice Ao28 t787.length co28)) (fun _ h_=>h_.1))) hb);have n1_:=zm (Kd.R_below (by (with_reducible repeat (first|apply zo|apply zp|apply zq));exact (zG (zH (p:=⟨gb791,2,none⟩) (zH (p:=⟨gb791,1,none⟩) (zH (p:=⟨gb791,0,none⟩) (Kd.R_types HO779.out BK791.out (by decide)) (fun _ hk=>hk.2) (.int .u64 t785)) (fun _ hk=>hk.2) (.int .u32 t786)) (fun _ hk=>hk.2) (.slice Ao28 t787.length co28)) (fun _ h_=>h_.1))) hb);have n2_:=zm (Kd.R_elder' (by (with_reducible repeat (first|apply zo|apply zp|apply zq));exact (zG (zH (p:=⟨gb791,2,none⟩) (zH (p:=⟨gb791,1,none⟩) (zH (p:=⟨gb791,0,none⟩) (Kd.R_types HO784.out BK791.out (by decide)) (fun _ hk=>hk.2) (.int .u64 t785)) (fun _ hk=>hk.2) (.int .u32 t786)) (fun _ hk=>hk.2) (.slice Ao28 t787.length co28)) (fun _ h_=>h_.1))) (Kd.R_base ho0) hb);have n3_:=zm (Kd.V_elder' (by (with_reducible repeat (first|apply zA|apply zB|apply zC));exact (zy (zI (p:=⟨gb791,2,none⟩) (zI (p:=⟨gb791,1,none⟩) (zI (p:=⟨gb791,0,none⟩) (zy HO789.out (fun k_ hk=>(⟨hk,hk.2⟩ : _∧k_≠gb791))) (fun _ hk=>hk.2) (.int .u64 t785)) (fun _ hk=>hk.2) (.int .u32 t786)) (fun _ hk=>hk.2) (.slice Ao28 t787.length co28)) (fun _ h_=>h_.1))) (Kd.R_base ho0) hb);have n4_:=zm (Kd.R_lower (Kd.R_new' ho0 (Kd.R_lt (by (with_reducible repeat (first|apply zo|apply zp|apply zq));exact (zG (zH (p:=⟨gb791,2,none⟩) (zH (p:=⟨gb791,1,none⟩) (zH (p:=⟨gb791,0,none⟩) (Kd.R_types HO784.out BK791.out (by decide)) (fun _ hk=>hk.2) (.int .u64 t785)) (fun _ hk=>hk.2) (.int .u32 t786)) (fun _ hk=>hk.2) (.slice Ao28 t787.length co28)) (fun _ h_=>h_.1))))) (zE (by repeat (first|(with_reducible first|exact HB.out|apply ze|apply zd|apply zf|refine zk ?_ GE791.out)|exact HB.out))));have n5_:=zm (zF (g:=gb791) (o:=.cells #[.int .u64 t785, .int .u32 t786, .slice Ao28 t787.length co28] 26 (0,0)) (by (with_reducible repeat (first|refine zh ?_ _|refine zj ?_|refine zi ?_ _));refine zw (cs := #[.int .u64 t785, .int .u32 t786, .slice none 0 0]) ?_ 2 _ rfl;(with_reducible repeat (first|refine zh ?_ _|refine zj ?_|refine zi ?_ _));refine zw (cs := #[.int .u64 t785, .int .u32 0, .slice none 0 0]) ?_ 1 _ rfl;(with_reducible repeat (first|refine zh ?_ _|refine zj ?_|refine zi ?_ _));refine zw (cs := #[.int .u64 0, .int .u32 0, .slice none 0 0]) ?_ 0 _ rfl;(with_reducible repeat (first|refine zh ?_ _|refine zj ?_|refine zi ?_ _));exact BK791.out) hb);have n6_:=zm (zJ (by repeat (first|(with_reducible first|exact HB.out|apply ze|apply zd|apply zf|refine zk ?_ GE791.out)|exact HB.out)) hb);clear HO776;clear HO779;clear HO784;clear HO789;clear BK791;clear HB;have HO776:=n0_;have HO779:=n1_;have HO784:=n2_;have HO789:=n3_;have HO794:=n4_;have BK791:=n5_;have HB:=n6_;clear n0_ n1_ n2_ n3_ n4_ n5_ n6_;(try clear hb);(try clear hb2);(try clear hk);(try clear hi);(try clear ho0);obtain ⟨Ao30,co30,eo30⟩:=Kd.R_slice HO794.out;subst eo30)|((with_reducible refine gate_callee (f:=26) rfl ?_);refine goesL_ (some 20) rfl rfl Try.func26 (by kernel_rfl) rfl #[.slice Ao30 t792.length co30] rfl (by (try simp only [List.map_toArray,List.map_cons,List.map_nil]);first|done|rfl|(simp only [List.length_drop,List.length_take];rfl)) ?_;(with_reducible refine (coder_Open.calls (fun k_=>some k_=(.slice Ao30 t792.length co30 : Value).ownBlock) _ _ t792 t795 t796 t797 t800 _ ?side1 A4.out).mono ?_);(case side1=>exact Kd.R_V (Kd.R_tight rfl (Kd.R_types (Kd.R_apart' (Kd.R_apart' (HO794.out) (Kd.R_typed HO776.out) (by decide)) (Kd.R_typed HO779.out) (by decide)) BK791.out (by decide))));rintro e w31 ⟨v798,rfl,ho0,hb⟩;refine ⟨_,rfl, ?_⟩;have n0_:=zm (Kd.R_below (by (with_reducible repeat (first|apply zo|apply zp|apply zq));exact HO776.out) hb);have n1_:=zm (Kd.R_below (by (with_reducible repeat (first|apply zo|apply zp|apply zq));exact HO779.out) hb);have n2_:=zm (Kd.R_below (by (with_reducible repeat (first|apply zo|apply zp|apply zq));exact HO784.out) hb);have n3_:=zm (Kd.V_below (by (with_reducible repeat (first|apply zA|apply zB|apply zC));exact HO789.out) hb);have n4_:=zm (Kd.R_below (by (with_reducible repeat (first|apply zo|apply zp|apply zq));exact HO794.out) hb);have n5_:=zm (Kd.V_lower (zy (ok' := fun k_=>some k_≠(.slice Ao23 y774.length co23 : Value).ownBlock∧some k_≠(.slice Ao24 y777.length co24 : Value).ownBlock∧some k_≠(.slice Ao22 t782.length co22 : Value).ownBlock∧k_≠gb791) ho0 (fun k_ hk_=>⟨Or.elim hk_ (fun hs_=>((Kd.R_types (Kd.R_apart' (Kd.R_apart' (HO794.out) (Kd.R_typed HO776.out) (by decide)) (Kd.R_typed HO779.out) (by decide)) BK791.out (by decide)).1 k_ hs_.symm).1.1.2) (fun hn_=>(Kd.fresh' (Kd.R_lt (by (with_reducible repeat (first|apply zo|apply zp|apply zq));exact HO776.out)) k_ hn_)),Or.elim hk_ (fun hs_=>((Kd.R_types (Kd.R_apart' (Kd.R_apart' (HO794.out) (Kd.R_typed HO776.out) (by decide)) (Kd.R_typed HO779.out) (by decide)) BK791.out (by decide)).1 k_ hs_.symm).1.2) (fun hn_=>(Kd.fresh' (Kd.R_lt (by (with_reducible repeat (first|apply zo|apply zp|apply zq));exact HO779.out)) k_ hn_)),Or.elim hk_ (fun hs_=>((Kd.R_types (Kd.R_apart' (Kd.R_apart' (HO794.out) (Kd.R_typed HO776.out) (by decide)) (Kd.R_typed HO779.out) (by decide)) BK791.out (by decide)).1 k_ hs_.symm).1.1.1.2) (fun hn_=>(Kd.fresh' (Kd.R_lt (by (with_reducible repeat (first|apply zo|apply zp|apply zq));exact HO784.out)) k_ hn_)),Or.elim hk_ (fun hs_=>((Kd.R_types (Kd.R_apart' (Kd.R_apart' (HO794.out) (Kd.R_typed HO776.out) (by decide)) (Kd.R_typed HO779.out) (by decide)) BK791.out (by decide)).1 k_ hs_.symm).2) (fun hn_=>(Kd.freshB (g:=gb791) (o:=.cells #[.int .u64 t785, .int .u32 t786, .slice Ao28 t787.length co28] 26 (0,0)) (by (with_reducible repeat (first|refine zh ?_ _|refine zj ?_|refine zi ?_ _));exact BK791.out) k_ hn_))⟩)) (zE (by repeat (first|(with_reducible first|exact HB.out|apply ze|apply zd|apply zf|refine zk ?_ GE791.out)|exact HB.out))));have n6_:=zm (zF (g:=gb791) (o:=.cells #[.int .u64 t785, .int .u32 t786, .slice Ao28 t787.length co28] 26 (0,0)) (by (with_reducible repeat (first|refine zh ?_ _|refine zj ?_|refine zi ?_ _));exact BK791.out) hb);have n7_:=zm (zJ (by repeat (first|(with_reducible first|exact HB.out|apply ze|apply zd|apply zf|refine zk ?_ GE791.out)|exact HB.out)) hb);clear HO776;clear HO779;clear HO784;clear HO789;clear HO794;clear BK791;clear HB;have HO776:=n0_;have HO779:=n1_;have HO784:=n2_;have HO789:=n3_;have HO794:=n4_;have HO799:=n5_;have BK791:=n6_;have HB:=n7_;clear n0_ n1_ n2_ n3_ n4_ n5_ n6_ n7_;(try clear hb);(try clear hb2);(try clear hk);(try clear hi);(try clear ho0);obtain ⟨Ao32,co32,eo32⟩:=Kd.V_slice HO799.out;subst eo32)|((with_reducible refine gate_callee (f:=47) rfl ?_);refine goesL_ (some 22) rfl rfl Try.func47 (by kernel_rfl) rfl #[.agg #[.int .u64 t795, .int .u32 t796, .slice Ao32 t797.length co32, .int .i64 t800], .slice Ao24 y777.length co24, .bool false] rfl (by (try simp only [List.map_toArray,List.map_cons,List.map_nil]);first|done|rfl|(simp only [List.length_drop,List.length_take];rfl)) ?_;(with_reducible refine (gain_Take.calls k t795 t796 (fun k_=>(some k_≠(.slice Ao23 y774.length co23 : Value).ownBlock∧(some k_≠(.slice Ao24 y777.length co24 : Value).ownBlock∧(some k_≠(.slice Ao22 t782.length co22 : Value).ownBlock∧k_≠gb791)))) _ _ t797 t800 _ _ y777 false t801 t802 t803 t806 t807 t810 _ ?side1 ?side2 ?side3 A5.out).mono ?_);(case side1=>exact HO799.out);(case side2=>repeat (first|exact (Kd.R_reads' HO779.out).2.2|(with_reducible refine Kd.C_alloc ?_ _)|(with_reducible refine Kd.C_drewN ?_ _)|(with_reducible refine Kd.C_drew ?_)));(case side3=>exact (Kd.R_reads' HO779.out).2.1);rintro e w33 ⟨v804,v808,rfl,ho0,ho1,hb⟩;refine ⟨_,rfl, ?_⟩;have n0_:=zm (Kd.R_elder' (by (with_reducible repeat (first|apply zo|apply zp|apply zq));exact HO776.out) (Kd.R_base ho1) hb);have n1_:=zm (Kd.R_elder' (by (with_reducible repeat (first|apply zo|apply zp|apply zq));exact HO779.out) (Kd.R_base ho1) hb);have n2_:=zm (Kd.R_below (by (with_reducible repeat (first|apply zo|apply zp|apply zq));exact HO784.out) hb);have n3_:=zm (Kd.V_elder' (by (with_reducible repeat (first|apply zA|apply zB|apply zC));exact HO789.out) (Kd.R_base ho1) hb);have n4_:=zm (Kd.R_below (by (with_reducible repeat (first|apply zo|apply zp|apply zq));exact HO794.out) hb);have n5_:=zm (Kd.V_elder' (by (with_reducible repeat (first|apply zA|apply zB|apply zC));exact HO799.out) (Kd.R_base ho1) hb);have n6_:=zm (Kd.V_lower (zy (ok' := fun k_=>some k_≠(v808 : Value).ownBlock∧some k_≠(.slice Ao23 y774.length co23 : Value).ownBlock∧some k_≠(.slice Ao24 y777.length co24 : Value).ownBlock∧some k_≠(.slice Ao22 t782.length co22 : Value).ownBlock∧k_≠gb791) ho0 (fun k_ hk_=>⟨hk_.2,Or.elim hk_.1 (fun hs_=>hs_.1) (fun hn_=>(Kd.fresh' (Kd.R_lt (by (with_reducible repeat (first|apply zo|apply zp|apply zq));exact HO776.out)) k_ hn_)),Or.elim hk_.1 (fun hs_=>hs_.2.1) (fun hn_=>(Kd.fresh' (Kd.R_lt (by (with_reducible repeat (first|apply zo|apply zp|apply zq));exact HO779.out)) k_ hn_)),Or.elim hk_.1 (fun hs_=>hs_.2.2.1) (fun hn_=>(Kd.fresh' (Kd.R_lt (by (with_reducible repeat (first|apply zo|apply zp|apply zq));exact HO784.out)) k_ hn_)),Or.elim hk_.1 (fun hs_=>hs_.2.2.2) (fun hn_=>(Kd.freshB (g:=gb791) (o:=.cells #[.int .u64 t785, .int .u32 t786, .slice Ao28 t787.length co28] 26 (0,0)) (by (with_reducible repeat (first|refine zh ?_ _|refine zj ?_|refine zi ?_ _));exact BK791.out) k_ hn_))⟩)) (zE (by repeat (first|(with_reducible first|exact HB.out|apply ze|apply zd|apply zf|refine zk ?_ GE791.out)|exact HB.out))));have n7_:=zm (Kd.R_lower (Kd.R_new' (Kd.R_new' (zG (ok' := fun k_=>True) ho1 (fun _ hk_=>trivial)) (Kd.R_lt (by (with_reducible repeat (first|apply zo|apply zp|apply zq));exact HO776.out))) (Kd.R_lt (by (with_reducible repeat (first|apply zo|apply zp|apply zq));exact HO779.out))) (zE (by repeat (first|(with_reducible first|exact HB.out|apply ze|apply zd|apply zf|refine zk ?_ GE791.out)|exact HB.out))));have n8_:=zm (zF (g:=gb791) (o:=.cells #[.int .u64 t785, .int .u32 t786, .slice Ao28 t787.length co28] 26 (0,0)) (by (with_reducible repeat (first|refine zh ?_ _|refine zj ?_|refine zi ?_ _));exact BK791.out) hb);have n9_:=zm (zJ (by repeat (first|(with_reducible first|exact HB.out|apply ze|apply zd|apply zf|refine zk ?_ GE791.out)|exact HB.out)) hb);clear HO776;clear HO779;clear HO784;clear HO789;clear HO794;clear HO799;clear BK791;clear HB;have HO776:=n0_;have HO779:=n1_;have HO784:=n2_;have HO789:=n3_;have HO794:=n4_;have HO799:=n5_;have HO805:=n6_;have HO809:=n7_;have BK791:=n8_;have HB:=n9_;clear n0_ n1_ n2_ n3_ n4_ n5_ n6_ n7_ n8_ n9_;(try clear hb);(try clear hb2);(try clear hk);(try clear hi);(try clear ho0);(try clear ho1))|((with_reducible refine gate_dst (N:=5) rfl ?_);refine box_event ?hg (N:=5) ?hd (cs := #[.int .u64 0, .int .u32 0, .slice none 0 0, .int .i64 0]) (t:=43) ?hr ?_;(case hd=>rfl);(case hg=>rfl);(case hr=>first|(go_simp;done)|(go_simp;rfl));intro gb811 hg w34 hbox hb;have n0_:=zm (Kd.R_below (by (with_reducible repeat (first|apply zo|apply zp|apply zq));exact HO776.out) hb);have n1_:=zm (Kd.R_below (by (with_reducible repeat (first|apply zo|apply zp|apply zq));exact HO779.out) hb);have n2_:=zm (Kd.R_below (by (with_reducible repeat (first|apply zo|apply zp|apply zq));exact HO784.out) hb);have n3_:=zm (Kd.V_below (Kd.V_elderB (by (with_reducible repeat (first|apply zA|apply zB|apply zC));exact HO789.out) gb811 (Nat.le_of_eq hg.symm)) hb);have n4_:=zm (Kd.R_below (by (with_reducible repeat (first|apply zo|apply zp|apply zq));exact HO794.out) hb);have n5_:=zm (Kd.V_below (Kd.V_elderB (by (with_reducible repeat (first|apply zA|apply zB|apply zC));exact HO799.out) gb811 (Nat.le_of_eq hg.symm)) hb);have n6_:=zm (Kd.V_below (Kd.V_elderB (by (with_reducible repeat (first|apply zA|apply zB|apply zC));exact HO805.out) gb811 (Nat.le_of_eq hg.symm)) hb);have n7_:=zm (Kd.R_below (by (with_reducible repeat (first|apply zo|apply zp|apply zq));exact HO809.out) hb);have n8_:=zm (zF (g:=gb791) (o:=.cells #[.int .u64 t785, .int .u32 t786, .slice Ao28 t787.length co28] 26 (0,0)) (by (with_reducible repeat (first|refine zh ?_ _|refine zj ?_|refine zi ?_ _));exact BK791.out) hb);have n9_:=zm (zJ (by repeat (first|(with_reducible first|exact HB.out|apply ze|apply zd|apply zf|refine zk ?_ GE791.out)|exact HB.out)) hb);have n10_:=zm (hbox);have n11_:=zm ((by rw [hg];exact (zE (by repeat (first|(with_reducible first|exact HB.out|apply ze|apply zd|apply zf|refine zk ?_ GE791.out)|exact HB.out))) : w.heap.size≤gb811));have n12_:=zm ((by rw [hg];exact (zE (by repeat (first|(with_reducible first|exact HB.out|apply ze|apply zd|apply zf|refine zk ?_ GE791.out)|exact HB.out))) : w.heap.size≤gb811));have n13_:=zm ((by rw [hg];exact zn (zD (g:=gb791) (o:=.cells #[.int .u64 t785, .int .u32 t786, .slice Ao28 t787.length co28] 26 (0,0)) (by (with_reducible repeat (first|refine zh ?_ _|refine zj ?_|refine zi ?_ _));exact BK791.out)) : gb791≠gb811));have n14_:=zm ((by rw [hg];exact zg (zD (g:=gb791) (o:=.cells #[.int .u64 t785, .int .u32 t786, .slice Ao28 t787.length co28] 26 (0,0)) (by (with_reducible repeat (first|refine zh ?_ _|refine zj ?_|refine zi ?_ _));exact BK791.out)) : gb811≠gb791));clear HO776;clear HO779;clear HO784;clear HO789;clear HO794;clear HO799;clear HO805;clear HO809;clear BK791;clear HB;have HO776:=n0_;have HO779:=n1_;have HO784:=n2_;have HO789:=n3_;have HO794:=n4_;have HO799:=n5_;have HO805:=n6_;have HO809:=n7_;have BK791:=n8_;have HB:=n9_;have BK811:=n10_;have GW811:=n11_;have GE811:=n12_;have NB791_811:=n13_;have NB811_791:=n14_;clear n0_ n1_ n2_ n3_ n4_ n5_ n6_ n7_ n8_ n9_ n10_ n11_ n12_ n13_ n14_;clear hb hbox hg;have hnb35:=NB811_791.out;have hnc35:=NB791_811.out;have hcz36_0 : w34.cell? ⟨gb811,0,none⟩=some (.int .u64 0):=(zs BK811.out 0).trans rfl;have hcz36_1 : w34.cell? ⟨gb811,1,none⟩=some (.int .u32 0):=(zs BK811.out 1).trans rfl;have hcz36_2 : w34.cell? ⟨gb811,2,none⟩=some (.slice none 0 0):=(zs BK811.out 2).trans rfl;have hcz36_3 : w34.cell? ⟨gb811,3,none⟩=some (.int .i64 0):=(zs BK811.out 3).trans rfl;have hfz36_0:=zx BK811.out 0;have hfz36_1:=zx BK811.out 1;have hfz36_2:=zx BK811.out 2;have hfz36_3:=zx BK811.out 3;obtain ⟨Ao37,co37,eo37⟩:=Kd.V_slice HO805.out;subst eo37;obtain ⟨Ao38,co38,eo38⟩:=Kd.R_slice HO809.out;subst eo38)|(go_at_call 49;(with_reducible refine (psalteryref06_Same.calls k _ _ t807 _ _ y774 true _ ?side1 ?side2 ?side3 ?side4 A7.out).mono ?_);(case side1=>refine (Kd.R_reads' (e:=3) (base:=w.heap.size) (ok:=fun k_=>((True∧some k_≠(.slice Ao23 y774.length co23 : Value).ownBlock)∧some k_≠(.slice Ao24 y777.length co24 : Value).ownBlock)) (n:=t807.length) (c:=co38) ?_).2.2;exact (by (with_reducible repeat (first|apply zo|apply zp|apply zq));exact (zG (zH (p:=⟨gb811,3,none⟩) (zH (p:=⟨gb811,2,none⟩) (zH (p:=⟨gb811,1,none⟩) (zH (p:=⟨gb811,0,none⟩) (Kd.R_types HO809.out BK811.out (by decide)) (fun _ hk=>hk.2) (.int .u64 t801)) (fun _ hk=>hk.2) (.int .u32 t802)) (fun _ hk=>hk.2) (.slice Ao37 t803.length co37)) (fun _ hk=>hk.2) (.int .i64 t806)) (fun _ h_=>h_.1))));(case side2=>exact (Kd.R_reads' HO809.out).2.1);(case side3=>refine (Kd.R_reads' (e:=3) (base:=w.heap.size) (ok:=fun k_=>((True∧some k_≠(.slice Ao24 y777.length co24 : Value).ownBlock)∧some k_≠(.slice Ao38 t807.length co38 : Value).ownBlock)) (n:=y774.length) (c:=co23) ?_).2.2;exact (by (with_reducible repeat (first|apply zo|apply zp|apply zq));exact (zG (zH (p:=⟨gb811,3,none⟩) (zH (p:=⟨gb811,2,none⟩) (zH (p:=⟨gb811,1,none⟩) (zH (p:=⟨gb811,0,none⟩) (Kd.R_types HO776.out BK811.out (by decide)) (fun _ hk=>hk.2) (.int .u64 t801)) (fun _ hk=>hk.2) (.int .u32 t802)) (fun _ hk=>hk.2) (.slice Ao37 t803.length co37)) (fun _ hk=>hk.2) (.int .i64 t806)) (fun _ h_=>h_.1))));(case side4=>exact (Kd.R_reads' HO776.out).2.1);rintro e w' ⟨rfl,⟨nd,rfl⟩⟩)|(go_at_call 28;(with_reducible refine (coder_RightDec.calls t801 t802 _ _ t803 t806 true _ ?side1 ?side2 A10.out).mono ?_);(case side1=>refine (Kd.V_reads' (e:=5) (base:=w.heap.size) (ok:=fun k_=>((some k_≠(.slice Ao38 t807.length co38 : Value).ownBlock∧(some k_≠(.slice Ao23 y774.length co23 : Value).ownBlock∧(some k_≠(.slice Ao24 y777.length co24 : Value).ownBlock∧(some k_≠(.slice Ao22 t782.length co22 : Value).ownBlock∧k_≠gb791))))∧k_≠gb811)) (n:=t803.length) (c:=co37) ?_).2.2;exact (by (with_reducible repeat (first|apply zA|apply zB|apply zC));exact (zy (zI (p:=⟨gb811,3,none⟩) (zI (p:=⟨gb811,2,none⟩) (zI (p:=⟨gb811,1,none⟩) (zI (p:=⟨gb811,0,none⟩) (zy HO805.out (fun k_ hk=>(⟨hk,hk.2⟩ : _∧k_≠gb811))) (fun _ hk=>hk.2) (.int .u64 t801)) (fun _ hk=>hk.2) (.int .u32 t802)) (fun _ hk=>hk.2) (.slice Ao37 t803.length co37)) (fun _ hk=>hk.2) (.int .i64 t806)) (fun _ h_=>h_.1))));(case side2=>exact (Kd.V_reads' HO805.out).2.1);rintro e w39 ⟨rfl,hb⟩;have n0_:=zm (Kd.R_below (by (with_reducible repeat (first|apply zo|apply zp|apply zq));exact (zG (zH (p:=⟨gb811,3,none⟩) (zH (p:=⟨gb811,2,none⟩) (zH (p:=⟨gb811,1,none⟩) (zH (p:=⟨gb811,0,none⟩) (Kd.R_types HO776.out BK811.out (by decide)) (fun _ hk=>hk.2) (.int .u64 t801)) (fun _ hk=>hk.2) (.int .u32 t802)) (fun _ hk=>hk.2) (.slice Ao37 t803.length co37)) (fun _ hk=>hk.2) (.int .i64 t806)) (fun _ h_=>h_.1))) hb);have n1_:=zm (Kd.R_below (by (with_reducible repeat (first|apply zo|apply zp|apply zq));exact (zG (zH (p:=⟨gb811,3,none⟩) (zH (p:=⟨gb811,2,none⟩) (zH (p:=⟨gb811,1,none⟩) (zH (p:=⟨gb811,0,none⟩) (Kd.R_types HO779.out BK811.out (by decide)) (fun _ hk=>hk.2) (.int .u64 t801)) (fun _ hk=>hk.2) (.int .u32 t802)) (fun _ hk=>hk.2) (.slice Ao37 t803.length co37)) (fun _ hk=>hk.2) (.int .i64 t806)) (fun _ h_=>h_.1))) hb);have n2_:=zm (Kd.R_below (by (with_reducible repeat (first|apply zo|apply zp|apply zq));exact (zG (zH (p:=⟨gb811,3,none⟩) (zH (p:=⟨gb811,2,none⟩) (zH (p:=⟨gb811,1,none⟩) (zH (p:=⟨gb811,0,none⟩) (Kd.R_types HO784.out BK811.out (by decide)) (fun _ hk=>hk.2) (.int .u64 t801)) (fun _ hk=>hk.2) (.int .u32 t802)) (fun _ hk=>hk.2) (.slice Ao37 t803.length co37)) (fun _ hk=>hk.2) (.int .i64 t806)) (fun _ h_=>h_.1))) hb);have n3_:=zm (Kd.V_below (by (with_reducible repeat (first|apply zA|apply zB|apply zC));exact (zy (zI (p:=⟨gb811,3,none⟩) (zI (p:=⟨gb811,2,none⟩) (zI (p:=⟨gb811,1,none⟩) (zI (p:=⟨gb811,0,none⟩) (zy HO789.out (fun k_ hk=>(⟨hk,hk.2⟩ : _∧k_≠gb811))) (fun _ hk=>hk.2) (.int .u64 t801)) (fun _ hk=>hk.2) (.int .u32 t802)) (fun _ hk=>hk.2) (.slice Ao37 t803.length co37)) (fun _ hk=>hk.2) (.int .i64 t806)) (fun _ h_=>h_.1))) hb);have n4_:=zm (Kd.R_below (by (with_reducible repeat (first|apply zo|apply zp|apply zq));exact (zG (zH (p:=⟨gb811,3,none⟩) (zH (p:=⟨gb811,2,none⟩) (zH (p:=⟨gb811,1,none⟩) (zH (p:=⟨gb811,0,none⟩) (Kd.R_types HO794.out BK811.out (by decide)) (fun _ hk=>hk.2) (.int .u64 t801)) (fun _ hk=>hk.2) (.int .u32 t802)) (fun _ hk=>hk.2) (.slice Ao37 t803.length co37)) (fun _ hk=>hk.2) (.int .i64 t806)) (fun _ h_=>h_.1))) hb);have n5_:=zm (Kd.V_below (by (with_reducible repeat (first|apply zA|apply zB|apply zC));exact (zy (zI (p:=⟨gb811,3,none⟩) (zI (p:=⟨gb811,2,none⟩) (zI (p:=⟨gb811,1,none⟩) (zI (p:=⟨gb811,0,none⟩) (zy HO799.out (fun k_ hk=>(⟨hk,hk.2⟩ : _∧k_≠gb811))) (fun _ hk=>hk.2) (.int .u64 t801)) (fun _ hk=>hk.2) (.int .u32 t802)) (fun _ hk=>hk.2) (.slice Ao37 t803.length co37)) (fun _ hk=>hk.2) (.int .i64 t806)) (fun _ h_=>h_.1))) hb);have n6_:=zm (Kd.V_below (by (with_reducible repeat (first|apply zA|apply zB|apply zC));exact (zy (zI (p:=⟨gb811,3,none⟩) (zI (p:=⟨gb811,2,none⟩) (zI (p:=⟨gb811,1,none⟩) (zI (p:=⟨gb811,0,none⟩) (zy HO805.out (fun k_ hk=>(⟨hk,hk.2⟩ : _∧k_≠gb811))) (fun _ hk=>hk.2) (.int .u64 t801)) (fun _ hk=>hk.2) (.int .u32 t802)) (fun _ hk=>hk.2) (.slice Ao37 t803.length co37)) (fun _ hk=>hk.2) (.int .i64 t806)) (fun _ h_=>h_.1))) hb);have n7_:=zm (Kd.R_below (by (with_reducible repeat (first|apply zo|apply zp|apply zq));exact (zG (zH (p:=⟨gb811,3,none⟩) (zH (p:=⟨gb811,2,none⟩) (zH (p:=⟨gb811,1,none⟩) (zH (p:=⟨gb811,0,none⟩) (Kd.R_types HO809.out BK811.out (by decide)) (fun _ hk=>hk.2) (.int .u64 t801)) (fun _ hk=>hk.2) (.int .u32 t802)) (fun _ hk=>hk.2) (.slice Ao37 t803.length co37)) (fun _ hk=>hk.2) (.int .i64 t806)) (fun _ h_=>h_.1))) hb);have n8_:=zm (zF (g:=gb791) (o:=.cells #[.int .u64 t785, .int .u32 t786, .slice Ao28 t787.length co28] 26 (0,0)) (by (with_reducible repeat (first|refine zh ?_ _|refine zj ?_|refine zi ?_ _|refine zv ?_ NB791_811.out _));exact BK791.out) hb);have n9_:=zm (zF (g:=gb811) (o:=.cells #[.int .u64 t801, .int .u32 t802, .slice Ao37 t803.length co37, .int .i64 t806] 43 (0,0)) (by (with_reducible repeat (first|refine zh ?_ _|refine zj ?_|refine zi ?_ _));refine zw (cs := #[.int .u64 t801, .int .u32 t802, .slice Ao37 t803.length co37, .int .i64 0]) ?_ 3 _ rfl;(with_reducible repeat (first|refine zh ?_ _|refine zj ?_|refine zi ?_ _));refine zw (cs := #[.int .u64 t801, .int .u32 t802, .slice none 0 0, .int .i64 0]) ?_ 2 _ rfl;(with_reducible repeat (first|refine zh ?_ _|refine zj ?_|refine zi ?_ _));refine zw (cs := #[.int .u64 t801, .int .u32 0, .slice none 0 0, .int .i64 0]) ?_ 1 _ rfl;(with_reducible repeat (first|refine zh ?_ _|refine zj ?_|refine zi ?_ _));refine zw (cs := #[.int .u64 0, .int .u32 0, .slice none 0 0, .int .i64 0]) ?_ 0 _ rfl;(with_reducible repeat (first|refine zh ?_ _|refine zj ?_|refine zi ?_ _));exact BK811.out) hb);have n10_:=zm (zJ (by repeat (first|(with_reducible first|exact HB.out|apply ze|apply zd|apply zf|refine zk ?_ GE791.out|refine zk ?_ GE811.out)|exact HB.out)) hb);clear HO776;clear HO779;clear HO784;clear HO789;clear HO794;clear HO799;clear HO805;clear HO809;clear BK791;clear BK811;clear HB;have HO776:=n0_;have HO779:=n1_;have HO784:=n2_;have HO789:=n3_;have HO794:=n4_;have HO799:=n5_;have HO805:=n6_;have HO809:=n7_;have BK791:=n8_;have BK811:=n9_;have HB:=n10_;clear n0_ n1_ n2_ n3_ n4_ n5_ n6_ n7_ n8_ n9_ n10_;(try clear hb);(try clear hb2);(try clear hk);(try clear hi))|(go_at_call 50;(with_reducible refine (gain_Most.calls true t814 _ A12.out).mono ?_);rintro e w' ⟨rfl,⟨nd,rfl⟩⟩)|(go_at_call 50;(with_reducible refine (gain_Most.calls false t815 _ A14.out).mono ?_);rintro e w' ⟨rfl,⟨nd,rfl⟩⟩)|(go_at_call 45;(with_reducible refine (gain_Right.calls k _ _ y774 t816 _ ?side1 ?side2 A16.out).mono ?_);(case side1=>repeat (first|exact (Kd.R_reads' HO776.out).2.2|(with_reducible refine Kd.C_alloc ?_ _)|(with_reducible refine Kd.C_drewN ?_ _)|(with_reducible refine Kd.C_drew ?_)));(case side2=>exact (Kd.R_reads' HO776.out).2.1);rintro e w' ⟨rfl,⟨nd,rfl⟩⟩))
       go_ret
       exact ⟨by first|rfl|(simp [errW_none,errW_some] <;> rfl)|(simp [*,errW_none,errW_some] <;> rfl),by repeat (first|(with_reducible first|exact HB.out|apply ze|apply zd|apply zf|refine zk ?_ GE791.out|refine zk ?_ GE811.out)|exact HB.out)⟩
      ·
       rw [if_neg c15] at H
       exact absurd H (by simp)
     ·
      rw [if_neg c13] at H
      exact absurd H (by simp)
    ·
     replace c11:=Bool.eq_false_iff.mpr c11
     subst c11
     have H1 : (none)=some r:=by rw [if_neg (show ¬ (false=true) by decide)] at H;exact H
     clear H;have H:=H1;clear H1
     exact absurd H (by simp)
   ·
    rw [if_neg c9] at H
    exact absurd H (by simp)
  ·
   replace c8:=Bool.eq_false_iff.mpr c8
   subst c8
   have H1 : (none)=some r:=by rw [if_neg (show ¬ (false=true) by decide)] at H;exact H
   clear H;have H:=H1;clear H1
   exact absurd H (by simp)
 ·
  rw [if_neg c6] at H
  exact absurd H (by simp)

end Go.Proofs.Ytkaoiblgfpphoaa.Prt

namespace Go.Proofs.Ytkaoiblgfpphoaa.Prt
open Go.RowKit Go.Proofs.YtkaoiblgfpphoaaW.PrintWords Go.Proofs.YtkaoiblgfpphoaaW.PrintLast Go.Proofs.YtkaoiblgfpphoaaW.PrintMore
attribute [local go_sem] max2_int min2_int max_two min_two max_three min_three max_four min_four   -- for this text's walks alone
set_option linter.unusedVariables false
set_option linter.unusedSimpArgs false

/-! ### psalteryref05_Fair: function 35 -/
def psalteryref05_Fair.f (a0 : Int) (a1 : Int) (a2 : Int) : Option (Bool):=if a0 ≥ 0 then (if a1 > a0 then (if a2 ≥ a1 then (some (decide (a2≤65536))) else (some false)) else (some false)) else (some false)
set_option maxHeartbeats 8000000 in
set_option maxRecDepth 100000 in
theorem psalteryref05_Fair.calls (a0 : Int) (a1 : Int) (a2 : Int) (r : Bool) (w : World) (h : psalteryref05_Fair.f a0 a1 a2=some r) :
  Calls Try.prog 35 #[.int .i64 a0, .int .i64 a1, .int .i64 a2] w fun e w' => e=.returned (.bool r)∧Drawn0 w w' := by
 have H : (if a0 ≥ 0 then (if a1 > a0 then (if a2 ≥ a1 then (some (decide (a2≤65536))) else (some false)) else (some false)) else (some false))=some r:=h
 clear h
 by_cases c4 : a0 ≥ 0
 ·
  rw [if_pos c4] at H
  have c4b0 : decide (0≤a0)=true:=decide_eq_true c4
  clear c4
  by_cases c5 : a1 > a0
  ·
   rw [if_pos c5] at H
   have c5b0 : decide (a0 < a1)=true:=decide_eq_true c5
   clear c5
   by_cases c6 : a2 ≥ a1
   ·
    rw [if_pos c6] at H
    have c6b0 : decide (a1≤a2)=true:=decide_eq_true c6
    clear c6
    obtain rfl:=Option.some.inj H
    go_enter Try.func35,Try.ntmps35
    go_wp2
    go_ret
    exact ⟨by first|rfl|(simp;done)|(simp [*];done),by repeat (first|exact Drawn0.refl _|apply Drawn0.step)⟩
   ·
    rw [if_neg c6] at H
    have c6b0 : decide (a1≤a2)=false:=decide_eq_false c6
    clear c6
    obtain rfl:=Option.some.inj H
    go_enter Try.func35,Try.ntmps35
    go_wp2
    go_ret
    exact ⟨by first|rfl|(simp;done)|(simp [*];done),by repeat (first|exact Drawn0.refl _|apply Drawn0.step)⟩
  ·
   rw [if_neg c5] at H
   have c5b0 : decide (a0 < a1)=false:=decide_eq_false c5
   clear c5
   obtain rfl:=Option.some.inj H
   go_enter Try.func35,Try.ntmps35
   go_wp2
   go_ret
   exact ⟨by first|rfl|(simp;done)|(simp [*];done),by repeat (first|exact Drawn0.refl _|apply Drawn0.step)⟩
 ·
  rw [if_neg c4] at H
  have c4b0 : decide (0≤a0)=false:=decide_eq_false c4
  clear c4
  obtain rfl:=Option.some.inj H
  go_enter Try.func35,Try.ntmps35
  go_wp2
  go_ret
  exact ⟨by first|rfl|(simp;done)|(simp [*];done),by repeat (first|exact Drawn0.refl _|apply Drawn0.step)⟩

end Go.Proofs.Ytkaoiblgfpphoaa.Prt

namespace Go.Proofs.Ytkaoiblgfpphoaa.Prt
open Go.RowKit Go.Proofs.YtkaoiblgfpphoaaW.PrintWords Go.Proofs.YtkaoiblgfpphoaaW.PrintLast Go.Proofs.YtkaoiblgfpphoaaW.PrintMore
attribute [local go_sem] max2_int min2_int max_two min_two max_three min_three max_four min_four   -- for this text's walks alone
set_option linter.unusedVariables false
set_option linter.unusedSimpArgs false

/-! ### psalteryref05_add: function 56 -/
def psalteryref05_add.l0 : Nat→Int→List Int→Int→Option (List Int)
 | 0,_,_,_=>none
 | k+1,x1,x5,x6=>if x6 ≥ 0 then (if 0≤x6 then (if x6 < (x5.length : Int) then (psalteryref05_add.l0 k (IntKind.u64.wrap (Int.tdiv (IntKind.u64.wrap (x1+(IntKind.u64.wrap (rd x5 x6)))) 256)) (x5.set (x6 : Int).toNat (wrap64 (Int.tmod (IntKind.u64.wrap (x1+(IntKind.u64.wrap (rd x5 x6)))) 256))) (wrap64 (x6 - 1))) else (none)) else (none)) else (some x5)
def psalteryref05_add.f (k : Nat) (l0 : List Int) (a1 : Int) : Option (List Int):=(some (([] : List Int) : List Int)).bind fun y201=>(if y201.length+l0.length < 17592186044416 then ((some (y201 ++ l0 : List Int)).bind fun y204=>(psalteryref05_add.l0 k a1 y204 (wrap64 ((y204.length : Int) - 1)))) else (none))
theorem psalteryref05_add.mono_l : ∀ k,(∀ y0 y1 y2,LeO (psalteryref05_add.l0 k y0 y1 y2) (psalteryref05_add.l0 (k+1) y0 y1 y2))
 | 0=>fun _ _ _ r h=>by simp [psalteryref05_add.l0] at h
 | k+1=>by
  have ih0:=psalteryref05_add.mono_l k
  ·
   intro y0 y1 y2
   unfold psalteryref05_add.l0
   repeat' first
   | (with_reducible exact ih0 _ _ _)
   | (with_reducible exact LeO.refl _)
   | (with_reducible exact LeO.none _)
   | (with_reducible refine LeO.ite ?_ ?_)
   | (with_reducible refine LeO.bind ?_ (fun _ => ?_))
   | exact ih0 _ _ _
   | exact LeO.none _
   | refine LeO.ite ?_ ?_
   | refine LeO.bind ?_ (fun _ => ?_)
theorem psalteryref05_add.mono : ∀ a0 a1 k,LeO (psalteryref05_add.f k a0 a1) (psalteryref05_add.f (k+1) a0 a1):=by
 intro a0 a1 k
 have ih0:=psalteryref05_add.mono_l k
 unfold psalteryref05_add.f
 repeat' first
   | (with_reducible exact ih0 _ _ _)
   | (with_reducible exact LeO.refl _)
   | (with_reducible exact LeO.none _)
   | (with_reducible refine LeO.ite ?_ ?_)
   | (with_reducible refine LeO.bind ?_ (fun _ => ?_))
   | exact ih0 _ _ _
   | exact LeO.none _
   | refine LeO.ite ?_ ?_
   | refine LeO.bind ?_ (fun _ => ?_)
set_option maxHeartbeats 8000000 in
set_option maxRecDepth 100000 in
theorem psalteryref05_add.calls (k : Nat) (A0 : Option Addr) (c0 : Nat) (l0 : List Int) (a1 : Int) (r : List Int) (w : World) (hr0 : Kd.C (Kd.int .i64) w A0 l0.length l0) (hc0 : l0.length≤c0) (h : psalteryref05_add.f k l0 a1=some r) :
  Calls Try.prog 56 #[.slice A0 l0.length c0, .int .u64 a1] w fun e w' => ∃ v0_ : Value,e=.returned (v0_)∧Kd.R (Kd.int .i64) 3 w' w.heap.size (fun _=>True) v0_ r∧Below w.heap.size w w' := by
 have HR0:=zm hr0;have HC0:=zm hc0;clear hr0 hc0;have HB:=zm (Below.refl w.heap.size w)
 have H : ((some (([] : List Int) : List Int)).bind fun y201=>(if y201.length+l0.length < 17592186044416 then ((some (y201 ++ l0 : List Int)).bind fun y204=>(psalteryref05_add.l0 k a1 y204 (wrap64 ((y204.length : Int) - 1)))) else (none)))=some r:=h
 clear h
 obtain ⟨y201,hy201⟩ : ∃ y_ : List Int,y_=(([] : List Int)):=⟨_,rfl⟩
 replace H : (if y201.length+l0.length < 17592186044416 then ((some (y201 ++ l0 : List Int)).bind fun y204=>(psalteryref05_add.l0 k a1 y204 (wrap64 ((y204.length : Int) - 1)))) else (none))=some r:=by first|(rw [hy201];with_reducible exact H)|(have H2_:=(Option.bind_some _ _).symm.trans H;rw [hy201];with_reducible exact H2_)|(have H2_:=(Option.bind_some _ _).symm.trans H;with_reducible exact H2_)|with_reducible exact H|(rw [hy201];exact H)|exact H
 have Ny201:=zm hy201;clear hy201
 by_cases c3 : y201.length+l0.length < 17592186044416
 ·
  rw [if_pos c3] at H
  have LMc3:=zm c3;clear c3
  obtain ⟨y204,hy204⟩ : ∃ y_ : List Int,y_=(y201 ++ l0):=⟨_,rfl⟩
  replace H : (psalteryref05_add.l0 k a1 y204 (wrap64 ((y204.length : Int) - 1)))=some r:=by first|(rw [hy204];with_reducible exact H)|(have H2_:=(Option.bind_some _ _).symm.trans H;rw [hy204];with_reducible exact H2_)|(have H2_:=(Option.bind_some _ _).symm.trans H;with_reducible exact H2_)|with_reducible exact H|(rw [hy204];exact H)|exact H
  have Ny204:=zm hy204;clear hy204
  have H' := zm H
  clear H
  go_enter Try.func56,Try.ntmps56
  go_wp2_with (first|((with_reducible refine gate_dst (N:=7) rfl ?_);refine Kd.R_lit (Kd.int .i64) _ 3 ?hg (N:=7) ?hd (xs:=([] : List Int)) (inner := []) (ok:=fun _=>True) (okp:=fun _=>True) ?hr ?hp (fun _ hk=>hk) trivial (Below.refl _ _) (Nat.le_refl _) (by simp) ?_;(case hd=>rfl);(case hg=>rfl);(case hr=>first|(go_simp;done)|(go_simp;rfl));(case hp=>exact (Reps.none _ _));intro v202 w4 ho5 hb hg_ hnew_;clear hg_ hnew_;(first|rw [← Ny201.out] at ho5|(simp only [Int.reduceToNat] at ho5;rw [← Ny201.out] at ho5));have n0_:=zm (Kd.R_lower ho5 (zE (by repeat (first|(with_reducible first|exact HB.out|apply ze|apply zd|apply zf)|exact HB.out))));have n1_:=zm (zJ (by repeat (first|(with_reducible first|exact HB.out|apply ze|apply zd|apply zf)|exact HB.out)) hb);clear HB;have HO203:=n0_;have HB:=n1_;clear n0_ n1_;clear hb ho5)|((with_reducible refine gate_builtin (b:=.append) (xs := #[.tmp 7, .tmp 8]) rfl ?_);at_builtin;refine Kd.R_append_rows (Kd.int .i64) (w0:=w) w.heap.size rfl (.tmp 7) (.tmp 8) 31 3 (.int .i64 0) 8 rfl Try.underlying31 info3 rfl (by decide) (by omega) v202 y201 l0 _ _ _ (fun _=>True) (fun _=>False) rfl rfl ?aO ?aR (fun _ _ h=>h) (fun _ h=>h.elim) ?aF ?aB ?aS ?aL ?_;(case aR=>repeat (first|exact (Kd.C_below HR0.out HB.out)|(with_reducible refine Kd.C_alloc ?_ _)|(with_reducible refine Kd.C_drewN ?_ _)|(with_reducible refine Kd.C_drew ?_)));(case aB=>exact (by repeat (first|(with_reducible first|exact HB.out|apply ze|apply zd|apply zf)|exact HB.out)));(case aF=>exact (fun _ _=>trivial));(case aO=>exact (by (with_reducible repeat (first|apply zo|apply zp|apply zq));exact HO203.out));(case aS=>exact (zE (by repeat (first|(with_reducible first|exact HB.out|apply ze|apply zd|apply zf)|exact HB.out))));(case aL=>have:=LMc3.out;omega);intro v205 w6 ho hb hg hat;rw [← Ny204.out] at ho;have n0_:=zm (hb);have n1_:=zm (ho);clear HB;clear HO203;have HB:=n0_;have HO206:=n1_;clear n0_ n1_;clear ho hb hg hat;obtain ⟨Ao7,co7,eo7⟩:=Kd.R_slice HO206.out;subst eo7))
  go_loopg [1,6] k (fun kq v1 v6 w' => ∃ (x1_1 : Int) (x5_1 : List Int) (x6_1 : Int),v1=.int .u64 x1_1∧v6=.int .i64 x6_1∧Aside0 (psalteryref05_add.l0 kq x1_1 x5_1 x6_1=some r)∧Aside0 (kq≤k)∧Aside0 (Kd.R (Kd.int .i64) 3 w' w.heap.size (fun _=>True) (.slice Ao7 y204.length co7) x5_1)∧Aside0 (Below w.heap.size w w'))
  case atStart=>exact ⟨(a1),(y204),(wrap64 ((y204.length : Int) - 1)),(by first|rfl|(simp;done)|(simp [*];done)),(by first|rfl|(simp;done)|(simp [*];done)),H',⟨Nat.le_refl _⟩,⟨by (with_reducible repeat (first|apply zo|apply zp|apply zq));exact HO206.out⟩,⟨by repeat (first|(with_reducible first|exact HB.out|apply ze|apply zd|apply zf)|exact HB.out)⟩⟩
  case round =>
   clear H'
   try clear p2
   try clear c3
   try clear c5
   try clear p6
   obtain ⟨x1_1,x5_1,x6_1,rfl,rfl,HA,HK1,HO_5,HB⟩:=hrel
   have hl5_1:=(Kd.R_reads' HO_5.out).1
   rw [hl5_1] at HO_5
   (try simp only [hl5_1])
   cases gk with
   | zero=>exact absurd HA.out (by simp [psalteryref05_add.l0])
   | succ k1 =>
    have H:=HA.out;clear HA
    simp only [psalteryref05_add.l0] at H
    by_cases c8 : x6_1 ≥ 0
    ·
     rw [if_pos c8] at H
     have c8b0 : decide (0≤x6_1)=true:=decide_eq_true c8
     clear c8
     by_cases c9 : 0≤x6_1
     ·
      rw [if_pos c9] at H
      have c9b0 : decide (0≤x6_1)=true:=decide_eq_true c9
      clear c9
      by_cases c10 : x6_1 < (x5_1.length : Int)
      ·
       rw [if_pos c10] at H
       have c10b0 : decide (x6_1 < (x5_1.length : Int))=true:=decide_eq_true c10
       clear c10
       obtain ⟨y208,hy208⟩ : ∃ y_ : List Int,y_=(x5_1.set (x6_1 : Int).toNat (wrap64 (Int.tmod (IntKind.u64.wrap (x1_1+(IntKind.u64.wrap (rd x5_1 x6_1)))) 256))):=⟨_,rfl⟩
       replace H : (psalteryref05_add.l0 k1 (IntKind.u64.wrap (Int.tdiv (IntKind.u64.wrap (x1_1+(IntKind.u64.wrap (rd x5_1 x6_1)))) 256)) y208 (wrap64 (x6_1 - 1)))=some r:=by first|(rw [hy208];with_reducible exact H)|(have H2_:=(Option.bind_some _ _).symm.trans H;rw [hy208];with_reducible exact H2_)|(have H2_:=(Option.bind_some _ _).symm.trans H;with_reducible exact H2_)|with_reducible exact H|(rw [hy208];exact H)|exact H
       have Ny208:=zm hy208;clear hy208
       have H' := zm H
       clear H
       have p207 : 0≤(x6_1 : Int):=of_decide_eq_true (by first|(with_reducible assumption)|assumption)
       have q207 : x6_1 < (x5_1.length : Int):=of_decide_eq_true (by first|(with_reducible assumption)|assumption)
       obtain ⟨ad207,e207,hx207_0⟩:=Kd.at_int (Kd.R_reads' HO_5.out).2.2 x6_1 p207 q207
       cases e207
       replace p207:=eq_true p207
       replace q207:=eq_true q207
       have p11 : 0≤(x6_1 : Int):=of_decide_eq_true (by first|(with_reducible assumption)|assumption)
       have q11 : (x6_1 : Int) < ((x5_1.length : Int) : Int):=of_decide_eq_true (by first|(with_reducible assumption)|assumption)
       obtain ⟨go11,co11,eo11,gb11,gl11,cl11,HG11⟩:=Kd.R_form HO_5.out (by omega)
       (first|cases eo11|(injection eo11 with ea_ en_ ec_;(first|subst ea_|(injection ea_ with ea_;subst ea_));subst ec_;clear en_))
       have GB11:=zm gb11;have GG11:=zm HG11;clear gb11 gl11 HG11
       (first|simp only [add_plain] at hx207_0|skip)
       obtain ⟨hx11_0,hf11_0⟩:=Kd.R_celln 0 HO_5.out (x6_1 : Int) p11 q11
       replace p11:=eq_true p11
       replace q11:=eq_true q11
       have HP12:=Kd.R_putg HO_5.out (x6_1 : Int) (wrap64 (Int.tmod (IntKind.u64.wrap (x1_1+(IntKind.u64.wrap (rd x5_1 x6_1)))) 256))
       go_wp2_with (first|((with_reducible refine gate_store (t:=3) (p:=29) rfl ?_);refine store_event (t:=3) (p:=29) (v := ?vo_w13) (w1:=(wr.setCell ⟨go11,(x6_1 : Int).toNat,none⟩ (.int .i64 (wrap64 (Int.tmod (IntKind.u64.wrap (x1_1+(IntKind.u64.wrap (rd x5_1 x6_1)))) 256))))) ?hg ?ho ?hn ?hr ?_;(case ho=>rfl);(case hg=>rfl);(case hn=>rfl);(case hr=>first|(go_simp;done)|(go_simp;rfl));intro w13 hw;have hg : wr.grownBy w13 (some go11):=(by rw [hw];exact HP12.2);have hp_ : Kd.R (Kd.int .i64) 3 w13 w.heap.size (fun _=>True) (.slice (some ⟨go11,0,none⟩) x5_1.length co7) y208:=(by rw [hw,Ny208.out];exact HP12.1);clear HP12;have n0_:=zm (hp_);have n1_:=zm ((by rw [hw];exact zk (HB.out) GB11.out : Below w.heap.size w w13));clear HO_5;clear HB;have HO_5:=n0_;have HB:=n1_;clear n0_ n1_;clear hg hw hp_))
       (try simp only [← hl5_1])
       go_roundg k1
       case measure=>have:=HK1.out;omega
       case rel=>exact ⟨(IntKind.u64.wrap (Int.tdiv (IntKind.u64.wrap (x1_1+(IntKind.u64.wrap (rd x5_1 x6_1)))) 256)),(y208),(wrap64 (x6_1 - 1)),(by first|rfl|(simp;done)|(simp [*];done)),(by first|rfl|(simp;done)|(simp [*];done)),H',⟨by have:=HK1.out;omega⟩,⟨by (try simp only [hl5_1]);(with_reducible repeat (first|apply zo|apply zp|apply zq));exact HO_5.out⟩,⟨by repeat (first|(with_reducible first|exact HB.out|apply ze|apply zd|apply zf)|exact HB.out)⟩⟩
      ·
       rw [if_neg c10] at H
       exact absurd H (by simp)
     ·
      rw [if_neg c9] at H
      exact absurd H (by simp)
    ·
     rw [if_neg c8] at H
     have c8b0 : decide (0≤x6_1)=false:=decide_eq_false c8
     clear c8
     obtain rfl:=Option.some.inj H
     go_wp2
     go_ret
     exact ⟨_,by first|rfl|(simp [errW_none,errW_some] <;> rfl)|(simp [*,errW_none,errW_some] <;> rfl),by (with_reducible repeat (first|apply zo|apply zp|apply zq));exact HO_5.out,by repeat (first|(with_reducible first|exact HB.out|apply ze|apply zd|apply zf)|exact HB.out)⟩
 ·
  rw [if_neg c3] at H
  exact absurd H (by simp)

end Go.Proofs.Ytkaoiblgfpphoaa.Prt

namespace Go.Proofs.Ytkaoiblgfpphoaa.Prt
open Go.RowKit Go.Proofs.YtkaoiblgfpphoaaW.PrintWords Go.Proofs.YtkaoiblgfpphoaaW.PrintLast Go.Proofs.YtkaoiblgfpphoaaW.PrintMore
attribute [local go_sem] max2_int min2_int max_two min_two max_three min_three max_four min_four   -- for this text's walks alone
set_option linter.unusedVariables false
set_option linter.unusedSimpArgs false

/-! ### psalteryref05_part: function 55 -/
def psalteryref05_part.f (a0 : Int) (a1 : Int) (a2 : Int) (a3 : Int) : Option (Int × Int):=if (IntKind.u64.wrap (a3))=0 then (none) else (if a2=a3 then (some (IntKind.u64.wrap (a0 - (IntKind.u64.wrap ((IntKind.u64.wrap (Int.tdiv a0 (IntKind.u64.wrap (a3)))) * (IntKind.u64.wrap (a1))))),IntKind.u64.wrap ((IntKind.u64.wrap (Int.tdiv a0 (IntKind.u64.wrap (a3)))) * (IntKind.u64.wrap (a1))))) else (some (IntKind.u64.wrap ((IntKind.u64.wrap (Int.tdiv a0 (IntKind.u64.wrap (a3)))) * (IntKind.u64.wrap (wrap64 (a2 - a1)))),IntKind.u64.wrap ((IntKind.u64.wrap (Int.tdiv a0 (IntKind.u64.wrap (a3)))) * (IntKind.u64.wrap (a1))))))
set_option maxHeartbeats 8000000 in
set_option maxRecDepth 100000 in
theorem psalteryref05_part.calls (a0 : Int) (a1 : Int) (a2 : Int) (a3 : Int) (r1 : Int) (r2 : Int) (w : World) (h : psalteryref05_part.f a0 a1 a2 a3=some (r1,r2)) :
  Calls Try.prog 55 #[.int .u64 a0, .int .i64 a1, .int .i64 a2, .int .i64 a3] w fun e w' => e=.returned (.tuple #[.int .u64 r1, .int .u64 r2])∧Drawn0 w w' := by
 have H : (if (IntKind.u64.wrap (a3))=0 then (none) else (if a2=a3 then (some (IntKind.u64.wrap (a0 - (IntKind.u64.wrap ((IntKind.u64.wrap (Int.tdiv a0 (IntKind.u64.wrap (a3)))) * (IntKind.u64.wrap (a1))))),IntKind.u64.wrap ((IntKind.u64.wrap (Int.tdiv a0 (IntKind.u64.wrap (a3)))) * (IntKind.u64.wrap (a1))))) else (some (IntKind.u64.wrap ((IntKind.u64.wrap (Int.tdiv a0 (IntKind.u64.wrap (a3)))) * (IntKind.u64.wrap (wrap64 (a2 - a1)))),IntKind.u64.wrap ((IntKind.u64.wrap (Int.tdiv a0 (IntKind.u64.wrap (a3)))) * (IntKind.u64.wrap (a1)))))))=some (r1,r2):=h
 clear h
 by_cases c5 : (IntKind.u64.wrap (a3))=0
 ·
  rw [if_pos c5] at H
  exact absurd H (by simp)
 ·
  rw [if_neg c5] at H
  have c5b0 : ((IntKind.u64.wrap (a3)) == 0)=false:=beq_eq_false_iff_ne.mpr c5
  have c5b1 : ((IntKind.u64.wrap (a3)) != 0)=true:=bne_iff_ne.mpr c5
  by_cases c6 : a2=a3
  ·
   rw [if_pos c6] at H
   have c6b0 : (a2 == a3)=true:=beq_iff_eq.mpr c6
   have c6b1 : (a2 != a3)=false:=bne_eq_false_iff_eq.mpr c6
   clear c6
   simp only [Option.some.injEq,Prod.mk.injEq] at H
   obtain ⟨rfl,rfl⟩:=H
   go_enter Try.func55,Try.ntmps55
   go_wp2
   go_ret2
   exact ⟨by first|rfl|(simp;done)|(simp [*];done),by repeat (first|exact Drawn0.refl _|apply Drawn0.step)⟩
  ·
   rw [if_neg c6] at H
   have c6b0 : (a2 == a3)=false:=beq_eq_false_iff_ne.mpr c6
   have c6b1 : (a2 != a3)=true:=bne_iff_ne.mpr c6
   simp only [Option.some.injEq,Prod.mk.injEq] at H
   obtain ⟨rfl,rfl⟩:=H
   go_enter Try.func55,Try.ntmps55
   go_wp2
   go_ret2
   exact ⟨by first|rfl|(simp;done)|(simp [*];done),by repeat (first|exact Drawn0.refl _|apply Drawn0.step)⟩

end Go.Proofs.Ytkaoiblgfpphoaa.Prt

namespace Go.Proofs.Ytkaoiblgfpphoaa.Prt
open Go.RowKit Go.Proofs.YtkaoiblgfpphoaaW.PrintWords Go.Proofs.YtkaoiblgfpphoaaW.PrintLast Go.Proofs.YtkaoiblgfpphoaaW.PrintMore
attribute [local go_sem] max2_int min2_int max_two min_two max_three min_three max_four min_four   -- for this text's walks alone
set_option linter.unusedVariables false
set_option linter.unusedSimpArgs false

/-! ### psalteryref05_Put: function 19 -/
def psalteryref05_Put.l0 : Nat→Int→List Int→Option (Int × List Int × Int)
 | 0,_,_=>none
 | k+1,x218000,x218001=>if x218000 < 16777216 then (if x218001.length < 17592186044416 then (psalteryref05_Put.l0 k (IntKind.u64.wrap (x218000 * 256)) (x218001 ++ [0])) else (none)) else (some (x218000,x218001,0))
def psalteryref05_Put.f (k : Nat) (a0_0 : Int) (l0_1 : List Int) (a1 : Int) (a2 : Int) (a3 : Int) : Option (Int × List Int × Int):=(psalteryref05_Fair.f a1 a2 a3).bind fun t211=>(if t211=true then (if (l0_1.length : Int) ≥ 4000 then (some (a0_0,l0_1,3)) else ((psalteryref05_part.f a0_0 a1 a2 a3).bind fun bt212=>((psalteryref05_add.f k l0_1 bt212.2).bind fun t214=>(psalteryref05_Put.l0 k bt212.1 t214)))) else (some (a0_0,l0_1,1)))
theorem psalteryref05_Put.mono_l : ∀ k,(∀ y0 y1,LeO (psalteryref05_Put.l0 k y0 y1) (psalteryref05_Put.l0 (k+1) y0 y1))
 | 0=>fun _ _ r h=>by simp [psalteryref05_Put.l0] at h
 | k+1=>by
  have ih0:=psalteryref05_Put.mono_l k
  ·
   intro y0 y1
   unfold psalteryref05_Put.l0
   repeat' first
   | (with_reducible exact ih0 _ _)
   | (with_reducible exact psalteryref05_add.mono _ _ _)
   | (with_reducible exact LeO.refl _)
   | (with_reducible exact LeO.none _)
   | (with_reducible refine LeO.ite ?_ ?_)
   | (with_reducible refine LeO.bind ?_ (fun _ => ?_))
   | exact ih0 _ _
   | exact psalteryref05_add.mono _ _ _
   | exact LeO.none _
   | refine LeO.ite ?_ ?_
   | refine LeO.bind ?_ (fun _ => ?_)
theorem psalteryref05_Put.mono : ∀ a0 a1 a2 a3 a4 k,LeO (psalteryref05_Put.f k a0 a1 a2 a3 a4) (psalteryref05_Put.f (k+1) a0 a1 a2 a3 a4):=by
 intro a0 a1 a2 a3 a4 k
 have ih0:=psalteryref05_Put.mono_l k
 unfold psalteryref05_Put.f
 repeat' first
   | (with_reducible exact ih0 _ _)
   | (with_reducible exact psalteryref05_add.mono _ _ _)
   | (with_reducible exact LeO.refl _)
   | (with_reducible exact LeO.none _)
   | (with_reducible refine LeO.ite ?_ ?_)
   | (with_reducible refine LeO.bind ?_ (fun _ => ?_))
   | exact ih0 _ _
   | exact psalteryref05_add.mono _ _ _
   | exact LeO.none _
   | refine LeO.ite ?_ ?_
   | refine LeO.bind ?_ (fun _ => ?_)
set_option maxHeartbeats 8000000 in
set_option maxRecDepth 100000 in
theorem psalteryref05_Put.calls (k : Nat) (a0_0 : Int) (P0_1_ : Nat→Prop) (A0_1 : Option Addr) (c0_1 : Nat) (l0_1 : List Int) (a1 : Int) (a2 : Int) (a3 : Int) (r1 : Int) (r2 : List Int) (r3 : Int) (w : World) (hs0_1 : Kd.V (Kd.int .i64) 3 w w.heap.size (fun k_=>P0_1_ k_) (.slice A0_1 l0_1.length c0_1) l0_1) (h : psalteryref05_Put.f k a0_0 l0_1 a1 a2 a3=some (r1,r2,r3)) :
  Calls Try.prog 19 #[.agg #[.int .u64 a0_0, .slice A0_1 l0_1.length c0_1], .int .i64 a1, .int .i64 a2, .int .i64 a3] w fun e w' => ∃ v1_ : Value,e=.returned (.tuple #[.agg #[.int .u64 r1,v1_], .int .i64 r3])∧Kd.V (Kd.int .i64) 3 w' w.heap.size (fun k_=>(P0_1_ k_∨w.heap.size≤k_)) v1_ r2∧Below w.heap.size w w' := by
 have hu33:=Try.underlying33
 have HO0_1:=zm (show Kd.V (Kd.int .i64) 3 w w.heap.size (fun k_=>(P0_1_ k_∨w.heap.size≤k_)) (.slice A0_1 l0_1.length c0_1) l0_1 from zy hs0_1 (fun k_ hk => .inl hk))
 have HB:=zm (Below.refl w.heap.size w)
 have H : ((psalteryref05_Fair.f a1 a2 a3).bind fun t211=>(if t211=true then (if (l0_1.length : Int) ≥ 4000 then (some (a0_0,l0_1,3)) else ((psalteryref05_part.f a0_0 a1 a2 a3).bind fun bt212=>((psalteryref05_add.f k l0_1 bt212.2).bind fun t214=>(psalteryref05_Put.l0 k bt212.1 t214)))) else (some (a0_0,l0_1,1))))=some (r1,r2,r3):=h
 clear h
 replace H:=Option.bind_eq_some_iff.mp H
 obtain ⟨t211,A50,H⟩:=H
 replace H : (if t211=true then (if (l0_1.length : Int) ≥ 4000 then (some (a0_0,l0_1,3)) else ((psalteryref05_part.f a0_0 a1 a2 a3).bind fun bt212=>((psalteryref05_add.f k l0_1 bt212.2).bind fun t214=>(psalteryref05_Put.l0 k bt212.1 t214)))) else (some (a0_0,l0_1,1)))=some (r1,r2,r3):=H
 have A5:=zm A50;clear A50
 by_cases c6 : t211=true
 ·
  subst c6
  have H1 : (if (l0_1.length : Int) ≥ 4000 then (some (a0_0,l0_1,3)) else ((psalteryref05_part.f a0_0 a1 a2 a3).bind fun bt212=>((psalteryref05_add.f k l0_1 bt212.2).bind fun t214=>(psalteryref05_Put.l0 k bt212.1 t214))))=some (r1,r2,r3):=by rw [if_pos rfl] at H;exact H
  clear H;have H:=H1;clear H1
  by_cases c7 : (l0_1.length : Int) ≥ 4000
  ·
   rw [if_pos c7] at H
   have c7b0 : decide (4000≤(l0_1.length : Int))=true:=decide_eq_true c7
   have c7b1 : decide (4000≤l0_1.length)=true:=decide_eq_true (by omega)
   clear c7
   simp only [Option.some.injEq,Prod.mk.injEq] at H
   obtain ⟨rfl,rfl,rfl⟩:=H
   go_enter Try.func19,Try.ntmps19
   go_wp2_with (first|((with_reducible refine gate_dst (N:=4) rfl ?_);refine box_event ?hg (N:=4) ?hd (cs := #[.int .u64 a0_0, .slice A0_1 l0_1.length c0_1]) (t:=33) ?hr ?_;(case hd=>rfl);(case hg=>rfl);(case hr=>first|(go_simp;done)|(go_simp;rfl));intro gb209 hg w8 hbox hb;have n0_:=zm (Kd.V_below (Kd.V_elderB (by (with_reducible repeat (first|apply zA|apply zB|apply zC));exact HO0_1.out) gb209 (Nat.le_of_eq hg.symm)) hb);have n1_:=zm (zJ (by repeat (first|(with_reducible first|exact HB.out|apply ze|apply zd|apply zf)|exact HB.out)) hb);have n2_:=zm (hbox);have n3_:=zm ((by rw [hg];exact (zE (by repeat (first|(with_reducible first|exact HB.out|apply ze|apply zd|apply zf)|exact HB.out))) : w.heap.size≤gb209));have n4_:=zm ((by rw [hg];exact (zE (by repeat (first|(with_reducible first|exact HB.out|apply ze|apply zd|apply zf)|exact HB.out))) : w.heap.size≤gb209));clear HO0_1;clear HB;have HO0_1:=n0_;have HB:=n1_;have BK209:=n2_;have GW209:=n3_;have GE209:=n4_;clear n0_ n1_ n2_ n3_ n4_;clear hb hbox hg)|((with_reducible refine gate_dst (N:=8) rfl ?_);refine box_event ?hg (N:=8) ?hd (cs := #[.int .u64 0, .slice none 0 0]) (t:=33) ?hr ?_;(case hd=>rfl);(case hg=>rfl);(case hr=>first|(go_simp;done)|(go_simp;rfl));intro gb210 hg w9 hbox hb;have n0_:=zm (Kd.V_below (Kd.V_elderB (by (with_reducible repeat (first|apply zA|apply zB|apply zC));exact HO0_1.out) gb210 (Nat.le_of_eq hg.symm)) hb);have n1_:=zm (zF (g:=gb209) (o:=.cells #[.int .u64 a0_0, .slice A0_1 l0_1.length c0_1] 33 (0,0)) (by (with_reducible repeat (first|refine zh ?_ _|refine zj ?_|refine zi ?_ _));exact BK209.out) hb);have n2_:=zm (zJ (by repeat (first|(with_reducible first|exact HB.out|apply ze|apply zd|apply zf|refine zk ?_ GE209.out)|exact HB.out)) hb);have n3_:=zm (hbox);have n4_:=zm ((by rw [hg];exact (zE (by repeat (first|(with_reducible first|exact HB.out|apply ze|apply zd|apply zf|refine zk ?_ GE209.out)|exact HB.out))) : w.heap.size≤gb210));have n5_:=zm ((by rw [hg];exact (zE (by repeat (first|(with_reducible first|exact HB.out|apply ze|apply zd|apply zf|refine zk ?_ GE209.out)|exact HB.out))) : w.heap.size≤gb210));have n6_:=zm ((by rw [hg];exact zn (zD (g:=gb209) (o:=.cells #[.int .u64 a0_0, .slice A0_1 l0_1.length c0_1] 33 (0,0)) (by (with_reducible repeat (first|refine zh ?_ _|refine zj ?_|refine zi ?_ _));exact BK209.out)) : gb209≠gb210));have n7_:=zm ((by rw [hg];exact zg (zD (g:=gb209) (o:=.cells #[.int .u64 a0_0, .slice A0_1 l0_1.length c0_1] 33 (0,0)) (by (with_reducible repeat (first|refine zh ?_ _|refine zj ?_|refine zi ?_ _));exact BK209.out)) : gb210≠gb209));clear HO0_1;clear BK209;clear HB;have HO0_1:=n0_;have BK209:=n1_;have HB:=n2_;have BK210:=n3_;have GW210:=n4_;have GE210:=n5_;have NB209_210:=n6_;have NB210_209:=n7_;clear n0_ n1_ n2_ n3_ n4_ n5_ n6_ n7_;clear hb hbox hg)|((with_reducible refine gate_callee (f:=35) rfl ?_);refine goesL_ (some 16) rfl rfl Try.func35 (by kernel_rfl) rfl #[.int .i64 a1, .int .i64 a2, .int .i64 a3] rfl (by (try simp only [List.map_toArray,List.map_cons,List.map_nil]);first|done|rfl|(simp only [List.length_drop,List.length_take];rfl)) ?_;(with_reducible refine (psalteryref05_Fair.calls a1 a2 a3 true _ A5.out).mono ?_);rintro e w' ⟨rfl,⟨nd,rfl⟩⟩;refine ⟨_,rfl, ?_⟩;(try (rw [drewN_self w9];generalize hq_ : World.drewN w9 _=w9;have n0_ : Aside0 (Kd.V (Kd.int .i64) 3 w9 w.heap.size (fun k_=>(P0_1_ k_∨w.heap.size≤k_)∧k_≠gb209∧k_≠gb210) (.slice A0_1 l0_1.length c0_1) l0_1):=⟨by rw [← hq_];exact (by (with_reducible repeat (first|apply zA|apply zB|apply zC));exact zy HO0_1.out (fun _ hk=>⟨(by first|exact hk.1.1|(have h_:=hk;(try simp only [and_assoc] at h_);first|exact h_.1|exact h_.2|exact h_.2.1|exact h_.2.2|exact h_.2.2.1|exact h_.2.2.2|exact h_.2.2.2.1|exact h_.2.2.2.2)),⟨(by first|exact hk.1.2|(have h_:=hk;(try simp only [and_assoc] at h_);first|exact h_.1|exact h_.2|exact h_.2.1|exact h_.2.2|exact h_.2.2.1|exact h_.2.2.2|exact h_.2.2.2.1|exact h_.2.2.2.2)),(by first|exact hk.2|(have h_:=hk;(try simp only [and_assoc] at h_);first|exact h_.1|exact h_.2|exact h_.2.1|exact h_.2.2|exact h_.2.2.1|exact h_.2.2.2|exact h_.2.2.2.1|exact h_.2.2.2.2))⟩⟩))⟩;have n1_ : Aside0 (w9.heap[gb209]? = some (.cells #[.int .u64 a0_0, .slice A0_1 l0_1.length c0_1] 33 (0,0))):=⟨by rw [← hq_];exact (by (with_reducible repeat (first|refine zh ?_ _|refine zj ?_|refine zi ?_ _));exact BK209.out)⟩;have n2_ : Aside0 (w9.heap[gb210]? = some (.cells #[.int .u64 0, .slice none 0 0] 33 (0,0))):=⟨by rw [← hq_];exact (by (with_reducible repeat (first|refine zh ?_ _|refine zj ?_|refine zi ?_ _));exact BK210.out)⟩;have n3_ : Aside0 (Below w.heap.size w w9):=⟨by rw [← hq_];exact (by repeat (first|(with_reducible first|exact HB.out|apply ze|apply zd|apply zf|refine zk ?_ GE209.out|refine zk ?_ GE210.out)|exact HB.out))⟩;clear HO0_1 BK209 BK210 HB hq_;have HO0_1:=n0_;have BK209:=n1_;have BK210:=n2_;have HB:=n3_;clear n0_ n1_ n2_ n3_));have hnb10:=NB209_210.out;have hnc10:=NB210_209.out;have hcz11_0 : w9.cell? ⟨gb209,0,none⟩=some (.int .u64 a0_0):=(zs BK209.out 0).trans rfl;have hcz11_1 : w9.cell? ⟨gb209,1,none⟩=some (.slice A0_1 l0_1.length c0_1):=(zs BK209.out 1).trans rfl;have hfz11_0:=zx BK209.out 0;have hfz11_1:=zx BK209.out 1;have hcz12_0 : w9.cell? ⟨gb210,0,none⟩=some (.int .u64 0):=(zs BK210.out 0).trans rfl;have hcz12_1 : w9.cell? ⟨gb210,1,none⟩=some (.slice none 0 0):=(zs BK210.out 1).trans rfl;have hfz12_0:=zx BK210.out 0;have hfz12_1:=zx BK210.out 1))
   refine bodyPost_ret (results_ct rfl _ _ gb210 33 #[.int .u64 a0_0, .slice A0_1 l0_1.length c0_1] (0,0) _ rfl (by (with_reducible repeat (first|refine zh ?_ _|refine zj ?_|refine zi ?_ _));refine zw (cs := #[.int .u64 a0_0, .slice none 0 0]) ?_ 1 _ rfl;(with_reducible repeat (first|refine zh ?_ _|refine zj ?_|refine zi ?_ _));refine zw (cs := #[.int .u64 0, .slice none 0 0]) ?_ 0 _ rfl;(with_reducible repeat (first|refine zh ?_ _|refine zj ?_|refine zi ?_ _));exact BK210.out) Try.underlying33 rfl (by kernel_rfl)) rfl ?_
   exact ⟨_,by first|rfl|(simp [errW_none,errW_some] <;> rfl)|(simp [*,errW_none,errW_some] <;> rfl),by (with_reducible repeat (first|apply zA|apply zB|apply zC));exact zy (zI (p:=⟨gb210,1,none⟩) (zI (p:=⟨gb210,0,none⟩) (zy HO0_1.out (fun k_ hk=>(⟨hk,(by first|exact hk.2|(have h_:=hk;(try simp only [and_assoc] at h_);first|exact h_.1|exact h_.2|exact h_.2.1|exact h_.2.2|exact h_.2.2.1|exact h_.2.2.2|exact h_.2.2.2.1|exact h_.2.2.2.2))⟩ : _∧k_≠gb210))) (fun _ hk=>hk.2) (.int .u64 a0_0)) (fun _ hk=>hk.2) (.slice A0_1 l0_1.length c0_1)) (fun _ hk=>(by first|exact hk.1.1.1|(have h_:=hk;(try simp only [and_assoc] at h_);first|exact h_.1|exact h_.2|exact h_.2.1|exact h_.2.2|exact h_.2.2.1|exact h_.2.2.2|exact h_.2.2.2.1|exact h_.2.2.2.2))),by repeat (first|(with_reducible first|exact HB.out|apply ze|apply zd|apply zf|refine zk ?_ GE209.out|refine zk ?_ GE210.out)|exact HB.out)⟩
  ·
   rw [if_neg c7] at H
   have c7b0 : decide (4000≤(l0_1.length : Int))=false:=decide_eq_false c7
   have c7b1 : decide (4000≤l0_1.length)=false:=decide_eq_false (by omega)
   clear c7
   replace H:=Option.bind_eq_some_iff.mp H
   obtain ⟨⟨t212,t213⟩,A130,H⟩:=H
   replace H : ((psalteryref05_add.f k l0_1 t213).bind fun t214=>(psalteryref05_Put.l0 k t212 t214))=some (r1,r2,r3):=H
   have A13:=zm A130;clear A130
   replace H:=Option.bind_eq_some_iff.mp H
   obtain ⟨t214,A140,H⟩:=H
   replace H : (psalteryref05_Put.l0 k t212 t214)=some (r1,r2,r3):=H
   have A14:=zm A140;clear A140
   have H' := zm H
   clear H
   go_enter Try.func19,Try.ntmps19
   go_wp2_with (first|((with_reducible refine gate_dst (N:=4) rfl ?_);refine box_event ?hg (N:=4) ?hd (cs := #[.int .u64 a0_0, .slice A0_1 l0_1.length c0_1]) (t:=33) ?hr ?_;(case hd=>rfl);(case hg=>rfl);(case hr=>first|(go_simp;done)|(go_simp;rfl));intro gb209 hg w15 hbox hb;have n0_:=zm (Kd.V_below (Kd.V_elderB (by (with_reducible repeat (first|apply zA|apply zB|apply zC));exact HO0_1.out) gb209 (Nat.le_of_eq hg.symm)) hb);have n1_:=zm (zJ (by repeat (first|(with_reducible first|exact HB.out|apply ze|apply zd|apply zf)|exact HB.out)) hb);have n2_:=zm (hbox);have n3_:=zm ((by rw [hg];exact (zE (by repeat (first|(with_reducible first|exact HB.out|apply ze|apply zd|apply zf)|exact HB.out))) : w.heap.size≤gb209));have n4_:=zm ((by rw [hg];exact (zE (by repeat (first|(with_reducible first|exact HB.out|apply ze|apply zd|apply zf)|exact HB.out))) : w.heap.size≤gb209));clear HO0_1;clear HB;have HO0_1:=n0_;have HB:=n1_;have BK209:=n2_;have GW209:=n3_;have GE209:=n4_;clear n0_ n1_ n2_ n3_ n4_;clear hb hbox hg)|((with_reducible refine gate_dst (N:=8) rfl ?_);refine box_event ?hg (N:=8) ?hd (cs := #[.int .u64 0, .slice none 0 0]) (t:=33) ?hr ?_;(case hd=>rfl);(case hg=>rfl);(case hr=>first|(go_simp;done)|(go_simp;rfl));intro gb210 hg w16 hbox hb;have n0_:=zm (Kd.V_below (Kd.V_elderB (by (with_reducible repeat (first|apply zA|apply zB|apply zC));exact HO0_1.out) gb210 (Nat.le_of_eq hg.symm)) hb);have n1_:=zm (zF (g:=gb209) (o:=.cells #[.int .u64 a0_0, .slice A0_1 l0_1.length c0_1] 33 (0,0)) (by (with_reducible repeat (first|refine zh ?_ _|refine zj ?_|refine zi ?_ _));exact BK209.out) hb);have n2_:=zm (zJ (by repeat (first|(with_reducible first|exact HB.out|apply ze|apply zd|apply zf|refine zk ?_ GE209.out)|exact HB.out)) hb);have n3_:=zm (hbox);have n4_:=zm ((by rw [hg];exact (zE (by repeat (first|(with_reducible first|exact HB.out|apply ze|apply zd|apply zf|refine zk ?_ GE209.out)|exact HB.out))) : w.heap.size≤gb210));have n5_:=zm ((by rw [hg];exact (zE (by repeat (first|(with_reducible first|exact HB.out|apply ze|apply zd|apply zf|refine zk ?_ GE209.out)|exact HB.out))) : w.heap.size≤gb210));have n6_:=zm ((by rw [hg];exact zn (zD (g:=gb209) (o:=.cells #[.int .u64 a0_0, .slice A0_1 l0_1.length c0_1] 33 (0,0)) (by (with_reducible repeat (first|refine zh ?_ _|refine zj ?_|refine zi ?_ _));exact BK209.out)) : gb209≠gb210));have n7_:=zm ((by rw [hg];exact zg (zD (g:=gb209) (o:=.cells #[.int .u64 a0_0, .slice A0_1 l0_1.length c0_1] 33 (0,0)) (by (with_reducible repeat (first|refine zh ?_ _|refine zj ?_|refine zi ?_ _));exact BK209.out)) : gb210≠gb209));clear HO0_1;clear BK209;clear HB;have HO0_1:=n0_;have BK209:=n1_;have HB:=n2_;have BK210:=n3_;have GW210:=n4_;have GE210:=n5_;have NB209_210:=n6_;have NB210_209:=n7_;clear n0_ n1_ n2_ n3_ n4_ n5_ n6_ n7_;clear hb hbox hg)|((with_reducible refine gate_callee (f:=35) rfl ?_);refine goesL_ (some 16) rfl rfl Try.func35 (by kernel_rfl) rfl #[.int .i64 a1, .int .i64 a2, .int .i64 a3] rfl (by (try simp only [List.map_toArray,List.map_cons,List.map_nil]);first|done|rfl|(simp only [List.length_drop,List.length_take];rfl)) ?_;(with_reducible refine (psalteryref05_Fair.calls a1 a2 a3 true _ A5.out).mono ?_);rintro e w' ⟨rfl,⟨nd,rfl⟩⟩;refine ⟨_,rfl, ?_⟩;(try (rw [drewN_self w16];generalize hq_ : World.drewN w16 _=w16;have n0_ : Aside0 (Kd.V (Kd.int .i64) 3 w16 w.heap.size (fun k_=>(P0_1_ k_∨w.heap.size≤k_)∧k_≠gb209∧k_≠gb210) (.slice A0_1 l0_1.length c0_1) l0_1):=⟨by rw [← hq_];exact (by (with_reducible repeat (first|apply zA|apply zB|apply zC));exact zy HO0_1.out (fun _ hk=>⟨(by first|exact hk.1.1|(have h_:=hk;(try simp only [and_assoc] at h_);first|exact h_.1|exact h_.2|exact h_.2.1|exact h_.2.2|exact h_.2.2.1|exact h_.2.2.2|exact h_.2.2.2.1|exact h_.2.2.2.2)),⟨(by first|exact hk.1.2|(have h_:=hk;(try simp only [and_assoc] at h_);first|exact h_.1|exact h_.2|exact h_.2.1|exact h_.2.2|exact h_.2.2.1|exact h_.2.2.2|exact h_.2.2.2.1|exact h_.2.2.2.2)),(by first|exact hk.2|(have h_:=hk;(try simp only [and_assoc] at h_);first|exact h_.1|exact h_.2|exact h_.2.1|exact h_.2.2|exact h_.2.2.1|exact h_.2.2.2|exact h_.2.2.2.1|exact h_.2.2.2.2))⟩⟩))⟩;have n1_ : Aside0 (w16.heap[gb209]? = some (.cells #[.int .u64 a0_0, .slice A0_1 l0_1.length c0_1] 33 (0,0))):=⟨by rw [← hq_];exact (by (with_reducible repeat (first|refine zh ?_ _|refine zj ?_|refine zi ?_ _));exact BK209.out)⟩;have n2_ : Aside0 (w16.heap[gb210]? = some (.cells #[.int .u64 0, .slice none 0 0] 33 (0,0))):=⟨by rw [← hq_];exact (by (with_reducible repeat (first|refine zh ?_ _|refine zj ?_|refine zi ?_ _));exact BK210.out)⟩;have n3_ : Aside0 (Below w.heap.size w w16):=⟨by rw [← hq_];exact (by repeat (first|(with_reducible first|exact HB.out|apply ze|apply zd|apply zf|refine zk ?_ GE209.out|refine zk ?_ GE210.out)|exact HB.out))⟩;clear HO0_1 BK209 BK210 HB hq_;have HO0_1:=n0_;have BK209:=n1_;have BK210:=n2_;have HB:=n3_;clear n0_ n1_ n2_ n3_));have hnb17:=NB209_210.out;have hnc17:=NB210_209.out;have hcz18_0 : w16.cell? ⟨gb209,0,none⟩=some (.int .u64 a0_0):=(zs BK209.out 0).trans rfl;have hcz18_1 : w16.cell? ⟨gb209,1,none⟩=some (.slice A0_1 l0_1.length c0_1):=(zs BK209.out 1).trans rfl;have hfz18_0:=zx BK209.out 0;have hfz18_1:=zx BK209.out 1)|((with_reducible refine gate_callee (f:=55) rfl ?_);refine goesL_ (some 30) rfl rfl Try.func55 (by kernel_rfl) rfl #[.int .u64 a0_0, .int .i64 a1, .int .i64 a2, .int .i64 a3] rfl (by (try simp only [List.map_toArray,List.map_cons,List.map_nil]);first|done|rfl|(simp only [List.length_drop,List.length_take];rfl)) ?_;(with_reducible refine (psalteryref05_part.calls a0_0 a1 a2 a3 t212 t213 _ A13.out).mono ?_);rintro e w' ⟨rfl,⟨nd,rfl⟩⟩;refine ⟨_,rfl, ?_⟩;(try (rw [drewN_self w16];generalize hq_ : World.drewN w16 _=w16;have n0_ : Aside0 (Kd.V (Kd.int .i64) 3 w16 w.heap.size (fun k_=>(P0_1_ k_∨w.heap.size≤k_)∧k_≠gb209∧k_≠gb210) (.slice A0_1 l0_1.length c0_1) l0_1):=⟨by rw [← hq_];exact (by (with_reducible repeat (first|apply zA|apply zB|apply zC));exact zy HO0_1.out (fun _ hk=>⟨(by first|exact hk.1.1|(have h_:=hk;(try simp only [and_assoc] at h_);first|exact h_.1|exact h_.2|exact h_.2.1|exact h_.2.2|exact h_.2.2.1|exact h_.2.2.2|exact h_.2.2.2.1|exact h_.2.2.2.2)),⟨(by first|exact hk.1.2|(have h_:=hk;(try simp only [and_assoc] at h_);first|exact h_.1|exact h_.2|exact h_.2.1|exact h_.2.2|exact h_.2.2.1|exact h_.2.2.2|exact h_.2.2.2.1|exact h_.2.2.2.2)),(by first|exact hk.2|(have h_:=hk;(try simp only [and_assoc] at h_);first|exact h_.1|exact h_.2|exact h_.2.1|exact h_.2.2|exact h_.2.2.1|exact h_.2.2.2|exact h_.2.2.2.1|exact h_.2.2.2.2))⟩⟩))⟩;have n1_ : Aside0 (w16.heap[gb209]? = some (.cells #[.int .u64 a0_0, .slice A0_1 l0_1.length c0_1] 33 (0,0))):=⟨by rw [← hq_];exact (by (with_reducible repeat (first|refine zh ?_ _|refine zj ?_|refine zi ?_ _));exact BK209.out)⟩;have n2_ : Aside0 (w16.heap[gb210]? = some (.cells #[.int .u64 0, .slice none 0 0] 33 (0,0))):=⟨by rw [← hq_];exact (by (with_reducible repeat (first|refine zh ?_ _|refine zj ?_|refine zi ?_ _));exact BK210.out)⟩;have n3_ : Aside0 (Below w.heap.size w w16):=⟨by rw [← hq_];exact (by repeat (first|(with_reducible first|exact HB.out|apply ze|apply zd|apply zf|refine zk ?_ GE209.out|refine zk ?_ GE210.out)|exact HB.out))⟩;clear HO0_1 BK209 BK210 HB hq_;have HO0_1:=n0_;have BK209:=n1_;have BK210:=n2_;have HB:=n3_;clear n0_ n1_ n2_ n3_));have hcz19_0 : w16.cell? ⟨gb209,0,none⟩=some (.int .u64 a0_0):=(zs BK209.out 0).trans rfl;have hcz19_1 : w16.cell? ⟨gb209,1,none⟩=some (.slice A0_1 l0_1.length c0_1):=(zs BK209.out 1).trans rfl;have hfz19_0:=zx BK209.out 0;have hfz19_1:=zx BK209.out 1)|((with_reducible refine gate_callee (f:=56) rfl ?_);refine goesL_ (some 37) rfl rfl Try.func56 (by kernel_rfl) rfl #[.slice A0_1 l0_1.length c0_1, .int .u64 t213] rfl (by (try simp only [List.map_toArray,List.map_cons,List.map_nil]);first|done|rfl|(simp only [List.length_drop,List.length_take];rfl)) ?_;(with_reducible refine (psalteryref05_add.calls k _ _ l0_1 t213 t214 _ ?side1 ?side2 A14.out).mono ?_);(case side1=>repeat (first|exact (Kd.V_reads' HO0_1.out).2.2|(with_reducible refine Kd.C_alloc ?_ _)|(with_reducible refine Kd.C_drewN ?_ _)|(with_reducible refine Kd.C_drew ?_)));(case side2=>exact (Kd.V_reads' HO0_1.out).2.1);rintro e w20 ⟨v215,rfl,ho0,hb⟩;refine ⟨_,rfl, ?_⟩;have n0_:=zm (Kd.V_elder' (by (with_reducible repeat (first|apply zA|apply zB|apply zC));exact HO0_1.out) (Kd.R_base ho0) hb);have n1_:=zm (Kd.R_lower (Kd.R_newM (M:=fun k_=>(w.heap.size≤k_)) ho0 (zE (by repeat (first|(with_reducible first|exact HB.out|apply ze|apply zd|apply zf|refine zk ?_ GE209.out|refine zk ?_ GE210.out)|exact HB.out))) (fun k_ h_=>h_)) (zE (by repeat (first|(with_reducible first|exact HB.out|apply ze|apply zd|apply zf|refine zk ?_ GE209.out|refine zk ?_ GE210.out)|exact HB.out))));have n2_:=zm (zF (g:=gb209) (o:=.cells #[.int .u64 a0_0, .slice A0_1 l0_1.length c0_1] 33 (0,0)) (by (with_reducible repeat (first|refine zh ?_ _|refine zj ?_|refine zi ?_ _));exact BK209.out) hb);have n3_:=zm (zF (g:=gb210) (o:=.cells #[.int .u64 0, .slice none 0 0] 33 (0,0)) (by (with_reducible repeat (first|refine zh ?_ _|refine zj ?_|refine zi ?_ _));exact BK210.out) hb);have n4_:=zm (zJ (by repeat (first|(with_reducible first|exact HB.out|apply ze|apply zd|apply zf|refine zk ?_ GE209.out|refine zk ?_ GE210.out)|exact HB.out)) hb);clear HO0_1;clear BK209;clear BK210;clear HB;have HO0_1:=n0_;have HO216:=n1_;have BK209:=n2_;have BK210:=n3_;have HB:=n4_;clear n0_ n1_ n2_ n3_ n4_;(try clear hb);(try clear hb2);(try clear hk);(try clear hi);(try clear ho0);obtain ⟨Ao21,co21,eo21⟩:=Kd.R_slice HO216.out;subst eo21)|((with_reducible refine gate_dst (N:=12) rfl ?_);refine box_event ?hg (N:=12) ?hd (cs := #[.int .u64 0, .slice none 0 0]) (t:=33) ?hr ?_;(case hd=>rfl);(case hg=>rfl);(case hr=>first|(go_simp;done)|(go_simp;rfl));intro gb217 hg w22 hbox hb;have n0_:=zm (Kd.V_below (Kd.V_elderB (by (with_reducible repeat (first|apply zA|apply zB|apply zC));exact HO0_1.out) gb217 (Nat.le_of_eq hg.symm)) hb);have n1_:=zm (Kd.R_below (by (with_reducible repeat (first|apply zo|apply zp|apply zq));exact HO216.out) hb);have n2_:=zm (zF (g:=gb209) (o:=.cells #[.int .u64 a0_0, .slice A0_1 l0_1.length c0_1] 33 (0,0)) (by (with_reducible repeat (first|refine zh ?_ _|refine zj ?_|refine zi ?_ _));exact BK209.out) hb);have n3_:=zm (zF (g:=gb210) (o:=.cells #[.int .u64 0, .slice none 0 0] 33 (0,0)) (by (with_reducible repeat (first|refine zh ?_ _|refine zj ?_|refine zi ?_ _));exact BK210.out) hb);have n4_:=zm (zJ (by repeat (first|(with_reducible first|exact HB.out|apply ze|apply zd|apply zf|refine zk ?_ GE209.out|refine zk ?_ GE210.out)|exact HB.out)) hb);have n5_:=zm (hbox);have n6_:=zm ((by rw [hg];exact (zE (by repeat (first|(with_reducible first|exact HB.out|apply ze|apply zd|apply zf|refine zk ?_ GE209.out|refine zk ?_ GE210.out)|exact HB.out))) : w.heap.size≤gb217));have n7_:=zm ((by rw [hg];exact (zE (by repeat (first|(with_reducible first|exact HB.out|apply ze|apply zd|apply zf|refine zk ?_ GE209.out|refine zk ?_ GE210.out)|exact HB.out))) : w.heap.size≤gb217));have n8_:=zm ((by rw [hg];exact zn (zD (g:=gb209) (o:=.cells #[.int .u64 a0_0, .slice A0_1 l0_1.length c0_1] 33 (0,0)) (by (with_reducible repeat (first|refine zh ?_ _|refine zj ?_|refine zi ?_ _));exact BK209.out)) : gb209≠gb217));have n9_:=zm ((by rw [hg];exact zg (zD (g:=gb209) (o:=.cells #[.int .u64 a0_0, .slice A0_1 l0_1.length c0_1] 33 (0,0)) (by (with_reducible repeat (first|refine zh ?_ _|refine zj ?_|refine zi ?_ _));exact BK209.out)) : gb217≠gb209));have n10_:=zm ((by rw [hg];exact zn (zD (g:=gb210) (o:=.cells #[.int .u64 0, .slice none 0 0] 33 (0,0)) (by (with_reducible repeat (first|refine zh ?_ _|refine zj ?_|refine zi ?_ _));exact BK210.out)) : gb210≠gb217));have n11_:=zm ((by rw [hg];exact zg (zD (g:=gb210) (o:=.cells #[.int .u64 0, .slice none 0 0] 33 (0,0)) (by (with_reducible repeat (first|refine zh ?_ _|refine zj ?_|refine zi ?_ _));exact BK210.out)) : gb217≠gb210));clear HO0_1;clear HO216;clear BK209;clear BK210;clear HB;have HO0_1:=n0_;have HO216:=n1_;have BK209:=n2_;have BK210:=n3_;have HB:=n4_;have BK217:=n5_;have GW217:=n6_;have GE217:=n7_;have NB209_217:=n8_;have NB217_209:=n9_;have NB210_217:=n10_;have NB217_210:=n11_;clear n0_ n1_ n2_ n3_ n4_ n5_ n6_ n7_ n8_ n9_ n10_ n11_;clear hb hbox hg;have hnb23:=NB217_209.out;have hnc23:=NB209_217.out;have hnb24:=NB217_210.out;have hnc24:=NB210_217.out;have hcz25_0 : w22.cell? ⟨gb217,0,none⟩=some (.int .u64 0):=(zs BK217.out 0).trans rfl;have hcz25_1 : w22.cell? ⟨gb217,1,none⟩=some (.slice none 0 0):=(zs BK217.out 1).trans rfl;have hfz25_0:=zx BK217.out 0;have hfz25_1:=zx BK217.out 1))
   go_loopg [] k (fun kq w' => ∃ (x218000_1 : Int) (x218001_1 : List Int) (u218001 : Value),Aside0 (psalteryref05_Put.l0 kq x218000_1 x218001_1=some (r1,r2,r3))∧Aside0 (kq≤k)∧Aside0 (Kd.V (Kd.int .i64) 3 w' w.heap.size (fun k_=>(P0_1_ k_∨w.heap.size≤k_)∧some k_≠(u218001 : Value).ownBlock∧k_≠gb209∧k_≠gb210∧k_≠gb217) (.slice A0_1 l0_1.length c0_1) l0_1)∧Aside0 (Kd.R (Kd.int .i64) 3 w' w.heap.size (fun k_=>(w.heap.size≤k_)) u218001 x218001_1)∧Aside0 (w'.heap[gb209]? = some (.cells #[.int .u64 a0_0,(.slice A0_1 l0_1.length c0_1)] 33 (0,0)))∧Aside0 (w'.heap[gb210]? = some (.cells #[.int .u64 0,(.slice none 0 0)] 33 (0,0)))∧Aside0 (w'.heap[gb217]? = some (.cells #[.int .u64 x218000_1,u218001] 33 (0,0)))∧Aside0 (Below w.heap.size w w'))
   case atStart=>exact ⟨(t212),(t214),(.slice Ao21 t214.length co21),H',⟨Nat.le_refl _⟩,⟨by (with_reducible repeat (first|apply zA|apply zB|apply zC));exact zy (zI (p:=⟨gb217,1,none⟩) (zI (p:=⟨gb217,0,none⟩) (zy HO0_1.out (fun k_ hk=>(⟨hk,(by first|exact hk.2|(have h_:=hk;(try simp only [and_assoc] at h_);first|exact h_.1|exact h_.2|exact h_.2.1|exact h_.2.2|exact h_.2.2.1|exact h_.2.2.2|exact h_.2.2.2.1|exact h_.2.2.2.2))⟩ : _∧k_≠gb217))) (fun _ hk=>hk.2) (.int .u64 t212)) (fun _ hk=>hk.2) (.slice Ao21 t214.length co21)) (fun _ hk=>⟨(by first|exact hk.1.1.1.1.1|(have h_:=hk;(try simp only [and_assoc] at h_);first|exact h_.1|exact h_.2|exact h_.2.1|exact h_.2.2|exact h_.2.2.1|exact h_.2.2.2|exact h_.2.2.2.1|exact h_.2.2.2.2)),⟨(by first|exact hk.1.1.2|(have h_:=hk;(try simp only [and_assoc] at h_);first|exact h_.1|exact h_.2|exact h_.2.1|exact h_.2.2|exact h_.2.2.1|exact h_.2.2.2|exact h_.2.2.2.1|exact h_.2.2.2.2)),⟨(by first|exact hk.1.1.1.1.2|(have h_:=hk;(try simp only [and_assoc] at h_);first|exact h_.1|exact h_.2|exact h_.2.1|exact h_.2.2|exact h_.2.2.1|exact h_.2.2.2|exact h_.2.2.2.1|exact h_.2.2.2.2)),⟨(by first|exact hk.1.1.1.2|(have h_:=hk;(try simp only [and_assoc] at h_);first|exact h_.1|exact h_.2|exact h_.2.1|exact h_.2.2|exact h_.2.2.1|exact h_.2.2.2|exact h_.2.2.2.1|exact h_.2.2.2.2)),(by first|exact hk.1.2|(have h_:=hk;(try simp only [and_assoc] at h_);first|exact h_.1|exact h_.2|exact h_.2.1|exact h_.2.2|exact h_.2.2.1|exact h_.2.2.2|exact h_.2.2.2.1|exact h_.2.2.2.2))⟩⟩⟩⟩)⟩,⟨by (with_reducible repeat (first|apply zo|apply zp|apply zq));exact zG (zH (p:=⟨gb217,1,none⟩) (zH (p:=⟨gb217,0,none⟩) (Kd.R_types HO216.out BK217.out (by decide)) (fun _ hk=>hk.2) (.int .u64 t212)) (fun _ hk=>hk.2) (.slice Ao21 t214.length co21)) (fun _ hk=>(by first|exact hk.1.1|(have h_:=hk;(try simp only [and_assoc] at h_);first|exact h_.1|exact h_.2|exact h_.2.1|exact h_.2.2|exact h_.2.2.1|exact h_.2.2.2|exact h_.2.2.2.1|exact h_.2.2.2.2)))⟩,⟨by (with_reducible repeat (first|refine zh ?_ _|refine zj ?_|refine zi ?_ _|refine zv ?_ NB209_217.out _));exact BK209.out⟩,⟨by (with_reducible repeat (first|refine zh ?_ _|refine zj ?_|refine zi ?_ _|refine zv ?_ NB210_217.out _));exact BK210.out⟩,⟨by (with_reducible repeat (first|refine zh ?_ _|refine zj ?_|refine zi ?_ _));refine zw (cs := #[.int .u64 t212, .slice none 0 0]) ?_ 1 _ rfl;(with_reducible repeat (first|refine zh ?_ _|refine zj ?_|refine zi ?_ _));refine zw (cs := #[.int .u64 0, .slice none 0 0]) ?_ 0 _ rfl;(with_reducible repeat (first|refine zh ?_ _|refine zj ?_|refine zi ?_ _));exact BK217.out⟩,⟨by repeat (first|(with_reducible first|exact HB.out|apply ze|apply zd|apply zf|refine zk ?_ GE209.out|refine zk ?_ GE210.out|refine zk ?_ GE217.out)|exact HB.out)⟩⟩
   case round =>
    clear H'
    try clear c1
    try clear c2
    try clear p2
    try clear c3
    try clear c5
    try clear c6
    try clear c7
    try clear c7b0
    try clear c7b1
    try clear c10
    try clear c17
    try clear c19
    try clear c23
    try clear c24
    try clear hcz11_0
    try clear hcz11_1
    try clear hcz12_0
    try clear hcz12_1
    try clear hcz18_0
    try clear hcz18_1
    try clear hcz19_0
    try clear hcz19_1
    try clear hcz25_0
    try clear hcz25_1
    try clear hfz11_0
    try clear hfz11_1
    try clear hfz12_0
    try clear hfz12_1
    try clear hfz18_0
    try clear hfz18_1
    try clear hfz19_0
    try clear hfz19_1
    try clear hfz25_0
    try clear hfz25_1
    obtain ⟨x218000_1,x218001_1,u218001,HA,HK1,HO_210001,HO_218001,BK209,BK210,BK217,HB⟩:=hrel
    cases gk with
    | zero=>exact absurd HA.out (by simp [psalteryref05_Put.l0])
    | succ k1 =>
     have H:=HA.out;clear HA
     simp only [psalteryref05_Put.l0] at H
     by_cases c26 : x218000_1 < 16777216
     ·
      rw [if_pos c26] at H
      have c26b0 : decide (x218000_1 < 16777216)=true:=decide_eq_true c26
      clear c26
      by_cases c27 : x218001_1.length < 17592186044416
      ·
       rw [if_pos c27] at H
       have LMc27:=zm c27;clear c27
       obtain ⟨y218,hy218⟩ : ∃ y_ : List Int,y_=(x218001_1 ++ [0]):=⟨_,rfl⟩
       replace H : (psalteryref05_Put.l0 k1 (IntKind.u64.wrap (x218000_1 * 256)) y218)=some (r1,r2,r3):=by first|(rw [hy218];with_reducible exact H)|(have H2_:=(Option.bind_some _ _).symm.trans H;rw [hy218];with_reducible exact H2_)|(have H2_:=(Option.bind_some _ _).symm.trans H;with_reducible exact H2_)|with_reducible exact H|(rw [hy218];exact H)|exact H
       have Ny218:=zm hy218;clear hy218
       have H' := zm H
       clear H;have hnb28:=NB217_209.out;have hnc28:=NB209_217.out;have hnb29:=NB217_210.out;have hnc29:=NB210_217.out
       have hcz30_0 : wr.cell? ⟨gb217,0,none⟩=some (.int .u64 x218000_1):=(zs BK217.out 0).trans rfl
       have hcz30_1 : wr.cell? ⟨gb217,1,none⟩=some (u218001):=(zs BK217.out 1).trans rfl
       have hfz30_0:=zx BK217.out 0
       have hfz30_1:=zx BK217.out 1
       go_wp2_with (first|((with_reducible refine gate_builtin (b:=.append) (xs := #[.tmp 47, .tmp 48]) rfl ?_);at_builtin;refine Kd.R_append (Kd.int .i64) (w0:=w) w.heap.size rfl (.tmp 47) (.tmp 48) 31 3 (.int .i64 0) 8 rfl Try.underlying31 info3 rfl (by decide) (by omega) u218001 x218001_1 0 [.int .i64 0] (fun k_=>(w.heap.size≤k_)) (fun _=>False) rfl (by first|(go_simp;done)|(go_simp;rfl)) ?aP (fun _ hk=>hk.elim) ?aF ?aO ?aB ?aS ?aL ?_;(case aP=>exact rfl);(case aB=>exact (by repeat (first|(with_reducible first|exact HB.out|apply ze|apply zd|apply zf|refine zk ?_ GE209.out|refine zk ?_ GE210.out|refine zk ?_ GE217.out)|exact HB.out)));(case aF=>exact (fun k_ hk=>(Nat.le_trans (zE (by repeat (first|(with_reducible first|exact HB.out|apply ze|apply zd|apply zf|refine zk ?_ GE209.out|refine zk ?_ GE210.out|refine zk ?_ GE217.out)|exact HB.out))) hk)));(case aO=>exact (by (with_reducible repeat (first|apply zo|apply zp|apply zq));exact zG (zH (p:=⟨gb217,0,none⟩) (Kd.R_types HO_218001.out BK217.out (by decide)) (fun _ hk=>hk.2) (.int .u64 (IntKind.u64.wrap (x218000_1 * 256)))) (fun _ hk=>(by first|exact hk.1|(have h_:=hk;(try simp only [and_assoc] at h_);first|exact h_.1|exact h_.2|exact h_.2.1|exact h_.2.2|exact h_.2.2.1|exact h_.2.2.2|exact h_.2.2.2.1|exact h_.2.2.2.2)))));(case aS=>exact (zE (by repeat (first|(with_reducible first|exact HB.out|apply ze|apply zd|apply zf|refine zk ?_ GE209.out|refine zk ?_ GE210.out|refine zk ?_ GE217.out)|exact HB.out))));(case aL=>have:=LMc27.out;omega);intro v219 w31 ho hb hg hat;rw [← Ny218.out] at ho;have n0_:=zm (Kd.V_afterv (ok:=(fun k_=>(P0_1_ k_∨w.heap.size≤k_)∧k_≠gb209∧k_≠gb210∧k_≠gb217)) (by (with_reducible repeat (first|apply zA|apply zB|apply zC));exact zy (zI (p:=⟨gb217,0,none⟩) (zy HO_210001.out (fun k_ hk=>(⟨hk,(by first|exact hk.2.2.2.2|(have h_:=hk;(try simp only [and_assoc] at h_);first|exact h_.1|exact h_.2|exact h_.2.1|exact h_.2.2|exact h_.2.2.1|exact h_.2.2.2|exact h_.2.2.2.1|exact h_.2.2.2.2))⟩ : _∧k_≠gb217))) (fun _ hk=>hk.2) (.int .u64 (IntKind.u64.wrap (x218000_1 * 256)))) (fun _ hk=>⟨⟨(by first|exact hk.1.1|(have h_:=hk;(try simp only [and_assoc] at h_);first|exact h_.1|exact h_.2|exact h_.2.1|exact h_.2.2|exact h_.2.2.1|exact h_.2.2.2|exact h_.2.2.2.1|exact h_.2.2.2.2)),⟨(by first|exact hk.1.2.2.1|(have h_:=hk;(try simp only [and_assoc] at h_);first|exact h_.1|exact h_.2|exact h_.2.1|exact h_.2.2|exact h_.2.2.1|exact h_.2.2.2|exact h_.2.2.2.1|exact h_.2.2.2.2)),⟨(by first|exact hk.1.2.2.2.1|(have h_:=hk;(try simp only [and_assoc] at h_);first|exact h_.1|exact h_.2|exact h_.2.1|exact h_.2.2|exact h_.2.2.1|exact h_.2.2.2|exact h_.2.2.2.1|exact h_.2.2.2.2)),(by first|exact hk.1.2.2.2.2|(have h_:=hk;(try simp only [and_assoc] at h_);first|exact h_.1|exact h_.2|exact h_.2.1|exact h_.2.2|exact h_.2.2.1|exact h_.2.2.2|exact h_.2.2.2.1|exact h_.2.2.2.2))⟩⟩⟩,(by first|exact hk.1.2.1|(have h_:=hk;(try simp only [and_assoc] at h_);first|exact h_.1|exact h_.2|exact h_.2.1|exact h_.2.2|exact h_.2.2.1|exact h_.2.2.2|exact h_.2.2.2.1|exact h_.2.2.2.2))⟩)) hg hat);have n1_:=zm (blk_grown (g:=gb209) (o:=.cells #[.int .u64 a0_0, .slice A0_1 l0_1.length c0_1] 33 (0,0)) (by (with_reducible repeat (first|refine zh ?_ _|refine zj ?_|refine zi ?_ _|refine zv ?_ NB209_217.out _));exact BK209.out) hg (zu HO_218001.out BK209.out (by decide)));have n2_:=zm (blk_grown (g:=gb210) (o:=.cells #[.int .u64 0, .slice none 0 0] 33 (0,0)) (by (with_reducible repeat (first|refine zh ?_ _|refine zj ?_|refine zi ?_ _|refine zv ?_ NB210_217.out _));exact BK210.out) hg (zu HO_218001.out BK210.out (by decide)));have n3_:=zm (blk_grown (g:=gb217) (o:=.cells #[.int .u64 (IntKind.u64.wrap (x218000_1 * 256)),u218001] 33 (0,0)) (by (with_reducible repeat (first|refine zh ?_ _|refine zj ?_|refine zi ?_ _));refine zw (cs := #[.int .u64 x218000_1,u218001]) ?_ 0 _ rfl;(with_reducible repeat (first|refine zh ?_ _|refine zj ?_|refine zi ?_ _));exact BK217.out) hg (zu HO_218001.out BK217.out (by decide)));have n4_:=zm (hb);have n5_:=zm (ho);clear HO_210001;clear BK209;clear BK210;clear BK217;clear HB;clear HO_218001;have HO_210001:=n0_;have BK209:=n1_;have BK210:=n2_;have BK217:=n3_;have HB:=n4_;have HO220:=n5_;clear n0_ n1_ n2_ n3_ n4_ n5_;clear ho hb hg hat;obtain ⟨Ao32,co32,eo32⟩:=Kd.R_slice HO220.out;subst eo32;have hcz33_0 : w31.cell? ⟨gb217,0,none⟩=some (.int .u64 (IntKind.u64.wrap (x218000_1 * 256))):=(zs BK217.out 0).trans rfl;have hcz33_1 : w31.cell? ⟨gb217,1,none⟩=some (u218001):=(zs BK217.out 1).trans rfl;have hfz33_0:=zx BK217.out 0;have hfz33_1:=zx BK217.out 1))
       go_roundg k1
       case measure=>have:=HK1.out;omega
       case rel=>exact ⟨(IntKind.u64.wrap (x218000_1 * 256)),(y218),(.slice Ao32 y218.length co32),H',⟨by have:=HK1.out;omega⟩,⟨by (with_reducible repeat (first|apply zA|apply zB|apply zC));exact zy (zI (p:=⟨gb217,1,none⟩) (zy HO_210001.out (fun k_ hk=>(⟨hk,(by first|exact hk.1.2.2.2|(have h_:=hk;(try simp only [and_assoc] at h_);first|exact h_.1|exact h_.2|exact h_.2.1|exact h_.2.2|exact h_.2.2.1|exact h_.2.2.2|exact h_.2.2.2.1|exact h_.2.2.2.2))⟩ : _∧k_≠gb217))) (fun _ hk=>hk.2) (.slice Ao32 y218.length co32)) (fun _ hk=>⟨(by first|exact hk.1.1.1|(have h_:=hk;(try simp only [and_assoc] at h_);first|exact h_.1|exact h_.2|exact h_.2.1|exact h_.2.2|exact h_.2.2.1|exact h_.2.2.2|exact h_.2.2.2.1|exact h_.2.2.2.2)),⟨(by first|exact hk.1.2|(have h_:=hk;(try simp only [and_assoc] at h_);first|exact h_.1|exact h_.2|exact h_.2.1|exact h_.2.2|exact h_.2.2.1|exact h_.2.2.2|exact h_.2.2.2.1|exact h_.2.2.2.2)),⟨(by first|exact hk.1.1.2.1|(have h_:=hk;(try simp only [and_assoc] at h_);first|exact h_.1|exact h_.2|exact h_.2.1|exact h_.2.2|exact h_.2.2.1|exact h_.2.2.2|exact h_.2.2.2.1|exact h_.2.2.2.2)),⟨(by first|exact hk.1.1.2.2.1|(have h_:=hk;(try simp only [and_assoc] at h_);first|exact h_.1|exact h_.2|exact h_.2.1|exact h_.2.2|exact h_.2.2.1|exact h_.2.2.2|exact h_.2.2.2.1|exact h_.2.2.2.2)),(by first|exact hk.1.1.2.2.2|(have h_:=hk;(try simp only [and_assoc] at h_);first|exact h_.1|exact h_.2|exact h_.2.1|exact h_.2.2|exact h_.2.2.1|exact h_.2.2.2|exact h_.2.2.2.1|exact h_.2.2.2.2))⟩⟩⟩⟩)⟩,⟨by (with_reducible repeat (first|apply zo|apply zp|apply zq));exact zG (zH (p:=⟨gb217,1,none⟩) (Kd.R_types HO220.out BK217.out (by decide)) (fun _ hk=>hk.2) (.slice Ao32 y218.length co32)) (fun _ hk=>(by first|exact hk.1|(have h_:=hk;(try simp only [and_assoc] at h_);first|exact h_.1|exact h_.2|exact h_.2.1|exact h_.2.2|exact h_.2.2.1|exact h_.2.2.2|exact h_.2.2.2.1|exact h_.2.2.2.2)))⟩,⟨by (with_reducible repeat (first|refine zh ?_ _|refine zj ?_|refine zi ?_ _|refine zv ?_ NB209_217.out _));exact BK209.out⟩,⟨by (with_reducible repeat (first|refine zh ?_ _|refine zj ?_|refine zi ?_ _|refine zv ?_ NB210_217.out _));exact BK210.out⟩,⟨by (with_reducible repeat (first|refine zh ?_ _|refine zj ?_|refine zi ?_ _));refine zw (cs := #[.int .u64 (IntKind.u64.wrap (x218000_1 * 256)),u218001]) ?_ 1 _ rfl;(with_reducible repeat (first|refine zh ?_ _|refine zj ?_|refine zi ?_ _));exact BK217.out⟩,⟨by repeat (first|(with_reducible first|exact HB.out|apply ze|apply zd|apply zf|refine zk ?_ GE209.out|refine zk ?_ GE210.out|refine zk ?_ GE217.out)|exact HB.out)⟩⟩
      ·
       rw [if_neg c27] at H
       exact absurd H (by simp)
     ·
      rw [if_neg c26] at H
      have c26b0 : decide (x218000_1 < 16777216)=false:=decide_eq_false c26
      clear c26
      simp only [Option.some.injEq,Prod.mk.injEq] at H
      obtain ⟨rfl,rfl,rfl⟩:=H
      have hnb34:=NB217_209.out;have hnc34:=NB209_217.out;have hnb35:=NB217_210.out;have hnc35:=NB210_217.out
      have hcz36_0 : wr.cell? ⟨gb217,0,none⟩=some (.int .u64 x218000_1):=(zs BK217.out 0).trans rfl
      have hcz36_1 : wr.cell? ⟨gb217,1,none⟩=some (u218001):=(zs BK217.out 1).trans rfl
      have hfz36_0:=zx BK217.out 0
      have hfz36_1:=zx BK217.out 1
      have hnb37:=NB210_209.out;have hnc37:=NB209_210.out
      have hcz38_0 : wr.cell? ⟨gb210,0,none⟩=some (.int .u64 0):=(zs BK210.out 0).trans rfl
      have hcz38_1 : wr.cell? ⟨gb210,1,none⟩=some (.slice none 0 0):=(zs BK210.out 1).trans rfl
      have hfz38_0:=zx BK210.out 0
      have hfz38_1:=zx BK210.out 1
      obtain ⟨Ao39,co39,eo39⟩:=Kd.R_slice HO_218001.out
      subst eo39
      go_wp2
      refine bodyPost_ret (results_ct rfl _ _ gb210 33 #[.int .u64 x218000_1, .slice Ao39 x218001_1.length co39] (0,0) _ rfl (by (with_reducible repeat (first|refine zh ?_ _|refine zj ?_|refine zi ?_ _));refine zw (cs := #[.int .u64 x218000_1, .slice none 0 0]) ?_ 1 _ rfl;(with_reducible repeat (first|refine zh ?_ _|refine zj ?_|refine zi ?_ _));refine zw (cs := #[.int .u64 0, .slice none 0 0]) ?_ 0 _ rfl;(with_reducible repeat (first|refine zh ?_ _|refine zj ?_|refine zi ?_ _));exact BK210.out) Try.underlying33 rfl (by kernel_rfl)) rfl ?_
      exact ⟨_,by first|rfl|(simp [errW_none,errW_some] <;> rfl)|(simp [*,errW_none,errW_some] <;> rfl),zy (Kd.R_V (by (with_reducible repeat (first|apply zo|apply zp|apply zq));exact zG (zH (p:=⟨gb210,1,none⟩) (zH (p:=⟨gb210,0,none⟩) (Kd.R_types HO_218001.out BK210.out (by decide)) (fun _ hk=>hk.2) (.int .u64 x218000_1)) (fun _ hk=>hk.2) (.slice Ao39 x218001_1.length co39)) (fun _ hk=>(by first|exact hk.1|(have h_:=hk;(try simp only [and_assoc] at h_);first|exact h_.1|exact h_.2|exact h_.2.1|exact h_.2.2|exact h_.2.2.1|exact h_.2.2.2|exact h_.2.2.2.1|exact h_.2.2.2.2))))) (fun k_ hk=>by first|exact ⟨(.inr (hk.1)),hk.2⟩|exact (.inr (hk))),by repeat (first|(with_reducible first|exact HB.out|apply ze|apply zd|apply zf|refine zk ?_ GE209.out|refine zk ?_ GE210.out|refine zk ?_ GE217.out)|exact HB.out)⟩
 ·
  replace c6:=Bool.eq_false_iff.mpr c6
  subst c6
  have H1 : (some (a0_0,l0_1,1))=some (r1,r2,r3):=by rw [if_neg (show ¬ (false=true) by decide)] at H;exact H
  clear H;have H:=H1;clear H1
  simp only [Option.some.injEq,Prod.mk.injEq] at H
  obtain ⟨rfl,rfl,rfl⟩:=H
  go_enter Try.func19,Try.ntmps19
  go_wp2_with (first|((with_reducible refine gate_dst (N:=4) rfl ?_);refine box_event ?hg (N:=4) ?hd (cs := #[.int .u64 a0_0, .slice A0_1 l0_1.length c0_1]) (t:=33) ?hr ?_;(case hd=>rfl);(case hg=>rfl);(case hr=>first|(go_simp;done)|(go_simp;rfl));intro gb209 hg w40 hbox hb;have n0_:=zm (Kd.V_below (Kd.V_elderB (by (with_reducible repeat (first|apply zA|apply zB|apply zC));exact HO0_1.out) gb209 (Nat.le_of_eq hg.symm)) hb);have n1_:=zm (zJ (by repeat (first|(with_reducible first|exact HB.out|apply ze|apply zd|apply zf)|exact HB.out)) hb);have n2_:=zm (hbox);have n3_:=zm ((by rw [hg];exact (zE (by repeat (first|(with_reducible first|exact HB.out|apply ze|apply zd|apply zf)|exact HB.out))) : w.heap.size≤gb209));have n4_:=zm ((by rw [hg];exact (zE (by repeat (first|(with_reducible first|exact HB.out|apply ze|apply zd|apply zf)|exact HB.out))) : w.heap.size≤gb209));clear HO0_1;clear HB;have HO0_1:=n0_;have HB:=n1_;have BK209:=n2_;have GW209:=n3_;have GE209:=n4_;clear n0_ n1_ n2_ n3_ n4_;clear hb hbox hg)|((with_reducible refine gate_dst (N:=8) rfl ?_);refine box_event ?hg (N:=8) ?hd (cs := #[.int .u64 0, .slice none 0 0]) (t:=33) ?hr ?_;(case hd=>rfl);(case hg=>rfl);(case hr=>first|(go_simp;done)|(go_simp;rfl));intro gb210 hg w41 hbox hb;have n0_:=zm (Kd.V_below (Kd.V_elderB (by (with_reducible repeat (first|apply zA|apply zB|apply zC));exact HO0_1.out) gb210 (Nat.le_of_eq hg.symm)) hb);have n1_:=zm (zF (g:=gb209) (o:=.cells #[.int .u64 a0_0, .slice A0_1 l0_1.length c0_1] 33 (0,0)) (by (with_reducible repeat (first|refine zh ?_ _|refine zj ?_|refine zi ?_ _));exact BK209.out) hb);have n2_:=zm (zJ (by repeat (first|(with_reducible first|exact HB.out|apply ze|apply zd|apply zf|refine zk ?_ GE209.out)|exact HB.out)) hb);have n3_:=zm (hbox);have n4_:=zm ((by rw [hg];exact (zE (by repeat (first|(with_reducible first|exact HB.out|apply ze|apply zd|apply zf|refine zk ?_ GE209.out)|exact HB.out))) : w.heap.size≤gb210));have n5_:=zm ((by rw [hg];exact (zE (by repeat (first|(with_reducible first|exact HB.out|apply ze|apply zd|apply zf|refine zk ?_ GE209.out)|exact HB.out))) : w.heap.size≤gb210));have n6_:=zm ((by rw [hg];exact zn (zD (g:=gb209) (o:=.cells #[.int .u64 a0_0, .slice A0_1 l0_1.length c0_1] 33 (0,0)) (by (with_reducible repeat (first|refine zh ?_ _|refine zj ?_|refine zi ?_ _));exact BK209.out)) : gb209≠gb210));have n7_:=zm ((by rw [hg];exact zg (zD (g:=gb209) (o:=.cells #[.int .u64 a0_0, .slice A0_1 l0_1.length c0_1] 33 (0,0)) (by (with_reducible repeat (first|refine zh ?_ _|refine zj ?_|refine zi ?_ _));exact BK209.out)) : gb210≠gb209));clear HO0_1;clear BK209;clear HB;have HO0_1:=n0_;have BK209:=n1_;have HB:=n2_;have BK210:=n3_;have GW210:=n4_;have GE210:=n5_;have NB209_210:=n6_;have NB210_209:=n7_;clear n0_ n1_ n2_ n3_ n4_ n5_ n6_ n7_;clear hb hbox hg)|((with_reducible refine gate_callee (f:=35) rfl ?_);refine goesL_ (some 16) rfl rfl Try.func35 (by kernel_rfl) rfl #[.int .i64 a1, .int .i64 a2, .int .i64 a3] rfl (by (try simp only [List.map_toArray,List.map_cons,List.map_nil]);first|done|rfl|(simp only [List.length_drop,List.length_take];rfl)) ?_;(with_reducible refine (psalteryref05_Fair.calls a1 a2 a3 false _ A5.out).mono ?_);rintro e w' ⟨rfl,⟨nd,rfl⟩⟩;refine ⟨_,rfl, ?_⟩;(try (rw [drewN_self w41];generalize hq_ : World.drewN w41 _=w41;have n0_ : Aside0 (Kd.V (Kd.int .i64) 3 w41 w.heap.size (fun k_=>(P0_1_ k_∨w.heap.size≤k_)∧k_≠gb209∧k_≠gb210) (.slice A0_1 l0_1.length c0_1) l0_1):=⟨by rw [← hq_];exact (by (with_reducible repeat (first|apply zA|apply zB|apply zC));exact zy HO0_1.out (fun _ hk=>⟨(by first|exact hk.1.1|(have h_:=hk;(try simp only [and_assoc] at h_);first|exact h_.1|exact h_.2|exact h_.2.1|exact h_.2.2|exact h_.2.2.1|exact h_.2.2.2|exact h_.2.2.2.1|exact h_.2.2.2.2)),⟨(by first|exact hk.1.2|(have h_:=hk;(try simp only [and_assoc] at h_);first|exact h_.1|exact h_.2|exact h_.2.1|exact h_.2.2|exact h_.2.2.1|exact h_.2.2.2|exact h_.2.2.2.1|exact h_.2.2.2.2)),(by first|exact hk.2|(have h_:=hk;(try simp only [and_assoc] at h_);first|exact h_.1|exact h_.2|exact h_.2.1|exact h_.2.2|exact h_.2.2.1|exact h_.2.2.2|exact h_.2.2.2.1|exact h_.2.2.2.2))⟩⟩))⟩;have n1_ : Aside0 (w41.heap[gb209]? = some (.cells #[.int .u64 a0_0, .slice A0_1 l0_1.length c0_1] 33 (0,0))):=⟨by rw [← hq_];exact (by (with_reducible repeat (first|refine zh ?_ _|refine zj ?_|refine zi ?_ _));exact BK209.out)⟩;have n2_ : Aside0 (w41.heap[gb210]? = some (.cells #[.int .u64 0, .slice none 0 0] 33 (0,0))):=⟨by rw [← hq_];exact (by (with_reducible repeat (first|refine zh ?_ _|refine zj ?_|refine zi ?_ _));exact BK210.out)⟩;have n3_ : Aside0 (Below w.heap.size w w41):=⟨by rw [← hq_];exact (by repeat (first|(with_reducible first|exact HB.out|apply ze|apply zd|apply zf|refine zk ?_ GE209.out|refine zk ?_ GE210.out)|exact HB.out))⟩;clear HO0_1 BK209 BK210 HB hq_;have HO0_1:=n0_;have BK209:=n1_;have BK210:=n2_;have HB:=n3_;clear n0_ n1_ n2_ n3_));have hnb42:=NB209_210.out;have hnc42:=NB210_209.out;have hcz43_0 : w41.cell? ⟨gb209,0,none⟩=some (.int .u64 a0_0):=(zs BK209.out 0).trans rfl;have hcz43_1 : w41.cell? ⟨gb209,1,none⟩=some (.slice A0_1 l0_1.length c0_1):=(zs BK209.out 1).trans rfl;have hfz43_0:=zx BK209.out 0;have hfz43_1:=zx BK209.out 1;have hcz44_0 : w41.cell? ⟨gb210,0,none⟩=some (.int .u64 0):=(zs BK210.out 0).trans rfl;have hcz44_1 : w41.cell? ⟨gb210,1,none⟩=some (.slice none 0 0):=(zs BK210.out 1).trans rfl;have hfz44_0:=zx BK210.out 0;have hfz44_1:=zx BK210.out 1))
  refine bodyPost_ret (results_ct rfl _ _ gb210 33 #[.int .u64 a0_0, .slice A0_1 l0_1.length c0_1] (0,0) _ rfl (by (with_reducible repeat (first|refine zh ?_ _|refine zj ?_|refine zi ?_ _));refine zw (cs := #[.int .u64 a0_0, .slice none 0 0]) ?_ 1 _ rfl;(with_reducible repeat (first|refine zh ?_ _|refine zj ?_|refine zi ?_ _));refine zw (cs := #[.int .u64 0, .slice none 0 0]) ?_ 0 _ rfl;(with_reducible repeat (first|refine zh ?_ _|refine zj ?_|refine zi ?_ _));exact BK210.out) Try.underlying33 rfl (by kernel_rfl)) rfl ?_
  exact ⟨_,by first|rfl|(simp [errW_none,errW_some] <;> rfl)|(simp [*,errW_none,errW_some] <;> rfl),by (with_reducible repeat (first|apply zA|apply zB|apply zC));exact zy (zI (p:=⟨gb210,1,none⟩) (zI (p:=⟨gb210,0,none⟩) (zy HO0_1.out (fun k_ hk=>(⟨hk,(by first|exact hk.2|(have h_:=hk;(try simp only [and_assoc] at h_);first|exact h_.1|exact h_.2|exact h_.2.1|exact h_.2.2|exact h_.2.2.1|exact h_.2.2.2|exact h_.2.2.2.1|exact h_.2.2.2.2))⟩ : _∧k_≠gb210))) (fun _ hk=>hk.2) (.int .u64 a0_0)) (fun _ hk=>hk.2) (.slice A0_1 l0_1.length c0_1)) (fun _ hk=>(by first|exact hk.1.1.1|(have h_:=hk;(try simp only [and_assoc] at h_);first|exact h_.1|exact h_.2|exact h_.2.1|exact h_.2.2|exact h_.2.2.1|exact h_.2.2.2|exact h_.2.2.2.1|exact h_.2.2.2.2))),by repeat (first|(with_reducible first|exact HB.out|apply ze|apply zd|apply zf|refine zk ?_ GE209.out|refine zk ?_ GE210.out)|exact HB.out)⟩

end Go.Proofs.Ytkaoiblgfpphoaa.Prt

namespace Go.Proofs.Ytkaoiblgfpphoaa.Prt
open Go.RowKit Go.Proofs.YtkaoiblgfpphoaaW.PrintWords Go.Proofs.YtkaoiblgfpphoaaW.PrintLast Go.Proofs.YtkaoiblgfpphoaaW.PrintMore
attribute [local go_sem] max2_int min2_int max_two min_two max_three min_three max_four min_four   -- for this text's walks alone
set_option linter.unusedVariables false
set_option linter.unusedSimpArgs false

/-! ### psalteryref05_PutNum: function 38 -/
def psalteryref05_PutNum.j0 : Nat→Int→Int→Bool→Int→List Int→Option (Int × List Int × Int)
 | 0,_,_,_,_,_=>none
 | k+1,x1,x2,x22,x495000,x495001=>if x22=true then (some (x495000,x495001,1)) else (if x2≤65536 then ((psalteryref05_Put.f k x495000 x495001 (wrap64 (x1)) (wrap64 ((wrap64 (x1))+1)) (wrap64 (x2))).bind fun bt496=>(some (bt496.1,bt496.2.1,bt496.2.2))) else ((psalteryref05_Put.f k x495000 x495001 (wrap64 (IntKind.u64.wrap (Int.tdiv x1 65536))) (wrap64 ((wrap64 (IntKind.u64.wrap (Int.tdiv x1 65536)))+1)) (wrap64 ((wrap64 (IntKind.u64.wrap (Int.tdiv (IntKind.u64.wrap (x2 - 1)) 65536)))+1))).bind fun bt501=>(if bt501.2.2=0 then ((psalteryref05_Put.f k bt501.1 bt501.2.1 (wrap64 (Int.tmod x1 65536)) (wrap64 ((wrap64 (Int.tmod x1 65536))+1)) 65536).bind fun bt507=>(if bt507.2.2=0 then (some (bt507.1,bt507.2.1,0)) else (some (x495000,x495001,bt507.2.2)))) else (some (x495000,x495001,bt501.2.2)))))
def psalteryref05_PutNum.f (k : Nat) (a0_0 : Int) (l0_1 : List Int) (a1 : Int) (a2 : Int) : Option (Int × List Int × Int):=if a2=0 then (psalteryref05_PutNum.j0 k a1 a2 true a0_0 l0_1) else (if a2 > 4294967296 then (psalteryref05_PutNum.j0 k a1 a2 true a0_0 l0_1) else (psalteryref05_PutNum.j0 k a1 a2 (decide (a1 ≥ a2)) a0_0 l0_1))
theorem psalteryref05_PutNum.mono_l : ∀ k,(∀ y0 y1 y2 y3 y4,LeO (psalteryref05_PutNum.j0 k y0 y1 y2 y3 y4) (psalteryref05_PutNum.j0 (k+1) y0 y1 y2 y3 y4))
 | 0=>fun _ _ _ _ _ r h=>by simp [psalteryref05_PutNum.j0] at h
 | k+1=>by
  have ih0:=psalteryref05_PutNum.mono_l k
  ·
   intro y0 y1 y2 y3 y4
   unfold psalteryref05_PutNum.j0
   repeat' first
   | (with_reducible exact ih0 _ _ _ _ _)
   | (with_reducible exact psalteryref05_Put.mono _ _ _ _ _ _)
   | (with_reducible exact LeO.refl _)
   | (with_reducible exact LeO.none _)
   | (with_reducible refine LeO.ite ?_ ?_)
   | (with_reducible refine LeO.bind ?_ (fun _ => ?_))
   | exact ih0 _ _ _ _ _
   | exact psalteryref05_Put.mono _ _ _ _ _ _
   | exact LeO.none _
   | refine LeO.ite ?_ ?_
   | refine LeO.bind ?_ (fun _ => ?_)
theorem psalteryref05_PutNum.mono : ∀ a0 a1 a2 a3 k,LeO (psalteryref05_PutNum.f k a0 a1 a2 a3) (psalteryref05_PutNum.f (k+1) a0 a1 a2 a3):=by
 intro a0 a1 a2 a3 k
 have ih0:=psalteryref05_PutNum.mono_l k
 unfold psalteryref05_PutNum.f
 repeat' first
   | (with_reducible exact ih0 _ _ _ _ _)
   | (with_reducible exact psalteryref05_Put.mono _ _ _ _ _ _)
   | (with_reducible exact LeO.refl _)
   | (with_reducible exact LeO.none _)
   | (with_reducible refine LeO.ite ?_ ?_)
   | (with_reducible refine LeO.bind ?_ (fun _ => ?_))
   | exact ih0 _ _ _ _ _
   | exact psalteryref05_Put.mono _ _ _ _ _ _
   | exact LeO.none _
   | refine LeO.ite ?_ ?_
   | refine LeO.bind ?_ (fun _ => ?_)
set_option maxHeartbeats 8000000 in
set_option maxRecDepth 100000 in
theorem psalteryref05_PutNum.calls (k : Nat) (a0_0 : Int) (P0_1_ : Nat→Prop) (A0_1 : Option Addr) (c0_1 : Nat) (l0_1 : List Int) (a1 : Int) (a2 : Int) (r1 : Int) (r2 : List Int) (r3 : Int) (w : World) (hs0_1 : Kd.V (Kd.int .i64) 3 w w.heap.size (fun k_=>P0_1_ k_) (.slice A0_1 l0_1.length c0_1) l0_1) (h : psalteryref05_PutNum.f k a0_0 l0_1 a1 a2=some (r1,r2,r3)) :
  Calls Try.prog 38 #[.agg #[.int .u64 a0_0, .slice A0_1 l0_1.length c0_1], .int .u64 a1, .int .u64 a2] w fun e w' => ∃ v1_ : Value,e=.returned (.tuple #[.agg #[.int .u64 r1,v1_], .int .i64 r3])∧Kd.V (Kd.int .i64) 3 w' w.heap.size (fun k_=>(P0_1_ k_∨w.heap.size≤k_)) v1_ r2∧Below w.heap.size w w' := by
 have hu33:=Try.underlying33
 have HO0_1:=zm (show Kd.V (Kd.int .i64) 3 w w.heap.size (fun k_=>(P0_1_ k_∨w.heap.size≤k_)) (.slice A0_1 l0_1.length c0_1) l0_1 from zy hs0_1 (fun k_ hk => .inl hk))
 have HB:=zm (Below.refl w.heap.size w)
 have H : (if a2=0 then (psalteryref05_PutNum.j0 k a1 a2 true a0_0 l0_1) else (if a2 > 4294967296 then (psalteryref05_PutNum.j0 k a1 a2 true a0_0 l0_1) else (psalteryref05_PutNum.j0 k a1 a2 (decide (a1 ≥ a2)) a0_0 l0_1)))=some (r1,r2,r3):=h
 clear h;have HC4:=zm H;clear H
 go_enter Try.func38,Try.ntmps38
 go_upto_region 1 with (first|((with_reducible refine gate_dst (N:=3) rfl ?_);refine box_event ?hg (N:=3) ?hd (cs := #[.int .u64 a0_0, .slice A0_1 l0_1.length c0_1]) (t:=33) ?hr ?_;(case hd=>rfl);(case hg=>rfl);(case hr=>first|(go_simp;done)|(go_simp;rfl));intro gb494 hg w5 hbox hb;have n0_:=zm (Kd.V_below (Kd.V_elderB (by (with_reducible repeat (first|apply zA|apply zB|apply zC));exact HO0_1.out) gb494 (Nat.le_of_eq hg.symm)) hb);have n1_:=zm (zJ (by repeat (first|(with_reducible first|exact HB.out|apply ze|apply zd|apply zf)|exact HB.out)) hb);have n2_:=zm (hbox);have n3_:=zm ((by rw [hg];exact (zE (by repeat (first|(with_reducible first|exact HB.out|apply ze|apply zd|apply zf)|exact HB.out))) : w.heap.size≤gb494));have n4_:=zm ((by rw [hg];exact (zE (by repeat (first|(with_reducible first|exact HB.out|apply ze|apply zd|apply zf)|exact HB.out))) : w.heap.size≤gb494));clear HO0_1;clear HB;have HO0_1:=n0_;have HB:=n1_;have BK494:=n2_;have GW494:=n3_;have GE494:=n4_;clear n0_ n1_ n2_ n3_ n4_;clear hb hbox hg)|((with_reducible refine gate_dst (N:=6) rfl ?_);refine box_event ?hg (N:=6) ?hd (cs := #[.int .u64 0, .slice none 0 0]) (t:=33) ?hr ?_;(case hd=>rfl);(case hg=>rfl);(case hr=>first|(go_simp;done)|(go_simp;rfl));intro gb495 hg w6 hbox hb;have n0_:=zm (Kd.V_below (Kd.V_elderB (by (with_reducible repeat (first|apply zA|apply zB|apply zC));exact HO0_1.out) gb495 (Nat.le_of_eq hg.symm)) hb);have n1_:=zm (zF (g:=gb494) (o:=.cells #[.int .u64 a0_0, .slice A0_1 l0_1.length c0_1] 33 (0,0)) (by (with_reducible repeat (first|refine zh ?_ _|refine zj ?_|refine zi ?_ _));exact BK494.out) hb);have n2_:=zm (zJ (by repeat (first|(with_reducible first|exact HB.out|apply ze|apply zd|apply zf|refine zk ?_ GE494.out)|exact HB.out)) hb);have n3_:=zm (hbox);have n4_:=zm ((by rw [hg];exact (zE (by repeat (first|(with_reducible first|exact HB.out|apply ze|apply zd|apply zf|refine zk ?_ GE494.out)|exact HB.out))) : w.heap.size≤gb495));have n5_:=zm ((by rw [hg];exact (zE (by repeat (first|(with_reducible first|exact HB.out|apply ze|apply zd|apply zf|refine zk ?_ GE494.out)|exact HB.out))) : w.heap.size≤gb495));have n6_:=zm ((by rw [hg];exact zn (zD (g:=gb494) (o:=.cells #[.int .u64 a0_0, .slice A0_1 l0_1.length c0_1] 33 (0,0)) (by (with_reducible repeat (first|refine zh ?_ _|refine zj ?_|refine zi ?_ _));exact BK494.out)) : gb494≠gb495));have n7_:=zm ((by rw [hg];exact zg (zD (g:=gb494) (o:=.cells #[.int .u64 a0_0, .slice A0_1 l0_1.length c0_1] 33 (0,0)) (by (with_reducible repeat (first|refine zh ?_ _|refine zj ?_|refine zi ?_ _));exact BK494.out)) : gb495≠gb494));clear HO0_1;clear BK494;clear HB;have HO0_1:=n0_;have BK494:=n1_;have HB:=n2_;have BK495:=n3_;have GW495:=n4_;have GE495:=n5_;have NB494_495:=n6_;have NB495_494:=n7_;clear n0_ n1_ n2_ n3_ n4_ n5_ n6_ n7_;clear hb hbox hg))
 (try simp only [Act.put,List.setIfInBounds_toArray,List.set_cons_zero,List.set_cons_succ])
 go_cut [22] (fun v22 wc => ∃ (kq : Nat) (x22_3 : Bool),v22=.bool x22_3∧Aside0 (psalteryref05_PutNum.j0 kq a1 a2 x22_3 a0_0 l0_1=some (r1,r2,r3))∧Aside0 (kq≤k)∧Aside0 (Kd.V (Kd.int .i64) 3 wc w.heap.size (fun k_=>(P0_1_ k_∨w.heap.size≤k_)∧k_≠gb494∧k_≠gb495) (.slice A0_1 l0_1.length c0_1) l0_1)∧Aside0 (wc.heap[gb494]? = some (.cells #[.int .u64 a0_0,(.slice A0_1 l0_1.length c0_1)] 33 (0,0)))∧Aside0 (wc.heap[gb495]? = some (.cells #[.int .u64 0,(.slice none 0 0)] 33 (0,0)))∧Aside0 (Below w.heap.size w wc))
 case first =>
  have H:=HC4.out;clear HC4
  by_cases c7 : a2=0
  ·
   rw [if_pos c7] at H
   have c7b0 : (a2 == 0)=true:=beq_iff_eq.mpr c7
   have c7b1 : (a2 != 0)=false:=bne_eq_false_iff_eq.mpr c7
   clear c7
   (first|rw [c7b0]|(simp only [i64_w,i32_w];rw [c7b0])|skip)
   have H' := zm H
   clear H
   go_wp2
   go_meet
   case rel=>exact ⟨_,(true),(by first|rfl|(simp;done)|(simp [*];done)),H',⟨by first|omega|exact Nat.le_refl _⟩,⟨by (with_reducible repeat (first|apply zA|apply zB|apply zC));exact zy HO0_1.out (fun _ hk=>⟨hk.1.1,⟨hk.1.2,hk.2⟩⟩)⟩,⟨by (with_reducible repeat (first|refine zh ?_ _|refine zj ?_|refine zi ?_ _));exact BK494.out⟩,⟨by (with_reducible repeat (first|refine zh ?_ _|refine zj ?_|refine zi ?_ _));exact BK495.out⟩,⟨by repeat (first|(with_reducible first|exact HB.out|apply ze|apply zd|apply zf|refine zk ?_ GE494.out|refine zk ?_ GE495.out)|exact HB.out)⟩⟩
  ·
   rw [if_neg c7] at H
   have c7b0 : (a2 == 0)=false:=beq_eq_false_iff_ne.mpr c7
   have c7b1 : (a2 != 0)=true:=bne_iff_ne.mpr c7
   (first|rw [c7b0]|(simp only [i64_w,i32_w];rw [c7b0])|skip)
   by_cases c8 : a2 > 4294967296
   ·
    rw [if_pos c8] at H
    have c8b0 : decide (4294967296 < a2)=true:=decide_eq_true c8
    clear c8
    have H' := zm H
    clear H
    go_wp2
    go_meet
    case rel=>exact ⟨_,(true),(by first|rfl|(simp;done)|(simp [*];done)),H',⟨by first|omega|exact Nat.le_refl _⟩,⟨by (with_reducible repeat (first|apply zA|apply zB|apply zC));exact zy HO0_1.out (fun _ hk=>⟨hk.1.1,⟨hk.1.2,hk.2⟩⟩)⟩,⟨by (with_reducible repeat (first|refine zh ?_ _|refine zj ?_|refine zi ?_ _));exact BK494.out⟩,⟨by (with_reducible repeat (first|refine zh ?_ _|refine zj ?_|refine zi ?_ _));exact BK495.out⟩,⟨by repeat (first|(with_reducible first|exact HB.out|apply ze|apply zd|apply zf|refine zk ?_ GE494.out|refine zk ?_ GE495.out)|exact HB.out)⟩⟩
   ·
    rw [if_neg c8] at H
    have c8b0 : decide (4294967296 < a2)=false:=decide_eq_false c8
    clear c8
    have H' := zm H
    clear H
    go_wp2
    go_meet
    case rel=>exact ⟨_,(decide (a1 ≥ a2)),(by first|rfl|(simp;done)|(simp [*];done)),H',⟨by first|omega|exact Nat.le_refl _⟩,⟨by (with_reducible repeat (first|apply zA|apply zB|apply zC));exact zy HO0_1.out (fun _ hk=>⟨hk.1.1,⟨hk.1.2,hk.2⟩⟩)⟩,⟨by (with_reducible repeat (first|refine zh ?_ _|refine zj ?_|refine zi ?_ _));exact BK494.out⟩,⟨by (with_reducible repeat (first|refine zh ?_ _|refine zj ?_|refine zi ?_ _));exact BK495.out⟩,⟨by repeat (first|(with_reducible first|exact HB.out|apply ze|apply zd|apply zf|refine zk ?_ GE494.out|refine zk ?_ GE495.out)|exact HB.out)⟩⟩
 case rest =>
  clear HC4
  try clear p2
  try clear c3
  try clear c7
  try clear c7b0
  try clear c7b1
  try clear c8
  try clear c8b0
  obtain ⟨kq,x22_3,rfl,HA,HJ3,HO_495001,BK494,BK495,HB⟩:=hcut
  cases kq with
  | zero=>exact absurd HA.out (by simp [psalteryref05_PutNum.j0])
  | succ kj3 =>
   have H:=HA.out;clear HA
   simp only [psalteryref05_PutNum.j0] at H
   by_cases c9 : x22_3=true
   ·
    subst c9
    have H1 : (some (a0_0,l0_1,1))=some (r1,r2,r3):=by rw [if_pos rfl] at H;exact H
    clear H;have H:=H1;clear H1
    simp only [Option.some.injEq,Prod.mk.injEq] at H
    obtain ⟨rfl,rfl,rfl⟩:=H
    have hnb10:=NB494_495.out;have hnc10:=NB495_494.out
    have hcz11_0 : wc.cell? ⟨gb494,0,none⟩=some (.int .u64 a0_0):=(zs BK494.out 0).trans rfl
    have hcz11_1 : wc.cell? ⟨gb494,1,none⟩=some (.slice A0_1 l0_1.length c0_1):=(zs BK494.out 1).trans rfl
    have hfz11_0:=zx BK494.out 0
    have hfz11_1:=zx BK494.out 1
    have hcz12_0 : wc.cell? ⟨gb495,0,none⟩=some (.int .u64 0):=(zs BK495.out 0).trans rfl
    have hcz12_1 : wc.cell? ⟨gb495,1,none⟩=some (.slice none 0 0):=(zs BK495.out 1).trans rfl
    have hfz12_0:=zx BK495.out 0
    have hfz12_1:=zx BK495.out 1
    go_wp2
    refine bodyPost_ret (results_ct rfl _ _ gb495 33 #[.int .u64 a0_0, .slice A0_1 l0_1.length c0_1] (0,0) _ rfl (by (with_reducible repeat (first|refine zh ?_ _|refine zj ?_|refine zi ?_ _));refine zw (cs := #[.int .u64 a0_0, .slice none 0 0]) ?_ 1 _ rfl;(with_reducible repeat (first|refine zh ?_ _|refine zj ?_|refine zi ?_ _));refine zw (cs := #[.int .u64 0, .slice none 0 0]) ?_ 0 _ rfl;(with_reducible repeat (first|refine zh ?_ _|refine zj ?_|refine zi ?_ _));exact BK495.out) Try.underlying33 rfl (by kernel_rfl)) rfl ?_
    exact ⟨_,by first|rfl|(simp [errW_none,errW_some] <;> rfl)|(simp [*,errW_none,errW_some] <;> rfl),by (with_reducible repeat (first|apply zA|apply zB|apply zC));exact zy (zI (p:=⟨gb495,1,none⟩) (zI (p:=⟨gb495,0,none⟩) (zy HO_495001.out (fun k_ hk=>(⟨hk,hk.2.2⟩ : _∧k_≠gb495))) (fun _ hk=>hk.2) (.int .u64 a0_0)) (fun _ hk=>hk.2) (.slice A0_1 l0_1.length c0_1)) (fun _ hk=>hk.1.1),by repeat (first|(with_reducible first|exact HB.out|apply ze|apply zd|apply zf|refine zk ?_ GE494.out|refine zk ?_ GE495.out)|exact HB.out)⟩
   ·
    replace c9:=Bool.eq_false_iff.mpr c9
    subst c9
    have H1 : (if a2≤65536 then ((psalteryref05_Put.f kj3 a0_0 l0_1 (wrap64 (a1)) (wrap64 ((wrap64 (a1))+1)) (wrap64 (a2))).bind fun bt496=>(some (bt496.1,bt496.2.1,bt496.2.2))) else ((psalteryref05_Put.f kj3 a0_0 l0_1 (wrap64 (IntKind.u64.wrap (Int.tdiv a1 65536))) (wrap64 ((wrap64 (IntKind.u64.wrap (Int.tdiv a1 65536)))+1)) (wrap64 ((wrap64 (IntKind.u64.wrap (Int.tdiv (IntKind.u64.wrap (a2 - 1)) 65536)))+1))).bind fun bt501=>(if bt501.2.2=0 then ((psalteryref05_Put.f kj3 bt501.1 bt501.2.1 (wrap64 (Int.tmod a1 65536)) (wrap64 ((wrap64 (Int.tmod a1 65536))+1)) 65536).bind fun bt507=>(if bt507.2.2=0 then (some (bt507.1,bt507.2.1,0)) else (some (a0_0,l0_1,bt507.2.2)))) else (some (a0_0,l0_1,bt501.2.2)))))=some (r1,r2,r3):=by rw [if_neg (show ¬ (false=true) by decide)] at H;exact H
    clear H;have H:=H1;clear H1
    by_cases c13 : a2≤65536
    ·
     rw [if_pos c13] at H
     have c13b0 : decide (a2≤65536)=true:=decide_eq_true c13
     clear c13
     replace H:=Option.bind_eq_some_iff.mp H
     obtain ⟨⟨t496,t497,t500⟩,A140,H⟩:=H
     replace H : (some (t496,t497,t500))=some (r1,r2,r3):=H
     have A14:=zm A140;clear A140
     simp only [Option.some.injEq,Prod.mk.injEq] at H
     obtain ⟨rfl,rfl,rfl⟩:=H
     have hnb15:=NB494_495.out;have hnc15:=NB495_494.out
     have hcz16_0 : wc.cell? ⟨gb494,0,none⟩=some (.int .u64 a0_0):=(zs BK494.out 0).trans rfl
     have hcz16_1 : wc.cell? ⟨gb494,1,none⟩=some (.slice A0_1 l0_1.length c0_1):=(zs BK494.out 1).trans rfl
     have hfz16_0:=zx BK494.out 0
     have hfz16_1:=zx BK494.out 1
     go_wp2_with (first|((with_reducible refine gate_callee (f:=19) rfl ?_);refine goesL_ (some 34) rfl rfl Try.func19 (by kernel_rfl) rfl #[.agg #[.int .u64 a0_0, .slice A0_1 l0_1.length c0_1], .int .i64 (wrap64 (a1)), .int .i64 (wrap64 ((wrap64 (a1))+1)), .int .i64 (wrap64 (a2))] rfl (by (try simp only [List.map_toArray,List.map_cons,List.map_nil]);first|done|rfl|(simp only [List.length_drop,List.length_take];rfl)) ?_;(with_reducible refine (psalteryref05_Put.calls kj3 a0_0 (fun k_=>((P0_1_ k_∨w.heap.size≤k_)∧(k_≠gb494∧k_≠gb495))) _ _ l0_1 (wrap64 (a1)) (wrap64 ((wrap64 (a1))+1)) (wrap64 (a2)) t496 t497 t500 _ ?side1 A14.out).mono ?_);(case side1=>exact HO_495001.out);rintro e w17 ⟨v498,rfl,ho0,hb⟩;refine ⟨_,rfl, ?_⟩;have n0_:=zm (Kd.V_below (by (with_reducible repeat (first|apply zA|apply zB|apply zC));exact HO_495001.out) hb);have n1_:=zm (Kd.V_lower (zy (ok' := fun k_=>(P0_1_ k_∨w.heap.size≤k_)∧k_≠gb494∧k_≠gb495) ho0 (fun k_ hk_=>⟨Or.elim hk_ (fun hs_=>hs_.1) (fun hn_=>(.inr (Nat.le_trans (zE (by repeat (first|(with_reducible first|exact HB.out|apply ze|apply zd|apply zf|refine zk ?_ GE494.out|refine zk ?_ GE495.out)|exact HB.out))) hn_))),Or.elim hk_ (fun hs_=>hs_.2.1) (fun hn_=>(Kd.freshB (g:=gb494) (o:=.cells #[.int .u64 a0_0, .slice A0_1 l0_1.length c0_1] 33 (0,0)) (by (with_reducible repeat (first|refine zh ?_ _|refine zj ?_|refine zi ?_ _));exact BK494.out) k_ hn_)),Or.elim hk_ (fun hs_=>hs_.2.2) (fun hn_=>(Kd.freshB (g:=gb495) (o:=.cells #[.int .u64 0, .slice none 0 0] 33 (0,0)) (by (with_reducible repeat (first|refine zh ?_ _|refine zj ?_|refine zi ?_ _));exact BK495.out) k_ hn_))⟩)) (zE (by repeat (first|(with_reducible first|exact HB.out|apply ze|apply zd|apply zf|refine zk ?_ GE494.out|refine zk ?_ GE495.out)|exact HB.out))));have n2_:=zm (zF (g:=gb494) (o:=.cells #[.int .u64 a0_0, .slice A0_1 l0_1.length c0_1] 33 (0,0)) (by (with_reducible repeat (first|refine zh ?_ _|refine zj ?_|refine zi ?_ _));exact BK494.out) hb);have n3_:=zm (zF (g:=gb495) (o:=.cells #[.int .u64 0, .slice none 0 0] 33 (0,0)) (by (with_reducible repeat (first|refine zh ?_ _|refine zj ?_|refine zi ?_ _));exact BK495.out) hb);have n4_:=zm (zJ (by repeat (first|(with_reducible first|exact HB.out|apply ze|apply zd|apply zf|refine zk ?_ GE494.out|refine zk ?_ GE495.out)|exact HB.out)) hb);clear HO_495001;clear BK494;clear BK495;clear HB;have HO_495001:=n0_;have HO499:=n1_;have BK494:=n2_;have BK495:=n3_;have HB:=n4_;clear n0_ n1_ n2_ n3_ n4_;(try clear hb);(try clear hb2);(try clear hk);(try clear hi);(try clear ho0);have hcz18_0 : w17.cell? ⟨gb495,0,none⟩=some (.int .u64 0):=(zs BK495.out 0).trans rfl;have hcz18_1 : w17.cell? ⟨gb495,1,none⟩=some (.slice none 0 0):=(zs BK495.out 1).trans rfl;have hfz18_0:=zx BK495.out 0;have hfz18_1:=zx BK495.out 1;obtain ⟨Ao19,co19,eo19⟩:=Kd.V_slice HO499.out;subst eo19))
     refine bodyPost_ret (results_ct rfl _ _ gb495 33 #[.int .u64 t496, .slice Ao19 t497.length co19] (0,0) _ rfl (by (with_reducible repeat (first|refine zh ?_ _|refine zj ?_|refine zi ?_ _));refine zw (cs := #[.int .u64 t496, .slice none 0 0]) ?_ 1 _ rfl;(with_reducible repeat (first|refine zh ?_ _|refine zj ?_|refine zi ?_ _));refine zw (cs := #[.int .u64 0, .slice none 0 0]) ?_ 0 _ rfl;(with_reducible repeat (first|refine zh ?_ _|refine zj ?_|refine zi ?_ _));exact BK495.out) Try.underlying33 rfl (by kernel_rfl)) rfl ?_
     exact ⟨_,by first|rfl|(simp [errW_none,errW_some] <;> rfl)|(simp [*,errW_none,errW_some] <;> rfl),by (with_reducible repeat (first|apply zA|apply zB|apply zC));exact zy (zI (p:=⟨gb495,1,none⟩) (zI (p:=⟨gb495,0,none⟩) (zy HO499.out (fun k_ hk=>(⟨hk,hk.2.2⟩ : _∧k_≠gb495))) (fun _ hk=>hk.2) (.int .u64 t496)) (fun _ hk=>hk.2) (.slice Ao19 t497.length co19)) (fun _ hk=>hk.1.1),by repeat (first|(with_reducible first|exact HB.out|apply ze|apply zd|apply zf|refine zk ?_ GE494.out|refine zk ?_ GE495.out)|exact HB.out)⟩
    ·
     rw [if_neg c13] at H
     have c13b0 : decide (a2≤65536)=false:=decide_eq_false c13
     clear c13
     replace H:=Option.bind_eq_some_iff.mp H
     obtain ⟨⟨t501,t502,t505⟩,A200,H⟩:=H
     replace H : (if t505=0 then ((psalteryref05_Put.f kj3 t501 t502 (wrap64 (Int.tmod a1 65536)) (wrap64 ((wrap64 (Int.tmod a1 65536))+1)) 65536).bind fun bt507=>(if bt507.2.2=0 then (some (bt507.1,bt507.2.1,0)) else (some (a0_0,l0_1,bt507.2.2)))) else (some (a0_0,l0_1,t505)))=some (r1,r2,r3):=H
     have A20:=zm A200;clear A200
     by_cases c21 : t505=0
     ·
      rw [if_pos c21] at H
      have c21b0 : (t505 == 0)=true:=beq_iff_eq.mpr c21
      have c21b1 : (t505 != 0)=false:=bne_eq_false_iff_eq.mpr c21
      clear c21
      replace H:=Option.bind_eq_some_iff.mp H
      obtain ⟨⟨t507,t508,t511⟩,A220,H⟩:=H
      replace H : (if t511=0 then (some (t507,t508,0)) else (some (a0_0,l0_1,t511)))=some (r1,r2,r3):=H
      have A22:=zm A220;clear A220
      by_cases c23 : t511=0
      ·
       rw [if_pos c23] at H
       have c23b0 : (t511 == 0)=true:=beq_iff_eq.mpr c23
       have c23b1 : (t511 != 0)=false:=bne_eq_false_iff_eq.mpr c23
       clear c23
       simp only [Option.some.injEq,Prod.mk.injEq] at H
       obtain ⟨rfl,rfl,rfl⟩:=H
       have hnb24:=NB494_495.out;have hnc24:=NB495_494.out
       have hcz25_0 : wc.cell? ⟨gb494,0,none⟩=some (.int .u64 a0_0):=(zs BK494.out 0).trans rfl
       have hcz25_1 : wc.cell? ⟨gb494,1,none⟩=some (.slice A0_1 l0_1.length c0_1):=(zs BK494.out 1).trans rfl
       have hfz25_0:=zx BK494.out 0
       have hfz25_1:=zx BK494.out 1
       go_wp2_with (first|((with_reducible refine gate_callee (f:=19) rfl ?_);refine goesL_ (some 51) rfl rfl Try.func19 (by kernel_rfl) rfl #[.agg #[.int .u64 a0_0, .slice A0_1 l0_1.length c0_1], .int .i64 (wrap64 (IntKind.u64.wrap (Int.tdiv a1 65536))), .int .i64 (wrap64 ((wrap64 (IntKind.u64.wrap (Int.tdiv a1 65536)))+1)), .int .i64 (wrap64 ((wrap64 (IntKind.u64.wrap (Int.tdiv (IntKind.u64.wrap (a2 - 1)) 65536)))+1))] rfl (by (try simp only [List.map_toArray,List.map_cons,List.map_nil]);first|done|rfl|(simp only [List.length_drop,List.length_take];rfl)) ?_;(with_reducible refine (psalteryref05_Put.calls kj3 a0_0 (fun k_=>((P0_1_ k_∨w.heap.size≤k_)∧(k_≠gb494∧k_≠gb495))) _ _ l0_1 (wrap64 (IntKind.u64.wrap (Int.tdiv a1 65536))) (wrap64 ((wrap64 (IntKind.u64.wrap (Int.tdiv a1 65536)))+1)) (wrap64 ((wrap64 (IntKind.u64.wrap (Int.tdiv (IntKind.u64.wrap (a2 - 1)) 65536)))+1)) t501 t502 t505 _ ?side1 A20.out).mono ?_);(case side1=>exact HO_495001.out);rintro e w26 ⟨v503,rfl,ho0,hb⟩;refine ⟨_,rfl, ?_⟩;have n0_:=zm (Kd.V_below (by (with_reducible repeat (first|apply zA|apply zB|apply zC));exact HO_495001.out) hb);have n1_:=zm (Kd.V_lower (zy (ok' := fun k_=>(P0_1_ k_∨w.heap.size≤k_)∧k_≠gb494∧k_≠gb495) ho0 (fun k_ hk_=>⟨Or.elim hk_ (fun hs_=>hs_.1) (fun hn_=>(.inr (Nat.le_trans (zE (by repeat (first|(with_reducible first|exact HB.out|apply ze|apply zd|apply zf|refine zk ?_ GE494.out|refine zk ?_ GE495.out)|exact HB.out))) hn_))),Or.elim hk_ (fun hs_=>hs_.2.1) (fun hn_=>(Kd.freshB (g:=gb494) (o:=.cells #[.int .u64 a0_0, .slice A0_1 l0_1.length c0_1] 33 (0,0)) (by (with_reducible repeat (first|refine zh ?_ _|refine zj ?_|refine zi ?_ _));exact BK494.out) k_ hn_)),Or.elim hk_ (fun hs_=>hs_.2.2) (fun hn_=>(Kd.freshB (g:=gb495) (o:=.cells #[.int .u64 0, .slice none 0 0] 33 (0,0)) (by (with_reducible repeat (first|refine zh ?_ _|refine zj ?_|refine zi ?_ _));exact BK495.out) k_ hn_))⟩)) (zE (by repeat (first|(with_reducible first|exact HB.out|apply ze|apply zd|apply zf|refine zk ?_ GE494.out|refine zk ?_ GE495.out)|exact HB.out))));have n2_:=zm (zF (g:=gb494) (o:=.cells #[.int .u64 a0_0, .slice A0_1 l0_1.length c0_1] 33 (0,0)) (by (with_reducible repeat (first|refine zh ?_ _|refine zj ?_|refine zi ?_ _));exact BK494.out) hb);have n3_:=zm (zF (g:=gb495) (o:=.cells #[.int .u64 0, .slice none 0 0] 33 (0,0)) (by (with_reducible repeat (first|refine zh ?_ _|refine zj ?_|refine zi ?_ _));exact BK495.out) hb);have n4_:=zm (zJ (by repeat (first|(with_reducible first|exact HB.out|apply ze|apply zd|apply zf|refine zk ?_ GE494.out|refine zk ?_ GE495.out)|exact HB.out)) hb);clear HO_495001;clear BK494;clear BK495;clear HB;have HO_495001:=n0_;have HO504:=n1_;have BK494:=n2_;have BK495:=n3_;have HB:=n4_;clear n0_ n1_ n2_ n3_ n4_;(try clear hb);(try clear hb2);(try clear hk);(try clear hi);(try clear ho0))|((with_reducible refine gate_dst (N:=8) rfl ?_);refine box_event ?hg (N:=8) ?hd (cs := #[.int .u64 0, .slice none 0 0]) (t:=33) ?hr ?_;(case hd=>rfl);(case hg=>rfl);(case hr=>first|(go_simp;done)|(go_simp;rfl));intro gb506 hg w27 hbox hb;have n0_:=zm (Kd.V_below (Kd.V_elderB (by (with_reducible repeat (first|apply zA|apply zB|apply zC));exact HO_495001.out) gb506 (Nat.le_of_eq hg.symm)) hb);have n1_:=zm (Kd.V_below (Kd.V_elderB (by (with_reducible repeat (first|apply zA|apply zB|apply zC));exact HO504.out) gb506 (Nat.le_of_eq hg.symm)) hb);have n2_:=zm (zF (g:=gb494) (o:=.cells #[.int .u64 a0_0, .slice A0_1 l0_1.length c0_1] 33 (0,0)) (by (with_reducible repeat (first|refine zh ?_ _|refine zj ?_|refine zi ?_ _));exact BK494.out) hb);have n3_:=zm (zF (g:=gb495) (o:=.cells #[.int .u64 0, .slice none 0 0] 33 (0,0)) (by (with_reducible repeat (first|refine zh ?_ _|refine zj ?_|refine zi ?_ _));exact BK495.out) hb);have n4_:=zm (zJ (by repeat (first|(with_reducible first|exact HB.out|apply ze|apply zd|apply zf|refine zk ?_ GE494.out|refine zk ?_ GE495.out)|exact HB.out)) hb);have n5_:=zm (hbox);have n6_:=zm ((by rw [hg];exact (zE (by repeat (first|(with_reducible first|exact HB.out|apply ze|apply zd|apply zf|refine zk ?_ GE494.out|refine zk ?_ GE495.out)|exact HB.out))) : w.heap.size≤gb506));have n7_:=zm ((by rw [hg];exact (zE (by repeat (first|(with_reducible first|exact HB.out|apply ze|apply zd|apply zf|refine zk ?_ GE494.out|refine zk ?_ GE495.out)|exact HB.out))) : w.heap.size≤gb506));have n8_:=zm ((by rw [hg];exact zn (zD (g:=gb494) (o:=.cells #[.int .u64 a0_0, .slice A0_1 l0_1.length c0_1] 33 (0,0)) (by (with_reducible repeat (first|refine zh ?_ _|refine zj ?_|refine zi ?_ _));exact BK494.out)) : gb494≠gb506));have n9_:=zm ((by rw [hg];exact zg (zD (g:=gb494) (o:=.cells #[.int .u64 a0_0, .slice A0_1 l0_1.length c0_1] 33 (0,0)) (by (with_reducible repeat (first|refine zh ?_ _|refine zj ?_|refine zi ?_ _));exact BK494.out)) : gb506≠gb494));have n10_:=zm ((by rw [hg];exact zn (zD (g:=gb495) (o:=.cells #[.int .u64 0, .slice none 0 0] 33 (0,0)) (by (with_reducible repeat (first|refine zh ?_ _|refine zj ?_|refine zi ?_ _));exact BK495.out)) : gb495≠gb506));have n11_:=zm ((by rw [hg];exact zg (zD (g:=gb495) (o:=.cells #[.int .u64 0, .slice none 0 0] 33 (0,0)) (by (with_reducible repeat (first|refine zh ?_ _|refine zj ?_|refine zi ?_ _));exact BK495.out)) : gb506≠gb495));clear HO_495001;clear HO504;clear BK494;clear BK495;clear HB;have HO_495001:=n0_;have HO504:=n1_;have BK494:=n2_;have BK495:=n3_;have HB:=n4_;have BK506:=n5_;have GW506:=n6_;have GE506:=n7_;have NB494_506:=n8_;have NB506_494:=n9_;have NB495_506:=n10_;have NB506_495:=n11_;clear n0_ n1_ n2_ n3_ n4_ n5_ n6_ n7_ n8_ n9_ n10_ n11_;clear hb hbox hg;have hnb28:=NB506_494.out;have hnc28:=NB494_506.out;have hnb29:=NB506_495.out;have hnc29:=NB495_506.out;have hcz30_0 : w27.cell? ⟨gb506,0,none⟩=some (.int .u64 0):=(zs BK506.out 0).trans rfl;have hcz30_1 : w27.cell? ⟨gb506,1,none⟩=some (.slice none 0 0):=(zs BK506.out 1).trans rfl;have hfz30_0:=zx BK506.out 0;have hfz30_1:=zx BK506.out 1;obtain ⟨Ao31,co31,eo31⟩:=Kd.V_slice HO504.out;subst eo31)|((with_reducible refine gate_store (t:=33) (p:=8) rfl ?_);refine store_event (t:=33) (p:=8) (v := ?vo_w32) (w1:=((w27.setCell ⟨gb506,0,none⟩ (.int .u64 t501)).setCell ⟨gb506,1,none⟩ (.slice Ao31 t502.length co31))) ?hg ?ho ?hn ?hr ?_;(case ho=>rfl);(case hg=>rfl);(case hn=>rfl);(case hr=>first|(go_simp;done)|(go_simp;rfl));intro w32 hw;have n0_ : Aside0 (Kd.V (Kd.int .i64) 3 w32 w.heap.size (fun k_=>(P0_1_ k_∨w.heap.size≤k_)∧k_≠gb494∧k_≠gb495∧k_≠gb506) (.slice A0_1 l0_1.length c0_1) l0_1):=⟨(by rw [hw];exact (by (with_reducible repeat (first|apply zA|apply zB|apply zC));exact zy (zI (p:=⟨gb506,1,none⟩) (zI (p:=⟨gb506,0,none⟩) (zy HO_495001.out (fun k_ hk=>(⟨hk,hk.2⟩ : _∧k_≠gb506))) (fun _ hk=>hk.2) (.int .u64 t501)) (fun _ hk=>hk.2) (.slice Ao31 t502.length co31)) (fun _ hk=>⟨hk.1.1.1,⟨hk.1.1.2.1,⟨hk.1.1.2.2,hk.1.2⟩⟩⟩)))⟩;have n1_ : Aside0 (Kd.V (Kd.int .i64) 3 w32 w.heap.size (fun k_=>(P0_1_ k_∨w.heap.size≤k_)∧k_≠gb494∧k_≠gb495∧k_≠gb506) (.slice Ao31 t502.length co31) t502):=⟨(by rw [hw];exact (by (with_reducible repeat (first|apply zA|apply zB|apply zC));exact zy (zI (p:=⟨gb506,1,none⟩) (zI (p:=⟨gb506,0,none⟩) (zy HO504.out (fun k_ hk=>(⟨hk,hk.2⟩ : _∧k_≠gb506))) (fun _ hk=>hk.2) (.int .u64 t501)) (fun _ hk=>hk.2) (.slice Ao31 t502.length co31)) (fun _ hk=>⟨hk.1.1.1,⟨hk.1.1.2.1,⟨hk.1.1.2.2,hk.1.2⟩⟩⟩)))⟩;have n2_ : Aside0 (w32.heap[gb494]? = some (.cells #[.int .u64 a0_0, .slice A0_1 l0_1.length c0_1] 33 (0,0))):=⟨(by rw [hw];exact (by (with_reducible repeat (first|refine zh ?_ _|refine zj ?_|refine zi ?_ _|refine zv ?_ NB494_506.out _));exact BK494.out))⟩;have n3_ : Aside0 (w32.heap[gb495]? = some (.cells #[.int .u64 0, .slice none 0 0] 33 (0,0))):=⟨(by rw [hw];exact (by (with_reducible repeat (first|refine zh ?_ _|refine zj ?_|refine zi ?_ _|refine zv ?_ NB495_506.out _));exact BK495.out))⟩;have n4_ : Aside0 (w32.heap[gb506]? = some (.cells #[.int .u64 t501, .slice Ao31 t502.length co31] 33 (0,0))):=⟨(by rw [hw];exact (by (with_reducible repeat (first|refine zh ?_ _|refine zj ?_|refine zi ?_ _));refine zw (cs := #[.int .u64 t501, .slice none 0 0]) ?_ 1 _ rfl;(with_reducible repeat (first|refine zh ?_ _|refine zj ?_|refine zi ?_ _));refine zw (cs := #[.int .u64 0, .slice none 0 0]) ?_ 0 _ rfl;(with_reducible repeat (first|refine zh ?_ _|refine zj ?_|refine zi ?_ _));exact BK506.out))⟩;have n5_ : Aside0 (Below w.heap.size w w32):=⟨(by rw [hw];exact (by repeat (first|(with_reducible first|exact HB.out|apply ze|apply zd|apply zf|refine zk ?_ GE494.out|refine zk ?_ GE495.out|refine zk ?_ GE506.out)|exact HB.out)))⟩;clear hw;clear HO_495001;clear HO504;clear BK494;clear BK495;clear BK506;clear HB;have HO_495001:=n0_;have HO504:=n1_;have BK494:=n2_;have BK495:=n3_;have BK506:=n4_;have HB:=n5_;clear n0_ n1_ n2_ n3_ n4_ n5_;have hcz33_0 : w32.cell? ⟨gb506,0,none⟩=some (.int .u64 t501):=(zs BK506.out 0).trans rfl;have hcz33_1 : w32.cell? ⟨gb506,1,none⟩=some (.slice Ao31 t502.length co31):=(zs BK506.out 1).trans rfl;have hfz33_0:=zx BK506.out 0;have hfz33_1:=zx BK506.out 1)|((with_reducible refine gate_callee (f:=19) rfl ?_);refine goesL_ (some 67) rfl rfl Try.func19 (by kernel_rfl) rfl #[.agg #[.int .u64 t501, .slice Ao31 t502.length co31], .int .i64 (wrap64 (Int.tmod a1 65536)), .int .i64 (wrap64 ((wrap64 (Int.tmod a1 65536))+1)), .int .i64 65536] rfl (by (try simp only [List.map_toArray,List.map_cons,List.map_nil]);first|done|rfl|(simp only [List.length_drop,List.length_take];rfl)) ?_;(with_reducible refine (psalteryref05_Put.calls kj3 t501 (fun k_=>((P0_1_ k_∨w.heap.size≤k_)∧(k_≠gb494∧(k_≠gb495∧k_≠gb506)))) _ _ t502 (wrap64 (Int.tmod a1 65536)) (wrap64 ((wrap64 (Int.tmod a1 65536))+1)) 65536 t507 t508 t511 _ ?side1 A22.out).mono ?_);(case side1=>exact HO504.out);rintro e w34 ⟨v509,rfl,ho0,hb⟩;refine ⟨_,rfl, ?_⟩;have n0_:=zm (Kd.V_below (by (with_reducible repeat (first|apply zA|apply zB|apply zC));exact HO_495001.out) hb);have n1_:=zm (Kd.V_below (by (with_reducible repeat (first|apply zA|apply zB|apply zC));exact HO504.out) hb);have n2_:=zm (Kd.V_lower (zy (ok' := fun k_=>(P0_1_ k_∨w.heap.size≤k_)∧k_≠gb494∧k_≠gb495∧k_≠gb506) ho0 (fun k_ hk_=>⟨Or.elim hk_ (fun hs_=>hs_.1) (fun hn_=>(.inr (Nat.le_trans (zE (by repeat (first|(with_reducible first|exact HB.out|apply ze|apply zd|apply zf|refine zk ?_ GE494.out|refine zk ?_ GE495.out|refine zk ?_ GE506.out)|exact HB.out))) hn_))),Or.elim hk_ (fun hs_=>hs_.2.1) (fun hn_=>(Kd.freshB (g:=gb494) (o:=.cells #[.int .u64 a0_0, .slice A0_1 l0_1.length c0_1] 33 (0,0)) (by (with_reducible repeat (first|refine zh ?_ _|refine zj ?_|refine zi ?_ _));exact BK494.out) k_ hn_)),Or.elim hk_ (fun hs_=>hs_.2.2.1) (fun hn_=>(Kd.freshB (g:=gb495) (o:=.cells #[.int .u64 0, .slice none 0 0] 33 (0,0)) (by (with_reducible repeat (first|refine zh ?_ _|refine zj ?_|refine zi ?_ _));exact BK495.out) k_ hn_)),Or.elim hk_ (fun hs_=>hs_.2.2.2) (fun hn_=>(Kd.freshB (g:=gb506) (o:=.cells #[.int .u64 t501, .slice Ao31 t502.length co31] 33 (0,0)) (by (with_reducible repeat (first|refine zh ?_ _|refine zj ?_|refine zi ?_ _));exact BK506.out) k_ hn_))⟩)) (zE (by repeat (first|(with_reducible first|exact HB.out|apply ze|apply zd|apply zf|refine zk ?_ GE494.out|refine zk ?_ GE495.out|refine zk ?_ GE506.out)|exact HB.out))));have n3_:=zm (zF (g:=gb494) (o:=.cells #[.int .u64 a0_0, .slice A0_1 l0_1.length c0_1] 33 (0,0)) (by (with_reducible repeat (first|refine zh ?_ _|refine zj ?_|refine zi ?_ _));exact BK494.out) hb);have n4_:=zm (zF (g:=gb495) (o:=.cells #[.int .u64 0, .slice none 0 0] 33 (0,0)) (by (with_reducible repeat (first|refine zh ?_ _|refine zj ?_|refine zi ?_ _));exact BK495.out) hb);have n5_:=zm (zF (g:=gb506) (o:=.cells #[.int .u64 t501, .slice Ao31 t502.length co31] 33 (0,0)) (by (with_reducible repeat (first|refine zh ?_ _|refine zj ?_|refine zi ?_ _));exact BK506.out) hb);have n6_:=zm (zJ (by repeat (first|(with_reducible first|exact HB.out|apply ze|apply zd|apply zf|refine zk ?_ GE494.out|refine zk ?_ GE495.out|refine zk ?_ GE506.out)|exact HB.out)) hb);clear HO_495001;clear HO504;clear BK494;clear BK495;clear BK506;clear HB;have HO_495001:=n0_;have HO504:=n1_;have HO510:=n2_;have BK494:=n3_;have BK495:=n4_;have BK506:=n5_;have HB:=n6_;clear n0_ n1_ n2_ n3_ n4_ n5_ n6_;(try clear hb);(try clear hb2);(try clear hk);(try clear hi);(try clear ho0))|((with_reducible refine gate_dst (N:=10) rfl ?_);refine box_event ?hg (N:=10) ?hd (cs := #[.int .u64 0, .slice none 0 0]) (t:=33) ?hr ?_;(case hd=>rfl);(case hg=>rfl);(case hr=>first|(go_simp;done)|(go_simp;rfl));intro gb512 hg w35 hbox hb;have n0_:=zm (Kd.V_below (Kd.V_elderB (by (with_reducible repeat (first|apply zA|apply zB|apply zC));exact HO_495001.out) gb512 (Nat.le_of_eq hg.symm)) hb);have n1_:=zm (Kd.V_below (Kd.V_elderB (by (with_reducible repeat (first|apply zA|apply zB|apply zC));exact HO504.out) gb512 (Nat.le_of_eq hg.symm)) hb);have n2_:=zm (Kd.V_below (Kd.V_elderB (by (with_reducible repeat (first|apply zA|apply zB|apply zC));exact HO510.out) gb512 (Nat.le_of_eq hg.symm)) hb);have n3_:=zm (zF (g:=gb494) (o:=.cells #[.int .u64 a0_0, .slice A0_1 l0_1.length c0_1] 33 (0,0)) (by (with_reducible repeat (first|refine zh ?_ _|refine zj ?_|refine zi ?_ _));exact BK494.out) hb);have n4_:=zm (zF (g:=gb495) (o:=.cells #[.int .u64 0, .slice none 0 0] 33 (0,0)) (by (with_reducible repeat (first|refine zh ?_ _|refine zj ?_|refine zi ?_ _));exact BK495.out) hb);have n5_:=zm (zF (g:=gb506) (o:=.cells #[.int .u64 t501, .slice Ao31 t502.length co31] 33 (0,0)) (by (with_reducible repeat (first|refine zh ?_ _|refine zj ?_|refine zi ?_ _));exact BK506.out) hb);have n6_:=zm (zJ (by repeat (first|(with_reducible first|exact HB.out|apply ze|apply zd|apply zf|refine zk ?_ GE494.out|refine zk ?_ GE495.out|refine zk ?_ GE506.out)|exact HB.out)) hb);have n7_:=zm (hbox);have n8_:=zm ((by rw [hg];exact (zE (by repeat (first|(with_reducible first|exact HB.out|apply ze|apply zd|apply zf|refine zk ?_ GE494.out|refine zk ?_ GE495.out|refine zk ?_ GE506.out)|exact HB.out))) : w.heap.size≤gb512));have n9_:=zm ((by rw [hg];exact (zE (by repeat (first|(with_reducible first|exact HB.out|apply ze|apply zd|apply zf|refine zk ?_ GE494.out|refine zk ?_ GE495.out|refine zk ?_ GE506.out)|exact HB.out))) : w.heap.size≤gb512));have n10_:=zm ((by rw [hg];exact zn (zD (g:=gb494) (o:=.cells #[.int .u64 a0_0, .slice A0_1 l0_1.length c0_1] 33 (0,0)) (by (with_reducible repeat (first|refine zh ?_ _|refine zj ?_|refine zi ?_ _));exact BK494.out)) : gb494≠gb512));have n11_:=zm ((by rw [hg];exact zg (zD (g:=gb494) (o:=.cells #[.int .u64 a0_0, .slice A0_1 l0_1.length c0_1] 33 (0,0)) (by (with_reducible repeat (first|refine zh ?_ _|refine zj ?_|refine zi ?_ _));exact BK494.out)) : gb512≠gb494));have n12_:=zm ((by rw [hg];exact zn (zD (g:=gb495) (o:=.cells #[.int .u64 0, .slice none 0 0] 33 (0,0)) (by (with_reducible repeat (first|refine zh ?_ _|refine zj ?_|refine zi ?_ _));exact BK495.out)) : gb495≠gb512));have n13_:=zm ((by rw [hg];exact zg (zD (g:=gb495) (o:=.cells #[.int .u64 0, .slice none 0 0] 33 (0,0)) (by (with_reducible repeat (first|refine zh ?_ _|refine zj ?_|refine zi ?_ _));exact BK495.out)) : gb512≠gb495));have n14_:=zm ((by rw [hg];exact zn (zD (g:=gb506) (o:=.cells #[.int .u64 t501, .slice Ao31 t502.length co31] 33 (0,0)) (by (with_reducible repeat (first|refine zh ?_ _|refine zj ?_|refine zi ?_ _));exact BK506.out)) : gb506≠gb512));have n15_:=zm ((by rw [hg];exact zg (zD (g:=gb506) (o:=.cells #[.int .u64 t501, .slice Ao31 t502.length co31] 33 (0,0)) (by (with_reducible repeat (first|refine zh ?_ _|refine zj ?_|refine zi ?_ _));exact BK506.out)) : gb512≠gb506));clear HO_495001;clear HO504;clear HO510;clear BK494;clear BK495;clear BK506;clear HB;have HO_495001:=n0_;have HO504:=n1_;have HO510:=n2_;have BK494:=n3_;have BK495:=n4_;have BK506:=n5_;have HB:=n6_;have BK512:=n7_;have GW512:=n8_;have GE512:=n9_;have NB494_512:=n10_;have NB512_494:=n11_;have NB495_512:=n12_;have NB512_495:=n13_;have NB506_512:=n14_;have NB512_506:=n15_;clear n0_ n1_ n2_ n3_ n4_ n5_ n6_ n7_ n8_ n9_ n10_ n11_ n12_ n13_ n14_ n15_;clear hb hbox hg;have hnb36:=NB512_494.out;have hnc36:=NB494_512.out;have hnb37:=NB512_495.out;have hnc37:=NB495_512.out;have hnb38:=NB512_506.out;have hnc38:=NB506_512.out;have hcz39_0 : w35.cell? ⟨gb512,0,none⟩=some (.int .u64 0):=(zs BK512.out 0).trans rfl;have hcz39_1 : w35.cell? ⟨gb512,1,none⟩=some (.slice none 0 0):=(zs BK512.out 1).trans rfl;have hfz39_0:=zx BK512.out 0;have hfz39_1:=zx BK512.out 1;obtain ⟨Ao40,co40,eo40⟩:=Kd.V_slice HO510.out;subst eo40;have hcz41_0 : w35.cell? ⟨gb495,0,none⟩=some (.int .u64 0):=(zs BK495.out 0).trans rfl;have hcz41_1 : w35.cell? ⟨gb495,1,none⟩=some (.slice none 0 0):=(zs BK495.out 1).trans rfl;have hfz41_0:=zx BK495.out 0;have hfz41_1:=zx BK495.out 1))
       refine bodyPost_ret (results_ct rfl _ _ gb495 33 #[.int .u64 t507, .slice Ao40 t508.length co40] (0,0) _ rfl (by (with_reducible repeat (first|refine zh ?_ _|refine zj ?_|refine zi ?_ _));refine zw (cs := #[.int .u64 t507, .slice none 0 0]) ?_ 1 _ rfl;(with_reducible repeat (first|refine zh ?_ _|refine zj ?_|refine zi ?_ _));refine zw (cs := #[.int .u64 0, .slice none 0 0]) ?_ 0 _ rfl;(with_reducible repeat (first|refine zh ?_ _|refine zj ?_|refine zi ?_ _|refine zv ?_ NB495_512.out _));exact BK495.out) Try.underlying33 rfl (by kernel_rfl)) rfl ?_
       exact ⟨_,by first|rfl|(simp [errW_none,errW_some] <;> rfl)|(simp [*,errW_none,errW_some] <;> rfl),by (with_reducible repeat (first|apply zA|apply zB|apply zC));exact zy (zI (p:=⟨gb495,1,none⟩) (zI (p:=⟨gb495,0,none⟩) (zI (p:=⟨gb512,1,none⟩) (zI (p:=⟨gb512,0,none⟩) (zy (zy HO510.out (fun k_ hk=>(⟨hk,hk.2⟩ : _∧k_≠gb512))) (fun k_ hk=>(⟨hk,hk.1.1.2.2.1⟩ : _∧k_≠gb495))) (fun _ hk=>hk.1.2) (.int .u64 t507)) (fun _ hk=>hk.1.2) (.slice Ao40 t508.length co40)) (fun _ hk=>hk.2) (.int .u64 t507)) (fun _ hk=>hk.2) (.slice Ao40 t508.length co40)) (fun _ hk=>hk.1.1.1.1),by repeat (first|(with_reducible first|exact HB.out|apply ze|apply zd|apply zf|refine zk ?_ GE494.out|refine zk ?_ GE495.out|refine zk ?_ GE506.out|refine zk ?_ GE512.out)|exact HB.out)⟩
      ·
       rw [if_neg c23] at H
       have c23b0 : (t511 == 0)=false:=beq_eq_false_iff_ne.mpr c23
       have c23b1 : (t511 != 0)=true:=bne_iff_ne.mpr c23
       simp only [Option.some.injEq,Prod.mk.injEq] at H
       obtain ⟨rfl,rfl,rfl⟩:=H
       have hnb42:=NB494_495.out;have hnc42:=NB495_494.out
       have hcz43_0 : wc.cell? ⟨gb494,0,none⟩=some (.int .u64 a0_0):=(zs BK494.out 0).trans rfl
       have hcz43_1 : wc.cell? ⟨gb494,1,none⟩=some (.slice A0_1 l0_1.length c0_1):=(zs BK494.out 1).trans rfl
       have hfz43_0:=zx BK494.out 0
       have hfz43_1:=zx BK494.out 1
       go_wp2_with (first|((with_reducible refine gate_callee (f:=19) rfl ?_);refine goesL_ (some 51) rfl rfl Try.func19 (by kernel_rfl) rfl #[.agg #[.int .u64 a0_0, .slice A0_1 l0_1.length c0_1], .int .i64 (wrap64 (IntKind.u64.wrap (Int.tdiv a1 65536))), .int .i64 (wrap64 ((wrap64 (IntKind.u64.wrap (Int.tdiv a1 65536)))+1)), .int .i64 (wrap64 ((wrap64 (IntKind.u64.wrap (Int.tdiv (IntKind.u64.wrap (a2 - 1)) 65536)))+1))] rfl (by (try simp only [List.map_toArray,List.map_cons,List.map_nil]);first|done|rfl|(simp only [List.length_drop,List.length_take];rfl)) ?_;(with_reducible refine (psalteryref05_Put.calls kj3 a0_0 (fun k_=>((P0_1_ k_∨w.heap.size≤k_)∧(k_≠gb494∧k_≠gb495))) _ _ l0_1 (wrap64 (IntKind.u64.wrap (Int.tdiv a1 65536))) (wrap64 ((wrap64 (IntKind.u64.wrap (Int.tdiv a1 65536)))+1)) (wrap64 ((wrap64 (IntKind.u64.wrap (Int.tdiv (IntKind.u64.wrap (a2 - 1)) 65536)))+1)) t501 t502 t505 _ ?side1 A20.out).mono ?_);(case side1=>exact HO_495001.out);rintro e w44 ⟨v503,rfl,ho0,hb⟩;refine ⟨_,rfl, ?_⟩;have n0_:=zm (Kd.V_below (by (with_reducible repeat (first|apply zA|apply zB|apply zC));exact HO_495001.out) hb);have n1_:=zm (Kd.V_lower (zy (ok' := fun k_=>(P0_1_ k_∨w.heap.size≤k_)∧k_≠gb494∧k_≠gb495) ho0 (fun k_ hk_=>⟨Or.elim hk_ (fun hs_=>hs_.1) (fun hn_=>(.inr (Nat.le_trans (zE (by repeat (first|(with_reducible first|exact HB.out|apply ze|apply zd|apply zf|refine zk ?_ GE494.out|refine zk ?_ GE495.out)|exact HB.out))) hn_))),Or.elim hk_ (fun hs_=>hs_.2.1) (fun hn_=>(Kd.freshB (g:=gb494) (o:=.cells #[.int .u64 a0_0, .slice A0_1 l0_1.length c0_1] 33 (0,0)) (by (with_reducible repeat (first|refine zh ?_ _|refine zj ?_|refine zi ?_ _));exact BK494.out) k_ hn_)),Or.elim hk_ (fun hs_=>hs_.2.2) (fun hn_=>(Kd.freshB (g:=gb495) (o:=.cells #[.int .u64 0, .slice none 0 0] 33 (0,0)) (by (with_reducible repeat (first|refine zh ?_ _|refine zj ?_|refine zi ?_ _));exact BK495.out) k_ hn_))⟩)) (zE (by repeat (first|(with_reducible first|exact HB.out|apply ze|apply zd|apply zf|refine zk ?_ GE494.out|refine zk ?_ GE495.out)|exact HB.out))));have n2_:=zm (zF (g:=gb494) (o:=.cells #[.int .u64 a0_0, .slice A0_1 l0_1.length c0_1] 33 (0,0)) (by (with_reducible repeat (first|refine zh ?_ _|refine zj ?_|refine zi ?_ _));exact BK494.out) hb);have n3_:=zm (zF (g:=gb495) (o:=.cells #[.int .u64 0, .slice none 0 0] 33 (0,0)) (by (with_reducible repeat (first|refine zh ?_ _|refine zj ?_|refine zi ?_ _));exact BK495.out) hb);have n4_:=zm (zJ (by repeat (first|(with_reducible first|exact HB.out|apply ze|apply zd|apply zf|refine zk ?_ GE494.out|refine zk ?_ GE495.out)|exact HB.out)) hb);clear HO_495001;clear BK494;clear BK495;clear HB;have HO_495001:=n0_;have HO504:=n1_;have BK494:=n2_;have BK495:=n3_;have HB:=n4_;clear n0_ n1_ n2_ n3_ n4_;(try clear hb);(try clear hb2);(try clear hk);(try clear hi);(try clear ho0))|((with_reducible refine gate_dst (N:=8) rfl ?_);refine box_event ?hg (N:=8) ?hd (cs := #[.int .u64 0, .slice none 0 0]) (t:=33) ?hr ?_;(case hd=>rfl);(case hg=>rfl);(case hr=>first|(go_simp;done)|(go_simp;rfl));intro gb506 hg w45 hbox hb;have n0_:=zm (Kd.V_below (Kd.V_elderB (by (with_reducible repeat (first|apply zA|apply zB|apply zC));exact HO_495001.out) gb506 (Nat.le_of_eq hg.symm)) hb);have n1_:=zm (Kd.V_below (Kd.V_elderB (by (with_reducible repeat (first|apply zA|apply zB|apply zC));exact HO504.out) gb506 (Nat.le_of_eq hg.symm)) hb);have n2_:=zm (zF (g:=gb494) (o:=.cells #[.int .u64 a0_0, .slice A0_1 l0_1.length c0_1] 33 (0,0)) (by (with_reducible repeat (first|refine zh ?_ _|refine zj ?_|refine zi ?_ _));exact BK494.out) hb);have n3_:=zm (zF (g:=gb495) (o:=.cells #[.int .u64 0, .slice none 0 0] 33 (0,0)) (by (with_reducible repeat (first|refine zh ?_ _|refine zj ?_|refine zi ?_ _));exact BK495.out) hb);have n4_:=zm (zJ (by repeat (first|(with_reducible first|exact HB.out|apply ze|apply zd|apply zf|refine zk ?_ GE494.out|refine zk ?_ GE495.out)|exact HB.out)) hb);have n5_:=zm (hbox);have n6_:=zm ((by rw [hg];exact (zE (by repeat (first|(with_reducible first|exact HB.out|apply ze|apply zd|apply zf|refine zk ?_ GE494.out|refine zk ?_ GE495.out)|exact HB.out))) : w.heap.size≤gb506));have n7_:=zm ((by rw [hg];exact (zE (by repeat (first|(with_reducible first|exact HB.out|apply ze|apply zd|apply zf|refine zk ?_ GE494.out|refine zk ?_ GE495.out)|exact HB.out))) : w.heap.size≤gb506));have n8_:=zm ((by rw [hg];exact zn (zD (g:=gb494) (o:=.cells #[.int .u64 a0_0, .slice A0_1 l0_1.length c0_1] 33 (0,0)) (by (with_reducible repeat (first|refine zh ?_ _|refine zj ?_|refine zi ?_ _));exact BK494.out)) : gb494≠gb506));have n9_:=zm ((by rw [hg];exact zg (zD (g:=gb494) (o:=.cells #[.int .u64 a0_0, .slice A0_1 l0_1.length c0_1] 33 (0,0)) (by (with_reducible repeat (first|refine zh ?_ _|refine zj ?_|refine zi ?_ _));exact BK494.out)) : gb506≠gb494));have n10_:=zm ((by rw [hg];exact zn (zD (g:=gb495) (o:=.cells #[.int .u64 0, .slice none 0 0] 33 (0,0)) (by (with_reducible repeat (first|refine zh ?_ _|refine zj ?_|refine zi ?_ _));exact BK495.out)) : gb495≠gb506));have n11_:=zm ((by rw [hg];exact zg (zD (g:=gb495) (o:=.cells #[.int .u64 0, .slice none 0 0] 33 (0,0)) (by (with_reducible repeat (first|refine zh ?_ _|refine zj ?_|refine zi ?_ _));exact BK495.out)) : gb506≠gb495));clear HO_495001;clear HO504;clear BK494;clear BK495;clear HB;have HO_495001:=n0_;have HO504:=n1_;have BK494:=n2_;have BK495:=n3_;have HB:=n4_;have BK506:=n5_;have GW506:=n6_;have GE506:=n7_;have NB494_506:=n8_;have NB506_494:=n9_;have NB495_506:=n10_;have NB506_495:=n11_;clear n0_ n1_ n2_ n3_ n4_ n5_ n6_ n7_ n8_ n9_ n10_ n11_;clear hb hbox hg;have hnb46:=NB506_494.out;have hnc46:=NB494_506.out;have hnb47:=NB506_495.out;have hnc47:=NB495_506.out;have hcz48_0 : w45.cell? ⟨gb506,0,none⟩=some (.int .u64 0):=(zs BK506.out 0).trans rfl;have hcz48_1 : w45.cell? ⟨gb506,1,none⟩=some (.slice none 0 0):=(zs BK506.out 1).trans rfl;have hfz48_0:=zx BK506.out 0;have hfz48_1:=zx BK506.out 1;obtain ⟨Ao49,co49,eo49⟩:=Kd.V_slice HO504.out;subst eo49)|((with_reducible refine gate_store (t:=33) (p:=8) rfl ?_);refine store_event (t:=33) (p:=8) (v := ?vo_w50) (w1:=((w45.setCell ⟨gb506,0,none⟩ (.int .u64 t501)).setCell ⟨gb506,1,none⟩ (.slice Ao49 t502.length co49))) ?hg ?ho ?hn ?hr ?_;(case ho=>rfl);(case hg=>rfl);(case hn=>rfl);(case hr=>first|(go_simp;done)|(go_simp;rfl));intro w50 hw;have n0_ : Aside0 (Kd.V (Kd.int .i64) 3 w50 w.heap.size (fun k_=>(P0_1_ k_∨w.heap.size≤k_)∧k_≠gb494∧k_≠gb495∧k_≠gb506) (.slice A0_1 l0_1.length c0_1) l0_1):=⟨(by rw [hw];exact (by (with_reducible repeat (first|apply zA|apply zB|apply zC));exact zy (zI (p:=⟨gb506,1,none⟩) (zI (p:=⟨gb506,0,none⟩) (zy HO_495001.out (fun k_ hk=>(⟨hk,hk.2⟩ : _∧k_≠gb506))) (fun _ hk=>hk.2) (.int .u64 t501)) (fun _ hk=>hk.2) (.slice Ao49 t502.length co49)) (fun _ hk=>⟨hk.1.1.1,⟨hk.1.1.2.1,⟨hk.1.1.2.2,hk.1.2⟩⟩⟩)))⟩;have n1_ : Aside0 (Kd.V (Kd.int .i64) 3 w50 w.heap.size (fun k_=>(P0_1_ k_∨w.heap.size≤k_)∧k_≠gb494∧k_≠gb495∧k_≠gb506) (.slice Ao49 t502.length co49) t502):=⟨(by rw [hw];exact (by (with_reducible repeat (first|apply zA|apply zB|apply zC));exact zy (zI (p:=⟨gb506,1,none⟩) (zI (p:=⟨gb506,0,none⟩) (zy HO504.out (fun k_ hk=>(⟨hk,hk.2⟩ : _∧k_≠gb506))) (fun _ hk=>hk.2) (.int .u64 t501)) (fun _ hk=>hk.2) (.slice Ao49 t502.length co49)) (fun _ hk=>⟨hk.1.1.1,⟨hk.1.1.2.1,⟨hk.1.1.2.2,hk.1.2⟩⟩⟩)))⟩;have n2_ : Aside0 (w50.heap[gb494]? = some (.cells #[.int .u64 a0_0, .slice A0_1 l0_1.length c0_1] 33 (0,0))):=⟨(by rw [hw];exact (by (with_reducible repeat (first|refine zh ?_ _|refine zj ?_|refine zi ?_ _|refine zv ?_ NB494_506.out _));exact BK494.out))⟩;have n3_ : Aside0 (w50.heap[gb495]? = some (.cells #[.int .u64 0, .slice none 0 0] 33 (0,0))):=⟨(by rw [hw];exact (by (with_reducible repeat (first|refine zh ?_ _|refine zj ?_|refine zi ?_ _|refine zv ?_ NB495_506.out _));exact BK495.out))⟩;have n4_ : Aside0 (w50.heap[gb506]? = some (.cells #[.int .u64 t501, .slice Ao49 t502.length co49] 33 (0,0))):=⟨(by rw [hw];exact (by (with_reducible repeat (first|refine zh ?_ _|refine zj ?_|refine zi ?_ _));refine zw (cs := #[.int .u64 t501, .slice none 0 0]) ?_ 1 _ rfl;(with_reducible repeat (first|refine zh ?_ _|refine zj ?_|refine zi ?_ _));refine zw (cs := #[.int .u64 0, .slice none 0 0]) ?_ 0 _ rfl;(with_reducible repeat (first|refine zh ?_ _|refine zj ?_|refine zi ?_ _));exact BK506.out))⟩;have n5_ : Aside0 (Below w.heap.size w w50):=⟨(by rw [hw];exact (by repeat (first|(with_reducible first|exact HB.out|apply ze|apply zd|apply zf|refine zk ?_ GE494.out|refine zk ?_ GE495.out|refine zk ?_ GE506.out)|exact HB.out)))⟩;clear hw;clear HO_495001;clear HO504;clear BK494;clear BK495;clear BK506;clear HB;have HO_495001:=n0_;have HO504:=n1_;have BK494:=n2_;have BK495:=n3_;have BK506:=n4_;have HB:=n5_;clear n0_ n1_ n2_ n3_ n4_ n5_;have hcz51_0 : w50.cell? ⟨gb506,0,none⟩=some (.int .u64 t501):=(zs BK506.out 0).trans rfl;have hcz51_1 : w50.cell? ⟨gb506,1,none⟩=some (.slice Ao49 t502.length co49):=(zs BK506.out 1).trans rfl;have hfz51_0:=zx BK506.out 0;have hfz51_1:=zx BK506.out 1)|((with_reducible refine gate_callee (f:=19) rfl ?_);refine goesL_ (some 67) rfl rfl Try.func19 (by kernel_rfl) rfl #[.agg #[.int .u64 t501, .slice Ao49 t502.length co49], .int .i64 (wrap64 (Int.tmod a1 65536)), .int .i64 (wrap64 ((wrap64 (Int.tmod a1 65536))+1)), .int .i64 65536] rfl (by (try simp only [List.map_toArray,List.map_cons,List.map_nil]);first|done|rfl|(simp only [List.length_drop,List.length_take];rfl)) ?_;(with_reducible refine (psalteryref05_Put.calls kj3 t501 (fun k_=>((P0_1_ k_∨w.heap.size≤k_)∧(k_≠gb494∧(k_≠gb495∧k_≠gb506)))) _ _ t502 (wrap64 (Int.tmod a1 65536)) (wrap64 ((wrap64 (Int.tmod a1 65536))+1)) 65536 t507 t508 t511 _ ?side1 A22.out).mono ?_);(case side1=>exact HO504.out);rintro e w52 ⟨v509,rfl,ho0,hb⟩;refine ⟨_,rfl, ?_⟩;have n0_:=zm (Kd.V_below (by (with_reducible repeat (first|apply zA|apply zB|apply zC));exact HO_495001.out) hb);have n1_:=zm (Kd.V_below (by (with_reducible repeat (first|apply zA|apply zB|apply zC));exact HO504.out) hb);have n2_:=zm (Kd.V_lower (zy (ok' := fun k_=>(P0_1_ k_∨w.heap.size≤k_)∧k_≠gb494∧k_≠gb495∧k_≠gb506) ho0 (fun k_ hk_=>⟨Or.elim hk_ (fun hs_=>hs_.1) (fun hn_=>(.inr (Nat.le_trans (zE (by repeat (first|(with_reducible first|exact HB.out|apply ze|apply zd|apply zf|refine zk ?_ GE494.out|refine zk ?_ GE495.out|refine zk ?_ GE506.out)|exact HB.out))) hn_))),Or.elim hk_ (fun hs_=>hs_.2.1) (fun hn_=>(Kd.freshB (g:=gb494) (o:=.cells #[.int .u64 a0_0, .slice A0_1 l0_1.length c0_1] 33 (0,0)) (by (with_reducible repeat (first|refine zh ?_ _|refine zj ?_|refine zi ?_ _));exact BK494.out) k_ hn_)),Or.elim hk_ (fun hs_=>hs_.2.2.1) (fun hn_=>(Kd.freshB (g:=gb495) (o:=.cells #[.int .u64 0, .slice none 0 0] 33 (0,0)) (by (with_reducible repeat (first|refine zh ?_ _|refine zj ?_|refine zi ?_ _));exact BK495.out) k_ hn_)),Or.elim hk_ (fun hs_=>hs_.2.2.2) (fun hn_=>(Kd.freshB (g:=gb506) (o:=.cells #[.int .u64 t501, .slice Ao49 t502.length co49] 33 (0,0)) (by (with_reducible repeat (first|refine zh ?_ _|refine zj ?_|refine zi ?_ _));exact BK506.out) k_ hn_))⟩)) (zE (by repeat (first|(with_reducible first|exact HB.out|apply ze|apply zd|apply zf|refine zk ?_ GE494.out|refine zk ?_ GE495.out|refine zk ?_ GE506.out)|exact HB.out))));have n3_:=zm (zF (g:=gb494) (o:=.cells #[.int .u64 a0_0, .slice A0_1 l0_1.length c0_1] 33 (0,0)) (by (with_reducible repeat (first|refine zh ?_ _|refine zj ?_|refine zi ?_ _));exact BK494.out) hb);have n4_:=zm (zF (g:=gb495) (o:=.cells #[.int .u64 0, .slice none 0 0] 33 (0,0)) (by (with_reducible repeat (first|refine zh ?_ _|refine zj ?_|refine zi ?_ _));exact BK495.out) hb);have n5_:=zm (zF (g:=gb506) (o:=.cells #[.int .u64 t501, .slice Ao49 t502.length co49] 33 (0,0)) (by (with_reducible repeat (first|refine zh ?_ _|refine zj ?_|refine zi ?_ _));exact BK506.out) hb);have n6_:=zm (zJ (by repeat (first|(with_reducible first|exact HB.out|apply ze|apply zd|apply zf|refine zk ?_ GE494.out|refine zk ?_ GE495.out|refine zk ?_ GE506.out)|exact HB.out)) hb);clear HO_495001;clear HO504;clear BK494;clear BK495;clear BK506;clear HB;have HO_495001:=n0_;have HO504:=n1_;have HO510:=n2_;have BK494:=n3_;have BK495:=n4_;have BK506:=n5_;have HB:=n6_;clear n0_ n1_ n2_ n3_ n4_ n5_ n6_;(try clear hb);(try clear hb2);(try clear hk);(try clear hi);(try clear ho0))|((with_reducible refine gate_dst (N:=10) rfl ?_);refine box_event ?hg (N:=10) ?hd (cs := #[.int .u64 0, .slice none 0 0]) (t:=33) ?hr ?_;(case hd=>rfl);(case hg=>rfl);(case hr=>first|(go_simp;done)|(go_simp;rfl));intro gb512 hg w53 hbox hb;have n0_:=zm (Kd.V_below (Kd.V_elderB (by (with_reducible repeat (first|apply zA|apply zB|apply zC));exact HO_495001.out) gb512 (Nat.le_of_eq hg.symm)) hb);have n1_:=zm (Kd.V_below (Kd.V_elderB (by (with_reducible repeat (first|apply zA|apply zB|apply zC));exact HO504.out) gb512 (Nat.le_of_eq hg.symm)) hb);have n2_:=zm (Kd.V_below (Kd.V_elderB (by (with_reducible repeat (first|apply zA|apply zB|apply zC));exact HO510.out) gb512 (Nat.le_of_eq hg.symm)) hb);have n3_:=zm (zF (g:=gb494) (o:=.cells #[.int .u64 a0_0, .slice A0_1 l0_1.length c0_1] 33 (0,0)) (by (with_reducible repeat (first|refine zh ?_ _|refine zj ?_|refine zi ?_ _));exact BK494.out) hb);have n4_:=zm (zF (g:=gb495) (o:=.cells #[.int .u64 0, .slice none 0 0] 33 (0,0)) (by (with_reducible repeat (first|refine zh ?_ _|refine zj ?_|refine zi ?_ _));exact BK495.out) hb);have n5_:=zm (zF (g:=gb506) (o:=.cells #[.int .u64 t501, .slice Ao49 t502.length co49] 33 (0,0)) (by (with_reducible repeat (first|refine zh ?_ _|refine zj ?_|refine zi ?_ _));exact BK506.out) hb);have n6_:=zm (zJ (by repeat (first|(with_reducible first|exact HB.out|apply ze|apply zd|apply zf|refine zk ?_ GE494.out|refine zk ?_ GE495.out|refine zk ?_ GE506.out)|exact HB.out)) hb);have n7_:=zm (hbox);have n8_:=zm ((by rw [hg];exact (zE (by repeat (first|(with_reducible first|exact HB.out|apply ze|apply zd|apply zf|refine zk ?_ GE494.out|refine zk ?_ GE495.out|refine zk ?_ GE506.out)|exact HB.out))) : w.heap.size≤gb512));have n9_:=zm ((by rw [hg];exact (zE (by repeat (first|(with_reducible first|exact HB.out|apply ze|apply zd|apply zf|refine zk ?_ GE494.out|refine zk ?_ GE495.out|refine zk ?_ GE506.out)|exact HB.out))) : w.heap.size≤gb512));have n10_:=zm ((by rw [hg];exact zn (zD (g:=gb494) (o:=.cells #[.int .u64 a0_0, .slice A0_1 l0_1.length c0_1] 33 (0,0)) (by (with_reducible repeat (first|refine zh ?_ _|refine zj ?_|refine zi ?_ _));exact BK494.out)) : gb494≠gb512));have n11_:=zm ((by rw [hg];exact zg (zD (g:=gb494) (o:=.cells #[.int .u64 a0_0, .slice A0_1 l0_1.length c0_1] 33 (0,0)) (by (with_reducible repeat (first|refine zh ?_ _|refine zj ?_|refine zi ?_ _));exact BK494.out)) : gb512≠gb494));have n12_:=zm ((by rw [hg];exact zn (zD (g:=gb495) (o:=.cells #[.int .u64 0, .slice none 0 0] 33 (0,0)) (by (with_reducible repeat (first|refine zh ?_ _|refine zj ?_|refine zi ?_ _));exact BK495.out)) : gb495≠gb512));have n13_:=zm ((by rw [hg];exact zg (zD (g:=gb495) (o:=.cells #[.int .u64 0, .slice none 0 0] 33 (0,0)) (by (with_reducible repeat (first|refine zh ?_ _|refine zj ?_|refine zi ?_ _));exact BK495.out)) : gb512≠gb495));have n14_:=zm ((by rw [hg];exact zn (zD (g:=gb506) (o:=.cells #[.int .u64 t501, .slice Ao49 t502.length co49] 33 (0,0)) (by (with_reducible repeat (first|refine zh ?_ _|refine zj ?_|refine zi ?_ _));exact BK506.out)) : gb506≠gb512));have n15_:=zm ((by rw [hg];exact zg (zD (g:=gb506) (o:=.cells #[.int .u64 t501, .slice Ao49 t502.length co49] 33 (0,0)) (by (with_reducible repeat (first|refine zh ?_ _|refine zj ?_|refine zi ?_ _));exact BK506.out)) : gb512≠gb506));clear HO_495001;clear HO504;clear HO510;clear BK494;clear BK495;clear BK506;clear HB;have HO_495001:=n0_;have HO504:=n1_;have HO510:=n2_;have BK494:=n3_;have BK495:=n4_;have BK506:=n5_;have HB:=n6_;have BK512:=n7_;have GW512:=n8_;have GE512:=n9_;have NB494_512:=n10_;have NB512_494:=n11_;have NB495_512:=n12_;have NB512_495:=n13_;have NB506_512:=n14_;have NB512_506:=n15_;clear n0_ n1_ n2_ n3_ n4_ n5_ n6_ n7_ n8_ n9_ n10_ n11_ n12_ n13_ n14_ n15_;clear hb hbox hg;have hnb54:=NB512_494.out;have hnc54:=NB494_512.out;have hnb55:=NB512_495.out;have hnc55:=NB495_512.out;have hnb56:=NB512_506.out;have hnc56:=NB506_512.out;have hcz57_0 : w53.cell? ⟨gb512,0,none⟩=some (.int .u64 0):=(zs BK512.out 0).trans rfl;have hcz57_1 : w53.cell? ⟨gb512,1,none⟩=some (.slice none 0 0):=(zs BK512.out 1).trans rfl;have hfz57_0:=zx BK512.out 0;have hfz57_1:=zx BK512.out 1;obtain ⟨Ao58,co58,eo58⟩:=Kd.V_slice HO510.out;subst eo58;have hcz59_0 : w53.cell? ⟨gb494,0,none⟩=some (.int .u64 a0_0):=(zs BK494.out 0).trans rfl;have hcz59_1 : w53.cell? ⟨gb494,1,none⟩=some (.slice A0_1 l0_1.length c0_1):=(zs BK494.out 1).trans rfl;have hfz59_0:=zx BK494.out 0;have hfz59_1:=zx BK494.out 1;have hcz60_0 : w53.cell? ⟨gb495,0,none⟩=some (.int .u64 0):=(zs BK495.out 0).trans rfl;have hcz60_1 : w53.cell? ⟨gb495,1,none⟩=some (.slice none 0 0):=(zs BK495.out 1).trans rfl;have hfz60_0:=zx BK495.out 0;have hfz60_1:=zx BK495.out 1))
       refine bodyPost_ret (results_ct rfl _ _ gb495 33 #[.int .u64 a0_0, .slice A0_1 l0_1.length c0_1] (0,0) _ rfl (by (with_reducible repeat (first|refine zh ?_ _|refine zj ?_|refine zi ?_ _));refine zw (cs := #[.int .u64 a0_0, .slice none 0 0]) ?_ 1 _ rfl;(with_reducible repeat (first|refine zh ?_ _|refine zj ?_|refine zi ?_ _));refine zw (cs := #[.int .u64 0, .slice none 0 0]) ?_ 0 _ rfl;(with_reducible repeat (first|refine zh ?_ _|refine zj ?_|refine zi ?_ _|refine zv ?_ NB495_512.out _));exact BK495.out) Try.underlying33 rfl (by kernel_rfl)) rfl ?_
       exact ⟨_,by first|rfl|(simp [errW_none,errW_some] <;> rfl)|(simp [*,errW_none,errW_some] <;> rfl),by (with_reducible repeat (first|apply zA|apply zB|apply zC));exact zy (zI (p:=⟨gb495,1,none⟩) (zI (p:=⟨gb495,0,none⟩) (zI (p:=⟨gb512,1,none⟩) (zI (p:=⟨gb512,0,none⟩) (zy (zy HO_495001.out (fun k_ hk=>(⟨hk,hk.2⟩ : _∧k_≠gb512))) (fun k_ hk=>(⟨hk,hk.1.1.2.2.1⟩ : _∧k_≠gb495))) (fun _ hk=>hk.1.2) (.int .u64 t507)) (fun _ hk=>hk.1.2) (.slice Ao58 t508.length co58)) (fun _ hk=>hk.2) (.int .u64 a0_0)) (fun _ hk=>hk.2) (.slice A0_1 l0_1.length c0_1)) (fun _ hk=>hk.1.1.1.1),by repeat (first|(with_reducible first|exact HB.out|apply ze|apply zd|apply zf|refine zk ?_ GE494.out|refine zk ?_ GE495.out|refine zk ?_ GE506.out|refine zk ?_ GE512.out)|exact HB.out)⟩
     ·
      rw [if_neg c21] at H
      have c21b0 : (t505 == 0)=false:=beq_eq_false_iff_ne.mpr c21
      have c21b1 : (t505 != 0)=true:=bne_iff_ne.mpr c21
      simp only [Option.some.injEq,Prod.mk.injEq] at H
      obtain ⟨rfl,rfl,rfl⟩:=H
      have hnb61:=NB494_495.out;have hnc61:=NB495_494.out
      have hcz62_0 : wc.cell? ⟨gb494,0,none⟩=some (.int .u64 a0_0):=(zs BK494.out 0).trans rfl
      have hcz62_1 : wc.cell? ⟨gb494,1,none⟩=some (.slice A0_1 l0_1.length c0_1):=(zs BK494.out 1).trans rfl
      have hfz62_0:=zx BK494.out 0
      have hfz62_1:=zx BK494.out 1
      go_wp2_with (first|((with_reducible refine gate_callee (f:=19) rfl ?_);refine goesL_ (some 51) rfl rfl Try.func19 (by kernel_rfl) rfl #[.agg #[.int .u64 a0_0, .slice A0_1 l0_1.length c0_1], .int .i64 (wrap64 (IntKind.u64.wrap (Int.tdiv a1 65536))), .int .i64 (wrap64 ((wrap64 (IntKind.u64.wrap (Int.tdiv a1 65536)))+1)), .int .i64 (wrap64 ((wrap64 (IntKind.u64.wrap (Int.tdiv (IntKind.u64.wrap (a2 - 1)) 65536)))+1))] rfl (by (try simp only [List.map_toArray,List.map_cons,List.map_nil]);first|done|rfl|(simp only [List.length_drop,List.length_take];rfl)) ?_;(with_reducible refine (psalteryref05_Put.calls kj3 a0_0 (fun k_=>((P0_1_ k_∨w.heap.size≤k_)∧(k_≠gb494∧k_≠gb495))) _ _ l0_1 (wrap64 (IntKind.u64.wrap (Int.tdiv a1 65536))) (wrap64 ((wrap64 (IntKind.u64.wrap (Int.tdiv a1 65536)))+1)) (wrap64 ((wrap64 (IntKind.u64.wrap (Int.tdiv (IntKind.u64.wrap (a2 - 1)) 65536)))+1)) t501 t502 t505 _ ?side1 A20.out).mono ?_);(case side1=>exact HO_495001.out);rintro e w63 ⟨v503,rfl,ho0,hb⟩;refine ⟨_,rfl, ?_⟩;have n0_:=zm (Kd.V_below (by (with_reducible repeat (first|apply zA|apply zB|apply zC));exact HO_495001.out) hb);have n1_:=zm (Kd.V_lower (zy (ok' := fun k_=>(P0_1_ k_∨w.heap.size≤k_)∧k_≠gb494∧k_≠gb495) ho0 (fun k_ hk_=>⟨Or.elim hk_ (fun hs_=>hs_.1) (fun hn_=>(.inr (Nat.le_trans (zE (by repeat (first|(with_reducible first|exact HB.out|apply ze|apply zd|apply zf|refine zk ?_ GE494.out|refine zk ?_ GE495.out)|exact HB.out))) hn_))),Or.elim hk_ (fun hs_=>hs_.2.1) (fun hn_=>(Kd.freshB (g:=gb494) (o:=.cells #[.int .u64 a0_0, .slice A0_1 l0_1.length c0_1] 33 (0,0)) (by (with_reducible repeat (first|refine zh ?_ _|refine zj ?_|refine zi ?_ _));exact BK494.out) k_ hn_)),Or.elim hk_ (fun hs_=>hs_.2.2) (fun hn_=>(Kd.freshB (g:=gb495) (o:=.cells #[.int .u64 0, .slice none 0 0] 33 (0,0)) (by (with_reducible repeat (first|refine zh ?_ _|refine zj ?_|refine zi ?_ _));exact BK495.out) k_ hn_))⟩)) (zE (by repeat (first|(with_reducible first|exact HB.out|apply ze|apply zd|apply zf|refine zk ?_ GE494.out|refine zk ?_ GE495.out)|exact HB.out))));have n2_:=zm (zF (g:=gb494) (o:=.cells #[.int .u64 a0_0, .slice A0_1 l0_1.length c0_1] 33 (0,0)) (by (with_reducible repeat (first|refine zh ?_ _|refine zj ?_|refine zi ?_ _));exact BK494.out) hb);have n3_:=zm (zF (g:=gb495) (o:=.cells #[.int .u64 0, .slice none 0 0] 33 (0,0)) (by (with_reducible repeat (first|refine zh ?_ _|refine zj ?_|refine zi ?_ _));exact BK495.out) hb);have n4_:=zm (zJ (by repeat (first|(with_reducible first|exact HB.out|apply ze|apply zd|apply zf|refine zk ?_ GE494.out|refine zk ?_ GE495.out)|exact HB.out)) hb);clear HO_495001;clear BK494;clear BK495;clear HB;have HO_495001:=n0_;have HO504:=n1_;have BK494:=n2_;have BK495:=n3_;have HB:=n4_;clear n0_ n1_ n2_ n3_ n4_;(try clear hb);(try clear hb2);(try clear hk);(try clear hi);(try clear ho0))|((with_reducible refine gate_dst (N:=8) rfl ?_);refine box_event ?hg (N:=8) ?hd (cs := #[.int .u64 0, .slice none 0 0]) (t:=33) ?hr ?_;(case hd=>rfl);(case hg=>rfl);(case hr=>first|(go_simp;done)|(go_simp;rfl));intro gb506 hg w64 hbox hb;have n0_:=zm (Kd.V_below (Kd.V_elderB (by (with_reducible repeat (first|apply zA|apply zB|apply zC));exact HO_495001.out) gb506 (Nat.le_of_eq hg.symm)) hb);have n1_:=zm (Kd.V_below (Kd.V_elderB (by (with_reducible repeat (first|apply zA|apply zB|apply zC));exact HO504.out) gb506 (Nat.le_of_eq hg.symm)) hb);have n2_:=zm (zF (g:=gb494) (o:=.cells #[.int .u64 a0_0, .slice A0_1 l0_1.length c0_1] 33 (0,0)) (by (with_reducible repeat (first|refine zh ?_ _|refine zj ?_|refine zi ?_ _));exact BK494.out) hb);have n3_:=zm (zF (g:=gb495) (o:=.cells #[.int .u64 0, .slice none 0 0] 33 (0,0)) (by (with_reducible repeat (first|refine zh ?_ _|refine zj ?_|refine zi ?_ _));exact BK495.out) hb);have n4_:=zm (zJ (by repeat (first|(with_reducible first|exact HB.out|apply ze|apply zd|apply zf|refine zk ?_ GE494.out|refine zk ?_ GE495.out)|exact HB.out)) hb);have n5_:=zm (hbox);have n6_:=zm ((by rw [hg];exact (zE (by repeat (first|(with_reducible first|exact HB.out|apply ze|apply zd|apply zf|refine zk ?_ GE494.out|refine zk ?_ GE495.out)|exact HB.out))) : w.heap.size≤gb506));have n7_:=zm ((by rw [hg];exact (zE (by repeat (first|(with_reducible first|exact HB.out|apply ze|apply zd|apply zf|refine zk ?_ GE494.out|refine zk ?_ GE495.out)|exact HB.out))) : w.heap.size≤gb506));have n8_:=zm ((by rw [hg];exact zn (zD (g:=gb494) (o:=.cells #[.int .u64 a0_0, .slice A0_1 l0_1.length c0_1] 33 (0,0)) (by (with_reducible repeat (first|refine zh ?_ _|refine zj ?_|refine zi ?_ _));exact BK494.out)) : gb494≠gb506));have n9_:=zm ((by rw [hg];exact zg (zD (g:=gb494) (o:=.cells #[.int .u64 a0_0, .slice A0_1 l0_1.length c0_1] 33 (0,0)) (by (with_reducible repeat (first|refine zh ?_ _|refine zj ?_|refine zi ?_ _));exact BK494.out)) : gb506≠gb494));have n10_:=zm ((by rw [hg];exact zn (zD (g:=gb495) (o:=.cells #[.int .u64 0, .slice none 0 0] 33 (0,0)) (by (with_reducible repeat (first|refine zh ?_ _|refine zj ?_|refine zi ?_ _));exact BK495.out)) : gb495≠gb506));have n11_:=zm ((by rw [hg];exact zg (zD (g:=gb495) (o:=.cells #[.int .u64 0, .slice none 0 0] 33 (0,0)) (by (with_reducible repeat (first|refine zh ?_ _|refine zj ?_|refine zi ?_ _));exact BK495.out)) : gb506≠gb495));clear HO_495001;clear HO504;clear BK494;clear BK495;clear HB;have HO_495001:=n0_;have HO504:=n1_;have BK494:=n2_;have BK495:=n3_;have HB:=n4_;have BK506:=n5_;have GW506:=n6_;have GE506:=n7_;have NB494_506:=n8_;have NB506_494:=n9_;have NB495_506:=n10_;have NB506_495:=n11_;clear n0_ n1_ n2_ n3_ n4_ n5_ n6_ n7_ n8_ n9_ n10_ n11_;clear hb hbox hg;have hnb65:=NB506_494.out;have hnc65:=NB494_506.out;have hnb66:=NB506_495.out;have hnc66:=NB495_506.out;have hcz67_0 : w64.cell? ⟨gb506,0,none⟩=some (.int .u64 0):=(zs BK506.out 0).trans rfl;have hcz67_1 : w64.cell? ⟨gb506,1,none⟩=some (.slice none 0 0):=(zs BK506.out 1).trans rfl;have hfz67_0:=zx BK506.out 0;have hfz67_1:=zx BK506.out 1;obtain ⟨Ao68,co68,eo68⟩:=Kd.V_slice HO504.out;subst eo68;have hcz69_0 : w64.cell? ⟨gb494,0,none⟩=some (.int .u64 a0_0):=(zs BK494.out 0).trans rfl;have hcz69_1 : w64.cell? ⟨gb494,1,none⟩=some (.slice A0_1 l0_1.length c0_1):=(zs BK494.out 1).trans rfl;have hfz69_0:=zx BK494.out 0;have hfz69_1:=zx BK494.out 1;have hcz70_0 : w64.cell? ⟨gb495,0,none⟩=some (.int .u64 0):=(zs BK495.out 0).trans rfl;have hcz70_1 : w64.cell? ⟨gb495,1,none⟩=some (.slice none 0 0):=(zs BK495.out 1).trans rfl;have hfz70_0:=zx BK495.out 0;have hfz70_1:=zx BK495.out 1))
      refine bodyPost_ret (results_ct rfl _ _ gb495 33 #[.int .u64 a0_0, .slice A0_1 l0_1.length c0_1] (0,0) _ rfl (by (with_reducible repeat (first|refine zh ?_ _|refine zj ?_|refine zi ?_ _));refine zw (cs := #[.int .u64 a0_0, .slice none 0 0]) ?_ 1 _ rfl;(with_reducible repeat (first|refine zh ?_ _|refine zj ?_|refine zi ?_ _));refine zw (cs := #[.int .u64 0, .slice none 0 0]) ?_ 0 _ rfl;(with_reducible repeat (first|refine zh ?_ _|refine zj ?_|refine zi ?_ _|refine zv ?_ NB495_506.out _));exact BK495.out) Try.underlying33 rfl (by kernel_rfl)) rfl ?_
      exact ⟨_,by first|rfl|(simp [errW_none,errW_some] <;> rfl)|(simp [*,errW_none,errW_some] <;> rfl),by (with_reducible repeat (first|apply zA|apply zB|apply zC));exact zy (zI (p:=⟨gb495,1,none⟩) (zI (p:=⟨gb495,0,none⟩) (zI (p:=⟨gb506,1,none⟩) (zI (p:=⟨gb506,0,none⟩) (zy (zy HO_495001.out (fun k_ hk=>(⟨hk,hk.2⟩ : _∧k_≠gb506))) (fun k_ hk=>(⟨hk,hk.1.1.2.2⟩ : _∧k_≠gb495))) (fun _ hk=>hk.1.2) (.int .u64 t501)) (fun _ hk=>hk.1.2) (.slice Ao68 t502.length co68)) (fun _ hk=>hk.2) (.int .u64 a0_0)) (fun _ hk=>hk.2) (.slice A0_1 l0_1.length c0_1)) (fun _ hk=>hk.1.1.1.1),by repeat (first|(with_reducible first|exact HB.out|apply ze|apply zd|apply zf|refine zk ?_ GE494.out|refine zk ?_ GE495.out|refine zk ?_ GE506.out)|exact HB.out)⟩

end Go.Proofs.Ytkaoiblgfpphoaa.Prt

namespace Go.Proofs.Ytkaoiblgfpphoaa.Prt
open Go.RowKit Go.Proofs.YtkaoiblgfpphoaaW.PrintWords Go.Proofs.YtkaoiblgfpphoaaW.PrintLast Go.Proofs.YtkaoiblgfpphoaaW.PrintMore
attribute [local go_sem] max2_int min2_int max_two min_two max_three min_three max_four min_four   -- for this text's walks alone
set_option linter.unusedVariables false
set_option linter.unusedSimpArgs false

/-! ### psalteryref11_Right: function 46 -/
def psalteryref11_Right.l0 : Nat→List Int→Bool→Int→Option (Bool)
 | 0,_,_,_=>none
 | k+1,x0,x3,x4=>if x4 < (x0.length : Int) then (if x3=true then (if 0≤x4 then (if (rd x0 x4) ≥ 0 then (psalteryref11_Right.l0 k x0 (decide ((rd x0 x4)≤44)) (wrap64 (x4+1))) else (psalteryref11_Right.l0 k x0 false (wrap64 (x4+1)))) else (none)) else (psalteryref11_Right.l0 k x0 false (wrap64 (x4+1)))) else (some x3)
def psalteryref11_Right.f (k : Nat) (l0 : List Int) : Option (Bool):=psalteryref11_Right.l0 k l0 ((l0.length : Int) == 5) 0
theorem psalteryref11_Right.mono_l : ∀ k,(∀ y0 y1 y2,LeO (psalteryref11_Right.l0 k y0 y1 y2) (psalteryref11_Right.l0 (k+1) y0 y1 y2))
 | 0=>fun _ _ _ r h=>by simp [psalteryref11_Right.l0] at h
 | k+1=>by
  have ih0:=psalteryref11_Right.mono_l k
  ·
   intro y0 y1 y2
   unfold psalteryref11_Right.l0
   repeat' first
   | (with_reducible exact ih0 _ _ _)
   | (with_reducible exact LeO.refl _)
   | (with_reducible exact LeO.none _)
   | (with_reducible refine LeO.ite ?_ ?_)
   | (with_reducible refine LeO.bind ?_ (fun _ => ?_))
   | exact ih0 _ _ _
   | exact LeO.none _
   | refine LeO.ite ?_ ?_
   | refine LeO.bind ?_ (fun _ => ?_)
theorem psalteryref11_Right.mono : ∀ a0 k,LeO (psalteryref11_Right.f k a0) (psalteryref11_Right.f (k+1) a0):=by
 intro a0 k
 have ih0:=psalteryref11_Right.mono_l k
 unfold psalteryref11_Right.f
 repeat' first
   | (with_reducible exact ih0 _ _ _)
   | (with_reducible exact LeO.refl _)
   | (with_reducible exact LeO.none _)
   | (with_reducible refine LeO.ite ?_ ?_)
   | (with_reducible refine LeO.bind ?_ (fun _ => ?_))
   | exact ih0 _ _ _
   | exact LeO.none _
   | refine LeO.ite ?_ ?_
   | refine LeO.bind ?_ (fun _ => ?_)
set_option maxHeartbeats 8000000 in
set_option maxRecDepth 100000 in
theorem psalteryref11_Right.calls (k : Nat) (A0 : Option Addr) (c0 : Nat) (l0 : List Int) (r : Bool) (w : World) (hr0 : Kd.C (Kd.int .i64) w A0 l0.length l0) (hc0 : l0.length≤c0) (h : psalteryref11_Right.f k l0=some r) :
  Calls Try.prog 46 #[.slice A0 l0.length c0] w fun e w' => e=.returned (.bool r)∧Drawn0 w w' := by
 have HR0:=zm hr0;have HC0:=zm hc0;clear hr0 hc0
 have H : (psalteryref11_Right.l0 k l0 ((l0.length : Int) == 5) 0)=some r:=h
 clear h
 have H' := zm H
 clear H
 go_enter Try.func46,Try.ntmps46
 go_wp2
 go_loopg [3,4] k (fun kq v3 v4 w' => ∃ (x3_1 : Bool) (x4_1 : Int),v3=.bool x3_1∧v4=.int .i64 x4_1∧Aside0 (psalteryref11_Right.l0 kq l0 x3_1 x4_1=some r)∧Aside0 (kq≤k)∧Drawn0 w w')
 case atStart=>exact ⟨(((l0.length : Int) == 5)),(0),(by first|rfl|(simp;done)|(simp [*];done)),(by first|rfl|(simp;done)|(simp [*];done)),H',⟨Nat.le_refl _⟩,by repeat (first|exact Drawn0.refl _|apply Drawn0.step)⟩
 case round =>
  clear H'
  obtain ⟨x3_1,x4_1,rfl,rfl,HA,HK1,⟨m1,rfl⟩⟩:=hrel
  cases gk with
  | zero=>exact absurd HA.out (by simp [psalteryref11_Right.l0])
  | succ k1 =>
   have H:=HA.out;clear HA
   simp only [psalteryref11_Right.l0] at H
   by_cases c2 : x4_1 < (l0.length : Int)
   ·
    rw [if_pos c2] at H
    have c2b0 : decide (x4_1 < (l0.length : Int))=true:=decide_eq_true c2
    clear c2
    by_cases c3 : x3_1=true
    ·
     subst c3
     have H1 : (if 0≤x4_1 then (if (rd l0 x4_1) ≥ 0 then (psalteryref11_Right.l0 k1 l0 (decide ((rd l0 x4_1)≤44)) (wrap64 (x4_1+1))) else (psalteryref11_Right.l0 k1 l0 false (wrap64 (x4_1+1)))) else (none))=some r:=by rw [if_pos rfl] at H;exact H
     clear H;have H:=H1;clear H1
     by_cases c4 : 0≤x4_1
     ·
      rw [if_pos c4] at H
      have c4b0 : decide (0≤x4_1)=true:=decide_eq_true c4
      clear c4
      by_cases c5 : (rd l0 x4_1) ≥ 0
      ·
       rw [if_pos c5] at H
       have c5b0 : decide (0≤(rd l0 x4_1))=true:=decide_eq_true c5
       clear c5
       have H' := zm H
       clear H
       have p817 : 0≤(x4_1 : Int):=of_decide_eq_true (by first|(with_reducible assumption)|assumption)
       have q817 : x4_1 < (l0.length : Int):=of_decide_eq_true (by first|(with_reducible assumption)|assumption)
       obtain ⟨ad817,e817,hx817_0⟩:=Kd.at_int HR0.out x4_1 p817 q817
       cases e817
       replace p817:=eq_true p817
       replace q817:=eq_true q817
       have p818 : 0≤(x4_1 : Int):=of_decide_eq_true (by first|(with_reducible assumption)|assumption)
       have q818 : x4_1 < (l0.length : Int):=of_decide_eq_true (by first|(with_reducible assumption)|assumption)
       obtain ⟨ad818,e818,hx818_0⟩:=Kd.at_int HR0.out x4_1 p818 q818
       obtain rfl : ad817=ad818:=(by injection e818)
       replace p818:=eq_true p818
       replace q818:=eq_true q818
       go_wp2
       go_roundg k1
       case measure=>have:=HK1.out;omega
       case rel=>exact ⟨(decide ((rd l0 x4_1)≤44)),(wrap64 (x4_1+1)),(by first|rfl|(simp;done)|(simp [*];done)),(by first|rfl|(simp;done)|(simp [*];done)),H',⟨by have:=HK1.out;omega⟩,by repeat (first|exact Drawn0.refl _|apply Drawn0.step)⟩
      ·
       rw [if_neg c5] at H
       have c5b0 : decide (0≤(rd l0 x4_1))=false:=decide_eq_false c5
       clear c5
       have H' := zm H
       clear H
       have p817 : 0≤(x4_1 : Int):=of_decide_eq_true (by first|(with_reducible assumption)|assumption)
       have q817 : x4_1 < (l0.length : Int):=of_decide_eq_true (by first|(with_reducible assumption)|assumption)
       obtain ⟨ad817,e817,hx817_0⟩:=Kd.at_int HR0.out x4_1 p817 q817
       cases e817
       replace p817:=eq_true p817
       replace q817:=eq_true q817
       go_wp2
       go_roundg k1
       case measure=>have:=HK1.out;omega
       case rel=>exact ⟨(false),(wrap64 (x4_1+1)),(by first|rfl|(simp;done)|(simp [*];done)),(by first|rfl|(simp;done)|(simp [*];done)),H',⟨by have:=HK1.out;omega⟩,by repeat (first|exact Drawn0.refl _|apply Drawn0.step)⟩
     ·
      rw [if_neg c4] at H
      exact absurd H (by simp)
    ·
     replace c3:=Bool.eq_false_iff.mpr c3
     subst c3
     have H1 : (psalteryref11_Right.l0 k1 l0 false (wrap64 (x4_1+1)))=some r:=by rw [if_neg (show ¬ (false=true) by decide)] at H;exact H
     clear H;have H:=H1;clear H1
     have H' := zm H
     clear H
     go_wp2
     go_roundg k1
     case measure=>have:=HK1.out;omega
     case rel=>exact ⟨(false),(wrap64 (x4_1+1)),(by first|rfl|(simp;done)|(simp [*];done)),(by first|rfl|(simp;done)|(simp [*];done)),H',⟨by have:=HK1.out;omega⟩,by repeat (first|exact Drawn0.refl _|apply Drawn0.step)⟩
   ·
    rw [if_neg c2] at H
    have c2b0 : decide (x4_1 < (l0.length : Int))=false:=decide_eq_false c2
    clear c2
    obtain rfl:=Option.some.inj H
    go_wp2
    go_ret
    exact ⟨by first|rfl|(simp;done)|(simp [*];done),by repeat (first|exact Drawn0.refl _|apply Drawn0.step)⟩

end Go.Proofs.Ytkaoiblgfpphoaa.Prt
