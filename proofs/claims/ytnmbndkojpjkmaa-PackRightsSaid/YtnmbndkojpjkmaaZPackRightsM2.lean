-- Functions of the program and of the document as plain Lean, each with the proof that the code comes to it. Written by a program of this session (wip/tools/myprint.py, pack.py) over the kit's printer; Lean checks it.
import Derived.Test.YtnmbndkojpjkmaaZPackRightsPrt0
import Derived.Test.YtnmbndkojpjkmaaZPackRightsM1
import Derived.Test.YtnmbndkojpjkmaaZPackRightsSh
namespace Go.Proofs.Ytnmbndkojpjkmaa.Prt
open Go.RowKit Go.Proofs.YtnmbndkojpjkmaaW.PrintWords Go.Proofs.YtnmbndkojpjkmaaW.PrintLast Go.Proofs.YtnmbndkojpjkmaaW.PrintMore
attribute [local go_sem] max2_int min2_int max_two min_two max_three min_three max_four min_four   -- for this text's walks alone
set_option linter.unusedVariables false
set_option linter.unusedSimpArgs false


mutual
def comb_Vector.l0 : Nat→Int→Int→Int→List Int→Option (List Int × Int)
 | 0,_,_,_,_=>none
 | k+1,x0,x1,x2,x9=>if x0 > 0 then ((comb_table.f (wrap64 (x0 - 1)) x1).bind fun t488=>(if x2 ≥ t488 then ((comb_table.f (wrap64 (x0 - 1)) (wrap64 (x1 - 1))).bind fun t489=>(comb_Vector.l1 k x0 x1 (IntKind.u64.wrap (x2 - t488)) x9 1 t489)) else (if x9.length < 17592186044416 then (comb_Vector.l0 k (wrap64 (x0 - 1)) x1 x2 (x9 ++ [0])) else (none)))) else (some (x9,0))
def comb_Vector.l1 : Nat→Int→Int→Int→List Int→Int→Int→Option (List Int × Int)
 | 0,_,_,_,_,_,_=>none
 | k+1,x0,x1,x2,x9,x10,x12=>if x2 ≥ (IntKind.u64.wrap (2 * x12)) then ((comb_table.f (wrap64 (x0 - 1)) (wrap64 (x1 - (wrap64 (x10+1))))).bind fun t490=>(comb_Vector.l1 k x0 x1 (IntKind.u64.wrap (x2 - (IntKind.u64.wrap (2 * x12)))) x9 (wrap64 (x10+1)) t490)) else ((comb_table.f (wrap64 (x0 - 1)) (wrap64 (x1 - x10))).bind fun t491=>(if x2 ≥ t491 then (if x9.length < 17592186044416 then (comb_Vector.l0 k (wrap64 (x0 - 1)) (wrap64 (x1 - x10)) (IntKind.u64.wrap (x2 - t491)) (x9 ++ [wrap64 (-x10)])) else (none)) else (if x9.length < 17592186044416 then (comb_Vector.l0 k (wrap64 (x0 - 1)) (wrap64 (x1 - x10)) x2 (x9 ++ [x10])) else (none))))
end
def comb_Vector.f (k : Nat) (a0 : Int) (a1 : Int) (a2 : Int) : Option (List Int × Int):=(comb_fair.f a0 a1).bind fun t483=>(if t483=true then ((comb_table.f a0 a1).bind fun t487=>(if a2 ≥ t487 then (some (([] : List Int),5)) else (comb_Vector.l0 k a0 a1 a2 ([] : List Int)))) else (some (([] : List Int),1)))
theorem comb_Vector.mono_l : ∀ k,(∀ y0 y1 y2 y3,LeO (comb_Vector.l0 k y0 y1 y2 y3) (comb_Vector.l0 (k+1) y0 y1 y2 y3))∧(∀ y0 y1 y2 y3 y4 y5,LeO (comb_Vector.l1 k y0 y1 y2 y3 y4 y5) (comb_Vector.l1 (k+1) y0 y1 y2 y3 y4 y5))
 | 0=>⟨fun _ _ _ _ r h=>by simp [comb_Vector.l0] at h,fun _ _ _ _ _ _ r h=>by simp [comb_Vector.l1] at h⟩
 | k+1=>by
  obtain ⟨ih0,ih1⟩:=comb_Vector.mono_l k
  refine ⟨?_, ?_⟩
  ·
   intro y0 y1 y2 y3
   unfold comb_Vector.l0
   repeat' with_reducible first|apply ih0|apply ih1|apply yLr|apply yLn|apply yLi|apply yLb|intro _
  ·
   intro y0 y1 y2 y3 y4 y5
   unfold comb_Vector.l1
   repeat' with_reducible first|apply ih0|apply ih1|apply yLr|apply yLn|apply yLi|apply yLb|intro _
theorem comb_Vector.mono : ∀ a0 a1 a2 k,LeO (comb_Vector.f k a0 a1 a2) (comb_Vector.f (k+1) a0 a1 a2):=by
 intro a0 a1 a2 k
 obtain ⟨ih0,ih1⟩:=comb_Vector.mono_l k
 unfold comb_Vector.f
 repeat' with_reducible first|apply ih0|apply ih1|apply yLr|apply yLn|apply yLi|apply yLb|intro _
set_option maxHeartbeats 8000000 in
set_option maxRecDepth 100000 in
theorem comb_Vector.calls (k : Nat) (a0 : Int) (a1 : Int) (a2 : Int) (r1 : List Int) (r2 : Int) (w : World) (h : comb_Vector.f k a0 a1 a2=some (r1,r2)) :
  Calls Try.prog 54 #[.int .i64 a0, .int .i64 a1, .int .u64 a2] w fun e w' => ∃ v0_ : Value,e=.returned (.tuple #[v0_, .int .i64 r2])∧Kd.R (Kd.int .i64) 3 w' w.heap.size (fun _=>True) v0_ r1∧Below w.heap.size w w' := by
 have HB:=zm (Below.refl w.heap.size w)
 have H : ((comb_fair.f a0 a1).bind fun t483=>(if t483=true then ((comb_table.f a0 a1).bind fun t487=>(if a2 ≥ t487 then (some (([] : List Int),5)) else (comb_Vector.l0 k a0 a1 a2 ([] : List Int)))) else (some (([] : List Int),1))))=some (r1,r2):=h
 clear h
 obtain ⟨t483,A4,H⟩:=ybi H
 by_cases c5 : t483=true
 ·
  subst c5
  rw [if_pos rfl] at H
  obtain ⟨y484,hy484⟩ : ∃ y_ : List Int,y_=(([0] : List Int)):=⟨_,rfl⟩
  replace H : ((comb_table.f a0 a1).bind fun t487=>(if a2 ≥ t487 then (some (([] : List Int),5)) else (comb_Vector.l0 k a0 a1 a2 ([] : List Int))))=some (r1,r2):=yrw hy484 H
  have Ny484:=zm hy484;clear hy484
  obtain ⟨t487,A6,H⟩:=ybi H
  by_cases c7 : a2 ≥ t487
  ·
   rw [if_pos c7] at H
   have c7b0 : decide (t487≤a2)=true:=decide_eq_true c7
   clear c7
   simp only [Option.some.injEq,Prod.mk.injEq] at H
   obtain ⟨rfl,rfl⟩:=H
   go_enter Try.func54,Try.ntmps54
   obtain ⟨Z,hz,HZs⟩:=comb_table.zsize
   obtain ⟨ia0,ib0,ic0,id0⟩:=comb_table.inn A6.out
   go_wp2_with (first|((with_reducible refine gate_callee (f:=71) rfl ?_);refine ygl 16 Try.func71 #[.int .i64 a0, .int .i64 a1] ?_;(with_reducible refine (comb_fair.calls a0 a1 true _ A4.out).mono ?_);rintro e w' ⟨rfl,⟨nd,rfl⟩⟩;refine ⟨_,rfl, ?_⟩)|((with_reducible refine gate_callee (f:=72) rfl ?_);refine goesL_ (some 18) rfl rfl Try.func72 (by kernel_rfl) rfl #[] rfl (by first|rfl|simp) ?_;(with_reducible refine (comb_table.made _).mono ?_);rintro e w5 ⟨rfl,hb5⟩;refine ⟨_,rfl, ?_⟩;have hst:=run_storeCells_new (P:=Try.prog) w5 118 Z (ABl (comb_table.T 16)) comb_table.size16 HZs.out (ABl_one _);have n1_:=zm (ze (zJ yhb hb5) (.cells (ABl (comb_table.T 16)) 118));clear HB;have HB:=n1_;clear n1_;have hbn:=zm (blk_new w5 (.cells (ABl (comb_table.T 16)) 118));have hcl0:=comb_table.look hbn.out A6.out))
   go_ret2
   exact ⟨_,ye,yn,yhb⟩
  ·
   rw [if_neg c7] at H
   have c7b0 : decide (t487≤a2)=false:=decide_eq_false c7
   clear c7
   have H' := zm H
   clear H
   go_enter Try.func54,Try.ntmps54
   obtain ⟨Z,hz,HZs⟩:=comb_table.zsize
   obtain ⟨ia0,ib0,ic0,id0⟩:=comb_table.inn A6.out
   go_wp2_with (first|((with_reducible refine gate_callee (f:=71) rfl ?_);refine ygl 16 Try.func71 #[.int .i64 a0, .int .i64 a1] ?_;(with_reducible refine (comb_fair.calls a0 a1 true _ A4.out).mono ?_);rintro e w' ⟨rfl,⟨nd,rfl⟩⟩;refine ⟨_,rfl, ?_⟩)|((with_reducible refine gate_callee (f:=72) rfl ?_);refine goesL_ (some 18) rfl rfl Try.func72 (by kernel_rfl) rfl #[] rfl (by first|rfl|simp) ?_;(with_reducible refine (comb_table.made _).mono ?_);rintro e w5 ⟨rfl,hb5⟩;refine ⟨_,rfl, ?_⟩;have hst:=run_storeCells_new (P:=Try.prog) w5 118 Z (ABl (comb_table.T 16)) comb_table.size16 HZs.out (ABl_one _);have n1_:=zm (ze (zJ yhb hb5) (.cells (ABl (comb_table.T 16)) 118));clear HB;have HB:=n1_;clear n1_;have hbn:=zm (blk_new w5 (.cells (ABl (comb_table.T 16)) 118));have hcl0:=comb_table.look hbn.out A6.out))
   have hb0:=HB.out
   obtain ⟨W0,hW0⟩ : ∃ W0,W0=w5.alloc (.cells (ABl (comb_table.T 16)) 118):=⟨_,rfl⟩
   rw [← hW0] at hb0 hbn
   rw [← hW0]
   clear hW0 HB hst hz HZs;clear hcl0
   generalize w5.heap.size=B at hbn ⊢
   have HB:=zm (Below.refl W0.heap.size W0)
   go_loopg [0,1,2,9] k (fun kq v0 v1 v2 v9 w' => ∃ (x0_1 : Int) (x1_1 : Int) (x2_1 : Int) (x9_1 : List Int),v0=.int .i64 x0_1∧v1=.int .i64 x1_1∧v2=.int .u64 x2_1∧Aside0 (comb_Vector.l0 kq x0_1 x1_1 x2_1 x9_1=some (r1,r2))∧Aside0 (kq≤k)∧Aside0 (Kd.R (Kd.int .i64) 3 w' W0.heap.size (fun _=>True) v9 x9_1)∧Aside0 (Below W0.heap.size W0 w'))
   case atStart=>exact ⟨(a0),(a1),(a2),(([] : List Int)),yq,yq,yq,H',⟨Nat.le_refl _⟩,⟨yn⟩,⟨yhb⟩⟩
   case round =>
    clear H'
    try clear c7b0
    obtain ⟨x0_1,x1_1,x2_1,x9_1,rfl,rfl,rfl,HA,HK1,HO_9,HB⟩:=hrel
    obtain ⟨k1,rfl⟩:=ysu gk (fun h=>by subst h;exact absurd HA.out (by simp [comb_Vector.l0]))
    have H:=HA.out;clear HA
    simp only [comb_Vector.l0] at H
    by_cases c12 : x0_1 > 0
    ·
     rw [if_pos c12] at H
     have c12b0 : decide (0 < x0_1)=true:=decide_eq_true c12
     clear c12
     obtain ⟨t488,A13,H⟩:=ybi H
     by_cases c14 : x2_1 ≥ t488
     ·
      rw [if_pos c14] at H
      have c14b0 : decide (t488≤x2_1)=true:=decide_eq_true c14
      clear c14
      obtain ⟨t489,A15,H⟩:=ybi H
      have H' := zm H
      clear H
      obtain ⟨ia0,ib0,ic0,id0⟩:=comb_table.inn A13.out
      have hcl0:=(HB.out.cell (zb W0 _ (comb_table.look hbn.out A13.out))).trans (comb_table.look hbn.out A13.out)
      obtain ⟨ia1,ib1,ic1,id1⟩:=comb_table.inn A15.out
      have hcl1:=(HB.out.cell (zb W0 _ (comb_table.look hbn.out A15.out))).trans (comb_table.look hbn.out A15.out)
      go_wp2
      go_loopg [2,10,12] k1 (fun kq v2 v10 v12 w' => ∃ (x2_2 : Int) (x10_2 : Int) (x12_2 : Int),v2=.int .u64 x2_2∧v10=.int .i64 x10_2∧v12=.int .u64 x12_2∧Aside0 (comb_Vector.l1 kq x0_1 x1_1 x2_2 x9_1 x10_2 x12_2=some (r1,r2))∧Aside0 (kq≤k1)∧Aside0 (Kd.R (Kd.int .i64) 3 w' W0.heap.size (fun _=>True) u9 x9_1)∧Aside0 (Below W0.heap.size W0 w'))
      case atStart=>exact ⟨(IntKind.u64.wrap (x2_1 - t488)),(1),(t489),yq,yq,yq,H',⟨Nat.le_refl _⟩,⟨yr HO_9⟩,⟨yhb⟩⟩
      case round =>
       clear H'
       try clear c12b0
       try clear c14b0
       obtain ⟨x2_2,x10_2,x12_2,rfl,rfl,rfl,HA,HK2,HO_9,HB⟩:=hrel
       obtain ⟨k2,rfl⟩:=ysu gk (fun h=>by subst h;exact absurd HA.out (by simp [comb_Vector.l1]))
       have H:=HA.out;clear HA
       simp only [comb_Vector.l1] at H
       by_cases c16 : x2_2 ≥ (IntKind.u64.wrap (2 * x12_2))
       ·
        rw [if_pos c16] at H
        have c16b0 : decide ((IntKind.u64.wrap (2 * x12_2))≤x2_2)=true:=decide_eq_true c16
        clear c16
        obtain ⟨t490,A17,H⟩:=ybi H
        have H' := zm H
        clear H
        obtain ⟨ia2,ib2,ic2,id2⟩:=comb_table.inn A17.out
        have hcl2:=(HB.out.cell (zb W0 _ (comb_table.look hbn.out A17.out))).trans (comb_table.look hbn.out A17.out)
        go_wp2
        go_roundg k2
        case measure=>exact yom2 HK1 HK2
        case rel=>exact ⟨(IntKind.u64.wrap (x2_2 - (IntKind.u64.wrap (2 * x12_2)))),(wrap64 (x10_2+1)),(t490),yq,yq,yq,H',⟨yom2 HK1 HK2⟩,⟨yr HO_9⟩,⟨yhb⟩⟩
       ·
        rw [if_neg c16] at H
        have c16b0 : decide ((IntKind.u64.wrap (2 * x12_2))≤x2_2)=false:=decide_eq_false c16
        clear c16
        obtain ⟨t491,A18,H⟩:=ybi H
        by_cases c19 : x2_2 ≥ t491
        ·
         rw [if_pos c19] at H
         have c19b0 : decide (t491≤x2_2)=true:=decide_eq_true c19
         clear c19
         obtain ⟨c20,H⟩:=yif H
         have LMc20:=zm c20;clear c20
         obtain ⟨y492,hy492⟩ : ∃ y_ : List Int,y_=(x9_1 ++ [wrap64 (-x10_2)]):=⟨_,rfl⟩
         replace H : (comb_Vector.l0 k2 (wrap64 (x0_1 - 1)) (wrap64 (x1_1 - x10_2)) (IntKind.u64.wrap (x2_2 - t491)) y492)=some (r1,r2):=yrw hy492 H
         have Ny492:=zm hy492;clear hy492
         have H' := zm H
         clear H
         obtain ⟨ia3,ib3,ic3,id3⟩:=comb_table.inn A18.out
         have hcl3:=(HB.out.cell (zb W0 _ (comb_table.look hbn.out A18.out))).trans (comb_table.look hbn.out A18.out)
         go_wp2_with (first|((with_reducible refine gate_builtin (b:=.append) (xs := #[.tmp 85, .tmp 87]) rfl ?_);at_builtin;refine Kd.R_append (Kd.int .i64) (w0:=W0) W0.heap.size rfl (.tmp 85) (.tmp 87) 49 3 (.int .i64 0) 8 rfl Try.underlying49 info3 rfl (by decide) (by omega) u9 x9_1 (wrap64 (-x10_2)) [.int .i64 (wrap64 (-x10_2))] (fun _=>True) (fun _=>False) rfl rfl ?aP (fun _ hk=>hk.elim) ?aF ?aO ?aB ?aS ?aL ?_;(case aP=>exact rfl);(case aB=>exact yhb);(case aF=>exact (fun _ _=>trivial));(case aO=>exact (yr HO_9));(case aS=>exact (zE yhb));(case aL=>have:=LMc20.out;omega);intro v493 w21 ho hb hg hat;rw [← Ny492.out] at ho;replace HB:=zm (hb);have HO494:=zm (ho);clear HO_9;clear ho hb hg hat))
         go_roundg k2
         case measure=>exact yom2 HK1 HK2
         case rel=>exact ⟨(wrap64 (x0_1 - 1)),(wrap64 (x1_1 - x10_2)),(IntKind.u64.wrap (x2_2 - t491)),(y492),yq,yq,yq,H',⟨yom2 HK1 HK2⟩,⟨yr HO494⟩,⟨yhb⟩⟩
        ·
         rw [if_neg c19] at H
         have c19b0 : decide (t491≤x2_2)=false:=decide_eq_false c19
         clear c19
         obtain ⟨c22,H⟩:=yif H
         have LMc22:=zm c22;clear c22
         obtain ⟨y495,hy495⟩ : ∃ y_ : List Int,y_=(x9_1 ++ [x10_2]):=⟨_,rfl⟩
         replace H : (comb_Vector.l0 k2 (wrap64 (x0_1 - 1)) (wrap64 (x1_1 - x10_2)) x2_2 y495)=some (r1,r2):=yrw hy495 H
         have Ny495:=zm hy495;clear hy495
         have H' := zm H
         clear H
         obtain ⟨ia4,ib4,ic4,id4⟩:=comb_table.inn A18.out
         have hcl4:=(HB.out.cell (zb W0 _ (comb_table.look hbn.out A18.out))).trans (comb_table.look hbn.out A18.out)
         go_wp2_with (first|((with_reducible refine gate_builtin (b:=.append) (xs := #[.tmp 85, .tmp 87]) rfl ?_);at_builtin;refine Kd.R_append (Kd.int .i64) (w0:=W0) W0.heap.size rfl (.tmp 85) (.tmp 87) 49 3 (.int .i64 0) 8 rfl Try.underlying49 info3 rfl (by decide) (by omega) u9 x9_1 x10_2 [.int .i64 x10_2] (fun _=>True) (fun _=>False) rfl rfl ?aP (fun _ hk=>hk.elim) ?aF ?aO ?aB ?aS ?aL ?_;(case aP=>exact rfl);(case aB=>exact yhb);(case aF=>exact (fun _ _=>trivial));(case aO=>exact (yr HO_9));(case aS=>exact (zE yhb));(case aL=>have:=LMc22.out;omega);intro v496 w23 ho hb hg hat;rw [← Ny495.out] at ho;replace HB:=zm (hb);have HO497:=zm (ho);clear HO_9;clear ho hb hg hat))
         go_roundg k2
         case measure=>exact yom2 HK1 HK2
         case rel=>exact ⟨(wrap64 (x0_1 - 1)),(wrap64 (x1_1 - x10_2)),(x2_2),(y495),yq,yq,yq,H',⟨yom2 HK1 HK2⟩,⟨yr HO497⟩,⟨yhb⟩⟩
     ·
      rw [if_neg c14] at H
      have c14b0 : decide (t488≤x2_1)=false:=decide_eq_false c14
      clear c14
      obtain ⟨c24,H⟩:=yif H
      have LMc24:=zm c24;clear c24
      obtain ⟨y498,hy498⟩ : ∃ y_ : List Int,y_=(x9_1 ++ [0]):=⟨_,rfl⟩
      replace H : (comb_Vector.l0 k1 (wrap64 (x0_1 - 1)) x1_1 x2_1 y498)=some (r1,r2):=yrw hy498 H
      have Ny498:=zm hy498;clear hy498
      have H' := zm H
      clear H
      obtain ⟨ia5,ib5,ic5,id5⟩:=comb_table.inn A13.out
      have hcl5:=(HB.out.cell (zb W0 _ (comb_table.look hbn.out A13.out))).trans (comb_table.look hbn.out A13.out)
      go_wp2_with (first|((with_reducible refine gate_builtin (b:=.append) (xs := #[.tmp 85, .tmp 87]) rfl ?_);at_builtin;refine Kd.R_append (Kd.int .i64) (w0:=W0) W0.heap.size rfl (.tmp 85) (.tmp 87) 49 3 (.int .i64 0) 8 rfl Try.underlying49 info3 rfl (by decide) (by omega) u9 x9_1 0 [.int .i64 0] (fun _=>True) (fun _=>False) rfl rfl ?aP (fun _ hk=>hk.elim) ?aF ?aO ?aB ?aS ?aL ?_;(case aP=>exact rfl);(case aB=>exact yhb);(case aF=>exact (fun _ _=>trivial));(case aO=>exact (yr HO_9));(case aS=>exact (zE yhb));(case aL=>have:=LMc24.out;omega);intro v499 w25 ho hb hg hat;rw [← Ny498.out] at ho;replace HB:=zm (hb);have HO500:=zm (ho);clear HO_9;clear ho hb hg hat))
      go_roundg k1
      case measure=>exact yom1 HK1
      case rel=>exact ⟨(wrap64 (x0_1 - 1)),(x1_1),(x2_1),(y498),yq,yq,yq,H',⟨yom1 HK1⟩,⟨yr HO500⟩,⟨yhb⟩⟩
    ·
     rw [if_neg c12] at H
     have c12b0 : decide (0 < x0_1)=false:=decide_eq_false c12
     clear c12
     simp only [Option.some.injEq,Prod.mk.injEq] at H
     obtain ⟨rfl,rfl⟩:=H
     go_wp2
     go_ret2
     exact ⟨_,ye,Kd.R_lower (yr HO_9) (zE hb0),zJ hb0 yhb⟩
 ·
  replace c5:=Bool.eq_false_iff.mpr c5
  subst c5
  rw [ynf] at H
  simp only [Option.some.injEq,Prod.mk.injEq] at H
  obtain ⟨rfl,rfl⟩:=H
  go_enter Try.func54,Try.ntmps54
  go_wp2_with (first|((with_reducible refine gate_callee (f:=71) rfl ?_);refine ygl 16 Try.func71 #[.int .i64 a0, .int .i64 a1] ?_;(with_reducible refine (comb_fair.calls a0 a1 false _ A4.out).mono ?_);rintro e w' ⟨rfl,⟨nd,rfl⟩⟩;refine ⟨_,rfl, ?_⟩))
  go_ret2
  exact ⟨_,ye,yn,yhb⟩
def cpack_gains.l0 : Nat→Int→List (List Int)→List (List Int)→Int→Int→Option (Bool)
 | 0,_,_,_,_,_=>none
 | k+1,x0,x1,x7,x8,x9=>if x9 < x8 then (if 0≤x9 then (if x9 < (x7.length : Int) then ((gain_Right.f k (rd_L1 x7 x9)).bind fun t183=>(if t183=true then (cpack_gains.l0 k x0 x1 x7 x8 (wrap64 (x9+1))) else (some false))) else (none)) else (none)) else (some ((x1.length : Int) == x0))
def cpack_gains.f (k : Nat) (a0 : Int) (l1 : List (List Int)) : Option (Bool):=cpack_gains.l0 k a0 l1 l1 (l1.length : Int) 0
theorem cpack_gains.mono_l : ∀ k,(∀ y0 y1 y2 y3 y4,LeO (cpack_gains.l0 k y0 y1 y2 y3 y4) (cpack_gains.l0 (k+1) y0 y1 y2 y3 y4))
 | 0=>fun _ _ _ _ _ r h=>by simp [cpack_gains.l0] at h
 | k+1=>by
  have ih0:=cpack_gains.mono_l k
  ·
   intro y0 y1 y2 y3 y4
   unfold cpack_gains.l0
   repeat' with_reducible first|apply ih0|apply gain_Right.mono|apply yLr|apply yLn|apply yLi|apply yLb|intro _
theorem cpack_gains.mono : ∀ a0 a1 k,LeO (cpack_gains.f k a0 a1) (cpack_gains.f (k+1) a0 a1):=by
 intro a0 a1 k
 have ih0:=cpack_gains.mono_l k
 unfold cpack_gains.f
 repeat' with_reducible first|apply ih0|apply gain_Right.mono|apply yLr|apply yLn|apply yLi|apply yLb|intro _
set_option maxHeartbeats 8000000 in
set_option maxRecDepth 100000 in
theorem cpack_gains.calls (k : Nat) (a0 : Int) (A1 : Option Addr) (c1 : Nat) (l1 : List (List Int)) (r : Bool) (w : World) (hr1 : Kd.C (Kd.slice 3 (Kd.int .i64)) w A1 l1.length l1) (hc1 : l1.length≤c1) (h : cpack_gains.f k a0 l1=some r) :
  Calls Try.prog 25 #[.int .i64 a0, .slice A1 l1.length c1] w fun e w' => e=.returned (.bool r)∧Drawn0 w w' := by
 have HR1:=zm hr1;have HC1:=zm hc1;clear hr1 hc1
 have H : (cpack_gains.l0 k a0 l1 l1 (l1.length : Int) 0)=some r:=h
 clear h
 have H' := zm H
 clear H
 go_enter Try.func25,Try.ntmps25
 go_wp2
 go_loopg [9] k (fun kq v9 w' => ∃ (x9_1 : Int),v9=.int .i64 x9_1∧Aside0 (cpack_gains.l0 kq a0 l1 l1 (l1.length : Int) x9_1=some r)∧Aside0 (kq≤k)∧Drawn0 w w')
 case atStart=>exact ⟨(0),yq,H',⟨Nat.le_refl _⟩,yd⟩
 case round =>
  clear H'
  try clear c1
  obtain ⟨x9_1,rfl,HA,HK1,⟨m1,rfl⟩⟩:=hrel
  obtain ⟨k1,rfl⟩:=ysu gk (fun h=>by subst h;exact absurd HA.out (by simp [cpack_gains.l0]))
  have H:=HA.out;clear HA
  simp only [cpack_gains.l0] at H
  by_cases c3 : x9_1 < (l1.length : Int)
  ·
   rw [if_pos c3] at H
   have c3b0 : decide (x9_1 < (l1.length : Int))=true:=decide_eq_true c3
   clear c3
   obtain ⟨c4,H⟩:=yif H
   have c4b0 : decide (0≤x9_1)=true:=decide_eq_true c4
   clear c4
   obtain ⟨c5,H⟩:=yif H
   have c5b0 : decide (x9_1 < (l1.length : Int))=true:=decide_eq_true c5
   clear c5
   obtain ⟨t183,A6,H⟩:=ybi H
   by_cases c7 : t183=true
   ·
    subst c7
    rw [if_pos rfl] at H
    have H' := zm H
    clear H
    have p182 : 0≤(x9_1 : Int):=yt
    have q182 : x9_1 < (l1.length : Int):=yt
    obtain ⟨ad182,A182_0,c182_0,e182,hx182_0,hl182_0,hi182_0⟩:=at_L1 HR1.out x9_1 p182 q182
    cases e182
    have HR182_0:=zm hi182_0;have HC182_0:=zm hl182_0;clear hi182_0 hl182_0
    replace p182:=eq_true p182
    replace q182:=eq_true q182
    go_wp2_with (first|((with_reducible refine gate_callee (f:=62) rfl ?_);refine ygl 14 Try.func62 #[.slice A182_0 (rd_L1 l1 x9_1).length c182_0] ?_;(with_reducible refine (gain_Right.calls k1 _ _ (rd_L1 l1 x9_1) true _ ?side1 HC182_0.out A6.out).mono ?_);(case side1=>exact yce HR182_0.out);rintro e w' ⟨rfl,⟨nd,rfl⟩⟩;refine ⟨_,rfl, ?_⟩))
    go_roundg k1
    case measure=>exact yom1 HK1
    case rel=>exact ⟨(wrap64 (x9_1+1)),yq,H',⟨yom1 HK1⟩,yd⟩
   ·
    replace c7:=Bool.eq_false_iff.mpr c7
    subst c7
    rw [ynf] at H
    obtain rfl:=Option.some.inj H
    have p182 : 0≤(x9_1 : Int):=yt
    have q182 : x9_1 < (l1.length : Int):=yt
    obtain ⟨ad182,A182_0,c182_0,e182,hx182_0,hl182_0,hi182_0⟩:=at_L1 HR1.out x9_1 p182 q182
    cases e182
    have HR182_0:=zm hi182_0;have HC182_0:=zm hl182_0;clear hi182_0 hl182_0
    replace p182:=eq_true p182
    replace q182:=eq_true q182
    go_wp2_with (first|((with_reducible refine gate_callee (f:=62) rfl ?_);refine ygl 14 Try.func62 #[.slice A182_0 (rd_L1 l1 x9_1).length c182_0] ?_;(with_reducible refine (gain_Right.calls k1 _ _ (rd_L1 l1 x9_1) false _ ?side1 HC182_0.out A6.out).mono ?_);(case side1=>exact yce HR182_0.out);rintro e w' ⟨rfl,⟨nd,rfl⟩⟩;refine ⟨_,rfl, ?_⟩))
    go_ret
    exact ⟨yq,yd⟩
  ·
   rw [if_neg c3] at H
   have c3b0 : decide (x9_1 < (l1.length : Int))=false:=decide_eq_false c3
   clear c3
   obtain rfl:=Option.some.inj H
   go_wp2
   go_ret
   exact ⟨yq,yd⟩
def cpack_of.f (l0 : List (List Int)) (a1 : Int) : Option (List Int):=if a1 < (l0.length : Int) then (if 0≤a1 then (some (rd_L1 l0 a1)) else (none)) else (some ([] : List Int))
set_option maxHeartbeats 8000000 in
set_option maxRecDepth 100000 in
theorem cpack_of.calls (P0_ : Nat→Prop) (A0 : Option Addr) (c0 : Nat) (l0 : List (List Int)) (a1 : Int) (r : List Int) (w : World) (hs0 : Kd.V (Kd.slice 3 (Kd.int .i64)) 49 w w.heap.size (fun k_=>P0_ k_) (.slice A0 l0.length c0) l0) (h : cpack_of.f l0 a1=some r) :
  Calls Try.prog 29 #[.slice A0 l0.length c0, .int .i64 a1] w fun e w' => ∃ v0_ : Value,e=.returned (v0_)∧Kd.V (Kd.int .i64) 3 w' w.heap.size (fun k_=>(P0_ k_∨w.heap.size≤k_)) v0_ r∧Below w.heap.size w w' := by
 have HO0:=zm (show Kd.V (Kd.slice 3 (Kd.int .i64)) 49 w w.heap.size (fun k_=>(P0_ k_∨w.heap.size≤k_)) (.slice A0 l0.length c0) l0 from zy hs0 (fun k_ hk => .inl hk))
 have HB:=zm (Below.refl w.heap.size w)
 have H : (if a1 < (l0.length : Int) then (if 0≤a1 then (some (rd_L1 l0 a1)) else (none)) else (some ([] : List Int)))=some r:=h
 clear h
 by_cases c3 : a1 < (l0.length : Int)
 ·
  rw [if_pos c3] at H
  have c3b0 : decide (a1 < (l0.length : Int))=true:=decide_eq_true c3
  clear c3
  obtain ⟨c4,H⟩:=yif H
  have c4b0 : decide (0≤a1)=true:=decide_eq_true c4
  clear c4
  obtain rfl:=Option.some.inj H
  have p287 : 0≤(a1 : Int):=yt
  have q287 : a1 < (l0.length : Int):=yt
  obtain ⟨ad287,A287_0,c287_0,e287,hx287_0,hl287_0,hi287_0⟩:=at_L1 (Kd.V_reads' HO0.out).2.2 a1 p287 q287
  cases e287
  obtain ⟨ce287,hce287,hMe287,hcc287⟩:=Kd.V_get HO0.out [] a1 p287 (by first|exact q287|exact yt|(have e_:=(Kd.V_reads' HO0.out).1;omega))
  obtain ⟨ua287_0,uc287_0,rfl,ul287_0,ge287_0⟩:=Kd.FK_slice_open hMe287
  have hv287_0:=hcc287 0 _ rfl
  rw [Nat.add_zero,show ((Kd.slice 3 (Kd.int .i64))).sz=1 from rfl,Nat.mul_one] at hv287_0
  replace hv287_0:=Option.some.inj (hv287_0.symm.trans hx287_0)
  injection hv287_0 with hva_ hvn_ hvc_
  rw [hva_] at ge287_0
  rw [hvc_] at ul287_0
  have HL287_0:=zm (show Kd.V (Kd.int .i64) 3 _ w.heap.size _ _ (rd_L1 l0 a1) from Kd.V_mk ul287_0 ge287_0)
  clear hva_ hvn_ hvc_ ge287_0 ul287_0;clear hcc287 hce287;have HR287_0:=zm hi287_0;have HC287_0:=zm hl287_0;clear hi287_0 hl287_0
  replace p287:=eq_true p287
  replace q287:=eq_true q287
  go_enter Try.func29,Try.ntmps29
  go_wp2
  go_ret
  exact ⟨_,ye,yr HL287_0,yhb⟩
 ·
  rw [if_neg c3] at H
  have c3b0 : decide (a1 < (l0.length : Int))=false:=decide_eq_false c3
  clear c3
  obtain rfl:=Option.some.inj H
  go_enter Try.func29,Try.ntmps29
  go_wp2
  go_ret
  exact ⟨_,ye,(by first|exact Kd.V_nil _ _ _ _ _|exact zy (Kd.R_V (yn)) (fun k_ hk=>by first|exact ⟨(.inr (hk.1)),hk.2⟩|exact (.inr (hk)))),yhb⟩
def gain_take.f (k : Nat) (a0_0 : Int) (a0_1 : Int) (l0_2 : List Int) (a0_3 : Int) (a1 : Int) (a2 : Bool) : Option (Int × Int × List Int × Int × Int):=if a2=true then ((coder_TakeNum.f k a0_0 a0_1 l0_2 a0_3 45).bind fun bt423=>(some (bt423.1,bt423.2.1,bt423.2.2.1,bt423.2.2.2.1,wrap64 (bt423.2.2.2.2.1)))) else ((coder_Get.f a0_0 a0_1 l0_2 a0_3 8).bind fun bt432=>((coder_Take.f k a0_0 a0_1 l0_2 a0_3 bt432.1 (wrap64 (bt432.1+1)) 8).bind fun bt434=>(if bt432.1=7 then ((coder_TakeNum.f k bt434.1 bt434.2.1 bt434.2.2.1 bt434.2.2.2.1 45).bind fun bt441=>(some (bt441.1,bt441.2.1,bt441.2.2.1,bt441.2.2.2.1,wrap64 (bt441.2.2.2.2.1)))) else (some (bt434.1,bt434.2.1,bt434.2.2.1,bt434.2.2.2.1,mx 0 (mn (wrap64 ((wrap64 (a1+bt432.1)) - 3)) 44))))))
theorem gain_take.mono : ∀ a0 a1 a2 a3 a4 a5 k,LeO (gain_take.f k a0 a1 a2 a3 a4 a5) (gain_take.f (k+1) a0 a1 a2 a3 a4 a5):=by
 intro a0 a1 a2 a3 a4 a5 k
 unfold gain_take.f
 repeat' with_reducible first|apply coder_Take.mono|apply coder_TakeNum.mono|apply yLr|apply yLn|apply yLi|apply yLb|intro _
set_option maxHeartbeats 8000000 in
set_option maxRecDepth 100000 in
theorem gain_take.calls (k : Nat) (a0_0 : Int) (a0_1 : Int) (P0_2_ : Nat→Prop) (A0_2 : Option Addr) (c0_2 : Nat) (l0_2 : List Int) (a0_3 : Int) (a1 : Int) (a2 : Bool) (r1 : Int) (r2 : Int) (r3 : List Int) (r4 : Int) (r5 : Int) (w : World) (hs0_2 : Kd.V (Kd.int .u8) 5 w w.heap.size (fun k_=>P0_2_ k_) (.slice A0_2 l0_2.length c0_2) l0_2) (h : gain_take.f k a0_0 a0_1 l0_2 a0_3 a1 a2=some (r1,r2,r3,r4,r5)) :
  Calls Try.prog 88 #[.agg #[.int .u64 a0_0, .int .u32 a0_1, .slice A0_2 l0_2.length c0_2, .int .i64 a0_3], .int .i64 a1, .bool a2] w fun e w' => ∃ v2_ : Value,e=.returned (.tuple #[.agg #[.int .u64 r1, .int .u32 r2,v2_, .int .i64 r4], .int .i64 r5])∧Kd.V (Kd.int .u8) 5 w' w.heap.size (fun k_=>(P0_2_ k_∨w.heap.size≤k_)) v2_ r3∧Below w.heap.size w w' := by
 have hu82:=Try.underlying82
 have HO0_2:=zm (show Kd.V (Kd.int .u8) 5 w w.heap.size (fun k_=>(P0_2_ k_∨w.heap.size≤k_)) (.slice A0_2 l0_2.length c0_2) l0_2 from zy hs0_2 (fun k_ hk => .inl hk))
 have HB:=zm (Below.refl w.heap.size w)
 have H : (if a2=true then ((coder_TakeNum.f k a0_0 a0_1 l0_2 a0_3 45).bind fun bt423=>(some (bt423.1,bt423.2.1,bt423.2.2.1,bt423.2.2.2.1,wrap64 (bt423.2.2.2.2.1)))) else ((coder_Get.f a0_0 a0_1 l0_2 a0_3 8).bind fun bt432=>((coder_Take.f k a0_0 a0_1 l0_2 a0_3 bt432.1 (wrap64 (bt432.1+1)) 8).bind fun bt434=>(if bt432.1=7 then ((coder_TakeNum.f k bt434.1 bt434.2.1 bt434.2.2.1 bt434.2.2.2.1 45).bind fun bt441=>(some (bt441.1,bt441.2.1,bt441.2.2.1,bt441.2.2.2.1,wrap64 (bt441.2.2.2.2.1)))) else (some (bt434.1,bt434.2.1,bt434.2.2.1,bt434.2.2.2.1,mx 0 (mn (wrap64 ((wrap64 (a1+bt432.1)) - 3)) 44)))))))=some (r1,r2,r3,r4,r5):=h
 clear h
 by_cases c4 : a2=true
 ·
  subst c4
  rw [if_pos rfl] at H
  obtain ⟨⟨t423,t424,t425,t428,t429,t430⟩,A5,H⟩:=ybi H
  try dsimp only at H
  simp only [Option.some.injEq,Prod.mk.injEq] at H
  obtain ⟨rfl,rfl,rfl,rfl,rfl⟩:=H
  go_enter Try.func88,Try.ntmps88
  go_wp2_with (first|((with_reducible refine gate_dst (N:=3) rfl ?_);refine ybx 3 #[.int .u64 a0_0, .int .u32 a0_1, .slice A0_2 l0_2.length c0_2, .int .i64 a0_3] 82 ?_;intro gb421 hg w6 hbox hb;replace HO0_2:=yVe HO0_2 hg hb;have BK421:=zm (hbox);have GW421:=ygw hg;have GE421:=ygw hg;replace HB:=ybs hb;clear hb hbox hg)|((with_reducible refine gate_dst (N:=6) rfl ?_);refine ybx 6 #[.int .u64 0, .int .u32 0, .slice none 0 0, .int .i64 0] 82 ?_;intro gb422 hg w7 hbox hb;replace HO0_2:=yVe HO0_2 hg hb;have BK422:=zm (hbox);have GW422:=ygw hg;have GE422:=ygw hg;replace HB:=ybs hb;have NB421_422:=ynl BK421 hg;have NB422_421:=yng BK421 hg;replace BK421:=ybb BK421 hb;clear hb hbox hg;have:=NB421_422.out;have:=NB422_421.out;obtain ⟨_,_,_,_,_,_,_,_⟩:=yc4 BK421)|((with_reducible refine gate_callee (f:=53) rfl ?_);refine ygl 39 Try.func53 #[.agg #[.int .u64 a0_0, .int .u32 a0_1, .slice A0_2 l0_2.length c0_2, .int .i64 a0_3], .int .u64 45] ?_;(with_reducible refine (coder_TakeNum.calls k a0_0 a0_1 (fun k_=>(((P0_2_ k_∨w.heap.size≤k_)∧k_≠gb421)∧k_≠gb422)) _ _ l0_2 a0_3 45 t423 t424 t425 t428 t429 t430 _ HO0_2.out A5.out).mono ?_);rintro e w10 ⟨v426,rfl,ho0,hb⟩;refine ⟨_,rfl, ?_⟩;replace HO0_2:=yVb HO0_2 hb;have HO427:=yho (fun k_=>(P0_2_ k_∨w.heap.size≤k_)∧k_≠gb421∧k_≠gb422) ho0 (fun k_ hk_=>⟨Or.elim hk_ (fun hs_=>hs_.1.1) (fun hn_=>(.inr (Nat.le_trans (zE yhb) hn_))),yoB BK421 hk_,yoB BK422 hk_⟩);replace BK421:=ybb BK421 hb;replace BK422:=ybb BK422 hb;replace HB:=ybs hb;(try clear hb);(try clear ho0))|((with_reducible refine gate_dst (N:=10) rfl ?_);refine ybx 10 #[.int .u64 0, .int .u32 0, .slice none 0 0, .int .i64 0] 82 ?_;intro gb431 hg w11 hbox hb;replace HO0_2:=yVe HO0_2 hg hb;replace HO427:=yVe HO427 hg hb;have BK431:=zm (hbox);have GW431:=ygw hg;have GE431:=ygw hg;replace HB:=ybs hb;have NB421_431:=ynl BK421 hg;have NB431_421:=yng BK421 hg;replace BK421:=ybb BK421 hb;have NB422_431:=ynl BK422 hg;have NB431_422:=yng BK422 hg;replace BK422:=ybb BK422 hb;clear hb hbox hg;have:=NB431_421.out;have:=NB421_431.out;have:=NB431_422.out;have:=NB422_431.out;obtain ⟨_,_,_,_,_,_,_,_⟩:=yc4 BK431;obtain ⟨Ao15,co15,eo15⟩:=Kd.V_slice HO427.out;subst eo15;obtain ⟨_,_,_,_,_,_,_,_⟩:=yc4 BK422))
  refine bodyPost_ret (results_ct rfl _ _ gb422 82 #[.int .u64 t423, .int .u32 t424, .slice Ao15 t425.length co15, .int .i64 t428] (0,0) _ rfl (ykp BK422) Try.underlying82 rfl (by kernel_rfl)) rfl ?_
  exact ⟨_,ye,yV0 HO427,yhb⟩
 ·
  replace c4:=Bool.eq_false_iff.mpr c4
  subst c4
  rw [ynf] at H
  obtain ⟨⟨t432,t433⟩,A17,H⟩:=ybi H
  try dsimp only at H
  obtain ⟨⟨t434,t435,t436,t439,t440⟩,A18,H⟩:=ybi H
  try dsimp only at H
  by_cases c19 : t432=7
  ·
   rw [if_pos c19] at H
   have c19b0 : (t432 == 7)=true:=beq_iff_eq.mpr c19
   have c19b1 : (t432 != 7)=false:=bne_eq_false_iff_eq.mpr c19
   clear c19
   obtain ⟨⟨t441,t442,t443,t446,t447,t448⟩,A20,H⟩:=ybi H
   try dsimp only at H
   simp only [Option.some.injEq,Prod.mk.injEq] at H
   obtain ⟨rfl,rfl,rfl,rfl,rfl⟩:=H
   go_enter Try.func88,Try.ntmps88
   go_wp2_with (first|((with_reducible refine gate_dst (N:=3) rfl ?_);refine ybx 3 #[.int .u64 a0_0, .int .u32 a0_1, .slice A0_2 l0_2.length c0_2, .int .i64 a0_3] 82 ?_;intro gb421 hg w21 hbox hb;replace HO0_2:=yVe HO0_2 hg hb;have BK421:=zm (hbox);have GW421:=ygw hg;have GE421:=ygw hg;replace HB:=ybs hb;clear hb hbox hg)|((with_reducible refine gate_dst (N:=6) rfl ?_);refine ybx 6 #[.int .u64 0, .int .u32 0, .slice none 0 0, .int .i64 0] 82 ?_;intro gb422 hg w22 hbox hb;replace HO0_2:=yVe HO0_2 hg hb;have BK422:=zm (hbox);have GW422:=ygw hg;have GE422:=ygw hg;replace HB:=ybs hb;have NB421_422:=ynl BK421 hg;have NB422_421:=yng BK421 hg;replace BK421:=ybb BK421 hb;clear hb hbox hg;have:=NB421_422.out;have:=NB422_421.out;obtain ⟨_,_,_,_,_,_,_,_⟩:=yc4 BK421)|((with_reducible refine gate_callee (f:=50) rfl ?_);refine ygl 17 Try.func50 #[.agg #[.int .u64 a0_0, .int .u32 a0_1, .slice A0_2 l0_2.length c0_2, .int .i64 a0_3], .int .i64 8] ?_;(with_reducible refine (coder_Get.calls a0_0 a0_1 _ _ l0_2 a0_3 8 t432 t433 _ ?side1 ?side2 A17.out).mono ?_);(case side1=>exact yce (Kd.V_reads' HO0_2.out).2.2);(case side2=>exact (Kd.V_reads' HO0_2.out).2.1);rintro e w25 ⟨rfl,hb⟩;refine ⟨_,rfl, ?_⟩;replace HO0_2:=yVb HO0_2 hb;replace BK421:=ybb BK421 hb;replace BK422:=ybb BK422 hb;replace HB:=ybs hb;(try clear hb);obtain ⟨_,_,_,_,_,_,_,_⟩:=yc4 BK421)|((with_reducible refine gate_callee (f:=51) rfl ?_);refine ygl 25 Try.func51 #[.agg #[.int .u64 a0_0, .int .u32 a0_1, .slice A0_2 l0_2.length c0_2, .int .i64 a0_3], .int .i64 t432, .int .i64 (wrap64 (t432+1)), .int .i64 8] ?_;(with_reducible refine (coder_Take.calls k a0_0 a0_1 (fun k_=>(((P0_2_ k_∨w.heap.size≤k_)∧k_≠gb421)∧k_≠gb422)) _ _ l0_2 a0_3 t432 (wrap64 (t432+1)) 8 t434 t435 t436 t439 t440 _ HO0_2.out A18.out).mono ?_);rintro e w27 ⟨v437,rfl,ho0,hb⟩;refine ⟨_,rfl, ?_⟩;replace HO0_2:=yVb HO0_2 hb;have HO438:=yho (fun k_=>(P0_2_ k_∨w.heap.size≤k_)∧k_≠gb421∧k_≠gb422) ho0 (fun k_ hk_=>⟨Or.elim hk_ (fun hs_=>hs_.1.1) (fun hn_=>(.inr (Nat.le_trans (zE yhb) hn_))),yoB BK421 hk_,yoB BK422 hk_⟩);replace BK421:=ybb BK421 hb;replace BK422:=ybb BK422 hb;replace HB:=ybs hb;(try clear hb);(try clear ho0);obtain ⟨_,_,_,_,_,_,_,_⟩:=yc4 BK421;obtain ⟨Ao29,co29,eo29⟩:=Kd.V_slice HO438.out;subst eo29)|((with_reducible refine gate_store (t:=82) (p:=3) rfl ?_);refine store_event (t:=82) (p:=3) (v := ?vo_w30) (w1:=((((w27.setCell ⟨gb421,0,none⟩ (.int .u64 t434)).setCell ⟨gb421,1,none⟩ (.int .u32 t435)).setCell ⟨gb421,2,none⟩ (.slice Ao29 t436.length co29)).setCell ⟨gb421,3,none⟩ (.int .i64 t439))) ?hg ?ho ?hn ?hr ?_;(case ho=>rfl);(case hg=>rfl);(case hn=>rfl);(case hr=>first|(go_simp;done)|(go_simp;rfl));intro w30 hw;replace HO0_2 : Aside0 (Kd.V (Kd.int .u8) 5 w30 w.heap.size (fun k_=>(P0_2_ k_∨w.heap.size≤k_)∧k_≠gb421∧k_≠gb422) (.slice A0_2 l0_2.length c0_2) l0_2):=⟨(by rw [hw];exact (yV0 HO0_2))⟩;replace HO438 : Aside0 (Kd.V (Kd.int .u8) 5 w30 w.heap.size (fun k_=>(P0_2_ k_∨w.heap.size≤k_)∧k_≠gb421∧k_≠gb422) (.slice Ao29 t436.length co29) t436):=⟨(by rw [hw];exact (yV0 HO438))⟩;replace BK421 : Aside0 (w30.heap[gb421]? = some (.cells #[.int .u64 t434, .int .u32 t435, .slice Ao29 t436.length co29, .int .i64 t439] 82 (0,0))):=⟨(by rw [hw];exact (ykp BK421))⟩;replace BK422 : Aside0 (w30.heap[gb422]? = some (.cells #[.int .u64 0, .int .u32 0, .slice none 0 0, .int .i64 0] 82 (0,0))):=⟨(by rw [hw];exact (yk BK422))⟩;replace HB : Aside0 (Below w.heap.size w w30):=⟨(by rw [hw];exact yhb)⟩;clear hw;obtain ⟨_,_,_,_,_,_,_,_⟩:=yc4 BK421)|((with_reducible refine gate_callee (f:=53) rfl ?_);refine ygl 39 Try.func53 #[.agg #[.int .u64 t434, .int .u32 t435, .slice Ao29 t436.length co29, .int .i64 t439], .int .u64 45] ?_;(with_reducible refine (coder_TakeNum.calls k t434 t435 (fun k_=>((P0_2_ k_∨w.heap.size≤k_)∧(k_≠gb421∧k_≠gb422))) _ _ t436 t439 45 t441 t442 t443 t446 t447 t448 _ HO438.out A20.out).mono ?_);rintro e w32 ⟨v444,rfl,ho0,hb⟩;refine ⟨_,rfl, ?_⟩;replace HO0_2:=yVb HO0_2 hb;replace HO438:=yVb HO438 hb;have HO445:=yho (fun k_=>(P0_2_ k_∨w.heap.size≤k_)∧k_≠gb421∧k_≠gb422) ho0 (fun k_ hk_=>⟨Or.elim hk_ (fun hs_=>hs_.1) (fun hn_=>(.inr (Nat.le_trans (zE yhb) hn_))),yoB BK421 hk_,yoB BK422 hk_⟩);replace BK421:=ybb BK421 hb;replace BK422:=ybb BK422 hb;replace HB:=ybs hb;(try clear hb);(try clear ho0))|((with_reducible refine gate_dst (N:=10) rfl ?_);refine ybx 10 #[.int .u64 0, .int .u32 0, .slice none 0 0, .int .i64 0] 82 ?_;intro gb449 hg w33 hbox hb;replace HO0_2:=yVe HO0_2 hg hb;replace HO438:=yVe HO438 hg hb;replace HO445:=yVe HO445 hg hb;have BK449:=zm (hbox);have GW449:=ygw hg;have GE449:=ygw hg;replace HB:=ybs hb;have NB421_449:=ynl BK421 hg;have NB449_421:=yng BK421 hg;replace BK421:=ybb BK421 hb;have NB422_449:=ynl BK422 hg;have NB449_422:=yng BK422 hg;replace BK422:=ybb BK422 hb;clear hb hbox hg;have:=NB449_421.out;have:=NB421_449.out;have:=NB449_422.out;have:=NB422_449.out;obtain ⟨_,_,_,_,_,_,_,_⟩:=yc4 BK449;obtain ⟨Ao37,co37,eo37⟩:=Kd.V_slice HO445.out;subst eo37;obtain ⟨_,_,_,_,_,_,_,_⟩:=yc4 BK422))
   refine bodyPost_ret (results_ct rfl _ _ gb422 82 #[.int .u64 t441, .int .u32 t442, .slice Ao37 t443.length co37, .int .i64 t446] (0,0) _ rfl (ykp BK422) Try.underlying82 rfl (by kernel_rfl)) rfl ?_
   exact ⟨_,ye,yV0 HO445,yhb⟩
  ·
   rw [if_neg c19] at H
   have c19b0 : (t432 == 7)=false:=beq_eq_false_iff_ne.mpr c19
   have c19b1 : (t432 != 7)=true:=bne_iff_ne.mpr c19
   obtain ⟨ji39,hji39⟩ : ∃ j_ : Int,(mn (wrap64 ((wrap64 (a1+t432)) - 3)) 44)=j_:=⟨_,rfl⟩
   replace H : (some (t434,t435,t436,t439,mx 0 (ji39)))=some (r1,r2,r3,r4,r5):=by first|(rw [hji39] at H;exact H)|(simp only [hji39] at H ⊢; exact H)
   (try rw [hji39] at A17)
   (try rw [hji39] at A18)
   (try (have hji39h : ji39≤44:=by (rw [← hji39];unfold mn;(repeat' split) <;> omega)))
   (try (have hji39g : ji39≤64:=by omega))
   have hji39_ : (if 44 < (wrap64 ((wrap64 (a1+t432)) - 3)) then 44 else (wrap64 ((wrap64 (a1+t432)) - 3)))=ji39:=hji39
   obtain ⟨ji40,hji40⟩ : ∃ j_ : Int,(mx 0 (ji39))=j_:=⟨_,rfl⟩
   replace H : (some (t434,t435,t436,t439,ji40))=some (r1,r2,r3,r4,r5):=by first|(rw [hji40] at H;exact H)|(simp only [hji40] at H ⊢; exact H)
   (try rw [hji40] at A17)
   (try rw [hji40] at A18)
   have hji40_ : (if 0 < (ji39) then (ji39) else 0)=ji40:=hji40
   simp only [Option.some.injEq,Prod.mk.injEq] at H
   obtain ⟨rfl,rfl,rfl,rfl,rfl⟩:=H
   go_enter Try.func88,Try.ntmps88
   go_wp2_with (first|((with_reducible refine gate_dst (N:=3) rfl ?_);refine ybx 3 #[.int .u64 a0_0, .int .u32 a0_1, .slice A0_2 l0_2.length c0_2, .int .i64 a0_3] 82 ?_;intro gb421 hg w41 hbox hb;replace HO0_2:=yVe HO0_2 hg hb;have BK421:=zm (hbox);have GW421:=ygw hg;have GE421:=ygw hg;replace HB:=ybs hb;clear hb hbox hg)|((with_reducible refine gate_dst (N:=6) rfl ?_);refine ybx 6 #[.int .u64 0, .int .u32 0, .slice none 0 0, .int .i64 0] 82 ?_;intro gb422 hg w42 hbox hb;replace HO0_2:=yVe HO0_2 hg hb;have BK422:=zm (hbox);have GW422:=ygw hg;have GE422:=ygw hg;replace HB:=ybs hb;have NB421_422:=ynl BK421 hg;have NB422_421:=yng BK421 hg;replace BK421:=ybb BK421 hb;clear hb hbox hg;have:=NB421_422.out;have:=NB422_421.out;obtain ⟨_,_,_,_,_,_,_,_⟩:=yc4 BK421)|((with_reducible refine gate_callee (f:=50) rfl ?_);refine ygl 17 Try.func50 #[.agg #[.int .u64 a0_0, .int .u32 a0_1, .slice A0_2 l0_2.length c0_2, .int .i64 a0_3], .int .i64 8] ?_;(with_reducible refine (coder_Get.calls a0_0 a0_1 _ _ l0_2 a0_3 8 t432 t433 _ ?side1 ?side2 A17.out).mono ?_);(case side1=>exact yce (Kd.V_reads' HO0_2.out).2.2);(case side2=>exact (Kd.V_reads' HO0_2.out).2.1);rintro e w45 ⟨rfl,hb⟩;refine ⟨_,rfl, ?_⟩;replace HO0_2:=yVb HO0_2 hb;replace BK421:=ybb BK421 hb;replace BK422:=ybb BK422 hb;replace HB:=ybs hb;(try clear hb);obtain ⟨_,_,_,_,_,_,_,_⟩:=yc4 BK421)|((with_reducible refine gate_callee (f:=51) rfl ?_);refine ygl 25 Try.func51 #[.agg #[.int .u64 a0_0, .int .u32 a0_1, .slice A0_2 l0_2.length c0_2, .int .i64 a0_3], .int .i64 t432, .int .i64 (wrap64 (t432+1)), .int .i64 8] ?_;(with_reducible refine (coder_Take.calls k a0_0 a0_1 (fun k_=>(((P0_2_ k_∨w.heap.size≤k_)∧k_≠gb421)∧k_≠gb422)) _ _ l0_2 a0_3 t432 (wrap64 (t432+1)) 8 t434 t435 t436 t439 t440 _ HO0_2.out A18.out).mono ?_);rintro e w47 ⟨v437,rfl,ho0,hb⟩;refine ⟨_,rfl, ?_⟩;replace HO0_2:=yVb HO0_2 hb;have HO438:=yho (fun k_=>(P0_2_ k_∨w.heap.size≤k_)∧k_≠gb421∧k_≠gb422) ho0 (fun k_ hk_=>⟨Or.elim hk_ (fun hs_=>hs_.1.1) (fun hn_=>(.inr (Nat.le_trans (zE yhb) hn_))),yoB BK421 hk_,yoB BK422 hk_⟩);replace BK421:=ybb BK421 hb;replace BK422:=ybb BK422 hb;replace HB:=ybs hb;(try clear hb);(try clear ho0);obtain ⟨_,_,_,_,_,_,_,_⟩:=yc4 BK421;obtain ⟨Ao49,co49,eo49⟩:=Kd.V_slice HO438.out;subst eo49;obtain ⟨_,_,_,_,_,_,_,_⟩:=yc4 BK422))
   refine bodyPost_ret (results_ct rfl _ _ gb422 82 #[.int .u64 t434, .int .u32 t435, .slice Ao49 t436.length co49, .int .i64 t439] (0,0) _ rfl (ykp BK422) Try.underlying82 rfl (by kernel_rfl)) rfl ?_
   exact ⟨_,by first|rfl|(simp [errW_none,errW_some] <;> rfl)|(simp only [← hji39, ← hji40];first|rfl|(simp [errW_none,errW_some] <;> rfl))|(simp [*,errW_none,errW_some] <;> rfl),yV0 HO438,yhb⟩
mutual
def gain_Take.j0 : Nat→List Int→Bool→Bool→Int→Int→List Int→Int→Option (Int × Int × List Int × Int × List Int × Int)
 | 0,_,_,_,_,_,_,_=>none
 | k+1,x1,x2,x20,x451000,x451001,x451002,x451003=>if x20=true then ((coder_Take.f k x451000 x451001 x451002 x451003 0 1 1).bind fun bt453=>(some (bt453.1,bt453.2.1,bt453.2.2.1,bt453.2.2.2.1,([] : List Int),1))) else (gain_Take.l0 k x1 x2 ([] : List Int) 0 x451000 x451001 x451002 x451003)
def gain_Take.l0 : Nat→List Int→Bool→List Int→Int→Int→Int→List Int→Int→Option (Int × Int × List Int × Int × List Int × Int)
 | 0,_,_,_,_,_,_,_,_=>none
 | k+1,x1,x2,x9,x27,x451000,x451001,x451002,x451003=>if x27 < 5 then (if x2=true then ((gain_take.f k x451000 x451001 x451002 x451003 0 x2).bind fun bt460=>(if x9.length < 17592186044416 then (gain_Take.l0 k x1 x2 (x9 ++ [bt460.2.2.2.2]) (wrap64 (x27+1)) bt460.1 bt460.2.1 bt460.2.2.1 bt460.2.2.2.1) else (none))) else (if 0≤x27 then (if x27 < (x1.length : Int) then ((gain_take.f k x451000 x451001 x451002 x451003 (rd x1 x27) x2).bind fun bt472=>(if x9.length < 17592186044416 then (gain_Take.l0 k x1 x2 (x9 ++ [bt472.2.2.2.2]) (wrap64 (x27+1)) bt472.1 bt472.2.1 bt472.2.2.1 bt472.2.2.2.1) else (none))) else (none)) else (none))) else (some (x451000,x451001,x451002,x451003,x9,0))
end
def gain_Take.f (k : Nat) (a0_0 : Int) (a0_1 : Int) (l0_2 : List Int) (a0_3 : Int) (l1 : List Int) (a2 : Bool) : Option (Int × Int × List Int × Int × List Int × Int):=if a2=true then (gain_Take.j0 k l1 a2 false a0_0 a0_1 l0_2 a0_3) else ((gain_Right.f k l1).bind fun t452=>(gain_Take.j0 k l1 a2 (!t452) a0_0 a0_1 l0_2 a0_3))
theorem gain_Take.mono_l : ∀ k,(∀ y0 y1 y2 y3 y4 y5 y6,LeO (gain_Take.j0 k y0 y1 y2 y3 y4 y5 y6) (gain_Take.j0 (k+1) y0 y1 y2 y3 y4 y5 y6))∧(∀ y0 y1 y2 y3 y4 y5 y6 y7,LeO (gain_Take.l0 k y0 y1 y2 y3 y4 y5 y6 y7) (gain_Take.l0 (k+1) y0 y1 y2 y3 y4 y5 y6 y7))
 | 0=>⟨fun _ _ _ _ _ _ _ r h=>by simp [gain_Take.j0] at h,fun _ _ _ _ _ _ _ _ r h=>by simp [gain_Take.l0] at h⟩
 | k+1=>by
  obtain ⟨ih0,ih1⟩:=gain_Take.mono_l k
  refine ⟨?_, ?_⟩
  ·
   intro y0 y1 y2 y3 y4 y5 y6
   unfold gain_Take.j0
   repeat' with_reducible first|apply ih0|apply ih1|apply coder_Take.mono|apply gain_Right.mono|apply gain_take.mono|apply yLr|apply yLn|apply yLi|apply yLb|intro _
  ·
   intro y0 y1 y2 y3 y4 y5 y6 y7
   unfold gain_Take.l0
   repeat' with_reducible first|apply ih0|apply ih1|apply coder_Take.mono|apply gain_Right.mono|apply gain_take.mono|apply yLr|apply yLn|apply yLi|apply yLb|intro _
theorem gain_Take.mono : ∀ a0 a1 a2 a3 a4 a5 k,LeO (gain_Take.f k a0 a1 a2 a3 a4 a5) (gain_Take.f (k+1) a0 a1 a2 a3 a4 a5):=by
 intro a0 a1 a2 a3 a4 a5 k
 obtain ⟨ih0,ih1⟩:=gain_Take.mono_l k
 unfold gain_Take.f
 repeat' with_reducible first|apply ih0|apply ih1|apply coder_Take.mono|apply gain_Right.mono|apply gain_take.mono|apply yLr|apply yLn|apply yLi|apply yLb|intro _
set_option maxHeartbeats 8000000 in
set_option maxRecDepth 100000 in
theorem gain_Take.calls (k : Nat) (a0_0 : Int) (a0_1 : Int) (P0_2_ : Nat→Prop) (A0_2 : Option Addr) (c0_2 : Nat) (l0_2 : List Int) (a0_3 : Int) (A1 : Option Addr) (c1 : Nat) (l1 : List Int) (a2 : Bool) (r1 : Int) (r2 : Int) (r3 : List Int) (r4 : Int) (r5 : List Int) (r6 : Int) (w : World) (hs0_2 : Kd.V (Kd.int .u8) 5 w w.heap.size (fun k_=>P0_2_ k_) (.slice A0_2 l0_2.length c0_2) l0_2) (hr1 : Kd.C (Kd.int .i64) w A1 l1.length l1) (hc1 : l1.length≤c1) (h : gain_Take.f k a0_0 a0_1 l0_2 a0_3 l1 a2=some (r1,r2,r3,r4,r5,r6)) :
  Calls Try.prog 52 #[.agg #[.int .u64 a0_0, .int .u32 a0_1, .slice A0_2 l0_2.length c0_2, .int .i64 a0_3], .slice A1 l1.length c1, .bool a2] w fun e w' => ∃ v2_ v4_ : Value,e=.returned (.tuple #[.agg #[.int .u64 r1, .int .u32 r2,v2_, .int .i64 r4],v4_, .int .i64 r6])∧Kd.V (Kd.int .u8) 5 w' w.heap.size (fun k_=>(P0_2_ k_∨w.heap.size≤k_)∧some k_≠(v4_ : Value).ownBlock) v2_ r3∧Kd.R (Kd.int .i64) 3 w' w.heap.size (fun k_=>(w.heap.size≤k_)) v4_ r5∧Below w.heap.size w w' := by
 have hu82:=Try.underlying82
 have HO0_2:=zm (show Kd.V (Kd.int .u8) 5 w w.heap.size (fun k_=>(P0_2_ k_∨w.heap.size≤k_)) (.slice A0_2 l0_2.length c0_2) l0_2 from zy hs0_2 (fun k_ hk => .inl hk))
 have HR1:=zm hr1;have HC1:=zm hc1;clear hr1 hc1;have HB:=zm (Below.refl w.heap.size w)
 have H : (if a2=true then (gain_Take.j0 k l1 a2 false a0_0 a0_1 l0_2 a0_3) else ((gain_Right.f k l1).bind fun t452=>(gain_Take.j0 k l1 a2 (!t452) a0_0 a0_1 l0_2 a0_3)))=some (r1,r2,r3,r4,r5,r6):=h
 clear h;have HC4:=zm H;clear H
 go_enter Try.func52,Try.ntmps52
 go_upto_region 1 with (first|((with_reducible refine gate_dst (N:=3) rfl ?_);refine ybx 3 #[.int .u64 a0_0, .int .u32 a0_1, .slice A0_2 l0_2.length c0_2, .int .i64 a0_3] 82 ?_;intro gb450 hg w5 hbox hb;replace HO0_2:=yVe HO0_2 hg hb;have BK450:=zm (hbox);have GW450:=ygw hg;have GE450:=ygw hg;replace HB:=ybs hb;clear hb hbox hg)|((with_reducible refine gate_dst (N:=6) rfl ?_);refine ybx 6 #[.int .u64 0, .int .u32 0, .slice none 0 0, .int .i64 0] 82 ?_;intro gb451 hg w6 hbox hb;replace HO0_2:=yVe HO0_2 hg hb;have BK451:=zm (hbox);have GW451:=ygw hg;have GE451:=ygw hg;replace HB:=ybs hb;have NB450_451:=ynl BK450 hg;have NB451_450:=yng BK450 hg;replace BK450:=ybb BK450 hb;clear hb hbox hg))
 (try simp only [Act.put,List.setIfInBounds_toArray,List.set_cons_zero,List.set_cons_succ])
 go_cut [20] (fun v20 wc => ∃ (kq : Nat) (x20_3 : Bool),v20=.bool x20_3∧Aside0 (gain_Take.j0 kq l1 a2 x20_3 a0_0 a0_1 l0_2 a0_3=some (r1,r2,r3,r4,r5,r6))∧Aside0 (kq≤k)∧Aside0 (Kd.V (Kd.int .u8) 5 wc w.heap.size (fun k_=>(P0_2_ k_∨w.heap.size≤k_)∧k_≠gb450∧k_≠gb451) (.slice A0_2 l0_2.length c0_2) l0_2)∧Aside0 (wc.heap[gb450]? = some (.cells #[.int .u64 a0_0, .int .u32 a0_1,(.slice A0_2 l0_2.length c0_2), .int .i64 a0_3] 82 (0,0)))∧Aside0 (wc.heap[gb451]? = some (.cells #[.int .u64 0, .int .u32 0,(.slice none 0 0), .int .i64 0] 82 (0,0)))∧Aside0 (Below w.heap.size w wc))
 case first =>
  have H:=HC4.out;clear HC4
  by_cases c7 : a2=true
  ·
   subst c7
   rw [if_pos rfl] at H
   have H' := zm H
   clear H
   go_wp2
   go_meet
   case rel=>exact ⟨_,(false),yq,H',⟨yo⟩,⟨yV0 HO0_2⟩,⟨yk BK450⟩,⟨yk BK451⟩,⟨yhb⟩⟩
  ·
   replace c7:=Bool.eq_false_iff.mpr c7
   subst c7
   rw [ynf] at H
   obtain ⟨t452,A8,H⟩:=ybi H
   have H' := zm H
   clear H
   go_wp2_with (first|(go_at_call 62;(with_reducible refine (gain_Right.calls k _ _ l1 t452 _ ?side1 HC1.out A8.out).mono ?_);(case side1=>exact ycb HR1);rintro e w' ⟨rfl,⟨nd,rfl⟩⟩))
   go_meet
   case rel=>exact ⟨_,(!t452),yq,H',⟨yo⟩,⟨yV0 HO0_2⟩,⟨yk BK450⟩,⟨yk BK451⟩,⟨yhb⟩⟩
 case rest =>
  clear HC4
  try clear c1
  obtain ⟨kq,x20_3,rfl,HA,HJ3,HO_451002,BK450,BK451,HB⟩:=hcut
  obtain ⟨kj3,rfl⟩:=ysu kq (fun h=>by subst h;exact absurd HA.out (by simp [gain_Take.j0]))
  have H:=HA.out;clear HA
  simp only [gain_Take.j0] at H
  by_cases c9 : x20_3=true
  ·
   subst c9
   rw [if_pos rfl] at H
   obtain ⟨⟨t453,t454,t455,t458,t459⟩,A10,H⟩:=ybi H
   try dsimp only at H
   simp only [Option.some.injEq,Prod.mk.injEq] at H
   obtain ⟨rfl,rfl,rfl,rfl,rfl,rfl⟩:=H
   have:=NB450_451.out
   have:=NB451_450.out
   obtain ⟨hcz12_0,hcz12_1,hcz12_2,hcz12_3,hfz12_0,hfz12_1,hfz12_2,hfz12_3⟩:=yc4 BK450
   go_wp2_with (first|((with_reducible refine gate_callee (f:=51) rfl ?_);refine ygl 23 Try.func51 #[.agg #[.int .u64 a0_0, .int .u32 a0_1, .slice A0_2 l0_2.length c0_2, .int .i64 a0_3], .int .i64 0, .int .i64 1, .int .i64 1] ?_;(with_reducible refine (coder_Take.calls kj3 a0_0 a0_1 (fun k_=>((P0_2_ k_∨w.heap.size≤k_)∧(k_≠gb450∧k_≠gb451))) _ _ l0_2 a0_3 0 1 1 t453 t454 t455 t458 t459 _ HO_451002.out A10.out).mono ?_);rintro e w13 ⟨v456,rfl,ho0,hb⟩;refine ⟨_,rfl, ?_⟩;replace HO_451002:=yVb HO_451002 hb;have HO457:=yho (fun k_=>(P0_2_ k_∨w.heap.size≤k_)∧k_≠gb450∧k_≠gb451) ho0 (fun k_ hk_=>⟨Or.elim hk_ (fun hs_=>hs_.1) (fun hn_=>(.inr (Nat.le_trans (zE yhb) hn_))),yoB BK450 hk_,yoB BK451 hk_⟩);replace BK450:=ybb BK450 hb;replace BK451:=ybb BK451 hb;replace HB:=ybs hb;(try clear hb);(try clear ho0);obtain ⟨hcz14_0,hcz14_1,hcz14_2,hcz14_3,hfz14_0,hfz14_1,hfz14_2,hfz14_3⟩:=yc4 BK450;obtain ⟨Ao15,co15,eo15⟩:=Kd.V_slice HO457.out;subst eo15;obtain ⟨hcz16_0,hcz16_1,hcz16_2,hcz16_3,hfz16_0,hfz16_1,hfz16_2,hfz16_3⟩:=yc4 BK451))
   refine bodyPost_ret (results_ctt rfl _ _ gb451 82 #[.int .u64 t453, .int .u32 t454, .slice Ao15 t455.length co15, .int .i64 t458] (0,0) _ rfl (ykp BK451) Try.underlying82 rfl (by kernel_rfl)) rfl ?_
   exact ⟨_,_,ye,yV0 HO457,yn,yhb⟩
  ·
   replace c9:=Bool.eq_false_iff.mpr c9
   subst c9
   rw [ynf] at H
   have H' := zm H
   clear H
   go_wp2
   go_loopg [9,27] kj3 (fun kq v9 v27 w' => ∃ (x9_2 : List Int) (x27_2 : Int) (x451000_2 : Int) (x451001_2 : Int) (x451002_2 : List Int) (x451003_2 : Int) (u451002 : Value),v27=.int .i64 x27_2∧Aside0 (gain_Take.l0 kq l1 a2 x9_2 x27_2 x451000_2 x451001_2 x451002_2 x451003_2=some (r1,r2,r3,r4,r5,r6))∧Aside0 (kq≤kj3)∧Aside0 (Kd.R (Kd.int .i64) 3 w' w.heap.size (fun k_=>(w.heap.size≤k_)) v9 x9_2)∧Aside0 (Kd.V (Kd.int .u8) 5 w' w.heap.size (fun k_=>(P0_2_ k_∨w.heap.size≤k_)∧some k_≠(v9 : Value).ownBlock∧k_≠gb450∧k_≠gb451) u451002 x451002_2)∧Aside0 (w'.heap[gb450]? = some (.cells #[.int .u64 x451000_2, .int .u32 x451001_2,u451002, .int .i64 x451003_2] 82 (0,0)))∧Aside0 (w'.heap[gb451]? = some (.cells #[.int .u64 0, .int .u32 0,(.slice none 0 0), .int .i64 0] 82 (0,0)))∧Aside0 (Below w.heap.size w w'))
   case atStart=>exact ⟨(([] : List Int)),(0),(a0_0),(a0_1),(l0_2),(a0_3),(.slice A0_2 l0_2.length c0_2),yq,H',⟨Nat.le_refl _⟩,⟨yn⟩,⟨yV0 HO_451002⟩,⟨yk BK450⟩,⟨yk BK451⟩,⟨yhb⟩⟩
   case round =>
    clear H'
    try clear hcz12_0
    try clear hcz12_1
    try clear hcz12_2
    try clear hcz12_3
    try clear hcz14_0
    try clear hcz14_1
    try clear hcz14_2
    try clear hcz14_3
    try clear hcz16_0
    try clear hcz16_1
    try clear hcz16_2
    try clear hcz16_3
    try clear hfz12_0
    try clear hfz12_1
    try clear hfz12_2
    try clear hfz12_3
    try clear hfz14_0
    try clear hfz14_1
    try clear hfz14_2
    try clear hfz14_3
    try clear hfz16_0
    try clear hfz16_1
    try clear hfz16_2
    try clear hfz16_3
    obtain ⟨x9_2,x27_2,x451000_2,x451001_2,x451002_2,x451003_2,u451002,rfl,HA,HK2,HO_9,HO_451002,BK450,BK451,HB⟩:=hrel
    obtain ⟨k2,rfl⟩:=ysu gk (fun h=>by subst h;exact absurd HA.out (by simp [gain_Take.l0]))
    have H:=HA.out;clear HA
    simp only [gain_Take.l0] at H
    by_cases c17 : x27_2 < 5
    ·
     rw [if_pos c17] at H
     have c17b0 : decide (x27_2 < 5)=true:=decide_eq_true c17
     clear c17
     by_cases c18 : a2=true
     ·
      subst c18
      rw [if_pos rfl] at H
      obtain ⟨⟨t460,t461,t462,t465,t466⟩,A19,H⟩:=ybi H
      try dsimp only at H
      obtain ⟨c20,H⟩:=yif H
      have LMc20:=zm c20;clear c20
      obtain ⟨y468,hy468⟩ : ∃ y_ : List Int,y_=(x9_2 ++ [t466]):=⟨_,rfl⟩
      replace H : (gain_Take.l0 k2 l1 true y468 (wrap64 (x27_2+1)) t460 t461 t462 t465)=some (r1,r2,r3,r4,r5,r6):=yrw hy468 H
      have Ny468:=zm hy468;clear hy468
      have H' := zm H
      clear H
      have:=NB450_451.out
      have:=NB451_450.out
      obtain ⟨_,_,_,_,_,_,_,_⟩:=yc4 BK450
      obtain ⟨Ao23,co23,eo23⟩:=Kd.V_slice HO_451002.out
      subst eo23
      try go_wp2_with (first|((with_reducible refine gate_callee (f:=88) rfl ?_);refine ygl 40 Try.func88 #[.agg #[.int .u64 x451000_2, .int .u32 x451001_2, .slice Ao23 x451002_2.length co23, .int .i64 x451003_2], .int .i64 0, .bool true] ?_;(with_reducible refine (gain_take.calls k2 x451000_2 x451001_2 (fun k_=>((P0_2_ k_∨w.heap.size≤k_)∧(some k_≠(u9 : Value).ownBlock∧(k_≠gb450∧k_≠gb451)))) _ _ x451002_2 x451003_2 0 true t460 t461 t462 t465 t466 _ HO_451002.out A19.out).mono ?_);rintro e w24 ⟨v463,rfl,ho0,hb⟩;refine ⟨_,rfl, ?_⟩;replace HO_451002:=yVb HO_451002 hb;have HO464:=yho (fun k_=>(P0_2_ k_∨w.heap.size≤k_)∧some k_≠(u9 : Value).ownBlock∧k_≠gb450∧k_≠gb451) ho0 (fun k_ hk_=>⟨Or.elim hk_ (fun hs_=>hs_.1) (fun hn_=>(.inr (Nat.le_trans (zE yhb) hn_))),yoR HO_9 hk_,yoB BK450 hk_,yoB BK451 hk_⟩);replace HO_9:=yRb HO_9 hb;replace BK450:=ybb BK450 hb;replace BK451:=ybb BK451 hb;replace HB:=ybs hb;(try clear hb);(try clear ho0))|((with_reducible refine gate_dst (N:=12) rfl ?_);refine ybx 12 #[.int .u64 0, .int .u32 0, .slice none 0 0, .int .i64 0] 82 ?_;intro gb467 hg w25 hbox hb;replace HO_9:=yRb HO_9 hb;replace HO_451002:=yVe HO_451002 hg hb;replace HO464:=yVe HO464 hg hb;have BK467:=zm (hbox);have GW467:=ygw hg;have GE467:=ygw hg;replace HB:=ybs hb;have NB450_467:=ynl BK450 hg;have NB467_450:=yng BK450 hg;replace BK450:=ybb BK450 hb;have NB451_467:=ynl BK451 hg;have NB467_451:=yng BK451 hg;replace BK451:=ybb BK451 hb;clear hb hbox hg;have:=NB467_450.out;have:=NB450_467.out;have:=NB467_451.out;have:=NB451_467.out;obtain ⟨_,_,_,_,_,_,_,_⟩:=yc4 BK467;obtain ⟨Ao29,co29,eo29⟩:=Kd.V_slice HO464.out;subst eo29))
      obtain ⟨w30,hw_⟩ : ∃ x,x=((((w25.setCell ⟨gb467,0,none⟩ (.int .u64 t460)).setCell ⟨gb467,1,none⟩ (.int .u32 t461)).setCell ⟨gb467,2,none⟩ (.slice Ao29 t462.length co29)).setCell ⟨gb467,3,none⟩ (.int .i64 t465)):=⟨_,rfl⟩
      rw [← hw_]
      replace HO_9 : Aside0 (Kd.R (Kd.int .i64) 3 w30 w.heap.size (fun k_=>(w.heap.size≤k_)) u9 x9_2):=⟨by rw [hw_];exact (yR1 HO_9 BK467)⟩
      replace HO_451002 : Aside0 (Kd.V (Kd.int .u8) 5 w30 w.heap.size (fun k_=>(P0_2_ k_∨w.heap.size≤k_)∧some k_≠(u9 : Value).ownBlock∧k_≠gb450∧k_≠gb451∧k_≠gb467) (.slice Ao23 x451002_2.length co23) x451002_2):=⟨by rw [hw_];exact (yV0 HO_451002)⟩
      replace HO464 : Aside0 (Kd.V (Kd.int .u8) 5 w30 w.heap.size (fun k_=>(P0_2_ k_∨w.heap.size≤k_)∧some k_≠(u9 : Value).ownBlock∧k_≠gb450∧k_≠gb451∧k_≠gb467) (.slice Ao29 t462.length co29) t462):=⟨by rw [hw_];exact (yV0 HO464)⟩
      replace BK450 : Aside0 (w30.heap[gb450]? = some (.cells #[.int .u64 x451000_2, .int .u32 x451001_2, .slice Ao23 x451002_2.length co23, .int .i64 x451003_2] 82 (0,0))):=⟨by rw [hw_];exact (yk BK450)⟩
      replace BK451 : Aside0 (w30.heap[gb451]? = some (.cells #[.int .u64 0, .int .u32 0, .slice none 0 0, .int .i64 0] 82 (0,0))):=⟨by rw [hw_];exact (yk BK451)⟩
      replace BK467 : Aside0 (w30.heap[gb467]? = some (.cells #[.int .u64 t460, .int .u32 t461, .slice Ao29 t462.length co29, .int .i64 t465] 82 (0,0))):=⟨by rw [hw_];exact (ykp BK467)⟩
      replace HB : Aside0 (Below w.heap.size w w30):=⟨by rw [hw_];exact (yhb)⟩
      clear hw_
      replace HO_9:=zm (zq HO_9.out)
      replace HO_451002:=zm (zC HO_451002.out)
      replace HO464:=zm (zC HO464.out)
      replace BK450:=zm (zj BK450.out)
      replace BK451:=zm (zj BK451.out)
      replace BK467:=zm (zj BK467.out)
      replace HB:=zm (zf HB.out)
      refine start_ (n:=7) (S:=fun w' => w'.cell? ⟨gb467,0,none⟩=some (.int .u64 t460)∧w'.cell? ⟨gb467,1,none⟩=some (.int .u32 t461)∧w'.cell? ⟨gb467,2,none⟩=some (.slice Ao29 t462.length co29)∧w'.cell? ⟨gb467,3,none⟩=some (.int .i64 t465)) (ds := []) #[false,false,false,false,false,false,false] (by kernel_rfl) rfl rfl ⟨(zs BK467.out 0).trans rfl,(zs BK467.out 1).trans rfl,(zs BK467.out 2).trans rfl,(zs BK467.out 3).trans rfl⟩ (fun hHeld => ?_)
      generalize w30.drew=w31 at HO_9 HO_451002 HO464 BK450 BK451 BK467 HB hHeld ⊢
      refine pure_ (i:=1) (N:=some 44) (v := ?_) (a' := ?_) #[false,true,false,false,false,false,false] rfl rfl (by kernel_rfl) (fun _ _ _ h=>h) (Or.inl ⟨by rfl, ?_⟩) ?_ ?_
      rotate_left
      ·
       intro w'
       go_simp
       with_reducible rfl
      rotate_left
      ·
       simp only [Act.put,List.setIfInBounds_toArray,List.set_cons_zero,List.set_cons_succ,i64_w,i32_w]
       rfl
      refine pure_ (i:=2) (N:=some 45) (v := ?_) (a' := ?_) #[false,true,true,false,false,false,false] rfl rfl (by kernel_rfl) (fun _ _ _ h=>h) (Or.inl ⟨by rfl, ?_⟩) ?_ ?_
      rotate_left
      ·
       intro w'
       go_simp
       with_reducible rfl
      rotate_left
      ·
       simp only [Act.put,List.setIfInBounds_toArray,List.set_cons_zero,List.set_cons_succ,i64_w,i32_w]
       rfl
      refine take_ (i:=0) (N:=some 43) (v := ?_) (a' := ?_) #[true,true,true,false,false,false,false] rfl rfl (by kernel_rfl) (fun _ _ _ h=>h) (Or.inl ⟨by rfl, ?_⟩) hHeld ?_ ?_
      rotate_left
      ·
       rintro w' ⟨s0,s1,s2,s3⟩
       go_simp
       with_reducible rfl
      rotate_left
      ·
       simp only [Act.put,List.setIfInBounds_toArray,List.set_cons_zero,List.set_cons_succ,i64_w,i32_w]
       rfl
      refine one_ (i:=3) (N:=some 46) #[true,true,true,true,false,false,false] rfl rfl (by kernel_rfl) (by decide) (fun K hK => ?_)
      refine value_ (w1 := ?_) (v := ?_) (by rfl) rfl ?_ ?_
      rotate_left 2
      ·
       go_simp
       constructor
       ·
        rfl
       ·
        rfl
      refine hK.out _ _ ⟨(zs (zi BK467.out _) 0).trans rfl,(zs (zi BK467.out _) 1).trans rfl,(zs (zi BK467.out _) 2).trans rfl,(zs (zi BK467.out _) 3).trans rfl⟩ (fun hHeld => ?_)
      clear hK K
      refine ym (some 46) ?_
      refine one_ (i:=4) (N:=some 47) #[true,true,true,true,true,false,false] rfl rfl (by kernel_rfl) (by decide) (fun K hK => ?_)
      refine Kd.R_append_step (Kd.int .i64) (w0:=w) w.heap.size (by rfl) (.tmp 44) (.tmp 46) 49 3 (.int .i64 0) 8 rfl Try.underlying49 info3 rfl (by decide) (by omega) u9 x9_2 t466 [.int .i64 t466] (fun k_=>(w.heap.size≤k_)) (fun _=>False) rfl rfl ?aP (fun _ hk=>hk.elim) ?aF ?aO ?aB ?aS ?aL ?_
      (case aP=>exact rfl)
      (case aB=>exact yhb)
      (case aF=>exact (fun k_ hk=>(Nat.le_trans (zE yhb) hk)))
      (case aO=>exact (yr HO_9))
      (case aS=>exact (zE yhb))
      (case aL=>have:=LMc20.out;omega)
      intro v469 w32 ho hb hg hat
      rw [← Ny468.out] at ho
      replace HO_451002:=zm (Kd.V_afterv (ok:=(fun k_=>(P0_2_ k_∨w.heap.size≤k_)∧k_≠gb450∧k_≠gb451∧k_≠gb467)) (yV0 HO_451002) hg hat)
      replace BK450:=zm (blk_grown (yk BK450) hg (zu HO_9.out BK450.out (by decide)))
      replace BK451:=zm (blk_grown (yk BK451) hg (zu HO_9.out BK451.out (by decide)))
      replace HO464:=zm (Kd.V_afterv (ok:=(fun k_=>(P0_2_ k_∨w.heap.size≤k_)∧k_≠gb450∧k_≠gb451∧k_≠gb467)) (yV0 HO464) hg hat)
      replace BK467:=zm (blk_grown (yk BK467) hg (zu HO_9.out BK467.out (by decide)))
      replace HB:=zm (hb)
      have HO470:=zm (ho);clear HO_9;clear ho hb hg hat
      refine hK.out _ _ yH (fun hHeld => ?_)
      clear hK K
      refine ym (some 47) ?_
      refine one_ (i:=5) (N:=none) #[true,true,true,true,true,true,false] rfl rfl (by kernel_rfl) (by decide) (fun K hK => ?_)
      have hs33 : w32.cell? ⟨gb450,0,none⟩=some (.int .u64 x451000_2):=(zs BK450.out 0).trans rfl
      have hfs33:=zx BK450.out 0
      have:=NB451_450.out
      have:=NB467_450.out
      have:=NB450_451.out
      have:=NB450_467.out
      have hs34 : w32.cell? ⟨gb450,1,none⟩=some (.int .u32 x451001_2):=(zs BK450.out 1).trans rfl
      have hfs34:=zx BK450.out 1
      have:=NB451_450.out
      have:=NB467_450.out
      have:=NB450_451.out
      have:=NB450_467.out
      have hs35 : w32.cell? ⟨gb450,2,none⟩=some (.slice Ao23 x451002_2.length co23):=(zs BK450.out 2).trans rfl
      have hfs35:=zx BK450.out 2
      have:=NB451_450.out
      have:=NB467_450.out
      have:=NB450_451.out
      have:=NB450_467.out
      have hs36 : w32.cell? ⟨gb450,3,none⟩=some (.int .i64 x451003_2):=(zs BK450.out 3).trans rfl
      have hfs36:=zx BK450.out 3
      have:=NB451_450.out
      have:=NB467_450.out
      have:=NB450_451.out
      have:=NB450_467.out
      refine skip_ (w1 := ?_) (by rfl) rfl ?_ ?_
      rotate_left
      ·
       go_simp
       rfl
      refine hK.out _ _ yH (fun hHeld => ?_)
      clear hK K
      refine pure_ (i:=6) (N:=some 9) (v := ?_) (a' := ?_) #[true,true,true,true,true,true,true] rfl rfl (by kernel_rfl) (fun _ _ _ h=>h) (Or.inl ⟨by rfl, ?_⟩) ?_ ?_
      rotate_left
      ·
       intro w'
       go_simp
       with_reducible rfl
      rotate_left
      ·
       simp only [Act.put,List.setIfInBounds_toArray,List.set_cons_zero,List.set_cons_succ,i64_w,i32_w]
       rfl
      refine done_ (by kernel_rfl) ?_
      try go_wp2
      go_roundg k2
      case measure=>exact yom2 HJ3 HK2
      case rel=>exact ⟨(y468),(wrap64 (x27_2+1)),(t460),(t461),(t462),(t465),(.slice Ao29 t462.length co29),yq,H',⟨yom2 HJ3 HK2⟩,⟨yR1 HO470 BK450⟩,⟨yV0 HO464⟩,⟨ykp BK450⟩,⟨yk BK451⟩,⟨yhb⟩⟩
     ·
      replace c18:=Bool.eq_false_iff.mpr c18
      subst c18
      rw [ynf] at H
      obtain ⟨c37,H⟩:=yif H
      have c37b0 : decide (0≤x27_2)=true:=decide_eq_true c37
      clear c37
      obtain ⟨c38,H⟩:=yif H
      have c38b0 : decide (x27_2 < (l1.length : Int))=true:=decide_eq_true c38
      clear c38
      obtain ⟨⟨t472,t473,t474,t477,t478⟩,A39,H⟩:=ybi H
      try dsimp only at H
      obtain ⟨c40,H⟩:=yif H
      have LMc40:=zm c40;clear c40
      obtain ⟨y480,hy480⟩ : ∃ y_ : List Int,y_=(x9_2 ++ [t478]):=⟨_,rfl⟩
      replace H : (gain_Take.l0 k2 l1 false y480 (wrap64 (x27_2+1)) t472 t473 t474 t477)=some (r1,r2,r3,r4,r5,r6):=yrw hy480 H
      have Ny480:=zm hy480;clear hy480
      have H' := zm H
      clear H
      have p471 : 0≤(x27_2 : Int):=yt
      have q471 : x27_2 < (l1.length : Int):=yt
      obtain ⟨ad471,e471,hx471_0⟩:=Kd.at_int HR1.out x27_2 p471 q471
      cases e471
      replace hx471_0:=yhx HB hx471_0
      replace p471:=eq_true p471
      replace q471:=eq_true q471
      have:=NB450_451.out
      have:=NB451_450.out
      obtain ⟨_,_,_,_,_,_,_,_⟩:=yc4 BK450
      obtain ⟨Ao43,co43,eo43⟩:=Kd.V_slice HO_451002.out
      subst eo43
      try go_wp2_with (first|((with_reducible refine gate_callee (f:=88) rfl ?_);refine ygl 40 Try.func88 #[.agg #[.int .u64 x451000_2, .int .u32 x451001_2, .slice Ao43 x451002_2.length co43, .int .i64 x451003_2], .int .i64 (rd l1 x27_2), .bool false] ?_;(with_reducible refine (gain_take.calls k2 x451000_2 x451001_2 (fun k_=>((P0_2_ k_∨w.heap.size≤k_)∧(some k_≠(u9 : Value).ownBlock∧(k_≠gb450∧k_≠gb451)))) _ _ x451002_2 x451003_2 (rd l1 x27_2) false t472 t473 t474 t477 t478 _ HO_451002.out A39.out).mono ?_);rintro e w44 ⟨v475,rfl,ho0,hb⟩;refine ⟨_,rfl, ?_⟩;replace HO_451002:=yVb HO_451002 hb;have HO476:=yho (fun k_=>(P0_2_ k_∨w.heap.size≤k_)∧some k_≠(u9 : Value).ownBlock∧k_≠gb450∧k_≠gb451) ho0 (fun k_ hk_=>⟨Or.elim hk_ (fun hs_=>hs_.1) (fun hn_=>(.inr (Nat.le_trans (zE yhb) hn_))),yoR HO_9 hk_,yoB BK450 hk_,yoB BK451 hk_⟩);replace HO_9:=yRb HO_9 hb;replace BK450:=ybb BK450 hb;replace BK451:=ybb BK451 hb;replace HB:=ybs hb;(try clear hb);(try clear ho0))|((with_reducible refine gate_dst (N:=12) rfl ?_);refine ybx 12 #[.int .u64 0, .int .u32 0, .slice none 0 0, .int .i64 0] 82 ?_;intro gb479 hg w45 hbox hb;replace HO_9:=yRb HO_9 hb;replace HO_451002:=yVe HO_451002 hg hb;replace HO476:=yVe HO476 hg hb;have BK479:=zm (hbox);have GW479:=ygw hg;have GE479:=ygw hg;replace HB:=ybs hb;have NB450_479:=ynl BK450 hg;have NB479_450:=yng BK450 hg;replace BK450:=ybb BK450 hb;have NB451_479:=ynl BK451 hg;have NB479_451:=yng BK451 hg;replace BK451:=ybb BK451 hb;clear hb hbox hg;have:=NB479_450.out;have:=NB450_479.out;have:=NB479_451.out;have:=NB451_479.out;obtain ⟨_,_,_,_,_,_,_,_⟩:=yc4 BK479;obtain ⟨Ao49,co49,eo49⟩:=Kd.V_slice HO476.out;subst eo49))
      obtain ⟨w50,hw_⟩ : ∃ x,x=((((w45.setCell ⟨gb479,0,none⟩ (.int .u64 t472)).setCell ⟨gb479,1,none⟩ (.int .u32 t473)).setCell ⟨gb479,2,none⟩ (.slice Ao49 t474.length co49)).setCell ⟨gb479,3,none⟩ (.int .i64 t477)):=⟨_,rfl⟩
      rw [← hw_]
      replace HO_9 : Aside0 (Kd.R (Kd.int .i64) 3 w50 w.heap.size (fun k_=>(w.heap.size≤k_)) u9 x9_2):=⟨by rw [hw_];exact (yR1 HO_9 BK479)⟩
      replace HO_451002 : Aside0 (Kd.V (Kd.int .u8) 5 w50 w.heap.size (fun k_=>(P0_2_ k_∨w.heap.size≤k_)∧some k_≠(u9 : Value).ownBlock∧k_≠gb450∧k_≠gb451∧k_≠gb479) (.slice Ao43 x451002_2.length co43) x451002_2):=⟨by rw [hw_];exact (yV0 HO_451002)⟩
      replace HO476 : Aside0 (Kd.V (Kd.int .u8) 5 w50 w.heap.size (fun k_=>(P0_2_ k_∨w.heap.size≤k_)∧some k_≠(u9 : Value).ownBlock∧k_≠gb450∧k_≠gb451∧k_≠gb479) (.slice Ao49 t474.length co49) t474):=⟨by rw [hw_];exact (yV0 HO476)⟩
      replace BK450 : Aside0 (w50.heap[gb450]? = some (.cells #[.int .u64 x451000_2, .int .u32 x451001_2, .slice Ao43 x451002_2.length co43, .int .i64 x451003_2] 82 (0,0))):=⟨by rw [hw_];exact (yk BK450)⟩
      replace BK451 : Aside0 (w50.heap[gb451]? = some (.cells #[.int .u64 0, .int .u32 0, .slice none 0 0, .int .i64 0] 82 (0,0))):=⟨by rw [hw_];exact (yk BK451)⟩
      replace BK479 : Aside0 (w50.heap[gb479]? = some (.cells #[.int .u64 t472, .int .u32 t473, .slice Ao49 t474.length co49, .int .i64 t477] 82 (0,0))):=⟨by rw [hw_];exact (ykp BK479)⟩
      replace HB : Aside0 (Below w.heap.size w w50):=⟨by rw [hw_];exact (yhb)⟩
      clear hw_
      replace HO_9:=zm (zq HO_9.out)
      replace HO_451002:=zm (zC HO_451002.out)
      replace HO476:=zm (zC HO476.out)
      replace BK450:=zm (zj BK450.out)
      replace BK451:=zm (zj BK451.out)
      replace BK479:=zm (zj BK479.out)
      replace HB:=zm (zf HB.out)
      refine start_ (n:=7) (S:=fun w' => w'.cell? ⟨gb479,0,none⟩=some (.int .u64 t472)∧w'.cell? ⟨gb479,1,none⟩=some (.int .u32 t473)∧w'.cell? ⟨gb479,2,none⟩=some (.slice Ao49 t474.length co49)∧w'.cell? ⟨gb479,3,none⟩=some (.int .i64 t477)) (ds := []) #[false,false,false,false,false,false,false] (by kernel_rfl) rfl rfl ⟨(zs BK479.out 0).trans rfl,(zs BK479.out 1).trans rfl,(zs BK479.out 2).trans rfl,(zs BK479.out 3).trans rfl⟩ (fun hHeld => ?_)
      generalize w50.drew=w51 at HO_9 HO_451002 HO476 BK450 BK451 BK479 HB hHeld ⊢
      refine pure_ (i:=1) (N:=some 44) (v := ?_) (a' := ?_) #[false,true,false,false,false,false,false] rfl rfl (by kernel_rfl) (fun _ _ _ h=>h) (Or.inl ⟨by rfl, ?_⟩) ?_ ?_
      rotate_left
      ·
       intro w'
       go_simp
       with_reducible rfl
      rotate_left
      ·
       simp only [Act.put,List.setIfInBounds_toArray,List.set_cons_zero,List.set_cons_succ,i64_w,i32_w]
       rfl
      refine pure_ (i:=2) (N:=some 45) (v := ?_) (a' := ?_) #[false,true,true,false,false,false,false] rfl rfl (by kernel_rfl) (fun _ _ _ h=>h) (Or.inl ⟨by rfl, ?_⟩) ?_ ?_
      rotate_left
      ·
       intro w'
       go_simp
       with_reducible rfl
      rotate_left
      ·
       simp only [Act.put,List.setIfInBounds_toArray,List.set_cons_zero,List.set_cons_succ,i64_w,i32_w]
       rfl
      refine take_ (i:=0) (N:=some 43) (v := ?_) (a' := ?_) #[true,true,true,false,false,false,false] rfl rfl (by kernel_rfl) (fun _ _ _ h=>h) (Or.inl ⟨by rfl, ?_⟩) hHeld ?_ ?_
      rotate_left
      ·
       rintro w' ⟨s0,s1,s2,s3⟩
       go_simp
       with_reducible rfl
      rotate_left
      ·
       simp only [Act.put,List.setIfInBounds_toArray,List.set_cons_zero,List.set_cons_succ,i64_w,i32_w]
       rfl
      refine one_ (i:=3) (N:=some 46) #[true,true,true,true,false,false,false] rfl rfl (by kernel_rfl) (by decide) (fun K hK => ?_)
      refine value_ (w1 := ?_) (v := ?_) (by rfl) rfl ?_ ?_
      rotate_left 2
      ·
       go_simp
       constructor
       ·
        rfl
       ·
        rfl
      refine hK.out _ _ ⟨(zs (zi BK479.out _) 0).trans rfl,(zs (zi BK479.out _) 1).trans rfl,(zs (zi BK479.out _) 2).trans rfl,(zs (zi BK479.out _) 3).trans rfl⟩ (fun hHeld => ?_)
      clear hK K
      refine ym (some 46) ?_
      refine one_ (i:=4) (N:=some 47) #[true,true,true,true,true,false,false] rfl rfl (by kernel_rfl) (by decide) (fun K hK => ?_)
      refine Kd.R_append_step (Kd.int .i64) (w0:=w) w.heap.size (by rfl) (.tmp 44) (.tmp 46) 49 3 (.int .i64 0) 8 rfl Try.underlying49 info3 rfl (by decide) (by omega) u9 x9_2 t478 [.int .i64 t478] (fun k_=>(w.heap.size≤k_)) (fun _=>False) rfl rfl ?aP (fun _ hk=>hk.elim) ?aF ?aO ?aB ?aS ?aL ?_
      (case aP=>exact rfl)
      (case aB=>exact yhb)
      (case aF=>exact (fun k_ hk=>(Nat.le_trans (zE yhb) hk)))
      (case aO=>exact (yr HO_9))
      (case aS=>exact (zE yhb))
      (case aL=>have:=LMc40.out;omega)
      intro v481 w52 ho hb hg hat
      rw [← Ny480.out] at ho
      replace HO_451002:=zm (Kd.V_afterv (ok:=(fun k_=>(P0_2_ k_∨w.heap.size≤k_)∧k_≠gb450∧k_≠gb451∧k_≠gb479)) (yV0 HO_451002) hg hat)
      replace BK450:=zm (blk_grown (yk BK450) hg (zu HO_9.out BK450.out (by decide)))
      replace BK451:=zm (blk_grown (yk BK451) hg (zu HO_9.out BK451.out (by decide)))
      replace HO476:=zm (Kd.V_afterv (ok:=(fun k_=>(P0_2_ k_∨w.heap.size≤k_)∧k_≠gb450∧k_≠gb451∧k_≠gb479)) (yV0 HO476) hg hat)
      replace BK479:=zm (blk_grown (yk BK479) hg (zu HO_9.out BK479.out (by decide)))
      replace HB:=zm (hb)
      have HO482:=zm (ho);clear HO_9;clear ho hb hg hat
      refine hK.out _ _ yH (fun hHeld => ?_)
      clear hK K
      refine ym (some 47) ?_
      refine one_ (i:=5) (N:=none) #[true,true,true,true,true,true,false] rfl rfl (by kernel_rfl) (by decide) (fun K hK => ?_)
      have hs53 : w52.cell? ⟨gb450,0,none⟩=some (.int .u64 x451000_2):=(zs BK450.out 0).trans rfl
      have hfs53:=zx BK450.out 0
      have:=NB451_450.out
      have:=NB479_450.out
      have:=NB450_451.out
      have:=NB450_479.out
      have hs54 : w52.cell? ⟨gb450,1,none⟩=some (.int .u32 x451001_2):=(zs BK450.out 1).trans rfl
      have hfs54:=zx BK450.out 1
      have:=NB451_450.out
      have:=NB479_450.out
      have:=NB450_451.out
      have:=NB450_479.out
      have hs55 : w52.cell? ⟨gb450,2,none⟩=some (.slice Ao43 x451002_2.length co43):=(zs BK450.out 2).trans rfl
      have hfs55:=zx BK450.out 2
      have:=NB451_450.out
      have:=NB479_450.out
      have:=NB450_451.out
      have:=NB450_479.out
      have hs56 : w52.cell? ⟨gb450,3,none⟩=some (.int .i64 x451003_2):=(zs BK450.out 3).trans rfl
      have hfs56:=zx BK450.out 3
      have:=NB451_450.out
      have:=NB479_450.out
      have:=NB450_451.out
      have:=NB450_479.out
      refine skip_ (w1 := ?_) (by rfl) rfl ?_ ?_
      rotate_left
      ·
       go_simp
       rfl
      refine hK.out _ _ yH (fun hHeld => ?_)
      clear hK K
      refine pure_ (i:=6) (N:=some 9) (v := ?_) (a' := ?_) #[true,true,true,true,true,true,true] rfl rfl (by kernel_rfl) (fun _ _ _ h=>h) (Or.inl ⟨by rfl, ?_⟩) ?_ ?_
      rotate_left
      ·
       intro w'
       go_simp
       with_reducible rfl
      rotate_left
      ·
       simp only [Act.put,List.setIfInBounds_toArray,List.set_cons_zero,List.set_cons_succ,i64_w,i32_w]
       rfl
      refine done_ (by kernel_rfl) ?_
      try go_wp2
      go_roundg k2
      case measure=>exact yom2 HJ3 HK2
      case rel=>exact ⟨(y480),(wrap64 (x27_2+1)),(t472),(t473),(t474),(t477),(.slice Ao49 t474.length co49),yq,H',⟨yom2 HJ3 HK2⟩,⟨yR1 HO482 BK450⟩,⟨yV0 HO476⟩,⟨ykp BK450⟩,⟨yk BK451⟩,⟨yhb⟩⟩
    ·
     rw [if_neg c17] at H
     have c17b0 : decide (x27_2 < 5)=false:=decide_eq_false c17
     clear c17
     simp only [Option.some.injEq,Prod.mk.injEq] at H
     obtain ⟨rfl,rfl,rfl,rfl,rfl,rfl⟩:=H
     have:=NB450_451.out
     have:=NB451_450.out
     obtain ⟨_,_,_,_,_,_,_,_⟩:=yc4 BK450
     obtain ⟨_,_,_,_,_,_,_,_⟩:=yc4 BK451
     obtain ⟨Ao60,co60,eo60⟩:=Kd.V_slice HO_451002.out
     subst eo60
     go_wp2
     refine bodyPost_ret (results_ctt rfl _ _ gb451 82 #[.int .u64 x451000_2, .int .u32 x451001_2, .slice Ao60 x451002_2.length co60, .int .i64 x451003_2] (0,0) _ rfl (ykp BK451) Try.underlying82 rfl (by kernel_rfl)) rfl ?_
     exact ⟨_,_,ye,yV0 HO_451002,yR1 HO_9 BK451,yhb⟩
mutual
def cpack_Read.j0 : Nat→Int→Int→List (List Int)→Bool→Int→Int→List Int→Int→Bool→Option (Bool × (List (List Int)) × (List (List (List Int))) × Int)
 | 0,_,_,_,_,_,_,_,_,_=>none
 | k+1,x0,x1,x3,x65,x510000,x510001,x510002,x510003,x520000=>if x65=true then (some (false,([] : List (List Int)),([] : List (List (List Int))),1)) else (cpack_Read.l0 k x0 x1 x3 x1 0 x510000 x510001 x510002 x510003 x520000 ([] : List (List Int)))
def cpack_Read.l0 : Nat→Int→Int→List (List Int)→Int→Int→Int→Int→List Int→Int→Bool→List (List Int)→Option (Bool × (List (List Int)) × (List (List (List Int))) × Int)
 | 0,_,_,_,_,_,_,_,_,_,_,_=>none
 | k+1,x0,x1,x3,x67,x68,x510000,x510001,x510002,x510003,x520000,x520001=>if x68 < x67 then ((cpack_of.f x3 x68).bind fun t521=>((gain_Take.f k x510000 x510001 x510002 x510003 t521 x520000).bind fun bt524=>(if x520001.length < 5864062014805 then (cpack_Read.l0 k x0 x1 x3 x67 (wrap64 (x68+1)) bt524.1 bt524.2.1 bt524.2.2.1 bt524.2.2.2.1 x520000 (x520001 ++ [bt524.2.2.2.2.1])) else (none)))) else ((alloc_Pulses.f k x0 x1 x520001).bind fun bt538=>(cpack_Read.l1 k bt538.1 x1 0 x510000 x510001 x510002 x510003 x520000 x520001 ([] : List (List (List Int)))))
def cpack_Read.l1 : Nat→List (List Int)→Int→Int→Int→Int→List Int→Int→Bool→List (List Int)→List (List (List Int))→Option (Bool × (List (List Int)) × (List (List (List Int))) × Int)
 | 0,_,_,_,_,_,_,_,_,_,_=>none
 | k+1,x18,x98,x99,x510000,x510001,x510002,x510003,x520000,x520001,x520002=>if x99 < x98 then (cpack_Read.l2 k x18 x99 ([] : List (List Int)) x98 x99 0 x510000 x510001 x510002 x510003 x520000 x520001 x520002) else (some (x520000,x520001,x520002,0))
def cpack_Read.l2 : Nat→List (List Int)→Int→List (List Int)→Int→Int→Int→Int→Int→List Int→Int→Bool→List (List Int)→List (List (List Int))→Option (Bool × (List (List Int)) × (List (List (List Int))) × Int)
 | 0,_,_,_,_,_,_,_,_,_,_,_,_,_=>none
 | k+1,x18,x20,x21,x98,x99,x102,x510000,x510001,x510002,x510003,x520000,x520001,x520002=>if x102 < 5 then ((band_Width.f x102).bind fun t545=>(if 0≤t545 then (if (t545 : Int).toNat≤35184372088832 then (if 0≤x20 then (if x20 < (x18.length : Int) then (if 0≤x102 then (if x102 < ((rd_L1 x18 x20).length : Int) then (if (rd (rd_L1 x18 x20) x102) > 0 then ((band_Width.f x102).bind fun t551=>((comb_Count.f t551 (rd (rd_L1 x18 x20) x102)).bind fun bt554=>((coder_TakeNum.f k x510000 x510001 x510002 x510003 bt554.1).bind fun bt556=>((band_Width.f x102).bind fun t565=>((comb_Vector.f k t565 (rd (rd_L1 x18 x20) x102) bt556.2.2.2.2.1).bind fun bt568=>(if x21.length < 5864062014805 then (cpack_Read.l2 k x18 x20 (x21 ++ [bt568.1]) x98 x99 (wrap64 (x102+1)) bt556.1 bt556.2.1 bt556.2.2.1 bt556.2.2.2.1 x520000 x520001 x520002) else (none))))))) else (if x21.length < 5864062014805 then (cpack_Read.l2 k x18 x20 (x21 ++ [(List.replicate (t545 : Int).toNat 0)]) x98 x99 (wrap64 (x102+1)) x510000 x510001 x510002 x510003 x520000 x520001 x520002) else (none))) else (none)) else (none)) else (none)) else (none)) else (none)) else (none))) else (if x520002.length < 5864062014805 then (cpack_Read.l1 k x18 x98 (wrap64 (x99+1)) x510000 x510001 x510002 x510003 x520000 x520001 (x520002 ++ [x21])) else (none))
end
def cpack_Read.f (k : Nat) (a0 : Int) (a1 : Int) (l2 : List Int) (l3 : List (List Int)) : Option (Bool × (List (List Int)) × (List (List (List Int))) × Int):=(alloc_Right.f a0 a1).bind fun t502=>(if t502=true then (if (l2.length : Int)=a0 then ((coder_Open.f l2).bind fun bt503=>((coder_Get.f bt503.1 bt503.2.1 bt503.2.2.1 bt503.2.2.2 2).bind fun bt510=>((coder_Take.f k bt503.1 bt503.2.1 bt503.2.2.1 bt503.2.2.2 bt510.1 (wrap64 (bt510.1+1)) 2).bind fun bt512=>(if bt510.1=1 then (cpack_Read.j0 k a0 a1 l3 false bt512.1 bt512.2.1 bt512.2.2.1 bt512.2.2.2.1 (bt510.1 == 1)) else ((cpack_gains.f k a1 l3).bind fun t520=>(cpack_Read.j0 k a0 a1 l3 (!t520) bt512.1 bt512.2.1 bt512.2.2.1 bt512.2.2.2.1 (bt510.1 == 1))))))) else (some (false,([] : List (List Int)),([] : List (List (List Int))),2))) else (some (false,([] : List (List Int)),([] : List (List (List Int))),1)))
theorem cpack_Read.mono_l : ∀ k,(∀ y0 y1 y2 y3 y4 y5 y6 y7 y8,LeO (cpack_Read.j0 k y0 y1 y2 y3 y4 y5 y6 y7 y8) (cpack_Read.j0 (k+1) y0 y1 y2 y3 y4 y5 y6 y7 y8))∧(∀ y0 y1 y2 y3 y4 y5 y6 y7 y8 y9 y10,LeO (cpack_Read.l0 k y0 y1 y2 y3 y4 y5 y6 y7 y8 y9 y10) (cpack_Read.l0 (k+1) y0 y1 y2 y3 y4 y5 y6 y7 y8 y9 y10))∧(∀ y0 y1 y2 y3 y4 y5 y6 y7 y8 y9,LeO (cpack_Read.l1 k y0 y1 y2 y3 y4 y5 y6 y7 y8 y9) (cpack_Read.l1 (k+1) y0 y1 y2 y3 y4 y5 y6 y7 y8 y9))∧(∀ y0 y1 y2 y3 y4 y5 y6 y7 y8 y9 y10 y11 y12,LeO (cpack_Read.l2 k y0 y1 y2 y3 y4 y5 y6 y7 y8 y9 y10 y11 y12) (cpack_Read.l2 (k+1) y0 y1 y2 y3 y4 y5 y6 y7 y8 y9 y10 y11 y12))
 | 0=>⟨fun _ _ _ _ _ _ _ _ _ r h=>by simp [cpack_Read.j0] at h,fun _ _ _ _ _ _ _ _ _ _ _ r h=>by simp [cpack_Read.l0] at h,fun _ _ _ _ _ _ _ _ _ _ r h=>by simp [cpack_Read.l1] at h,fun _ _ _ _ _ _ _ _ _ _ _ _ _ r h=>by simp [cpack_Read.l2] at h⟩
 | k+1=>by
  obtain ⟨ih0,ih1,ih2,ih3⟩:=cpack_Read.mono_l k
  refine ⟨?_, ?_, ?_, ?_⟩
  ·
   intro y0 y1 y2 y3 y4 y5 y6 y7 y8
   unfold cpack_Read.j0
   repeat' with_reducible first|apply ih0|apply ih1|apply ih2|apply ih3|apply alloc_Pulses.mono|apply coder_Take.mono|apply coder_TakeNum.mono|apply comb_Vector.mono|apply cpack_gains.mono|apply gain_Take.mono|apply yLr|apply yLn|apply yLi|apply yLb|intro _
  ·
   intro y0 y1 y2 y3 y4 y5 y6 y7 y8 y9 y10
   unfold cpack_Read.l0
   repeat' with_reducible first|apply ih0|apply ih1|apply ih2|apply ih3|apply alloc_Pulses.mono|apply coder_Take.mono|apply coder_TakeNum.mono|apply comb_Vector.mono|apply cpack_gains.mono|apply gain_Take.mono|apply yLr|apply yLn|apply yLi|apply yLb|intro _
  ·
   intro y0 y1 y2 y3 y4 y5 y6 y7 y8 y9
   unfold cpack_Read.l1
   repeat' with_reducible first|apply ih0|apply ih1|apply ih2|apply ih3|apply alloc_Pulses.mono|apply coder_Take.mono|apply coder_TakeNum.mono|apply comb_Vector.mono|apply cpack_gains.mono|apply gain_Take.mono|apply yLr|apply yLn|apply yLi|apply yLb|intro _
  ·
   intro y0 y1 y2 y3 y4 y5 y6 y7 y8 y9 y10 y11 y12
   unfold cpack_Read.l2
   repeat' with_reducible first|apply ih0|apply ih1|apply ih2|apply ih3|apply alloc_Pulses.mono|apply coder_Take.mono|apply coder_TakeNum.mono|apply comb_Vector.mono|apply cpack_gains.mono|apply gain_Take.mono|apply yLr|apply yLn|apply yLi|apply yLb|intro _
theorem cpack_Read.mono : ∀ a0 a1 a2 a3 k,LeO (cpack_Read.f k a0 a1 a2 a3) (cpack_Read.f (k+1) a0 a1 a2 a3):=by
 intro a0 a1 a2 a3 k
 obtain ⟨ih0,ih1,ih2,ih3⟩:=cpack_Read.mono_l k
 unfold cpack_Read.f
 repeat' with_reducible first|apply ih0|apply ih1|apply ih2|apply ih3|apply alloc_Pulses.mono|apply coder_Take.mono|apply coder_TakeNum.mono|apply comb_Vector.mono|apply cpack_gains.mono|apply gain_Take.mono|apply yLr|apply yLn|apply yLi|apply yLb|intro _
def cpack_Read.T14 : Bool × List (List Nat × List Nat):=(true, [([], []),([], []),([], []),([1,2], [1,2]),([], []),([4], [4]),([0,3,5,3], [0,3,5]),([6], [6]),([7], [7]),([7], [7]),([7], [7]),([], []),([11,8,6,0,1,2,3,4,5,6,7,8,11], [8,11]),([9,12,0,1,2,3,4,5,6,7,8,9,11,12], [9]),([10,13,0,1,2,3,4,5,6,7,8,9,10,11,12,13], [10])])
def cpack_Read.B14 : List Nat := [0,0,0,6,0,16,63,127,255,255,255,0,2559,7167,16383]
theorem cpack_Read.tab14 : rtab .any (opsOf Try.f20 14)=cpack_Read.T14:=by kernel_rfl
theorem cpack_Read.bits14 : waitsOk cpack_Read.T14.2 cpack_Read.B14=true:=by kernel_rfl
def cpack_Read.T15 : Bool × List (List Nat × List Nat):=(true, [([], []),([], []),([1], [1]),([], []),([3], [3]),([2,4], [2,4]),([0,5,0], [0]),([0,1,2,3,4,5,6], []),([7,5,6,0,1,2,3,4,5,6], [5,7])])
def cpack_Read.B15 : List Nat := [0,0,2,0,8,30,63,127,255]
theorem cpack_Read.tab15 : rtab .any (opsOf Try.f20 15)=cpack_Read.T15:=by kernel_rfl
theorem cpack_Read.bits15 : waitsOk cpack_Read.T15.2 cpack_Read.B15=true:=by kernel_rfl
def cpack_Read.T27 : Bool × List (List Nat × List Nat):=(true, [([], []),([0], [0]),([], []),([], []),([2,3], [2,3]),([4], [4]),([], []),([5,6], [5,6]),([7], [7]),([1,8,1], [1,8]),([9], [9]),([10], [10]),([10], [10]),([11,9,0,1,2,3,4,5,6,7,8,9,10,11], [11]),([12,13,0,1,2,3,4,5,6,7,8,9,10,11,12,13], [12])])
def cpack_Read.B27 : List Nat := [0,1,0,0,12,28,0,124,252,511,1023,2047,2047,4095,16383]
theorem cpack_Read.tab27 : rtab .any (opsOf Try.f20 27)=cpack_Read.T27:=by kernel_rfl
theorem cpack_Read.bits27 : waitsOk cpack_Read.T27.2 cpack_Read.B27=true:=by kernel_rfl
def cpack_Read.T30 : Bool × List (List Nat × List Nat):=(true, [([], []),([0], [0]),([], []),([], []),([2,3], [2,3]),([4], [4]),([], []),([5,6], [5,6]),([7], [7]),([], []),([1,8,9,1], [1,8,9]),([10], [10]),([11], [11]),([11], [11]),([12,10,0,1,2,3,4,5,6,7,8,9,10,11,12], [12])])
def cpack_Read.B30 : List Nat := [0,1,0,0,12,28,0,124,252,0,1023,2047,4095,4095,8191]
theorem cpack_Read.tab30 : rtab .any (opsOf Try.f20 30)=cpack_Read.T30:=by kernel_rfl
theorem cpack_Read.bits30 : waitsOk cpack_Read.T30.2 cpack_Read.B30=true:=by kernel_rfl
set_option maxHeartbeats 8000000 in
set_option maxRecDepth 100000 in
theorem cpack_Read.calls (k : Nat) (a0 : Int) (a1 : Int) (A2 : Option Addr) (c2 : Nat) (l2 : List Int) (A3 : Option Addr) (c3 : Nat) (l3 : List (List Int)) (r1 : Bool) (r2 : List (List Int)) (r3 : List (List (List Int))) (r4 : Int) (w : World) (hr2 : Kd.C (Kd.int .u8) w A2 l2.length l2) (hc2 : l2.length≤c2) (hr3 : Kd.C (Kd.slice 3 (Kd.int .i64)) w A3 l3.length l3) (hc3 : l3.length≤c3) (h : cpack_Read.f k a0 a1 l2 l3=some (r1,r2,r3,r4)) :
  Calls Try.prog 20 #[.int .i64 a0, .int .i64 a1, .slice A2 l2.length c2, .slice A3 l3.length c3] w fun e w' => ∃ v1_ v2_ : Value,e=.returned (.tuple #[.agg #[.bool r1,v1_,v2_], .int .i64 r4])∧Kd.S (Kd.slice 3 (Kd.int .i64)) 49 w' w.heap.size (fun _=>True) v1_ r2∧Kd.R (Kd.slice 49 (Kd.slice 3 (Kd.int .i64))) 22 w' w.heap.size (fun k_=>some k_≠(v1_ : Value).ownBlock) v2_ r3∧Below w.heap.size w w' := by
 have hu25:=Try.underlying25;have hu82:=Try.underlying82;have HR2:=zm hr2;have HC2:=zm hc2;clear hr2 hc2;have HR3:=zm hr3;have HC3:=zm hc3;clear hr3 hc3;have HB:=zm (Below.refl w.heap.size w)
 have H : ((alloc_Right.f a0 a1).bind fun t502=>(if t502=true then (if (l2.length : Int)=a0 then ((coder_Open.f l2).bind fun bt503=>((coder_Get.f bt503.1 bt503.2.1 bt503.2.2.1 bt503.2.2.2 2).bind fun bt510=>((coder_Take.f k bt503.1 bt503.2.1 bt503.2.2.1 bt503.2.2.2 bt510.1 (wrap64 (bt510.1+1)) 2).bind fun bt512=>(if bt510.1=1 then (cpack_Read.j0 k a0 a1 l3 false bt512.1 bt512.2.1 bt512.2.2.1 bt512.2.2.2.1 (bt510.1 == 1)) else ((cpack_gains.f k a1 l3).bind fun t520=>(cpack_Read.j0 k a0 a1 l3 (!t520) bt512.1 bt512.2.1 bt512.2.2.1 bt512.2.2.2.1 (bt510.1 == 1))))))) else (some (false,([] : List (List Int)),([] : List (List (List Int))),2))) else (some (false,([] : List (List Int)),([] : List (List (List Int))),1))))=some (r1,r2,r3,r4):=h
 clear h
 obtain ⟨t502,A5,H⟩:=ybi H
 by_cases c6 : t502=true
 ·
  subst c6
  rw [if_pos rfl] at H
  by_cases c7 : (l2.length : Int)=a0
  ·
   rw [if_pos c7] at H
   have c7b0 : ((l2.length : Int) == a0)=true:=beq_iff_eq.mpr c7
   have c7b1 : ((l2.length : Int) != a0)=false:=bne_eq_false_iff_eq.mpr c7
   clear c7
   obtain ⟨⟨t503,t504,t505,t508⟩,A8,H⟩:=ybi H
   try dsimp only at H
   obtain ⟨⟨t510,t511⟩,A9,H⟩:=ybi H
   try dsimp only at H
   obtain ⟨⟨t512,t513,t514,t517,t518⟩,A10,H⟩:=ybi H
   try dsimp only at H
   have HC11:=zm H;clear H
   go_enter Try.func20,Try.ntmps20
   go_upto_region 9 with (first|((with_reducible refine gate_dst (N:=8) rfl ?_);refine ybx 8 #[.bool false, .slice none 0 0, .slice none 0 0] 25 ?_;intro gb501 hg w12 hbox hb;have BK501:=zm (hbox);have GW501:=ygw hg;have GE501:=ygw hg;replace HB:=ybs hb;clear hb hbox hg)|((with_reducible refine gate_callee (f:=48) rfl ?_);refine ygl 31 Try.func48 #[.int .i64 a0, .int .i64 a1] ?_;(with_reducible refine (alloc_Right.calls a0 a1 true _ A5.out).mono ?_);rintro e w' ⟨rfl,⟨nd,rfl⟩⟩;refine ⟨_,rfl, ?_⟩;(try (rw [drewN_self w12];generalize hq_ : World.drewN w12 _=w12;have n0_ : Aside0 (w12.heap[gb501]? = some (.cells #[.bool false, .slice none 0 0, .slice none 0 0] 25 (0,0))):=⟨by rw [← hq_];exact (yk BK501)⟩;have n1_ : Aside0 (Below w.heap.size w w12):=⟨by rw [← hq_];exact yhb⟩;clear BK501 HB hq_;have BK501:=n0_;have HB:=n1_;clear n0_ n1_)))|((with_reducible refine gate_callee (f:=49) rfl ?_);refine ygl 40 Try.func49 #[.slice A2 l2.length c2] ?_;(with_reducible refine (coder_Open.calls (fun k_=>k_ < w.heap.size) _ _ l2 t503 t504 t505 t508 _ ?side1 A8.out).mono ?_);(case side1=>exact Kd.V_mk HC2.out (Kd.F_below (Kd.C_F (Kd.heap_int .u8) HR2.out) yhb));rintro e w13 ⟨v506,rfl,ho0,hb⟩;refine ⟨_,rfl, ?_⟩;have HO507:=yho (fun k_=>k_≠gb501) ho0 (fun k_ hk_=>yoB BK501 hk_);replace BK501:=ybb BK501 hb;replace HB:=ybs hb;(try clear hb);(try clear ho0))|((with_reducible refine gate_dst (N:=10) rfl ?_);refine ybx 10 #[.int .u64 0, .int .u32 0, .slice none 0 0, .int .i64 0] 82 ?_;intro gb509 hg w14 hbox hb;replace HO507:=yVe HO507 hg hb;have BK509:=zm (hbox);have GW509:=ygw hg;have GE509:=ygw hg;replace HB:=ybs hb;have NB501_509:=ynl BK501 hg;have NB509_501:=yng BK501 hg;replace BK501:=ybb BK501 hb;clear hb hbox hg;have:=NB509_501.out;have:=NB501_509.out;obtain ⟨hcz16_0,hcz16_1,hcz16_2,hcz16_3,hfz16_0,hfz16_1,hfz16_2,hfz16_3⟩:=yc4 BK509;obtain ⟨Ao17,co17,eo17⟩:=Kd.V_slice HO507.out;subst eo17)|((with_reducible refine gate_callee (f:=50) rfl ?_);refine ygl 43 Try.func50 #[.agg #[.int .u64 t503, .int .u32 t504, .slice Ao17 t505.length co17, .int .i64 t508], .int .i64 2] ?_;(with_reducible refine (coder_Get.calls t503 t504 _ _ t505 t508 2 t510 t511 _ ?side1 ?side2 A9.out).mono ?_);(case side1=>refine (Kd.V_reads' (e:=5) (base:=w.heap.size) (ok:=fun k_=>(k_≠gb501∧k_≠gb509)) (n:=t505.length) (c:=co17) ?_).2.2;exact (yV0 HO507));(case side2=>exact (Kd.V_reads' HO507.out).2.1);rintro e w18 ⟨rfl,hb⟩;refine ⟨_,rfl, ?_⟩;replace HO507:=zm (Kd.V_below (yV0 HO507) hb);replace BK501:=ybb BK501 hb;replace BK509:=zm (zF (g:=gb509) (o:=.cells #[.int .u64 t503, .int .u32 t504, .slice Ao17 t505.length co17, .int .i64 t508] 82 (0,0)) (ykp BK509) hb);replace HB:=ybs hb;(try clear hb);obtain ⟨hcz19_0,hcz19_1,hcz19_2,hcz19_3,hfz19_0,hfz19_1,hfz19_2,hfz19_3⟩:=yc4 BK509)|((with_reducible refine gate_callee (f:=51) rfl ?_);refine ygl 51 Try.func51 #[.agg #[.int .u64 t503, .int .u32 t504, .slice Ao17 t505.length co17, .int .i64 t508], .int .i64 t510, .int .i64 (wrap64 (t510+1)), .int .i64 2] ?_;(with_reducible refine (coder_Take.calls k t503 t504 (fun k_=>(k_≠gb501∧k_≠gb509)) _ _ t505 t508 t510 (wrap64 (t510+1)) 2 t512 t513 t514 t517 t518 _ HO507.out A10.out).mono ?_);rintro e w20 ⟨v515,rfl,ho0,hb⟩;refine ⟨_,rfl, ?_⟩;replace HO507:=yVb HO507 hb;have HO516:=yho (fun k_=>k_≠gb501∧k_≠gb509) ho0 (fun k_ hk_=>⟨yoB BK501 hk_,yoB BK509 hk_⟩);replace BK501:=ybb BK501 hb;replace BK509:=ybb BK509 hb;replace HB:=ybs hb;(try clear hb);(try clear ho0);obtain ⟨hcz21_0,hcz21_1,hcz21_2,hcz21_3,hfz21_0,hfz21_1,hfz21_2,hfz21_3⟩:=yc4 BK509;obtain ⟨Ao22,co22,eo22⟩:=Kd.V_slice HO516.out;subst eo22)|((with_reducible refine gate_dst (N:=13) rfl ?_);refine ybx 13 #[.bool false, .slice none 0 0, .slice none 0 0] 25 ?_;intro gb519 hg w23 hbox hb;replace HO507:=zm (Kd.V_below (Kd.V_elderB (yV0 HO507) gb519 (Nat.le_of_eq hg.symm)) hb);replace HO516:=zm (Kd.V_below (Kd.V_elderB (yV0 HO516) gb519 (Nat.le_of_eq hg.symm)) hb);have BK519:=zm (hbox);have GW519:=ygw hg;have GE519:=ygw hg;replace HB:=ybs hb;have NB501_519:=ynl BK501 hg;have NB519_501:=yng BK501 hg;replace BK501:=ybb BK501 hb;have NB509_519:=zm ((by rw [hg];exact zn (zD (g:=gb509) (o:=.cells #[.int .u64 t512, .int .u32 t513, .slice Ao22 t514.length co22, .int .i64 t517] 82 (0,0)) (ykp BK509)) : gb509≠gb519));have NB519_509:=zm ((by rw [hg];exact zg (zD (g:=gb509) (o:=.cells #[.int .u64 t512, .int .u32 t513, .slice Ao22 t514.length co22, .int .i64 t517] 82 (0,0)) (ykp BK509)) : gb519≠gb509));replace BK509:=zm (zF (g:=gb509) (o:=.cells #[.int .u64 t512, .int .u32 t513, .slice Ao22 t514.length co22, .int .i64 t517] 82 (0,0)) (ykp BK509) hb);clear hb hbox hg;have:=NB519_501.out;have:=NB501_519.out;have:=NB519_509.out;have:=NB509_519.out;obtain ⟨hcz26_0,hcz26_1,hcz26_2,hfz26_0,hfz26_1,hfz26_2⟩:=yc3 BK519))
   (try simp only [Act.put,List.setIfInBounds_toArray,List.set_cons_zero,List.set_cons_succ])
   go_cut [65] (fun v65 wc => ∃ (kq : Nat) (x65_10 : Bool),v65=.bool x65_10∧Aside0 (cpack_Read.j0 kq a0 a1 l3 x65_10 t512 t513 t514 t517 (t510 == 1)=some (r1,r2,r3,r4))∧Aside0 (kq≤k)∧Aside0 (Kd.V (Kd.int .u8) 5 wc w.heap.size (fun k_=>k_≠gb501∧k_≠gb509∧k_≠gb519) (.slice Ao22 t514.length co22) t514)∧Aside0 (wc.heap[gb501]? = some (.cells #[.bool false,(.slice none 0 0),(.slice none 0 0)] 25 (0,0)))∧Aside0 (wc.heap[gb509]? = some (.cells #[.int .u64 t512, .int .u32 t513,(.slice Ao22 t514.length co22), .int .i64 t517] 82 (0,0)))∧Aside0 (wc.heap[gb519]? = some (.cells #[.bool (t510 == 1),(.slice none 0 0),(.slice none 0 0)] 25 (0,0)))∧Aside0 (Below w.heap.size w wc))
   case first =>
    have H:=HC11.out;clear HC11
    by_cases c27 : t510=1
    ·
     rw [if_pos c27] at H
     have c27b0 : (t510 == 1)=true:=beq_iff_eq.mpr c27
     have c27b1 : (t510 != 1)=false:=bne_eq_false_iff_eq.mpr c27
     clear c27
     (first|rw [c27b0]|(simp only [i64_w,i32_w];rw [c27b0])|skip)
     have H' := zm H
     clear H
     have:=NB519_501.out
     have:=NB501_519.out
     have:=NB519_509.out
     have:=NB509_519.out
     obtain ⟨_,_,_,_,_,_⟩:=yc3 BK519
     go_wp2
     go_meet
     case rel=>exact ⟨_,(false),yq,H',⟨yo⟩,⟨yV0 HO516⟩,⟨yk BK501⟩,⟨yk BK509⟩,⟨by rw [c27b0];(with_reducible repeat (first|refine zh ?_ _|refine zj ?_|refine zi ?_ _));refine zw (cs := #[.bool true, .slice none 0 0, .slice none 0 0]) ?_ 2 _ rfl;(with_reducible repeat (first|refine zh ?_ _|refine zj ?_|refine zi ?_ _));refine zw (cs := #[.bool true, .slice none 0 0, .slice none 0 0]) ?_ 1 _ rfl;(with_reducible repeat (first|refine zh ?_ _|refine zj ?_|refine zi ?_ _));refine zw (cs := #[.bool false, .slice none 0 0, .slice none 0 0]) ?_ 0 _ rfl;(with_reducible repeat (first|refine zh ?_ _|refine zj ?_|refine zi ?_ _));exact BK519.out⟩,⟨yhb⟩⟩
    ·
     rw [if_neg c27] at H
     have c27b0 : (t510 == 1)=false:=beq_eq_false_iff_ne.mpr c27
     have c27b1 : (t510 != 1)=true:=bne_iff_ne.mpr c27
     (first|rw [c27b0]|(simp only [i64_w,i32_w];rw [c27b0])|skip)
     obtain ⟨t520,A31,H⟩:=ybi H
     have H' := zm H
     clear H
     have:=NB519_501.out
     have:=NB501_519.out
     have:=NB519_509.out
     have:=NB509_519.out
     obtain ⟨_,_,_,_,_,_⟩:=yc3 BK519
     go_wp2_with (first|(go_at_call 25;(with_reducible refine (cpack_gains.calls k a1 _ _ l3 t520 _ ?side1 HC3.out A31.out).mono ?_);(case side1=>exact Kd.C_below HR3.out yhb);rintro e w' ⟨rfl,⟨nd,rfl⟩⟩))
     go_meet
     case rel=>exact ⟨_,(!t520),yq,H',⟨yo⟩,⟨yV0 HO516⟩,⟨yk BK501⟩,⟨yk BK509⟩,⟨by rw [c27b0];(with_reducible repeat (first|refine zh ?_ _|refine zj ?_|refine zi ?_ _));refine zw (cs := #[.bool false, .slice none 0 0, .slice none 0 0]) ?_ 2 _ rfl;(with_reducible repeat (first|refine zh ?_ _|refine zj ?_|refine zi ?_ _));refine zw (cs := #[.bool false, .slice none 0 0, .slice none 0 0]) ?_ 1 _ rfl;(with_reducible repeat (first|refine zh ?_ _|refine zj ?_|refine zi ?_ _));refine zw (cs := #[.bool false, .slice none 0 0, .slice none 0 0]) ?_ 0 _ rfl;(with_reducible repeat (first|refine zh ?_ _|refine zj ?_|refine zi ?_ _));exact BK519.out⟩,⟨yhb⟩⟩
   case rest =>
    clear HC11
    try clear c2
    try clear c3
    try clear c7b0
    try clear c7b1
    try clear hcz16_0
    try clear hcz16_1
    try clear hcz16_2
    try clear hcz16_3
    try clear hcz19_0
    try clear hcz19_1
    try clear hcz19_2
    try clear hcz19_3
    try clear hcz21_0
    try clear hcz21_1
    try clear hcz21_2
    try clear hcz21_3
    try clear hcz26_0
    try clear hcz26_1
    try clear hcz26_2
    try clear hfz16_0
    try clear hfz16_1
    try clear hfz16_2
    try clear hfz16_3
    try clear hfz19_0
    try clear hfz19_1
    try clear hfz19_2
    try clear hfz19_3
    try clear hfz21_0
    try clear hfz21_1
    try clear hfz21_2
    try clear hfz21_3
    try clear hfz26_0
    try clear hfz26_1
    try clear hfz26_2
    obtain ⟨kq,x65_10,rfl,HA,HJ10,HO_510002,BK501,BK509,BK519,HB⟩:=hcut
    obtain ⟨kj10,rfl⟩:=ysu kq (fun h=>by subst h;exact absurd HA.out (by simp [cpack_Read.j0]))
    have H:=HA.out;clear HA
    simp only [cpack_Read.j0] at H
    by_cases c35 : x65_10=true
    ·
     subst c35
     rw [if_pos rfl] at H
     simp only [Option.some.injEq,Prod.mk.injEq] at H
     obtain ⟨rfl,rfl,rfl,rfl⟩:=H
     have:=NB501_509.out
     have:=NB509_501.out
     have:=NB501_519.out
     have:=NB519_501.out
     obtain ⟨hcz38_0,hcz38_1,hcz38_2,hfz38_0,hfz38_1,hfz38_2⟩:=yc3 BK501
     go_wp2
     refine bodyPost_ret (results_ct rfl _ _ gb501 25 #[.bool false, .slice none 0 0, .slice none 0 0] (0,0) _ rfl (ykp BK501) Try.underlying25 rfl (by kernel_rfl)) rfl ?_
     exact ⟨_,_,ye,yn,yn,yhb⟩
    ·
     replace c35:=Bool.eq_false_iff.mpr c35
     subst c35
     rw [ynf] at H
     have H' := zm H
     clear H
     go_wp2
     go_loopg [68] kj10 (fun kq v68 w' => ∃ (x68_2 : Int) (x510000_2 : Int) (x510001_2 : Int) (x510002_2 : List Int) (x510003_2 : Int) (x520001_2 : List (List Int)) (u510002 : Value) (u520001 : Value),v68=.int .i64 x68_2∧Aside0 (cpack_Read.l0 kq a0 a1 l3 a1 x68_2 x510000_2 x510001_2 x510002_2 x510003_2 (t510 == 1) x520001_2=some (r1,r2,r3,r4))∧Aside0 (kq≤kj10)∧Aside0 (Kd.V (Kd.int .u8) 5 w' w.heap.size (fun k_=>some k_≠(u520001 : Value).ownBlock∧k_≠gb501∧k_≠gb509∧k_≠gb519) u510002 x510002_2)∧Aside0 (Kd.S (Kd.slice 3 (Kd.int .i64)) 49 w' w.heap.size (fun _=>True) u520001 x520001_2)∧Aside0 (w'.heap[gb501]? = some (.cells #[.bool false,(.slice none 0 0),(.slice none 0 0)] 25 (0,0)))∧Aside0 (w'.heap[gb509]? = some (.cells #[.int .u64 x510000_2, .int .u32 x510001_2,u510002, .int .i64 x510003_2] 82 (0,0)))∧Aside0 (w'.heap[gb519]? = some (.cells #[.bool (t510 == 1),u520001,(.slice none 0 0)] 25 (0,0)))∧Aside0 (Below w.heap.size w w'))
     case atStart=>exact ⟨(0),(t512),(t513),(t514),(t517),(([] : List (List Int))),(.slice Ao22 t514.length co22),(.slice none 0 0),yq,H',⟨Nat.le_refl _⟩,⟨yV0 HO_510002⟩,⟨yn⟩,⟨yk BK501⟩,⟨yk BK509⟩,⟨yk BK519⟩,⟨yhb⟩⟩
     case round =>
      clear H'
      try clear hcz38_0
      try clear hcz38_1
      try clear hcz38_2
      try clear hfz38_0
      try clear hfz38_1
      try clear hfz38_2
      obtain ⟨x68_2,x510000_2,x510001_2,x510002_2,x510003_2,x520001_2,u510002,u520001,rfl,HA,HK2,HO_510002,HO_520001,BK501,BK509,BK519,HB⟩:=hrel
      obtain ⟨k2,rfl⟩:=ysu gk (fun h=>by subst h;exact absurd HA.out (by simp [cpack_Read.l0]))
      have H:=HA.out;clear HA
      simp only [cpack_Read.l0] at H
      by_cases c39 : x68_2 < a1
      ·
       rw [if_pos c39] at H
       have c39b0 : decide (x68_2 < a1)=true:=decide_eq_true c39
       clear c39
       obtain ⟨t521,A40,H⟩:=ybi H
       obtain ⟨⟨t524,t525,t526,t529,t530,t533⟩,A41,H⟩:=ybi H
       try dsimp only at H
       obtain ⟨c42,H⟩:=yif H
       have LMc42:=zm c42;clear c42
       obtain ⟨y535,hy535⟩ : ∃ y_ : List (List Int),y_=(x520001_2 ++ [t530]):=⟨_,rfl⟩
       replace H : (cpack_Read.l0 k2 a0 a1 l3 a1 (wrap64 (x68_2+1)) t524 t525 t526 t529 (t510 == 1) y535)=some (r1,r2,r3,r4):=yrw hy535 H
       have Ny535:=zm hy535;clear hy535
       have H' := zm H
       clear H
       obtain ⟨Ao43,co43,eo43⟩:=Kd.V_slice HO_510002.out
       subst eo43
       try go_wp2
       replace HO_510002:=zm (zC HO_510002.out)
       replace HO_520001:=zm (Kd.S_drew HO_520001.out)
       replace BK501:=zm (zj BK501.out)
       replace BK509:=zm (zj BK509.out)
       replace BK519:=zm (zj BK519.out)
       replace HB:=zm (zf HB.out)
       refine yst (fun w' => w'.cell? ⟨gb509,0,none⟩=some (.int .u64 x510000_2)∧w'.cell? ⟨gb509,1,none⟩=some (.int .u32 x510001_2)∧w'.cell? ⟨gb509,2,none⟩=some (.slice Ao43 x510002_2.length co43)∧w'.cell? ⟨gb509,3,none⟩=some (.int .i64 x510003_2)∧w'.cell? ⟨gb519,0,none⟩=some (.bool (t510 == 1))∧w'.cell? ⟨gb519,1,none⟩=some (u520001)∧w'.cell? ⟨gb519,2,none⟩=some (.slice none 0 0)) [] 15 cpack_Read.tab14 cpack_Read.bits14 (fun hHeld HT_ HW_ => ?_)
       generalize wr.drew=w44 at HO_510002 HO_520001 BK501 BK509 BK519 HB hHeld ⊢
       refine yp 1 73 HT_ ?_
       refine yp 2 74 HT_ ?_
       refine yp 4 76 HT_ ?_
       refine yl 0 72 HT_ HW_ hHeld ?_
       refine yl 5 77 HT_ HW_ hHeld ?_
       refine join_ (σ:=Value × Value × Value × Nat) 3 #[true,true,true,true,true,true,true,true,true,true,true,true,false,false,false] (fun s_ => [(75,s_.1),(78, .tuple #[.agg #[.int .u64 t524, .int .u32 t525,s_.2.1, .int .i64 t529],s_.2.2.1, .int .i64 t533]),(15, .pointer (some ⟨s_.2.2.2,0,none⟩)),(71, .tuple #[.agg #[.int .u64 t524, .int .u32 t525,s_.2.1, .int .i64 t529],s_.2.2.1, .int .i64 t533]),(79, .agg #[.int .u64 t524, .int .u32 t525,s_.2.1, .int .i64 t529]),(80,s_.2.2.1),(81, .int .i64 t533)]) (fun s_ w' => (w'.cell? ⟨gb509,0,none⟩=some (.int .u64 x510000_2)∧w'.cell? ⟨gb509,1,none⟩=some (.int .u32 x510001_2)∧w'.cell? ⟨gb509,2,none⟩=some (.slice Ao43 x510002_2.length co43)∧w'.cell? ⟨gb509,3,none⟩=some (.int .i64 x510003_2)∧w'.cell? ⟨gb519,0,none⟩=some (.bool (t510 == 1))∧w'.cell? ⟨gb519,1,none⟩=some (u520001)∧w'.cell? ⟨gb519,2,none⟩=some (.slice none 0 0))∧(Kd.V (Kd.int .i64) 3 w' w.heap.size (fun k_=>some k_≠(s_.2.2.1 : Value).ownBlock∧some k_≠(u520001 : Value).ownBlock∧k_≠gb501∧k_≠gb509∧k_≠gb519∧k_≠s_.2.2.2) s_.1 t521)∧(Kd.V (Kd.int .u8) 5 w' w.heap.size (fun k_=>some k_≠(s_.2.2.1 : Value).ownBlock∧some k_≠(u520001 : Value).ownBlock∧k_≠gb501∧k_≠gb509∧k_≠gb519∧k_≠s_.2.2.2) s_.2.1 t526)∧(Kd.R (Kd.int .i64) 3 w' w.heap.size (fun _=>True) s_.2.2.1 t530)∧(Kd.V (Kd.int .u8) 5 w' w.heap.size (fun k_=>some k_≠(s_.2.2.1 : Value).ownBlock∧some k_≠(u520001 : Value).ownBlock∧k_≠gb501∧k_≠gb509∧k_≠gb519∧k_≠s_.2.2.2) (.slice Ao43 x510002_2.length co43) x510002_2)∧(Kd.S (Kd.slice 3 (Kd.int .i64)) 49 w' w.heap.size (fun k_=>some k_≠(s_.2.2.1 : Value).ownBlock) u520001 x520001_2)∧(w'.heap[gb501]? = some (.cells #[.bool false, .slice none 0 0, .slice none 0 0] 25 (0,0)))∧(w'.heap[gb509]? = some (.cells #[.int .u64 x510000_2, .int .u32 x510001_2, .slice Ao43 x510002_2.length co43, .int .i64 x510003_2] 82 (0,0)))∧(w'.heap[gb519]? = some (.cells #[.bool (t510 == 1),u520001, .slice none 0 0] 25 (0,0)))∧(w'.heap[s_.2.2.2]? = some (.cells #[.int .u64 0, .int .u32 0, .slice none 0 0, .int .i64 0] 82 (0,0)))∧(w.heap.size≤s_.2.2.2)∧(w.heap.size≤s_.2.2.2)∧(gb501≠s_.2.2.2)∧(s_.2.2.2≠gb501)∧(gb509≠s_.2.2.2)∧(s_.2.2.2≠gb509)∧(gb519≠s_.2.2.2)∧(s_.2.2.2≠gb519)∧(Below w.heap.size w w')) ?_ ?_
       rotate_left
       ·
        intro hCont
        refine two_ (i:=3) (j:=11) (Ni:=some 75) (Nj:=some 15) #[true,true,true,true,true,true,false,false,false,false,false,false,false,false,false] #[true,true,true,false,true,true,false,false,false,false,false,true,false,false,false] rfl rfl rfl rfl (two_of HT_.out (by kernel_rfl)) (by decide) (by decide) (fun K hK => ?_) (fun K hK => ?_)
        ·
         skip
         refine ygs Try.func29 #[.slice A3 l3.length c3, .int .i64 x68_2] ?_
         with_reducible refine (cpack_of.calls (fun k_=>k_ < w.heap.size) _ _ l3 x68_2 t521 _ ?side1 A40.out).mono ?_
         (case side1=>exact Kd.V_mk HC3.out (Kd.F_below (Kd.C_F (Kd.heap_slice 3 (Kd.heap_int .i64)) HR3.out) yhb))
         rintro e w45 ⟨v522,rfl,ho0,hb⟩
         refine ⟨_,rfl, ?_⟩
         replace HO_510002:=yVb HO_510002 hb
         have HO523:=yho (fun k_=>some k_≠(u520001 : Value).ownBlock∧k_≠gb501∧k_≠gb509∧k_≠gb519) ho0 (fun k_ hk_=>⟨yoS HO_520001 hk_,yoB BK501 hk_,yoB BK509 hk_,yoB BK519 hk_⟩)
         replace HO_520001:=ySb HO_520001 hb
         replace BK501:=ybb BK501 hb
         replace BK509:=ybb BK509 hb
         replace BK519:=ybb BK519 hb
         replace HB:=ybs hb
         (try clear hb)
         (try clear ho0)
         obtain ⟨Ao46,co46,eo46⟩:=Kd.V_slice HO523.out
         (first|subst eo46|(injection eo46 with f1_ f2_ f3_;have f4_:=f1_.symm;have f5_:=f3_.symm;clear f1_ f2_ f3_;subst f4_;subst f5_))
         refine hK.out _ _ yH (fun hHeld => ?_)
         clear hK K
         refine ym (some 75) ?_
         refine two_ (i:=6) (j:=11) (Ni:=some 78) (Nj:=some 15) #[true,true,true,true,true,true,true,false,false,false,false,false,false,false,false] #[true,true,true,true,true,true,false,false,false,false,false,true,false,false,false] rfl rfl rfl rfl (two_of HT_.out (by kernel_rfl)) (by decide) (by decide) (fun K hK => ?_) (fun K hK => ?_)
         ·
          skip
          refine ygs Try.func52 #[.agg #[.int .u64 x510000_2, .int .u32 x510001_2, .slice Ao43 x510002_2.length co43, .int .i64 x510003_2], .slice Ao46 t521.length co46, .bool (t510 == 1)] ?_
          with_reducible refine (gain_Take.calls k2 x510000_2 x510001_2 (fun k_=>(some k_≠(u520001 : Value).ownBlock∧(k_≠gb501∧(k_≠gb509∧k_≠gb519)))) _ _ x510002_2 x510003_2 _ _ t521 (t510 == 1) t524 t525 t526 t529 t530 t533 _ ?side1 ?side2 ?side3 A41.out).mono ?_
          (case side1=>exact HO_510002.out)
          (case side2=>exact yce (Kd.V_reads' HO523.out).2.2)
          (case side3=>exact (Kd.V_reads' HO523.out).2.1)
          rintro e w47 ⟨v527,v531,rfl,ho0,ho1,hb⟩
          refine ⟨_,rfl, ?_⟩
          replace HO_510002:=zm (Kd.V_elder' (yr HO_510002) (Kd.R_base ho1) hb)
          replace HO523:=zm (Kd.V_elder' (yr HO523) (Kd.R_base ho1) hb)
          have HO528:=yho (fun k_=>some k_≠(v531 : Value).ownBlock∧some k_≠(u520001 : Value).ownBlock∧k_≠gb501∧k_≠gb509∧k_≠gb519) ho0 (fun k_ hk_=>⟨hk_.2,Or.elim hk_.1 (fun hs_=>hs_.1) (fun hn_=>(Kd.fresh' (Kd.S_lt (yr HO_520001)) k_ hn_)),Or.elim hk_.1 (fun hs_=>hs_.2.1) (fun hn_=>(Kd.freshB (yk BK501) k_ hn_)),Or.elim hk_.1 (fun hs_=>hs_.2.2.1) (fun hn_=>(Kd.freshB (yk BK509) k_ hn_)),Or.elim hk_.1 (fun hs_=>hs_.2.2.2) (fun hn_=>(Kd.freshB (yk BK519) k_ hn_))⟩)
          replace HO_520001:=zm (Kd.S_elder' (yr HO_520001) (Kd.R_base ho1) hb)
          have HO532:=zm (Kd.R_lower (zG (ok' := fun k_=>True) ho1 (fun _ hk_=>trivial)) (zE yhb))
          replace BK501:=ybb BK501 hb
          replace BK509:=ybb BK509 hb
          replace BK519:=ybb BK519 hb
          replace HB:=ybs hb
          (try clear hb)
          (try clear ho0)
          (try clear ho1)
          refine hK.out _ _ yH (fun hHeld => ?_)
          clear hK K
          refine ym (some 78) ?_
          refine yp 7 71 HT_ ?_
          refine yp 8 79 HT_ ?_
          refine yp 9 80 HT_ ?_
          refine yp 10 81 HT_ ?_
          refine yw 11 15 HT_ (fun K hK => ?_)
          refine box_step ?hg (N:=15) ?hd (cs := #[.int .u64 0, .int .u32 0, .slice none 0 0, .int .i64 0]) (t:=82) ?hr ?_;(case hd=>rfl);(case hg=>rfl);(case hr=>first|(go_simp;done)|(go_simp;rfl))
          intro gb534 hg w48 hbox hb
          replace HO_510002:=yVe HO_510002 hg hb
          replace HO_520001:=ySb HO_520001 hb
          replace HO523:=yVe HO523 hg hb
          replace HO528:=yVe HO528 hg hb
          replace HO532:=yRb HO532 hb
          have BK534:=zm (hbox)
          have GW534:=ygw hg
          have GE534:=ygw hg
          replace HB:=ybs hb
          have NB501_534:=ynl BK501 hg
          have NB534_501:=yng BK501 hg
          replace BK501:=ybb BK501 hb
          have NB509_534:=ynl BK509 hg
          have NB534_509:=yng BK509 hg
          replace BK509:=ybb BK509 hb
          have NB519_534:=ynl BK519 hg
          have NB534_519:=yng BK519 hg
          replace BK519:=ybb BK519 hb
          clear hb hbox hg
          refine hK.out _ _ yH (fun hHeld => ?_)
          clear hK K
          refine ym (some 15) ?_
          exact norm_ (by simp only [putAll,Act.put,List.setIfInBounds_toArray,List.set_cons_zero,List.set_cons_succ]) (hCont (.slice Ao46 t521.length co46,v527,v531,gb534) _ ⟨hHeld,(yV0 HO523),(yV0 HO528),(yr HO532),(yV0 HO_510002),(yS0 HO_520001),(yk BK501),(yk BK509),(yk BK519),(yk BK534),GW534.out,GE534.out,NB501_534.out,NB534_501.out,NB509_534.out,NB534_509.out,NB519_534.out,NB534_519.out,yhb⟩)
         ·
          skip
          refine box_step ?hg (N:=15) ?hd (cs := #[.int .u64 0, .int .u32 0, .slice none 0 0, .int .i64 0]) (t:=82) ?hr ?_;(case hd=>rfl);(case hg=>rfl);(case hr=>first|(go_simp;done)|(go_simp;rfl))
          intro gb534 hg w46 hbox hb
          replace HO_510002:=yVe HO_510002 hg hb
          replace HO_520001:=ySb HO_520001 hb
          replace HO523:=yVe HO523 hg hb
          have BK534:=zm (hbox)
          have GW534:=ygw hg
          have GE534:=ygw hg
          replace HB:=ybs hb
          have NB501_534:=ynl BK501 hg
          have NB534_501:=yng BK501 hg
          replace BK501:=ybb BK501 hb
          have NB509_534:=ynl BK509 hg
          have NB534_509:=yng BK509 hg
          replace BK509:=ybb BK509 hb
          have NB519_534:=ynl BK519 hg
          have NB534_519:=yng BK519 hg
          replace BK519:=ybb BK519 hb
          clear hb hbox hg
          obtain ⟨Ao47,co47,eo47⟩:=Kd.V_slice HO523.out
          (first|subst eo47|(injection eo47 with f1_ f2_ f3_;have f4_:=f1_.symm;have f5_:=f3_.symm;clear f1_ f2_ f3_;subst f4_;subst f5_))
          refine hK.out _ _ yH (fun hHeld => ?_)
          clear hK K
          refine ym (some 15) ?_
          refine yw 6 78 HT_ (fun K hK => ?_)
          refine ygs Try.func52 #[.agg #[.int .u64 x510000_2, .int .u32 x510001_2, .slice Ao43 x510002_2.length co43, .int .i64 x510003_2], .slice Ao47 t521.length co47, .bool (t510 == 1)] ?_
          with_reducible refine (gain_Take.calls k2 x510000_2 x510001_2 (fun k_=>((some k_≠(u520001 : Value).ownBlock∧(k_≠gb501∧(k_≠gb509∧k_≠gb519)))∧k_≠gb534)) _ _ x510002_2 x510003_2 _ _ t521 (t510 == 1) t524 t525 t526 t529 t530 t533 _ ?side1 ?side2 ?side3 A41.out).mono ?_
          (case side1=>exact HO_510002.out)
          (case side2=>exact yce (Kd.V_reads' HO523.out).2.2)
          (case side3=>exact (Kd.V_reads' HO523.out).2.1)
          rintro e w48 ⟨v527,v531,rfl,ho0,ho1,hb⟩
          refine ⟨_,rfl, ?_⟩
          replace HO_510002:=zm (Kd.V_elder' (yr HO_510002) (Kd.R_base ho1) hb)
          replace HO523:=zm (Kd.V_elder' (yr HO523) (Kd.R_base ho1) hb)
          have HO528:=yho (fun k_=>some k_≠(v531 : Value).ownBlock∧some k_≠(u520001 : Value).ownBlock∧k_≠gb501∧k_≠gb509∧k_≠gb519∧k_≠gb534) ho0 (fun k_ hk_=>⟨hk_.2,Or.elim hk_.1 (fun hs_=>hs_.1.1) (fun hn_=>(Kd.fresh' (Kd.S_lt (yr HO_520001)) k_ hn_)),Or.elim hk_.1 (fun hs_=>hs_.1.2.1) (fun hn_=>(Kd.freshB (yk BK501) k_ hn_)),Or.elim hk_.1 (fun hs_=>hs_.1.2.2.1) (fun hn_=>(Kd.freshB (yk BK509) k_ hn_)),Or.elim hk_.1 (fun hs_=>hs_.1.2.2.2) (fun hn_=>(Kd.freshB (yk BK519) k_ hn_)),Or.elim hk_.1 (fun hs_=>hs_.2) (fun hn_=>(Kd.freshB (yk BK534) k_ hn_))⟩)
          replace HO_520001:=zm (Kd.S_elder' (yr HO_520001) (Kd.R_base ho1) hb)
          have HO532:=zm (Kd.R_lower (zG (ok' := fun k_=>True) ho1 (fun _ hk_=>trivial)) (zE yhb))
          replace BK501:=ybb BK501 hb
          replace BK509:=ybb BK509 hb
          replace BK519:=ybb BK519 hb
          replace BK534:=ybb BK534 hb
          replace HB:=ybs hb
          (try clear hb)
          (try clear ho0)
          (try clear ho1)
          refine hK.out _ _ yH (fun hHeld => ?_)
          clear hK K
          refine ym (some 78) ?_
          refine yp 7 71 HT_ ?_
          refine yp 8 79 HT_ ?_
          refine yp 9 80 HT_ ?_
          refine yp 10 81 HT_ ?_
          exact norm_ (by simp only [putAll,Act.put,List.setIfInBounds_toArray,List.set_cons_zero,List.set_cons_succ]) (hCont (.slice Ao47 t521.length co47,v527,v531,gb534) _ ⟨hHeld,(yV0 HO523),(yr HO528),(yr HO532),(yV0 HO_510002),(yS0 HO_520001),(yk BK501),(yk BK509),(yk BK519),(yk BK534),GW534.out,GE534.out,NB501_534.out,NB534_501.out,NB509_534.out,NB534_509.out,NB519_534.out,NB534_519.out,yhb⟩)
        ·
         skip
         refine box_step ?hg (N:=15) ?hd (cs := #[.int .u64 0, .int .u32 0, .slice none 0 0, .int .i64 0]) (t:=82) ?hr ?_;(case hd=>rfl);(case hg=>rfl);(case hr=>first|(go_simp;done)|(go_simp;rfl))
         intro gb534 hg w45 hbox hb
         replace HO_510002:=yVe HO_510002 hg hb
         replace HO_520001:=ySb HO_520001 hb
         have BK534:=zm (hbox)
         have GW534:=ygw hg
         have GE534:=ygw hg
         replace HB:=ybs hb
         have NB501_534:=ynl BK501 hg
         have NB534_501:=yng BK501 hg
         replace BK501:=ybb BK501 hb
         have NB509_534:=ynl BK509 hg
         have NB534_509:=yng BK509 hg
         replace BK509:=ybb BK509 hb
         have NB519_534:=ynl BK519 hg
         have NB534_519:=yng BK519 hg
         replace BK519:=ybb BK519 hb
         clear hb hbox hg
         refine hK.out _ _ yH (fun hHeld => ?_)
         clear hK K
         refine ym (some 15) ?_
         refine yw 3 75 HT_ (fun K hK => ?_)
         refine ygs Try.func29 #[.slice A3 l3.length c3, .int .i64 x68_2] ?_
         with_reducible refine (cpack_of.calls (fun k_=>k_ < w.heap.size) _ _ l3 x68_2 t521 _ ?side1 A40.out).mono ?_
         (case side1=>exact Kd.V_mk HC3.out (Kd.F_below (Kd.C_F (Kd.heap_slice 3 (Kd.heap_int .i64)) HR3.out) yhb))
         rintro e w46 ⟨v522,rfl,ho0,hb⟩
         refine ⟨_,rfl, ?_⟩
         replace HO_510002:=yVb HO_510002 hb
         have HO523:=yho (fun k_=>some k_≠(u520001 : Value).ownBlock∧k_≠gb501∧k_≠gb509∧k_≠gb519∧k_≠gb534) ho0 (fun k_ hk_=>⟨yoS HO_520001 hk_,yoB BK501 hk_,yoB BK509 hk_,yoB BK519 hk_,yoB BK534 hk_⟩)
         replace HO_520001:=ySb HO_520001 hb
         replace BK501:=ybb BK501 hb
         replace BK509:=ybb BK509 hb
         replace BK519:=ybb BK519 hb
         replace BK534:=ybb BK534 hb
         replace HB:=ybs hb
         (try clear hb)
         (try clear ho0)
         obtain ⟨Ao47,co47,eo47⟩:=Kd.V_slice HO523.out
         (first|subst eo47|(injection eo47 with f1_ f2_ f3_;have f4_:=f1_.symm;have f5_:=f3_.symm;clear f1_ f2_ f3_;subst f4_;subst f5_))
         refine hK.out _ _ yH (fun hHeld => ?_)
         clear hK K
         refine ym (some 75) ?_
         refine yw 6 78 HT_ (fun K hK => ?_)
         refine ygs Try.func52 #[.agg #[.int .u64 x510000_2, .int .u32 x510001_2, .slice Ao43 x510002_2.length co43, .int .i64 x510003_2], .slice Ao47 t521.length co47, .bool (t510 == 1)] ?_
         with_reducible refine (gain_Take.calls k2 x510000_2 x510001_2 (fun k_=>((some k_≠(u520001 : Value).ownBlock∧(k_≠gb501∧(k_≠gb509∧k_≠gb519)))∧k_≠gb534)) _ _ x510002_2 x510003_2 _ _ t521 (t510 == 1) t524 t525 t526 t529 t530 t533 _ ?side1 ?side2 ?side3 A41.out).mono ?_
         (case side1=>exact HO_510002.out)
         (case side2=>exact yce (Kd.V_reads' HO523.out).2.2)
         (case side3=>exact (Kd.V_reads' HO523.out).2.1)
         rintro e w48 ⟨v527,v531,rfl,ho0,ho1,hb⟩
         refine ⟨_,rfl, ?_⟩
         replace HO_510002:=zm (Kd.V_elder' (yr HO_510002) (Kd.R_base ho1) hb)
         replace HO523:=zm (Kd.V_elder' (yr HO523) (Kd.R_base ho1) hb)
         have HO528:=yho (fun k_=>some k_≠(v531 : Value).ownBlock∧some k_≠(u520001 : Value).ownBlock∧k_≠gb501∧k_≠gb509∧k_≠gb519∧k_≠gb534) ho0 (fun k_ hk_=>⟨hk_.2,Or.elim hk_.1 (fun hs_=>hs_.1.1) (fun hn_=>(Kd.fresh' (Kd.S_lt (yr HO_520001)) k_ hn_)),Or.elim hk_.1 (fun hs_=>hs_.1.2.1) (fun hn_=>(Kd.freshB (yk BK501) k_ hn_)),Or.elim hk_.1 (fun hs_=>hs_.1.2.2.1) (fun hn_=>(Kd.freshB (yk BK509) k_ hn_)),Or.elim hk_.1 (fun hs_=>hs_.1.2.2.2) (fun hn_=>(Kd.freshB (yk BK519) k_ hn_)),Or.elim hk_.1 (fun hs_=>hs_.2) (fun hn_=>(Kd.freshB (yk BK534) k_ hn_))⟩)
         replace HO_520001:=zm (Kd.S_elder' (yr HO_520001) (Kd.R_base ho1) hb)
         have HO532:=zm (Kd.R_lower (zG (ok' := fun k_=>True) ho1 (fun _ hk_=>trivial)) (zE yhb))
         replace BK501:=ybb BK501 hb
         replace BK509:=ybb BK509 hb
         replace BK519:=ybb BK519 hb
         replace BK534:=ybb BK534 hb
         replace HB:=ybs hb
         (try clear hb)
         (try clear ho0)
         (try clear ho1)
         refine hK.out _ _ yH (fun hHeld => ?_)
         clear hK K
         refine ym (some 78) ?_
         refine yp 7 71 HT_ ?_
         refine yp 8 79 HT_ ?_
         refine yp 9 80 HT_ ?_
         refine yp 10 81 HT_ ?_
         exact norm_ (by simp only [putAll,Act.put,List.setIfInBounds_toArray,List.set_cons_zero,List.set_cons_succ]) (hCont (.slice Ao47 t521.length co47,v527,v531,gb534) _ ⟨hHeld,(yV0 HO523),(yr HO528),(yr HO532),(yV0 HO_510002),(yS0 HO_520001),(yk BK501),(yk BK509),(yk BK519),(yk BK534),GW534.out,GE534.out,NB501_534.out,NB534_501.out,NB509_534.out,NB534_509.out,NB519_534.out,NB534_519.out,yhb⟩)
       rintro ⟨v522,v527,v531,gb534⟩ w49 ⟨hS_,h0_,h1_,h2_,h3_,h4_,h5_,h6_,h7_,h8_,h9_,h10_,h11_,h12_,h13_,h14_,h15_,h16_,h17_⟩
       have n0_ : Aside0 (Kd.V (Kd.int .i64) 3 w49 w.heap.size (fun k_=>some k_≠(v531 : Value).ownBlock∧some k_≠(u520001 : Value).ownBlock∧k_≠gb501∧k_≠gb509∧k_≠gb519∧k_≠gb534) v522 t521):=⟨h0_⟩
       have n1_ : Aside0 (Kd.V (Kd.int .u8) 5 w49 w.heap.size (fun k_=>some k_≠(v531 : Value).ownBlock∧some k_≠(u520001 : Value).ownBlock∧k_≠gb501∧k_≠gb509∧k_≠gb519∧k_≠gb534) v527 t526):=⟨h1_⟩
       have n2_ : Aside0 (Kd.R (Kd.int .i64) 3 w49 w.heap.size (fun _=>True) v531 t530):=⟨h2_⟩
       have n3_ : Aside0 (Kd.V (Kd.int .u8) 5 w49 w.heap.size (fun k_=>some k_≠(v531 : Value).ownBlock∧some k_≠(u520001 : Value).ownBlock∧k_≠gb501∧k_≠gb509∧k_≠gb519∧k_≠gb534) (.slice Ao43 x510002_2.length co43) x510002_2):=⟨h3_⟩
       have n4_ : Aside0 (Kd.S (Kd.slice 3 (Kd.int .i64)) 49 w49 w.heap.size (fun k_=>some k_≠(v531 : Value).ownBlock) u520001 x520001_2):=⟨h4_⟩
       have n5_ : Aside0 (w49.heap[gb501]? = some (.cells #[.bool false, .slice none 0 0, .slice none 0 0] 25 (0,0))):=⟨h5_⟩
       have n6_ : Aside0 (w49.heap[gb509]? = some (.cells #[.int .u64 x510000_2, .int .u32 x510001_2, .slice Ao43 x510002_2.length co43, .int .i64 x510003_2] 82 (0,0))):=⟨h6_⟩
       have n7_ : Aside0 (w49.heap[gb519]? = some (.cells #[.bool (t510 == 1),u520001, .slice none 0 0] 25 (0,0))):=⟨h7_⟩
       have n8_ : Aside0 (w49.heap[gb534]? = some (.cells #[.int .u64 0, .int .u32 0, .slice none 0 0, .int .i64 0] 82 (0,0))):=⟨h8_⟩
       have n9_ : Aside0 (w.heap.size≤gb534):=⟨h9_⟩
       have n10_ : Aside0 (w.heap.size≤gb534):=⟨h10_⟩
       have n11_ : Aside0 (gb501≠gb534):=⟨h11_⟩
       have n12_ : Aside0 (gb534≠gb501):=⟨h12_⟩
       have n13_ : Aside0 (gb509≠gb534):=⟨h13_⟩
       have n14_ : Aside0 (gb534≠gb509):=⟨h14_⟩
       have n15_ : Aside0 (gb519≠gb534):=⟨h15_⟩
       have n16_ : Aside0 (gb534≠gb519):=⟨h16_⟩
       have n17_ : Aside0 (Below w.heap.size w w49):=⟨h17_⟩
       clear HO_510002;clear HO_520001;clear BK501;clear BK509;clear BK519;clear HB;clear h0_ h1_ h2_ h3_ h4_ h5_ h6_ h7_ h8_ h9_ h10_ h11_ h12_ h13_ h14_ h15_ h16_ h17_;have HO523:=n0_;have HO528:=n1_;have HO532:=n2_;have HO_510002:=n3_;have HO_520001:=n4_;have BK501:=n5_;have BK509:=n6_;have BK519:=n7_;have BK534:=n8_;have GW534:=n9_;have GE534:=n10_;have NB501_534:=n11_;have NB534_501:=n12_;have NB509_534:=n13_;have NB534_509:=n14_;have NB519_534:=n15_;have NB534_519:=n16_;have HB:=n17_;clear n0_ n1_ n2_ n3_ n4_ n5_ n6_ n7_ n8_ n9_ n10_ n11_ n12_ n13_ n14_ n15_ n16_ n17_
       have hHeld : w49.cell? ⟨gb509,0,none⟩=some (.int .u64 x510000_2)∧w49.cell? ⟨gb509,1,none⟩=some (.int .u32 x510001_2)∧w49.cell? ⟨gb509,2,none⟩=some (.slice Ao43 x510002_2.length co43)∧w49.cell? ⟨gb509,3,none⟩=some (.int .i64 x510003_2)∧w49.cell? ⟨gb519,0,none⟩=some (.bool (t510 == 1))∧w49.cell? ⟨gb519,1,none⟩=some (u520001)∧w49.cell? ⟨gb519,2,none⟩=some (.slice none 0 0):=hS_
       obtain ⟨Ao52,co52,eo52⟩:=Kd.V_slice HO528.out
       (first|subst eo52|(injection eo52 with f1_ f2_ f3_;have f4_:=f1_.symm;have f5_:=f3_.symm;clear f1_ f2_ f3_;subst f4_;subst f5_))
       refine norm_ (a' := ?_) ?_ ?_
       rotate_left
       ·
        simp only [putAll,Act.put,List.setIfInBounds_toArray,List.set_cons_zero,List.set_cons_succ]
        rfl
       refine yv 12 HT_ (fun K hK => ?_)
       have hs50 : w49.cell? ⟨gb534,0,none⟩=some (.int .u64 0):=(zs BK534.out 0).trans rfl
       have hfs50:=zx BK534.out 0
       have:=NB501_534.out
       have:=NB509_534.out
       have:=NB519_534.out
       have:=NB534_501.out
       have:=NB534_509.out
       have:=NB534_519.out
       have hs51 : w49.cell? ⟨gb534,1,none⟩=some (.int .u32 0):=(zs BK534.out 1).trans rfl
       have hfs51:=zx BK534.out 1
       have:=NB501_534.out
       have:=NB509_534.out
       have:=NB519_534.out
       have:=NB534_501.out
       have:=NB534_509.out
       have:=NB534_519.out
       have hs53 : w49.cell? ⟨gb534,2,none⟩=some (.slice none 0 0):=(zs BK534.out 2).trans rfl
       have hfs53:=zx BK534.out 2
       have:=NB501_534.out
       have:=NB509_534.out
       have:=NB519_534.out
       have:=NB534_501.out
       have:=NB534_509.out
       have:=NB534_519.out
       have hs54 : w49.cell? ⟨gb534,3,none⟩=some (.int .i64 0):=(zs BK534.out 3).trans rfl
       have hfs54:=zx BK534.out 3
       have:=NB501_534.out
       have:=NB509_534.out
       have:=NB519_534.out
       have:=NB534_501.out
       have:=NB534_509.out
       have:=NB534_519.out
       refine skip_ (w1 := ?_) (by rfl) rfl ?_ ?_
       rotate_left
       ·
        go_simp
        rfl
       refine hK.out _ _ yH (fun hHeld => ?_)
       clear hK K
       refine yp 13 16 HT_ ?_
       refine yp 14 17 HT_ ?_
       refine done_ (done_of HT_.out (by kernel_rfl)) ?_
       try go_wp2
       obtain ⟨w55,hw_⟩ : ∃ x,x=((((w49.setCell ⟨gb534,0,none⟩ (.int .u64 t524)).setCell ⟨gb534,1,none⟩ (.int .u32 t525)).setCell ⟨gb534,2,none⟩ (.slice Ao52 t526.length co52)).setCell ⟨gb534,3,none⟩ (.int .i64 t529)):=⟨_,rfl⟩
       rw [← hw_]
       replace HO_510002 : Aside0 (Kd.V (Kd.int .u8) 5 w55 w.heap.size (fun k_=>some k_≠(u520001 : Value).ownBlock∧some k_≠(v531 : Value).ownBlock∧k_≠gb501∧k_≠gb509∧k_≠gb519∧k_≠gb534) (.slice Ao43 x510002_2.length co43) x510002_2):=⟨by rw [hw_];exact (yV0 HO_510002)⟩
       replace HO_520001 : Aside0 (Kd.S (Kd.slice 3 (Kd.int .i64)) 49 w55 w.heap.size (fun k_=>some k_≠(v531 : Value).ownBlock) u520001 x520001_2):=⟨by rw [hw_];exact (yS1 HO_520001 BK534)⟩
       replace HO523 : Aside0 (Kd.V (Kd.int .i64) 3 w55 w.heap.size (fun k_=>some k_≠(u520001 : Value).ownBlock∧some k_≠(v531 : Value).ownBlock∧k_≠gb501∧k_≠gb509∧k_≠gb519∧k_≠gb534) v522 t521):=⟨by rw [hw_];exact (yV0 HO523)⟩
       replace HO528 : Aside0 (Kd.V (Kd.int .u8) 5 w55 w.heap.size (fun k_=>some k_≠(u520001 : Value).ownBlock∧some k_≠(v531 : Value).ownBlock∧k_≠gb501∧k_≠gb509∧k_≠gb519∧k_≠gb534) (.slice Ao52 t526.length co52) t526):=⟨by rw [hw_];exact (yV0 HO528)⟩
       replace HO532 : Aside0 (Kd.R (Kd.int .i64) 3 w55 w.heap.size (fun _=>True) v531 t530):=⟨by rw [hw_];exact (yR1 HO532 BK534)⟩
       replace BK501 : Aside0 (w55.heap[gb501]? = some (.cells #[.bool false, .slice none 0 0, .slice none 0 0] 25 (0,0))):=⟨by rw [hw_];exact (yk BK501)⟩
       replace BK509 : Aside0 (w55.heap[gb509]? = some (.cells #[.int .u64 x510000_2, .int .u32 x510001_2, .slice Ao43 x510002_2.length co43, .int .i64 x510003_2] 82 (0,0))):=⟨by rw [hw_];exact (yk BK509)⟩
       replace BK519 : Aside0 (w55.heap[gb519]? = some (.cells #[.bool (t510 == 1),u520001, .slice none 0 0] 25 (0,0))):=⟨by rw [hw_];exact (yk BK519)⟩
       replace BK534 : Aside0 (w55.heap[gb534]? = some (.cells #[.int .u64 t524, .int .u32 t525, .slice Ao52 t526.length co52, .int .i64 t529] 82 (0,0))):=⟨by rw [hw_];exact (ykp BK534)⟩
       replace HB : Aside0 (Below w.heap.size w w55):=⟨by rw [hw_];exact (yhb)⟩
       clear hw_
       replace HO_510002:=zm (zC HO_510002.out)
       replace HO_520001:=zm (Kd.S_drew HO_520001.out)
       replace HO523:=zm (zC HO523.out)
       replace HO528:=zm (zC HO528.out)
       replace HO532:=zm (zq HO532.out)
       replace BK501:=zm (zj BK501.out)
       replace BK509:=zm (zj BK509.out)
       replace BK519:=zm (zj BK519.out)
       replace BK534:=zm (zj BK534.out)
       replace HB:=zm (zf HB.out)
       obtain ⟨Ao58,co58,eo58⟩:=Kd.R_slice HO532.out
       (first|subst eo58|(injection eo58 with f1_ f2_ f3_;have f4_:=f1_.symm;have f5_:=f3_.symm;clear f1_ f2_ f3_;subst f4_;subst f5_))
       refine yst (fun w' => w'.cell? ⟨gb534,0,none⟩=some (.int .u64 t524)∧w'.cell? ⟨gb534,1,none⟩=some (.int .u32 t525)∧w'.cell? ⟨gb534,2,none⟩=some (.slice Ao52 t526.length co52)∧w'.cell? ⟨gb534,3,none⟩=some (.int .i64 t529)∧w'.cell? ⟨gb519,0,none⟩=some (.bool (t510 == 1))∧w'.cell? ⟨gb519,1,none⟩=some (u520001)∧w'.cell? ⟨gb519,2,none⟩=some (.slice none 0 0)) [8] 9 cpack_Read.tab15 cpack_Read.bits15 (fun hHeld HT_ HW_ => ?_)
       generalize w55.drew=w56 at HO_510002 HO_520001 HO523 HO528 HO532 BK501 BK509 BK519 BK534 HB hHeld ⊢
       refine yp 1 83 HT_ ?_
       refine yp 3 85 HT_ ?_
       refine yl 0 82 HT_ HW_ hHeld ?_
       refine yl 2 84 HT_ HW_ hHeld ?_
       refine yw 4 86 HT_ (fun K hK => ?_)
       refine value_ (w1 := ?_) (v := ?_) (by rfl) rfl ?_ ?_
       rotate_left 2
       ·
        go_simp
        constructor
        ·
         rfl
        ·
         rfl
       refine hK.out _ _ ⟨(zs (zi BK534.out _) 0).trans rfl,(zs (zi BK534.out _) 1).trans rfl,(zs (zi BK534.out _) 2).trans rfl,(zs (zi BK534.out _) 3).trans rfl,(zs (zi BK519.out _) 0).trans rfl,(zs (zi BK519.out _) 1).trans rfl,(zs (zi BK519.out _) 2).trans rfl⟩ (fun hHeld => ?_)
       clear hK K
       refine ym (some 86) ?_
       refine yw 5 87 HT_ (fun K hK => ?_)
       refine Kd.S_append_step (Kd.slice 3 (Kd.int .i64)) (w0:=w) w.heap.size (by rfl) (.tmp 84) (.tmp 86) 22 49 (.slice none 0 0) 24 rfl Try.underlying22 info49 rfl (by decide) (by omega) u520001 x520001_2 t530 [.slice Ao58 t530.length co58] (fun _=>True) (fun k_=>some k_=(.slice Ao58 t530.length co58 : Value).ownBlock) rfl rfl ?aP (fun k_ hk_=>((zG (ok' := fun k_=>((fun _=>True)) k_∧some k_≠(u520001 : Value).ownBlock) (Kd.R_apart' (HO532.out) (Kd.S_typed HO_520001.out) (by decide)) (fun k_ hk=>⟨trivial,hk.2⟩))).1 k_ hk_.symm) ?aF ?aO ?aB ?aS ?aL ?_
       (case aP=>exact Kd.M_row (zG (Kd.R_tight rfl (zG (ok' := fun k_=>((fun _=>True)) k_∧some k_≠(u520001 : Value).ownBlock) (Kd.R_apart' (HO532.out) (Kd.S_typed HO_520001.out) (by decide)) (fun k_ hk=>⟨trivial,hk.2⟩))) (fun _ h_=>h_)))
       (case aB=>exact yhb)
       (case aF=>exact (fun _ _=>trivial))
       (case aO=>exact (yS0 HO_520001))
       (case aS=>exact (zE yhb))
       (case aL=>have:=LMc42.out;omega)
       intro v536 w57 ho hb hg hat
       rw [← Ny535.out] at ho
       replace HO_510002:=zm (Kd.V_afterv (ok:=(fun k_=>some k_≠(.slice Ao58 t530.length co58 : Value).ownBlock∧k_≠gb501∧k_≠gb509∧k_≠gb519∧k_≠gb534)) (yV0 HO_510002) hg hat)
       replace BK501:=zm (blk_grown (yk BK501) hg (Kd.S_ne HO_520001.out BK501.out (by decide)))
       replace BK509:=zm (blk_grown (yk BK509) hg (Kd.S_ne HO_520001.out BK509.out (by decide)))
       replace BK519:=zm (blk_grown (yk BK519) hg (Kd.S_ne HO_520001.out BK519.out (by decide)))
       replace HO523:=zm (Kd.V_afterv (ok:=(fun k_=>some k_≠(.slice Ao58 t530.length co58 : Value).ownBlock∧k_≠gb501∧k_≠gb509∧k_≠gb519∧k_≠gb534)) (yV0 HO523) hg hat)
       replace HO528:=zm (Kd.V_afterv (ok:=(fun k_=>some k_≠(.slice Ao58 t530.length co58 : Value).ownBlock∧k_≠gb501∧k_≠gb509∧k_≠gb519∧k_≠gb534)) (yV0 HO528) hg hat)
       replace BK534:=zm (blk_grown (yk BK534) hg (Kd.S_ne HO_520001.out BK534.out (by decide)))
       replace HB:=zm (hb)
       have HO537:=zm (ho);clear HO_520001;clear HO532;clear ho hb hg hat
       obtain ⟨Ao63,co63,eo63⟩:=Kd.S_slice HO537.out
       (first|subst eo63|(injection eo63 with f1_ f2_ f3_;have f4_:=f1_.symm;have f5_:=f3_.symm;clear f1_ f2_ f3_;subst f4_;subst f5_))
       refine hK.out _ _ yH (fun hHeld => ?_)
       clear hK K
       refine ym (some 87) ?_
       refine yv 6 HT_ (fun K hK => ?_)
       have hs59 : w57.cell? ⟨gb509,0,none⟩=some (.int .u64 x510000_2):=(zs BK509.out 0).trans rfl
       have hfs59:=zx BK509.out 0
       have:=NB501_509.out
       have:=NB519_509.out
       have:=NB534_509.out
       have:=NB509_501.out
       have:=NB509_519.out
       have:=NB509_534.out
       have hs60 : w57.cell? ⟨gb509,1,none⟩=some (.int .u32 x510001_2):=(zs BK509.out 1).trans rfl
       have hfs60:=zx BK509.out 1
       have:=NB501_509.out
       have:=NB519_509.out
       have:=NB534_509.out
       have:=NB509_501.out
       have:=NB509_519.out
       have:=NB509_534.out
       have hs61 : w57.cell? ⟨gb509,2,none⟩=some (.slice Ao43 x510002_2.length co43):=(zs BK509.out 2).trans rfl
       have hfs61:=zx BK509.out 2
       have:=NB501_509.out
       have:=NB519_509.out
       have:=NB534_509.out
       have:=NB509_501.out
       have:=NB509_519.out
       have:=NB509_534.out
       have hs62 : w57.cell? ⟨gb509,3,none⟩=some (.int .i64 x510003_2):=(zs BK509.out 3).trans rfl
       have hfs62:=zx BK509.out 3
       have:=NB501_509.out
       have:=NB519_509.out
       have:=NB534_509.out
       have:=NB509_501.out
       have:=NB509_519.out
       have:=NB509_534.out
       refine skip_ (w1 := ?_) (by rfl) rfl ?_ ?_
       rotate_left
       ·
        go_simp
        rfl
       refine hK.out _ _ yH (fun hHeld => ?_)
       clear hK K
       refine yp 7 88 HT_ ?_
       refine last_ (i:=8) (N:=none) #[true,true,true,true,true,true,true,true,true] rfl rfl (one_of HT_.out (by kernel_rfl)) (by decide) (fun K hK => ?_)
       have hs64 : w57.cell? ⟨gb519,1,none⟩=some (u520001):=(zs BK519.out 1).trans rfl
       have hfs64:=zx BK519.out 1
       have:=NB501_519.out
       have:=NB509_519.out
       have:=NB534_519.out
       have:=NB519_501.out
       have:=NB519_509.out
       have:=NB519_534.out
       refine skip_ (w1 := ?_) (by rfl) rfl ?_ ?_
       rotate_left
       ·
        go_simp
        rfl
       refine hK.out _ _ ?_
       clear hK K
       refine done_ (done_of HT_.out (by kernel_rfl)) ?_
       try go_wp2
       go_roundg k2
       case measure=>exact yom2 HJ10 HK2
       case rel=>exact ⟨(wrap64 (x68_2+1)),(t524),(t525),(t526),(t529),(y535),(.slice Ao52 t526.length co52),(.slice Ao63 y535.length co63),yq,H',⟨yom2 HJ10 HK2⟩,⟨yV0 HO528⟩,⟨yS2 HO537 BK509 BK519⟩,⟨yk BK501⟩,⟨ykp BK509⟩,⟨ykp BK519⟩,⟨yhb⟩⟩
      ·
       rw [if_neg c39] at H
       have c39b0 : decide (x68_2 < a1)=false:=decide_eq_false c39
       clear c39
       obtain ⟨⟨t538,t539⟩,A65,H⟩:=ybi H
       try dsimp only at H
       have H' := zm H
       clear H
       have:=NB519_501.out
       have:=NB501_519.out
       have:=NB519_509.out
       have:=NB509_519.out
       obtain ⟨hcz68_0,hcz68_1,hcz68_2,hfz68_0,hfz68_1,hfz68_2⟩:=yc3 BK519
       obtain ⟨Ao69,co69,eo69⟩:=Kd.S_slice HO_520001.out
       subst eo69
       go_wp2_with (first|((with_reducible refine gate_callee (f:=30) rfl ?_);refine ygl 95 Try.func30 #[.int .i64 a0, .int .i64 a1, .slice Ao69 x520001_2.length co69] ?_;(with_reducible refine (alloc_Pulses.calls k2 a0 a1 _ _ x520001_2 t538 t539 _ ?side1 ?side2 A65.out).mono ?_);(case side1=>exact yce (Kd.S_reads' HO_520001.out).2.2);(case side2=>exact (Kd.S_reads' HO_520001.out).2.1);rintro e w70 ⟨v540,rfl,ho0,hb⟩;refine ⟨_,rfl, ?_⟩;replace HO_510002:=zm (Kd.V_elder' (yr HO_510002) (Kd.S_base ho0) hb);have HO541:=zm (Kd.S_lower (Kd.S_new' ho0 (Kd.S_lt (yr HO_520001))) (zE yhb));replace HO_520001:=zm (Kd.S_elder' (yr HO_520001) (Kd.S_base ho0) hb);replace BK501:=ybb BK501 hb;replace BK509:=ybb BK509 hb;replace BK519:=ybb BK519 hb;replace HB:=ybs hb;(try clear hb);(try clear ho0)))
       go_loopg [99] k2 (fun kq v99 w' => ∃ (x99_3 : Int) (x510000_3 : Int) (x510001_3 : Int) (x510002_3 : List Int) (x510003_3 : Int) (x520002_3 : List (List (List Int))) (u510002 : Value) (u520002 : Value),v99=.int .i64 x99_3∧Aside0 (cpack_Read.l1 kq t538 a1 x99_3 x510000_3 x510001_3 x510002_3 x510003_3 (t510 == 1) x520001_2 x520002_3=some (r1,r2,r3,r4))∧Aside0 (kq≤k2)∧Aside0 (Kd.S (Kd.slice 3 (Kd.int .i64)) 49 w' w.heap.size (fun k_=>some k_≠((.slice Ao69 x520001_2.length co69) : Value).ownBlock) v540 t538)∧Aside0 (Kd.V (Kd.int .u8) 5 w' w.heap.size (fun k_=>some k_≠(v540 : Value).ownBlock∧some k_≠((.slice Ao69 x520001_2.length co69) : Value).ownBlock∧some k_≠(u520002 : Value).ownBlock∧k_≠gb501∧k_≠gb509∧k_≠gb519) u510002 x510002_3)∧Aside0 (Kd.S (Kd.slice 3 (Kd.int .i64)) 49 w' w.heap.size (fun k_=>some k_≠(v540 : Value).ownBlock) (.slice Ao69 x520001_2.length co69) x520001_2)∧Aside0 (Kd.R (Kd.slice 49 (Kd.slice 3 (Kd.int .i64))) 22 w' w.heap.size (fun k_=>some k_≠(v540 : Value).ownBlock∧some k_≠((.slice Ao69 x520001_2.length co69) : Value).ownBlock) u520002 x520002_3)∧Aside0 (w'.heap[gb501]? = some (.cells #[.bool false,(.slice none 0 0),(.slice none 0 0)] 25 (0,0)))∧Aside0 (w'.heap[gb509]? = some (.cells #[.int .u64 x510000_3, .int .u32 x510001_3,u510002, .int .i64 x510003_3] 82 (0,0)))∧Aside0 (w'.heap[gb519]? = some (.cells #[.bool (t510 == 1),(.slice Ao69 x520001_2.length co69),u520002] 25 (0,0)))∧Aside0 (Below w.heap.size w w'))
       case atStart=>exact ⟨(0),(x510000_2),(x510001_2),(x510002_2),(x510003_2),(([] : List (List (List Int)))),(u510002),(.slice none 0 0),yq,H',⟨Nat.le_refl _⟩,⟨yS0 HO541⟩,⟨yV0 HO_510002⟩,⟨yS0 HO_520001⟩,⟨yn⟩,⟨yk BK501⟩,⟨yk BK509⟩,⟨yk BK519⟩,⟨yhb⟩⟩
       case round =>
        clear H'
        try clear c39b0
        try clear hcz68_0
        try clear hcz68_1
        try clear hcz68_2
        try clear hfz68_0
        try clear hfz68_1
        try clear hfz68_2
        obtain ⟨x99_3,x510000_3,x510001_3,x510002_3,x510003_3,x520002_3,u510002,u520002,rfl,HA,HK3,HO_18,HO_510002,HO_520001,HO_520002,BK501,BK509,BK519,HB⟩:=hrel
        obtain ⟨k3,rfl⟩:=ysu gk (fun h=>by subst h;exact absurd HA.out (by simp [cpack_Read.l1]))
        have H:=HA.out;clear HA
        simp only [cpack_Read.l1] at H
        by_cases c71 : x99_3 < a1
        ·
         rw [if_pos c71] at H
         have c71b0 : decide (x99_3 < a1)=true:=decide_eq_true c71
         clear c71
         have H' := zm H
         clear H
         go_wp2
         go_loopg [21,102] k3 (fun kq v21 v102 w' => ∃ (x21_4 : List (List Int)) (x102_4 : Int) (x510000_4 : Int) (x510001_4 : Int) (x510002_4 : List Int) (x510003_4 : Int) (u510002 : Value),v102=.int .i64 x102_4∧Aside0 (cpack_Read.l2 kq t538 x99_3 x21_4 a1 x99_3 x102_4 x510000_4 x510001_4 x510002_4 x510003_4 (t510 == 1) x520001_2 x520002_3=some (r1,r2,r3,r4))∧Aside0 (kq≤k3)∧Aside0 (Kd.S (Kd.slice 3 (Kd.int .i64)) 49 w' w.heap.size (fun k_=>some k_≠(v21 : Value).ownBlock∧some k_≠((.slice Ao69 x520001_2.length co69) : Value).ownBlock) v540 t538)∧Aside0 (Kd.S (Kd.slice 3 (Kd.int .i64)) 49 w' w.heap.size (fun k_=>some k_≠(v540 : Value).ownBlock∧some k_≠((.slice Ao69 x520001_2.length co69) : Value).ownBlock) v21 x21_4)∧Aside0 (Kd.V (Kd.int .u8) 5 w' w.heap.size (fun k_=>some k_≠(v540 : Value).ownBlock∧some k_≠(v21 : Value).ownBlock∧some k_≠((.slice Ao69 x520001_2.length co69) : Value).ownBlock∧some k_≠(u520002 : Value).ownBlock∧k_≠gb501∧k_≠gb509∧k_≠gb519) u510002 x510002_4)∧Aside0 (Kd.S (Kd.slice 3 (Kd.int .i64)) 49 w' w.heap.size (fun k_=>some k_≠(v540 : Value).ownBlock∧some k_≠(v21 : Value).ownBlock) (.slice Ao69 x520001_2.length co69) x520001_2)∧Aside0 (Kd.R (Kd.slice 49 (Kd.slice 3 (Kd.int .i64))) 22 w' w.heap.size (fun k_=>some k_≠(v540 : Value).ownBlock∧some k_≠(v21 : Value).ownBlock∧some k_≠((.slice Ao69 x520001_2.length co69) : Value).ownBlock) u520002 x520002_3)∧Aside0 (w'.heap[gb501]? = some (.cells #[.bool false,(.slice none 0 0),(.slice none 0 0)] 25 (0,0)))∧Aside0 (w'.heap[gb509]? = some (.cells #[.int .u64 x510000_4, .int .u32 x510001_4,u510002, .int .i64 x510003_4] 82 (0,0)))∧Aside0 (w'.heap[gb519]? = some (.cells #[.bool (t510 == 1),(.slice Ao69 x520001_2.length co69),u520002] 25 (0,0)))∧Aside0 (Below w.heap.size w w'))
         case atStart=>exact ⟨(([] : List (List Int))),(0),(x510000_3),(x510001_3),(x510002_3),(x510003_3),(u510002),yq,H',⟨Nat.le_refl _⟩,⟨yS0 HO_18⟩,⟨yn⟩,⟨yV0 HO_510002⟩,⟨yS0 HO_520001⟩,⟨yR0 HO_520002⟩,⟨yk BK501⟩,⟨yk BK509⟩,⟨yk BK519⟩,⟨yhb⟩⟩
         case round =>
          clear H'
          try clear c71b0
          obtain ⟨x21_4,x102_4,x510000_4,x510001_4,x510002_4,x510003_4,u510002,rfl,HA,HK4,HO_18,HO_21,HO_510002,HO_520001,HO_520002,BK501,BK509,BK519,HB⟩:=hrel
          obtain ⟨k4,rfl⟩:=ysu gk (fun h=>by subst h;exact absurd HA.out (by simp [cpack_Read.l2]))
          have H:=HA.out;clear HA
          simp only [cpack_Read.l2] at H
          by_cases c72 : x102_4 < 5
          ·
           rw [if_pos c72] at H
           have c72b0 : decide (x102_4 < 5)=true:=decide_eq_true c72
           clear c72
           obtain ⟨t545,A73,H⟩:=ybi H
           obtain ⟨c74,H⟩:=yif H
           have c74b0:=eq_true c74
           have c74b1 : decide (0≤t545)=true:=decide_eq_true c74
           clear c74
           obtain ⟨c75,H⟩:=yif H
           have c75b0:=eq_true c75
           have c75b1 : decide ((t545 : Int).toNat≤35184372088832)=true:=decide_eq_true c75
           clear c75
           obtain ⟨y546,hy546⟩ : ∃ y_ : List Int,y_=(List.replicate (t545 : Int).toNat 0):=⟨_,rfl⟩
           replace H : (if 0≤x99_3 then (if x99_3 < (t538.length : Int) then (if 0≤x102_4 then (if x102_4 < ((rd_L1 t538 x99_3).length : Int) then (if (rd (rd_L1 t538 x99_3) x102_4) > 0 then ((band_Width.f x102_4).bind fun t551=>((comb_Count.f t551 (rd (rd_L1 t538 x99_3) x102_4)).bind fun bt554=>((coder_TakeNum.f k4 x510000_4 x510001_4 x510002_4 x510003_4 bt554.1).bind fun bt556=>((band_Width.f x102_4).bind fun t565=>((comb_Vector.f k4 t565 (rd (rd_L1 t538 x99_3) x102_4) bt556.2.2.2.2.1).bind fun bt568=>(if x21_4.length < 5864062014805 then (cpack_Read.l2 k4 t538 x99_3 (x21_4 ++ [bt568.1]) a1 x99_3 (wrap64 (x102_4+1)) bt556.1 bt556.2.1 bt556.2.2.1 bt556.2.2.2.1 (t510 == 1) x520001_2 x520002_3) else (none))))))) else (if x21_4.length < 5864062014805 then (cpack_Read.l2 k4 t538 x99_3 (x21_4 ++ [y546]) a1 x99_3 (wrap64 (x102_4+1)) x510000_4 x510001_4 x510002_4 x510003_4 (t510 == 1) x520001_2 x520002_3) else (none))) else (none)) else (none)) else (none)) else (none))=some (r1,r2,r3,r4):=yrw hy546 H
           have Ny546:=zm hy546;clear hy546
           obtain ⟨c76,H⟩:=yif H
           have c76b0 : decide (0≤x99_3)=true:=decide_eq_true c76
           clear c76
           obtain ⟨c77,H⟩:=yif H
           have c77b0 : decide (x99_3 < (t538.length : Int))=true:=decide_eq_true c77
           clear c77
           obtain ⟨c78,H⟩:=yif H
           have c78b0 : decide (0≤x102_4)=true:=decide_eq_true c78
           clear c78
           obtain ⟨c79,H⟩:=yif H
           have c79b0 : decide (x102_4 < ((rd_L1 t538 x99_3).length : Int))=true:=decide_eq_true c79
           clear c79
           by_cases c80 : (rd (rd_L1 t538 x99_3) x102_4) > 0
           ·
            rw [if_pos c80] at H
            have c80b0 : decide (0 < (rd (rd_L1 t538 x99_3) x102_4))=true:=decide_eq_true c80
            clear c80
            obtain ⟨t551,A81,H⟩:=ybi H
            obtain ⟨⟨t554,t555⟩,A82,H⟩:=ybi H
            try dsimp only at H
            obtain ⟨⟨t556,t557,t558,t561,t562,t563⟩,A83,H⟩:=ybi H
            try dsimp only at H
            obtain ⟨t565,A84,H⟩:=ybi H
            obtain ⟨⟨t568,t569⟩,A85,H⟩:=ybi H
            try dsimp only at H
            obtain ⟨c86,H⟩:=yif H
            have LMc86:=zm c86;clear c86
            obtain ⟨y572,hy572⟩ : ∃ y_ : List (List Int),y_=(x21_4 ++ [t568]):=⟨_,rfl⟩
            replace H : (cpack_Read.l2 k4 t538 x99_3 y572 a1 x99_3 (wrap64 (x102_4+1)) t556 t557 t558 t561 (t510 == 1) x520001_2 x520002_3)=some (r1,r2,r3,r4):=yrw hy572 H
            have Ny572:=zm hy572;clear hy572
            have H' := zm H
            clear H
            try go_wp2_with (first|((with_reducible refine gate_callee (f:=32) rfl ?_);refine ygl 106 Try.func32 #[.int .i64 x102_4] ?_;(with_reducible refine (band_Width.calls x102_4 t545 _ A73.out).mono ?_);rintro e w87 ⟨rfl,hb⟩;refine ⟨_,rfl, ?_⟩;replace HO_18:=ySb HO_18 hb;replace HO_21:=ySb HO_21 hb;replace HO_510002:=yVb HO_510002 hb;replace HO_520001:=ySb HO_520001 hb;replace HO_520002:=yRb HO_520002 hb;replace BK501:=ybb BK501 hb;replace BK509:=ybb BK509 hb;replace BK519:=ybb BK519 hb;replace HB:=ybs hb;(try clear hb))|((with_reducible refine gate_dst (N:=107) rfl ?_);refine Kd.R_make (Kd.int .i64) _ 3 rfl (N:=107) rfl 49 _ _ rfl t545 rfl rfl Try.underlying49 (.int .i64 0) 8 info3 rfl (by decide) (by omega) 0 (ok:=fun _=>True) (okp:=fun _=>True) rfl (fun _ hk=>hk) trivial (yt) (Nat.le_trans (Nat.mul_le_mul_right _ (yt : t545.toNat≤35184372088832)) (by omega)) (Below.refl _ _) (Nat.le_refl _) ?_;intro v547 w88 ho89 hb hg_ hnew_;clear hg_ hnew_;(first|rw [← Ny546.out] at ho89|(simp only [Int.reduceToNat] at ho89;rw [← Ny546.out] at ho89));replace HO_18:=zm (Kd.S_elder' (yr HO_18) (Kd.R_base ho89) hb);replace HO_21:=zm (Kd.S_elder' (yr HO_21) (Kd.R_base ho89) hb);replace HO_510002:=zm (Kd.V_elder' (yr HO_510002) (Kd.R_base ho89) hb);replace HO_520001:=zm (Kd.S_elder' (yr HO_520001) (Kd.R_base ho89) hb);replace HO_520002:=zm (Kd.R_elder' (yr HO_520002) (Kd.R_base ho89) hb);have HO548:=zm (Kd.R_lower ho89 (zE yhb));replace BK501:=ybb BK501 hb;replace BK509:=ybb BK509 hb;replace BK519:=ybb BK519 hb;replace HB:=ybs hb;clear hb ho89;obtain ⟨Ao90,co90,eo90⟩:=Kd.S_slice HO_18.out;subst eo90;have p549 : 0≤(x99_3 : Int):=yt;have q549 : x99_3 < (t538.length : Int):=yt;obtain ⟨ad549,A549_0,c549_0,e549,hx549_0,hl549_0,hi549_0⟩:=at_L1 (Kd.S_reads' HO_18.out).2.2 x99_3 p549 q549;cases e549;obtain ⟨ce549,hce549,hMe549,hcc549⟩:=Kd.S_get HO_18.out [] x99_3 p549 (by first|exact q549|exact yt|(have e_:=(Kd.S_reads' HO_18.out).1;omega));obtain ⟨ve549_0,rfl,ge549_0⟩:=hMe549;have hv549_0:=hcc549 0 _ rfl;rw [Nat.add_zero,show ((Kd.slice 3 (Kd.int .i64))).sz=1 from rfl,Nat.mul_one] at hv549_0;replace hv549_0:=Option.some.inj (hv549_0.symm.trans hx549_0);rw [hv549_0] at ge549_0;have HL549_0:=zm (show Kd.R (Kd.int .i64) 3 _ _ _ _ (rd_L1 t538 x99_3) from ge549_0);clear hv549_0 ge549_0;clear hcc549 hce549;have HR549_0:=zm hi549_0;have HC549_0:=zm hl549_0;clear hi549_0 hl549_0;replace p549:=eq_true p549;replace q549:=eq_true q549;obtain ⟨ad550,e550,hx550_0,p550,q550⟩:=yai HR549_0 x102_4;cases e550))
            replace HO_18:=zm (Kd.S_drew HO_18.out)
            replace HO_21:=zm (Kd.S_drew HO_21.out)
            replace HO_510002:=zm (zC HO_510002.out)
            replace HO_520001:=zm (Kd.S_drew HO_520001.out)
            replace HO_520002:=zm (zq HO_520002.out)
            replace HO548:=zm (zq HO548.out)
            replace HL549_0:=zm (zq HL549_0.out)
            replace BK501:=zm (zj BK501.out)
            replace BK509:=zm (zj BK509.out)
            replace BK519:=zm (zj BK519.out)
            replace HR549_0:=zm (Kd.C_drew HR549_0.out)
            replace HB:=zm (zf HB.out)
            have p552 : 0≤(x99_3 : Int):=yt
            have q552 : x99_3 < (t538.length : Int):=yt
            obtain ⟨ad552,A552_0,c552_0,e552,hx552_0,hl552_0,hi552_0⟩:=at_L1 (Kd.S_reads' HO_18.out).2.2 x99_3 p552 q552
            obtain rfl : ad549=ad552:=(by injection e552)
            obtain ⟨ce552,hce552,hMe552,hcc552⟩:=Kd.S_get HO_18.out [] x99_3 p552 (by first|exact q552|exact yt|(have e_:=(Kd.S_reads' HO_18.out).1;omega))
            obtain ⟨ve552_0,rfl,ge552_0⟩:=hMe552
            have hv552_0:=hcc552 0 _ rfl
            rw [Nat.add_zero,show ((Kd.slice 3 (Kd.int .i64))).sz=1 from rfl,Nat.mul_one] at hv552_0
            replace hv552_0:=Option.some.inj (hv552_0.symm.trans hx552_0)
            rw [hv552_0] at ge552_0
            have HL552_0:=zm (show Kd.R (Kd.int .i64) 3 _ _ _ _ (rd_L1 t538 x99_3) from ge552_0)
            clear hv552_0 ge552_0;clear hcc552 hce552;have HR552_0:=zm hi552_0;have HC552_0:=zm hl552_0;clear hi552_0 hl552_0
            replace p552:=eq_true p552
            replace q552:=eq_true q552
            obtain ⟨ad553,e553,hx553_0,p553,q553⟩:=yai HR552_0 x102_4
            cases e553
            refine yst (fun w' => w'.cell? (ad549.add (x99_3).toNat)=some (.slice (some ad553) (rd_L1 t538 x99_3).length c552_0)∧w'.cell? (ad553.add (x102_4).toNat)=some (.int .i64 (rd (rd_L1 t538 x99_3) x102_4))) [] 15 cpack_Read.tab27 cpack_Read.bits27 (fun hHeld HT_ HW_ => ?_)
            generalize w88.drew=w91 at HO_18 HO_21 HO_510002 HO_520001 HO_520002 HO548 HL549_0 BK501 BK509 BK519 HR549_0 HB HL552_0 HR552_0 hx552_0 hx553_0 hHeld ⊢
            refine yp 0 117 HT_ ?_
            refine yp 2 119 HT_ ?_
            refine yp 3 120 HT_ ?_
            refine yp 4 121 HT_ ?_
            refine yp 6 123 HT_ ?_
            refine yl 5 122 HT_ HW_ hHeld ?_
            refine yp 7 124 HT_ ?_
            refine yl 8 125 HT_ HW_ hHeld ?_
            refine yw 1 118 HT_ (fun K hK => ?_)
            refine ygs Try.func32 #[.int .i64 x102_4] ?_
            with_reducible refine (band_Width.calls x102_4 t551 _ A81.out).mono ?_
            rintro e w92 ⟨rfl,hb⟩
            have HS0_:=yhs hb hHeld.1
            have HS1_:=yhs hb hHeld.2
            refine ⟨_,rfl, ?_⟩
            replace HO_18:=ySb HO_18 hb
            replace HO_21:=ySb HO_21 hb
            replace HO_510002:=yVb HO_510002 hb
            replace HO_520001:=ySb HO_520001 hb
            replace HO_520002:=yRb HO_520002 hb
            replace HO548:=yRb HO548 hb
            replace HL549_0:=yRb HL549_0 hb
            replace HL552_0:=yRb HL552_0 hb
            replace BK501:=ybb BK501 hb
            replace BK509:=ybb BK509 hb
            replace BK519:=ybb BK519 hb
            replace HR549_0:=yCb HR549_0 hb
            replace HR552_0:=yCb HR552_0 hb
            replace HB:=ybs hb
            (try clear hb)
            refine hK.out _ _ yH (fun hHeld => ?_)
            clear hK K
            refine ym (some 118) ?_
            refine yw 9 126 HT_ (fun K hK => ?_)
            refine ygs Try.func31 #[.int .i64 t551, .int .i64 (rd (rd_L1 t538 x99_3) x102_4)] ?_
            with_reducible refine (comb_Count.calls t551 (rd (rd_L1 t538 x99_3) x102_4) t554 t555 _ A82.out).mono ?_
            rintro e w93 ⟨rfl,hb⟩
            have HS0_:=yhs hb hHeld.1
            have HS1_:=yhs hb hHeld.2
            refine ⟨_,rfl, ?_⟩
            replace HO_18:=ySb HO_18 hb
            replace HO_21:=ySb HO_21 hb
            replace HO_510002:=yVb HO_510002 hb
            replace HO_520001:=ySb HO_520001 hb
            replace HO_520002:=yRb HO_520002 hb
            replace HO548:=yRb HO548 hb
            replace HL549_0:=yRb HL549_0 hb
            replace HL552_0:=yRb HL552_0 hb
            replace BK501:=ybb BK501 hb
            replace BK509:=ybb BK509 hb
            replace BK519:=ybb BK519 hb
            replace HR549_0:=yCb HR549_0 hb
            replace HR552_0:=yCb HR552_0 hb
            replace HB:=ybs hb
            (try clear hb)
            refine hK.out _ _ yH (fun hHeld => ?_)
            clear hK K
            refine ym (some 126) ?_
            refine yp 10 116 HT_ ?_
            refine yp 11 127 HT_ ?_
            refine yp 12 128 HT_ ?_
            refine yp 13 24 HT_ ?_
            refine yp 14 25 HT_ ?_
            refine done_ (done_of HT_.out (by kernel_rfl)) ?_
            have:=NB509_501.out
            have:=NB501_509.out
            have:=NB509_519.out
            have:=NB519_509.out
            obtain ⟨_,_,_,_,_,_,_,_⟩:=yc4 BK509
            obtain ⟨Ao97,co97,eo97⟩:=Kd.V_slice HO_510002.out
            subst eo97
            try go_wp2_with (first|((with_reducible refine gate_callee (f:=53) rfl ?_);refine ygl 132 Try.func53 #[.agg #[.int .u64 x510000_4, .int .u32 x510001_4, .slice Ao97 x510002_4.length co97, .int .i64 x510003_4], .int .u64 t554] ?_;(with_reducible refine (coder_TakeNum.calls k4 x510000_4 x510001_4 (fun k_=>((some k_≠(.slice (some ad549) t538.length co90 : Value).ownBlock∧(some k_≠(u21 : Value).ownBlock∧(some k_≠(.slice Ao69 x520001_2.length co69 : Value).ownBlock∧(some k_≠(u520002 : Value).ownBlock∧(k_≠gb501∧(k_≠gb509∧k_≠gb519))))))∧some k_≠(v547 : Value).ownBlock)) _ _ x510002_4 x510003_4 t554 t556 t557 t558 t561 t562 t563 _ HO_510002.out A83.out).mono ?_);rintro e w98 ⟨v559,rfl,ho0,hb⟩;refine ⟨_,rfl, ?_⟩;replace HO_510002:=yVb HO_510002 hb;replace HL549_0:=yRb HL549_0 hb;replace HL552_0:=yRb HL552_0 hb;have HO560:=yho (fun k_=>some k_≠(.slice (some ad549) t538.length co90 : Value).ownBlock∧some k_≠(u21 : Value).ownBlock∧some k_≠(.slice Ao69 x520001_2.length co69 : Value).ownBlock∧some k_≠(u520002 : Value).ownBlock∧some k_≠(v547 : Value).ownBlock∧k_≠gb501∧k_≠gb509∧k_≠gb519) ho0 (fun k_ hk_=>⟨yoS HO_18 hk_,yoS HO_21 hk_,yoS HO_520001 hk_,yoR HO_520002 hk_,yoR HO548 hk_,yoB BK501 hk_,yoB BK509 hk_,yoB BK519 hk_⟩);replace HO_18:=ySb HO_18 hb;replace HO_21:=ySb HO_21 hb;replace HO_520001:=ySb HO_520001 hb;replace HO_520002:=yRb HO_520002 hb;replace HO548:=yRb HO548 hb;replace BK501:=ybb BK501 hb;replace BK509:=ybb BK509 hb;replace BK519:=ybb BK519 hb;replace HR549_0:=yCb HR549_0 hb;replace HR552_0:=yCb HR552_0 hb;replace HB:=ybs hb;(try clear hb);(try clear ho0))|((with_reducible refine gate_dst (N:=26) rfl ?_);refine ybx 26 #[.int .u64 0, .int .u32 0, .slice none 0 0, .int .i64 0] 82 ?_;intro gb564 hg w99 hbox hb;replace HO_18:=ySb HO_18 hb;replace HO_21:=ySb HO_21 hb;replace HO_510002:=yVe HO_510002 hg hb;replace HO_520001:=ySb HO_520001 hb;replace HO_520002:=yRb HO_520002 hb;replace HO548:=yRb HO548 hb;replace HL549_0:=yRb HL549_0 hb;replace HL552_0:=yRb HL552_0 hb;replace HO560:=yVe HO560 hg hb;replace HR549_0:=yCb HR549_0 hb;replace HR552_0:=yCb HR552_0 hb;have BK564:=zm (hbox);have GW564:=ygw hg;have GE564:=ygw hg;replace HB:=ybs hb;have NB501_564:=ynl BK501 hg;have NB564_501:=yng BK501 hg;replace BK501:=ybb BK501 hb;have NB509_564:=ynl BK509 hg;have NB564_509:=yng BK509 hg;replace BK509:=ybb BK509 hb;have NB519_564:=ynl BK519 hg;have NB564_519:=yng BK519 hg;replace BK519:=ybb BK519 hb;clear hb hbox hg;have:=NB564_501.out;have:=NB501_564.out;have:=NB564_509.out;have:=NB509_564.out;have:=NB564_519.out;have:=NB519_564.out;obtain ⟨_,_,_,_,_,_,_,_⟩:=yc4 BK564;obtain ⟨Ao104,co104,eo104⟩:=Kd.V_slice HO560.out;subst eo104;obtain ⟨_,_,_,_,_,_,_,_⟩:=yc4 BK509))
            obtain ⟨w106,hw_⟩ : ∃ x,x=((((((((w99.setCell ⟨gb564,0,none⟩ (.int .u64 t556)).setCell ⟨gb564,1,none⟩ (.int .u32 t557)).setCell ⟨gb564,2,none⟩ (.slice Ao104 t558.length co104)).setCell ⟨gb564,3,none⟩ (.int .i64 t561)).setCell ⟨gb509,0,none⟩ (.int .u64 t556)).setCell ⟨gb509,1,none⟩ (.int .u32 t557)).setCell ⟨gb509,2,none⟩ (.slice Ao104 t558.length co104)).setCell ⟨gb509,3,none⟩ (.int .i64 t561)):=⟨_,rfl⟩
            rw [← hw_]
            replace HO_18 : Aside0 (Kd.S (Kd.slice 3 (Kd.int .i64)) 49 w106 w.heap.size (fun k_=>some k_≠(u21 : Value).ownBlock∧some k_≠(.slice Ao69 x520001_2.length co69 : Value).ownBlock∧some k_≠(v547 : Value).ownBlock) (.slice (some ad549) t538.length co90) t538):=⟨by rw [hw_];exact (yS2 HO_18 BK564 BK509)⟩
            replace HO_21 : Aside0 (Kd.S (Kd.slice 3 (Kd.int .i64)) 49 w106 w.heap.size (fun k_=>some k_≠(.slice (some ad549) t538.length co90 : Value).ownBlock∧some k_≠(.slice Ao69 x520001_2.length co69 : Value).ownBlock∧some k_≠(v547 : Value).ownBlock) u21 x21_4):=⟨by rw [hw_];exact (yS2 HO_21 BK564 BK509)⟩
            replace HO_510002 : Aside0 (Kd.V (Kd.int .u8) 5 w106 w.heap.size (fun k_=>some k_≠(.slice (some ad549) t538.length co90 : Value).ownBlock∧some k_≠(u21 : Value).ownBlock∧some k_≠(.slice Ao69 x520001_2.length co69 : Value).ownBlock∧some k_≠(u520002 : Value).ownBlock∧some k_≠(v547 : Value).ownBlock∧k_≠gb501∧k_≠gb509∧k_≠gb519∧k_≠gb564) (.slice Ao97 x510002_4.length co97) x510002_4):=⟨by rw [hw_];exact (yV0 HO_510002)⟩
            replace HO_520001 : Aside0 (Kd.S (Kd.slice 3 (Kd.int .i64)) 49 w106 w.heap.size (fun k_=>some k_≠(.slice (some ad549) t538.length co90 : Value).ownBlock∧some k_≠(u21 : Value).ownBlock∧some k_≠(v547 : Value).ownBlock) (.slice Ao69 x520001_2.length co69) x520001_2):=⟨by rw [hw_];exact (yS2 HO_520001 BK564 BK509)⟩
            replace HO_520002 : Aside0 (Kd.R (Kd.slice 49 (Kd.slice 3 (Kd.int .i64))) 22 w106 w.heap.size (fun k_=>some k_≠(.slice (some ad549) t538.length co90 : Value).ownBlock∧some k_≠(u21 : Value).ownBlock∧some k_≠(.slice Ao69 x520001_2.length co69 : Value).ownBlock∧some k_≠(v547 : Value).ownBlock) u520002 x520002_3):=⟨by rw [hw_];exact (yR2 HO_520002 BK564 BK509)⟩
            replace HO548 : Aside0 (Kd.R (Kd.int .i64) 3 w106 w.heap.size (fun _=>True) v547 y546):=⟨by rw [hw_];exact (yR2 HO548 BK564 BK509)⟩
            replace HL549_0 : Aside0 (Kd.R (Kd.int .i64) 3 w106 w.heap.size (fun k_=>some k_≠(.slice (some ad549) t538.length co90 : Value).ownBlock∧some k_≠(u21 : Value).ownBlock∧some k_≠(.slice Ao69 x520001_2.length co69 : Value).ownBlock∧some k_≠(v547 : Value).ownBlock) (.slice (some ad550) (rd_L1 t538 x99_3).length c549_0) (rd_L1 t538 x99_3)):=⟨by rw [hw_];exact (yR2 HL549_0 BK564 BK509)⟩
            replace HL552_0 : Aside0 (Kd.R (Kd.int .i64) 3 w106 w.heap.size (fun k_=>some k_≠(.slice (some ad549) t538.length co90 : Value).ownBlock∧some k_≠(u21 : Value).ownBlock∧some k_≠(.slice Ao69 x520001_2.length co69 : Value).ownBlock∧some k_≠(v547 : Value).ownBlock) (.slice (some ad553) (rd_L1 t538 x99_3).length c552_0) (rd_L1 t538 x99_3)):=⟨by rw [hw_];exact (yR2 HL552_0 BK564 BK509)⟩
            replace HO560 : Aside0 (Kd.V (Kd.int .u8) 5 w106 w.heap.size (fun k_=>some k_≠(.slice (some ad549) t538.length co90 : Value).ownBlock∧some k_≠(u21 : Value).ownBlock∧some k_≠(.slice Ao69 x520001_2.length co69 : Value).ownBlock∧some k_≠(u520002 : Value).ownBlock∧some k_≠(v547 : Value).ownBlock∧k_≠gb501∧k_≠gb509∧k_≠gb519∧k_≠gb564) (.slice Ao104 t558.length co104) t558):=⟨by rw [hw_];exact (yV0 HO560)⟩
            replace BK501 : Aside0 (w106.heap[gb501]? = some (.cells #[.bool false, .slice none 0 0, .slice none 0 0] 25 (0,0))):=⟨by rw [hw_];exact (yk BK501)⟩
            replace BK509 : Aside0 (w106.heap[gb509]? = some (.cells #[.int .u64 t556, .int .u32 t557, .slice Ao104 t558.length co104, .int .i64 t561] 82 (0,0))):=⟨by rw [hw_];exact (ykp BK509)⟩
            replace BK519 : Aside0 (w106.heap[gb519]? = some (.cells #[.bool (t510 == 1), .slice Ao69 x520001_2.length co69,u520002] 25 (0,0))):=⟨by rw [hw_];exact (yk BK519)⟩
            replace BK564 : Aside0 (w106.heap[gb564]? = some (.cells #[.int .u64 t556, .int .u32 t557, .slice Ao104 t558.length co104, .int .i64 t561] 82 (0,0))):=⟨by rw [hw_];exact (ykp BK564)⟩
            replace HB : Aside0 (Below w.heap.size w w106):=⟨by rw [hw_];exact (yhb)⟩
            clear hw_
            replace HO_18:=zm (Kd.S_drew HO_18.out)
            replace HO_21:=zm (Kd.S_drew HO_21.out)
            replace HO_510002:=zm (zC HO_510002.out)
            replace HO_520001:=zm (Kd.S_drew HO_520001.out)
            replace HO_520002:=zm (zq HO_520002.out)
            replace HO548:=zm (zq HO548.out)
            replace HL549_0:=zm (zq HL549_0.out)
            replace HL552_0:=zm (zq HL552_0.out)
            replace HO560:=zm (zC HO560.out)
            replace BK501:=zm (zj BK501.out)
            replace BK509:=zm (zj BK509.out)
            replace BK519:=zm (zj BK519.out)
            replace BK564:=zm (zj BK564.out)
            replace HB:=zm (zf HB.out)
            have p566 : 0≤(x99_3 : Int):=yt
            have q566 : x99_3 < (t538.length : Int):=yt
            obtain ⟨ad566,A566_0,c566_0,e566,hx566_0,hl566_0,hi566_0⟩:=at_L1 (Kd.S_reads' HO_18.out).2.2 x99_3 p566 q566
            obtain rfl : ad549=ad566:=(by injection e566)
            obtain ⟨ce566,hce566,hMe566,hcc566⟩:=Kd.S_get HO_18.out [] x99_3 p566 (by first|exact q566|exact yt|(have e_:=(Kd.S_reads' HO_18.out).1;omega))
            obtain ⟨ve566_0,rfl,ge566_0⟩:=hMe566
            have hv566_0:=hcc566 0 _ rfl
            rw [Nat.add_zero,show ((Kd.slice 3 (Kd.int .i64))).sz=1 from rfl,Nat.mul_one] at hv566_0
            replace hv566_0:=Option.some.inj (hv566_0.symm.trans hx566_0)
            rw [hv566_0] at ge566_0
            have HL566_0:=zm (show Kd.R (Kd.int .i64) 3 _ _ _ _ (rd_L1 t538 x99_3) from ge566_0)
            clear hv566_0 ge566_0;clear hcc566 hce566;have HR566_0:=zm hi566_0;have HC566_0:=zm hl566_0;clear hi566_0 hl566_0
            replace p566:=eq_true p566
            replace q566:=eq_true q566
            obtain ⟨ad567,e567,hx567_0,p567,q567⟩:=yai HR566_0 x102_4
            cases e567
            refine yst (fun w' => w'.cell? (ad549.add (x99_3).toNat)=some (.slice (some ad567) (rd_L1 t538 x99_3).length c566_0)∧w'.cell? (ad567.add (x102_4).toNat)=some (.int .i64 (rd (rd_L1 t538 x99_3) x102_4))) [] 15 cpack_Read.tab30 cpack_Read.bits30 (fun hHeld HT_ HW_ => ?_)
            generalize w106.drew=w107 at HO_18 HO_21 HO_510002 HO_520001 HO_520002 HO548 HL549_0 HL552_0 HO560 BK501 BK509 BK519 BK564 HB HL566_0 HR566_0 hx566_0 hx567_0 hHeld ⊢
            refine yp 0 138 HT_ ?_
            refine yp 2 140 HT_ ?_
            refine yp 3 141 HT_ ?_
            refine yp 4 142 HT_ ?_
            refine yp 6 144 HT_ ?_
            refine yp 9 147 HT_ ?_
            refine yl 5 143 HT_ HW_ hHeld ?_
            refine yp 7 145 HT_ ?_
            refine yl 8 146 HT_ HW_ hHeld ?_
            refine yw 1 139 HT_ (fun K hK => ?_)
            refine ygs Try.func32 #[.int .i64 x102_4] ?_
            with_reducible refine (band_Width.calls x102_4 t565 _ A84.out).mono ?_
            rintro e w108 ⟨rfl,hb⟩
            have HS0_:=yhs hb hHeld.1
            have HS1_:=yhs hb hHeld.2
            refine ⟨_,rfl, ?_⟩
            replace HO_18:=ySb HO_18 hb
            replace HO_21:=ySb HO_21 hb
            replace HO_510002:=yVb HO_510002 hb
            replace HO_520001:=ySb HO_520001 hb
            replace HO_520002:=yRb HO_520002 hb
            replace HO548:=yRb HO548 hb
            replace HL549_0:=yRb HL549_0 hb
            replace HL552_0:=yRb HL552_0 hb
            replace HO560:=yVb HO560 hb
            replace HL566_0:=yRb HL566_0 hb
            replace BK501:=ybb BK501 hb
            replace BK509:=ybb BK509 hb
            replace BK519:=ybb BK519 hb
            replace BK564:=ybb BK564 hb
            replace HR566_0:=yCb HR566_0 hb
            replace HB:=ybs hb
            (try clear hb)
            refine hK.out _ _ yH (fun hHeld => ?_)
            clear hK K
            refine ym (some 139) ?_
            refine yw 10 148 HT_ (fun K hK => ?_)
            refine ygs Try.func54 #[.int .i64 t565, .int .i64 (rd (rd_L1 t538 x99_3) x102_4), .int .u64 t562] ?_
            with_reducible refine (comb_Vector.calls k4 t565 (rd (rd_L1 t538 x99_3) x102_4) t562 t568 t569 _ A85.out).mono ?_
            rintro e w109 ⟨v570,rfl,ho0,hb⟩
            have HS0_:=yhs hb hHeld.1
            have HS1_:=yhs hb hHeld.2
            refine ⟨_,rfl, ?_⟩
            replace HO_18:=zm (Kd.S_elder' (yr HO_18) (Kd.R_base ho0) hb)
            replace HO_21:=zm (Kd.S_elder' (yr HO_21) (Kd.R_base ho0) hb)
            replace HO_510002:=zm (Kd.V_elder' (yr HO_510002) (Kd.R_base ho0) hb)
            replace HO_520001:=zm (Kd.S_elder' (yr HO_520001) (Kd.R_base ho0) hb)
            replace HO_520002:=zm (Kd.R_elder' (yr HO_520002) (Kd.R_base ho0) hb)
            replace HO560:=zm (Kd.V_elder' (yr HO560) (Kd.R_base ho0) hb)
            have HO571:=zm (Kd.R_lower (Kd.R_new' (Kd.R_new' (Kd.R_new' (Kd.R_new' ho0 (Kd.R_lt (yr HO548))) (Kd.R_lt (yr HL549_0))) (Kd.R_lt (yr HL552_0))) (Kd.R_lt (yr HL566_0))) (zE yhb))
            replace HO548:=zm (Kd.R_elder' (yr HO548) (Kd.R_base ho0) hb)
            replace HL549_0:=zm (Kd.R_elder' (yr HL549_0) (Kd.R_base ho0) hb)
            replace HL552_0:=zm (Kd.R_elder' (yr HL552_0) (Kd.R_base ho0) hb)
            replace HL566_0:=zm (Kd.R_elder' (yr HL566_0) (Kd.R_base ho0) hb)
            replace BK501:=ybb BK501 hb
            replace BK509:=ybb BK509 hb
            replace BK519:=ybb BK519 hb
            replace BK564:=ybb BK564 hb
            replace HR566_0:=yCb HR566_0 hb
            replace HB:=ybs hb
            (try clear hb)
            (try clear ho0)
            refine hK.out _ _ yH (fun hHeld => ?_)
            clear hK K
            refine ym (some 148) ?_
            refine yp 11 137 HT_ ?_
            refine yp 12 149 HT_ ?_
            refine yp 13 150 HT_ ?_
            refine yp 14 23 HT_ ?_
            refine done_ (done_of HT_.out (by kernel_rfl)) ?_
            obtain ⟨Ao111,co111,eo111⟩:=Kd.R_slice HO571.out
            subst eo111
            try go_wp2_with (first|((with_reducible refine gate_builtin (b:=.append) (xs := #[.tmp 151, .tmp 153]) rfl ?_);at_builtin;refine Kd.S_append (Kd.slice 3 (Kd.int .i64)) (w0:=w) w.heap.size rfl (.tmp 151) (.tmp 153) 22 49 (.slice none 0 0) 24 rfl Try.underlying22 info49 rfl (by decide) (by omega) u21 x21_4 t568 [.slice Ao111 t568.length co111] (fun k_=>some k_≠(.slice (some ad549) t538.length co90 : Value).ownBlock∧some k_≠(.slice Ao69 x520001_2.length co69 : Value).ownBlock∧some k_≠(v547 : Value).ownBlock) (fun k_=>some k_=(.slice Ao111 t568.length co111 : Value).ownBlock) rfl rfl ?aP (fun k_ hk_=>((zG (ok' := fun k_=>((fun k_=>some k_≠(.slice (some ad549) t538.length co90 : Value).ownBlock∧some k_≠(.slice Ao69 x520001_2.length co69 : Value).ownBlock∧some k_≠(v547 : Value).ownBlock)) k_∧some k_≠(u21 : Value).ownBlock) (Kd.R_apart' (Kd.R_apart' (Kd.R_apart' (HO571.out) (Kd.S_typed HO_18.out) (by decide)) (Kd.S_typed HO_520001.out) (by decide)) (Kd.S_typed HO_21.out) (by decide)) (fun k_ hk=>⟨⟨hk.1.1.2,⟨hk.1.2,hk.1.1.1.1.1.1.2⟩⟩,hk.2⟩))).1 k_ hk_.symm) ?aF ?aO ?aB ?aS ?aL ?_;(case aP=>exact Kd.M_row (zG (Kd.R_tight rfl (zG (ok' := fun k_=>((fun k_=>some k_≠(.slice (some ad549) t538.length co90 : Value).ownBlock∧some k_≠(.slice Ao69 x520001_2.length co69 : Value).ownBlock∧some k_≠(v547 : Value).ownBlock)) k_∧some k_≠(u21 : Value).ownBlock) (Kd.R_apart' (Kd.R_apart' (Kd.R_apart' (HO571.out) (Kd.S_typed HO_18.out) (by decide)) (Kd.S_typed HO_520001.out) (by decide)) (Kd.S_typed HO_21.out) (by decide)) (fun k_ hk=>⟨⟨hk.1.1.2,⟨hk.1.2,hk.1.1.1.1.1.1.2⟩⟩,hk.2⟩))) (fun _ h_=>h_)));(case aB=>exact yhb);(case aF=>exact (fun k_ hk=>⟨Kd.fresh' (Kd.S_lt (yr HO_18)) k_ hk,Kd.fresh' (Kd.S_lt (yr HO_520001)) k_ hk,Kd.fresh' (Kd.R_lt (yr HO548)) k_ hk⟩));(case aO=>exact (yS0 HO_21));(case aS=>exact (zE yhb));(case aL=>have:=LMc86.out;omega);intro v573 w110 ho hb hg hat;rw [← Ny572.out] at ho;replace HO_18:=zm (Kd.S_after (ok:=(fun k_=>some k_≠(.slice Ao69 x520001_2.length co69 : Value).ownBlock∧some k_≠(v547 : Value).ownBlock∧some k_≠(.slice Ao111 t568.length co111 : Value).ownBlock)) (yS0 HO_18) hg hat);replace HO_510002:=zm (Kd.V_afterv (ok:=(fun k_=>some k_≠(.slice (some ad549) t538.length co90 : Value).ownBlock∧some k_≠(.slice Ao69 x520001_2.length co69 : Value).ownBlock∧some k_≠(u520002 : Value).ownBlock∧some k_≠(v547 : Value).ownBlock∧some k_≠(.slice Ao111 t568.length co111 : Value).ownBlock∧k_≠gb501∧k_≠gb509∧k_≠gb519∧k_≠gb564)) (yV0 HO_510002) hg hat);replace HO_520001:=zm (Kd.S_after (ok:=(fun k_=>some k_≠(.slice (some ad549) t538.length co90 : Value).ownBlock∧some k_≠(v547 : Value).ownBlock∧some k_≠(.slice Ao111 t568.length co111 : Value).ownBlock)) (yS0 HO_520001) hg hat);replace HO_520002:=zm (Kd.R_after (ok:=(fun k_=>some k_≠(.slice (some ad549) t538.length co90 : Value).ownBlock∧some k_≠(.slice Ao69 x520001_2.length co69 : Value).ownBlock∧some k_≠(v547 : Value).ownBlock∧some k_≠(.slice Ao111 t568.length co111 : Value).ownBlock)) (yR0 HO_520002) hg hat);replace BK501:=zm (blk_grown (yk BK501) hg (Kd.S_ne HO_21.out BK501.out (by decide)));replace BK509:=zm (blk_grown (yk BK509) hg (Kd.S_ne HO_21.out BK509.out (by decide)));replace BK519:=zm (blk_grown (yk BK519) hg (Kd.S_ne HO_21.out BK519.out (by decide)));replace HO548:=zm (Kd.R_over' (yr HO548) (Kd.S_typed (yr HO_21)) (by decide) hg);replace HL549_0:=zm (Kd.R_after (ok:=(fun k_=>some k_≠(.slice (some ad549) t538.length co90 : Value).ownBlock∧some k_≠(.slice Ao69 x520001_2.length co69 : Value).ownBlock∧some k_≠(v547 : Value).ownBlock∧some k_≠(.slice Ao111 t568.length co111 : Value).ownBlock)) (yR0 HL549_0) hg hat);replace HL552_0:=zm (Kd.R_after (ok:=(fun k_=>some k_≠(.slice (some ad549) t538.length co90 : Value).ownBlock∧some k_≠(.slice Ao69 x520001_2.length co69 : Value).ownBlock∧some k_≠(v547 : Value).ownBlock∧some k_≠(.slice Ao111 t568.length co111 : Value).ownBlock)) (yR0 HL552_0) hg hat);replace HO560:=zm (Kd.V_afterv (ok:=(fun k_=>some k_≠(.slice (some ad549) t538.length co90 : Value).ownBlock∧some k_≠(.slice Ao69 x520001_2.length co69 : Value).ownBlock∧some k_≠(u520002 : Value).ownBlock∧some k_≠(v547 : Value).ownBlock∧some k_≠(.slice Ao111 t568.length co111 : Value).ownBlock∧k_≠gb501∧k_≠gb509∧k_≠gb519∧k_≠gb564)) (yV0 HO560) hg hat);replace BK564:=zm (blk_grown (yk BK564) hg (Kd.S_ne HO_21.out BK564.out (by decide)));replace HL566_0:=zm (Kd.R_after (ok:=(fun k_=>some k_≠(.slice (some ad549) t538.length co90 : Value).ownBlock∧some k_≠(.slice Ao69 x520001_2.length co69 : Value).ownBlock∧some k_≠(v547 : Value).ownBlock∧some k_≠(.slice Ao111 t568.length co111 : Value).ownBlock)) (yR0 HL566_0) hg hat);replace HB:=zm (hb);have HO574:=zm (ho);clear HO_21;clear HO571;clear ho hb hg hat))
            go_roundg k4
            case measure=>exact yom4 HJ10 HK2 HK3 HK4
            case rel=>exact ⟨(y572),(wrap64 (x102_4+1)),(t556),(t557),(t558),(t561),(.slice Ao104 t558.length co104),yq,H',⟨yom4 HJ10 HK2 HK3 HK4⟩,⟨yS0 HO_18⟩,⟨yS0 HO574⟩,⟨yV0 HO560⟩,⟨yS0 HO_520001⟩,⟨yR0 HO_520002⟩,⟨yk BK501⟩,⟨yk BK509⟩,⟨yk BK519⟩,⟨yhb⟩⟩
           ·
            rw [if_neg c80] at H
            have c80b0 : decide (0 < (rd (rd_L1 t538 x99_3) x102_4))=false:=decide_eq_false c80
            clear c80
            obtain ⟨c112,H⟩:=yif H
            have LMc112:=zm c112;clear c112
            obtain ⟨y575,hy575⟩ : ∃ y_ : List (List Int),y_=(x21_4 ++ [y546]):=⟨_,rfl⟩
            replace H : (cpack_Read.l2 k4 t538 x99_3 y575 a1 x99_3 (wrap64 (x102_4+1)) x510000_4 x510001_4 x510002_4 x510003_4 (t510 == 1) x520001_2 x520002_3)=some (r1,r2,r3,r4):=yrw hy575 H
            have Ny575:=zm hy575;clear hy575
            have H' := zm H
            clear H
            go_wp2_with (first|((with_reducible refine gate_callee (f:=32) rfl ?_);refine ygl 106 Try.func32 #[.int .i64 x102_4] ?_;(with_reducible refine (band_Width.calls x102_4 t545 _ A73.out).mono ?_);rintro e w113 ⟨rfl,hb⟩;refine ⟨_,rfl, ?_⟩;replace HO_18:=ySb HO_18 hb;replace HO_21:=ySb HO_21 hb;replace HO_510002:=yVb HO_510002 hb;replace HO_520001:=ySb HO_520001 hb;replace HO_520002:=yRb HO_520002 hb;replace BK501:=ybb BK501 hb;replace BK509:=ybb BK509 hb;replace BK519:=ybb BK519 hb;replace HB:=ybs hb;(try clear hb))|((with_reducible refine gate_dst (N:=107) rfl ?_);refine Kd.R_make (Kd.int .i64) _ 3 rfl (N:=107) rfl 49 _ _ rfl t545 rfl rfl Try.underlying49 (.int .i64 0) 8 info3 rfl (by decide) (by omega) 0 (ok:=fun _=>True) (okp:=fun _=>True) rfl (fun _ hk=>hk) trivial (yt) (Nat.le_trans (Nat.mul_le_mul_right _ (yt : t545.toNat≤35184372088832)) (by omega)) (Below.refl _ _) (Nat.le_refl _) ?_;intro v547 w114 ho115 hb hg_ hnew_;clear hg_ hnew_;(first|rw [← Ny546.out] at ho115|(simp only [Int.reduceToNat] at ho115;rw [← Ny546.out] at ho115));replace HO_18:=zm (Kd.S_elder' (yr HO_18) (Kd.R_base ho115) hb);replace HO_21:=zm (Kd.S_elder' (yr HO_21) (Kd.R_base ho115) hb);replace HO_510002:=zm (Kd.V_elder' (yr HO_510002) (Kd.R_base ho115) hb);replace HO_520001:=zm (Kd.S_elder' (yr HO_520001) (Kd.R_base ho115) hb);replace HO_520002:=zm (Kd.R_elder' (yr HO_520002) (Kd.R_base ho115) hb);have HO548:=zm (Kd.R_lower ho115 (zE yhb));replace BK501:=ybb BK501 hb;replace BK509:=ybb BK509 hb;replace BK519:=ybb BK519 hb;replace HB:=ybs hb;clear hb ho115;obtain ⟨Ao116,co116,eo116⟩:=Kd.S_slice HO_18.out;subst eo116;have p549 : 0≤(x99_3 : Int):=yt;have q549 : x99_3 < (t538.length : Int):=yt;obtain ⟨ad549,A549_0,c549_0,e549,hx549_0,hl549_0,hi549_0⟩:=at_L1 (Kd.S_reads' HO_18.out).2.2 x99_3 p549 q549;cases e549;obtain ⟨ce549,hce549,hMe549,hcc549⟩:=Kd.S_get HO_18.out [] x99_3 p549 (by first|exact q549|exact yt|(have e_:=(Kd.S_reads' HO_18.out).1;omega));obtain ⟨ve549_0,rfl,ge549_0⟩:=hMe549;have hv549_0:=hcc549 0 _ rfl;rw [Nat.add_zero,show ((Kd.slice 3 (Kd.int .i64))).sz=1 from rfl,Nat.mul_one] at hv549_0;replace hv549_0:=Option.some.inj (hv549_0.symm.trans hx549_0);rw [hv549_0] at ge549_0;have HL549_0:=zm (show Kd.R (Kd.int .i64) 3 _ _ _ _ (rd_L1 t538 x99_3) from ge549_0);clear hv549_0 ge549_0;clear hcc549 hce549;have HR549_0:=zm hi549_0;have HC549_0:=zm hl549_0;clear hi549_0 hl549_0;replace p549:=eq_true p549;replace q549:=eq_true q549;obtain ⟨ad550,e550,hx550_0,p550,q550⟩:=yai HR549_0 x102_4;cases e550;obtain ⟨Ao118,co118,eo118⟩:=Kd.R_slice HO548.out;subst eo118)|((with_reducible refine gate_builtin (b:=.append) (xs := #[.tmp 151, .tmp 153]) rfl ?_);at_builtin;refine Kd.S_append (Kd.slice 3 (Kd.int .i64)) (w0:=w) w.heap.size rfl (.tmp 151) (.tmp 153) 22 49 (.slice none 0 0) 24 rfl Try.underlying22 info49 rfl (by decide) (by omega) u21 x21_4 y546 [.slice Ao118 y546.length co118] (fun k_=>some k_≠(.slice (some ad549) t538.length co116 : Value).ownBlock∧some k_≠(.slice Ao69 x520001_2.length co69 : Value).ownBlock) (fun k_=>some k_=(.slice Ao118 y546.length co118 : Value).ownBlock) rfl rfl ?aP (fun k_ hk_=>((zG (ok' := fun k_=>((fun k_=>some k_≠(.slice (some ad549) t538.length co116 : Value).ownBlock∧some k_≠(.slice Ao69 x520001_2.length co69 : Value).ownBlock)) k_∧some k_≠(u21 : Value).ownBlock) (Kd.R_apart' (Kd.R_apart' (Kd.R_apart' (HO548.out) (Kd.S_typed HO_18.out) (by decide)) (Kd.S_typed HO_520001.out) (by decide)) (Kd.S_typed HO_21.out) (by decide)) (fun k_ hk=>⟨⟨hk.1.1.2,hk.1.2⟩,hk.2⟩))).1 k_ hk_.symm) ?aF ?aO ?aB ?aS ?aL ?_;(case aP=>exact Kd.M_row (zG (Kd.R_tight rfl (zG (ok' := fun k_=>((fun k_=>some k_≠(.slice (some ad549) t538.length co116 : Value).ownBlock∧some k_≠(.slice Ao69 x520001_2.length co69 : Value).ownBlock)) k_∧some k_≠(u21 : Value).ownBlock) (Kd.R_apart' (Kd.R_apart' (Kd.R_apart' (HO548.out) (Kd.S_typed HO_18.out) (by decide)) (Kd.S_typed HO_520001.out) (by decide)) (Kd.S_typed HO_21.out) (by decide)) (fun k_ hk=>⟨⟨hk.1.1.2,hk.1.2⟩,hk.2⟩))) (fun _ h_=>h_)));(case aB=>exact yhb);(case aF=>exact (fun k_ hk=>⟨Kd.fresh' (Kd.S_lt (yr HO_18)) k_ hk,Kd.fresh' (Kd.S_lt (yr HO_520001)) k_ hk⟩));(case aO=>exact (yS0 HO_21));(case aS=>exact (zE yhb));(case aL=>have:=LMc112.out;omega);intro v576 w117 ho hb hg hat;rw [← Ny575.out] at ho;replace HO_18:=zm (Kd.S_after (ok:=(fun k_=>some k_≠(.slice Ao69 x520001_2.length co69 : Value).ownBlock∧some k_≠(.slice Ao118 y546.length co118 : Value).ownBlock)) (yS0 HO_18) hg hat);replace HO_510002:=zm (Kd.V_afterv (ok:=(fun k_=>some k_≠(.slice (some ad549) t538.length co116 : Value).ownBlock∧some k_≠(.slice Ao69 x520001_2.length co69 : Value).ownBlock∧some k_≠(u520002 : Value).ownBlock∧some k_≠(.slice Ao118 y546.length co118 : Value).ownBlock∧k_≠gb501∧k_≠gb509∧k_≠gb519)) (yV0 HO_510002) hg hat);replace HO_520001:=zm (Kd.S_after (ok:=(fun k_=>some k_≠(.slice (some ad549) t538.length co116 : Value).ownBlock∧some k_≠(.slice Ao118 y546.length co118 : Value).ownBlock)) (yS0 HO_520001) hg hat);replace HO_520002:=zm (Kd.R_after (ok:=(fun k_=>some k_≠(.slice (some ad549) t538.length co116 : Value).ownBlock∧some k_≠(.slice Ao69 x520001_2.length co69 : Value).ownBlock∧some k_≠(.slice Ao118 y546.length co118 : Value).ownBlock)) (yR0 HO_520002) hg hat);replace BK501:=zm (blk_grown (yk BK501) hg (Kd.S_ne HO_21.out BK501.out (by decide)));replace BK509:=zm (blk_grown (yk BK509) hg (Kd.S_ne HO_21.out BK509.out (by decide)));replace BK519:=zm (blk_grown (yk BK519) hg (Kd.S_ne HO_21.out BK519.out (by decide)));replace HL549_0:=zm (Kd.R_after (ok:=(fun k_=>some k_≠(.slice (some ad549) t538.length co116 : Value).ownBlock∧some k_≠(.slice Ao69 x520001_2.length co69 : Value).ownBlock∧some k_≠(.slice Ao118 y546.length co118 : Value).ownBlock)) (yR0 HL549_0) hg hat);replace HB:=zm (hb);have HO577:=zm (ho);clear HO_21;clear HO548;clear ho hb hg hat))
            go_roundg k4
            case measure=>exact yom4 HJ10 HK2 HK3 HK4
            case rel=>exact ⟨(y575),(wrap64 (x102_4+1)),(x510000_4),(x510001_4),(x510002_4),(x510003_4),(u510002),yq,H',⟨yom4 HJ10 HK2 HK3 HK4⟩,⟨yS0 HO_18⟩,⟨yr HO577⟩,⟨yV0 HO_510002⟩,⟨yS0 HO_520001⟩,⟨yR0 HO_520002⟩,⟨yk BK501⟩,⟨yk BK509⟩,⟨yk BK519⟩,⟨yhb⟩⟩
          ·
           rw [if_neg c72] at H
           have c72b0 : decide (x102_4 < 5)=false:=decide_eq_false c72
           clear c72
           obtain ⟨c119,H⟩:=yif H
           have LMc119:=zm c119;clear c119
           obtain ⟨y542,hy542⟩ : ∃ y_ : List (List (List Int)),y_=(x520002_3 ++ [x21_4]):=⟨_,rfl⟩
           replace H : (cpack_Read.l1 k4 t538 a1 (wrap64 (x99_3+1)) x510000_4 x510001_4 x510002_4 x510003_4 (t510 == 1) x520001_2 y542)=some (r1,r2,r3,r4):=yrw hy542 H
           have Ny542:=zm hy542;clear hy542
           have H' := zm H
           clear H
           have:=NB519_501.out
           have:=NB501_519.out
           have:=NB519_509.out
           have:=NB509_519.out
           obtain ⟨_,_,_,_,_,_⟩:=yc3 BK519
           obtain ⟨Ao124,co124,eo124⟩:=Kd.S_slice HO_21.out
           subst eo124
           go_wp2_with (first|((with_reducible refine gate_builtin (b:=.append) (xs := #[.tmp 157, .tmp 159]) rfl ?_);at_builtin;refine Kd.R_append (Kd.slice 49 (Kd.slice 3 (Kd.int .i64))) (w0:=w) w.heap.size rfl (.tmp 157) (.tmp 159) 23 22 (.slice none 0 0) 24 rfl Try.underlying23 info22 rfl (by decide) (by omega) u520002 x520002_3 x21_4 [.slice Ao124 x21_4.length co124] (fun k_=>some k_≠(v540 : Value).ownBlock∧some k_≠(.slice Ao69 x520001_2.length co69 : Value).ownBlock) (fun k_=>((fun k_=>some k_≠(v540 : Value).ownBlock∧some k_≠(.slice Ao69 x520001_2.length co69 : Value).ownBlock)) k_∧some k_≠(u520002 : Value).ownBlock) rfl rfl ?aP (fun _ hk=>hk) ?aF ?aO ?aB ?aS ?aL ?_;(case aP=>exact Kd.M_row (zG (Kd.R_apart' ((Kd.S_R HO_21.out)) (Kd.R_typed HO_520002.out) (by decide)) (fun k_ hk=>⟨⟨hk.1.1,hk.1.2⟩,hk.2⟩)));(case aB=>exact yhb);(case aF=>exact (fun k_ hk=>⟨Kd.fresh' (Kd.S_lt (yr HO_18)) k_ hk,Kd.fresh' (Kd.S_lt (yr HO_520001)) k_ hk⟩));(case aO=>exact (yR0 HO_520002));(case aS=>exact (zE yhb));(case aL=>have:=LMc119.out;omega);intro v543 w123 ho hb hg hat;rw [← Ny542.out] at ho;replace HO_18:=zm (Kd.S_over' (yr HO_18) (Kd.R_typed (yr HO_520002)) (by decide) hg);replace HO_510002:=zm (Kd.V_afterv (ok:=(fun k_=>some k_≠(v540 : Value).ownBlock∧some k_≠(.slice Ao124 x21_4.length co124 : Value).ownBlock∧some k_≠(.slice Ao69 x520001_2.length co69 : Value).ownBlock∧k_≠gb501∧k_≠gb509∧k_≠gb519)) (yV0 HO_510002) hg hat);replace HO_520001:=zm (Kd.S_over' (yr HO_520001) (Kd.R_typed (yr HO_520002)) (by decide) hg);replace BK501:=zm (blk_grown (yk BK501) hg (zu HO_520002.out BK501.out (by decide)));replace BK509:=zm (blk_grown (yk BK509) hg (zu HO_520002.out BK509.out (by decide)));replace BK519:=zm (blk_grown (yk BK519) hg (zu HO_520002.out BK519.out (by decide)));replace HB:=zm (hb);have HO544:=zm (ho);clear HO_520002;clear HO_21;clear ho hb hg hat;obtain ⟨Ao125,co125,eo125⟩:=Kd.R_slice HO544.out;subst eo125;obtain ⟨_,_,_,_,_,_⟩:=yc3 BK519))
           go_roundg k4
           case measure=>exact yom4 HJ10 HK2 HK3 HK4
           case rel=>exact ⟨(wrap64 (x99_3+1)),(x510000_4),(x510001_4),(x510002_4),(x510003_4),(y542),(u510002),(.slice Ao125 y542.length co125),yq,H',⟨yom4 HJ10 HK2 HK3 HK4⟩,⟨yS1 HO_18 BK519⟩,⟨yV0 HO_510002⟩,⟨yS1 HO_520001 BK519⟩,⟨yR1 HO544 BK519⟩,⟨yk BK501⟩,⟨yk BK509⟩,⟨ykp BK519⟩,⟨yhb⟩⟩
        ·
         rw [if_neg c71] at H
         have c71b0 : decide (x99_3 < a1)=false:=decide_eq_false c71
         clear c71
         simp only [Option.some.injEq,Prod.mk.injEq] at H
         obtain ⟨rfl,rfl,rfl,rfl⟩:=H
         have:=NB519_501.out
         have:=NB501_519.out
         have:=NB519_509.out
         have:=NB509_519.out
         obtain ⟨_,_,_,_,_,_⟩:=yc3 BK519
         have:=NB501_509.out
         have:=NB509_501.out
         obtain ⟨_,_,_,_,_,_⟩:=yc3 BK501
         obtain ⟨Ao132,co132,eo132⟩:=Kd.R_slice HO_520002.out
         subst eo132
         go_wp2
         refine bodyPost_ret (results_ct rfl _ _ gb501 25 #[.bool (t510 == 1), .slice Ao69 x520001_2.length co69, .slice Ao132 x520002_3.length co132] (0,0) _ rfl (ykp BK501) Try.underlying25 rfl (by kernel_rfl)) rfl ?_
         exact ⟨_,_,ye,yS1 HO_520001 BK501,yR1 HO_520002 BK501,yhb⟩
  ·
   rw [if_neg c7] at H
   have c7b0 : ((l2.length : Int) == a0)=false:=beq_eq_false_iff_ne.mpr c7
   have c7b1 : ((l2.length : Int) != a0)=true:=bne_iff_ne.mpr c7
   simp only [Option.some.injEq,Prod.mk.injEq] at H
   obtain ⟨rfl,rfl,rfl,rfl⟩:=H
   go_enter Try.func20,Try.ntmps20
   go_wp2_with (first|((with_reducible refine gate_dst (N:=8) rfl ?_);refine ybx 8 #[.bool false, .slice none 0 0, .slice none 0 0] 25 ?_;intro gb501 hg w133 hbox hb;have BK501:=zm (hbox);have GW501:=ygw hg;have GE501:=ygw hg;replace HB:=ybs hb;clear hb hbox hg)|((with_reducible refine gate_callee (f:=48) rfl ?_);refine ygl 31 Try.func48 #[.int .i64 a0, .int .i64 a1] ?_;(with_reducible refine (alloc_Right.calls a0 a1 true _ A5.out).mono ?_);rintro e w' ⟨rfl,⟨nd,rfl⟩⟩;refine ⟨_,rfl, ?_⟩;(try (rw [drewN_self w133];generalize hq_ : World.drewN w133 _=w133;have n0_ : Aside0 (w133.heap[gb501]? = some (.cells #[.bool false, .slice none 0 0, .slice none 0 0] 25 (0,0))):=⟨by rw [← hq_];exact (yk BK501)⟩;have n1_ : Aside0 (Below w.heap.size w w133):=⟨by rw [← hq_];exact yhb⟩;clear BK501 HB hq_;have BK501:=n0_;have HB:=n1_;clear n0_ n1_));obtain ⟨_,_,_,_,_,_⟩:=yc3 BK501))
   refine bodyPost_ret (results_ct rfl _ _ gb501 25 #[.bool false, .slice none 0 0, .slice none 0 0] (0,0) _ rfl (ykp BK501) Try.underlying25 rfl (by kernel_rfl)) rfl ?_
   exact ⟨_,_,ye,yn,yn,yhb⟩
 ·
  replace c6:=Bool.eq_false_iff.mpr c6
  subst c6
  rw [ynf] at H
  simp only [Option.some.injEq,Prod.mk.injEq] at H
  obtain ⟨rfl,rfl,rfl,rfl⟩:=H
  go_enter Try.func20,Try.ntmps20
  go_wp2_with (first|((with_reducible refine gate_dst (N:=8) rfl ?_);refine ybx 8 #[.bool false, .slice none 0 0, .slice none 0 0] 25 ?_;intro gb501 hg w135 hbox hb;have BK501:=zm (hbox);have GW501:=ygw hg;have GE501:=ygw hg;replace HB:=ybs hb;clear hb hbox hg)|((with_reducible refine gate_callee (f:=48) rfl ?_);refine ygl 31 Try.func48 #[.int .i64 a0, .int .i64 a1] ?_;(with_reducible refine (alloc_Right.calls a0 a1 false _ A5.out).mono ?_);rintro e w' ⟨rfl,⟨nd,rfl⟩⟩;refine ⟨_,rfl, ?_⟩;(try (rw [drewN_self w135];generalize hq_ : World.drewN w135 _=w135;have n0_ : Aside0 (w135.heap[gb501]? = some (.cells #[.bool false, .slice none 0 0, .slice none 0 0] 25 (0,0))):=⟨by rw [← hq_];exact (yk BK501)⟩;have n1_ : Aside0 (Below w.heap.size w w135):=⟨by rw [← hq_];exact yhb⟩;clear BK501 HB hq_;have BK501:=n0_;have HB:=n1_;clear n0_ n1_));obtain ⟨_,_,_,_,_,_⟩:=yc3 BK501))
  refine bodyPost_ret (results_ct rfl _ _ gb501 25 #[.bool false, .slice none 0 0, .slice none 0 0] (0,0) _ rfl (ykp BK501) Try.underlying25 rfl (by kernel_rfl)) rfl ?_
  exact ⟨_,_,ye,yn,yn,yhb⟩
def coder_New.f  : Option (Int × Int × List Int):=some (0,4294967295,([] : List Int))
set_option maxHeartbeats 8000000 in
set_option maxRecDepth 100000 in
theorem coder_New.calls  (r1 : Int) (r2 : Int) (r3 : List Int) (w : World) (h : coder_New.f  = some (r1,r2,r3)) :
  Calls Try.prog 27 #[] w fun e w' => ∃ v2_ : Value,e=.returned (.agg #[.int .u64 r1, .int .u32 r2,v2_])∧Kd.R (Kd.int .u8) 5 w' w.heap.size (fun _=>True) v2_ r3∧Below w.heap.size w w' := by
 have hu54:=Try.underlying54;have HB:=zm (Below.refl w.heap.size w)
 have H : (some (0,4294967295,([] : List Int)))=some (r1,r2,r3):=h
 clear h
 simp only [Option.some.injEq,Prod.mk.injEq] at H
 obtain ⟨rfl,rfl,rfl⟩:=H
 go_enter Try.func27,Try.ntmps27
 go_wp2_with (first|((with_reducible refine gate_dst (N:=0) rfl ?_);refine ybx 0 #[.int .u64 0, .int .u32 0, .slice none 0 0] 54 ?_;intro gb184 hg w1 hbox hb;have BK184:=zm (hbox);have GW184:=ygw hg;have GE184:=ygw hg;replace HB:=ybs hb;clear hb hbox hg;obtain ⟨_,_,_,_,_,_⟩:=yc3 BK184))
 refine bodyPost_ret (results_cell_row rfl _ _ gb184 54 #[.int .u64 0, .int .u32 4294967295, .slice none 0 0] (0,0) _ rfl (ykp BK184) Try.underlying54 rfl (by kernel_rfl)) rfl ?_
 exact ⟨_,ye,yn,yhb⟩
def coder_RightEnc.f (a0_0 : Int) (a0_1 : Int) (l0_2 : List Int) : Option (Bool):=if a0_0≤4294967295 then (if a0_1 ≥ 16777216 then (some (decide ((l0_2.length : Int)≤4000))) else (some false)) else (some false)
set_option maxHeartbeats 8000000 in
set_option maxRecDepth 100000 in
theorem coder_RightEnc.calls (a0_0 : Int) (a0_1 : Int) (A0_2 : Option Addr) (c0_2 : Nat) (l0_2 : List Int) (r : Bool) (w : World) (hr0_2 : Kd.C (Kd.int .u8) w A0_2 l0_2.length l0_2) (hc0_2 : l0_2.length≤c0_2) (h : coder_RightEnc.f a0_0 a0_1 l0_2=some r) :
  Calls Try.prog 91 #[.agg #[.int .u64 a0_0, .int .u32 a0_1, .slice A0_2 l0_2.length c0_2]] w fun e w' => e=.returned (.bool r)∧Below w.heap.size w w' := by
 have hu54:=Try.underlying54;have HR0_2:=zm hr0_2;have HC0_2:=zm hc0_2;clear hr0_2 hc0_2;have HB:=zm (Below.refl w.heap.size w)
 have H : (if a0_0≤4294967295 then (if a0_1 ≥ 16777216 then (some (decide ((l0_2.length : Int)≤4000))) else (some false)) else (some false))=some r:=h
 clear h
 by_cases c2 : a0_0≤4294967295
 ·
  rw [if_pos c2] at H
  have c2b0 : decide (a0_0≤4294967295)=true:=decide_eq_true c2
  clear c2
  by_cases c3 : a0_1 ≥ 16777216
  ·
   rw [if_pos c3] at H
   have c3b0 : decide (16777216≤a0_1)=true:=decide_eq_true c3
   clear c3
   obtain rfl:=Option.some.inj H
   go_enter Try.func91,Try.ntmps91
   go_wp2_with (first|((with_reducible refine gate_dst (N:=1) rfl ?_);(try (refine gate_guard (by rfl) ?_;dsimp only));refine ybx 1 #[.int .u64 a0_0, .int .u32 a0_1, .slice A0_2 l0_2.length c0_2] 54 ?_;intro gb185 hg w4 hbox hb;have BK185:=zm (hbox);have GW185:=ygw hg;have GE185:=ygw hg;replace HB:=ybs hb;clear hb hbox hg;obtain ⟨_,_,_,_,_,_⟩:=yc3 BK185))
   go_ret
   exact ⟨ye,yhb⟩
  ·
   rw [if_neg c3] at H
   have c3b0 : decide (16777216≤a0_1)=false:=decide_eq_false c3
   clear c3
   obtain rfl:=Option.some.inj H
   go_enter Try.func91,Try.ntmps91
   go_wp2_with (first|((with_reducible refine gate_dst (N:=1) rfl ?_);(try (refine gate_guard (by rfl) ?_;dsimp only));refine ybx 1 #[.int .u64 a0_0, .int .u32 a0_1, .slice A0_2 l0_2.length c0_2] 54 ?_;intro gb185 hg w6 hbox hb;have BK185:=zm (hbox);have GW185:=ygw hg;have GE185:=ygw hg;replace HB:=ybs hb;clear hb hbox hg;obtain ⟨_,_,_,_,_,_⟩:=yc3 BK185))
   go_ret
   exact ⟨ye,yhb⟩
 ·
  rw [if_neg c2] at H
  have c2b0 : decide (a0_0≤4294967295)=false:=decide_eq_false c2
  clear c2
  obtain rfl:=Option.some.inj H
  go_enter Try.func91,Try.ntmps91
  go_wp2_with (first|((with_reducible refine gate_dst (N:=1) rfl ?_);(try (refine gate_guard (by rfl) ?_;dsimp only));refine ybx 1 #[.int .u64 a0_0, .int .u32 a0_1, .slice A0_2 l0_2.length c0_2] 54 ?_;intro gb185 hg w8 hbox hb;have BK185:=zm (hbox);have GW185:=ygw hg;have GE185:=ygw hg;replace HB:=ybs hb;clear hb hbox hg;obtain ⟨_,_,_,_,_,_⟩:=yc3 BK185))
  go_ret
  exact ⟨ye,yhb⟩
def coder_own.f (a0_0 : Int) (a0_1 : Int) (l0_2 : List Int) : Option (Int × Int × List Int):=(coder_RightEnc.f a0_0 a0_1 l0_2).bind fun t188=>(if t188=true then ((some (([] : List Int) : List Int)).bind fun y189=>(if y189.length+l0_2.length < 140737488355328 then (some (a0_0,a0_1,(y189 ++ l0_2))) else (none))) else ((coder_New.f).bind fun bt195=>(some (bt195.1,bt195.2.1,bt195.2.2))))
set_option maxHeartbeats 8000000 in
set_option maxRecDepth 100000 in
theorem coder_own.calls (a0_0 : Int) (a0_1 : Int) (A0_2 : Option Addr) (c0_2 : Nat) (l0_2 : List Int) (r1 : Int) (r2 : Int) (r3 : List Int) (w : World) (hr0_2 : Kd.C (Kd.int .u8) w A0_2 l0_2.length l0_2) (hc0_2 : l0_2.length≤c0_2) (h : coder_own.f a0_0 a0_1 l0_2=some (r1,r2,r3)) :
  Calls Try.prog 63 #[.agg #[.int .u64 a0_0, .int .u32 a0_1, .slice A0_2 l0_2.length c0_2]] w fun e w' => ∃ v2_ : Value,e=.returned (.agg #[.int .u64 r1, .int .u32 r2,v2_])∧Kd.R (Kd.int .u8) 5 w' w.heap.size (fun _=>True) v2_ r3∧Below w.heap.size w w' := by
 have hu54:=Try.underlying54;have HR0_2:=zm hr0_2;have HC0_2:=zm hc0_2;clear hr0_2 hc0_2;have HB:=zm (Below.refl w.heap.size w)
 have H : ((coder_RightEnc.f a0_0 a0_1 l0_2).bind fun t188=>(if t188=true then ((some (([] : List Int) : List Int)).bind fun y189=>(if y189.length+l0_2.length < 140737488355328 then (some (a0_0,a0_1,(y189 ++ l0_2))) else (none))) else ((coder_New.f).bind fun bt195=>(some (bt195.1,bt195.2.1,bt195.2.2)))))=some (r1,r2,r3):=h
 clear h
 obtain ⟨t188,A2,H⟩:=ybi H
 by_cases c3 : t188=true
 ·
  subst c3
  rw [if_pos rfl] at H
  obtain ⟨y189,hy189⟩ : ∃ y_ : List Int,y_=(([] : List Int)):=⟨_,rfl⟩
  replace H : (if y189.length+l0_2.length < 140737488355328 then (some (a0_0,a0_1,(y189 ++ l0_2))) else (none))=some (r1,r2,r3):=yrw hy189 H
  have Ny189:=zm hy189;clear hy189
  obtain ⟨c4,H⟩:=yif H
  have LMc4:=zm c4;clear c4
  obtain ⟨y192,hy192⟩ : ∃ y_ : List Int,y_=(y189 ++ l0_2):=⟨_,rfl⟩
  replace H : (some (a0_0,a0_1,y192))=some (r1,r2,r3):=yrw hy192 H
  have Ny192:=zm hy192;clear hy192
  simp only [Option.some.injEq,Prod.mk.injEq] at H
  obtain ⟨rfl,rfl,rfl⟩:=H
  go_enter Try.func63,Try.ntmps63
  go_wp2_with (first|((with_reducible refine gate_dst (N:=1) rfl ?_);refine ybx 1 #[.int .u64 a0_0, .int .u32 a0_1, .slice A0_2 l0_2.length c0_2] 54 ?_;intro gb186 hg w5 hbox hb;have BK186:=zm (hbox);have GW186:=ygw hg;have GE186:=ygw hg;replace HB:=ybs hb;clear hb hbox hg)|((with_reducible refine gate_dst (N:=2) rfl ?_);refine ybx 2 #[.int .u64 0, .int .u32 0, .slice none 0 0] 54 ?_;intro gb187 hg w6 hbox hb;have BK187:=zm (hbox);have GW187:=ygw hg;have GE187:=ygw hg;replace HB:=ybs hb;have NB186_187:=ynl BK186 hg;have NB187_186:=yng BK186 hg;replace BK186:=ybb BK186 hb;clear hb hbox hg;have:=NB186_187.out;have:=NB187_186.out;obtain ⟨_,_,_,_,_,_⟩:=yc3 BK186)|((with_reducible refine gate_callee (f:=91) rfl ?_);refine ygl 4 Try.func91 #[.agg #[.int .u64 a0_0, .int .u32 a0_1, .slice A0_2 l0_2.length c0_2]] ?_;(with_reducible refine (coder_RightEnc.calls a0_0 a0_1 _ _ l0_2 true _ ?side1 HC0_2.out A2.out).mono ?_);(case side1=>exact ycb HR0_2);rintro e w9 ⟨rfl,hb⟩;refine ⟨_,rfl, ?_⟩;replace BK186:=ybb BK186 hb;replace BK187:=ybb BK187 hb;replace HB:=ybs hb;(try clear hb))|((with_reducible refine gate_dst (N:=7) rfl ?_);refine Kd.R_lit (Kd.int .u8) _ 5 ?hg (N:=7) ?hd (xs:=([] : List Int)) (inner := []) (ok:=fun _=>True) (okp:=fun _=>True) ?hr ?hp (fun _ hk=>hk) trivial (Below.refl _ _) (Nat.le_refl _) (by simp) ?_;(case hd=>rfl);(case hg=>rfl);(case hr=>first|(go_simp;done)|(go_simp;rfl));(case hp=>exact (Reps.none _ _));intro v190 w10 ho11 hb hg_ hnew_;clear hg_ hnew_;(first|rw [← Ny189.out] at ho11|(simp only [Int.reduceToNat] at ho11;rw [← Ny189.out] at ho11));have HO191:=zm (Kd.R_lower ho11 (zE yhb));replace BK186:=ybb BK186 hb;replace BK187:=ybb BK187 hb;replace HB:=ybs hb;clear hb ho11;obtain ⟨_,_,_,_,_,_⟩:=yc3 BK186)|((with_reducible refine gate_builtin (b:=.append) (xs := #[.tmp 7, .tmp 9]) rfl ?_);at_builtin;refine Kd.R_append_rows (Kd.int .u8) (w0:=w) w.heap.size rfl (.tmp 7) (.tmp 9) 28 5 (.int .u8 0) 1 rfl Try.underlying28 info5 rfl (by decide) (by omega) v190 y189 l0_2 _ _ _ (fun _=>True) (fun _=>False) rfl rfl ?aO ?aR (fun _ _ h=>h) (fun _ h=>h.elim) ?aF ?aB ?aS ?aL ?_;(case aR=>exact ycb HR0_2);(case aB=>exact yhb);(case aF=>exact (fun _ _=>trivial));(case aO=>exact (yr HO191));(case aS=>exact (zE yhb));(case aL=>have:=LMc4.out;omega);intro v193 w13 ho hb hg hat;rw [← Ny192.out] at ho;replace BK186:=zm (blk_grown (yk BK186) hg (zu HO191.out BK186.out (by decide)));replace BK187:=zm (blk_grown (yk BK187) hg (zu HO191.out BK187.out (by decide)));replace HB:=zm (hb);have HO194:=zm (ho);clear HO191;clear ho hb hg hat;obtain ⟨Ao14,co14,eo14⟩:=Kd.R_slice HO194.out;subst eo14;obtain ⟨_,_,_,_,_,_⟩:=yc3 BK186;obtain ⟨_,_,_,_,_,_⟩:=yc3 BK187))
  refine bodyPost_ret (results_cell_row rfl _ _ gb187 54 #[.int .u64 a0_0, .int .u32 a0_1, .slice Ao14 y192.length co14] (0,0) _ rfl (ykp BK187) Try.underlying54 rfl (by kernel_rfl)) rfl ?_
  exact ⟨_,ye,yR2 HO194 BK186 BK187,yhb⟩
 ·
  replace c3:=Bool.eq_false_iff.mpr c3
  subst c3
  rw [ynf] at H
  obtain ⟨⟨t195,t196,t197⟩,A17,H⟩:=ybi H
  try dsimp only at H
  simp only [Option.some.injEq,Prod.mk.injEq] at H
  obtain ⟨rfl,rfl,rfl⟩:=H
  go_enter Try.func63,Try.ntmps63
  go_wp2_with (first|((with_reducible refine gate_dst (N:=1) rfl ?_);refine ybx 1 #[.int .u64 a0_0, .int .u32 a0_1, .slice A0_2 l0_2.length c0_2] 54 ?_;intro gb186 hg w18 hbox hb;have BK186:=zm (hbox);have GW186:=ygw hg;have GE186:=ygw hg;replace HB:=ybs hb;clear hb hbox hg)|((with_reducible refine gate_dst (N:=2) rfl ?_);refine ybx 2 #[.int .u64 0, .int .u32 0, .slice none 0 0] 54 ?_;intro gb187 hg w19 hbox hb;have BK187:=zm (hbox);have GW187:=ygw hg;have GE187:=ygw hg;replace HB:=ybs hb;have NB186_187:=ynl BK186 hg;have NB187_186:=yng BK186 hg;replace BK186:=ybb BK186 hb;clear hb hbox hg;have:=NB186_187.out;have:=NB187_186.out;obtain ⟨_,_,_,_,_,_⟩:=yc3 BK186)|((with_reducible refine gate_callee (f:=91) rfl ?_);refine ygl 4 Try.func91 #[.agg #[.int .u64 a0_0, .int .u32 a0_1, .slice A0_2 l0_2.length c0_2]] ?_;(with_reducible refine (coder_RightEnc.calls a0_0 a0_1 _ _ l0_2 false _ ?side1 HC0_2.out A2.out).mono ?_);(case side1=>exact ycb HR0_2);rintro e w22 ⟨rfl,hb⟩;refine ⟨_,rfl, ?_⟩;replace BK186:=ybb BK186 hb;replace BK187:=ybb BK187 hb;replace HB:=ybs hb;(try clear hb))|((with_reducible refine gate_callee (f:=27) rfl ?_);refine ygl 6 Try.func27 #[] ?_;(with_reducible refine (coder_New.calls  t195 t196 t197 _ A17.out).mono ?_);rintro e w23 ⟨v198,rfl,ho0,hb⟩;refine ⟨_,rfl, ?_⟩;have HO199:=zm (Kd.R_lower ho0 (zE yhb));replace BK186:=ybb BK186 hb;replace BK187:=ybb BK187 hb;replace HB:=ybs hb;(try clear hb);(try clear ho0);obtain ⟨_,_,_,_,_,_⟩:=yc3 BK187;obtain ⟨Ao25,co25,eo25⟩:=Kd.R_slice HO199.out;subst eo25))
  refine bodyPost_ret (results_cell_row rfl _ _ gb187 54 #[.int .u64 t195, .int .u32 t196, .slice Ao25 t197.length co25] (0,0) _ rfl (ykp BK187) Try.underlying54 rfl (by kernel_rfl)) rfl ?_
  exact ⟨_,ye,yR1 HO199 BK187,yhb⟩
def coder_Finish.f (a0_0 : Int) (a0_1 : Int) (l0_2 : List Int) : Option (List Int):=(coder_own.f a0_0 a0_1 l0_2).bind fun bt289=>((some (([(bt289.1 / 16777216) % 256,(bt289.1 / 65536) % 256,(bt289.1 / 256) % 256,(bt289.1) % 256] : List Int) : List Int)).bind fun y294=>(if bt289.2.2.length+y294.length < 140737488355328 then (some (bt289.2.2 ++ y294)) else (none)))
set_option maxHeartbeats 8000000 in
set_option maxRecDepth 100000 in
theorem coder_Finish.calls (a0_0 : Int) (a0_1 : Int) (A0_2 : Option Addr) (c0_2 : Nat) (l0_2 : List Int) (r : List Int) (w : World) (hr0_2 : Kd.C (Kd.int .u8) w A0_2 l0_2.length l0_2) (hc0_2 : l0_2.length≤c0_2) (h : coder_Finish.f a0_0 a0_1 l0_2=some r) :
  Calls Try.prog 35 #[.agg #[.int .u64 a0_0, .int .u32 a0_1, .slice A0_2 l0_2.length c0_2]] w fun e w' => ∃ v0_ : Value,e=.returned (v0_)∧Kd.R (Kd.int .u8) 5 w' w.heap.size (fun _=>True) v0_ r∧Below w.heap.size w w' := by
 have hu54:=Try.underlying54;have HR0_2:=zm hr0_2;have HC0_2:=zm hc0_2;clear hr0_2 hc0_2;have HB:=zm (Below.refl w.heap.size w)
 have H : ((coder_own.f a0_0 a0_1 l0_2).bind fun bt289=>((some (([(bt289.1 / 16777216) % 256,(bt289.1 / 65536) % 256,(bt289.1 / 256) % 256,(bt289.1) % 256] : List Int) : List Int)).bind fun y294=>(if bt289.2.2.length+y294.length < 140737488355328 then (some (bt289.2.2 ++ y294)) else (none))))=some r:=h
 clear h
 obtain ⟨⟨t289,t290,t291⟩,A2,H⟩:=ybi H
 try dsimp only at H
 obtain ⟨y294,hy294⟩ : ∃ y_ : List Int,y_=(([(t289 / 16777216) % 256,(t289 / 65536) % 256,(t289 / 256) % 256,(t289) % 256] : List Int)):=⟨_,rfl⟩
 replace H : (if t291.length+y294.length < 140737488355328 then (some (t291 ++ y294)) else (none))=some r:=yrw hy294 H
 have Ny294:=zm hy294;clear hy294
 obtain ⟨c3,H⟩:=yif H
 have LMc3:=zm c3;clear c3
 obtain ⟨y297,hy297⟩ : ∃ y_ : List Int,y_=(t291 ++ y294):=⟨_,rfl⟩
 replace H : (some y297)=some r:=yrw hy297 H
 have Ny297:=zm hy297;clear hy297
 obtain rfl:=Option.some.inj H
 go_enter Try.func35,Try.ntmps35
 go_wp2_with (first|((with_reducible refine gate_dst (N:=1) rfl ?_);refine ybx 1 #[.int .u64 a0_0, .int .u32 a0_1, .slice A0_2 l0_2.length c0_2] 54 ?_;intro gb288 hg w4 hbox hb;have BK288:=zm (hbox);have GW288:=ygw hg;have GE288:=ygw hg;replace HB:=ybs hb;clear hb hbox hg;obtain ⟨_,_,_,_,_,_⟩:=yc3 BK288)|((with_reducible refine gate_callee (f:=63) rfl ?_);refine ygl 4 Try.func63 #[.agg #[.int .u64 a0_0, .int .u32 a0_1, .slice A0_2 l0_2.length c0_2]] ?_;(with_reducible refine (coder_own.calls a0_0 a0_1 _ _ l0_2 t289 t290 t291 _ ?side1 HC0_2.out A2.out).mono ?_);(case side1=>exact ycb HR0_2);rintro e w6 ⟨v292,rfl,ho0,hb⟩;refine ⟨_,rfl, ?_⟩;have HO293:=zm (Kd.R_lower ho0 (zE yhb));replace BK288:=ybb BK288 hb;replace HB:=ybs hb;(try clear hb);(try clear ho0);obtain ⟨_,_,_,_,_,_⟩:=yc3 BK288;obtain ⟨Ao8,co8,eo8⟩:=Kd.R_slice HO293.out;subst eo8)|((with_reducible refine gate_dst (N:=22) rfl ?_);refine Kd.R_lit (Kd.int .u8) _ 5 ?hg (N:=22) ?hd (xs:=([(t289 / 16777216) % 256,(t289 / 65536) % 256,(t289 / 256) % 256,(t289) % 256] : List Int)) (inner := [.int .u8 ((t289 / 16777216) % 256), .int .u8 ((t289 / 65536) % 256), .int .u8 ((t289 / 256) % 256), .int .u8 ((t289) % 256)]) (ok:=fun _=>True) (okp:=fun _=>True) ?hr ?hp (fun _ hk=>hk) trivial (Below.refl _ _) (Nat.le_refl _) (by simp) ?_;(case hd=>rfl);(case hg=>rfl);(case hr=>first|(go_simp;done)|(go_simp;rfl));(case hp=>exact (Reps.one (show Kd.M (Kd.int .u8) _ _ _ ((t289 / 16777216) % 256) [.int .u8 ((t289 / 16777216) % 256)] from rfl) (Reps.one (show Kd.M (Kd.int .u8) _ _ _ ((t289 / 65536) % 256) [.int .u8 ((t289 / 65536) % 256)] from rfl) (Reps.one (show Kd.M (Kd.int .u8) _ _ _ ((t289 / 256) % 256) [.int .u8 ((t289 / 256) % 256)] from rfl) (Reps.one (show Kd.M (Kd.int .u8) _ _ _ ((t289) % 256) [.int .u8 ((t289) % 256)] from rfl) (Reps.none _ _))))));intro v295 w9 ho10 hb hg_ hnew_;clear hg_ hnew_;(first|rw [← Ny294.out] at ho10|(simp only [Int.reduceToNat] at ho10;rw [← Ny294.out] at ho10));have HO296:=zm (Kd.R_lower (Kd.R_new' ho10 (Kd.R_lt (yR1 HO293 BK288))) (zE yhb));replace HO293:=zm (Kd.R_elder' (yR1 HO293 BK288) (Kd.R_base ho10) hb);replace BK288:=zm (zF (g:=gb288) (o:=.cells #[.int .u64 t289, .int .u32 t290, .slice Ao8 t291.length co8] 54 (0,0)) (ykp BK288) hb);replace HB:=ybs hb;clear hb ho10;obtain ⟨Ao12,co12,eo12⟩:=Kd.R_slice HO296.out;subst eo12)|((with_reducible refine gate_builtin (b:=.append) (xs := #[.tmp 6, .tmp 22]) rfl ?_);at_builtin;refine Kd.R_append_rows (Kd.int .u8) (w0:=w) w.heap.size rfl (.tmp 6) (.tmp 22) 28 5 (.int .u8 0) 1 rfl Try.underlying28 info5 rfl (by decide) (by omega) (.slice Ao8 t291.length co8) t291 y294 _ _ _ (fun k_=>some k_≠(.slice Ao12 y294.length co12 : Value).ownBlock) (fun _=>False) rfl rfl ?aO ?aR (fun _ _ h=>h) (fun _ h=>h.elim) ?aF ?aB ?aS ?aL ?_;(case aR=>exact yce (Kd.R_reads' HO296.out).2.2);(case aB=>exact yhb);(case aF=>exact (fun k_ hk=>Kd.fresh' (Kd.R_lt (yr HO296)) k_ hk));(case aO=>exact (yR0 HO293));(case aS=>exact (zE yhb));(case aL=>have:=LMc3.out;omega);intro v298 w11 ho hb hg hat;rw [← Ny297.out] at ho;replace BK288:=zm (blk_grown (yk BK288) hg (zu HO293.out BK288.out (by decide)));replace HO296:=zm (Kd.R_after (ok:=(fun _=>True)) (yr HO296) hg hat);replace HB:=zm (hb);have HO299:=zm (ho);clear HO293;clear ho hb hg hat))
 go_ret
 exact ⟨_,ye,yR0 HO299,yhb⟩
def coder_carry.l0 : Nat→List Int→Int→Option (List Int)
 | 0,_,_=>none
 | k+1,x0,x2=>if x2 ≥ 0 then (if 0≤x2 then (if x2 < (x0.length : Int) then ((some (x0.set (x2 : Int).toNat (((rd x0 x2)+1) % 256) : List Int)).bind fun y201=>(if (rd y201 x2)=0 then (coder_carry.l0 k y201 (wrap64 (x2 - 1))) else (some y201))) else (none)) else (none)) else (some x0)
def coder_carry.f (k : Nat) (l0 : List Int) : Option (List Int):=coder_carry.l0 k l0 (wrap64 ((l0.length : Int) - 1))
theorem coder_carry.mono_l : ∀ k,(∀ y0 y1,LeO (coder_carry.l0 k y0 y1) (coder_carry.l0 (k+1) y0 y1))
 | 0=>fun _ _ r h=>by simp [coder_carry.l0] at h
 | k+1=>by
  have ih0:=coder_carry.mono_l k
  ·
   intro y0 y1
   unfold coder_carry.l0
   repeat' with_reducible first|apply ih0|apply yLr|apply yLn|apply yLi|apply yLb|intro _
theorem coder_carry.mono : ∀ a0 k,LeO (coder_carry.f k a0) (coder_carry.f (k+1) a0):=by
 intro a0 k
 have ih0:=coder_carry.mono_l k
 unfold coder_carry.f
 repeat' with_reducible first|apply ih0|apply yLr|apply yLn|apply yLi|apply yLb|intro _
set_option maxHeartbeats 8000000 in
set_option maxRecDepth 100000 in
theorem coder_carry.calls (k : Nat) (P0_ : Nat→Prop) (u9000_ : Value) (l0 : List Int) (r : List Int) (w0 w : World) (hB : Below w0.heap.size w0 w) (ho0 : Kd.R (Kd.int .u8) 5 w w0.heap.size P0_ u9000_ l0) (h : coder_carry.f k l0=some r) :
  Calls Try.prog 66 #[u9000_] w fun e w' => e=.returned (.tuple #[])∧Kd.R (Kd.int .u8) 5 w' w0.heap.size (fun k_=>(P0_ k_∨w.heap.size≤k_)) u9000_ r∧Below w0.heap.size w0 w'∧Kept w w' (fun k_=>P0_ k_):=by
 have HO0:=zm (show Kd.R (Kd.int .u8) 5 w w0.heap.size (fun k_=>(P0_ k_∨w.heap.size≤k_)) u9000_ l0 from zG ho0 (fun k_ hk=>(.inl hk)))
 have HK:=zm (Kept.refl w (fun k_=>P0_ k_))
 have HW0:=zm hB.size;have HB:=zm hB;clear hB
 have H : (coder_carry.l0 k l0 (wrap64 ((l0.length : Int) - 1)))=some r:=h
 clear h
 have H' := zm H
 clear H
 obtain ⟨Ao2,co2,eo2⟩:=Kd.R_slice HO0.out
 subst eo2
 go_enter Try.func66,Try.ntmps66
 go_wp2
 go_step3
 go_wp2
 go_step3
 go_wp2
 go_loopg [2] k (fun kq v2 w' => ∃ (x0_1 : List Int) (x2_1 : Int),v2=.int .i64 x2_1∧Aside0 (coder_carry.l0 kq x0_1 x2_1=some r)∧Aside0 (kq≤k)∧Aside0 (Kd.R (Kd.int .u8) 5 w' w0.heap.size (fun k_=>(P0_ k_∨w.heap.size≤k_)) (.slice Ao2 l0.length co2) x0_1)∧Aside0 (Kept w w' (fun k_=>P0_ k_))∧Aside0 (Below w0.heap.size w0 w'))
 case atStart=>exact ⟨(l0),(wrap64 ((l0.length : Int) - 1)),yq,H',⟨Nat.le_refl _⟩,⟨yr HO0⟩,⟨by repeat (first|(with_reducible first|exact HK.out|apply Kept.alloc|apply Kept.drewN|apply Kept.drew)|exact HK.out)⟩,⟨yhb⟩⟩
 case round =>
  clear H'
  obtain ⟨x0_1,x2_1,rfl,HA,HK1,HO_0,HK,HB⟩:=hrel
  have hl0_1:=(Kd.R_reads' HO_0.out).1
  rw [hl0_1] at HO_0
  (try simp only [hl0_1])
  obtain ⟨k1,rfl⟩:=ysu gk (fun h=>by subst h;exact absurd HA.out (by simp [coder_carry.l0]))
  have H:=HA.out;clear HA
  simp only [coder_carry.l0] at H
  by_cases c3 : x2_1 ≥ 0
  ·
   rw [if_pos c3] at H
   have c3b0 : decide (0≤x2_1)=true:=decide_eq_true c3
   clear c3
   obtain ⟨c4,H⟩:=yif H
   have c4b0 : decide (0≤x2_1)=true:=decide_eq_true c4
   clear c4
   obtain ⟨c5,H⟩:=yif H
   have c5b0 : decide (x2_1 < (x0_1.length : Int))=true:=decide_eq_true c5
   clear c5
   obtain ⟨y201,hy201⟩ : ∃ y_ : List Int,y_=(x0_1.set (x2_1 : Int).toNat (((rd x0_1 x2_1)+1) % 256)):=⟨_,rfl⟩
   replace H : (if (rd y201 x2_1)=0 then (coder_carry.l0 k1 y201 (wrap64 (x2_1 - 1))) else (some y201))=some r:=yrw hy201 H
   have Ny201:=zm hy201;clear hy201
   by_cases c7 : (rd y201 x2_1)=0
   ·
    rw [if_pos c7] at H
    have c7b0 : ((rd y201 x2_1) == 0)=true:=beq_iff_eq.mpr c7
    have c7b1 : ((rd y201 x2_1) != 0)=false:=bne_eq_false_iff_eq.mpr c7
    clear c7
    have H' := zm H
    clear H
    have p200 : 0≤(x2_1 : Int):=yt
    have q200 : x2_1 < (x0_1.length : Int):=yt
    obtain ⟨ad200,e200,hx200_0⟩:=Kd.at_int (Kd.R_reads' HO_0.out).2.2 x2_1 p200 q200
    cases e200
    replace p200:=eq_true p200
    replace q200:=eq_true q200
    have p6 : 0≤(x2_1 : Int):=yt
    have q6 : (x2_1 : Int) < ((x0_1.length : Int) : Int):=yt
    obtain ⟨go6,co6,eo6,gb6,gl6,cl6,HG6⟩:=Kd.R_form HO_0.out (by omega)
    (first|cases eo6|(injection eo6 with ea_ en_ ec_;(first|subst ea_|(injection ea_ with ea_;subst ea_));subst ec_;clear en_))
    have GB6:=zm gb6;have GG6:=zm HG6;clear gb6 gl6 HG6
    have HMgo6:=zm (show (P0_ go6∨w.heap.size≤go6) from (HO_0.out.1 _ rfl))
    (first|simp only [add_plain] at hx200_0|skip)
    obtain ⟨hx6_0,hf6_0⟩:=Kd.R_celln 0 HO_0.out (x2_1 : Int) p6 q6
    replace p6:=eq_true p6
    replace q6:=eq_true q6
    have HP8:=Kd.R_putg HO_0.out (x2_1 : Int) (((rd x0_1 x2_1)+1) % 256)
    go_wp2_with (first|((with_reducible refine gate_store (t:=5) (p:=15) rfl ?_);refine store_event (t:=5) (p:=15) (v := ?vo_w9) (w1:=(wr.setCell ⟨go6,(x2_1 : Int).toNat,none⟩ (.int .u8 (((rd x0_1 x2_1)+1) % 256)))) ?hg ?ho ?hn ?hr ?_;(case ho=>rfl);(case hg=>rfl);(case hn=>rfl);(case hr=>first|(go_simp;done)|(go_simp;rfl));intro w9 hw;have hg : wr.grownBy w9 (some go6):=(by rw [hw];exact HP8.2);have hp_ : Kd.R (Kd.int .u8) 5 w9 w0.heap.size (fun k_=>(P0_ k_∨w.heap.size≤k_)) (.slice (some ⟨go6,0,none⟩) x0_1.length co2) y201:=(by rw [hw,Ny201.out];exact HP8.1);clear HP8;replace HB:=zm ((by rw [hw];exact zk (HB.out) GB6.out : Below w0.heap.size w0 w9));replace HK:=zm (Kept.of_grown (S:=(fun k_=>P0_ k_)) hg (by repeat (first|(with_reducible first|exact HK.out|apply Kept.alloc|apply Kept.drewN|apply Kept.drew)|exact HK.out)) (fun k_ e_=>(HO_0.out.1 k_ e_)));replace HO_0:=zm (hp_);clear hg hw hp_;have p202 : 0≤(x2_1 : Int):=yt;have q202 : x2_1 < (y201.length : Int):=(by have h_ : (x2_1 : Int) < ((x0_1.length : Int) : Int):=yt;first|(have e_:=(Kd.R_reads' HO_0.out).1;omega)|simpa only [Ny201.out,List.length_set] using h_);have ql202 : ((x2_1 : Int) < ((x0_1.length : Int) : Int))=True:=eq_true (yt);obtain ⟨ad202,e202,hx202_0⟩:=Kd.at_int (Kd.R_reads' HO_0.out).2.2 x2_1 p202 q202;obtain rfl : (⟨go6,0,none⟩ : Addr)=ad202:=(by injection e202);(first|simp only [add_plain] at hx202_0|simp only [add_at] at hx202_0|simp only [Addr.add,Nat.zero_add] at hx202_0|skip);replace p202:=eq_true p202;replace q202:=eq_true q202))
    (try simp only [← hl0_1])
    go_roundg k1
    case measure=>exact yom1 HK1
    case rel=>exact ⟨(y201),(wrap64 (x2_1 - 1)),yq,H',⟨yom1 HK1⟩,⟨by (try simp only [hl0_1]);(with_reducible repeat (first|apply zo|apply zp|apply zq));exact HO_0.out⟩,⟨by repeat (first|(with_reducible first|exact HK.out|apply Kept.alloc|apply Kept.drewN|apply Kept.drew)|exact HK.out)⟩,⟨yhb⟩⟩
   ·
    rw [if_neg c7] at H
    have c7b0 : ((rd y201 x2_1) == 0)=false:=beq_eq_false_iff_ne.mpr c7
    have c7b1 : ((rd y201 x2_1) != 0)=true:=bne_iff_ne.mpr c7
    obtain rfl:=Option.some.inj H
    have p200 : 0≤(x2_1 : Int):=yt
    have q200 : x2_1 < (x0_1.length : Int):=yt
    obtain ⟨ad200,e200,hx200_0⟩:=Kd.at_int (Kd.R_reads' HO_0.out).2.2 x2_1 p200 q200
    cases e200
    replace p200:=eq_true p200
    replace q200:=eq_true q200
    have p6 : 0≤(x2_1 : Int):=yt
    have q6 : (x2_1 : Int) < ((x0_1.length : Int) : Int):=yt
    obtain ⟨go6,co6,eo6,gb6,gl6,cl6,HG6⟩:=Kd.R_form HO_0.out (by omega)
    (first|cases eo6|(injection eo6 with ea_ en_ ec_;(first|subst ea_|(injection ea_ with ea_;subst ea_));subst ec_;clear en_))
    have GB6:=zm gb6;have GG6:=zm HG6;clear gb6 gl6 HG6
    have HMgo6:=zm (show (P0_ go6∨w.heap.size≤go6) from (HO_0.out.1 _ rfl))
    (first|simp only [add_plain] at hx200_0|skip)
    obtain ⟨hx6_0,hf6_0⟩:=Kd.R_celln 0 HO_0.out (x2_1 : Int) p6 q6
    replace p6:=eq_true p6
    replace q6:=eq_true q6
    have HP10:=Kd.R_putg HO_0.out (x2_1 : Int) (((rd x0_1 x2_1)+1) % 256)
    go_wp2_with (first|((with_reducible refine gate_store (t:=5) (p:=15) rfl ?_);refine store_event (t:=5) (p:=15) (v := ?vo_w11) (w1:=(wr.setCell ⟨go6,(x2_1 : Int).toNat,none⟩ (.int .u8 (((rd x0_1 x2_1)+1) % 256)))) ?hg ?ho ?hn ?hr ?_;(case ho=>rfl);(case hg=>rfl);(case hn=>rfl);(case hr=>first|(go_simp;done)|(go_simp;rfl));intro w11 hw;have hg : wr.grownBy w11 (some go6):=(by rw [hw];exact HP10.2);have hp_ : Kd.R (Kd.int .u8) 5 w11 w0.heap.size (fun k_=>(P0_ k_∨w.heap.size≤k_)) (.slice (some ⟨go6,0,none⟩) x0_1.length co2) y201:=(by rw [hw,Ny201.out];exact HP10.1);clear HP10;replace HB:=zm ((by rw [hw];exact zk (HB.out) GB6.out : Below w0.heap.size w0 w11));replace HK:=zm (Kept.of_grown (S:=(fun k_=>P0_ k_)) hg (by repeat (first|(with_reducible first|exact HK.out|apply Kept.alloc|apply Kept.drewN|apply Kept.drew)|exact HK.out)) (fun k_ e_=>(HO_0.out.1 k_ e_)));replace HO_0:=zm (hp_);clear hg hw hp_;have p202 : 0≤(x2_1 : Int):=yt;have q202 : x2_1 < (y201.length : Int):=(by have h_ : (x2_1 : Int) < ((x0_1.length : Int) : Int):=yt;first|(have e_:=(Kd.R_reads' HO_0.out).1;omega)|simpa only [Ny201.out,List.length_set] using h_);have ql202 : ((x2_1 : Int) < ((x0_1.length : Int) : Int))=True:=eq_true (yt);obtain ⟨ad202,e202,hx202_0⟩:=Kd.at_int (Kd.R_reads' HO_0.out).2.2 x2_1 p202 q202;obtain rfl : (⟨go6,0,none⟩ : Addr)=ad202:=(by injection e202);(first|simp only [add_plain] at hx202_0|simp only [add_at] at hx202_0|simp only [Addr.add,Nat.zero_add] at hx202_0|skip);replace p202:=eq_true p202;replace q202:=eq_true q202))
    first|go_end0|((try simp only [Exit.inBlock,Exit.then]);refine bodyPost_ret (results_none rfl _ _ _) rfl ?_)
    exact ⟨ye,(by first|exact (yr HO_0)|(simp only [hl0_1];exact (yr HO_0))),yhb,by repeat (first|(with_reducible first|exact HK.out|apply Kept.alloc|apply Kept.drewN|apply Kept.drew)|exact HK.out)⟩
  ·
   rw [if_neg c3] at H
   have c3b0 : decide (0≤x2_1)=false:=decide_eq_false c3
   clear c3
   obtain rfl:=Option.some.inj H
   go_wp2
   first|go_end0|((try simp only [Exit.inBlock,Exit.then]);refine bodyPost_ret (results_none rfl _ _ _) rfl ?_)
   exact ⟨ye,(by first|exact (yr HO_0)|(simp only [hl0_1];exact (yr HO_0))),yhb,by repeat (first|(with_reducible first|exact HK.out|apply Kept.alloc|apply Kept.drewN|apply Kept.drew)|exact HK.out)⟩
mutual
def coder_Put.j0 : Nat→Int→Int→Int→List Int→Option (Int × Int × List Int × Int)
 | 0,_,_,_,_=>none
 | k+1,x10,x204000,x204001,x204002=>coder_Put.l0 k x10 x204000 x204001 x204002
def coder_Put.l0 : Nat→Int→Int→Int→List Int→Option (Int × Int × List Int × Int)
 | 0,_,_,_,_=>none
 | k+1,x10,x204000,x204001,x204002=>if x10 < 16777216 then (if x204002.length < 140737488355328 then (coder_Put.l0 k ((x10 * 256) % 4294967296) (Go.bits .and .u64 (IntKind.u64.wrap (x204000 * 256)) 4294967295) x204001 (x204002 ++ [(x204000 / 16777216) % 256])) else (none)) else (some (x204000,x10,x204002,0))
end
def coder_Put.f (k : Nat) (a0_0 : Int) (a0_1 : Int) (l0_2 : List Int) (a1 : Int) (a2 : Int) (a3 : Int) : Option (Int × Int × List Int × Int):=(coder_own.f a0_0 a0_1 l0_2).bind fun bt205=>((coder_fair.f a1 a2 a3).bind fun t210=>(if t210=true then (if (bt205.2.2.length : Int) ≥ 3996 then (some (bt205.1,bt205.2.1,bt205.2.2,3)) else ((coder_part.f bt205.2.1 a1 a2 a3).bind fun bt211=>(if (IntKind.u64.wrap (bt205.1+bt211.2)) > 4294967295 then ((coder_carry.f k bt205.2.2).bind fun t213=>(coder_Put.j0 k bt211.1 (Go.bits .and .u64 (IntKind.u64.wrap (bt205.1+bt211.2)) 4294967295) bt205.2.1 t213)) else (coder_Put.j0 k bt211.1 (IntKind.u64.wrap (bt205.1+bt211.2)) bt205.2.1 bt205.2.2)))) else (some (bt205.1,bt205.2.1,bt205.2.2,1))))
theorem coder_Put.mono_l : ∀ k,(∀ y0 y1 y2 y3,LeO (coder_Put.j0 k y0 y1 y2 y3) (coder_Put.j0 (k+1) y0 y1 y2 y3))∧(∀ y0 y1 y2 y3,LeO (coder_Put.l0 k y0 y1 y2 y3) (coder_Put.l0 (k+1) y0 y1 y2 y3))
 | 0=>⟨fun _ _ _ _ r h=>by simp [coder_Put.j0] at h,fun _ _ _ _ r h=>by simp [coder_Put.l0] at h⟩
 | k+1=>by
  obtain ⟨ih0,ih1⟩:=coder_Put.mono_l k
  refine ⟨?_, ?_⟩
  ·
   intro y0 y1 y2 y3
   unfold coder_Put.j0
   repeat' with_reducible first|apply ih0|apply ih1|apply coder_carry.mono|apply yLr|apply yLn|apply yLi|apply yLb|intro _
  ·
   intro y0 y1 y2 y3
   unfold coder_Put.l0
   repeat' with_reducible first|apply ih0|apply ih1|apply coder_carry.mono|apply yLr|apply yLn|apply yLi|apply yLb|intro _
theorem coder_Put.mono : ∀ a0 a1 a2 a3 a4 a5 k,LeO (coder_Put.f k a0 a1 a2 a3 a4 a5) (coder_Put.f (k+1) a0 a1 a2 a3 a4 a5):=by
 intro a0 a1 a2 a3 a4 a5 k
 obtain ⟨ih0,ih1⟩:=coder_Put.mono_l k
 unfold coder_Put.f
 repeat' with_reducible first|apply ih0|apply ih1|apply coder_carry.mono|apply yLr|apply yLn|apply yLi|apply yLb|intro _
set_option maxHeartbeats 8000000 in
set_option maxRecDepth 100000 in
theorem coder_Put.calls (k : Nat) (a0_0 : Int) (a0_1 : Int) (A0_2 : Option Addr) (c0_2 : Nat) (l0_2 : List Int) (a1 : Int) (a2 : Int) (a3 : Int) (r1 : Int) (r2 : Int) (r3 : List Int) (r4 : Int) (w : World) (hr0_2 : Kd.C (Kd.int .u8) w A0_2 l0_2.length l0_2) (hc0_2 : l0_2.length≤c0_2) (h : coder_Put.f k a0_0 a0_1 l0_2 a1 a2 a3=some (r1,r2,r3,r4)) :
  Calls Try.prog 26 #[.agg #[.int .u64 a0_0, .int .u32 a0_1, .slice A0_2 l0_2.length c0_2], .int .i64 a1, .int .i64 a2, .int .i64 a3] w fun e w' => ∃ v2_ : Value,e=.returned (.tuple #[.agg #[.int .u64 r1, .int .u32 r2,v2_], .int .i64 r4])∧Kd.R (Kd.int .u8) 5 w' w.heap.size (fun _=>True) v2_ r3∧Below w.heap.size w w' := by
 have hu54:=Try.underlying54;have HR0_2:=zm hr0_2;have HC0_2:=zm hc0_2;clear hr0_2 hc0_2;have HB:=zm (Below.refl w.heap.size w)
 have H : ((coder_own.f a0_0 a0_1 l0_2).bind fun bt205=>((coder_fair.f a1 a2 a3).bind fun t210=>(if t210=true then (if (bt205.2.2.length : Int) ≥ 3996 then (some (bt205.1,bt205.2.1,bt205.2.2,3)) else ((coder_part.f bt205.2.1 a1 a2 a3).bind fun bt211=>(if (IntKind.u64.wrap (bt205.1+bt211.2)) > 4294967295 then ((coder_carry.f k bt205.2.2).bind fun t213=>(coder_Put.j0 k bt211.1 (Go.bits .and .u64 (IntKind.u64.wrap (bt205.1+bt211.2)) 4294967295) bt205.2.1 t213)) else (coder_Put.j0 k bt211.1 (IntKind.u64.wrap (bt205.1+bt211.2)) bt205.2.1 bt205.2.2)))) else (some (bt205.1,bt205.2.1,bt205.2.2,1)))))=some (r1,r2,r3,r4):=h
 clear h
 obtain ⟨⟨t205,t206,t207⟩,A5,H⟩:=ybi H
 try dsimp only at H
 obtain ⟨t210,A6,H⟩:=ybi H
 by_cases c7 : t210=true
 ·
  subst c7
  rw [if_pos rfl] at H
  by_cases c8 : (t207.length : Int) ≥ 3996
  ·
   rw [if_pos c8] at H
   have c8b0 : decide (3996≤(t207.length : Int))=true:=decide_eq_true c8
   have c8b1 : decide (3996≤t207.length)=true:=decide_eq_true (by omega)
   clear c8
   simp only [Option.some.injEq,Prod.mk.injEq] at H
   obtain ⟨rfl,rfl,rfl,rfl⟩:=H
   go_enter Try.func26,Try.ntmps26
   go_wp2_with (first|((with_reducible refine gate_dst (N:=4) rfl ?_);refine ybx 4 #[.int .u64 a0_0, .int .u32 a0_1, .slice A0_2 l0_2.length c0_2] 54 ?_;intro gb203 hg w9 hbox hb;have BK203:=zm (hbox);have GW203:=ygw hg;have GE203:=ygw hg;replace HB:=ybs hb;clear hb hbox hg)|((with_reducible refine gate_dst (N:=8) rfl ?_);refine ybx 8 #[.int .u64 0, .int .u32 0, .slice none 0 0] 54 ?_;intro gb204 hg w10 hbox hb;have BK204:=zm (hbox);have GW204:=ygw hg;have GE204:=ygw hg;replace HB:=ybs hb;have NB203_204:=ynl BK203 hg;have NB204_203:=yng BK203 hg;replace BK203:=ybb BK203 hb;clear hb hbox hg;have:=NB203_204.out;have:=NB204_203.out;obtain ⟨hcz12_0,hcz12_1,hcz12_2,hfz12_0,hfz12_1,hfz12_2⟩:=yc3 BK203)|((with_reducible refine gate_callee (f:=63) rfl ?_);refine ygl 13 Try.func63 #[.agg #[.int .u64 a0_0, .int .u32 a0_1, .slice A0_2 l0_2.length c0_2]] ?_;(with_reducible refine (coder_own.calls a0_0 a0_1 _ _ l0_2 t205 t206 t207 _ ?side1 HC0_2.out A5.out).mono ?_);(case side1=>exact ycb HR0_2);rintro e w13 ⟨v208,rfl,ho0,hb⟩;refine ⟨_,rfl, ?_⟩;have HO209:=zm (Kd.R_lower ho0 (zE yhb));replace BK203:=ybb BK203 hb;replace BK204:=ybb BK204 hb;replace HB:=ybs hb;(try clear hb);(try clear ho0);obtain ⟨hcz14_0,hcz14_1,hcz14_2,hfz14_0,hfz14_1,hfz14_2⟩:=yc3 BK203;obtain ⟨Ao15,co15,eo15⟩:=Kd.R_slice HO209.out;subst eo15)|((with_reducible refine gate_store (t:=54) (p:=4) rfl ?_);refine store_event (t:=54) (p:=4) (v := ?vo_w16) (w1:=(((w13.setCell ⟨gb203,0,none⟩ (.int .u64 t205)).setCell ⟨gb203,1,none⟩ (.int .u32 t206)).setCell ⟨gb203,2,none⟩ (.slice Ao15 t207.length co15))) ?hg ?ho ?hn ?hr ?_;(case ho=>rfl);(case hg=>rfl);(case hn=>rfl);(case hr=>first|(go_simp;done)|(go_simp;rfl));intro w16 hw;replace HO209 : Aside0 (Kd.R (Kd.int .u8) 5 w16 w.heap.size (fun _=>True) (.slice Ao15 t207.length co15) t207):=⟨(by rw [hw];exact (yR1 HO209 BK203))⟩;replace BK203 : Aside0 (w16.heap[gb203]? = some (.cells #[.int .u64 t205, .int .u32 t206, .slice Ao15 t207.length co15] 54 (0,0))):=⟨(by rw [hw];exact (ykp BK203))⟩;replace BK204 : Aside0 (w16.heap[gb204]? = some (.cells #[.int .u64 0, .int .u32 0, .slice none 0 0] 54 (0,0))):=⟨(by rw [hw];exact (yk BK204))⟩;replace HB : Aside0 (Below w.heap.size w w16):=⟨(by rw [hw];exact yhb)⟩;clear hw)|((with_reducible refine gate_callee (f:=64) rfl ?_);refine ygl 17 Try.func64 #[.int .i64 a1, .int .i64 a2, .int .i64 a3] ?_;(with_reducible refine (coder_fair.calls a1 a2 a3 true _ A6.out).mono ?_);rintro e w' ⟨rfl,⟨nd,rfl⟩⟩;refine ⟨_,rfl, ?_⟩;(try (rw [drewN_self w16];generalize hq_ : World.drewN w16 _=w16;have n0_ : Aside0 (Kd.R (Kd.int .u8) 5 w16 w.heap.size (fun _=>True) (.slice Ao15 t207.length co15) t207):=⟨by rw [← hq_];exact (yr HO209)⟩;have n1_ : Aside0 (w16.heap[gb203]? = some (.cells #[.int .u64 t205, .int .u32 t206, .slice Ao15 t207.length co15] 54 (0,0))):=⟨by rw [← hq_];exact (yk BK203)⟩;have n2_ : Aside0 (w16.heap[gb204]? = some (.cells #[.int .u64 0, .int .u32 0, .slice none 0 0] 54 (0,0))):=⟨by rw [← hq_];exact (yk BK204)⟩;have n3_ : Aside0 (Below w.heap.size w w16):=⟨by rw [← hq_];exact yhb⟩;clear HO209 BK203 BK204 HB hq_;have HO209:=n0_;have BK203:=n1_;have BK204:=n2_;have HB:=n3_;clear n0_ n1_ n2_ n3_));obtain ⟨hcz17_0,hcz17_1,hcz17_2,hfz17_0,hfz17_1,hfz17_2⟩:=yc3 BK203;obtain ⟨hcz18_0,hcz18_1,hcz18_2,hfz18_0,hfz18_1,hfz18_2⟩:=yc3 BK204))
   refine bodyPost_ret (results_ct rfl _ _ gb204 54 #[.int .u64 t205, .int .u32 t206, .slice Ao15 t207.length co15] (0,0) _ rfl (ykp BK204) Try.underlying54 rfl (by kernel_rfl)) rfl ?_
   exact ⟨_,ye,yR1 HO209 BK204,yhb⟩
  ·
   rw [if_neg c8] at H
   have c8b0 : decide (3996≤(t207.length : Int))=false:=decide_eq_false c8
   have c8b1 : decide (3996≤t207.length)=false:=decide_eq_false (by omega)
   clear c8
   obtain ⟨⟨t211,t212⟩,A19,H⟩:=ybi H
   try dsimp only at H
   have HC20:=zm H;clear H
   go_enter Try.func26,Try.ntmps26
   go_upto_if 41 with (first|((with_reducible refine gate_dst (N:=4) rfl ?_);refine ybx 4 #[.int .u64 a0_0, .int .u32 a0_1, .slice A0_2 l0_2.length c0_2] 54 ?_;intro gb203 hg w21 hbox hb;have BK203:=zm (hbox);have GW203:=ygw hg;have GE203:=ygw hg;replace HB:=ybs hb;clear hb hbox hg)|((with_reducible refine gate_dst (N:=8) rfl ?_);refine ybx 8 #[.int .u64 0, .int .u32 0, .slice none 0 0] 54 ?_;intro gb204 hg w22 hbox hb;have BK204:=zm (hbox);have GW204:=ygw hg;have GE204:=ygw hg;replace HB:=ybs hb;have NB203_204:=ynl BK203 hg;have NB204_203:=yng BK203 hg;replace BK203:=ybb BK203 hb;clear hb hbox hg;have:=NB203_204.out;have:=NB204_203.out;obtain ⟨hcz24_0,hcz24_1,hcz24_2,hfz24_0,hfz24_1,hfz24_2⟩:=yc3 BK203)|((with_reducible refine gate_callee (f:=63) rfl ?_);refine ygl 13 Try.func63 #[.agg #[.int .u64 a0_0, .int .u32 a0_1, .slice A0_2 l0_2.length c0_2]] ?_;(with_reducible refine (coder_own.calls a0_0 a0_1 _ _ l0_2 t205 t206 t207 _ ?side1 HC0_2.out A5.out).mono ?_);(case side1=>exact ycb HR0_2);rintro e w25 ⟨v208,rfl,ho0,hb⟩;refine ⟨_,rfl, ?_⟩;have HO209:=zm (Kd.R_lower ho0 (zE yhb));replace BK203:=ybb BK203 hb;replace BK204:=ybb BK204 hb;replace HB:=ybs hb;(try clear hb);(try clear ho0);obtain ⟨hcz26_0,hcz26_1,hcz26_2,hfz26_0,hfz26_1,hfz26_2⟩:=yc3 BK203;obtain ⟨Ao27,co27,eo27⟩:=Kd.R_slice HO209.out;subst eo27)|((with_reducible refine gate_store (t:=54) (p:=4) rfl ?_);refine store_event (t:=54) (p:=4) (v := ?vo_w28) (w1:=(((w25.setCell ⟨gb203,0,none⟩ (.int .u64 t205)).setCell ⟨gb203,1,none⟩ (.int .u32 t206)).setCell ⟨gb203,2,none⟩ (.slice Ao27 t207.length co27))) ?hg ?ho ?hn ?hr ?_;(case ho=>rfl);(case hg=>rfl);(case hn=>rfl);(case hr=>first|(go_simp;done)|(go_simp;rfl));intro w28 hw;replace HO209 : Aside0 (Kd.R (Kd.int .u8) 5 w28 w.heap.size (fun _=>True) (.slice Ao27 t207.length co27) t207):=⟨(by rw [hw];exact (yR1 HO209 BK203))⟩;replace BK203 : Aside0 (w28.heap[gb203]? = some (.cells #[.int .u64 t205, .int .u32 t206, .slice Ao27 t207.length co27] 54 (0,0))):=⟨(by rw [hw];exact (ykp BK203))⟩;replace BK204 : Aside0 (w28.heap[gb204]? = some (.cells #[.int .u64 0, .int .u32 0, .slice none 0 0] 54 (0,0))):=⟨(by rw [hw];exact (yk BK204))⟩;replace HB : Aside0 (Below w.heap.size w w28):=⟨(by rw [hw];exact yhb)⟩;clear hw)|((with_reducible refine gate_callee (f:=64) rfl ?_);refine ygl 17 Try.func64 #[.int .i64 a1, .int .i64 a2, .int .i64 a3] ?_;(with_reducible refine (coder_fair.calls a1 a2 a3 true _ A6.out).mono ?_);rintro e w' ⟨rfl,⟨nd,rfl⟩⟩;refine ⟨_,rfl, ?_⟩;(try (rw [drewN_self w28];generalize hq_ : World.drewN w28 _=w28;have n0_ : Aside0 (Kd.R (Kd.int .u8) 5 w28 w.heap.size (fun _=>True) (.slice Ao27 t207.length co27) t207):=⟨by rw [← hq_];exact (yr HO209)⟩;have n1_ : Aside0 (w28.heap[gb203]? = some (.cells #[.int .u64 t205, .int .u32 t206, .slice Ao27 t207.length co27] 54 (0,0))):=⟨by rw [← hq_];exact (yk BK203)⟩;have n2_ : Aside0 (w28.heap[gb204]? = some (.cells #[.int .u64 0, .int .u32 0, .slice none 0 0] 54 (0,0))):=⟨by rw [← hq_];exact (yk BK204)⟩;have n3_ : Aside0 (Below w.heap.size w w28):=⟨by rw [← hq_];exact yhb⟩;clear HO209 BK203 BK204 HB hq_;have HO209:=n0_;have BK203:=n1_;have BK204:=n2_;have HB:=n3_;clear n0_ n1_ n2_ n3_));obtain ⟨hcz29_0,hcz29_1,hcz29_2,hfz29_0,hfz29_1,hfz29_2⟩:=yc3 BK203)|((with_reducible refine gate_callee (f:=65) rfl ?_);refine ygl 31 Try.func65 #[.int .u32 t206, .int .i64 a1, .int .i64 a2, .int .i64 a3] ?_;(with_reducible refine (coder_part.calls t206 a1 a2 a3 t211 t212 _ A19.out).mono ?_);rintro e w' ⟨rfl,⟨nd,rfl⟩⟩;refine ⟨_,rfl, ?_⟩;(try (rw [drewN_self w28];generalize hq_ : World.drewN w28 _=w28;have n0_ : Aside0 (Kd.R (Kd.int .u8) 5 w28 w.heap.size (fun _=>True) (.slice Ao27 t207.length co27) t207):=⟨by rw [← hq_];exact (yr HO209)⟩;have n1_ : Aside0 (w28.heap[gb203]? = some (.cells #[.int .u64 t205, .int .u32 t206, .slice Ao27 t207.length co27] 54 (0,0))):=⟨by rw [← hq_];exact (yk BK203)⟩;have n2_ : Aside0 (w28.heap[gb204]? = some (.cells #[.int .u64 0, .int .u32 0, .slice none 0 0] 54 (0,0))):=⟨by rw [← hq_];exact (yk BK204)⟩;have n3_ : Aside0 (Below w.heap.size w w28):=⟨by rw [← hq_];exact yhb⟩;clear HO209 BK203 BK204 HB hq_;have HO209:=n0_;have BK203:=n1_;have BK204:=n2_;have HB:=n3_;clear n0_ n1_ n2_ n3_));obtain ⟨hcz30_0,hcz30_1,hcz30_2,hfz30_0,hfz30_1,hfz30_2⟩:=yc3 BK203))
   (try simp only [Act.put,List.setIfInBounds_toArray,List.set_cons_zero,List.set_cons_succ])
   go_cut [] (fun wc => ∃ (kq : Nat) (x204000_19 : Int) (x204002_19 : List Int) (u204002 : Value),Aside0 (coder_Put.j0 kq t211 x204000_19 t206 x204002_19=some (r1,r2,r3,r4))∧Aside0 (kq≤k)∧Aside0 (Kd.R (Kd.int .u8) 5 wc w.heap.size (fun _=>True) u204002 x204002_19)∧Aside0 (wc.heap[gb203]? = some (.cells #[.int .u64 x204000_19, .int .u32 t206,u204002] 54 (0,0)))∧Aside0 (wc.heap[gb204]? = some (.cells #[.int .u64 0, .int .u32 0,(.slice none 0 0)] 54 (0,0)))∧Aside0 (Below w.heap.size w wc))
   case first =>
    have H:=HC20.out;clear HC20
    by_cases c31 : (IntKind.u64.wrap (t205+t212)) > 4294967295
    ·
     rw [if_pos c31] at H
     have c31b0 : decide (4294967295 < (IntKind.u64.wrap (t205+t212)))=true:=decide_eq_true c31
     clear c31
     (first|rw [c31b0]|(simp only [i64_w,i32_w];rw [c31b0])|skip)
     obtain ⟨t213,A32,H⟩:=ybi H
     have H' := zm H
     clear H
     have:=NB203_204.out
     have:=NB204_203.out
     obtain ⟨_,_,_,_,_,_⟩:=yc3 BK203
     go_wp2_with (first|((with_reducible refine gate_store (t:=51) (p:=45) rfl ?_);refine store_event (t:=51) (p:=45) (v := ?vo_w35) (w1:=((w28.setCell ⟨gb203,0,none⟩ (.int .u64 (IntKind.u64.wrap (t205+t212)))).setCell ⟨gb203,0,none⟩ (.int .u64 (Go.bits .and .u64 (IntKind.u64.wrap (t205+t212)) 4294967295)))) ?hg ?ho ?hn ?hr ?_;(case ho=>rfl);(case hg=>rfl);(case hn=>rfl);(case hr=>first|(go_simp;done)|(go_simp;rfl));intro w35 hw;replace HO209 : Aside0 (Kd.R (Kd.int .u8) 5 w35 w.heap.size (fun _=>True) (.slice Ao27 t207.length co27) t207):=⟨(by rw [hw];exact (yR1 HO209 BK203))⟩;replace BK203 : Aside0 (w35.heap[gb203]? = some (.cells #[.int .u64 (Go.bits .and .u64 (IntKind.u64.wrap (t205+t212)) 4294967295), .int .u32 t206, .slice Ao27 t207.length co27] 54 (0,0))):=⟨(by rw [hw];exact (ykp BK203))⟩;replace BK204 : Aside0 (w35.heap[gb204]? = some (.cells #[.int .u64 0, .int .u32 0, .slice none 0 0] 54 (0,0))):=⟨(by rw [hw];exact (yk BK204))⟩;replace HB : Aside0 (Below w.heap.size w w35):=⟨(by rw [hw];exact yhb)⟩;clear hw;obtain ⟨_,_,_,_,_,_⟩:=yc3 BK203)|((with_reducible refine gate_callee (f:=66) rfl ?_);refine ygl 48 Try.func66 #[.slice Ao27 t207.length co27] ?_;(with_reducible refine (coder_carry.calls k (fun k_=>some k_=(.slice Ao27 t207.length co27 : Value).ownBlock) (.slice Ao27 t207.length co27) t207 t213 w _ ?side1 ?side2 A32.out).mono ?_);(case side1=>exact yhb);(case side2=>exact Kd.R_tight rfl HO209.out);rintro e w37 ⟨rfl,hy0,hb,hkp⟩;refine ⟨_,rfl, ?_⟩;replace BK203:=zm (blk_kept (yk BK203) hkp (fun hs_=>(fun e_=>(zu HO209.out BK203.out (by decide)) e_) hs_));replace BK204:=zm (blk_kept (yk BK204) hkp (fun hs_=>(fun e_=>(zu HO209.out BK204.out (by decide)) e_) hs_));replace HO209:=zm (Kd.R_reok rfl hy0 (fun k_ e_=>HO209.out.1 k_ e_));replace HB:=zm (hb);(try clear hb);(try clear hkp);(try clear hy0)))
     go_meet
     case rel=>exact ⟨_,(Go.bits .and .u64 (IntKind.u64.wrap (t205+t212)) 4294967295),(t213),(.slice Ao27 t207.length co27),H',⟨yo⟩,⟨yr HO209⟩,⟨yk BK203⟩,⟨yk BK204⟩,⟨yhb⟩⟩
    ·
     rw [if_neg c31] at H
     have c31b0 : decide (4294967295 < (IntKind.u64.wrap (t205+t212)))=false:=decide_eq_false c31
     clear c31
     (first|rw [c31b0]|(simp only [i64_w,i32_w];rw [c31b0])|skip)
     have H' := zm H
     clear H
     go_wp2
     go_meet
     case rel=>exact ⟨_,(IntKind.u64.wrap (t205+t212)),(t207),(.slice Ao27 t207.length co27),H',⟨yo⟩,⟨yR1 HO209 BK203⟩,⟨ykp BK203⟩,⟨yk BK204⟩,⟨yhb⟩⟩
   case rest =>
    clear HC20
    try clear c8b0
    try clear c8b1
    try clear hcz12_0
    try clear hcz12_1
    try clear hcz12_2
    try clear hcz14_0
    try clear hcz14_1
    try clear hcz14_2
    try clear hcz17_0
    try clear hcz17_1
    try clear hcz17_2
    try clear hcz18_0
    try clear hcz18_1
    try clear hcz18_2
    try clear hcz24_0
    try clear hcz24_1
    try clear hcz24_2
    try clear hcz26_0
    try clear hcz26_1
    try clear hcz26_2
    try clear hcz29_0
    try clear hcz29_1
    try clear hcz29_2
    try clear hcz30_0
    try clear hcz30_1
    try clear hcz30_2
    try clear hfz12_0
    try clear hfz12_1
    try clear hfz12_2
    try clear hfz14_0
    try clear hfz14_1
    try clear hfz14_2
    try clear hfz17_0
    try clear hfz17_1
    try clear hfz17_2
    try clear hfz18_0
    try clear hfz18_1
    try clear hfz18_2
    try clear hfz24_0
    try clear hfz24_1
    try clear hfz24_2
    try clear hfz26_0
    try clear hfz26_1
    try clear hfz26_2
    try clear hfz29_0
    try clear hfz29_1
    try clear hfz29_2
    try clear hfz30_0
    try clear hfz30_1
    try clear hfz30_2
    obtain ⟨kq,x204000_19,x204002_19,u204002,HA,HJ19,HO_204002,BK203,BK204,HB⟩:=hcut
    obtain ⟨kj19,rfl⟩:=ysu kq (fun h=>by subst h;exact absurd HA.out (by simp [coder_Put.j0]))
    have H:=HA.out;clear HA
    simp only [coder_Put.j0] at H
    have H' := zm H
    clear H
    go_wp2
    go_loopg [10] kj19 (fun kq v10 w' => ∃ (x10_2 : Int) (x204000_2 : Int) (x204002_2 : List Int) (u204002 : Value),v10=.int .u32 x10_2∧Aside0 (coder_Put.l0 kq x10_2 x204000_2 t206 x204002_2=some (r1,r2,r3,r4))∧Aside0 (kq≤kj19)∧Aside0 (Kd.R (Kd.int .u8) 5 w' w.heap.size (fun _=>True) u204002 x204002_2)∧Aside0 (w'.heap[gb203]? = some (.cells #[.int .u64 x204000_2, .int .u32 t206,u204002] 54 (0,0)))∧Aside0 (w'.heap[gb204]? = some (.cells #[.int .u64 0, .int .u32 0,(.slice none 0 0)] 54 (0,0)))∧Aside0 (Below w.heap.size w w'))
    case atStart=>exact ⟨(t211),(x204000_19),(x204002_19),(u204002),yq,H',⟨Nat.le_refl _⟩,⟨yr HO_204002⟩,⟨yk BK203⟩,⟨yk BK204⟩,⟨yhb⟩⟩
    case round =>
     clear H'
     obtain ⟨x10_2,x204000_2,x204002_2,u204002,rfl,HA,HK2,HO_204002,BK203,BK204,HB⟩:=hrel
     obtain ⟨k2,rfl⟩:=ysu gk (fun h=>by subst h;exact absurd HA.out (by simp [coder_Put.l0]))
     have H:=HA.out;clear HA
     simp only [coder_Put.l0] at H
     by_cases c38 : x10_2 < 16777216
     ·
      rw [if_pos c38] at H
      have c38b0 : decide (x10_2 < 16777216)=true:=decide_eq_true c38
      clear c38
      obtain ⟨c39,H⟩:=yif H
      have LMc39:=zm c39;clear c39
      obtain ⟨y214,hy214⟩ : ∃ y_ : List Int,y_=(x204002_2 ++ [(x204000_2 / 16777216) % 256]):=⟨_,rfl⟩
      replace H : (coder_Put.l0 k2 ((x10_2 * 256) % 4294967296) (Go.bits .and .u64 (IntKind.u64.wrap (x204000_2 * 256)) 4294967295) t206 y214)=some (r1,r2,r3,r4):=yrw hy214 H
      have Ny214:=zm hy214;clear hy214
      have H' := zm H
      clear H
      have:=NB203_204.out
      have:=NB204_203.out
      obtain ⟨_,_,_,_,_,_⟩:=yc3 BK203
      go_wp2_with (first|((with_reducible refine gate_builtin (b:=.append) (xs := #[.tmp 52, .tmp 57]) rfl ?_);at_builtin;refine Kd.R_append (Kd.int .u8) (w0:=w) w.heap.size rfl (.tmp 52) (.tmp 57) 28 5 (.int .u8 0) 1 rfl Try.underlying28 info5 rfl (by decide) (by omega) u204002 x204002_2 ((x204000_2 / 16777216) % 256) [.int .u8 ((x204000_2 / 16777216) % 256)] (fun _=>True) (fun _=>False) rfl rfl ?aP (fun _ hk=>hk.elim) ?aF ?aO ?aB ?aS ?aL ?_;(case aP=>exact rfl);(case aB=>exact yhb);(case aF=>exact (fun _ _=>trivial));(case aO=>exact (yr HO_204002));(case aS=>exact (zE yhb));(case aL=>have:=LMc39.out;omega);intro v215 w42 ho hb hg hat;rw [← Ny214.out] at ho;replace BK203:=zm (blk_grown (yk BK203) hg (zu HO_204002.out BK203.out (by decide)));replace BK204:=zm (blk_grown (yk BK204) hg (zu HO_204002.out BK204.out (by decide)));replace HB:=zm (hb);have HO216:=zm (ho);clear HO_204002;clear ho hb hg hat;obtain ⟨Ao43,co43,eo43⟩:=Kd.R_slice HO216.out;subst eo43;obtain ⟨_,_,_,_,_,_⟩:=yc3 BK203))
      go_roundg k2
      case measure=>exact yom2 HJ19 HK2
      case rel=>exact ⟨((x10_2 * 256) % 4294967296),(Go.bits .and .u64 (IntKind.u64.wrap (x204000_2 * 256)) 4294967295),(y214),(.slice Ao43 y214.length co43),yq,H',⟨yom2 HJ19 HK2⟩,⟨yR1 HO216 BK203⟩,⟨ykp BK203⟩,⟨yk BK204⟩,⟨yhb⟩⟩
     ·
      rw [if_neg c38] at H
      have c38b0 : decide (x10_2 < 16777216)=false:=decide_eq_false c38
      clear c38
      simp only [Option.some.injEq,Prod.mk.injEq] at H
      obtain ⟨rfl,rfl,rfl,rfl⟩:=H
      have:=NB203_204.out
      have:=NB204_203.out
      obtain ⟨_,_,_,_,_,_⟩:=yc3 BK203
      obtain ⟨_,_,_,_,_,_⟩:=yc3 BK204
      obtain ⟨Ao48,co48,eo48⟩:=Kd.R_slice HO_204002.out
      subst eo48
      go_wp2
      refine bodyPost_ret (results_ct rfl _ _ gb204 54 #[.int .u64 x204000_2, .int .u32 x10_2, .slice Ao48 x204002_2.length co48] (0,0) _ rfl (ykp BK204) Try.underlying54 rfl (by kernel_rfl)) rfl ?_
      exact ⟨_,ye,yR2 HO_204002 BK203 BK204,yhb⟩
 ·
  replace c7:=Bool.eq_false_iff.mpr c7
  subst c7
  rw [ynf] at H
  simp only [Option.some.injEq,Prod.mk.injEq] at H
  obtain ⟨rfl,rfl,rfl,rfl⟩:=H
  go_enter Try.func26,Try.ntmps26
  go_wp2_with (first|((with_reducible refine gate_dst (N:=4) rfl ?_);refine ybx 4 #[.int .u64 a0_0, .int .u32 a0_1, .slice A0_2 l0_2.length c0_2] 54 ?_;intro gb203 hg w49 hbox hb;have BK203:=zm (hbox);have GW203:=ygw hg;have GE203:=ygw hg;replace HB:=ybs hb;clear hb hbox hg)|((with_reducible refine gate_dst (N:=8) rfl ?_);refine ybx 8 #[.int .u64 0, .int .u32 0, .slice none 0 0] 54 ?_;intro gb204 hg w50 hbox hb;have BK204:=zm (hbox);have GW204:=ygw hg;have GE204:=ygw hg;replace HB:=ybs hb;have NB203_204:=ynl BK203 hg;have NB204_203:=yng BK203 hg;replace BK203:=ybb BK203 hb;clear hb hbox hg;have:=NB203_204.out;have:=NB204_203.out;obtain ⟨_,_,_,_,_,_⟩:=yc3 BK203)|((with_reducible refine gate_callee (f:=63) rfl ?_);refine ygl 13 Try.func63 #[.agg #[.int .u64 a0_0, .int .u32 a0_1, .slice A0_2 l0_2.length c0_2]] ?_;(with_reducible refine (coder_own.calls a0_0 a0_1 _ _ l0_2 t205 t206 t207 _ ?side1 HC0_2.out A5.out).mono ?_);(case side1=>exact ycb HR0_2);rintro e w53 ⟨v208,rfl,ho0,hb⟩;refine ⟨_,rfl, ?_⟩;have HO209:=zm (Kd.R_lower ho0 (zE yhb));replace BK203:=ybb BK203 hb;replace BK204:=ybb BK204 hb;replace HB:=ybs hb;(try clear hb);(try clear ho0);obtain ⟨_,_,_,_,_,_⟩:=yc3 BK203;obtain ⟨Ao55,co55,eo55⟩:=Kd.R_slice HO209.out;subst eo55)|((with_reducible refine gate_store (t:=54) (p:=4) rfl ?_);refine store_event (t:=54) (p:=4) (v := ?vo_w56) (w1:=(((w53.setCell ⟨gb203,0,none⟩ (.int .u64 t205)).setCell ⟨gb203,1,none⟩ (.int .u32 t206)).setCell ⟨gb203,2,none⟩ (.slice Ao55 t207.length co55))) ?hg ?ho ?hn ?hr ?_;(case ho=>rfl);(case hg=>rfl);(case hn=>rfl);(case hr=>first|(go_simp;done)|(go_simp;rfl));intro w56 hw;replace HO209 : Aside0 (Kd.R (Kd.int .u8) 5 w56 w.heap.size (fun _=>True) (.slice Ao55 t207.length co55) t207):=⟨(by rw [hw];exact (yR1 HO209 BK203))⟩;replace BK203 : Aside0 (w56.heap[gb203]? = some (.cells #[.int .u64 t205, .int .u32 t206, .slice Ao55 t207.length co55] 54 (0,0))):=⟨(by rw [hw];exact (ykp BK203))⟩;replace BK204 : Aside0 (w56.heap[gb204]? = some (.cells #[.int .u64 0, .int .u32 0, .slice none 0 0] 54 (0,0))):=⟨(by rw [hw];exact (yk BK204))⟩;replace HB : Aside0 (Below w.heap.size w w56):=⟨(by rw [hw];exact yhb)⟩;clear hw)|((with_reducible refine gate_callee (f:=64) rfl ?_);refine ygl 17 Try.func64 #[.int .i64 a1, .int .i64 a2, .int .i64 a3] ?_;(with_reducible refine (coder_fair.calls a1 a2 a3 false _ A6.out).mono ?_);rintro e w' ⟨rfl,⟨nd,rfl⟩⟩;refine ⟨_,rfl, ?_⟩;(try (rw [drewN_self w56];generalize hq_ : World.drewN w56 _=w56;have n0_ : Aside0 (Kd.R (Kd.int .u8) 5 w56 w.heap.size (fun _=>True) (.slice Ao55 t207.length co55) t207):=⟨by rw [← hq_];exact (yr HO209)⟩;have n1_ : Aside0 (w56.heap[gb203]? = some (.cells #[.int .u64 t205, .int .u32 t206, .slice Ao55 t207.length co55] 54 (0,0))):=⟨by rw [← hq_];exact (yk BK203)⟩;have n2_ : Aside0 (w56.heap[gb204]? = some (.cells #[.int .u64 0, .int .u32 0, .slice none 0 0] 54 (0,0))):=⟨by rw [← hq_];exact (yk BK204)⟩;have n3_ : Aside0 (Below w.heap.size w w56):=⟨by rw [← hq_];exact yhb⟩;clear HO209 BK203 BK204 HB hq_;have HO209:=n0_;have BK203:=n1_;have BK204:=n2_;have HB:=n3_;clear n0_ n1_ n2_ n3_));obtain ⟨_,_,_,_,_,_⟩:=yc3 BK203;obtain ⟨_,_,_,_,_,_⟩:=yc3 BK204))
  refine bodyPost_ret (results_ct rfl _ _ gb204 54 #[.int .u64 t205, .int .u32 t206, .slice Ao55 t207.length co55] (0,0) _ rfl (ykp BK204) Try.underlying54 rfl (by kernel_rfl)) rfl ?_
  exact ⟨_,ye,yR1 HO209 BK204,yhb⟩
mutual
def coder_PutNum.j0 : Nat→Int→Int→Bool→Int→Int→List Int→Option (Int × Int × List Int × Int)
 | 0,_,_,_,_,_,_=>none
 | k+1,x1,x2,x26,x218000,x218001,x218002=>if x26=true then (some (x218000,x218001,x218002,1)) else ((coder_halves.f x2).bind fun bt224=>(if bt224.2=0 then (none) else ((coder_Put.f k x218000 x218001 x218002 (wrap64 (Int.tdiv (wrap64 (x1)) bt224.2)) (wrap64 ((wrap64 (Int.tdiv (wrap64 (x1)) bt224.2))+1)) bt224.1).bind fun bt226=>(if bt226.2.2.2=0 then (coder_PutNum.j1 k bt224.2 (Int.tmod (wrap64 (x1)) bt224.2) bt226.2.2.2 (decide (bt224.2 > 1)) x218000 x218001 x218002 bt226.1 bt226.2.1 bt226.2.2.1) else (coder_PutNum.j1 k bt224.2 (Int.tmod (wrap64 (x1)) bt224.2) bt226.2.2.2 false x218000 x218001 x218002 bt226.1 bt226.2.1 bt226.2.2.1)))))
def coder_PutNum.j1 : Nat→Int→Int→Int→Bool→Int→Int→List Int→Int→Int→List Int→Option (Int × Int × List Int × Int)
 | 0,_,_,_,_,_,_,_,_,_,_=>none
 | k+1,x9,x11,x13,x55,x218000,x218001,x218002,x233000,x233001,x233002=>if x55=true then ((coder_Put.f k x233000 x233001 x233002 x11 (wrap64 (x11+1)) x9).bind fun bt233=>(if bt233.2.2.2=0 then (some (bt233.1,bt233.2.1,bt233.2.2.1,0)) else (some (x218000,x218001,x218002,bt233.2.2.2)))) else (if x13=0 then (some (x233000,x233001,x233002,0)) else (some (x218000,x218001,x218002,x13)))
end
def coder_PutNum.f (k : Nat) (a0_0 : Int) (a0_1 : Int) (l0_2 : List Int) (a1 : Int) (a2 : Int) : Option (Int × Int × List Int × Int):=(coder_own.f a0_0 a0_1 l0_2).bind fun bt219=>(if a2 < 1 then (coder_PutNum.j0 k a1 a2 true bt219.1 bt219.2.1 bt219.2.2) else (if a2 > 4294967296 then (coder_PutNum.j0 k a1 a2 true bt219.1 bt219.2.1 bt219.2.2) else (coder_PutNum.j0 k a1 a2 (decide (a1 ≥ a2)) bt219.1 bt219.2.1 bt219.2.2)))
theorem coder_PutNum.mono_l : ∀ k,(∀ y0 y1 y2 y3 y4 y5,LeO (coder_PutNum.j0 k y0 y1 y2 y3 y4 y5) (coder_PutNum.j0 (k+1) y0 y1 y2 y3 y4 y5))∧(∀ y0 y1 y2 y3 y4 y5 y6 y7 y8 y9,LeO (coder_PutNum.j1 k y0 y1 y2 y3 y4 y5 y6 y7 y8 y9) (coder_PutNum.j1 (k+1) y0 y1 y2 y3 y4 y5 y6 y7 y8 y9))
 | 0=>⟨fun _ _ _ _ _ _ r h=>by simp [coder_PutNum.j0] at h,fun _ _ _ _ _ _ _ _ _ _ r h=>by simp [coder_PutNum.j1] at h⟩
 | k+1=>by
  obtain ⟨ih0,ih1⟩:=coder_PutNum.mono_l k
  refine ⟨?_, ?_⟩
  ·
   intro y0 y1 y2 y3 y4 y5
   unfold coder_PutNum.j0
   repeat' with_reducible first|apply ih0|apply ih1|apply coder_Put.mono|apply yLr|apply yLn|apply yLi|apply yLb|intro _
  ·
   intro y0 y1 y2 y3 y4 y5 y6 y7 y8 y9
   unfold coder_PutNum.j1
   repeat' with_reducible first|apply ih0|apply ih1|apply coder_Put.mono|apply yLr|apply yLn|apply yLi|apply yLb|intro _
theorem coder_PutNum.mono : ∀ a0 a1 a2 a3 a4 k,LeO (coder_PutNum.f k a0 a1 a2 a3 a4) (coder_PutNum.f (k+1) a0 a1 a2 a3 a4):=by
 intro a0 a1 a2 a3 a4 k
 obtain ⟨ih0,ih1⟩:=coder_PutNum.mono_l k
 unfold coder_PutNum.f
 repeat' with_reducible first|apply ih0|apply ih1|apply coder_Put.mono|apply yLr|apply yLn|apply yLi|apply yLb|intro _
set_option maxHeartbeats 8000000 in
set_option maxRecDepth 100000 in
theorem coder_PutNum.calls (k : Nat) (a0_0 : Int) (a0_1 : Int) (A0_2 : Option Addr) (c0_2 : Nat) (l0_2 : List Int) (a1 : Int) (a2 : Int) (r1 : Int) (r2 : Int) (r3 : List Int) (r4 : Int) (w : World) (hr0_2 : Kd.C (Kd.int .u8) w A0_2 l0_2.length l0_2) (hc0_2 : l0_2.length≤c0_2) (h : coder_PutNum.f k a0_0 a0_1 l0_2 a1 a2=some (r1,r2,r3,r4)) :
  Calls Try.prog 34 #[.agg #[.int .u64 a0_0, .int .u32 a0_1, .slice A0_2 l0_2.length c0_2], .int .u64 a1, .int .u64 a2] w fun e w' => ∃ v2_ : Value,e=.returned (.tuple #[.agg #[.int .u64 r1, .int .u32 r2,v2_], .int .i64 r4])∧Kd.R (Kd.int .u8) 5 w' w.heap.size (fun _=>True) v2_ r3∧Below w.heap.size w w' := by
 have hu54:=Try.underlying54;have HR0_2:=zm hr0_2;have HC0_2:=zm hc0_2;clear hr0_2 hc0_2;have HB:=zm (Below.refl w.heap.size w)
 have H : ((coder_own.f a0_0 a0_1 l0_2).bind fun bt219=>(if a2 < 1 then (coder_PutNum.j0 k a1 a2 true bt219.1 bt219.2.1 bt219.2.2) else (if a2 > 4294967296 then (coder_PutNum.j0 k a1 a2 true bt219.1 bt219.2.1 bt219.2.2) else (coder_PutNum.j0 k a1 a2 (decide (a1 ≥ a2)) bt219.1 bt219.2.1 bt219.2.2))))=some (r1,r2,r3,r4):=h
 clear h
 obtain ⟨⟨t219,t220,t221⟩,A4,H⟩:=ybi H
 try dsimp only at H
 have HC5:=zm H;clear H
 go_enter Try.func34,Try.ntmps34
 go_upto_region 2 with (first|((with_reducible refine gate_dst (N:=3) rfl ?_);refine ybx 3 #[.int .u64 a0_0, .int .u32 a0_1, .slice A0_2 l0_2.length c0_2] 54 ?_;intro gb217 hg w6 hbox hb;have BK217:=zm (hbox);have GW217:=ygw hg;have GE217:=ygw hg;replace HB:=ybs hb;clear hb hbox hg)|((with_reducible refine gate_dst (N:=6) rfl ?_);refine ybx 6 #[.int .u64 0, .int .u32 0, .slice none 0 0] 54 ?_;intro gb218 hg w7 hbox hb;have BK218:=zm (hbox);have GW218:=ygw hg;have GE218:=ygw hg;replace HB:=ybs hb;have NB217_218:=ynl BK217 hg;have NB218_217:=yng BK217 hg;replace BK217:=ybb BK217 hb;clear hb hbox hg;have:=NB217_218.out;have:=NB218_217.out;obtain ⟨hcz9_0,hcz9_1,hcz9_2,hfz9_0,hfz9_1,hfz9_2⟩:=yc3 BK217)|(go_at_call 63;(with_reducible refine (coder_own.calls a0_0 a0_1 _ _ l0_2 t219 t220 t221 _ ?side1 HC0_2.out A4.out).mono ?_);(case side1=>exact ycb HR0_2);rintro e w10 ⟨v222,rfl,ho0,hb⟩;have HO223:=zm (Kd.R_lower ho0 (zE yhb));replace BK217:=ybb BK217 hb;replace BK218:=ybb BK218 hb;replace HB:=ybs hb;(try clear hb);(try clear ho0);obtain ⟨hcz11_0,hcz11_1,hcz11_2,hfz11_0,hfz11_1,hfz11_2⟩:=yc3 BK217;obtain ⟨Ao12,co12,eo12⟩:=Kd.R_slice HO223.out;subst eo12))
 repeat (go_quiet (first|((with_reducible refine gate_dst (N:=3) rfl ?_);refine ybx 3 #[.int .u64 a0_0, .int .u32 a0_1, .slice A0_2 l0_2.length c0_2] 54 ?_;intro gb217 hg w6 hbox hb;have BK217:=zm (hbox);have GW217:=ygw hg;have GE217:=ygw hg;replace HB:=ybs hb;clear hb hbox hg)|((with_reducible refine gate_dst (N:=6) rfl ?_);refine ybx 6 #[.int .u64 0, .int .u32 0, .slice none 0 0] 54 ?_;intro gb218 hg w7 hbox hb;have BK218:=zm (hbox);have GW218:=ygw hg;have GE218:=ygw hg;replace HB:=ybs hb;have NB217_218:=ynl BK217 hg;have NB218_217:=yng BK217 hg;replace BK217:=ybb BK217 hb;clear hb hbox hg;have:=NB217_218.out;have:=NB218_217.out;obtain ⟨hcz9_0,hcz9_1,hcz9_2,hfz9_0,hfz9_1,hfz9_2⟩:=yc3 BK217)|(go_at_call 63;(with_reducible refine (coder_own.calls a0_0 a0_1 _ _ l0_2 t219 t220 t221 _ ?side1 HC0_2.out A4.out).mono ?_);(case side1=>exact ycb HR0_2);rintro e w10 ⟨v222,rfl,ho0,hb⟩;have HO223:=zm (Kd.R_lower ho0 (zE yhb));replace BK217:=ybb BK217 hb;replace BK218:=ybb BK218 hb;replace HB:=ybs hb;(try clear hb);(try clear ho0);obtain ⟨hcz11_0,hcz11_1,hcz11_2,hfz11_0,hfz11_1,hfz11_2⟩:=yc3 BK217;obtain ⟨Ao12,co12,eo12⟩:=Kd.R_slice HO223.out;subst eo12));go_upto_region 2 with (first|((with_reducible refine gate_dst (N:=3) rfl ?_);refine ybx 3 #[.int .u64 a0_0, .int .u32 a0_1, .slice A0_2 l0_2.length c0_2] 54 ?_;intro gb217 hg w6 hbox hb;have BK217:=zm (hbox);have GW217:=ygw hg;have GE217:=ygw hg;replace HB:=ybs hb;clear hb hbox hg)|((with_reducible refine gate_dst (N:=6) rfl ?_);refine ybx 6 #[.int .u64 0, .int .u32 0, .slice none 0 0] 54 ?_;intro gb218 hg w7 hbox hb;have BK218:=zm (hbox);have GW218:=ygw hg;have GE218:=ygw hg;replace HB:=ybs hb;have NB217_218:=ynl BK217 hg;have NB218_217:=yng BK217 hg;replace BK217:=ybb BK217 hb;clear hb hbox hg;have:=NB217_218.out;have:=NB218_217.out;obtain ⟨hcz9_0,hcz9_1,hcz9_2,hfz9_0,hfz9_1,hfz9_2⟩:=yc3 BK217)|(go_at_call 63;(with_reducible refine (coder_own.calls a0_0 a0_1 _ _ l0_2 t219 t220 t221 _ ?side1 HC0_2.out A4.out).mono ?_);(case side1=>exact ycb HR0_2);rintro e w10 ⟨v222,rfl,ho0,hb⟩;have HO223:=zm (Kd.R_lower ho0 (zE yhb));replace BK217:=ybb BK217 hb;replace BK218:=ybb BK218 hb;replace HB:=ybs hb;(try clear hb);(try clear ho0);obtain ⟨hcz11_0,hcz11_1,hcz11_2,hfz11_0,hfz11_1,hfz11_2⟩:=yc3 BK217;obtain ⟨Ao12,co12,eo12⟩:=Kd.R_slice HO223.out;subst eo12)))
 (try simp only [Act.put,List.setIfInBounds_toArray,List.set_cons_zero,List.set_cons_succ])
 go_cut [26] (fun v26 wc => ∃ (kq : Nat) (x26_4 : Bool),v26=.bool x26_4∧Aside0 (coder_PutNum.j0 kq a1 a2 x26_4 t219 t220 t221=some (r1,r2,r3,r4))∧Aside0 (kq≤k)∧Aside0 (Kd.R (Kd.int .u8) 5 wc w.heap.size (fun _=>True) (.slice Ao12 t221.length co12) t221)∧Aside0 (wc.heap[gb217]? = some (.cells #[.int .u64 t219, .int .u32 t220,(.slice Ao12 t221.length co12)] 54 (0,0)))∧Aside0 (wc.heap[gb218]? = some (.cells #[.int .u64 0, .int .u32 0,(.slice none 0 0)] 54 (0,0)))∧Aside0 (Below w.heap.size w wc))
 case first =>
  have H:=HC5.out;clear HC5
  by_cases c13 : a2 < 1
  ·
   rw [if_pos c13] at H
   have c13b0 : decide (a2 < 1)=true:=decide_eq_true c13
   clear c13
   (first|rw [c13b0]|(simp only [i64_w,i32_w];rw [c13b0])|skip)
   have H' := zm H
   clear H
   go_wp2
   repeat (go_quiet (fail);try go_wp2)
   go_meet
   case rel=>exact ⟨_,(true),yq,H',⟨yo⟩,⟨yR1 HO223 BK217⟩,⟨ykp BK217⟩,⟨yk BK218⟩,⟨yhb⟩⟩
  ·
   rw [if_neg c13] at H
   have c13b0 : decide (a2 < 1)=false:=decide_eq_false c13
   clear c13
   (first|rw [c13b0]|(simp only [i64_w,i32_w];rw [c13b0])|skip)
   by_cases c14 : a2 > 4294967296
   ·
    rw [if_pos c14] at H
    have c14b0 : decide (4294967296 < a2)=true:=decide_eq_true c14
    clear c14
    have H' := zm H
    clear H
    go_wp2
    repeat (go_quiet (fail);try go_wp2)
    go_meet
    case rel=>exact ⟨_,(true),yq,H',⟨yo⟩,⟨yR1 HO223 BK217⟩,⟨ykp BK217⟩,⟨yk BK218⟩,⟨yhb⟩⟩
   ·
    rw [if_neg c14] at H
    have c14b0 : decide (4294967296 < a2)=false:=decide_eq_false c14
    clear c14
    have H' := zm H
    clear H
    go_wp2
    repeat (go_quiet (fail);try go_wp2)
    go_meet
    case rel=>exact ⟨_,(decide (a1 ≥ a2)),yq,H',⟨yo⟩,⟨yR1 HO223 BK217⟩,⟨ykp BK217⟩,⟨yk BK218⟩,⟨yhb⟩⟩
 case rest =>
  clear HC5
  try clear hcz11_0
  try clear hcz11_1
  try clear hcz11_2
  try clear hcz9_0
  try clear hcz9_1
  try clear hcz9_2
  try clear hfz11_0
  try clear hfz11_1
  try clear hfz11_2
  try clear hfz9_0
  try clear hfz9_1
  try clear hfz9_2
  obtain ⟨kq,x26_4,rfl,HA,HJ4,HO_218002,BK217,BK218,HB⟩:=hcut
  obtain ⟨kj4,rfl⟩:=ysu kq (fun h=>by subst h;exact absurd HA.out (by simp [coder_PutNum.j0]))
  have H:=HA.out;clear HA
  simp only [coder_PutNum.j0] at H
  by_cases c15 : x26_4=true
  ·
   subst c15
   rw [if_pos rfl] at H
   simp only [Option.some.injEq,Prod.mk.injEq] at H
   obtain ⟨rfl,rfl,rfl,rfl⟩:=H
   have:=NB217_218.out
   have:=NB218_217.out
   obtain ⟨hcz17_0,hcz17_1,hcz17_2,hfz17_0,hfz17_1,hfz17_2⟩:=yc3 BK217
   obtain ⟨hcz18_0,hcz18_1,hcz18_2,hfz18_0,hfz18_1,hfz18_2⟩:=yc3 BK218
   go_wp2
   repeat (go_quiet (fail);try go_wp2)
   refine bodyPost_ret (results_ct rfl _ _ gb218 54 #[.int .u64 t219, .int .u32 t220, .slice Ao12 t221.length co12] (0,0) _ rfl (ykp BK218) Try.underlying54 rfl (by kernel_rfl)) rfl ?_
   exact ⟨_,ye,yR1 HO_218002 BK218,yhb⟩
  ·
   replace c15:=Bool.eq_false_iff.mpr c15
   subst c15
   rw [ynf] at H
   obtain ⟨⟨t224,t225⟩,A19,H⟩:=ybi H
   try dsimp only at H
   obtain ⟨c20,H⟩:=yie H
   have c20b0 : (t225 == 0)=false:=beq_eq_false_iff_ne.mpr c20
   have c20b1 : (t225 != 0)=true:=bne_iff_ne.mpr c20
   obtain ⟨⟨t226,t227,t228,t231⟩,A21,H⟩:=ybi H
   try dsimp only at H
   have HC22:=zm H;clear H
   go_upto_region 7 with (first|(go_at_call 76;(with_reducible refine (coder_halves.calls a2 t224 t225 _ A19.out).mono ?_);rintro e w' ⟨rfl,⟨nd,rfl⟩⟩;(try exact yww);have:=NB217_218.out;have:=NB218_217.out;obtain ⟨hcz24_0,hcz24_1,hcz24_2,hfz24_0,hfz24_1,hfz24_2⟩:=yc3 BK217)|(go_at_call 26;(with_reducible refine (coder_Put.calls kj4 t219 t220 _ _ t221 (wrap64 (Int.tdiv (wrap64 (a1)) t225)) (wrap64 ((wrap64 (Int.tdiv (wrap64 (a1)) t225))+1)) t224 t226 t227 t228 t231 _ ?side1 ?side2 A21.out).mono ?_);(case side1=>exact yce (Kd.R_reads' HO_218002.out).2.2);(case side2=>exact (Kd.R_reads' HO_218002.out).2.1);rintro e w25 ⟨v229,rfl,ho0,hb⟩;have HO230:=zm (Kd.R_lower (Kd.R_new' ho0 (Kd.R_lt (yr HO_218002))) (zE yhb));replace HO_218002:=zm (Kd.R_elder' (yr HO_218002) (Kd.R_base ho0) hb);replace BK217:=ybb BK217 hb;replace BK218:=ybb BK218 hb;replace HB:=ybs hb;(try clear hb);(try clear ho0))|((with_reducible refine gate_dst (N:=12) rfl ?_);refine ybx 12 #[.int .u64 0, .int .u32 0, .slice none 0 0] 54 ?_;intro gb232 hg w26 hbox hb;replace HO_218002:=yRb HO_218002 hb;replace HO230:=yRb HO230 hb;have BK232:=zm (hbox);have GW232:=ygw hg;have GE232:=ygw hg;replace HB:=ybs hb;have NB217_232:=ynl BK217 hg;have NB232_217:=yng BK217 hg;replace BK217:=ybb BK217 hb;have NB218_232:=ynl BK218 hg;have NB232_218:=yng BK218 hg;replace BK218:=ybb BK218 hb;clear hb hbox hg;have:=NB232_217.out;have:=NB217_232.out;have:=NB232_218.out;have:=NB218_232.out;obtain ⟨hcz29_0,hcz29_1,hcz29_2,hfz29_0,hfz29_1,hfz29_2⟩:=yc3 BK232;obtain ⟨Ao30,co30,eo30⟩:=Kd.R_slice HO230.out;subst eo30))
   repeat (go_quiet (first|(go_at_call 76;(with_reducible refine (coder_halves.calls a2 t224 t225 _ A19.out).mono ?_);rintro e w' ⟨rfl,⟨nd,rfl⟩⟩;(try exact yww);have:=NB217_218.out;have:=NB218_217.out;obtain ⟨hcz24_0,hcz24_1,hcz24_2,hfz24_0,hfz24_1,hfz24_2⟩:=yc3 BK217)|(go_at_call 26;(with_reducible refine (coder_Put.calls kj4 t219 t220 _ _ t221 (wrap64 (Int.tdiv (wrap64 (a1)) t225)) (wrap64 ((wrap64 (Int.tdiv (wrap64 (a1)) t225))+1)) t224 t226 t227 t228 t231 _ ?side1 ?side2 A21.out).mono ?_);(case side1=>exact yce (Kd.R_reads' HO_218002.out).2.2);(case side2=>exact (Kd.R_reads' HO_218002.out).2.1);rintro e w25 ⟨v229,rfl,ho0,hb⟩;have HO230:=zm (Kd.R_lower (Kd.R_new' ho0 (Kd.R_lt (yr HO_218002))) (zE yhb));replace HO_218002:=zm (Kd.R_elder' (yr HO_218002) (Kd.R_base ho0) hb);replace BK217:=ybb BK217 hb;replace BK218:=ybb BK218 hb;replace HB:=ybs hb;(try clear hb);(try clear ho0))|((with_reducible refine gate_dst (N:=12) rfl ?_);refine ybx 12 #[.int .u64 0, .int .u32 0, .slice none 0 0] 54 ?_;intro gb232 hg w26 hbox hb;replace HO_218002:=yRb HO_218002 hb;replace HO230:=yRb HO230 hb;have BK232:=zm (hbox);have GW232:=ygw hg;have GE232:=ygw hg;replace HB:=ybs hb;have NB217_232:=ynl BK217 hg;have NB232_217:=yng BK217 hg;replace BK217:=ybb BK217 hb;have NB218_232:=ynl BK218 hg;have NB232_218:=yng BK218 hg;replace BK218:=ybb BK218 hb;clear hb hbox hg;have:=NB232_217.out;have:=NB217_232.out;have:=NB232_218.out;have:=NB218_232.out;obtain ⟨hcz29_0,hcz29_1,hcz29_2,hfz29_0,hfz29_1,hfz29_2⟩:=yc3 BK232;obtain ⟨Ao30,co30,eo30⟩:=Kd.R_slice HO230.out;subst eo30));go_upto_region 7 with (first|(go_at_call 76;(with_reducible refine (coder_halves.calls a2 t224 t225 _ A19.out).mono ?_);rintro e w' ⟨rfl,⟨nd,rfl⟩⟩;(try exact yww);have:=NB217_218.out;have:=NB218_217.out;obtain ⟨hcz24_0,hcz24_1,hcz24_2,hfz24_0,hfz24_1,hfz24_2⟩:=yc3 BK217)|(go_at_call 26;(with_reducible refine (coder_Put.calls kj4 t219 t220 _ _ t221 (wrap64 (Int.tdiv (wrap64 (a1)) t225)) (wrap64 ((wrap64 (Int.tdiv (wrap64 (a1)) t225))+1)) t224 t226 t227 t228 t231 _ ?side1 ?side2 A21.out).mono ?_);(case side1=>exact yce (Kd.R_reads' HO_218002.out).2.2);(case side2=>exact (Kd.R_reads' HO_218002.out).2.1);rintro e w25 ⟨v229,rfl,ho0,hb⟩;have HO230:=zm (Kd.R_lower (Kd.R_new' ho0 (Kd.R_lt (yr HO_218002))) (zE yhb));replace HO_218002:=zm (Kd.R_elder' (yr HO_218002) (Kd.R_base ho0) hb);replace BK217:=ybb BK217 hb;replace BK218:=ybb BK218 hb;replace HB:=ybs hb;(try clear hb);(try clear ho0))|((with_reducible refine gate_dst (N:=12) rfl ?_);refine ybx 12 #[.int .u64 0, .int .u32 0, .slice none 0 0] 54 ?_;intro gb232 hg w26 hbox hb;replace HO_218002:=yRb HO_218002 hb;replace HO230:=yRb HO230 hb;have BK232:=zm (hbox);have GW232:=ygw hg;have GE232:=ygw hg;replace HB:=ybs hb;have NB217_232:=ynl BK217 hg;have NB232_217:=yng BK217 hg;replace BK217:=ybb BK217 hb;have NB218_232:=ynl BK218 hg;have NB232_218:=yng BK218 hg;replace BK218:=ybb BK218 hb;clear hb hbox hg;have:=NB232_217.out;have:=NB217_232.out;have:=NB232_218.out;have:=NB218_232.out;obtain ⟨hcz29_0,hcz29_1,hcz29_2,hfz29_0,hfz29_1,hfz29_2⟩:=yc3 BK232;obtain ⟨Ao30,co30,eo30⟩:=Kd.R_slice HO230.out;subst eo30)))
   (try simp only [Act.put,List.setIfInBounds_toArray,List.set_cons_zero,List.set_cons_succ])
   go_cut [55] (fun v55 wc => ∃ (kq : Nat) (x55_21 : Bool),v55=.bool x55_21∧Aside0 (coder_PutNum.j1 kq t225 (Int.tmod (wrap64 (a1)) t225) t231 x55_21 t219 t220 t221 t226 t227 t228=some (r1,r2,r3,r4))∧Aside0 (kq≤kj4)∧Aside0 (Kd.R (Kd.int .u8) 5 wc w.heap.size (fun k_=>some k_≠((.slice Ao30 t228.length co30) : Value).ownBlock) (.slice Ao12 t221.length co12) t221)∧Aside0 (Kd.R (Kd.int .u8) 5 wc w.heap.size (fun k_=>some k_≠((.slice Ao12 t221.length co12) : Value).ownBlock) (.slice Ao30 t228.length co30) t228)∧Aside0 (wc.heap[gb217]? = some (.cells #[.int .u64 t219, .int .u32 t220,(.slice Ao12 t221.length co12)] 54 (0,0)))∧Aside0 (wc.heap[gb218]? = some (.cells #[.int .u64 0, .int .u32 0,(.slice none 0 0)] 54 (0,0)))∧Aside0 (wc.heap[gb232]? = some (.cells #[.int .u64 t226, .int .u32 t227,(.slice Ao30 t228.length co30)] 54 (0,0)))∧Aside0 (Below w.heap.size w wc))
   case first =>
    have H:=HC22.out;clear HC22
    by_cases c31 : t231=0
    ·
     rw [if_pos c31] at H
     have c31b0 : (t231 == 0)=true:=beq_iff_eq.mpr c31
     have c31b1 : (t231 != 0)=false:=bne_eq_false_iff_eq.mpr c31
     clear c31
     (first|rw [c31b0]|(simp only [i64_w,i32_w];rw [c31b0])|skip)
     have H' := zm H
     clear H
     go_wp2
     repeat (go_quiet (fail);try go_wp2)
     go_meet
     case rel=>exact ⟨_,(decide (t225 > 1)),yq,H',⟨yom1 HJ4⟩,⟨yR1 HO_218002 BK232⟩,⟨yR1 HO230 BK232⟩,⟨yk BK217⟩,⟨yk BK218⟩,⟨ykp BK232⟩,⟨yhb⟩⟩
    ·
     rw [if_neg c31] at H
     have c31b0 : (t231 == 0)=false:=beq_eq_false_iff_ne.mpr c31
     have c31b1 : (t231 != 0)=true:=bne_iff_ne.mpr c31
     (first|rw [c31b0]|(simp only [i64_w,i32_w];rw [c31b0])|skip)
     have H' := zm H
     clear H
     go_wp2
     repeat (go_quiet (fail);try go_wp2)
     go_meet
     case rel=>exact ⟨_,(false),yq,H',⟨yom1 HJ4⟩,⟨yR1 HO_218002 BK232⟩,⟨yR1 HO230 BK232⟩,⟨yk BK217⟩,⟨yk BK218⟩,⟨ykp BK232⟩,⟨yhb⟩⟩
   case rest =>
    clear HC22
    try clear c20
    try clear c20b0
    try clear c20b1
    try clear hcz17_0
    try clear hcz17_1
    try clear hcz17_2
    try clear hcz18_0
    try clear hcz18_1
    try clear hcz18_2
    try clear hcz24_0
    try clear hcz24_1
    try clear hcz24_2
    try clear hcz29_0
    try clear hcz29_1
    try clear hcz29_2
    try clear hfz17_0
    try clear hfz17_1
    try clear hfz17_2
    try clear hfz18_0
    try clear hfz18_1
    try clear hfz18_2
    try clear hfz24_0
    try clear hfz24_1
    try clear hfz24_2
    try clear hfz29_0
    try clear hfz29_1
    try clear hfz29_2
    obtain ⟨kq,x55_21,rfl,HA,HJ21,HO_218002,HO_233002,BK217,BK218,BK232,HB⟩:=hcut
    obtain ⟨kj21,rfl⟩:=ysu kq (fun h=>by subst h;exact absurd HA.out (by simp [coder_PutNum.j1]))
    have H:=HA.out;clear HA
    simp only [coder_PutNum.j1] at H
    by_cases c32 : x55_21=true
    ·
     subst c32
     rw [if_pos rfl] at H
     obtain ⟨⟨t233,t234,t235,t238⟩,A33,H⟩:=ybi H
     try dsimp only at H
     by_cases c34 : t238=0
     ·
      rw [if_pos c34] at H
      have c34b0 : (t238 == 0)=true:=beq_iff_eq.mpr c34
      have c34b1 : (t238 != 0)=false:=bne_eq_false_iff_eq.mpr c34
      clear c34
      simp only [Option.some.injEq,Prod.mk.injEq] at H
      obtain ⟨rfl,rfl,rfl,rfl⟩:=H
      have:=NB232_217.out
      have:=NB217_232.out
      have:=NB232_218.out
      have:=NB218_232.out
      obtain ⟨_,_,_,_,_,_⟩:=yc3 BK232
      go_wp2_with (first|(go_at_call 26;(with_reducible refine (coder_Put.calls kj21 t226 t227 _ _ t228 (Int.tmod (wrap64 (a1)) t225) (wrap64 ((Int.tmod (wrap64 (a1)) t225)+1)) t225 t233 t234 t235 t238 _ ?side1 ?side2 A33.out).mono ?_);(case side1=>exact yce (Kd.R_reads' HO_233002.out).2.2);(case side2=>exact (Kd.R_reads' HO_233002.out).2.1);rintro e w38 ⟨v236,rfl,ho0,hb⟩;have HO237:=zm (Kd.R_lower (Kd.R_new' (Kd.R_new' ho0 (Kd.R_lt (yr HO_218002))) (Kd.R_lt (yr HO_233002))) (zE yhb));replace HO_218002:=zm (Kd.R_elder' (yr HO_218002) (Kd.R_base ho0) hb);replace HO_233002:=zm (Kd.R_elder' (yr HO_233002) (Kd.R_base ho0) hb);replace BK217:=ybb BK217 hb;replace BK218:=ybb BK218 hb;replace BK232:=ybb BK232 hb;replace HB:=ybs hb;(try clear hb);(try clear ho0);obtain ⟨_,_,_,_,_,_⟩:=yc3 BK232;obtain ⟨Ao40,co40,eo40⟩:=Kd.R_slice HO237.out;subst eo40;have:=NB218_217.out;have:=NB217_218.out;obtain ⟨_,_,_,_,_,_⟩:=yc3 BK218))
      repeat (go_quiet (first|(go_at_call 26;(with_reducible refine (coder_Put.calls kj21 t226 t227 _ _ t228 (Int.tmod (wrap64 (a1)) t225) (wrap64 ((Int.tmod (wrap64 (a1)) t225)+1)) t225 t233 t234 t235 t238 _ ?side1 ?side2 A33.out).mono ?_);(case side1=>exact yce (Kd.R_reads' HO_233002.out).2.2);(case side2=>exact (Kd.R_reads' HO_233002.out).2.1);rintro e w38 ⟨v236,rfl,ho0,hb⟩;have HO237:=zm (Kd.R_lower (Kd.R_new' (Kd.R_new' ho0 (Kd.R_lt (yr HO_218002))) (Kd.R_lt (yr HO_233002))) (zE yhb));replace HO_218002:=zm (Kd.R_elder' (yr HO_218002) (Kd.R_base ho0) hb);replace HO_233002:=zm (Kd.R_elder' (yr HO_233002) (Kd.R_base ho0) hb);replace BK217:=ybb BK217 hb;replace BK218:=ybb BK218 hb;replace BK232:=ybb BK232 hb;replace HB:=ybs hb;(try clear hb);(try clear ho0);obtain ⟨_,_,_,_,_,_⟩:=yc3 BK232;obtain ⟨Ao40,co40,eo40⟩:=Kd.R_slice HO237.out;subst eo40;have:=NB218_217.out;have:=NB217_218.out;obtain ⟨_,_,_,_,_,_⟩:=yc3 BK218));try go_wp2_with (first|(go_at_call 26;(with_reducible refine (coder_Put.calls kj21 t226 t227 _ _ t228 (Int.tmod (wrap64 (a1)) t225) (wrap64 ((Int.tmod (wrap64 (a1)) t225)+1)) t225 t233 t234 t235 t238 _ ?side1 ?side2 A33.out).mono ?_);(case side1=>exact yce (Kd.R_reads' HO_233002.out).2.2);(case side2=>exact (Kd.R_reads' HO_233002.out).2.1);rintro e w38 ⟨v236,rfl,ho0,hb⟩;have HO237:=zm (Kd.R_lower (Kd.R_new' (Kd.R_new' ho0 (Kd.R_lt (yr HO_218002))) (Kd.R_lt (yr HO_233002))) (zE yhb));replace HO_218002:=zm (Kd.R_elder' (yr HO_218002) (Kd.R_base ho0) hb);replace HO_233002:=zm (Kd.R_elder' (yr HO_233002) (Kd.R_base ho0) hb);replace BK217:=ybb BK217 hb;replace BK218:=ybb BK218 hb;replace BK232:=ybb BK232 hb;replace HB:=ybs hb;(try clear hb);(try clear ho0);obtain ⟨_,_,_,_,_,_⟩:=yc3 BK232;obtain ⟨Ao40,co40,eo40⟩:=Kd.R_slice HO237.out;subst eo40;have:=NB218_217.out;have:=NB217_218.out;obtain ⟨_,_,_,_,_,_⟩:=yc3 BK218)))
      refine bodyPost_ret (results_ct rfl _ _ gb218 54 #[.int .u64 t233, .int .u32 t234, .slice Ao40 t235.length co40] (0,0) _ rfl (ykp BK218) Try.underlying54 rfl (by kernel_rfl)) rfl ?_
      exact ⟨_,ye,yR2 HO237 BK232 BK218,yhb⟩
     ·
      rw [if_neg c34] at H
      have c34b0 : (t238 == 0)=false:=beq_eq_false_iff_ne.mpr c34
      have c34b1 : (t238 != 0)=true:=bne_iff_ne.mpr c34
      simp only [Option.some.injEq,Prod.mk.injEq] at H
      obtain ⟨rfl,rfl,rfl,rfl⟩:=H
      have:=NB232_217.out
      have:=NB217_232.out
      have:=NB232_218.out
      have:=NB218_232.out
      obtain ⟨_,_,_,_,_,_⟩:=yc3 BK232
      go_wp2_with (first|(go_at_call 26;(with_reducible refine (coder_Put.calls kj21 t226 t227 _ _ t228 (Int.tmod (wrap64 (a1)) t225) (wrap64 ((Int.tmod (wrap64 (a1)) t225)+1)) t225 t233 t234 t235 t238 _ ?side1 ?side2 A33.out).mono ?_);(case side1=>exact yce (Kd.R_reads' HO_233002.out).2.2);(case side2=>exact (Kd.R_reads' HO_233002.out).2.1);rintro e w46 ⟨v236,rfl,ho0,hb⟩;have HO237:=zm (Kd.R_lower (Kd.R_new' (Kd.R_new' ho0 (Kd.R_lt (yr HO_218002))) (Kd.R_lt (yr HO_233002))) (zE yhb));replace HO_218002:=zm (Kd.R_elder' (yr HO_218002) (Kd.R_base ho0) hb);replace HO_233002:=zm (Kd.R_elder' (yr HO_233002) (Kd.R_base ho0) hb);replace BK217:=ybb BK217 hb;replace BK218:=ybb BK218 hb;replace BK232:=ybb BK232 hb;replace HB:=ybs hb;(try clear hb);(try clear ho0);obtain ⟨_,_,_,_,_,_⟩:=yc3 BK232;obtain ⟨Ao48,co48,eo48⟩:=Kd.R_slice HO237.out;subst eo48;have:=NB217_218.out;have:=NB218_217.out;obtain ⟨_,_,_,_,_,_⟩:=yc3 BK217;obtain ⟨_,_,_,_,_,_⟩:=yc3 BK218))
      repeat (go_quiet (first|(go_at_call 26;(with_reducible refine (coder_Put.calls kj21 t226 t227 _ _ t228 (Int.tmod (wrap64 (a1)) t225) (wrap64 ((Int.tmod (wrap64 (a1)) t225)+1)) t225 t233 t234 t235 t238 _ ?side1 ?side2 A33.out).mono ?_);(case side1=>exact yce (Kd.R_reads' HO_233002.out).2.2);(case side2=>exact (Kd.R_reads' HO_233002.out).2.1);rintro e w46 ⟨v236,rfl,ho0,hb⟩;have HO237:=zm (Kd.R_lower (Kd.R_new' (Kd.R_new' ho0 (Kd.R_lt (yr HO_218002))) (Kd.R_lt (yr HO_233002))) (zE yhb));replace HO_218002:=zm (Kd.R_elder' (yr HO_218002) (Kd.R_base ho0) hb);replace HO_233002:=zm (Kd.R_elder' (yr HO_233002) (Kd.R_base ho0) hb);replace BK217:=ybb BK217 hb;replace BK218:=ybb BK218 hb;replace BK232:=ybb BK232 hb;replace HB:=ybs hb;(try clear hb);(try clear ho0);obtain ⟨_,_,_,_,_,_⟩:=yc3 BK232;obtain ⟨Ao48,co48,eo48⟩:=Kd.R_slice HO237.out;subst eo48;have:=NB217_218.out;have:=NB218_217.out;obtain ⟨_,_,_,_,_,_⟩:=yc3 BK217;obtain ⟨_,_,_,_,_,_⟩:=yc3 BK218));try go_wp2_with (first|(go_at_call 26;(with_reducible refine (coder_Put.calls kj21 t226 t227 _ _ t228 (Int.tmod (wrap64 (a1)) t225) (wrap64 ((Int.tmod (wrap64 (a1)) t225)+1)) t225 t233 t234 t235 t238 _ ?side1 ?side2 A33.out).mono ?_);(case side1=>exact yce (Kd.R_reads' HO_233002.out).2.2);(case side2=>exact (Kd.R_reads' HO_233002.out).2.1);rintro e w46 ⟨v236,rfl,ho0,hb⟩;have HO237:=zm (Kd.R_lower (Kd.R_new' (Kd.R_new' ho0 (Kd.R_lt (yr HO_218002))) (Kd.R_lt (yr HO_233002))) (zE yhb));replace HO_218002:=zm (Kd.R_elder' (yr HO_218002) (Kd.R_base ho0) hb);replace HO_233002:=zm (Kd.R_elder' (yr HO_233002) (Kd.R_base ho0) hb);replace BK217:=ybb BK217 hb;replace BK218:=ybb BK218 hb;replace BK232:=ybb BK232 hb;replace HB:=ybs hb;(try clear hb);(try clear ho0);obtain ⟨_,_,_,_,_,_⟩:=yc3 BK232;obtain ⟨Ao48,co48,eo48⟩:=Kd.R_slice HO237.out;subst eo48;have:=NB217_218.out;have:=NB218_217.out;obtain ⟨_,_,_,_,_,_⟩:=yc3 BK217;obtain ⟨_,_,_,_,_,_⟩:=yc3 BK218)))
      refine bodyPost_ret (results_ct rfl _ _ gb218 54 #[.int .u64 t219, .int .u32 t220, .slice Ao12 t221.length co12] (0,0) _ rfl (ykp BK218) Try.underlying54 rfl (by kernel_rfl)) rfl ?_
      exact ⟨_,ye,yR2 HO_218002 BK232 BK218,yhb⟩
    ·
     replace c32:=Bool.eq_false_iff.mpr c32
     subst c32
     rw [ynf] at H
     by_cases c52 : t231=0
     ·
      rw [if_pos c52] at H
      have c52b0 : (t231 == 0)=true:=beq_iff_eq.mpr c52
      have c52b1 : (t231 != 0)=false:=bne_eq_false_iff_eq.mpr c52
      clear c52
      simp only [Option.some.injEq,Prod.mk.injEq] at H
      obtain ⟨rfl,rfl,rfl,rfl⟩:=H
      have:=NB232_217.out
      have:=NB217_232.out
      have:=NB232_218.out
      have:=NB218_232.out
      obtain ⟨_,_,_,_,_,_⟩:=yc3 BK232
      have:=NB218_217.out
      have:=NB217_218.out
      obtain ⟨_,_,_,_,_,_⟩:=yc3 BK218
      go_wp2
      repeat (go_quiet (fail);try go_wp2)
      refine bodyPost_ret (results_ct rfl _ _ gb218 54 #[.int .u64 t226, .int .u32 t227, .slice Ao30 t228.length co30] (0,0) _ rfl (ykp BK218) Try.underlying54 rfl (by kernel_rfl)) rfl ?_
      exact ⟨_,ye,yR1 HO_233002 BK218,yhb⟩
     ·
      rw [if_neg c52] at H
      have c52b0 : (t231 == 0)=false:=beq_eq_false_iff_ne.mpr c52
      have c52b1 : (t231 != 0)=true:=bne_iff_ne.mpr c52
      simp only [Option.some.injEq,Prod.mk.injEq] at H
      obtain ⟨rfl,rfl,rfl,rfl⟩:=H
      have:=NB217_218.out
      have:=NB218_217.out
      have:=NB217_232.out
      have:=NB232_217.out
      obtain ⟨_,_,_,_,_,_⟩:=yc3 BK217
      have:=NB218_232.out
      have:=NB232_218.out
      obtain ⟨_,_,_,_,_,_⟩:=yc3 BK218
      go_wp2
      repeat (go_quiet (fail);try go_wp2)
      refine bodyPost_ret (results_ct rfl _ _ gb218 54 #[.int .u64 t219, .int .u32 t220, .slice Ao12 t221.length co12] (0,0) _ rfl (ykp BK218) Try.underlying54 rfl (by kernel_rfl)) rfl ?_
      exact ⟨_,ye,yR1 HO_218002 BK218,yhb⟩
def gain_put.j0 : Nat→Int→Int→Bool→Int→Int→List Int→Option (Int × Int × List Int × Int)
 | 0,_,_,_,_,_,_=>none
 | k+1,x1,x10,x23,x240000,x240001,x240002=>if x23=true then ((coder_Put.f k x240000 x240001 x240002 (wrap64 (x10+3)) (wrap64 ((wrap64 (x10+3))+1)) 8).bind fun bt247=>(some (bt247.1,bt247.2.1,bt247.2.2.1,bt247.2.2.2))) else ((coder_Put.f k x240000 x240001 x240002 7 8 8).bind fun bt253=>(if bt253.2.2.2=0 then ((coder_PutNum.f k bt253.1 bt253.2.1 bt253.2.2.1 (IntKind.u64.wrap (x1)) 45).bind fun bt260=>(some (bt260.1,bt260.2.1,bt260.2.2.1,bt260.2.2.2))) else (some (bt253.1,bt253.2.1,bt253.2.2.1,bt253.2.2.2))))
def gain_put.f (k : Nat) (a0_0 : Int) (a0_1 : Int) (l0_2 : List Int) (a1 : Int) (a2 : Int) (a3 : Bool) : Option (Int × Int × List Int × Int):=if a3=true then ((coder_PutNum.f k a0_0 a0_1 l0_2 (IntKind.u64.wrap (a1)) 45).bind fun bt241=>(some (bt241.1,bt241.2.1,bt241.2.2.1,bt241.2.2.2))) else (if (wrap64 (a1 - a2)) ≥ (-3) then (gain_put.j0 k a1 (wrap64 (a1 - a2)) (decide ((wrap64 (a1 - a2))≤3)) a0_0 a0_1 l0_2) else (gain_put.j0 k a1 (wrap64 (a1 - a2)) false a0_0 a0_1 l0_2))
theorem gain_put.mono_l : ∀ k,(∀ y0 y1 y2 y3 y4 y5,LeO (gain_put.j0 k y0 y1 y2 y3 y4 y5) (gain_put.j0 (k+1) y0 y1 y2 y3 y4 y5))
 | 0=>fun _ _ _ _ _ _ r h=>by simp [gain_put.j0] at h
 | k+1=>by
  have ih0:=gain_put.mono_l k
  ·
   intro y0 y1 y2 y3 y4 y5
   unfold gain_put.j0
   repeat' with_reducible first|apply ih0|apply coder_Put.mono|apply coder_PutNum.mono|apply yLr|apply yLn|apply yLi|apply yLb|intro _
theorem gain_put.mono : ∀ a0 a1 a2 a3 a4 a5 k,LeO (gain_put.f k a0 a1 a2 a3 a4 a5) (gain_put.f (k+1) a0 a1 a2 a3 a4 a5):=by
 intro a0 a1 a2 a3 a4 a5 k
 have ih0:=gain_put.mono_l k
 unfold gain_put.f
 repeat' with_reducible first|apply ih0|apply coder_Put.mono|apply coder_PutNum.mono|apply yLr|apply yLn|apply yLi|apply yLb|intro _
set_option maxHeartbeats 8000000 in
set_option maxRecDepth 100000 in
theorem gain_put.calls (k : Nat) (a0_0 : Int) (a0_1 : Int) (A0_2 : Option Addr) (c0_2 : Nat) (l0_2 : List Int) (a1 : Int) (a2 : Int) (a3 : Bool) (r1 : Int) (r2 : Int) (r3 : List Int) (r4 : Int) (w : World) (hr0_2 : Kd.C (Kd.int .u8) w A0_2 l0_2.length l0_2) (hc0_2 : l0_2.length≤c0_2) (h : gain_put.f k a0_0 a0_1 l0_2 a1 a2 a3=some (r1,r2,r3,r4)) :
  Calls Try.prog 67 #[.agg #[.int .u64 a0_0, .int .u32 a0_1, .slice A0_2 l0_2.length c0_2], .int .i64 a1, .int .i64 a2, .bool a3] w fun e w' => ∃ v2_ : Value,e=.returned (.tuple #[.agg #[.int .u64 r1, .int .u32 r2,v2_], .int .i64 r4])∧Kd.R (Kd.int .u8) 5 w' w.heap.size (fun _=>True) v2_ r3∧Below w.heap.size w w' := by
 have hu54:=Try.underlying54;have HR0_2:=zm hr0_2;have HC0_2:=zm hc0_2;clear hr0_2 hc0_2;have HB:=zm (Below.refl w.heap.size w)
 have H : (if a3=true then ((coder_PutNum.f k a0_0 a0_1 l0_2 (IntKind.u64.wrap (a1)) 45).bind fun bt241=>(some (bt241.1,bt241.2.1,bt241.2.2.1,bt241.2.2.2))) else (if (wrap64 (a1 - a2)) ≥ (-3) then (gain_put.j0 k a1 (wrap64 (a1 - a2)) (decide ((wrap64 (a1 - a2))≤3)) a0_0 a0_1 l0_2) else (gain_put.j0 k a1 (wrap64 (a1 - a2)) false a0_0 a0_1 l0_2)))=some (r1,r2,r3,r4):=h
 clear h
 by_cases c5 : a3=true
 ·
  subst c5
  rw [if_pos rfl] at H
  obtain ⟨⟨t241,t242,t243,t246⟩,A6,H⟩:=ybi H
  try dsimp only at H
  simp only [Option.some.injEq,Prod.mk.injEq] at H
  obtain ⟨rfl,rfl,rfl,rfl⟩:=H
  go_enter Try.func67,Try.ntmps67
  go_wp2_with (first|((with_reducible refine gate_dst (N:=4) rfl ?_);refine ybx 4 #[.int .u64 a0_0, .int .u32 a0_1, .slice A0_2 l0_2.length c0_2] 54 ?_;intro gb239 hg w7 hbox hb;have BK239:=zm (hbox);have GW239:=ygw hg;have GE239:=ygw hg;replace HB:=ybs hb;clear hb hbox hg)|((with_reducible refine gate_dst (N:=8) rfl ?_);refine ybx 8 #[.int .u64 0, .int .u32 0, .slice none 0 0] 54 ?_;intro gb240 hg w8 hbox hb;have BK240:=zm (hbox);have GW240:=ygw hg;have GE240:=ygw hg;replace HB:=ybs hb;have NB239_240:=ynl BK239 hg;have NB240_239:=yng BK239 hg;replace BK239:=ybb BK239 hb;clear hb hbox hg;have:=NB239_240.out;have:=NB240_239.out;obtain ⟨hcz10_0,hcz10_1,hcz10_2,hfz10_0,hfz10_1,hfz10_2⟩:=yc3 BK239)|((with_reducible refine gate_callee (f:=34) rfl ?_);refine ygl 46 Try.func34 #[.agg #[.int .u64 a0_0, .int .u32 a0_1, .slice A0_2 l0_2.length c0_2], .int .u64 (IntKind.u64.wrap (a1)), .int .u64 45] ?_;(with_reducible refine (coder_PutNum.calls k a0_0 a0_1 _ _ l0_2 (IntKind.u64.wrap (a1)) 45 t241 t242 t243 t246 _ ?side1 HC0_2.out A6.out).mono ?_);(case side1=>exact ycb HR0_2);rintro e w11 ⟨v244,rfl,ho0,hb⟩;refine ⟨_,rfl, ?_⟩;have HO245:=zm (Kd.R_lower ho0 (zE yhb));replace BK239:=ybb BK239 hb;replace BK240:=ybb BK240 hb;replace HB:=ybs hb;(try clear hb);(try clear ho0);obtain ⟨hcz12_0,hcz12_1,hcz12_2,hfz12_0,hfz12_1,hfz12_2⟩:=yc3 BK240;obtain ⟨Ao13,co13,eo13⟩:=Kd.R_slice HO245.out;subst eo13))
  refine bodyPost_ret (results_ct rfl _ _ gb240 54 #[.int .u64 t241, .int .u32 t242, .slice Ao13 t243.length co13] (0,0) _ rfl (ykp BK240) Try.underlying54 rfl (by kernel_rfl)) rfl ?_
  exact ⟨_,ye,yR1 HO245 BK240,yhb⟩
 ·
  replace c5:=Bool.eq_false_iff.mpr c5
  subst c5
  rw [ynf] at H
  have HC14:=zm H;clear H
  go_enter Try.func67,Try.ntmps67
  go_upto_region 3 with (first|((with_reducible refine gate_dst (N:=4) rfl ?_);refine ybx 4 #[.int .u64 a0_0, .int .u32 a0_1, .slice A0_2 l0_2.length c0_2] 54 ?_;intro gb239 hg w15 hbox hb;have BK239:=zm (hbox);have GW239:=ygw hg;have GE239:=ygw hg;replace HB:=ybs hb;clear hb hbox hg)|((with_reducible refine gate_dst (N:=8) rfl ?_);refine ybx 8 #[.int .u64 0, .int .u32 0, .slice none 0 0] 54 ?_;intro gb240 hg w16 hbox hb;have BK240:=zm (hbox);have GW240:=ygw hg;have GE240:=ygw hg;replace HB:=ybs hb;have NB239_240:=ynl BK239 hg;have NB240_239:=yng BK239 hg;replace BK239:=ybb BK239 hb;clear hb hbox hg))
  (try simp only [Act.put,List.setIfInBounds_toArray,List.set_cons_zero,List.set_cons_succ])
  go_cut [23] (fun v23 wc => ∃ (kq : Nat) (x23_13 : Bool),v23=.bool x23_13∧Aside0 (gain_put.j0 kq a1 (wrap64 (a1 - a2)) x23_13 a0_0 a0_1 l0_2=some (r1,r2,r3,r4))∧Aside0 (kq≤k)∧Aside0 (wc.heap[gb239]? = some (.cells #[.int .u64 a0_0, .int .u32 a0_1,(.slice A0_2 l0_2.length c0_2)] 54 (0,0)))∧Aside0 (wc.heap[gb240]? = some (.cells #[.int .u64 0, .int .u32 0,(.slice none 0 0)] 54 (0,0)))∧Aside0 (Below w.heap.size w wc))
  case first =>
   have H:=HC14.out;clear HC14
   by_cases c17 : (wrap64 (a1 - a2)) ≥ (-3)
   ·
    rw [if_pos c17] at H
    have c17b0 : decide ((-3)≤(wrap64 (a1 - a2)))=true:=decide_eq_true c17
    clear c17
    (first|rw [c17b0]|(simp only [i64_w,i32_w];rw [c17b0])|skip)
    have H' := zm H
    clear H
    go_wp2
    go_meet
    case rel=>exact ⟨_,(decide ((wrap64 (a1 - a2))≤3)),yq,H',⟨yo⟩,⟨yk BK239⟩,⟨yk BK240⟩,⟨yhb⟩⟩
   ·
    rw [if_neg c17] at H
    have c17b0 : decide ((-3)≤(wrap64 (a1 - a2)))=false:=decide_eq_false c17
    clear c17
    (first|rw [c17b0]|(simp only [i64_w,i32_w];rw [c17b0])|skip)
    have H' := zm H
    clear H
    go_wp2
    go_meet
    case rel=>exact ⟨_,(false),yq,H',⟨yo⟩,⟨yk BK239⟩,⟨yk BK240⟩,⟨yhb⟩⟩
  case rest =>
   clear HC14
   try clear hcz10_0
   try clear hcz10_1
   try clear hcz10_2
   try clear hcz12_0
   try clear hcz12_1
   try clear hcz12_2
   try clear hfz10_0
   try clear hfz10_1
   try clear hfz10_2
   try clear hfz12_0
   try clear hfz12_1
   try clear hfz12_2
   obtain ⟨kq,x23_13,rfl,HA,HJ13,BK239,BK240,HB⟩:=hcut
   obtain ⟨kj13,rfl⟩:=ysu kq (fun h=>by subst h;exact absurd HA.out (by simp [gain_put.j0]))
   have H:=HA.out;clear HA
   simp only [gain_put.j0] at H
   by_cases c18 : x23_13=true
   ·
    subst c18
    rw [if_pos rfl] at H
    obtain ⟨⟨t247,t248,t249,t252⟩,A19,H⟩:=ybi H
    try dsimp only at H
    simp only [Option.some.injEq,Prod.mk.injEq] at H
    obtain ⟨rfl,rfl,rfl,rfl⟩:=H
    have:=NB239_240.out
    have:=NB240_239.out
    obtain ⟨_,_,_,_,_,_⟩:=yc3 BK239
    go_wp2_with (first|((with_reducible refine gate_callee (f:=26) rfl ?_);refine ygl 30 Try.func26 #[.agg #[.int .u64 a0_0, .int .u32 a0_1, .slice A0_2 l0_2.length c0_2], .int .i64 (wrap64 ((wrap64 (a1 - a2))+3)), .int .i64 (wrap64 ((wrap64 ((wrap64 (a1 - a2))+3))+1)), .int .i64 8] ?_;(with_reducible refine (coder_Put.calls kj13 a0_0 a0_1 _ _ l0_2 (wrap64 ((wrap64 (a1 - a2))+3)) (wrap64 ((wrap64 ((wrap64 (a1 - a2))+3))+1)) 8 t247 t248 t249 t252 _ ?side1 HC0_2.out A19.out).mono ?_);(case side1=>exact ycb HR0_2);rintro e w22 ⟨v250,rfl,ho0,hb⟩;refine ⟨_,rfl, ?_⟩;have HO251:=zm (Kd.R_lower ho0 (zE yhb));replace BK239:=ybb BK239 hb;replace BK240:=ybb BK240 hb;replace HB:=ybs hb;(try clear hb);(try clear ho0);obtain ⟨_,_,_,_,_,_⟩:=yc3 BK240;obtain ⟨Ao24,co24,eo24⟩:=Kd.R_slice HO251.out;subst eo24))
    refine bodyPost_ret (results_ct rfl _ _ gb240 54 #[.int .u64 t247, .int .u32 t248, .slice Ao24 t249.length co24] (0,0) _ rfl (ykp BK240) Try.underlying54 rfl (by kernel_rfl)) rfl ?_
    exact ⟨_,ye,yR1 HO251 BK240,yhb⟩
   ·
    replace c18:=Bool.eq_false_iff.mpr c18
    subst c18
    rw [ynf] at H
    obtain ⟨⟨t253,t254,t255,t258⟩,A25,H⟩:=ybi H
    try dsimp only at H
    by_cases c26 : t258=0
    ·
     rw [if_pos c26] at H
     have c26b0 : (t258 == 0)=true:=beq_iff_eq.mpr c26
     have c26b1 : (t258 != 0)=false:=bne_eq_false_iff_eq.mpr c26
     clear c26
     obtain ⟨⟨t260,t261,t262,t265⟩,A27,H⟩:=ybi H
     try dsimp only at H
     simp only [Option.some.injEq,Prod.mk.injEq] at H
     obtain ⟨rfl,rfl,rfl,rfl⟩:=H
     have:=NB239_240.out
     have:=NB240_239.out
     obtain ⟨_,_,_,_,_,_⟩:=yc3 BK239
     go_wp2_with (first|((with_reducible refine gate_callee (f:=26) rfl ?_);refine ygl 35 Try.func26 #[.agg #[.int .u64 a0_0, .int .u32 a0_1, .slice A0_2 l0_2.length c0_2], .int .i64 7, .int .i64 8, .int .i64 8] ?_;(with_reducible refine (coder_Put.calls kj13 a0_0 a0_1 _ _ l0_2 7 8 8 t253 t254 t255 t258 _ ?side1 HC0_2.out A25.out).mono ?_);(case side1=>exact ycb HR0_2);rintro e w30 ⟨v256,rfl,ho0,hb⟩;refine ⟨_,rfl, ?_⟩;have HO257:=zm (Kd.R_lower ho0 (zE yhb));replace BK239:=ybb BK239 hb;replace BK240:=ybb BK240 hb;replace HB:=ybs hb;(try clear hb);(try clear ho0))|((with_reducible refine gate_dst (N:=11) rfl ?_);refine ybx 11 #[.int .u64 0, .int .u32 0, .slice none 0 0] 54 ?_;intro gb259 hg w31 hbox hb;replace HO257:=yRb HO257 hb;have BK259:=zm (hbox);have GW259:=ygw hg;have GE259:=ygw hg;replace HB:=ybs hb;have NB239_259:=ynl BK239 hg;have NB259_239:=yng BK239 hg;replace BK239:=ybb BK239 hb;have NB240_259:=ynl BK240 hg;have NB259_240:=yng BK240 hg;replace BK240:=ybb BK240 hb;clear hb hbox hg;have:=NB259_239.out;have:=NB239_259.out;have:=NB259_240.out;have:=NB240_259.out;obtain ⟨_,_,_,_,_,_⟩:=yc3 BK259;obtain ⟨Ao35,co35,eo35⟩:=Kd.R_slice HO257.out;subst eo35;obtain ⟨_,_,_,_,_,_⟩:=yc3 BK239)|((with_reducible refine gate_callee (f:=34) rfl ?_);refine ygl 46 Try.func34 #[.agg #[.int .u64 t253, .int .u32 t254, .slice Ao35 t255.length co35], .int .u64 (IntKind.u64.wrap (a1)), .int .u64 45] ?_;(with_reducible refine (coder_PutNum.calls kj13 t253 t254 _ _ t255 (IntKind.u64.wrap (a1)) 45 t260 t261 t262 t265 _ ?side1 ?side2 A27.out).mono ?_);(case side1=>refine (Kd.R_reads' (e:=5) (base:=w.heap.size) (ok:=fun k_=>True) (n:=t255.length) (c:=co35) ?_).2.2;exact (yR2 HO257 BK259 BK239));(case side2=>exact (Kd.R_reads' HO257.out).2.1);rintro e w37 ⟨v263,rfl,ho0,hb⟩;refine ⟨_,rfl, ?_⟩;have HO264:=zm (Kd.R_lower (Kd.R_new' ho0 (Kd.R_lt (yR2 HO257 BK259 BK239))) (zE yhb));replace HO257:=zm (Kd.R_elder' (yR2 HO257 BK259 BK239) (Kd.R_base ho0) hb);replace BK239:=zm (zF (g:=gb239) (o:=.cells #[.int .u64 t253, .int .u32 t254, .slice Ao35 t255.length co35] 54 (0,0)) (ykp BK239) hb);replace BK240:=ybb BK240 hb;replace BK259:=zm (zF (g:=gb259) (o:=.cells #[.int .u64 t253, .int .u32 t254, .slice Ao35 t255.length co35] 54 (0,0)) (ykp BK259) hb);replace HB:=ybs hb;(try clear hb);(try clear ho0);obtain ⟨_,_,_,_,_,_⟩:=yc3 BK240;obtain ⟨Ao39,co39,eo39⟩:=Kd.R_slice HO264.out;subst eo39))
     refine bodyPost_ret (results_ct rfl _ _ gb240 54 #[.int .u64 t260, .int .u32 t261, .slice Ao39 t262.length co39] (0,0) _ rfl (ykp BK240) Try.underlying54 rfl (by kernel_rfl)) rfl ?_
     exact ⟨_,ye,yR1 HO264 BK240,yhb⟩
    ·
     rw [if_neg c26] at H
     have c26b0 : (t258 == 0)=false:=beq_eq_false_iff_ne.mpr c26
     have c26b1 : (t258 != 0)=true:=bne_iff_ne.mpr c26
     simp only [Option.some.injEq,Prod.mk.injEq] at H
     obtain ⟨rfl,rfl,rfl,rfl⟩:=H
     have:=NB239_240.out
     have:=NB240_239.out
     obtain ⟨_,_,_,_,_,_⟩:=yc3 BK239
     go_wp2_with (first|((with_reducible refine gate_callee (f:=26) rfl ?_);refine ygl 35 Try.func26 #[.agg #[.int .u64 a0_0, .int .u32 a0_1, .slice A0_2 l0_2.length c0_2], .int .i64 7, .int .i64 8, .int .i64 8] ?_;(with_reducible refine (coder_Put.calls kj13 a0_0 a0_1 _ _ l0_2 7 8 8 t253 t254 t255 t258 _ ?side1 HC0_2.out A25.out).mono ?_);(case side1=>exact ycb HR0_2);rintro e w42 ⟨v256,rfl,ho0,hb⟩;refine ⟨_,rfl, ?_⟩;have HO257:=zm (Kd.R_lower ho0 (zE yhb));replace BK239:=ybb BK239 hb;replace BK240:=ybb BK240 hb;replace HB:=ybs hb;(try clear hb);(try clear ho0))|((with_reducible refine gate_dst (N:=11) rfl ?_);refine ybx 11 #[.int .u64 0, .int .u32 0, .slice none 0 0] 54 ?_;intro gb259 hg w43 hbox hb;replace HO257:=yRb HO257 hb;have BK259:=zm (hbox);have GW259:=ygw hg;have GE259:=ygw hg;replace HB:=ybs hb;have NB239_259:=ynl BK239 hg;have NB259_239:=yng BK239 hg;replace BK239:=ybb BK239 hb;have NB240_259:=ynl BK240 hg;have NB259_240:=yng BK240 hg;replace BK240:=ybb BK240 hb;clear hb hbox hg;have:=NB259_239.out;have:=NB239_259.out;have:=NB259_240.out;have:=NB240_259.out;obtain ⟨_,_,_,_,_,_⟩:=yc3 BK259;obtain ⟨Ao47,co47,eo47⟩:=Kd.R_slice HO257.out;subst eo47;obtain ⟨_,_,_,_,_,_⟩:=yc3 BK240))
     refine bodyPost_ret (results_ct rfl _ _ gb240 54 #[.int .u64 t253, .int .u32 t254, .slice Ao47 t255.length co47] (0,0) _ rfl (ykp BK240) Try.underlying54 rfl (by kernel_rfl)) rfl ?_
     exact ⟨_,ye,yR2 HO257 BK259 BK240,yhb⟩
end Go.Proofs.Ytnmbndkojpjkmaa.Prt
