-- Functions of the program and of the document as plain Lean, each with the proof that the code comes to it. Written by a program of this session (wip/tools/myprint.py, pack.py) over the kit's printer; Lean checks it.
import Derived.Test.YtkaoiblgfpphoaaZGainAlonePrt0
import Derived.Test.YtkaoiblgfpphoaaZGainAloneM1
import Derived.Test.YtkaoiblgfpphoaaZGainAloneM2
import Derived.Test.YtkaoiblgfpphoaaZGainAloneM3
namespace Go.Proofs.Ytkaoiblgfpphoaa.Prt
open Go.RowKit Go.Proofs.YtkaoiblgfpphoaaW.PrintWords Go.Proofs.YtkaoiblgfpphoaaW.PrintLast Go.Proofs.YtkaoiblgfpphoaaW.PrintMore
attribute [local go_sem] max2_int min2_int max_two min_two max_three min_three max_four min_four   -- for this text's walks alone
set_option linter.unusedVariables false
set_option linter.unusedSimpArgs false

/-! ### psalterylaw05_right: function 22 -/
def psalterylaw05_right.f (a0_0 : Int) (a0_1 : Int) (l0_2 : List Int) : Option (Bool):=if a0_0≤4294967295 then (if a0_1 ≥ 16777216 then (some (decide ((l0_2.length : Int)≤4000))) else (some false)) else (some false)
set_option maxHeartbeats 8000000 in
set_option maxRecDepth 100000 in
theorem psalterylaw05_right.calls (a0_0 : Int) (a0_1 : Int) (A0_2 : Option Addr) (c0_2 : Nat) (l0_2 : List Int) (r : Bool) (w : World) (hr0_2 : Kd.C (Kd.int .u8) w A0_2 l0_2.length l0_2) (hc0_2 : l0_2.length≤c0_2) (h : psalterylaw05_right.f a0_0 a0_1 l0_2=some r) :
  Calls Try.prog 22 #[.agg #[.int .u64 a0_0, .int .u32 a0_1, .slice A0_2 l0_2.length c0_2]] w fun e w' => e=.returned (.bool r)∧Below w.heap.size w w' := by
 have hu26:=Try.underlying26;have HR0_2:=zm hr0_2;have HC0_2:=zm hc0_2;clear hr0_2 hc0_2;have HB:=zm (Below.refl w.heap.size w)
 have H : (if a0_0≤4294967295 then (if a0_1 ≥ 16777216 then (some (decide ((l0_2.length : Int)≤4000))) else (some false)) else (some false))=some r:=h
 clear h
 by_cases c2 : a0_0≤4294967295
 ·
  rw [if_pos c2] at H
  have c2b0 : decide (a0_0≤4294967295)=true:=decide_eq_true c2
  clear c2
  by_cases c3 : a0_1 ≥ 16777216
  ·
   rw [if_pos c3] at H
   have c3b0 : decide (16777216≤a0_1)=true:=decide_eq_true c3
   clear c3
   obtain rfl:=Option.some.inj H
   go_enter Try.func22,Try.ntmps22
   go_wp2_with (first|((with_reducible refine gate_dst (N:=1) rfl ?_);(try (refine gate_guard (by rfl) ?_;dsimp only));refine box_event ?hg (N:=1) ?hd (cs := #[.int .u64 a0_0, .int .u32 a0_1, .slice A0_2 l0_2.length c0_2]) (t:=26) ?hr ?_;(case hd=>rfl);(case hg=>rfl);(case hr=>first|(go_simp;done)|(go_simp;rfl));intro gb221 hg w4 hbox hb;have n0_:=zm (zJ (by repeat (first|(with_reducible first|exact HB.out|apply ze|apply zd|apply zf)|exact HB.out)) hb);have n1_:=zm (hbox);have n2_:=zm ((by rw [hg];exact (zE (by repeat (first|(with_reducible first|exact HB.out|apply ze|apply zd|apply zf)|exact HB.out))) : w.heap.size≤gb221));have n3_:=zm ((by rw [hg];exact (zE (by repeat (first|(with_reducible first|exact HB.out|apply ze|apply zd|apply zf)|exact HB.out))) : w.heap.size≤gb221));clear HB;have HB:=n0_;have BK221:=n1_;have GW221:=n2_;have GE221:=n3_;clear n0_ n1_ n2_ n3_;clear hb hbox hg;have hcz5_0 : w4.cell? ⟨gb221,0,none⟩=some (.int .u64 a0_0):=(zs BK221.out 0).trans rfl;have hcz5_1 : w4.cell? ⟨gb221,1,none⟩=some (.int .u32 a0_1):=(zs BK221.out 1).trans rfl;have hcz5_2 : w4.cell? ⟨gb221,2,none⟩=some (.slice A0_2 l0_2.length c0_2):=(zs BK221.out 2).trans rfl;have hfz5_0:=zx BK221.out 0;have hfz5_1:=zx BK221.out 1;have hfz5_2:=zx BK221.out 2))
   go_ret
   exact ⟨by first|rfl|(simp [errW_none,errW_some] <;> rfl)|(simp [*,errW_none,errW_some] <;> rfl),by repeat (first|(with_reducible first|exact HB.out|apply ze|apply zd|apply zf|refine zk ?_ GE221.out)|exact HB.out)⟩
  ·
   rw [if_neg c3] at H
   have c3b0 : decide (16777216≤a0_1)=false:=decide_eq_false c3
   clear c3
   obtain rfl:=Option.some.inj H
   go_enter Try.func22,Try.ntmps22
   go_wp2_with (first|((with_reducible refine gate_dst (N:=1) rfl ?_);(try (refine gate_guard (by rfl) ?_;dsimp only));refine box_event ?hg (N:=1) ?hd (cs := #[.int .u64 a0_0, .int .u32 a0_1, .slice A0_2 l0_2.length c0_2]) (t:=26) ?hr ?_;(case hd=>rfl);(case hg=>rfl);(case hr=>first|(go_simp;done)|(go_simp;rfl));intro gb221 hg w6 hbox hb;have n0_:=zm (zJ (by repeat (first|(with_reducible first|exact HB.out|apply ze|apply zd|apply zf)|exact HB.out)) hb);have n1_:=zm (hbox);have n2_:=zm ((by rw [hg];exact (zE (by repeat (first|(with_reducible first|exact HB.out|apply ze|apply zd|apply zf)|exact HB.out))) : w.heap.size≤gb221));have n3_:=zm ((by rw [hg];exact (zE (by repeat (first|(with_reducible first|exact HB.out|apply ze|apply zd|apply zf)|exact HB.out))) : w.heap.size≤gb221));clear HB;have HB:=n0_;have BK221:=n1_;have GW221:=n2_;have GE221:=n3_;clear n0_ n1_ n2_ n3_;clear hb hbox hg;have hcz7_0 : w6.cell? ⟨gb221,0,none⟩=some (.int .u64 a0_0):=(zs BK221.out 0).trans rfl;have hcz7_1 : w6.cell? ⟨gb221,1,none⟩=some (.int .u32 a0_1):=(zs BK221.out 1).trans rfl;have hcz7_2 : w6.cell? ⟨gb221,2,none⟩=some (.slice A0_2 l0_2.length c0_2):=(zs BK221.out 2).trans rfl;have hfz7_0:=zx BK221.out 0;have hfz7_1:=zx BK221.out 1;have hfz7_2:=zx BK221.out 2))
   go_ret
   exact ⟨by first|rfl|(simp [errW_none,errW_some] <;> rfl)|(simp [*,errW_none,errW_some] <;> rfl),by repeat (first|(with_reducible first|exact HB.out|apply ze|apply zd|apply zf|refine zk ?_ GE221.out)|exact HB.out)⟩
 ·
  rw [if_neg c2] at H
  have c2b0 : decide (a0_0≤4294967295)=false:=decide_eq_false c2
  clear c2
  obtain rfl:=Option.some.inj H
  go_enter Try.func22,Try.ntmps22
  go_wp2_with (first|((with_reducible refine gate_dst (N:=1) rfl ?_);(try (refine gate_guard (by rfl) ?_;dsimp only));refine box_event ?hg (N:=1) ?hd (cs := #[.int .u64 a0_0, .int .u32 a0_1, .slice A0_2 l0_2.length c0_2]) (t:=26) ?hr ?_;(case hd=>rfl);(case hg=>rfl);(case hr=>first|(go_simp;done)|(go_simp;rfl));intro gb221 hg w8 hbox hb;have n0_:=zm (zJ (by repeat (first|(with_reducible first|exact HB.out|apply ze|apply zd|apply zf)|exact HB.out)) hb);have n1_:=zm (hbox);have n2_:=zm ((by rw [hg];exact (zE (by repeat (first|(with_reducible first|exact HB.out|apply ze|apply zd|apply zf)|exact HB.out))) : w.heap.size≤gb221));have n3_:=zm ((by rw [hg];exact (zE (by repeat (first|(with_reducible first|exact HB.out|apply ze|apply zd|apply zf)|exact HB.out))) : w.heap.size≤gb221));clear HB;have HB:=n0_;have BK221:=n1_;have GW221:=n2_;have GE221:=n3_;clear n0_ n1_ n2_ n3_;clear hb hbox hg;have hcz9_0 : w8.cell? ⟨gb221,0,none⟩=some (.int .u64 a0_0):=(zs BK221.out 0).trans rfl;have hcz9_1 : w8.cell? ⟨gb221,1,none⟩=some (.int .u32 a0_1):=(zs BK221.out 1).trans rfl;have hcz9_2 : w8.cell? ⟨gb221,2,none⟩=some (.slice A0_2 l0_2.length c0_2):=(zs BK221.out 2).trans rfl;have hfz9_0:=zx BK221.out 0;have hfz9_1:=zx BK221.out 1;have hfz9_2:=zx BK221.out 2))
  go_ret
  exact ⟨by first|rfl|(simp [errW_none,errW_some] <;> rfl)|(simp [*,errW_none,errW_some] <;> rfl),by repeat (first|(with_reducible first|exact HB.out|apply ze|apply zd|apply zf|refine zk ?_ GE221.out)|exact HB.out)⟩

end Go.Proofs.Ytkaoiblgfpphoaa.Prt

namespace Go.Proofs.Ytkaoiblgfpphoaa.Prt
open Go.RowKit Go.Proofs.YtkaoiblgfpphoaaW.PrintWords Go.Proofs.YtkaoiblgfpphoaaW.PrintLast Go.Proofs.YtkaoiblgfpphoaaW.PrintMore
attribute [local go_sem] max2_int min2_int max_two min_two max_three min_three max_four min_four   -- for this text's walks alone
set_option linter.unusedVariables false
set_option linter.unusedSimpArgs false

/-! ### psalteryref05_New: function 57 -/
def psalteryref05_New.f  : Option (Int × List Int):=some (4294967295,(([0,0,0,0] : List Int)))
set_option maxHeartbeats 8000000 in
set_option maxRecDepth 100000 in
theorem psalteryref05_New.calls  (r1 : Int) (r2 : List Int) (w : World) (h : psalteryref05_New.f  = some (r1,r2)) :
  Calls Try.prog 57 #[] w fun e w' => ∃ v1_ : Value,e=.returned (.agg #[.int .u64 r1,v1_])∧Kd.R (Kd.int .i64) 3 w' w.heap.size (fun _=>True) v1_ r2∧Below w.heap.size w w' := by
 have hu33:=Try.underlying33;have HB:=zm (Below.refl w.heap.size w)
 have H : (some (4294967295,(([0,0,0,0] : List Int))))=some (r1,r2):=h
 clear h
 obtain ⟨y223,hy223⟩ : ∃ y_ : List Int,y_=(([0,0,0,0] : List Int)):=⟨_,rfl⟩
 replace H : (some (4294967295,y223))=some (r1,r2):=by first|(rw [hy223];with_reducible exact H)|(have H2_:=(Option.bind_some _ _).symm.trans H;rw [hy223];with_reducible exact H2_)|(have H2_:=(Option.bind_some _ _).symm.trans H;with_reducible exact H2_)|with_reducible exact H|(rw [hy223];exact H)|exact H
 have Ny223:=zm hy223;clear hy223
 simp only [Option.some.injEq,Prod.mk.injEq] at H
 obtain ⟨rfl,rfl⟩:=H
 go_enter Try.func57,Try.ntmps57
 go_wp2_with (first|((with_reducible refine gate_dst (N:=0) rfl ?_);refine box_event ?hg (N:=0) ?hd (cs := #[.int .u64 0, .slice none 0 0]) (t:=33) ?hr ?_;(case hd=>rfl);(case hg=>rfl);(case hr=>first|(go_simp;done)|(go_simp;rfl));intro gb222 hg w1 hbox hb;have n0_:=zm (zJ (by repeat (first|(with_reducible first|exact HB.out|apply ze|apply zd|apply zf)|exact HB.out)) hb);have n1_:=zm (hbox);have n2_:=zm ((by rw [hg];exact (zE (by repeat (first|(with_reducible first|exact HB.out|apply ze|apply zd|apply zf)|exact HB.out))) : w.heap.size≤gb222));have n3_:=zm ((by rw [hg];exact (zE (by repeat (first|(with_reducible first|exact HB.out|apply ze|apply zd|apply zf)|exact HB.out))) : w.heap.size≤gb222));clear HB;have HB:=n0_;have BK222:=n1_;have GW222:=n2_;have GE222:=n3_;clear n0_ n1_ n2_ n3_;clear hb hbox hg)|((with_reducible refine gate_dst (N:=1) rfl ?_);refine Kd.R_lit (Kd.int .i64) _ 3 ?hg (N:=1) ?hd (xs:=([0,0,0,0] : List Int)) (inner := [.int .i64 0, .int .i64 0, .int .i64 0, .int .i64 0]) (ok:=fun _=>True) (okp:=fun _=>True) ?hr ?hp (fun _ hk=>hk) trivial (Below.refl _ _) (Nat.le_refl _) (by simp) ?_;(case hd=>rfl);(case hg=>rfl);(case hr=>first|(go_simp;done)|(go_simp;rfl));(case hp=>exact (Reps.one (show Kd.M (Kd.int .i64) _ _ _ 0 [.int .i64 0] from rfl) (Reps.one (show Kd.M (Kd.int .i64) _ _ _ 0 [.int .i64 0] from rfl) (Reps.one (show Kd.M (Kd.int .i64) _ _ _ 0 [.int .i64 0] from rfl) (Reps.one (show Kd.M (Kd.int .i64) _ _ _ 0 [.int .i64 0] from rfl) (Reps.none _ _))))));intro v224 w2 ho3 hb hg_ hnew_;clear hg_ hnew_;(first|rw [← Ny223.out] at ho3|(simp only [Int.reduceToNat] at ho3;rw [← Ny223.out] at ho3));have n0_:=zm (Kd.R_lower ho3 (zE (by repeat (first|(with_reducible first|exact HB.out|apply ze|apply zd|apply zf|refine zk ?_ GE222.out)|exact HB.out))));have n1_:=zm (zF (g:=gb222) (o:=.cells #[.int .u64 0, .slice none 0 0] 33 (0,0)) (by (with_reducible repeat (first|refine zh ?_ _|refine zj ?_|refine zi ?_ _));exact BK222.out) hb);have n2_:=zm (zJ (by repeat (first|(with_reducible first|exact HB.out|apply ze|apply zd|apply zf|refine zk ?_ GE222.out)|exact HB.out)) hb);clear BK222;clear HB;have HO225:=n0_;have BK222:=n1_;have HB:=n2_;clear n0_ n1_ n2_;clear hb ho3;obtain ⟨Ao4,co4,eo4⟩:=Kd.R_slice HO225.out;subst eo4;have hcz5_0 : w2.cell? ⟨gb222,0,none⟩=some (.int .u64 0):=(zs BK222.out 0).trans rfl;have hcz5_1 : w2.cell? ⟨gb222,1,none⟩=some (.slice none 0 0):=(zs BK222.out 1).trans rfl;have hfz5_0:=zx BK222.out 0;have hfz5_1:=zx BK222.out 1))
 refine bodyPost_ret (results_cell_row rfl _ _ gb222 33 #[.int .u64 4294967295, .slice Ao4 y223.length co4] (0,0) _ rfl (by (with_reducible repeat (first|refine zh ?_ _|refine zj ?_|refine zi ?_ _));refine zw (cs := #[.int .u64 4294967295, .slice none 0 0]) ?_ 1 _ rfl;(with_reducible repeat (first|refine zh ?_ _|refine zj ?_|refine zi ?_ _));refine zw (cs := #[.int .u64 0, .slice none 0 0]) ?_ 0 _ rfl;(with_reducible repeat (first|refine zh ?_ _|refine zj ?_|refine zi ?_ _));exact BK222.out) Try.underlying33 rfl (by kernel_rfl)) rfl ?_
 exact ⟨_,by first|rfl|(simp [errW_none,errW_some] <;> rfl)|(simp [*,errW_none,errW_some] <;> rfl),by (with_reducible repeat (first|apply zo|apply zp|apply zq));exact zG (zH (p:=⟨gb222,1,none⟩) (zH (p:=⟨gb222,0,none⟩) (Kd.R_types HO225.out BK222.out (by decide)) (fun _ hk=>hk.2) (.int .u64 4294967295)) (fun _ hk=>hk.2) (.slice Ao4 y223.length co4)) (fun _ hk=>trivial),by repeat (first|(with_reducible first|exact HB.out|apply ze|apply zd|apply zf|refine zk ?_ GE222.out)|exact HB.out)⟩

end Go.Proofs.Ytkaoiblgfpphoaa.Prt

namespace Go.Proofs.Ytkaoiblgfpphoaa.Prt
open Go.RowKit Go.Proofs.YtkaoiblgfpphoaaW.PrintWords Go.Proofs.YtkaoiblgfpphoaaW.PrintLast Go.Proofs.YtkaoiblgfpphoaaW.PrintMore
attribute [local go_sem] max2_int min2_int max_two min_two max_three min_three max_four min_four   -- for this text's walks alone
set_option linter.unusedVariables false
set_option linter.unusedSimpArgs false

/-! ### psalterylaw05_AsEnc: function 20 -/
def psalterylaw05_AsEnc.l0 : Nat→Int→Int→Int→List Int→Int→List Int→Option (Int × List Int)
 | 0,_,_,_,_,_,_=>none
 | k+1,x4,x227000,x227001,x227002,x234000,x234001=>if x4 < (x227002.length : Int) then (if 0≤x4 then (if x234001.length < 17592186044416 then (psalterylaw05_AsEnc.l0 k (wrap64 (x4+1)) x227000 x227001 x227002 x234000 (x234001 ++ [wrap64 (rd x227002 x4)])) else (none)) else (none)) else ((some (([wrap64 (IntKind.u64.wrap (Int.tdiv x227000 16777216)),wrap64 (Int.tmod (IntKind.u64.wrap (Int.tdiv x227000 65536)) 256),wrap64 (Int.tmod (IntKind.u64.wrap (Int.tdiv x227000 256)) 256),wrap64 (Int.tmod x227000 256)] : List Int) : List Int)).bind fun y238=>(if x234001.length+y238.length < 17592186044416 then (some (x234000,(x234001 ++ y238))) else (none)))
def psalterylaw05_AsEnc.f (k : Nat) (a0_0 : Int) (a0_1 : Int) (l0_2 : List Int) : Option (Int × List Int):=(psalterylaw05_right.f a0_0 a0_1 l0_2).bind fun t228=>(if t228=true then (psalterylaw05_AsEnc.l0 k 0 a0_0 a0_1 l0_2 (IntKind.u64.wrap (a0_1)) ([] : List Int)) else ((psalteryref05_New.f).bind fun bt229=>(some (bt229.1,bt229.2))))
theorem psalterylaw05_AsEnc.mono_l : ∀ k,(∀ y0 y1 y2 y3 y4 y5,LeO (psalterylaw05_AsEnc.l0 k y0 y1 y2 y3 y4 y5) (psalterylaw05_AsEnc.l0 (k+1) y0 y1 y2 y3 y4 y5))
 | 0=>fun _ _ _ _ _ _ r h=>by simp [psalterylaw05_AsEnc.l0] at h
 | k+1=>by
  have ih0:=psalterylaw05_AsEnc.mono_l k
  ·
   intro y0 y1 y2 y3 y4 y5
   unfold psalterylaw05_AsEnc.l0
   repeat' first
   | (with_reducible exact ih0 _ _ _ _ _ _)
   | (with_reducible exact LeO.refl _)
   | (with_reducible exact LeO.none _)
   | (with_reducible refine LeO.ite ?_ ?_)
   | (with_reducible refine LeO.bind ?_ (fun _ => ?_))
   | exact ih0 _ _ _ _ _ _
   | exact LeO.none _
   | refine LeO.ite ?_ ?_
   | refine LeO.bind ?_ (fun _ => ?_)
theorem psalterylaw05_AsEnc.mono : ∀ a0 a1 a2 k,LeO (psalterylaw05_AsEnc.f k a0 a1 a2) (psalterylaw05_AsEnc.f (k+1) a0 a1 a2):=by
 intro a0 a1 a2 k
 have ih0:=psalterylaw05_AsEnc.mono_l k
 unfold psalterylaw05_AsEnc.f
 repeat' first
   | (with_reducible exact ih0 _ _ _ _ _ _)
   | (with_reducible exact LeO.refl _)
   | (with_reducible exact LeO.none _)
   | (with_reducible refine LeO.ite ?_ ?_)
   | (with_reducible refine LeO.bind ?_ (fun _ => ?_))
   | exact ih0 _ _ _ _ _ _
   | exact LeO.none _
   | refine LeO.ite ?_ ?_
   | refine LeO.bind ?_ (fun _ => ?_)
def psalterylaw05_AsEnc.T7 : Bool × List (List Nat × List Nat):=(true, [([], []),([0], [0]),([], []),([2], [2]),([], []),([3,4], [3,4]),([5], [5]),([6], [6]),([7], [7]),([1,8], [1,8]),([0,1,2,3,4,5,6,7,8,9], []),([10,9,9,0,1,2,3,4,5,6,7,8,9], [9,10])])
def psalterylaw05_AsEnc.B7 : List Nat := [0,1,0,4,0,28,60,124,252,511,1023,2047]
theorem psalterylaw05_AsEnc.tab7 : rtab .any (opsOf Try.f20 7)=psalterylaw05_AsEnc.T7:=by kernel_rfl
theorem psalterylaw05_AsEnc.bits7 : waitsOk psalterylaw05_AsEnc.T7.2 psalterylaw05_AsEnc.B7=true:=by kernel_rfl
set_option maxHeartbeats 8000000 in
set_option maxRecDepth 100000 in
theorem psalterylaw05_AsEnc.calls (k : Nat) (a0_0 : Int) (a0_1 : Int) (A0_2 : Option Addr) (c0_2 : Nat) (l0_2 : List Int) (r1 : Int) (r2 : List Int) (w : World) (hr0_2 : Kd.C (Kd.int .u8) w A0_2 l0_2.length l0_2) (hc0_2 : l0_2.length≤c0_2) (h : psalterylaw05_AsEnc.f k a0_0 a0_1 l0_2=some (r1,r2)) :
  Calls Try.prog 20 #[.agg #[.int .u64 a0_0, .int .u32 a0_1, .slice A0_2 l0_2.length c0_2]] w fun e w' => ∃ v1_ : Value,e=.returned (.agg #[.int .u64 r1,v1_])∧Kd.R (Kd.int .i64) 3 w' w.heap.size (fun _=>True) v1_ r2∧Below w.heap.size w w' := by
 have hu26:=Try.underlying26;have hu33:=Try.underlying33;have HR0_2:=zm hr0_2;have HC0_2:=zm hc0_2;clear hr0_2 hc0_2;have HB:=zm (Below.refl w.heap.size w)
 have H : ((psalterylaw05_right.f a0_0 a0_1 l0_2).bind fun t228=>(if t228=true then (psalterylaw05_AsEnc.l0 k 0 a0_0 a0_1 l0_2 (IntKind.u64.wrap (a0_1)) ([] : List Int)) else ((psalteryref05_New.f).bind fun bt229=>(some (bt229.1,bt229.2)))))=some (r1,r2):=h
 clear h
 replace H:=Option.bind_eq_some_iff.mp H
 obtain ⟨t228,A20,H⟩:=H
 replace H : (if t228=true then (psalterylaw05_AsEnc.l0 k 0 a0_0 a0_1 l0_2 (IntKind.u64.wrap (a0_1)) ([] : List Int)) else ((psalteryref05_New.f).bind fun bt229=>(some (bt229.1,bt229.2))))=some (r1,r2):=H
 have A2:=zm A20;clear A20
 by_cases c3 : t228=true
 ·
  subst c3
  have H1 : (psalterylaw05_AsEnc.l0 k 0 a0_0 a0_1 l0_2 (IntKind.u64.wrap (a0_1)) ([] : List Int))=some (r1,r2):=by rw [if_pos rfl] at H;exact H
  clear H;have H:=H1;clear H1
  have H' := zm H
  clear H
  go_enter Try.func20,Try.ntmps20
  go_wp2_with (first|((with_reducible refine gate_dst (N:=1) rfl ?_);refine box_event ?hg (N:=1) ?hd (cs := #[.int .u64 a0_0, .int .u32 a0_1, .slice A0_2 l0_2.length c0_2]) (t:=26) ?hr ?_;(case hd=>rfl);(case hg=>rfl);(case hr=>first|(go_simp;done)|(go_simp;rfl));intro gb226 hg w4 hbox hb;have n0_:=zm (zJ (by repeat (first|(with_reducible first|exact HB.out|apply ze|apply zd|apply zf)|exact HB.out)) hb);have n1_:=zm (hbox);have n2_:=zm ((by rw [hg];exact (zE (by repeat (first|(with_reducible first|exact HB.out|apply ze|apply zd|apply zf)|exact HB.out))) : w.heap.size≤gb226));have n3_:=zm ((by rw [hg];exact (zE (by repeat (first|(with_reducible first|exact HB.out|apply ze|apply zd|apply zf)|exact HB.out))) : w.heap.size≤gb226));clear HB;have HB:=n0_;have BK226:=n1_;have GW226:=n2_;have GE226:=n3_;clear n0_ n1_ n2_ n3_;clear hb hbox hg)|((with_reducible refine gate_dst (N:=2) rfl ?_);refine box_event ?hg (N:=2) ?hd (cs := #[.int .u64 0, .slice none 0 0]) (t:=33) ?hr ?_;(case hd=>rfl);(case hg=>rfl);(case hr=>first|(go_simp;done)|(go_simp;rfl));intro gb227 hg w5 hbox hb;have n0_:=zm (zF (g:=gb226) (o:=.cells #[.int .u64 a0_0, .int .u32 a0_1, .slice A0_2 l0_2.length c0_2] 26 (0,0)) (by (with_reducible repeat (first|refine zh ?_ _|refine zj ?_|refine zi ?_ _));exact BK226.out) hb);have n1_:=zm (zJ (by repeat (first|(with_reducible first|exact HB.out|apply ze|apply zd|apply zf|refine zk ?_ GE226.out)|exact HB.out)) hb);have n2_:=zm (hbox);have n3_:=zm ((by rw [hg];exact (zE (by repeat (first|(with_reducible first|exact HB.out|apply ze|apply zd|apply zf|refine zk ?_ GE226.out)|exact HB.out))) : w.heap.size≤gb227));have n4_:=zm ((by rw [hg];exact (zE (by repeat (first|(with_reducible first|exact HB.out|apply ze|apply zd|apply zf|refine zk ?_ GE226.out)|exact HB.out))) : w.heap.size≤gb227));have n5_:=zm ((by rw [hg];exact zn (zD (g:=gb226) (o:=.cells #[.int .u64 a0_0, .int .u32 a0_1, .slice A0_2 l0_2.length c0_2] 26 (0,0)) (by (with_reducible repeat (first|refine zh ?_ _|refine zj ?_|refine zi ?_ _));exact BK226.out)) : gb226≠gb227));have n6_:=zm ((by rw [hg];exact zg (zD (g:=gb226) (o:=.cells #[.int .u64 a0_0, .int .u32 a0_1, .slice A0_2 l0_2.length c0_2] 26 (0,0)) (by (with_reducible repeat (first|refine zh ?_ _|refine zj ?_|refine zi ?_ _));exact BK226.out)) : gb227≠gb226));clear BK226;clear HB;have BK226:=n0_;have HB:=n1_;have BK227:=n2_;have GW227:=n3_;have GE227:=n4_;have NB226_227:=n5_;have NB227_226:=n6_;clear n0_ n1_ n2_ n3_ n4_ n5_ n6_;clear hb hbox hg;have hnb6:=NB226_227.out;have hnc6:=NB227_226.out;have hcz7_0 : w5.cell? ⟨gb226,0,none⟩=some (.int .u64 a0_0):=(zs BK226.out 0).trans rfl;have hcz7_1 : w5.cell? ⟨gb226,1,none⟩=some (.int .u32 a0_1):=(zs BK226.out 1).trans rfl;have hcz7_2 : w5.cell? ⟨gb226,2,none⟩=some (.slice A0_2 l0_2.length c0_2):=(zs BK226.out 2).trans rfl;have hfz7_0:=zx BK226.out 0;have hfz7_1:=zx BK226.out 1;have hfz7_2:=zx BK226.out 2)|((with_reducible refine gate_callee (f:=22) rfl ?_);refine goesL_ (some 6) rfl rfl Try.func22 (by kernel_rfl) rfl #[.agg #[.int .u64 a0_0, .int .u32 a0_1, .slice A0_2 l0_2.length c0_2]] rfl (by (try simp only [List.map_toArray,List.map_cons,List.map_nil]);first|done|rfl|(simp only [List.length_drop,List.length_take];rfl)) ?_;(with_reducible refine (psalterylaw05_right.calls a0_0 a0_1 _ _ l0_2 true _ ?side1 ?side2 A2.out).mono ?_);(case side1=>repeat (first|exact (Kd.C_below HR0_2.out HB.out)|(with_reducible refine Kd.C_alloc ?_ _)|(with_reducible refine Kd.C_drewN ?_ _)|(with_reducible refine Kd.C_drew ?_)));(case side2=>exact HC0_2.out);rintro e w8 ⟨rfl,hb⟩;refine ⟨_,rfl, ?_⟩;have n0_:=zm (zF (g:=gb226) (o:=.cells #[.int .u64 a0_0, .int .u32 a0_1, .slice A0_2 l0_2.length c0_2] 26 (0,0)) (by (with_reducible repeat (first|refine zh ?_ _|refine zj ?_|refine zi ?_ _));exact BK226.out) hb);have n1_:=zm (zF (g:=gb227) (o:=.cells #[.int .u64 0, .slice none 0 0] 33 (0,0)) (by (with_reducible repeat (first|refine zh ?_ _|refine zj ?_|refine zi ?_ _));exact BK227.out) hb);have n2_:=zm (zJ (by repeat (first|(with_reducible first|exact HB.out|apply ze|apply zd|apply zf|refine zk ?_ GE226.out|refine zk ?_ GE227.out)|exact HB.out)) hb);clear BK226;clear BK227;clear HB;have BK226:=n0_;have BK227:=n1_;have HB:=n2_;clear n0_ n1_ n2_;(try clear hb);(try clear hb2);(try clear hk);(try clear hi);have hcz9_0 : w8.cell? ⟨gb226,0,none⟩=some (.int .u64 a0_0):=(zs BK226.out 0).trans rfl;have hcz9_1 : w8.cell? ⟨gb226,1,none⟩=some (.int .u32 a0_1):=(zs BK226.out 1).trans rfl;have hcz9_2 : w8.cell? ⟨gb226,2,none⟩=some (.slice A0_2 l0_2.length c0_2):=(zs BK226.out 2).trans rfl;have hfz9_0:=zx BK226.out 0;have hfz9_1:=zx BK226.out 1;have hfz9_2:=zx BK226.out 2)|((with_reducible refine gate_dst (N:=3) rfl ?_);refine box_event ?hg (N:=3) ?hd (cs := #[.int .u64 0, .slice none 0 0]) (t:=33) ?hr ?_;(case hd=>rfl);(case hg=>rfl);(case hr=>first|(go_simp;done)|(go_simp;rfl));intro gb233 hg w10 hbox hb;have n0_:=zm (zF (g:=gb226) (o:=.cells #[.int .u64 a0_0, .int .u32 a0_1, .slice A0_2 l0_2.length c0_2] 26 (0,0)) (by (with_reducible repeat (first|refine zh ?_ _|refine zj ?_|refine zi ?_ _));exact BK226.out) hb);have n1_:=zm (zF (g:=gb227) (o:=.cells #[.int .u64 0, .slice none 0 0] 33 (0,0)) (by (with_reducible repeat (first|refine zh ?_ _|refine zj ?_|refine zi ?_ _));exact BK227.out) hb);have n2_:=zm (zJ (by repeat (first|(with_reducible first|exact HB.out|apply ze|apply zd|apply zf|refine zk ?_ GE226.out|refine zk ?_ GE227.out)|exact HB.out)) hb);have n3_:=zm (hbox);have n4_:=zm ((by rw [hg];exact (zE (by repeat (first|(with_reducible first|exact HB.out|apply ze|apply zd|apply zf|refine zk ?_ GE226.out|refine zk ?_ GE227.out)|exact HB.out))) : w.heap.size≤gb233));have n5_:=zm ((by rw [hg];exact (zE (by repeat (first|(with_reducible first|exact HB.out|apply ze|apply zd|apply zf|refine zk ?_ GE226.out|refine zk ?_ GE227.out)|exact HB.out))) : w.heap.size≤gb233));have n6_:=zm ((by rw [hg];exact zn (zD (g:=gb226) (o:=.cells #[.int .u64 a0_0, .int .u32 a0_1, .slice A0_2 l0_2.length c0_2] 26 (0,0)) (by (with_reducible repeat (first|refine zh ?_ _|refine zj ?_|refine zi ?_ _));exact BK226.out)) : gb226≠gb233));have n7_:=zm ((by rw [hg];exact zg (zD (g:=gb226) (o:=.cells #[.int .u64 a0_0, .int .u32 a0_1, .slice A0_2 l0_2.length c0_2] 26 (0,0)) (by (with_reducible repeat (first|refine zh ?_ _|refine zj ?_|refine zi ?_ _));exact BK226.out)) : gb233≠gb226));have n8_:=zm ((by rw [hg];exact zn (zD (g:=gb227) (o:=.cells #[.int .u64 0, .slice none 0 0] 33 (0,0)) (by (with_reducible repeat (first|refine zh ?_ _|refine zj ?_|refine zi ?_ _));exact BK227.out)) : gb227≠gb233));have n9_:=zm ((by rw [hg];exact zg (zD (g:=gb227) (o:=.cells #[.int .u64 0, .slice none 0 0] 33 (0,0)) (by (with_reducible repeat (first|refine zh ?_ _|refine zj ?_|refine zi ?_ _));exact BK227.out)) : gb233≠gb227));clear BK226;clear BK227;clear HB;have BK226:=n0_;have BK227:=n1_;have HB:=n2_;have BK233:=n3_;have GW233:=n4_;have GE233:=n5_;have NB226_233:=n6_;have NB233_226:=n7_;have NB227_233:=n8_;have NB233_227:=n9_;clear n0_ n1_ n2_ n3_ n4_ n5_ n6_ n7_ n8_ n9_;clear hb hbox hg;have hnb11:=NB233_226.out;have hnc11:=NB226_233.out;have hnb12:=NB233_227.out;have hnc12:=NB227_233.out;have hcz13_0 : w10.cell? ⟨gb233,0,none⟩=some (.int .u64 0):=(zs BK233.out 0).trans rfl;have hcz13_1 : w10.cell? ⟨gb233,1,none⟩=some (.slice none 0 0):=(zs BK233.out 1).trans rfl;have hfz13_0:=zx BK233.out 0;have hfz13_1:=zx BK233.out 1))
  go_loopg [4] k (fun kq v4 w' => ∃ (x4_1 : Int) (x234001_1 : List Int) (u234001 : Value),v4=.int .i64 x4_1∧Aside0 (psalterylaw05_AsEnc.l0 kq x4_1 a0_0 a0_1 l0_2 (IntKind.u64.wrap (a0_1)) x234001_1=some (r1,r2))∧Aside0 (kq≤k)∧Aside0 (Kd.R (Kd.int .i64) 3 w' w.heap.size (fun _=>True) u234001 x234001_1)∧Aside0 (w'.heap[gb226]? = some (.cells #[.int .u64 a0_0, .int .u32 a0_1,(.slice A0_2 l0_2.length c0_2)] 26 (0,0)))∧Aside0 (w'.heap[gb227]? = some (.cells #[.int .u64 0,(.slice none 0 0)] 33 (0,0)))∧Aside0 (w'.heap[gb233]? = some (.cells #[.int .u64 (IntKind.u64.wrap (a0_1)),u234001] 33 (0,0)))∧Aside0 (Below w.heap.size w w'))
  case atStart=>exact ⟨(0),(([] : List Int)),(.slice none 0 0),(by first|rfl|(simp;done)|(simp [*];done)),H',⟨Nat.le_refl _⟩,⟨by first|exact Kd.R_nil _ _ _ _ _|exact Kd.N_nil _ _ _ _ _|exact Kd.V_nil _ _ _ _ _|exact Kd.Q_nil _ _ _ _ _|exact Kd.S_nil _ _ _ _ _⟩,⟨by (with_reducible repeat (first|refine zh ?_ _|refine zj ?_|refine zi ?_ _|refine zv ?_ NB226_233.out _));exact BK226.out⟩,⟨by (with_reducible repeat (first|refine zh ?_ _|refine zj ?_|refine zi ?_ _|refine zv ?_ NB227_233.out _));exact BK227.out⟩,⟨by (with_reducible repeat (first|refine zh ?_ _|refine zj ?_|refine zi ?_ _));refine zw (cs := #[.int .u64 (IntKind.u64.wrap (a0_1)), .slice none 0 0]) ?_ 1 _ rfl;(with_reducible repeat (first|refine zh ?_ _|refine zj ?_|refine zi ?_ _));refine zw (cs := #[.int .u64 0, .slice none 0 0]) ?_ 0 _ rfl;(with_reducible repeat (first|refine zh ?_ _|refine zj ?_|refine zi ?_ _));exact BK233.out⟩,⟨by repeat (first|(with_reducible first|exact HB.out|apply ze|apply zd|apply zf|refine zk ?_ GE226.out|refine zk ?_ GE227.out|refine zk ?_ GE233.out)|exact HB.out)⟩⟩
  case round =>
   clear H'
   try clear c1
   try clear c2
   try clear p2
   try clear c3
   try clear c6
   try clear c11
   try clear c12
   try clear hcz13_0
   try clear hcz13_1
   try clear hcz7_0
   try clear hcz7_1
   try clear hcz7_2
   try clear hcz9_0
   try clear hcz9_1
   try clear hcz9_2
   try clear hfz13_0
   try clear hfz13_1
   try clear hfz7_0
   try clear hfz7_1
   try clear hfz7_2
   try clear hfz9_0
   try clear hfz9_1
   try clear hfz9_2
   obtain ⟨x4_1,x234001_1,u234001,rfl,HA,HK1,HO_234001,BK226,BK227,BK233,HB⟩:=hrel
   cases gk with
   | zero=>exact absurd HA.out (by simp [psalterylaw05_AsEnc.l0])
   | succ k1 =>
    have H:=HA.out;clear HA
    simp only [psalterylaw05_AsEnc.l0] at H
    by_cases c14 : x4_1 < (l0_2.length : Int)
    ·
     rw [if_pos c14] at H
     have c14b0 : decide (x4_1 < (l0_2.length : Int))=true:=decide_eq_true c14
     clear c14
     by_cases c15 : 0≤x4_1
     ·
      rw [if_pos c15] at H
      have c15b0 : decide (0≤x4_1)=true:=decide_eq_true c15
      clear c15
      by_cases c16 : x234001_1.length < 17592186044416
      ·
       rw [if_pos c16] at H
       have LMc16:=zm c16;clear c16
       obtain ⟨y235,hy235⟩ : ∃ y_ : List Int,y_=(x234001_1 ++ [wrap64 (rd l0_2 x4_1)]):=⟨_,rfl⟩
       replace H : (psalterylaw05_AsEnc.l0 k1 (wrap64 (x4_1+1)) a0_0 a0_1 l0_2 (IntKind.u64.wrap (a0_1)) y235)=some (r1,r2):=by first|(rw [hy235];with_reducible exact H)|(have H2_:=(Option.bind_some _ _).symm.trans H;rw [hy235];with_reducible exact H2_)|(have H2_:=(Option.bind_some _ _).symm.trans H;with_reducible exact H2_)|with_reducible exact H|(rw [hy235];exact H)|exact H
       have Ny235:=zm hy235;clear hy235
       have H' := zm H
       clear H;have hnb17:=NB226_227.out;have hnc17:=NB227_226.out;have hnb18:=NB226_233.out;have hnc18:=NB233_226.out
       have hcz19_0 : wr.cell? ⟨gb226,0,none⟩=some (.int .u64 a0_0):=(zs BK226.out 0).trans rfl
       have hcz19_1 : wr.cell? ⟨gb226,1,none⟩=some (.int .u32 a0_1):=(zs BK226.out 1).trans rfl
       have hcz19_2 : wr.cell? ⟨gb226,2,none⟩=some (.slice A0_2 l0_2.length c0_2):=(zs BK226.out 2).trans rfl
       have hfz19_0:=zx BK226.out 0
       have hfz19_1:=zx BK226.out 1
       have hfz19_2:=zx BK226.out 2
       try go_wp2
       have n0_:=zm (zq HO_234001.out);have n1_:=zm (zj BK226.out);have n2_:=zm (zj BK227.out);have n3_:=zm (zj BK233.out);have n4_:=zm (zf HB.out);clear HO_234001;clear BK226;clear BK227;clear BK233;clear HB;have HO_234001:=n0_;have BK226:=n1_;have BK227:=n2_;have BK233:=n3_;have HB:=n4_;clear n0_ n1_ n2_ n3_ n4_
       have p234 : 0≤(x4_1 : Int):=of_decide_eq_true (by first|(with_reducible assumption)|assumption)
       have q234 : x4_1 < (l0_2.length : Int):=of_decide_eq_true (by first|(with_reducible assumption)|assumption)
       obtain ⟨ad234,e234,hx234_0⟩:=Kd.at_int HR0_2.out x4_1 p234 q234
       have hw234_0:=hx234_0
       cases e234
       replace hx234_0:=(HB.out.cell (zb w _ hx234_0)).trans hx234_0
       replace p234:=eq_true p234
       replace q234:=eq_true q234
       refine start_ (n:=12) (S:=fun w' => w'.cell? ⟨gb233,0,none⟩=some (.int .u64 (IntKind.u64.wrap (a0_1)))∧w'.cell? ⟨gb233,1,none⟩=some (u234001)∧w'.cell? ⟨gb226,0,none⟩=some (.int .u64 a0_0)∧w'.cell? ⟨gb226,1,none⟩=some (.int .u32 a0_1)∧w'.cell? ⟨gb226,2,none⟩=some (.slice (some ad234) l0_2.length c0_2)∧w'.cell? (ad234.add (x4_1).toNat)=some (.int .u8 (rd l0_2 x4_1))) (ds := [11]) #[false,false,false,false,false,false,false,false,false,false,false,false] (by kernel_rfl) rfl rfl ⟨(zs BK233.out 0).trans rfl,(zs BK233.out 1).trans rfl,(zs BK226.out 0).trans rfl,(zs BK226.out 1).trans rfl,(zs BK226.out 2).trans rfl,((HB.out.cell (zb w _ hw234_0)).trans hw234_0)⟩ (fun hHeld => ?_);refine with_tabW psalterylaw05_AsEnc.tab7 psalterylaw05_AsEnc.bits7 (fun HT_ HW_ => ?_)
       generalize wr.drew=w20 at HO_234001 BK226 BK227 BK233 HB hx234_0 hHeld ⊢
       refine pure_ (i:=0) (N:=some 20) (v := ?_) (a' := ?_) #[true,false,false,false,false,false,false,false,false,false,false,false] rfl rfl (any_of HT_.out (by kernel_rfl)) (fun _ _ _ h=>h) (Or.inl ⟨by rfl, ?_⟩) ?_ ?_
       rotate_left
       ·
        intro w'
        go_simp
        with_reducible rfl
       rotate_left
       ·
        simp only [Act.put,List.setIfInBounds_toArray,List.set_cons_zero,List.set_cons_succ,i64_w,i32_w]
        rfl
       refine pure_ (i:=2) (N:=some 22) (v := ?_) (a' := ?_) #[true,false,true,false,false,false,false,false,false,false,false,false] rfl rfl (any_of HT_.out (by kernel_rfl)) (fun _ _ _ h=>h) (Or.inl ⟨by rfl, ?_⟩) ?_ ?_
       rotate_left
       ·
        intro w'
        go_simp
        with_reducible rfl
       rotate_left
       ·
        simp only [Act.put,List.setIfInBounds_toArray,List.set_cons_zero,List.set_cons_succ,i64_w,i32_w]
        rfl
       refine pure_ (i:=4) (N:=some 24) (v := ?_) (a' := ?_) #[true,false,true,false,true,false,false,false,false,false,false,false] rfl rfl (any_of HT_.out (by kernel_rfl)) (fun _ _ _ h=>h) (Or.inl ⟨by rfl, ?_⟩) ?_ ?_
       rotate_left
       ·
        intro w'
        go_simp
        with_reducible rfl
       rotate_left
       ·
        simp only [Act.put,List.setIfInBounds_toArray,List.set_cons_zero,List.set_cons_succ,i64_w,i32_w]
        rfl
       refine take_ (i:=1) (N:=some 21) (v := ?_) (a' := ?_) #[true,true,true,false,true,false,false,false,false,false,false,false] rfl rfl (take_ofW HT_.out HW_.out (by kernel_rfl)) (fun _ _ _ h=>h) (Or.inl ⟨by rfl, ?_⟩) hHeld ?_ ?_
       rotate_left
       ·
        rintro w' ⟨s0,s1,s2,s3,s4,s5⟩
        go_simp
        with_reducible rfl
       rotate_left
       ·
        simp only [Act.put,List.setIfInBounds_toArray,List.set_cons_zero,List.set_cons_succ,i64_w,i32_w]
        rfl
       refine take_ (i:=3) (N:=some 23) (v := ?_) (a' := ?_) #[true,true,true,true,true,false,false,false,false,false,false,false] rfl rfl (take_ofW HT_.out HW_.out (by kernel_rfl)) (fun _ _ _ h=>h) (Or.inl ⟨by rfl, ?_⟩) hHeld ?_ ?_
       rotate_left
       ·
        rintro w' ⟨s0,s1,s2,s3,s4,s5⟩
        go_simp
        with_reducible rfl
       rotate_left
       ·
        simp only [Act.put,List.setIfInBounds_toArray,List.set_cons_zero,List.set_cons_succ,i64_w,i32_w]
        rfl
       refine pure_ (i:=5) (N:=some 25) (v := ?_) (a' := ?_) #[true,true,true,true,true,true,false,false,false,false,false,false] rfl rfl (any_of HT_.out (by kernel_rfl)) (fun _ _ _ h=>h) (Or.inl ⟨by rfl, ?_⟩) ?_ ?_
       rotate_left
       ·
        intro w'
        go_simp
        with_reducible rfl
       rotate_left
       ·
        simp only [Act.put,List.setIfInBounds_toArray,List.set_cons_zero,List.set_cons_succ,i64_w,i32_w]
        rfl
       refine take_ (i:=6) (N:=some 26) (v := ?_) (a' := ?_) #[true,true,true,true,true,true,true,false,false,false,false,false] rfl rfl (take_ofW HT_.out HW_.out (by kernel_rfl)) (fun _ _ _ h=>h) (Or.inl ⟨by rfl, ?_⟩) hHeld ?_ ?_
       rotate_left
       ·
        rintro w' ⟨s0,s1,s2,s3,s4,s5⟩
        go_simp
        with_reducible rfl
       rotate_left
       ·
        simp only [Act.put,List.setIfInBounds_toArray,List.set_cons_zero,List.set_cons_succ,i64_w,i32_w]
        rfl
       refine pure_ (i:=7) (N:=some 27) (v := ?_) (a' := ?_) #[true,true,true,true,true,true,true,true,false,false,false,false] rfl rfl (any_of HT_.out (by kernel_rfl)) (fun _ _ _ h=>h) (Or.inl ⟨by rfl, ?_⟩) ?_ ?_
       rotate_left
       ·
        intro w'
        go_simp
        with_reducible rfl
       rotate_left
       ·
        simp only [Act.put,List.setIfInBounds_toArray,List.set_cons_zero,List.set_cons_succ,i64_w,i32_w]
        rfl
       refine one_ (i:=8) (N:=some 28) #[true,true,true,true,true,true,true,true,true,false,false,false] rfl rfl (one_of HT_.out (by kernel_rfl)) (by decide) (fun K hK => ?_)
       refine value_ (w1 := ?_) (v := ?_) (by rfl) rfl ?_ ?_
       rotate_left 2
       ·
        go_simp
        constructor
        ·
         rfl
        ·
         rfl
       refine hK.out _ _ ⟨(zs (zi BK233.out _) 0).trans rfl,(zs (zi BK233.out _) 1).trans rfl,(zs (zi BK226.out _) 0).trans rfl,(zs (zi BK226.out _) 1).trans rfl,(zs (zi BK226.out _) 2).trans rfl,(World.cell?_alloc_lt _ _ _ (zb _ _ (((HB.out.cell (zb w _ hw234_0)).trans hw234_0)))).trans (((HB.out.cell (zb w _ hw234_0)).trans hw234_0))⟩ (fun hHeld => ?_)
       clear hK K
       refine norm_ (a' := ?_) ?_ ?_
       rotate_left
       ·
        show Act.put _ (some 28) _=_
        simp only [Act.put,List.setIfInBounds_toArray,List.set_cons_zero,List.set_cons_succ,i64_w,i32_w]
        rfl
       refine one_ (i:=9) (N:=some 29) #[true,true,true,true,true,true,true,true,true,true,false,false] rfl rfl (one_of HT_.out (by kernel_rfl)) (by decide) (fun K hK => ?_)
       refine Kd.R_append_step (Kd.int .i64) (w0:=w) w.heap.size (by rfl) (.tmp 21) (.tmp 28) 31 3 (.int .i64 0) 8 rfl Try.underlying31 info3 rfl (by decide) (by omega) u234001 x234001_1 (wrap64 (rd l0_2 x4_1)) [.int .i64 (wrap64 (rd l0_2 x4_1))] (fun _=>True) (fun _=>False) rfl rfl ?aP (fun _ hk=>hk.elim) ?aF ?aO ?aB ?aS ?aL ?_
       (case aP=>exact rfl)
       (case aB=>exact (by repeat (first|(with_reducible first|exact HB.out|apply ze|apply zd|apply zf|refine zk ?_ GE226.out|refine zk ?_ GE227.out|refine zk ?_ GE233.out)|exact HB.out)))
       (case aF=>exact (fun _ _=>trivial))
       (case aO=>exact (by (with_reducible repeat (first|apply zo|apply zp|apply zq));exact HO_234001.out))
       (case aS=>exact (zE (by repeat (first|(with_reducible first|exact HB.out|apply ze|apply zd|apply zf|refine zk ?_ GE226.out|refine zk ?_ GE227.out|refine zk ?_ GE233.out)|exact HB.out))))
       (case aL=>have:=LMc16.out;omega)
       intro v236 w21 ho hb hg hat
       rw [← Ny235.out] at ho
       have n0_:=zm (blk_grown (g:=gb226) (o:=.cells #[.int .u64 a0_0, .int .u32 a0_1, .slice (some ad234) l0_2.length c0_2] 26 (0,0)) (by (with_reducible repeat (first|refine zh ?_ _|refine zj ?_|refine zi ?_ _));exact BK226.out) hg (zu HO_234001.out BK226.out (by decide)))
       have n1_:=zm (blk_grown (g:=gb227) (o:=.cells #[.int .u64 0, .slice none 0 0] 33 (0,0)) (by (with_reducible repeat (first|refine zh ?_ _|refine zj ?_|refine zi ?_ _));exact BK227.out) hg (zu HO_234001.out BK227.out (by decide)))
       have n2_:=zm (blk_grown (g:=gb233) (o:=.cells #[.int .u64 (IntKind.u64.wrap (a0_1)),u234001] 33 (0,0)) (by (with_reducible repeat (first|refine zh ?_ _|refine zj ?_|refine zi ?_ _));exact BK233.out) hg (zu HO_234001.out BK233.out (by decide)))
       have n3_:=zm (hb);have n4_:=zm (ho);clear BK226;clear BK227;clear BK233;clear HB;clear HO_234001;have BK226:=n0_;have BK227:=n1_;have BK233:=n2_;have HB:=n3_;have HO237:=n4_;clear n0_ n1_ n2_ n3_ n4_;clear ho hb hg hat
       obtain ⟨Ao22,co22,eo22⟩:=Kd.R_slice HO237.out
       (first|subst eo22|(injection eo22 with f1_ f2_ f3_;have f4_:=f1_.symm;have f5_:=f3_.symm;clear f1_ f2_ f3_;subst f4_;subst f5_))
       refine hK.out _ _ ⟨(zs BK233.out 0).trans rfl,(zs BK233.out 1).trans rfl,(zs BK226.out 0).trans rfl,(zs BK226.out 1).trans rfl,(zs BK226.out 2).trans rfl,((HB.out.cell (zb w _ hw234_0)).trans hw234_0)⟩ (fun hHeld => ?_)
       clear hK K
       refine norm_ (a' := ?_) ?_ ?_
       rotate_left
       ·
        show Act.put _ (some 29) _=_
        simp only [Act.put,List.setIfInBounds_toArray,List.set_cons_zero,List.set_cons_succ,i64_w,i32_w]
        rfl
       refine pure_ (i:=10) (N:=some 30) (v := ?_) (a' := ?_) #[true,true,true,true,true,true,true,true,true,true,true,false] rfl rfl (any_of HT_.out (by kernel_rfl)) (fun _ _ _ h=>h) (Or.inl ⟨by rfl, ?_⟩) ?_ ?_
       rotate_left
       ·
        intro w'
        go_simp
        with_reducible rfl
       rotate_left
       ·
        simp only [Act.put,List.setIfInBounds_toArray,List.set_cons_zero,List.set_cons_succ,i64_w,i32_w]
        rfl
       refine last_ (i:=11) (N:=none) #[true,true,true,true,true,true,true,true,true,true,true,true] rfl rfl (one_of HT_.out (by kernel_rfl)) (by decide) (fun K hK => ?_)
       have hs23 : w21.cell? ⟨gb233,1,none⟩=some (u234001):=(zs BK233.out 1).trans rfl
       have hfs23:=zx BK233.out 1
       have hns23_0:=NB226_233.out;have hns23_1:=NB227_233.out;have hms23_0:=NB233_226.out;have hms23_1:=NB233_227.out
       refine skip_ (w1 := ?_) (by rfl) rfl ?_ ?_
       rotate_left
       ·
        go_simp
        rfl
       refine hK.out _ _ ?_
       clear hK K
       refine done_ (done_of HT_.out (by kernel_rfl)) ?_
       try go_wp2
       go_roundg k1
       case measure=>have:=HK1.out;omega
       case rel=>exact ⟨(wrap64 (x4_1+1)),(y235),(.slice Ao22 y235.length co22),(by first|rfl|(simp;done)|(simp [*];done)),H',⟨by have:=HK1.out;omega⟩,⟨by (with_reducible repeat (first|apply zo|apply zp|apply zq));exact zG (zH (p:=⟨gb233,1,none⟩) (Kd.R_types HO237.out BK233.out (by decide)) (fun _ hk=>hk.2) (.slice Ao22 y235.length co22)) (fun _ hk=>trivial)⟩,⟨by (with_reducible repeat (first|refine zh ?_ _|refine zj ?_|refine zi ?_ _|refine zv ?_ NB226_233.out _));exact BK226.out⟩,⟨by (with_reducible repeat (first|refine zh ?_ _|refine zj ?_|refine zi ?_ _|refine zv ?_ NB227_233.out _));exact BK227.out⟩,⟨by (with_reducible repeat (first|refine zh ?_ _|refine zj ?_|refine zi ?_ _));refine zw (cs := #[.int .u64 (IntKind.u64.wrap (a0_1)),u234001]) ?_ 1 _ rfl;(with_reducible repeat (first|refine zh ?_ _|refine zj ?_|refine zi ?_ _));exact BK233.out⟩,⟨by repeat (first|(with_reducible first|exact HB.out|apply ze|apply zd|apply zf|refine zk ?_ GE226.out|refine zk ?_ GE227.out|refine zk ?_ GE233.out)|exact HB.out)⟩⟩
      ·
       rw [if_neg c16] at H
       exact absurd H (by simp)
     ·
      rw [if_neg c15] at H
      exact absurd H (by simp)
    ·
     rw [if_neg c14] at H
     have c14b0 : decide (x4_1 < (l0_2.length : Int))=false:=decide_eq_false c14
     clear c14
     obtain ⟨y238,hy238⟩ : ∃ y_ : List Int,y_=(([wrap64 (IntKind.u64.wrap (Int.tdiv a0_0 16777216)),wrap64 (Int.tmod (IntKind.u64.wrap (Int.tdiv a0_0 65536)) 256),wrap64 (Int.tmod (IntKind.u64.wrap (Int.tdiv a0_0 256)) 256),wrap64 (Int.tmod a0_0 256)] : List Int)):=⟨_,rfl⟩
     replace H : (if x234001_1.length+y238.length < 17592186044416 then (some ((IntKind.u64.wrap (a0_1)),(x234001_1 ++ y238))) else (none))=some (r1,r2):=by first|(rw [hy238];with_reducible exact H)|(have H2_:=(Option.bind_some _ _).symm.trans H;rw [hy238];with_reducible exact H2_)|(have H2_:=(Option.bind_some _ _).symm.trans H;with_reducible exact H2_)|with_reducible exact H|(rw [hy238];exact H)|exact H
     have Ny238:=zm hy238;clear hy238
     by_cases c24 : x234001_1.length+y238.length < 17592186044416
     ·
      rw [if_pos c24] at H
      have LMc24:=zm c24;clear c24
      obtain ⟨y241,hy241⟩ : ∃ y_ : List Int,y_=(x234001_1 ++ y238):=⟨_,rfl⟩
      replace H : (some ((IntKind.u64.wrap (a0_1)),y241))=some (r1,r2):=by first|(rw [hy241];with_reducible exact H)|(have H2_:=(Option.bind_some _ _).symm.trans H;rw [hy241];with_reducible exact H2_)|(have H2_:=(Option.bind_some _ _).symm.trans H;with_reducible exact H2_)|with_reducible exact H|(rw [hy241];exact H)|exact H
      have Ny241:=zm hy241;clear hy241
      simp only [Option.some.injEq,Prod.mk.injEq] at H
      obtain ⟨rfl,rfl⟩:=H
      have hnb25:=NB226_227.out;have hnc25:=NB227_226.out;have hnb26:=NB226_233.out;have hnc26:=NB233_226.out
      have hcz27_0 : wr.cell? ⟨gb226,0,none⟩=some (.int .u64 a0_0):=(zs BK226.out 0).trans rfl
      have hcz27_1 : wr.cell? ⟨gb226,1,none⟩=some (.int .u32 a0_1):=(zs BK226.out 1).trans rfl
      have hcz27_2 : wr.cell? ⟨gb226,2,none⟩=some (.slice A0_2 l0_2.length c0_2):=(zs BK226.out 2).trans rfl
      have hfz27_0:=zx BK226.out 0
      have hfz27_1:=zx BK226.out 1
      have hfz27_2:=zx BK226.out 2
      have hnb28:=NB233_227.out;have hnc28:=NB227_233.out
      have hcz29_0 : wr.cell? ⟨gb233,0,none⟩=some (.int .u64 (IntKind.u64.wrap (a0_1))):=(zs BK233.out 0).trans rfl
      have hcz29_1 : wr.cell? ⟨gb233,1,none⟩=some (u234001):=(zs BK233.out 1).trans rfl
      have hfz29_0:=zx BK233.out 0
      have hfz29_1:=zx BK233.out 1
      go_wp2_with (first|((with_reducible refine gate_dst (N:=51) rfl ?_);refine Kd.R_lit (Kd.int .i64) _ 3 ?hg (N:=51) ?hd (xs:=([wrap64 (IntKind.u64.wrap (Int.tdiv a0_0 16777216)),wrap64 (Int.tmod (IntKind.u64.wrap (Int.tdiv a0_0 65536)) 256),wrap64 (Int.tmod (IntKind.u64.wrap (Int.tdiv a0_0 256)) 256),wrap64 (Int.tmod a0_0 256)] : List Int)) (inner := [.int .i64 (wrap64 (IntKind.u64.wrap (Int.tdiv a0_0 16777216))), .int .i64 (wrap64 (Int.tmod (IntKind.u64.wrap (Int.tdiv a0_0 65536)) 256)), .int .i64 (wrap64 (Int.tmod (IntKind.u64.wrap (Int.tdiv a0_0 256)) 256)), .int .i64 (wrap64 (Int.tmod a0_0 256))]) (ok:=fun _=>True) (okp:=fun _=>True) ?hr ?hp (fun _ hk=>hk) trivial (Below.refl _ _) (Nat.le_refl _) (by simp) ?_;(case hd=>rfl);(case hg=>rfl);(case hr=>first|(go_simp;done)|(go_simp;rfl));(case hp=>exact (Reps.one (show Kd.M (Kd.int .i64) _ _ _ (wrap64 (IntKind.u64.wrap (Int.tdiv a0_0 16777216))) [.int .i64 (wrap64 (IntKind.u64.wrap (Int.tdiv a0_0 16777216)))] from rfl) (Reps.one (show Kd.M (Kd.int .i64) _ _ _ (wrap64 (Int.tmod (IntKind.u64.wrap (Int.tdiv a0_0 65536)) 256)) [.int .i64 (wrap64 (Int.tmod (IntKind.u64.wrap (Int.tdiv a0_0 65536)) 256))] from rfl) (Reps.one (show Kd.M (Kd.int .i64) _ _ _ (wrap64 (Int.tmod (IntKind.u64.wrap (Int.tdiv a0_0 256)) 256)) [.int .i64 (wrap64 (Int.tmod (IntKind.u64.wrap (Int.tdiv a0_0 256)) 256))] from rfl) (Reps.one (show Kd.M (Kd.int .i64) _ _ _ (wrap64 (Int.tmod a0_0 256)) [.int .i64 (wrap64 (Int.tmod a0_0 256))] from rfl) (Reps.none _ _))))));intro v239 w30 ho31 hb hg_ hnew_;clear hg_ hnew_;(first|rw [← Ny238.out] at ho31|(simp only [Int.reduceToNat] at ho31;rw [← Ny238.out] at ho31));have n0_:=zm (Kd.R_elder' (by (with_reducible repeat (first|apply zo|apply zp|apply zq));exact HO_234001.out) (Kd.R_base ho31) hb);have n1_:=zm (Kd.R_lower (Kd.R_new' ho31 (Kd.R_lt (by (with_reducible repeat (first|apply zo|apply zp|apply zq));exact HO_234001.out))) (zE (by repeat (first|(with_reducible first|exact HB.out|apply ze|apply zd|apply zf|refine zk ?_ GE226.out|refine zk ?_ GE227.out|refine zk ?_ GE233.out)|exact HB.out))));have n2_:=zm (zF (g:=gb226) (o:=.cells #[.int .u64 a0_0, .int .u32 a0_1, .slice A0_2 l0_2.length c0_2] 26 (0,0)) (by (with_reducible repeat (first|refine zh ?_ _|refine zj ?_|refine zi ?_ _));exact BK226.out) hb);have n3_:=zm (zF (g:=gb227) (o:=.cells #[.int .u64 0, .slice none 0 0] 33 (0,0)) (by (with_reducible repeat (first|refine zh ?_ _|refine zj ?_|refine zi ?_ _));exact BK227.out) hb);have n4_:=zm (zF (g:=gb233) (o:=.cells #[.int .u64 (IntKind.u64.wrap (a0_1)),u234001] 33 (0,0)) (by (with_reducible repeat (first|refine zh ?_ _|refine zj ?_|refine zi ?_ _));exact BK233.out) hb);have n5_:=zm (zJ (by repeat (first|(with_reducible first|exact HB.out|apply ze|apply zd|apply zf|refine zk ?_ GE226.out|refine zk ?_ GE227.out|refine zk ?_ GE233.out)|exact HB.out)) hb);clear HO_234001;clear BK226;clear BK227;clear BK233;clear HB;have HO_234001:=n0_;have HO240:=n1_;have BK226:=n2_;have BK227:=n3_;have BK233:=n4_;have HB:=n5_;clear n0_ n1_ n2_ n3_ n4_ n5_;clear hb ho31;obtain ⟨Ao33,co33,eo33⟩:=Kd.R_slice HO240.out;subst eo33)|((with_reducible refine gate_builtin (b:=.append) (xs := #[.tmp 32, .tmp 51]) rfl ?_);at_builtin;refine Kd.R_append_rows (Kd.int .i64) (w0:=w) w.heap.size rfl (.tmp 32) (.tmp 51) 31 3 (.int .i64 0) 8 rfl Try.underlying31 info3 rfl (by decide) (by omega) u234001 x234001_1 y238 _ _ _ (fun k_=>some k_≠(.slice Ao33 y238.length co33 : Value).ownBlock) (fun _=>False) rfl rfl ?aO ?aR (fun _ _ h=>h) (fun _ h=>h.elim) ?aF ?aB ?aS ?aL ?_;(case aR=>repeat (first|exact (Kd.R_reads' HO240.out).2.2|(with_reducible refine Kd.C_alloc ?_ _)|(with_reducible refine Kd.C_drewN ?_ _)|(with_reducible refine Kd.C_drew ?_)));(case aB=>exact (by repeat (first|(with_reducible first|exact HB.out|apply ze|apply zd|apply zf|refine zk ?_ GE226.out|refine zk ?_ GE227.out|refine zk ?_ GE233.out)|exact HB.out)));(case aF=>exact (fun k_ hk=>Kd.fresh' (Kd.R_lt (by (with_reducible repeat (first|apply zo|apply zp|apply zq));exact HO240.out)) k_ hk));(case aO=>exact (by (with_reducible repeat (first|apply zo|apply zp|apply zq));exact zG HO_234001.out (fun _ hk=>hk.2)));(case aS=>exact (zE (by repeat (first|(with_reducible first|exact HB.out|apply ze|apply zd|apply zf|refine zk ?_ GE226.out|refine zk ?_ GE227.out|refine zk ?_ GE233.out)|exact HB.out))));(case aL=>have:=LMc24.out;omega);intro v242 w32 ho hb hg hat;rw [← Ny241.out] at ho;have n0_:=zm (blk_grown (g:=gb226) (o:=.cells #[.int .u64 a0_0, .int .u32 a0_1, .slice A0_2 l0_2.length c0_2] 26 (0,0)) (by (with_reducible repeat (first|refine zh ?_ _|refine zj ?_|refine zi ?_ _));exact BK226.out) hg (zu HO_234001.out BK226.out (by decide)));have n1_:=zm (blk_grown (g:=gb227) (o:=.cells #[.int .u64 0, .slice none 0 0] 33 (0,0)) (by (with_reducible repeat (first|refine zh ?_ _|refine zj ?_|refine zi ?_ _));exact BK227.out) hg (zu HO_234001.out BK227.out (by decide)));have n2_:=zm (blk_grown (g:=gb233) (o:=.cells #[.int .u64 (IntKind.u64.wrap (a0_1)),u234001] 33 (0,0)) (by (with_reducible repeat (first|refine zh ?_ _|refine zj ?_|refine zi ?_ _));exact BK233.out) hg (zu HO_234001.out BK233.out (by decide)));have n3_:=zm (Kd.R_after (ok:=(fun _=>True)) (by (with_reducible repeat (first|apply zo|apply zp|apply zq));exact HO240.out) hg hat);have n4_:=zm (hb);have n5_:=zm (ho);clear BK226;clear BK227;clear BK233;clear HO240;clear HB;clear HO_234001;have BK226:=n0_;have BK227:=n1_;have BK233:=n2_;have HO240:=n3_;have HB:=n4_;have HO243:=n5_;clear n0_ n1_ n2_ n3_ n4_ n5_;clear ho hb hg hat;obtain ⟨Ao34,co34,eo34⟩:=Kd.R_slice HO243.out;subst eo34;have hcz35_0 : w32.cell? ⟨gb233,0,none⟩=some (.int .u64 (IntKind.u64.wrap (a0_1))):=(zs BK233.out 0).trans rfl;have hcz35_1 : w32.cell? ⟨gb233,1,none⟩=some (u234001):=(zs BK233.out 1).trans rfl;have hfz35_0:=zx BK233.out 0;have hfz35_1:=zx BK233.out 1;have hcz36_0 : w32.cell? ⟨gb227,0,none⟩=some (.int .u64 0):=(zs BK227.out 0).trans rfl;have hcz36_1 : w32.cell? ⟨gb227,1,none⟩=some (.slice none 0 0):=(zs BK227.out 1).trans rfl;have hfz36_0:=zx BK227.out 0;have hfz36_1:=zx BK227.out 1))
      refine bodyPost_ret (results_cell_row rfl _ _ gb227 33 #[.int .u64 (IntKind.u64.wrap (a0_1)), .slice Ao34 y241.length co34] (0,0) _ rfl (by (with_reducible repeat (first|refine zh ?_ _|refine zj ?_|refine zi ?_ _));refine zw (cs := #[.int .u64 (IntKind.u64.wrap (a0_1)), .slice none 0 0]) ?_ 1 _ rfl;(with_reducible repeat (first|refine zh ?_ _|refine zj ?_|refine zi ?_ _));refine zw (cs := #[.int .u64 0, .slice none 0 0]) ?_ 0 _ rfl;(with_reducible repeat (first|refine zh ?_ _|refine zj ?_|refine zi ?_ _|refine zv ?_ NB227_233.out _));exact BK227.out) Try.underlying33 rfl (by kernel_rfl)) rfl ?_
      exact ⟨_,by first|rfl|(simp [errW_none,errW_some] <;> rfl)|(simp [*,errW_none,errW_some] <;> rfl),by (with_reducible repeat (first|apply zo|apply zp|apply zq));exact zG (zH (p:=⟨gb227,1,none⟩) (zH (p:=⟨gb227,0,none⟩) (zH (p:=⟨gb233,1,none⟩) (Kd.R_types (Kd.R_types HO243.out BK233.out (by decide)) BK227.out (by decide)) (fun _ hk=>hk.1.2) (.slice Ao34 y241.length co34)) (fun _ hk=>hk.2) (.int .u64 (IntKind.u64.wrap (a0_1)))) (fun _ hk=>hk.2) (.slice Ao34 y241.length co34)) (fun _ hk=>trivial),by repeat (first|(with_reducible first|exact HB.out|apply ze|apply zd|apply zf|refine zk ?_ GE226.out|refine zk ?_ GE227.out|refine zk ?_ GE233.out)|exact HB.out)⟩
     ·
      rw [if_neg c24] at H
      exact absurd H (by simp)
 ·
  replace c3:=Bool.eq_false_iff.mpr c3
  subst c3
  have H1 : ((psalteryref05_New.f).bind fun bt229=>(some (bt229.1,bt229.2)))=some (r1,r2):=by rw [if_neg (show ¬ (false=true) by decide)] at H;exact H
  clear H;have H:=H1;clear H1
  replace H:=Option.bind_eq_some_iff.mp H
  obtain ⟨⟨t229,t230⟩,A370,H⟩:=H
  replace H : (some (t229,t230))=some (r1,r2):=H
  have A37:=zm A370;clear A370
  simp only [Option.some.injEq,Prod.mk.injEq] at H
  obtain ⟨rfl,rfl⟩:=H
  go_enter Try.func20,Try.ntmps20
  go_wp2_with (first|((with_reducible refine gate_dst (N:=1) rfl ?_);refine box_event ?hg (N:=1) ?hd (cs := #[.int .u64 a0_0, .int .u32 a0_1, .slice A0_2 l0_2.length c0_2]) (t:=26) ?hr ?_;(case hd=>rfl);(case hg=>rfl);(case hr=>first|(go_simp;done)|(go_simp;rfl));intro gb226 hg w38 hbox hb;have n0_:=zm (zJ (by repeat (first|(with_reducible first|exact HB.out|apply ze|apply zd|apply zf)|exact HB.out)) hb);have n1_:=zm (hbox);have n2_:=zm ((by rw [hg];exact (zE (by repeat (first|(with_reducible first|exact HB.out|apply ze|apply zd|apply zf)|exact HB.out))) : w.heap.size≤gb226));have n3_:=zm ((by rw [hg];exact (zE (by repeat (first|(with_reducible first|exact HB.out|apply ze|apply zd|apply zf)|exact HB.out))) : w.heap.size≤gb226));clear HB;have HB:=n0_;have BK226:=n1_;have GW226:=n2_;have GE226:=n3_;clear n0_ n1_ n2_ n3_;clear hb hbox hg)|((with_reducible refine gate_dst (N:=2) rfl ?_);refine box_event ?hg (N:=2) ?hd (cs := #[.int .u64 0, .slice none 0 0]) (t:=33) ?hr ?_;(case hd=>rfl);(case hg=>rfl);(case hr=>first|(go_simp;done)|(go_simp;rfl));intro gb227 hg w39 hbox hb;have n0_:=zm (zF (g:=gb226) (o:=.cells #[.int .u64 a0_0, .int .u32 a0_1, .slice A0_2 l0_2.length c0_2] 26 (0,0)) (by (with_reducible repeat (first|refine zh ?_ _|refine zj ?_|refine zi ?_ _));exact BK226.out) hb);have n1_:=zm (zJ (by repeat (first|(with_reducible first|exact HB.out|apply ze|apply zd|apply zf|refine zk ?_ GE226.out)|exact HB.out)) hb);have n2_:=zm (hbox);have n3_:=zm ((by rw [hg];exact (zE (by repeat (first|(with_reducible first|exact HB.out|apply ze|apply zd|apply zf|refine zk ?_ GE226.out)|exact HB.out))) : w.heap.size≤gb227));have n4_:=zm ((by rw [hg];exact (zE (by repeat (first|(with_reducible first|exact HB.out|apply ze|apply zd|apply zf|refine zk ?_ GE226.out)|exact HB.out))) : w.heap.size≤gb227));have n5_:=zm ((by rw [hg];exact zn (zD (g:=gb226) (o:=.cells #[.int .u64 a0_0, .int .u32 a0_1, .slice A0_2 l0_2.length c0_2] 26 (0,0)) (by (with_reducible repeat (first|refine zh ?_ _|refine zj ?_|refine zi ?_ _));exact BK226.out)) : gb226≠gb227));have n6_:=zm ((by rw [hg];exact zg (zD (g:=gb226) (o:=.cells #[.int .u64 a0_0, .int .u32 a0_1, .slice A0_2 l0_2.length c0_2] 26 (0,0)) (by (with_reducible repeat (first|refine zh ?_ _|refine zj ?_|refine zi ?_ _));exact BK226.out)) : gb227≠gb226));clear BK226;clear HB;have BK226:=n0_;have HB:=n1_;have BK227:=n2_;have GW227:=n3_;have GE227:=n4_;have NB226_227:=n5_;have NB227_226:=n6_;clear n0_ n1_ n2_ n3_ n4_ n5_ n6_;clear hb hbox hg;have hnb40:=NB226_227.out;have hnc40:=NB227_226.out;have hcz41_0 : w39.cell? ⟨gb226,0,none⟩=some (.int .u64 a0_0):=(zs BK226.out 0).trans rfl;have hcz41_1 : w39.cell? ⟨gb226,1,none⟩=some (.int .u32 a0_1):=(zs BK226.out 1).trans rfl;have hcz41_2 : w39.cell? ⟨gb226,2,none⟩=some (.slice A0_2 l0_2.length c0_2):=(zs BK226.out 2).trans rfl;have hfz41_0:=zx BK226.out 0;have hfz41_1:=zx BK226.out 1;have hfz41_2:=zx BK226.out 2)|((with_reducible refine gate_callee (f:=22) rfl ?_);refine goesL_ (some 6) rfl rfl Try.func22 (by kernel_rfl) rfl #[.agg #[.int .u64 a0_0, .int .u32 a0_1, .slice A0_2 l0_2.length c0_2]] rfl (by (try simp only [List.map_toArray,List.map_cons,List.map_nil]);first|done|rfl|(simp only [List.length_drop,List.length_take];rfl)) ?_;(with_reducible refine (psalterylaw05_right.calls a0_0 a0_1 _ _ l0_2 false _ ?side1 ?side2 A2.out).mono ?_);(case side1=>repeat (first|exact (Kd.C_below HR0_2.out HB.out)|(with_reducible refine Kd.C_alloc ?_ _)|(with_reducible refine Kd.C_drewN ?_ _)|(with_reducible refine Kd.C_drew ?_)));(case side2=>exact HC0_2.out);rintro e w42 ⟨rfl,hb⟩;refine ⟨_,rfl, ?_⟩;have n0_:=zm (zF (g:=gb226) (o:=.cells #[.int .u64 a0_0, .int .u32 a0_1, .slice A0_2 l0_2.length c0_2] 26 (0,0)) (by (with_reducible repeat (first|refine zh ?_ _|refine zj ?_|refine zi ?_ _));exact BK226.out) hb);have n1_:=zm (zF (g:=gb227) (o:=.cells #[.int .u64 0, .slice none 0 0] 33 (0,0)) (by (with_reducible repeat (first|refine zh ?_ _|refine zj ?_|refine zi ?_ _));exact BK227.out) hb);have n2_:=zm (zJ (by repeat (first|(with_reducible first|exact HB.out|apply ze|apply zd|apply zf|refine zk ?_ GE226.out|refine zk ?_ GE227.out)|exact HB.out)) hb);clear BK226;clear BK227;clear HB;have BK226:=n0_;have BK227:=n1_;have HB:=n2_;clear n0_ n1_ n2_;(try clear hb);(try clear hb2);(try clear hk);(try clear hi))|((with_reducible refine gate_callee (f:=57) rfl ?_);refine goesL_ (some 8) rfl rfl Try.func57 (by kernel_rfl) rfl #[] rfl (by (try simp only [List.map_toArray,List.map_cons,List.map_nil]);first|done|rfl|(simp only [List.length_drop,List.length_take];rfl)) ?_;(with_reducible refine (psalteryref05_New.calls  t229 t230 _ A37.out).mono ?_);rintro e w43 ⟨v231,rfl,ho0,hb⟩;refine ⟨_,rfl, ?_⟩;have n0_:=zm (Kd.R_lower ho0 (zE (by repeat (first|(with_reducible first|exact HB.out|apply ze|apply zd|apply zf|refine zk ?_ GE226.out|refine zk ?_ GE227.out)|exact HB.out))));have n1_:=zm (zF (g:=gb226) (o:=.cells #[.int .u64 a0_0, .int .u32 a0_1, .slice A0_2 l0_2.length c0_2] 26 (0,0)) (by (with_reducible repeat (first|refine zh ?_ _|refine zj ?_|refine zi ?_ _));exact BK226.out) hb);have n2_:=zm (zF (g:=gb227) (o:=.cells #[.int .u64 0, .slice none 0 0] 33 (0,0)) (by (with_reducible repeat (first|refine zh ?_ _|refine zj ?_|refine zi ?_ _));exact BK227.out) hb);have n3_:=zm (zJ (by repeat (first|(with_reducible first|exact HB.out|apply ze|apply zd|apply zf|refine zk ?_ GE226.out|refine zk ?_ GE227.out)|exact HB.out)) hb);clear BK226;clear BK227;clear HB;have HO232:=n0_;have BK226:=n1_;have BK227:=n2_;have HB:=n3_;clear n0_ n1_ n2_ n3_;(try clear hb);(try clear hb2);(try clear hk);(try clear hi);(try clear ho0);have hcz44_0 : w43.cell? ⟨gb227,0,none⟩=some (.int .u64 0):=(zs BK227.out 0).trans rfl;have hcz44_1 : w43.cell? ⟨gb227,1,none⟩=some (.slice none 0 0):=(zs BK227.out 1).trans rfl;have hfz44_0:=zx BK227.out 0;have hfz44_1:=zx BK227.out 1;obtain ⟨Ao45,co45,eo45⟩:=Kd.R_slice HO232.out;subst eo45))
  refine bodyPost_ret (results_cell_row rfl _ _ gb227 33 #[.int .u64 t229, .slice Ao45 t230.length co45] (0,0) _ rfl (by (with_reducible repeat (first|refine zh ?_ _|refine zj ?_|refine zi ?_ _));refine zw (cs := #[.int .u64 t229, .slice none 0 0]) ?_ 1 _ rfl;(with_reducible repeat (first|refine zh ?_ _|refine zj ?_|refine zi ?_ _));refine zw (cs := #[.int .u64 0, .slice none 0 0]) ?_ 0 _ rfl;(with_reducible repeat (first|refine zh ?_ _|refine zj ?_|refine zi ?_ _));exact BK227.out) Try.underlying33 rfl (by kernel_rfl)) rfl ?_
  exact ⟨_,by first|rfl|(simp [errW_none,errW_some] <;> rfl)|(simp [*,errW_none,errW_some] <;> rfl),by (with_reducible repeat (first|apply zo|apply zp|apply zq));exact zG (zH (p:=⟨gb227,1,none⟩) (zH (p:=⟨gb227,0,none⟩) (Kd.R_types HO232.out BK227.out (by decide)) (fun _ hk=>hk.2) (.int .u64 t229)) (fun _ hk=>hk.2) (.slice Ao45 t230.length co45)) (fun _ hk=>trivial),by repeat (first|(with_reducible first|exact HB.out|apply ze|apply zd|apply zf|refine zk ?_ GE226.out|refine zk ?_ GE227.out)|exact HB.out)⟩

end Go.Proofs.Ytkaoiblgfpphoaa.Prt

namespace Go.Proofs.Ytkaoiblgfpphoaa.Prt
open Go.RowKit Go.Proofs.YtkaoiblgfpphoaaW.PrintWords Go.Proofs.YtkaoiblgfpphoaaW.PrintLast Go.Proofs.YtkaoiblgfpphoaaW.PrintMore
attribute [local go_sem] max2_int min2_int max_two min_two max_three min_three max_four min_four   -- for this text's walks alone
set_option linter.unusedVariables false
set_option linter.unusedSimpArgs false

/-! ### psalterylaw05_SameDec: function 25 -/
def psalterylaw05_SameDec.f (a0_0 : Int) (a0_1 : Int) (l0_2 : List Int) (a0_3 : Int) (a1_0 : Int) (a1_1 : Int) (l1_2 : List Int) (a1_3 : Int) : Option (Bool):=if a0_0=a1_0 then (if (IntKind.u64.wrap (a0_1))=a1_1 then (if (strOfNums l0_2).toList=(strOfNums l1_2).toList then (some (a0_3 == a1_3)) else (some false)) else (some false)) else (some false)
set_option maxHeartbeats 8000000 in
set_option maxRecDepth 100000 in
theorem psalterylaw05_SameDec.calls (a0_0 : Int) (a0_1 : Int) (A0_2 : Option Addr) (c0_2 : Nat) (l0_2 : List Int) (a0_3 : Int) (a1_0 : Int) (a1_1 : Int) (A1_2 : Option Addr) (c1_2 : Nat) (l1_2 : List Int) (a1_3 : Int) (r : Bool) (w : World) (hr0_2 : Kd.C (Kd.int .u8) w A0_2 l0_2.length l0_2) (hc0_2 : l0_2.length≤c0_2) (hr1_2 : Kd.C (Kd.int .u8) w A1_2 l1_2.length l1_2) (hc1_2 : l1_2.length≤c1_2) (h : psalterylaw05_SameDec.f a0_0 a0_1 l0_2 a0_3 a1_0 a1_1 l1_2 a1_3=some r) :
  Calls Try.prog 25 #[.agg #[.int .u64 a0_0, .int .u32 a0_1, .slice A0_2 l0_2.length c0_2, .int .i64 a0_3], .agg #[.int .u64 a1_0, .int .u64 a1_1, .slice A1_2 l1_2.length c1_2, .int .i64 a1_3]] w fun e w' => e=.returned (.bool r)∧Below w.heap.size w w' := by
 have hu43:=Try.underlying43;have hu46:=Try.underlying46;have HR0_2:=zm hr0_2;have HC0_2:=zm hc0_2;clear hr0_2 hc0_2;have HR1_2:=zm hr1_2;have HC1_2:=zm hc1_2;clear hr1_2 hc1_2;have HB:=zm (Below.refl w.heap.size w)
 have H : (if a0_0=a1_0 then (if (IntKind.u64.wrap (a0_1))=a1_1 then (if (strOfNums l0_2).toList=(strOfNums l1_2).toList then (some (a0_3 == a1_3)) else (some false)) else (some false)) else (some false))=some r:=h
 clear h
 by_cases c3 : a0_0=a1_0
 ·
  rw [if_pos c3] at H
  have c3b0 : (a0_0 == a1_0)=true:=beq_iff_eq.mpr c3
  have c3b1 : (a0_0 != a1_0)=false:=bne_eq_false_iff_eq.mpr c3
  clear c3
  by_cases c4 : (IntKind.u64.wrap (a0_1))=a1_1
  ·
   rw [if_pos c4] at H
   have c4b0 : ((IntKind.u64.wrap (a0_1)) == a1_1)=true:=beq_iff_eq.mpr c4
   have c4b1 : ((IntKind.u64.wrap (a0_1)) != a1_1)=false:=bne_eq_false_iff_eq.mpr c4
   clear c4
   by_cases c5 : (strOfNums l0_2).toList=(strOfNums l1_2).toList
   ·
    rw [if_pos c5] at H
    have c5b0 : ((strOfNums l0_2).toList == (strOfNums l1_2).toList)=true:=beq_iff_eq.mpr c5
    have c5b1 : ((strOfNums l0_2).toList != (strOfNums l1_2).toList)=false:=bne_eq_false_iff_eq.mpr c5
    clear c5
    obtain rfl:=Option.some.inj H
    go_enter Try.func25,Try.ntmps25
    go_wp2_with (first|((with_reducible refine gate_dst (N:=2) rfl ?_);refine box_event ?hg (N:=2) ?hd (cs := #[.int .u64 a0_0, .int .u32 a0_1, .slice A0_2 l0_2.length c0_2, .int .i64 a0_3]) (t:=43) ?hr ?_;(case hd=>rfl);(case hg=>rfl);(case hr=>first|(go_simp;done)|(go_simp;rfl));intro gb282 hg w6 hbox hb;have n0_:=zm (zJ (by repeat (first|(with_reducible first|exact HB.out|apply ze|apply zd|apply zf)|exact HB.out)) hb);have n1_:=zm (hbox);have n2_:=zm ((by rw [hg];exact (zE (by repeat (first|(with_reducible first|exact HB.out|apply ze|apply zd|apply zf)|exact HB.out))) : w.heap.size≤gb282));have n3_:=zm ((by rw [hg];exact (zE (by repeat (first|(with_reducible first|exact HB.out|apply ze|apply zd|apply zf)|exact HB.out))) : w.heap.size≤gb282));clear HB;have HB:=n0_;have BK282:=n1_;have GW282:=n2_;have GE282:=n3_;clear n0_ n1_ n2_ n3_;clear hb hbox hg)|((with_reducible refine gate_dst (N:=3) rfl ?_);refine box_event ?hg (N:=3) ?hd (cs := #[.int .u64 a1_0, .int .u64 a1_1, .slice A1_2 l1_2.length c1_2, .int .i64 a1_3]) (t:=46) ?hr ?_;(case hd=>rfl);(case hg=>rfl);(case hr=>first|(go_simp;done)|(go_simp;rfl));intro gb283 hg w7 hbox hb;have n0_:=zm (zF (g:=gb282) (o:=.cells #[.int .u64 a0_0, .int .u32 a0_1, .slice A0_2 l0_2.length c0_2, .int .i64 a0_3] 43 (0,0)) (by (with_reducible repeat (first|refine zh ?_ _|refine zj ?_|refine zi ?_ _));exact BK282.out) hb);have n1_:=zm (zJ (by repeat (first|(with_reducible first|exact HB.out|apply ze|apply zd|apply zf|refine zk ?_ GE282.out)|exact HB.out)) hb);have n2_:=zm (hbox);have n3_:=zm ((by rw [hg];exact (zE (by repeat (first|(with_reducible first|exact HB.out|apply ze|apply zd|apply zf|refine zk ?_ GE282.out)|exact HB.out))) : w.heap.size≤gb283));have n4_:=zm ((by rw [hg];exact (zE (by repeat (first|(with_reducible first|exact HB.out|apply ze|apply zd|apply zf|refine zk ?_ GE282.out)|exact HB.out))) : w.heap.size≤gb283));have n5_:=zm ((by rw [hg];exact zn (zD (g:=gb282) (o:=.cells #[.int .u64 a0_0, .int .u32 a0_1, .slice A0_2 l0_2.length c0_2, .int .i64 a0_3] 43 (0,0)) (by (with_reducible repeat (first|refine zh ?_ _|refine zj ?_|refine zi ?_ _));exact BK282.out)) : gb282≠gb283));have n6_:=zm ((by rw [hg];exact zg (zD (g:=gb282) (o:=.cells #[.int .u64 a0_0, .int .u32 a0_1, .slice A0_2 l0_2.length c0_2, .int .i64 a0_3] 43 (0,0)) (by (with_reducible repeat (first|refine zh ?_ _|refine zj ?_|refine zi ?_ _));exact BK282.out)) : gb283≠gb282));clear BK282;clear HB;have BK282:=n0_;have HB:=n1_;have BK283:=n2_;have GW283:=n3_;have GE283:=n4_;have NB282_283:=n5_;have NB283_282:=n6_;clear n0_ n1_ n2_ n3_ n4_ n5_ n6_;clear hb hbox hg;have hnb8:=NB282_283.out;have hnc8:=NB283_282.out;have hcz9_0 : w7.cell? ⟨gb282,0,none⟩=some (.int .u64 a0_0):=(zs BK282.out 0).trans rfl;have hcz9_1 : w7.cell? ⟨gb282,1,none⟩=some (.int .u32 a0_1):=(zs BK282.out 1).trans rfl;have hcz9_2 : w7.cell? ⟨gb282,2,none⟩=some (.slice A0_2 l0_2.length c0_2):=(zs BK282.out 2).trans rfl;have hcz9_3 : w7.cell? ⟨gb282,3,none⟩=some (.int .i64 a0_3):=(zs BK282.out 3).trans rfl;have hfz9_0:=zx BK282.out 0;have hfz9_1:=zx BK282.out 1;have hfz9_2:=zx BK282.out 2;have hfz9_3:=zx BK282.out 3;have hcz10_0 : w7.cell? ⟨gb283,0,none⟩=some (.int .u64 a1_0):=(zs BK283.out 0).trans rfl;have hcz10_1 : w7.cell? ⟨gb283,1,none⟩=some (.int .u64 a1_1):=(zs BK283.out 1).trans rfl;have hcz10_2 : w7.cell? ⟨gb283,2,none⟩=some (.slice A1_2 l1_2.length c1_2):=(zs BK283.out 2).trans rfl;have hcz10_3 : w7.cell? ⟨gb283,3,none⟩=some (.int .i64 a1_3):=(zs BK283.out 3).trans rfl;have hfz10_0:=zx BK283.out 0;have hfz10_1:=zx BK283.out 1;have hfz10_2:=zx BK283.out 2;have hfz10_3:=zx BK283.out 3;have hcv11:=Kd.C_string (P:=Try.prog) (A:=A0_2) (c:=c0_2) Try.underlying24 Try.underlying5 Try.underlying9 (Kd.C_below HR0_2.out HB.out);have hcv12:=Kd.C_string (P:=Try.prog) (A:=A1_2) (c:=c1_2) Try.underlying24 Try.underlying5 Try.underlying9 (Kd.C_below HR1_2.out HB.out)))
    go_ret
    exact ⟨by first|rfl|(simp [errW_none,errW_some] <;> rfl)|(simp [*,errW_none,errW_some] <;> rfl),by repeat (first|(with_reducible first|exact HB.out|apply ze|apply zd|apply zf|refine zk ?_ GE282.out|refine zk ?_ GE283.out)|exact HB.out)⟩
   ·
    rw [if_neg c5] at H
    have c5b0 : ((strOfNums l0_2).toList == (strOfNums l1_2).toList)=false:=beq_eq_false_iff_ne.mpr c5
    have c5b1 : ((strOfNums l0_2).toList != (strOfNums l1_2).toList)=true:=bne_iff_ne.mpr c5
    obtain rfl:=Option.some.inj H
    go_enter Try.func25,Try.ntmps25
    go_wp2_with (first|((with_reducible refine gate_dst (N:=2) rfl ?_);refine box_event ?hg (N:=2) ?hd (cs := #[.int .u64 a0_0, .int .u32 a0_1, .slice A0_2 l0_2.length c0_2, .int .i64 a0_3]) (t:=43) ?hr ?_;(case hd=>rfl);(case hg=>rfl);(case hr=>first|(go_simp;done)|(go_simp;rfl));intro gb282 hg w13 hbox hb;have n0_:=zm (zJ (by repeat (first|(with_reducible first|exact HB.out|apply ze|apply zd|apply zf)|exact HB.out)) hb);have n1_:=zm (hbox);have n2_:=zm ((by rw [hg];exact (zE (by repeat (first|(with_reducible first|exact HB.out|apply ze|apply zd|apply zf)|exact HB.out))) : w.heap.size≤gb282));have n3_:=zm ((by rw [hg];exact (zE (by repeat (first|(with_reducible first|exact HB.out|apply ze|apply zd|apply zf)|exact HB.out))) : w.heap.size≤gb282));clear HB;have HB:=n0_;have BK282:=n1_;have GW282:=n2_;have GE282:=n3_;clear n0_ n1_ n2_ n3_;clear hb hbox hg)|((with_reducible refine gate_dst (N:=3) rfl ?_);refine box_event ?hg (N:=3) ?hd (cs := #[.int .u64 a1_0, .int .u64 a1_1, .slice A1_2 l1_2.length c1_2, .int .i64 a1_3]) (t:=46) ?hr ?_;(case hd=>rfl);(case hg=>rfl);(case hr=>first|(go_simp;done)|(go_simp;rfl));intro gb283 hg w14 hbox hb;have n0_:=zm (zF (g:=gb282) (o:=.cells #[.int .u64 a0_0, .int .u32 a0_1, .slice A0_2 l0_2.length c0_2, .int .i64 a0_3] 43 (0,0)) (by (with_reducible repeat (first|refine zh ?_ _|refine zj ?_|refine zi ?_ _));exact BK282.out) hb);have n1_:=zm (zJ (by repeat (first|(with_reducible first|exact HB.out|apply ze|apply zd|apply zf|refine zk ?_ GE282.out)|exact HB.out)) hb);have n2_:=zm (hbox);have n3_:=zm ((by rw [hg];exact (zE (by repeat (first|(with_reducible first|exact HB.out|apply ze|apply zd|apply zf|refine zk ?_ GE282.out)|exact HB.out))) : w.heap.size≤gb283));have n4_:=zm ((by rw [hg];exact (zE (by repeat (first|(with_reducible first|exact HB.out|apply ze|apply zd|apply zf|refine zk ?_ GE282.out)|exact HB.out))) : w.heap.size≤gb283));have n5_:=zm ((by rw [hg];exact zn (zD (g:=gb282) (o:=.cells #[.int .u64 a0_0, .int .u32 a0_1, .slice A0_2 l0_2.length c0_2, .int .i64 a0_3] 43 (0,0)) (by (with_reducible repeat (first|refine zh ?_ _|refine zj ?_|refine zi ?_ _));exact BK282.out)) : gb282≠gb283));have n6_:=zm ((by rw [hg];exact zg (zD (g:=gb282) (o:=.cells #[.int .u64 a0_0, .int .u32 a0_1, .slice A0_2 l0_2.length c0_2, .int .i64 a0_3] 43 (0,0)) (by (with_reducible repeat (first|refine zh ?_ _|refine zj ?_|refine zi ?_ _));exact BK282.out)) : gb283≠gb282));clear BK282;clear HB;have BK282:=n0_;have HB:=n1_;have BK283:=n2_;have GW283:=n3_;have GE283:=n4_;have NB282_283:=n5_;have NB283_282:=n6_;clear n0_ n1_ n2_ n3_ n4_ n5_ n6_;clear hb hbox hg;have hnb15:=NB282_283.out;have hnc15:=NB283_282.out;have hcz16_0 : w14.cell? ⟨gb282,0,none⟩=some (.int .u64 a0_0):=(zs BK282.out 0).trans rfl;have hcz16_1 : w14.cell? ⟨gb282,1,none⟩=some (.int .u32 a0_1):=(zs BK282.out 1).trans rfl;have hcz16_2 : w14.cell? ⟨gb282,2,none⟩=some (.slice A0_2 l0_2.length c0_2):=(zs BK282.out 2).trans rfl;have hcz16_3 : w14.cell? ⟨gb282,3,none⟩=some (.int .i64 a0_3):=(zs BK282.out 3).trans rfl;have hfz16_0:=zx BK282.out 0;have hfz16_1:=zx BK282.out 1;have hfz16_2:=zx BK282.out 2;have hfz16_3:=zx BK282.out 3;have hcz17_0 : w14.cell? ⟨gb283,0,none⟩=some (.int .u64 a1_0):=(zs BK283.out 0).trans rfl;have hcz17_1 : w14.cell? ⟨gb283,1,none⟩=some (.int .u64 a1_1):=(zs BK283.out 1).trans rfl;have hcz17_2 : w14.cell? ⟨gb283,2,none⟩=some (.slice A1_2 l1_2.length c1_2):=(zs BK283.out 2).trans rfl;have hcz17_3 : w14.cell? ⟨gb283,3,none⟩=some (.int .i64 a1_3):=(zs BK283.out 3).trans rfl;have hfz17_0:=zx BK283.out 0;have hfz17_1:=zx BK283.out 1;have hfz17_2:=zx BK283.out 2;have hfz17_3:=zx BK283.out 3;have hcv18:=Kd.C_string (P:=Try.prog) (A:=A0_2) (c:=c0_2) Try.underlying24 Try.underlying5 Try.underlying9 (Kd.C_below HR0_2.out HB.out);have hcv19:=Kd.C_string (P:=Try.prog) (A:=A1_2) (c:=c1_2) Try.underlying24 Try.underlying5 Try.underlying9 (Kd.C_below HR1_2.out HB.out)))
    go_ret
    exact ⟨by first|rfl|(simp [errW_none,errW_some] <;> rfl)|(simp [*,errW_none,errW_some] <;> rfl),by repeat (first|(with_reducible first|exact HB.out|apply ze|apply zd|apply zf|refine zk ?_ GE282.out|refine zk ?_ GE283.out)|exact HB.out)⟩
  ·
   rw [if_neg c4] at H
   have c4b0 : ((IntKind.u64.wrap (a0_1)) == a1_1)=false:=beq_eq_false_iff_ne.mpr c4
   have c4b1 : ((IntKind.u64.wrap (a0_1)) != a1_1)=true:=bne_iff_ne.mpr c4
   obtain rfl:=Option.some.inj H
   go_enter Try.func25,Try.ntmps25
   go_wp2_with (first|((with_reducible refine gate_dst (N:=2) rfl ?_);refine box_event ?hg (N:=2) ?hd (cs := #[.int .u64 a0_0, .int .u32 a0_1, .slice A0_2 l0_2.length c0_2, .int .i64 a0_3]) (t:=43) ?hr ?_;(case hd=>rfl);(case hg=>rfl);(case hr=>first|(go_simp;done)|(go_simp;rfl));intro gb282 hg w20 hbox hb;have n0_:=zm (zJ (by repeat (first|(with_reducible first|exact HB.out|apply ze|apply zd|apply zf)|exact HB.out)) hb);have n1_:=zm (hbox);have n2_:=zm ((by rw [hg];exact (zE (by repeat (first|(with_reducible first|exact HB.out|apply ze|apply zd|apply zf)|exact HB.out))) : w.heap.size≤gb282));have n3_:=zm ((by rw [hg];exact (zE (by repeat (first|(with_reducible first|exact HB.out|apply ze|apply zd|apply zf)|exact HB.out))) : w.heap.size≤gb282));clear HB;have HB:=n0_;have BK282:=n1_;have GW282:=n2_;have GE282:=n3_;clear n0_ n1_ n2_ n3_;clear hb hbox hg)|((with_reducible refine gate_dst (N:=3) rfl ?_);refine box_event ?hg (N:=3) ?hd (cs := #[.int .u64 a1_0, .int .u64 a1_1, .slice A1_2 l1_2.length c1_2, .int .i64 a1_3]) (t:=46) ?hr ?_;(case hd=>rfl);(case hg=>rfl);(case hr=>first|(go_simp;done)|(go_simp;rfl));intro gb283 hg w21 hbox hb;have n0_:=zm (zF (g:=gb282) (o:=.cells #[.int .u64 a0_0, .int .u32 a0_1, .slice A0_2 l0_2.length c0_2, .int .i64 a0_3] 43 (0,0)) (by (with_reducible repeat (first|refine zh ?_ _|refine zj ?_|refine zi ?_ _));exact BK282.out) hb);have n1_:=zm (zJ (by repeat (first|(with_reducible first|exact HB.out|apply ze|apply zd|apply zf|refine zk ?_ GE282.out)|exact HB.out)) hb);have n2_:=zm (hbox);have n3_:=zm ((by rw [hg];exact (zE (by repeat (first|(with_reducible first|exact HB.out|apply ze|apply zd|apply zf|refine zk ?_ GE282.out)|exact HB.out))) : w.heap.size≤gb283));have n4_:=zm ((by rw [hg];exact (zE (by repeat (first|(with_reducible first|exact HB.out|apply ze|apply zd|apply zf|refine zk ?_ GE282.out)|exact HB.out))) : w.heap.size≤gb283));have n5_:=zm ((by rw [hg];exact zn (zD (g:=gb282) (o:=.cells #[.int .u64 a0_0, .int .u32 a0_1, .slice A0_2 l0_2.length c0_2, .int .i64 a0_3] 43 (0,0)) (by (with_reducible repeat (first|refine zh ?_ _|refine zj ?_|refine zi ?_ _));exact BK282.out)) : gb282≠gb283));have n6_:=zm ((by rw [hg];exact zg (zD (g:=gb282) (o:=.cells #[.int .u64 a0_0, .int .u32 a0_1, .slice A0_2 l0_2.length c0_2, .int .i64 a0_3] 43 (0,0)) (by (with_reducible repeat (first|refine zh ?_ _|refine zj ?_|refine zi ?_ _));exact BK282.out)) : gb283≠gb282));clear BK282;clear HB;have BK282:=n0_;have HB:=n1_;have BK283:=n2_;have GW283:=n3_;have GE283:=n4_;have NB282_283:=n5_;have NB283_282:=n6_;clear n0_ n1_ n2_ n3_ n4_ n5_ n6_;clear hb hbox hg;have hnb22:=NB282_283.out;have hnc22:=NB283_282.out;have hcz23_0 : w21.cell? ⟨gb282,0,none⟩=some (.int .u64 a0_0):=(zs BK282.out 0).trans rfl;have hcz23_1 : w21.cell? ⟨gb282,1,none⟩=some (.int .u32 a0_1):=(zs BK282.out 1).trans rfl;have hcz23_2 : w21.cell? ⟨gb282,2,none⟩=some (.slice A0_2 l0_2.length c0_2):=(zs BK282.out 2).trans rfl;have hcz23_3 : w21.cell? ⟨gb282,3,none⟩=some (.int .i64 a0_3):=(zs BK282.out 3).trans rfl;have hfz23_0:=zx BK282.out 0;have hfz23_1:=zx BK282.out 1;have hfz23_2:=zx BK282.out 2;have hfz23_3:=zx BK282.out 3;have hcz24_0 : w21.cell? ⟨gb283,0,none⟩=some (.int .u64 a1_0):=(zs BK283.out 0).trans rfl;have hcz24_1 : w21.cell? ⟨gb283,1,none⟩=some (.int .u64 a1_1):=(zs BK283.out 1).trans rfl;have hcz24_2 : w21.cell? ⟨gb283,2,none⟩=some (.slice A1_2 l1_2.length c1_2):=(zs BK283.out 2).trans rfl;have hcz24_3 : w21.cell? ⟨gb283,3,none⟩=some (.int .i64 a1_3):=(zs BK283.out 3).trans rfl;have hfz24_0:=zx BK283.out 0;have hfz24_1:=zx BK283.out 1;have hfz24_2:=zx BK283.out 2;have hfz24_3:=zx BK283.out 3))
   go_ret
   exact ⟨by first|rfl|(simp [errW_none,errW_some] <;> rfl)|(simp [*,errW_none,errW_some] <;> rfl),by repeat (first|(with_reducible first|exact HB.out|apply ze|apply zd|apply zf|refine zk ?_ GE282.out|refine zk ?_ GE283.out)|exact HB.out)⟩
 ·
  rw [if_neg c3] at H
  have c3b0 : (a0_0 == a1_0)=false:=beq_eq_false_iff_ne.mpr c3
  have c3b1 : (a0_0 != a1_0)=true:=bne_iff_ne.mpr c3
  obtain rfl:=Option.some.inj H
  go_enter Try.func25,Try.ntmps25
  go_wp2_with (first|((with_reducible refine gate_dst (N:=2) rfl ?_);refine box_event ?hg (N:=2) ?hd (cs := #[.int .u64 a0_0, .int .u32 a0_1, .slice A0_2 l0_2.length c0_2, .int .i64 a0_3]) (t:=43) ?hr ?_;(case hd=>rfl);(case hg=>rfl);(case hr=>first|(go_simp;done)|(go_simp;rfl));intro gb282 hg w25 hbox hb;have n0_:=zm (zJ (by repeat (first|(with_reducible first|exact HB.out|apply ze|apply zd|apply zf)|exact HB.out)) hb);have n1_:=zm (hbox);have n2_:=zm ((by rw [hg];exact (zE (by repeat (first|(with_reducible first|exact HB.out|apply ze|apply zd|apply zf)|exact HB.out))) : w.heap.size≤gb282));have n3_:=zm ((by rw [hg];exact (zE (by repeat (first|(with_reducible first|exact HB.out|apply ze|apply zd|apply zf)|exact HB.out))) : w.heap.size≤gb282));clear HB;have HB:=n0_;have BK282:=n1_;have GW282:=n2_;have GE282:=n3_;clear n0_ n1_ n2_ n3_;clear hb hbox hg)|((with_reducible refine gate_dst (N:=3) rfl ?_);refine box_event ?hg (N:=3) ?hd (cs := #[.int .u64 a1_0, .int .u64 a1_1, .slice A1_2 l1_2.length c1_2, .int .i64 a1_3]) (t:=46) ?hr ?_;(case hd=>rfl);(case hg=>rfl);(case hr=>first|(go_simp;done)|(go_simp;rfl));intro gb283 hg w26 hbox hb;have n0_:=zm (zF (g:=gb282) (o:=.cells #[.int .u64 a0_0, .int .u32 a0_1, .slice A0_2 l0_2.length c0_2, .int .i64 a0_3] 43 (0,0)) (by (with_reducible repeat (first|refine zh ?_ _|refine zj ?_|refine zi ?_ _));exact BK282.out) hb);have n1_:=zm (zJ (by repeat (first|(with_reducible first|exact HB.out|apply ze|apply zd|apply zf|refine zk ?_ GE282.out)|exact HB.out)) hb);have n2_:=zm (hbox);have n3_:=zm ((by rw [hg];exact (zE (by repeat (first|(with_reducible first|exact HB.out|apply ze|apply zd|apply zf|refine zk ?_ GE282.out)|exact HB.out))) : w.heap.size≤gb283));have n4_:=zm ((by rw [hg];exact (zE (by repeat (first|(with_reducible first|exact HB.out|apply ze|apply zd|apply zf|refine zk ?_ GE282.out)|exact HB.out))) : w.heap.size≤gb283));have n5_:=zm ((by rw [hg];exact zn (zD (g:=gb282) (o:=.cells #[.int .u64 a0_0, .int .u32 a0_1, .slice A0_2 l0_2.length c0_2, .int .i64 a0_3] 43 (0,0)) (by (with_reducible repeat (first|refine zh ?_ _|refine zj ?_|refine zi ?_ _));exact BK282.out)) : gb282≠gb283));have n6_:=zm ((by rw [hg];exact zg (zD (g:=gb282) (o:=.cells #[.int .u64 a0_0, .int .u32 a0_1, .slice A0_2 l0_2.length c0_2, .int .i64 a0_3] 43 (0,0)) (by (with_reducible repeat (first|refine zh ?_ _|refine zj ?_|refine zi ?_ _));exact BK282.out)) : gb283≠gb282));clear BK282;clear HB;have BK282:=n0_;have HB:=n1_;have BK283:=n2_;have GW283:=n3_;have GE283:=n4_;have NB282_283:=n5_;have NB283_282:=n6_;clear n0_ n1_ n2_ n3_ n4_ n5_ n6_;clear hb hbox hg;have hnb27:=NB282_283.out;have hnc27:=NB283_282.out;have hcz28_0 : w26.cell? ⟨gb282,0,none⟩=some (.int .u64 a0_0):=(zs BK282.out 0).trans rfl;have hcz28_1 : w26.cell? ⟨gb282,1,none⟩=some (.int .u32 a0_1):=(zs BK282.out 1).trans rfl;have hcz28_2 : w26.cell? ⟨gb282,2,none⟩=some (.slice A0_2 l0_2.length c0_2):=(zs BK282.out 2).trans rfl;have hcz28_3 : w26.cell? ⟨gb282,3,none⟩=some (.int .i64 a0_3):=(zs BK282.out 3).trans rfl;have hfz28_0:=zx BK282.out 0;have hfz28_1:=zx BK282.out 1;have hfz28_2:=zx BK282.out 2;have hfz28_3:=zx BK282.out 3;have hcz29_0 : w26.cell? ⟨gb283,0,none⟩=some (.int .u64 a1_0):=(zs BK283.out 0).trans rfl;have hcz29_1 : w26.cell? ⟨gb283,1,none⟩=some (.int .u64 a1_1):=(zs BK283.out 1).trans rfl;have hcz29_2 : w26.cell? ⟨gb283,2,none⟩=some (.slice A1_2 l1_2.length c1_2):=(zs BK283.out 2).trans rfl;have hcz29_3 : w26.cell? ⟨gb283,3,none⟩=some (.int .i64 a1_3):=(zs BK283.out 3).trans rfl;have hfz29_0:=zx BK283.out 0;have hfz29_1:=zx BK283.out 1;have hfz29_2:=zx BK283.out 2;have hfz29_3:=zx BK283.out 3))
  go_ret
  exact ⟨by first|rfl|(simp [errW_none,errW_some] <;> rfl)|(simp [*,errW_none,errW_some] <;> rfl),by repeat (first|(with_reducible first|exact HB.out|apply ze|apply zd|apply zf|refine zk ?_ GE282.out|refine zk ?_ GE283.out)|exact HB.out)⟩

end Go.Proofs.Ytkaoiblgfpphoaa.Prt

namespace Go.Proofs.Ytkaoiblgfpphoaa.Prt
open Go.RowKit Go.Proofs.YtkaoiblgfpphoaaW.PrintWords Go.Proofs.YtkaoiblgfpphoaaW.PrintLast Go.Proofs.YtkaoiblgfpphoaaW.PrintMore
attribute [local go_sem] max2_int min2_int max_two min_two max_three min_three max_four min_four   -- for this text's walks alone
set_option linter.unusedVariables false
set_option linter.unusedSimpArgs false

/-! ### psalterylaw05_SameEnc: function 23 -/
mutual
def psalterylaw05_SameEnc.j0 : Nat→Bool→Int→List Int→Int→List Int→Option (Bool)
 | 0,_,_,_,_,_=>none
 | k+1,x27,x246000,x246001,x251000,x251001=>if x27=true then (some false) else (psalterylaw05_SameEnc.l0 k 0 x246000 x246001 x251000 x251001)
def psalterylaw05_SameEnc.l0 : Nat→Int→Int→List Int→Int→List Int→Option (Bool)
 | 0,_,_,_,_,_=>none
 | k+1,x6,x246000,x246001,x251000,x251001=>if x6 < (x251001.length : Int) then (if 0≤x6 then (if x6 < (x246001.length : Int) then (if (rd x251001 x6)=(rd x246001 x6) then (psalterylaw05_SameEnc.l0 k (wrap64 (x6+1)) x246000 x246001 x251000 x251001) else (some false)) else (none)) else (none)) else (some true)
end
def psalterylaw05_SameEnc.f (k : Nat) (a0_0 : Int) (a0_1 : Int) (l0_2 : List Int) (a1_0 : Int) (l1_1 : List Int) : Option (Bool):=(psalterylaw05_AsEnc.f k a0_0 a0_1 l0_2).bind fun bt246=>((psalterylaw05_right.f a0_0 a0_1 l0_2).bind fun t251=>(if t251=true then (if bt246.1=a1_0 then (psalterylaw05_SameEnc.j0 k ((bt246.2.length : Int) != (l1_1.length : Int)) a1_0 l1_1 bt246.1 bt246.2) else (psalterylaw05_SameEnc.j0 k true a1_0 l1_1 bt246.1 bt246.2)) else (psalterylaw05_SameEnc.j0 k true a1_0 l1_1 bt246.1 bt246.2)))
theorem psalterylaw05_SameEnc.mono_l : ∀ k,(∀ y0 y1 y2 y3 y4,LeO (psalterylaw05_SameEnc.j0 k y0 y1 y2 y3 y4) (psalterylaw05_SameEnc.j0 (k+1) y0 y1 y2 y3 y4))∧(∀ y0 y1 y2 y3 y4,LeO (psalterylaw05_SameEnc.l0 k y0 y1 y2 y3 y4) (psalterylaw05_SameEnc.l0 (k+1) y0 y1 y2 y3 y4))
 | 0=>⟨fun _ _ _ _ _ r h=>by simp [psalterylaw05_SameEnc.j0] at h,fun _ _ _ _ _ r h=>by simp [psalterylaw05_SameEnc.l0] at h⟩
 | k+1=>by
  obtain ⟨ih0,ih1⟩:=psalterylaw05_SameEnc.mono_l k
  refine ⟨?_, ?_⟩
  ·
   intro y0 y1 y2 y3 y4
   unfold psalterylaw05_SameEnc.j0
   repeat' first
   | (with_reducible exact ih0 _ _ _ _ _)
   | (with_reducible exact ih1 _ _ _ _ _)
   | (with_reducible exact psalterylaw05_AsEnc.mono _ _ _ _)
   | (with_reducible exact LeO.refl _)
   | (with_reducible exact LeO.none _)
   | (with_reducible refine LeO.ite ?_ ?_)
   | (with_reducible refine LeO.bind ?_ (fun _ => ?_))
   | exact ih0 _ _ _ _ _
   | exact ih1 _ _ _ _ _
   | exact psalterylaw05_AsEnc.mono _ _ _ _
   | exact LeO.none _
   | refine LeO.ite ?_ ?_
   | refine LeO.bind ?_ (fun _ => ?_)
  ·
   intro y0 y1 y2 y3 y4
   unfold psalterylaw05_SameEnc.l0
   repeat' first
   | (with_reducible exact ih0 _ _ _ _ _)
   | (with_reducible exact ih1 _ _ _ _ _)
   | (with_reducible exact psalterylaw05_AsEnc.mono _ _ _ _)
   | (with_reducible exact LeO.refl _)
   | (with_reducible exact LeO.none _)
   | (with_reducible refine LeO.ite ?_ ?_)
   | (with_reducible refine LeO.bind ?_ (fun _ => ?_))
   | exact ih0 _ _ _ _ _
   | exact ih1 _ _ _ _ _
   | exact psalterylaw05_AsEnc.mono _ _ _ _
   | exact LeO.none _
   | refine LeO.ite ?_ ?_
   | refine LeO.bind ?_ (fun _ => ?_)
theorem psalterylaw05_SameEnc.mono : ∀ a0 a1 a2 a3 a4 k,LeO (psalterylaw05_SameEnc.f k a0 a1 a2 a3 a4) (psalterylaw05_SameEnc.f (k+1) a0 a1 a2 a3 a4):=by
 intro a0 a1 a2 a3 a4 k
 obtain ⟨ih0,ih1⟩:=psalterylaw05_SameEnc.mono_l k
 unfold psalterylaw05_SameEnc.f
 repeat' first
   | (with_reducible exact ih0 _ _ _ _ _)
   | (with_reducible exact ih1 _ _ _ _ _)
   | (with_reducible exact psalterylaw05_AsEnc.mono _ _ _ _)
   | (with_reducible exact LeO.refl _)
   | (with_reducible exact LeO.none _)
   | (with_reducible refine LeO.ite ?_ ?_)
   | (with_reducible refine LeO.bind ?_ (fun _ => ?_))
   | exact ih0 _ _ _ _ _
   | exact ih1 _ _ _ _ _
   | exact psalterylaw05_AsEnc.mono _ _ _ _
   | exact LeO.none _
   | refine LeO.ite ?_ ?_
   | refine LeO.bind ?_ (fun _ => ?_)
set_option maxHeartbeats 8000000 in
set_option maxRecDepth 100000 in
theorem psalterylaw05_SameEnc.calls (k : Nat) (a0_0 : Int) (a0_1 : Int) (A0_2 : Option Addr) (c0_2 : Nat) (l0_2 : List Int) (a1_0 : Int) (A1_1 : Option Addr) (c1_1 : Nat) (l1_1 : List Int) (r : Bool) (w : World) (hr0_2 : Kd.C (Kd.int .u8) w A0_2 l0_2.length l0_2) (hc0_2 : l0_2.length≤c0_2) (hr1_1 : Kd.C (Kd.int .i64) w A1_1 l1_1.length l1_1) (hc1_1 : l1_1.length≤c1_1) (h : psalterylaw05_SameEnc.f k a0_0 a0_1 l0_2 a1_0 l1_1=some r) :
  Calls Try.prog 23 #[.agg #[.int .u64 a0_0, .int .u32 a0_1, .slice A0_2 l0_2.length c0_2], .agg #[.int .u64 a1_0, .slice A1_1 l1_1.length c1_1]] w fun e w' => e=.returned (.bool r)∧Below w.heap.size w w' := by
 have hu26:=Try.underlying26;have hu33:=Try.underlying33;have HR0_2:=zm hr0_2;have HC0_2:=zm hc0_2;clear hr0_2 hc0_2;have HR1_1:=zm hr1_1;have HC1_1:=zm hc1_1;clear hr1_1 hc1_1;have HB:=zm (Below.refl w.heap.size w)
 have H : ((psalterylaw05_AsEnc.f k a0_0 a0_1 l0_2).bind fun bt246=>((psalterylaw05_right.f a0_0 a0_1 l0_2).bind fun t251=>(if t251=true then (if bt246.1=a1_0 then (psalterylaw05_SameEnc.j0 k ((bt246.2.length : Int) != (l1_1.length : Int)) a1_0 l1_1 bt246.1 bt246.2) else (psalterylaw05_SameEnc.j0 k true a1_0 l1_1 bt246.1 bt246.2)) else (psalterylaw05_SameEnc.j0 k true a1_0 l1_1 bt246.1 bt246.2))))=some r:=h
 clear h
 replace H:=Option.bind_eq_some_iff.mp H
 obtain ⟨⟨t246,t247⟩,A30,H⟩:=H
 replace H : ((psalterylaw05_right.f a0_0 a0_1 l0_2).bind fun t251=>(if t251=true then (if t246=a1_0 then (psalterylaw05_SameEnc.j0 k ((t247.length : Int) != (l1_1.length : Int)) a1_0 l1_1 t246 t247) else (psalterylaw05_SameEnc.j0 k true a1_0 l1_1 t246 t247)) else (psalterylaw05_SameEnc.j0 k true a1_0 l1_1 t246 t247)))=some r:=H
 have A3:=zm A30;clear A30;have HC4:=zm H;clear H
 go_enter Try.func23,Try.ntmps23
 go_upto_region 2 with (first|((with_reducible refine gate_dst (N:=2) rfl ?_);(try (refine gate_guard (by rfl) ?_;dsimp only));refine box_event ?hg (N:=2) ?hd (cs := #[.int .u64 a0_0, .int .u32 a0_1, .slice A0_2 l0_2.length c0_2]) (t:=26) ?hr ?_;(case hd=>rfl);(case hg=>rfl);(case hr=>first|(go_simp;done)|(go_simp;rfl));intro gb244 hg w5 hbox hb;have n0_:=zm (zJ (by repeat (first|(with_reducible first|exact HB.out|apply ze|apply zd|apply zf)|exact HB.out)) hb);have n1_:=zm (hbox);have n2_:=zm ((by rw [hg];exact (zE (by repeat (first|(with_reducible first|exact HB.out|apply ze|apply zd|apply zf)|exact HB.out))) : w.heap.size≤gb244));have n3_:=zm ((by rw [hg];exact (zE (by repeat (first|(with_reducible first|exact HB.out|apply ze|apply zd|apply zf)|exact HB.out))) : w.heap.size≤gb244));clear HB;have HB:=n0_;have BK244:=n1_;have GW244:=n2_;have GE244:=n3_;clear n0_ n1_ n2_ n3_;clear hb hbox hg)|((with_reducible refine gate_dst (N:=3) rfl ?_);(try (refine gate_guard (by rfl) ?_;dsimp only));refine box_event ?hg (N:=3) ?hd (cs := #[.int .u64 a1_0, .slice A1_1 l1_1.length c1_1]) (t:=33) ?hr ?_;(case hd=>rfl);(case hg=>rfl);(case hr=>first|(go_simp;done)|(go_simp;rfl));intro gb245 hg w6 hbox hb;have n0_:=zm (zF (g:=gb244) (o:=.cells #[.int .u64 a0_0, .int .u32 a0_1, .slice A0_2 l0_2.length c0_2] 26 (0,0)) (by (with_reducible repeat (first|refine zh ?_ _|refine zj ?_|refine zi ?_ _));exact BK244.out) hb);have n1_:=zm (zJ (by repeat (first|(with_reducible first|exact HB.out|apply ze|apply zd|apply zf|refine zk ?_ GE244.out)|exact HB.out)) hb);have n2_:=zm (hbox);have n3_:=zm ((by rw [hg];exact (zE (by repeat (first|(with_reducible first|exact HB.out|apply ze|apply zd|apply zf|refine zk ?_ GE244.out)|exact HB.out))) : w.heap.size≤gb245));have n4_:=zm ((by rw [hg];exact (zE (by repeat (first|(with_reducible first|exact HB.out|apply ze|apply zd|apply zf|refine zk ?_ GE244.out)|exact HB.out))) : w.heap.size≤gb245));have n5_:=zm ((by rw [hg];exact zn (zD (g:=gb244) (o:=.cells #[.int .u64 a0_0, .int .u32 a0_1, .slice A0_2 l0_2.length c0_2] 26 (0,0)) (by (with_reducible repeat (first|refine zh ?_ _|refine zj ?_|refine zi ?_ _));exact BK244.out)) : gb244≠gb245));have n6_:=zm ((by rw [hg];exact zg (zD (g:=gb244) (o:=.cells #[.int .u64 a0_0, .int .u32 a0_1, .slice A0_2 l0_2.length c0_2] 26 (0,0)) (by (with_reducible repeat (first|refine zh ?_ _|refine zj ?_|refine zi ?_ _));exact BK244.out)) : gb245≠gb244));clear BK244;clear HB;have BK244:=n0_;have HB:=n1_;have BK245:=n2_;have GW245:=n3_;have GE245:=n4_;have NB244_245:=n5_;have NB245_244:=n6_;clear n0_ n1_ n2_ n3_ n4_ n5_ n6_;clear hb hbox hg;have hnb7:=NB244_245.out;have hnc7:=NB245_244.out;have hcz8_0 : w6.cell? ⟨gb244,0,none⟩=some (.int .u64 a0_0):=(zs BK244.out 0).trans rfl;have hcz8_1 : w6.cell? ⟨gb244,1,none⟩=some (.int .u32 a0_1):=(zs BK244.out 1).trans rfl;have hcz8_2 : w6.cell? ⟨gb244,2,none⟩=some (.slice A0_2 l0_2.length c0_2):=(zs BK244.out 2).trans rfl;have hfz8_0:=zx BK244.out 0;have hfz8_1:=zx BK244.out 1;have hfz8_2:=zx BK244.out 2)|(go_at_call 20;(with_reducible refine (psalterylaw05_AsEnc.calls k a0_0 a0_1 _ _ l0_2 t246 t247 _ ?side1 ?side2 A3.out).mono ?_);(case side1=>repeat (first|exact (Kd.C_below HR0_2.out HB.out)|(with_reducible refine Kd.C_alloc ?_ _)|(with_reducible refine Kd.C_drewN ?_ _)|(with_reducible refine Kd.C_drew ?_)));(case side2=>exact HC0_2.out);rintro e w9 ⟨v248,rfl,ho0,hb⟩;have n0_:=zm (Kd.R_lower ho0 (zE (by repeat (first|(with_reducible first|exact HB.out|apply ze|apply zd|apply zf|refine zk ?_ GE244.out|refine zk ?_ GE245.out)|exact HB.out))));have n1_:=zm (zF (g:=gb244) (o:=.cells #[.int .u64 a0_0, .int .u32 a0_1, .slice A0_2 l0_2.length c0_2] 26 (0,0)) (by (with_reducible repeat (first|refine zh ?_ _|refine zj ?_|refine zi ?_ _));exact BK244.out) hb);have n2_:=zm (zF (g:=gb245) (o:=.cells #[.int .u64 a1_0, .slice A1_1 l1_1.length c1_1] 33 (0,0)) (by (with_reducible repeat (first|refine zh ?_ _|refine zj ?_|refine zi ?_ _));exact BK245.out) hb);have n3_:=zm (zJ (by repeat (first|(with_reducible first|exact HB.out|apply ze|apply zd|apply zf|refine zk ?_ GE244.out|refine zk ?_ GE245.out)|exact HB.out)) hb);clear BK244;clear BK245;clear HB;have HO249:=n0_;have BK244:=n1_;have BK245:=n2_;have HB:=n3_;clear n0_ n1_ n2_ n3_;(try clear hb);(try clear hb2);(try clear hk);(try clear hi);(try clear ho0))|((with_reducible refine gate_dst (N:=5) rfl ?_);(try (refine gate_guard (by rfl) ?_;dsimp only));refine box_event ?hg (N:=5) ?hd (cs := #[.int .u64 0, .slice none 0 0]) (t:=33) ?hr ?_;(case hd=>rfl);(case hg=>rfl);(case hr=>first|(go_simp;done)|(go_simp;rfl));intro gb250 hg w10 hbox hb;have n0_:=zm (Kd.R_below (by (with_reducible repeat (first|apply zo|apply zp|apply zq));exact HO249.out) hb);have n1_:=zm (zF (g:=gb244) (o:=.cells #[.int .u64 a0_0, .int .u32 a0_1, .slice A0_2 l0_2.length c0_2] 26 (0,0)) (by (with_reducible repeat (first|refine zh ?_ _|refine zj ?_|refine zi ?_ _));exact BK244.out) hb);have n2_:=zm (zF (g:=gb245) (o:=.cells #[.int .u64 a1_0, .slice A1_1 l1_1.length c1_1] 33 (0,0)) (by (with_reducible repeat (first|refine zh ?_ _|refine zj ?_|refine zi ?_ _));exact BK245.out) hb);have n3_:=zm (zJ (by repeat (first|(with_reducible first|exact HB.out|apply ze|apply zd|apply zf|refine zk ?_ GE244.out|refine zk ?_ GE245.out)|exact HB.out)) hb);have n4_:=zm (hbox);have n5_:=zm ((by rw [hg];exact (zE (by repeat (first|(with_reducible first|exact HB.out|apply ze|apply zd|apply zf|refine zk ?_ GE244.out|refine zk ?_ GE245.out)|exact HB.out))) : w.heap.size≤gb250));have n6_:=zm ((by rw [hg];exact (zE (by repeat (first|(with_reducible first|exact HB.out|apply ze|apply zd|apply zf|refine zk ?_ GE244.out|refine zk ?_ GE245.out)|exact HB.out))) : w.heap.size≤gb250));have n7_:=zm ((by rw [hg];exact zn (zD (g:=gb244) (o:=.cells #[.int .u64 a0_0, .int .u32 a0_1, .slice A0_2 l0_2.length c0_2] 26 (0,0)) (by (with_reducible repeat (first|refine zh ?_ _|refine zj ?_|refine zi ?_ _));exact BK244.out)) : gb244≠gb250));have n8_:=zm ((by rw [hg];exact zg (zD (g:=gb244) (o:=.cells #[.int .u64 a0_0, .int .u32 a0_1, .slice A0_2 l0_2.length c0_2] 26 (0,0)) (by (with_reducible repeat (first|refine zh ?_ _|refine zj ?_|refine zi ?_ _));exact BK244.out)) : gb250≠gb244));have n9_:=zm ((by rw [hg];exact zn (zD (g:=gb245) (o:=.cells #[.int .u64 a1_0, .slice A1_1 l1_1.length c1_1] 33 (0,0)) (by (with_reducible repeat (first|refine zh ?_ _|refine zj ?_|refine zi ?_ _));exact BK245.out)) : gb245≠gb250));have n10_:=zm ((by rw [hg];exact zg (zD (g:=gb245) (o:=.cells #[.int .u64 a1_0, .slice A1_1 l1_1.length c1_1] 33 (0,0)) (by (with_reducible repeat (first|refine zh ?_ _|refine zj ?_|refine zi ?_ _));exact BK245.out)) : gb250≠gb245));clear HO249;clear BK244;clear BK245;clear HB;have HO249:=n0_;have BK244:=n1_;have BK245:=n2_;have HB:=n3_;have BK250:=n4_;have GW250:=n5_;have GE250:=n6_;have NB244_250:=n7_;have NB250_244:=n8_;have NB245_250:=n9_;have NB250_245:=n10_;clear n0_ n1_ n2_ n3_ n4_ n5_ n6_ n7_ n8_ n9_ n10_;clear hb hbox hg;have hnb11:=NB250_244.out;have hnc11:=NB244_250.out;have hnb12:=NB250_245.out;have hnc12:=NB245_250.out;have hcz13_0 : w10.cell? ⟨gb250,0,none⟩=some (.int .u64 0):=(zs BK250.out 0).trans rfl;have hcz13_1 : w10.cell? ⟨gb250,1,none⟩=some (.slice none 0 0):=(zs BK250.out 1).trans rfl;have hfz13_0:=zx BK250.out 0;have hfz13_1:=zx BK250.out 1;obtain ⟨Ao14,co14,eo14⟩:=Kd.R_slice HO249.out;subst eo14))
 repeat (go_quiet (first|((with_reducible refine gate_dst (N:=2) rfl ?_);(try (refine gate_guard (by rfl) ?_;dsimp only));refine box_event ?hg (N:=2) ?hd (cs := #[.int .u64 a0_0, .int .u32 a0_1, .slice A0_2 l0_2.length c0_2]) (t:=26) ?hr ?_;(case hd=>rfl);(case hg=>rfl);(case hr=>first|(go_simp;done)|(go_simp;rfl));intro gb244 hg w5 hbox hb;have n0_:=zm (zJ (by repeat (first|(with_reducible first|exact HB.out|apply ze|apply zd|apply zf)|exact HB.out)) hb);have n1_:=zm (hbox);have n2_:=zm ((by rw [hg];exact (zE (by repeat (first|(with_reducible first|exact HB.out|apply ze|apply zd|apply zf)|exact HB.out))) : w.heap.size≤gb244));have n3_:=zm ((by rw [hg];exact (zE (by repeat (first|(with_reducible first|exact HB.out|apply ze|apply zd|apply zf)|exact HB.out))) : w.heap.size≤gb244));clear HB;have HB:=n0_;have BK244:=n1_;have GW244:=n2_;have GE244:=n3_;clear n0_ n1_ n2_ n3_;clear hb hbox hg)|((with_reducible refine gate_dst (N:=3) rfl ?_);(try (refine gate_guard (by rfl) ?_;dsimp only));refine box_event ?hg (N:=3) ?hd (cs := #[.int .u64 a1_0, .slice A1_1 l1_1.length c1_1]) (t:=33) ?hr ?_;(case hd=>rfl);(case hg=>rfl);(case hr=>first|(go_simp;done)|(go_simp;rfl));intro gb245 hg w6 hbox hb;have n0_:=zm (zF (g:=gb244) (o:=.cells #[.int .u64 a0_0, .int .u32 a0_1, .slice A0_2 l0_2.length c0_2] 26 (0,0)) (by (with_reducible repeat (first|refine zh ?_ _|refine zj ?_|refine zi ?_ _));exact BK244.out) hb);have n1_:=zm (zJ (by repeat (first|(with_reducible first|exact HB.out|apply ze|apply zd|apply zf|refine zk ?_ GE244.out)|exact HB.out)) hb);have n2_:=zm (hbox);have n3_:=zm ((by rw [hg];exact (zE (by repeat (first|(with_reducible first|exact HB.out|apply ze|apply zd|apply zf|refine zk ?_ GE244.out)|exact HB.out))) : w.heap.size≤gb245));have n4_:=zm ((by rw [hg];exact (zE (by repeat (first|(with_reducible first|exact HB.out|apply ze|apply zd|apply zf|refine zk ?_ GE244.out)|exact HB.out))) : w.heap.size≤gb245));have n5_:=zm ((by rw [hg];exact zn (zD (g:=gb244) (o:=.cells #[.int .u64 a0_0, .int .u32 a0_1, .slice A0_2 l0_2.length c0_2] 26 (0,0)) (by (with_reducible repeat (first|refine zh ?_ _|refine zj ?_|refine zi ?_ _));exact BK244.out)) : gb244≠gb245));have n6_:=zm ((by rw [hg];exact zg (zD (g:=gb244) (o:=.cells #[.int .u64 a0_0, .int .u32 a0_1, .slice A0_2 l0_2.length c0_2] 26 (0,0)) (by (with_reducible repeat (first|refine zh ?_ _|refine zj ?_|refine zi ?_ _));exact BK244.out)) : gb245≠gb244));clear BK244;clear HB;have BK244:=n0_;have HB:=n1_;have BK245:=n2_;have GW245:=n3_;have GE245:=n4_;have NB244_245:=n5_;have NB245_244:=n6_;clear n0_ n1_ n2_ n3_ n4_ n5_ n6_;clear hb hbox hg;have hnb7:=NB244_245.out;have hnc7:=NB245_244.out;have hcz8_0 : w6.cell? ⟨gb244,0,none⟩=some (.int .u64 a0_0):=(zs BK244.out 0).trans rfl;have hcz8_1 : w6.cell? ⟨gb244,1,none⟩=some (.int .u32 a0_1):=(zs BK244.out 1).trans rfl;have hcz8_2 : w6.cell? ⟨gb244,2,none⟩=some (.slice A0_2 l0_2.length c0_2):=(zs BK244.out 2).trans rfl;have hfz8_0:=zx BK244.out 0;have hfz8_1:=zx BK244.out 1;have hfz8_2:=zx BK244.out 2)|(go_at_call 20;(with_reducible refine (psalterylaw05_AsEnc.calls k a0_0 a0_1 _ _ l0_2 t246 t247 _ ?side1 ?side2 A3.out).mono ?_);(case side1=>repeat (first|exact (Kd.C_below HR0_2.out HB.out)|(with_reducible refine Kd.C_alloc ?_ _)|(with_reducible refine Kd.C_drewN ?_ _)|(with_reducible refine Kd.C_drew ?_)));(case side2=>exact HC0_2.out);rintro e w9 ⟨v248,rfl,ho0,hb⟩;have n0_:=zm (Kd.R_lower ho0 (zE (by repeat (first|(with_reducible first|exact HB.out|apply ze|apply zd|apply zf|refine zk ?_ GE244.out|refine zk ?_ GE245.out)|exact HB.out))));have n1_:=zm (zF (g:=gb244) (o:=.cells #[.int .u64 a0_0, .int .u32 a0_1, .slice A0_2 l0_2.length c0_2] 26 (0,0)) (by (with_reducible repeat (first|refine zh ?_ _|refine zj ?_|refine zi ?_ _));exact BK244.out) hb);have n2_:=zm (zF (g:=gb245) (o:=.cells #[.int .u64 a1_0, .slice A1_1 l1_1.length c1_1] 33 (0,0)) (by (with_reducible repeat (first|refine zh ?_ _|refine zj ?_|refine zi ?_ _));exact BK245.out) hb);have n3_:=zm (zJ (by repeat (first|(with_reducible first|exact HB.out|apply ze|apply zd|apply zf|refine zk ?_ GE244.out|refine zk ?_ GE245.out)|exact HB.out)) hb);clear BK244;clear BK245;clear HB;have HO249:=n0_;have BK244:=n1_;have BK245:=n2_;have HB:=n3_;clear n0_ n1_ n2_ n3_;(try clear hb);(try clear hb2);(try clear hk);(try clear hi);(try clear ho0))|((with_reducible refine gate_dst (N:=5) rfl ?_);(try (refine gate_guard (by rfl) ?_;dsimp only));refine box_event ?hg (N:=5) ?hd (cs := #[.int .u64 0, .slice none 0 0]) (t:=33) ?hr ?_;(case hd=>rfl);(case hg=>rfl);(case hr=>first|(go_simp;done)|(go_simp;rfl));intro gb250 hg w10 hbox hb;have n0_:=zm (Kd.R_below (by (with_reducible repeat (first|apply zo|apply zp|apply zq));exact HO249.out) hb);have n1_:=zm (zF (g:=gb244) (o:=.cells #[.int .u64 a0_0, .int .u32 a0_1, .slice A0_2 l0_2.length c0_2] 26 (0,0)) (by (with_reducible repeat (first|refine zh ?_ _|refine zj ?_|refine zi ?_ _));exact BK244.out) hb);have n2_:=zm (zF (g:=gb245) (o:=.cells #[.int .u64 a1_0, .slice A1_1 l1_1.length c1_1] 33 (0,0)) (by (with_reducible repeat (first|refine zh ?_ _|refine zj ?_|refine zi ?_ _));exact BK245.out) hb);have n3_:=zm (zJ (by repeat (first|(with_reducible first|exact HB.out|apply ze|apply zd|apply zf|refine zk ?_ GE244.out|refine zk ?_ GE245.out)|exact HB.out)) hb);have n4_:=zm (hbox);have n5_:=zm ((by rw [hg];exact (zE (by repeat (first|(with_reducible first|exact HB.out|apply ze|apply zd|apply zf|refine zk ?_ GE244.out|refine zk ?_ GE245.out)|exact HB.out))) : w.heap.size≤gb250));have n6_:=zm ((by rw [hg];exact (zE (by repeat (first|(with_reducible first|exact HB.out|apply ze|apply zd|apply zf|refine zk ?_ GE244.out|refine zk ?_ GE245.out)|exact HB.out))) : w.heap.size≤gb250));have n7_:=zm ((by rw [hg];exact zn (zD (g:=gb244) (o:=.cells #[.int .u64 a0_0, .int .u32 a0_1, .slice A0_2 l0_2.length c0_2] 26 (0,0)) (by (with_reducible repeat (first|refine zh ?_ _|refine zj ?_|refine zi ?_ _));exact BK244.out)) : gb244≠gb250));have n8_:=zm ((by rw [hg];exact zg (zD (g:=gb244) (o:=.cells #[.int .u64 a0_0, .int .u32 a0_1, .slice A0_2 l0_2.length c0_2] 26 (0,0)) (by (with_reducible repeat (first|refine zh ?_ _|refine zj ?_|refine zi ?_ _));exact BK244.out)) : gb250≠gb244));have n9_:=zm ((by rw [hg];exact zn (zD (g:=gb245) (o:=.cells #[.int .u64 a1_0, .slice A1_1 l1_1.length c1_1] 33 (0,0)) (by (with_reducible repeat (first|refine zh ?_ _|refine zj ?_|refine zi ?_ _));exact BK245.out)) : gb245≠gb250));have n10_:=zm ((by rw [hg];exact zg (zD (g:=gb245) (o:=.cells #[.int .u64 a1_0, .slice A1_1 l1_1.length c1_1] 33 (0,0)) (by (with_reducible repeat (first|refine zh ?_ _|refine zj ?_|refine zi ?_ _));exact BK245.out)) : gb250≠gb245));clear HO249;clear BK244;clear BK245;clear HB;have HO249:=n0_;have BK244:=n1_;have BK245:=n2_;have HB:=n3_;have BK250:=n4_;have GW250:=n5_;have GE250:=n6_;have NB244_250:=n7_;have NB250_244:=n8_;have NB245_250:=n9_;have NB250_245:=n10_;clear n0_ n1_ n2_ n3_ n4_ n5_ n6_ n7_ n8_ n9_ n10_;clear hb hbox hg;have hnb11:=NB250_244.out;have hnc11:=NB244_250.out;have hnb12:=NB250_245.out;have hnc12:=NB245_250.out;have hcz13_0 : w10.cell? ⟨gb250,0,none⟩=some (.int .u64 0):=(zs BK250.out 0).trans rfl;have hcz13_1 : w10.cell? ⟨gb250,1,none⟩=some (.slice none 0 0):=(zs BK250.out 1).trans rfl;have hfz13_0:=zx BK250.out 0;have hfz13_1:=zx BK250.out 1;obtain ⟨Ao14,co14,eo14⟩:=Kd.R_slice HO249.out;subst eo14));go_upto_region 2 with (first|((with_reducible refine gate_dst (N:=2) rfl ?_);(try (refine gate_guard (by rfl) ?_;dsimp only));refine box_event ?hg (N:=2) ?hd (cs := #[.int .u64 a0_0, .int .u32 a0_1, .slice A0_2 l0_2.length c0_2]) (t:=26) ?hr ?_;(case hd=>rfl);(case hg=>rfl);(case hr=>first|(go_simp;done)|(go_simp;rfl));intro gb244 hg w5 hbox hb;have n0_:=zm (zJ (by repeat (first|(with_reducible first|exact HB.out|apply ze|apply zd|apply zf)|exact HB.out)) hb);have n1_:=zm (hbox);have n2_:=zm ((by rw [hg];exact (zE (by repeat (first|(with_reducible first|exact HB.out|apply ze|apply zd|apply zf)|exact HB.out))) : w.heap.size≤gb244));have n3_:=zm ((by rw [hg];exact (zE (by repeat (first|(with_reducible first|exact HB.out|apply ze|apply zd|apply zf)|exact HB.out))) : w.heap.size≤gb244));clear HB;have HB:=n0_;have BK244:=n1_;have GW244:=n2_;have GE244:=n3_;clear n0_ n1_ n2_ n3_;clear hb hbox hg)|((with_reducible refine gate_dst (N:=3) rfl ?_);(try (refine gate_guard (by rfl) ?_;dsimp only));refine box_event ?hg (N:=3) ?hd (cs := #[.int .u64 a1_0, .slice A1_1 l1_1.length c1_1]) (t:=33) ?hr ?_;(case hd=>rfl);(case hg=>rfl);(case hr=>first|(go_simp;done)|(go_simp;rfl));intro gb245 hg w6 hbox hb;have n0_:=zm (zF (g:=gb244) (o:=.cells #[.int .u64 a0_0, .int .u32 a0_1, .slice A0_2 l0_2.length c0_2] 26 (0,0)) (by (with_reducible repeat (first|refine zh ?_ _|refine zj ?_|refine zi ?_ _));exact BK244.out) hb);have n1_:=zm (zJ (by repeat (first|(with_reducible first|exact HB.out|apply ze|apply zd|apply zf|refine zk ?_ GE244.out)|exact HB.out)) hb);have n2_:=zm (hbox);have n3_:=zm ((by rw [hg];exact (zE (by repeat (first|(with_reducible first|exact HB.out|apply ze|apply zd|apply zf|refine zk ?_ GE244.out)|exact HB.out))) : w.heap.size≤gb245));have n4_:=zm ((by rw [hg];exact (zE (by repeat (first|(with_reducible first|exact HB.out|apply ze|apply zd|apply zf|refine zk ?_ GE244.out)|exact HB.out))) : w.heap.size≤gb245));have n5_:=zm ((by rw [hg];exact zn (zD (g:=gb244) (o:=.cells #[.int .u64 a0_0, .int .u32 a0_1, .slice A0_2 l0_2.length c0_2] 26 (0,0)) (by (with_reducible repeat (first|refine zh ?_ _|refine zj ?_|refine zi ?_ _));exact BK244.out)) : gb244≠gb245));have n6_:=zm ((by rw [hg];exact zg (zD (g:=gb244) (o:=.cells #[.int .u64 a0_0, .int .u32 a0_1, .slice A0_2 l0_2.length c0_2] 26 (0,0)) (by (with_reducible repeat (first|refine zh ?_ _|refine zj ?_|refine zi ?_ _));exact BK244.out)) : gb245≠gb244));clear BK244;clear HB;have BK244:=n0_;have HB:=n1_;have BK245:=n2_;have GW245:=n3_;have GE245:=n4_;have NB244_245:=n5_;have NB245_244:=n6_;clear n0_ n1_ n2_ n3_ n4_ n5_ n6_;clear hb hbox hg;have hnb7:=NB244_245.out;have hnc7:=NB245_244.out;have hcz8_0 : w6.cell? ⟨gb244,0,none⟩=some (.int .u64 a0_0):=(zs BK244.out 0).trans rfl;have hcz8_1 : w6.cell? ⟨gb244,1,none⟩=some (.int .u32 a0_1):=(zs BK244.out 1).trans rfl;have hcz8_2 : w6.cell? ⟨gb244,2,none⟩=some (.slice A0_2 l0_2.length c0_2):=(zs BK244.out 2).trans rfl;have hfz8_0:=zx BK244.out 0;have hfz8_1:=zx BK244.out 1;have hfz8_2:=zx BK244.out 2)|(go_at_call 20;(with_reducible refine (psalterylaw05_AsEnc.calls k a0_0 a0_1 _ _ l0_2 t246 t247 _ ?side1 ?side2 A3.out).mono ?_);(case side1=>repeat (first|exact (Kd.C_below HR0_2.out HB.out)|(with_reducible refine Kd.C_alloc ?_ _)|(with_reducible refine Kd.C_drewN ?_ _)|(with_reducible refine Kd.C_drew ?_)));(case side2=>exact HC0_2.out);rintro e w9 ⟨v248,rfl,ho0,hb⟩;have n0_:=zm (Kd.R_lower ho0 (zE (by repeat (first|(with_reducible first|exact HB.out|apply ze|apply zd|apply zf|refine zk ?_ GE244.out|refine zk ?_ GE245.out)|exact HB.out))));have n1_:=zm (zF (g:=gb244) (o:=.cells #[.int .u64 a0_0, .int .u32 a0_1, .slice A0_2 l0_2.length c0_2] 26 (0,0)) (by (with_reducible repeat (first|refine zh ?_ _|refine zj ?_|refine zi ?_ _));exact BK244.out) hb);have n2_:=zm (zF (g:=gb245) (o:=.cells #[.int .u64 a1_0, .slice A1_1 l1_1.length c1_1] 33 (0,0)) (by (with_reducible repeat (first|refine zh ?_ _|refine zj ?_|refine zi ?_ _));exact BK245.out) hb);have n3_:=zm (zJ (by repeat (first|(with_reducible first|exact HB.out|apply ze|apply zd|apply zf|refine zk ?_ GE244.out|refine zk ?_ GE245.out)|exact HB.out)) hb);clear BK244;clear BK245;clear HB;have HO249:=n0_;have BK244:=n1_;have BK245:=n2_;have HB:=n3_;clear n0_ n1_ n2_ n3_;(try clear hb);(try clear hb2);(try clear hk);(try clear hi);(try clear ho0))|((with_reducible refine gate_dst (N:=5) rfl ?_);(try (refine gate_guard (by rfl) ?_;dsimp only));refine box_event ?hg (N:=5) ?hd (cs := #[.int .u64 0, .slice none 0 0]) (t:=33) ?hr ?_;(case hd=>rfl);(case hg=>rfl);(case hr=>first|(go_simp;done)|(go_simp;rfl));intro gb250 hg w10 hbox hb;have n0_:=zm (Kd.R_below (by (with_reducible repeat (first|apply zo|apply zp|apply zq));exact HO249.out) hb);have n1_:=zm (zF (g:=gb244) (o:=.cells #[.int .u64 a0_0, .int .u32 a0_1, .slice A0_2 l0_2.length c0_2] 26 (0,0)) (by (with_reducible repeat (first|refine zh ?_ _|refine zj ?_|refine zi ?_ _));exact BK244.out) hb);have n2_:=zm (zF (g:=gb245) (o:=.cells #[.int .u64 a1_0, .slice A1_1 l1_1.length c1_1] 33 (0,0)) (by (with_reducible repeat (first|refine zh ?_ _|refine zj ?_|refine zi ?_ _));exact BK245.out) hb);have n3_:=zm (zJ (by repeat (first|(with_reducible first|exact HB.out|apply ze|apply zd|apply zf|refine zk ?_ GE244.out|refine zk ?_ GE245.out)|exact HB.out)) hb);have n4_:=zm (hbox);have n5_:=zm ((by rw [hg];exact (zE (by repeat (first|(with_reducible first|exact HB.out|apply ze|apply zd|apply zf|refine zk ?_ GE244.out|refine zk ?_ GE245.out)|exact HB.out))) : w.heap.size≤gb250));have n6_:=zm ((by rw [hg];exact (zE (by repeat (first|(with_reducible first|exact HB.out|apply ze|apply zd|apply zf|refine zk ?_ GE244.out|refine zk ?_ GE245.out)|exact HB.out))) : w.heap.size≤gb250));have n7_:=zm ((by rw [hg];exact zn (zD (g:=gb244) (o:=.cells #[.int .u64 a0_0, .int .u32 a0_1, .slice A0_2 l0_2.length c0_2] 26 (0,0)) (by (with_reducible repeat (first|refine zh ?_ _|refine zj ?_|refine zi ?_ _));exact BK244.out)) : gb244≠gb250));have n8_:=zm ((by rw [hg];exact zg (zD (g:=gb244) (o:=.cells #[.int .u64 a0_0, .int .u32 a0_1, .slice A0_2 l0_2.length c0_2] 26 (0,0)) (by (with_reducible repeat (first|refine zh ?_ _|refine zj ?_|refine zi ?_ _));exact BK244.out)) : gb250≠gb244));have n9_:=zm ((by rw [hg];exact zn (zD (g:=gb245) (o:=.cells #[.int .u64 a1_0, .slice A1_1 l1_1.length c1_1] 33 (0,0)) (by (with_reducible repeat (first|refine zh ?_ _|refine zj ?_|refine zi ?_ _));exact BK245.out)) : gb245≠gb250));have n10_:=zm ((by rw [hg];exact zg (zD (g:=gb245) (o:=.cells #[.int .u64 a1_0, .slice A1_1 l1_1.length c1_1] 33 (0,0)) (by (with_reducible repeat (first|refine zh ?_ _|refine zj ?_|refine zi ?_ _));exact BK245.out)) : gb250≠gb245));clear HO249;clear BK244;clear BK245;clear HB;have HO249:=n0_;have BK244:=n1_;have BK245:=n2_;have HB:=n3_;have BK250:=n4_;have GW250:=n5_;have GE250:=n6_;have NB244_250:=n7_;have NB250_244:=n8_;have NB245_250:=n9_;have NB250_245:=n10_;clear n0_ n1_ n2_ n3_ n4_ n5_ n6_ n7_ n8_ n9_ n10_;clear hb hbox hg;have hnb11:=NB250_244.out;have hnc11:=NB244_250.out;have hnb12:=NB250_245.out;have hnc12:=NB245_250.out;have hcz13_0 : w10.cell? ⟨gb250,0,none⟩=some (.int .u64 0):=(zs BK250.out 0).trans rfl;have hcz13_1 : w10.cell? ⟨gb250,1,none⟩=some (.slice none 0 0):=(zs BK250.out 1).trans rfl;have hfz13_0:=zx BK250.out 0;have hfz13_1:=zx BK250.out 1;obtain ⟨Ao14,co14,eo14⟩:=Kd.R_slice HO249.out;subst eo14)))
 (try simp only [Act.put,List.setIfInBounds_toArray,List.set_cons_zero,List.set_cons_succ])
 go_cut [27] (fun v27 wc => ∃ (kq : Nat) (x27_3 : Bool),v27=.bool x27_3∧Aside0 (psalterylaw05_SameEnc.j0 kq x27_3 a1_0 l1_1 t246 t247=some r)∧Aside0 (kq≤k)∧Aside0 (Kd.R (Kd.int .i64) 3 wc w.heap.size (fun _=>True) (.slice Ao14 t247.length co14) t247)∧Aside0 (wc.heap[gb244]? = some (.cells #[.int .u64 a0_0, .int .u32 a0_1,(.slice A0_2 l0_2.length c0_2)] 26 (0,0)))∧Aside0 (wc.heap[gb245]? = some (.cells #[.int .u64 a1_0,(.slice A1_1 l1_1.length c1_1)] 33 (0,0)))∧Aside0 (wc.heap[gb250]? = some (.cells #[.int .u64 t246,(.slice Ao14 t247.length co14)] 33 (0,0)))∧Aside0 (Below w.heap.size w wc))
 case first =>
  have H:=HC4.out;clear HC4
  replace H:=Option.bind_eq_some_iff.mp H
  obtain ⟨t251,A150,H⟩:=H
  replace H : (if t251=true then (if t246=a1_0 then (psalterylaw05_SameEnc.j0 k ((t247.length : Int) != (l1_1.length : Int)) a1_0 l1_1 t246 t247) else (psalterylaw05_SameEnc.j0 k true a1_0 l1_1 t246 t247)) else (psalterylaw05_SameEnc.j0 k true a1_0 l1_1 t246 t247))=some r:=H
  have A15:=zm A150;clear A150
  by_cases c16 : t251=true
  ·
   subst c16
   have H1 : (if t246=a1_0 then (psalterylaw05_SameEnc.j0 k ((t247.length : Int) != (l1_1.length : Int)) a1_0 l1_1 t246 t247) else (psalterylaw05_SameEnc.j0 k true a1_0 l1_1 t246 t247))=some r:=by rw [if_pos rfl] at H;exact H
   clear H;have H:=H1;clear H1
   by_cases c17 : t246=a1_0
   ·
    rw [if_pos c17] at H
    have c17b0 : (t246 == a1_0)=true:=beq_iff_eq.mpr c17
    have c17b1 : (t246 != a1_0)=false:=bne_eq_false_iff_eq.mpr c17
    clear c17
    (first|rw [c17b0]|(simp only [i64_w,i32_w];rw [c17b0])|skip)
    have H' := zm H
    clear H;have hnb18:=NB244_245.out;have hnc18:=NB245_244.out;have hnb19:=NB244_250.out;have hnc19:=NB250_244.out
    have hcz20_0 : w10.cell? ⟨gb244,0,none⟩=some (.int .u64 a0_0):=(zs BK244.out 0).trans rfl
    have hcz20_1 : w10.cell? ⟨gb244,1,none⟩=some (.int .u32 a0_1):=(zs BK244.out 1).trans rfl
    have hcz20_2 : w10.cell? ⟨gb244,2,none⟩=some (.slice A0_2 l0_2.length c0_2):=(zs BK244.out 2).trans rfl
    have hfz20_0:=zx BK244.out 0
    have hfz20_1:=zx BK244.out 1
    have hfz20_2:=zx BK244.out 2
    go_wp2_with (first|(go_at_call 22;(with_reducible refine (psalterylaw05_right.calls a0_0 a0_1 _ _ l0_2 true _ ?side1 ?side2 A15.out).mono ?_);(case side1=>exact Kd.C_below HR0_2.out (by repeat (first|(with_reducible first|exact HB.out|apply ze|apply zd|apply zf|refine zk ?_ GE244.out|refine zk ?_ GE245.out|refine zk ?_ GE250.out)|exact HB.out)));(case side2=>exact HC0_2.out);rintro e w21 ⟨rfl,hb⟩;have n0_:=zm (Kd.R_below (by (with_reducible repeat (first|apply zo|apply zp|apply zq));exact (zG (zH (p:=⟨gb250,1,none⟩) (zH (p:=⟨gb250,0,none⟩) (Kd.R_types HO249.out BK250.out (by decide)) (fun _ hk=>hk.2) (.int .u64 t246)) (fun _ hk=>hk.2) (.slice Ao14 t247.length co14)) (fun _ h_=>h_.1))) hb);have n1_:=zm (zF (g:=gb244) (o:=.cells #[.int .u64 a0_0, .int .u32 a0_1, .slice A0_2 l0_2.length c0_2] 26 (0,0)) (by (with_reducible repeat (first|refine zh ?_ _|refine zj ?_|refine zi ?_ _|refine zv ?_ NB244_250.out _));exact BK244.out) hb);have n2_:=zm (zF (g:=gb245) (o:=.cells #[.int .u64 a1_0, .slice A1_1 l1_1.length c1_1] 33 (0,0)) (by (with_reducible repeat (first|refine zh ?_ _|refine zj ?_|refine zi ?_ _|refine zv ?_ NB245_250.out _));exact BK245.out) hb);have n3_:=zm (zF (g:=gb250) (o:=.cells #[.int .u64 t246, .slice Ao14 t247.length co14] 33 (0,0)) (by (with_reducible repeat (first|refine zh ?_ _|refine zj ?_|refine zi ?_ _));refine zw (cs := #[.int .u64 t246, .slice none 0 0]) ?_ 1 _ rfl;(with_reducible repeat (first|refine zh ?_ _|refine zj ?_|refine zi ?_ _));refine zw (cs := #[.int .u64 0, .slice none 0 0]) ?_ 0 _ rfl;(with_reducible repeat (first|refine zh ?_ _|refine zj ?_|refine zi ?_ _));exact BK250.out) hb);have n4_:=zm (zJ (by repeat (first|(with_reducible first|exact HB.out|apply ze|apply zd|apply zf|refine zk ?_ GE244.out|refine zk ?_ GE245.out|refine zk ?_ GE250.out)|exact HB.out)) hb);clear HO249;clear BK244;clear BK245;clear BK250;clear HB;have HO249:=n0_;have BK244:=n1_;have BK245:=n2_;have BK250:=n3_;have HB:=n4_;clear n0_ n1_ n2_ n3_ n4_;(try clear hb);(try clear hb2);(try clear hk);(try clear hi);have hnb22:=NB250_245.out;have hnc22:=NB245_250.out;have hcz23_0 : w21.cell? ⟨gb250,0,none⟩=some (.int .u64 t246):=(zs BK250.out 0).trans rfl;have hcz23_1 : w21.cell? ⟨gb250,1,none⟩=some (.slice Ao14 t247.length co14):=(zs BK250.out 1).trans rfl;have hfz23_0:=zx BK250.out 0;have hfz23_1:=zx BK250.out 1;have hcz24_0 : w21.cell? ⟨gb245,0,none⟩=some (.int .u64 a1_0):=(zs BK245.out 0).trans rfl;have hcz24_1 : w21.cell? ⟨gb245,1,none⟩=some (.slice A1_1 l1_1.length c1_1):=(zs BK245.out 1).trans rfl;have hfz24_0:=zx BK245.out 0;have hfz24_1:=zx BK245.out 1))
    repeat (go_quiet (first|(go_at_call 22;(with_reducible refine (psalterylaw05_right.calls a0_0 a0_1 _ _ l0_2 true _ ?side1 ?side2 A15.out).mono ?_);(case side1=>exact Kd.C_below HR0_2.out (by repeat (first|(with_reducible first|exact HB.out|apply ze|apply zd|apply zf|refine zk ?_ GE244.out|refine zk ?_ GE245.out|refine zk ?_ GE250.out)|exact HB.out)));(case side2=>exact HC0_2.out);rintro e w21 ⟨rfl,hb⟩;have n0_:=zm (Kd.R_below (by (with_reducible repeat (first|apply zo|apply zp|apply zq));exact (zG (zH (p:=⟨gb250,1,none⟩) (zH (p:=⟨gb250,0,none⟩) (Kd.R_types HO249.out BK250.out (by decide)) (fun _ hk=>hk.2) (.int .u64 t246)) (fun _ hk=>hk.2) (.slice Ao14 t247.length co14)) (fun _ h_=>h_.1))) hb);have n1_:=zm (zF (g:=gb244) (o:=.cells #[.int .u64 a0_0, .int .u32 a0_1, .slice A0_2 l0_2.length c0_2] 26 (0,0)) (by (with_reducible repeat (first|refine zh ?_ _|refine zj ?_|refine zi ?_ _|refine zv ?_ NB244_250.out _));exact BK244.out) hb);have n2_:=zm (zF (g:=gb245) (o:=.cells #[.int .u64 a1_0, .slice A1_1 l1_1.length c1_1] 33 (0,0)) (by (with_reducible repeat (first|refine zh ?_ _|refine zj ?_|refine zi ?_ _|refine zv ?_ NB245_250.out _));exact BK245.out) hb);have n3_:=zm (zF (g:=gb250) (o:=.cells #[.int .u64 t246, .slice Ao14 t247.length co14] 33 (0,0)) (by (with_reducible repeat (first|refine zh ?_ _|refine zj ?_|refine zi ?_ _));refine zw (cs := #[.int .u64 t246, .slice none 0 0]) ?_ 1 _ rfl;(with_reducible repeat (first|refine zh ?_ _|refine zj ?_|refine zi ?_ _));refine zw (cs := #[.int .u64 0, .slice none 0 0]) ?_ 0 _ rfl;(with_reducible repeat (first|refine zh ?_ _|refine zj ?_|refine zi ?_ _));exact BK250.out) hb);have n4_:=zm (zJ (by repeat (first|(with_reducible first|exact HB.out|apply ze|apply zd|apply zf|refine zk ?_ GE244.out|refine zk ?_ GE245.out|refine zk ?_ GE250.out)|exact HB.out)) hb);clear HO249;clear BK244;clear BK245;clear BK250;clear HB;have HO249:=n0_;have BK244:=n1_;have BK245:=n2_;have BK250:=n3_;have HB:=n4_;clear n0_ n1_ n2_ n3_ n4_;(try clear hb);(try clear hb2);(try clear hk);(try clear hi);have hnb22:=NB250_245.out;have hnc22:=NB245_250.out;have hcz23_0 : w21.cell? ⟨gb250,0,none⟩=some (.int .u64 t246):=(zs BK250.out 0).trans rfl;have hcz23_1 : w21.cell? ⟨gb250,1,none⟩=some (.slice Ao14 t247.length co14):=(zs BK250.out 1).trans rfl;have hfz23_0:=zx BK250.out 0;have hfz23_1:=zx BK250.out 1;have hcz24_0 : w21.cell? ⟨gb245,0,none⟩=some (.int .u64 a1_0):=(zs BK245.out 0).trans rfl;have hcz24_1 : w21.cell? ⟨gb245,1,none⟩=some (.slice A1_1 l1_1.length c1_1):=(zs BK245.out 1).trans rfl;have hfz24_0:=zx BK245.out 0;have hfz24_1:=zx BK245.out 1));try go_wp2_with (first|(go_at_call 22;(with_reducible refine (psalterylaw05_right.calls a0_0 a0_1 _ _ l0_2 true _ ?side1 ?side2 A15.out).mono ?_);(case side1=>exact Kd.C_below HR0_2.out (by repeat (first|(with_reducible first|exact HB.out|apply ze|apply zd|apply zf|refine zk ?_ GE244.out|refine zk ?_ GE245.out|refine zk ?_ GE250.out)|exact HB.out)));(case side2=>exact HC0_2.out);rintro e w21 ⟨rfl,hb⟩;have n0_:=zm (Kd.R_below (by (with_reducible repeat (first|apply zo|apply zp|apply zq));exact (zG (zH (p:=⟨gb250,1,none⟩) (zH (p:=⟨gb250,0,none⟩) (Kd.R_types HO249.out BK250.out (by decide)) (fun _ hk=>hk.2) (.int .u64 t246)) (fun _ hk=>hk.2) (.slice Ao14 t247.length co14)) (fun _ h_=>h_.1))) hb);have n1_:=zm (zF (g:=gb244) (o:=.cells #[.int .u64 a0_0, .int .u32 a0_1, .slice A0_2 l0_2.length c0_2] 26 (0,0)) (by (with_reducible repeat (first|refine zh ?_ _|refine zj ?_|refine zi ?_ _|refine zv ?_ NB244_250.out _));exact BK244.out) hb);have n2_:=zm (zF (g:=gb245) (o:=.cells #[.int .u64 a1_0, .slice A1_1 l1_1.length c1_1] 33 (0,0)) (by (with_reducible repeat (first|refine zh ?_ _|refine zj ?_|refine zi ?_ _|refine zv ?_ NB245_250.out _));exact BK245.out) hb);have n3_:=zm (zF (g:=gb250) (o:=.cells #[.int .u64 t246, .slice Ao14 t247.length co14] 33 (0,0)) (by (with_reducible repeat (first|refine zh ?_ _|refine zj ?_|refine zi ?_ _));refine zw (cs := #[.int .u64 t246, .slice none 0 0]) ?_ 1 _ rfl;(with_reducible repeat (first|refine zh ?_ _|refine zj ?_|refine zi ?_ _));refine zw (cs := #[.int .u64 0, .slice none 0 0]) ?_ 0 _ rfl;(with_reducible repeat (first|refine zh ?_ _|refine zj ?_|refine zi ?_ _));exact BK250.out) hb);have n4_:=zm (zJ (by repeat (first|(with_reducible first|exact HB.out|apply ze|apply zd|apply zf|refine zk ?_ GE244.out|refine zk ?_ GE245.out|refine zk ?_ GE250.out)|exact HB.out)) hb);clear HO249;clear BK244;clear BK245;clear BK250;clear HB;have HO249:=n0_;have BK244:=n1_;have BK245:=n2_;have BK250:=n3_;have HB:=n4_;clear n0_ n1_ n2_ n3_ n4_;(try clear hb);(try clear hb2);(try clear hk);(try clear hi);have hnb22:=NB250_245.out;have hnc22:=NB245_250.out;have hcz23_0 : w21.cell? ⟨gb250,0,none⟩=some (.int .u64 t246):=(zs BK250.out 0).trans rfl;have hcz23_1 : w21.cell? ⟨gb250,1,none⟩=some (.slice Ao14 t247.length co14):=(zs BK250.out 1).trans rfl;have hfz23_0:=zx BK250.out 0;have hfz23_1:=zx BK250.out 1;have hcz24_0 : w21.cell? ⟨gb245,0,none⟩=some (.int .u64 a1_0):=(zs BK245.out 0).trans rfl;have hcz24_1 : w21.cell? ⟨gb245,1,none⟩=some (.slice A1_1 l1_1.length c1_1):=(zs BK245.out 1).trans rfl;have hfz24_0:=zx BK245.out 0;have hfz24_1:=zx BK245.out 1)))
    go_meet
    case rel=>exact ⟨_,(((t247.length : Int) != (l1_1.length : Int))),(by first|rfl|(simp;done)|(simp [*];done)),H',⟨by first|omega|exact Nat.le_refl _⟩,⟨by (with_reducible repeat (first|apply zo|apply zp|apply zq));exact HO249.out⟩,⟨by (with_reducible repeat (first|refine zh ?_ _|refine zj ?_|refine zi ?_ _));exact BK244.out⟩,⟨by (with_reducible repeat (first|refine zh ?_ _|refine zj ?_|refine zi ?_ _));exact BK245.out⟩,⟨by (with_reducible repeat (first|refine zh ?_ _|refine zj ?_|refine zi ?_ _));exact BK250.out⟩,⟨by repeat (first|(with_reducible first|exact HB.out|apply ze|apply zd|apply zf|refine zk ?_ GE244.out|refine zk ?_ GE245.out|refine zk ?_ GE250.out)|exact HB.out)⟩⟩
   ·
    rw [if_neg c17] at H
    have c17b0 : (t246 == a1_0)=false:=beq_eq_false_iff_ne.mpr c17
    have c17b1 : (t246 != a1_0)=true:=bne_iff_ne.mpr c17
    (first|rw [c17b0]|(simp only [i64_w,i32_w];rw [c17b0])|skip)
    have H' := zm H
    clear H;have hnb25:=NB244_245.out;have hnc25:=NB245_244.out;have hnb26:=NB244_250.out;have hnc26:=NB250_244.out
    have hcz27_0 : w10.cell? ⟨gb244,0,none⟩=some (.int .u64 a0_0):=(zs BK244.out 0).trans rfl
    have hcz27_1 : w10.cell? ⟨gb244,1,none⟩=some (.int .u32 a0_1):=(zs BK244.out 1).trans rfl
    have hcz27_2 : w10.cell? ⟨gb244,2,none⟩=some (.slice A0_2 l0_2.length c0_2):=(zs BK244.out 2).trans rfl
    have hfz27_0:=zx BK244.out 0
    have hfz27_1:=zx BK244.out 1
    have hfz27_2:=zx BK244.out 2
    go_wp2_with (first|(go_at_call 22;(with_reducible refine (psalterylaw05_right.calls a0_0 a0_1 _ _ l0_2 true _ ?side1 ?side2 A15.out).mono ?_);(case side1=>exact Kd.C_below HR0_2.out (by repeat (first|(with_reducible first|exact HB.out|apply ze|apply zd|apply zf|refine zk ?_ GE244.out|refine zk ?_ GE245.out|refine zk ?_ GE250.out)|exact HB.out)));(case side2=>exact HC0_2.out);rintro e w28 ⟨rfl,hb⟩;have n0_:=zm (Kd.R_below (by (with_reducible repeat (first|apply zo|apply zp|apply zq));exact (zG (zH (p:=⟨gb250,1,none⟩) (zH (p:=⟨gb250,0,none⟩) (Kd.R_types HO249.out BK250.out (by decide)) (fun _ hk=>hk.2) (.int .u64 t246)) (fun _ hk=>hk.2) (.slice Ao14 t247.length co14)) (fun _ h_=>h_.1))) hb);have n1_:=zm (zF (g:=gb244) (o:=.cells #[.int .u64 a0_0, .int .u32 a0_1, .slice A0_2 l0_2.length c0_2] 26 (0,0)) (by (with_reducible repeat (first|refine zh ?_ _|refine zj ?_|refine zi ?_ _|refine zv ?_ NB244_250.out _));exact BK244.out) hb);have n2_:=zm (zF (g:=gb245) (o:=.cells #[.int .u64 a1_0, .slice A1_1 l1_1.length c1_1] 33 (0,0)) (by (with_reducible repeat (first|refine zh ?_ _|refine zj ?_|refine zi ?_ _|refine zv ?_ NB245_250.out _));exact BK245.out) hb);have n3_:=zm (zF (g:=gb250) (o:=.cells #[.int .u64 t246, .slice Ao14 t247.length co14] 33 (0,0)) (by (with_reducible repeat (first|refine zh ?_ _|refine zj ?_|refine zi ?_ _));refine zw (cs := #[.int .u64 t246, .slice none 0 0]) ?_ 1 _ rfl;(with_reducible repeat (first|refine zh ?_ _|refine zj ?_|refine zi ?_ _));refine zw (cs := #[.int .u64 0, .slice none 0 0]) ?_ 0 _ rfl;(with_reducible repeat (first|refine zh ?_ _|refine zj ?_|refine zi ?_ _));exact BK250.out) hb);have n4_:=zm (zJ (by repeat (first|(with_reducible first|exact HB.out|apply ze|apply zd|apply zf|refine zk ?_ GE244.out|refine zk ?_ GE245.out|refine zk ?_ GE250.out)|exact HB.out)) hb);clear HO249;clear BK244;clear BK245;clear BK250;clear HB;have HO249:=n0_;have BK244:=n1_;have BK245:=n2_;have BK250:=n3_;have HB:=n4_;clear n0_ n1_ n2_ n3_ n4_;(try clear hb);(try clear hb2);(try clear hk);(try clear hi);have hnb29:=NB250_245.out;have hnc29:=NB245_250.out;have hcz30_0 : w28.cell? ⟨gb250,0,none⟩=some (.int .u64 t246):=(zs BK250.out 0).trans rfl;have hcz30_1 : w28.cell? ⟨gb250,1,none⟩=some (.slice Ao14 t247.length co14):=(zs BK250.out 1).trans rfl;have hfz30_0:=zx BK250.out 0;have hfz30_1:=zx BK250.out 1;have hcz31_0 : w28.cell? ⟨gb245,0,none⟩=some (.int .u64 a1_0):=(zs BK245.out 0).trans rfl;have hcz31_1 : w28.cell? ⟨gb245,1,none⟩=some (.slice A1_1 l1_1.length c1_1):=(zs BK245.out 1).trans rfl;have hfz31_0:=zx BK245.out 0;have hfz31_1:=zx BK245.out 1))
    repeat (go_quiet (first|(go_at_call 22;(with_reducible refine (psalterylaw05_right.calls a0_0 a0_1 _ _ l0_2 true _ ?side1 ?side2 A15.out).mono ?_);(case side1=>exact Kd.C_below HR0_2.out (by repeat (first|(with_reducible first|exact HB.out|apply ze|apply zd|apply zf|refine zk ?_ GE244.out|refine zk ?_ GE245.out|refine zk ?_ GE250.out)|exact HB.out)));(case side2=>exact HC0_2.out);rintro e w28 ⟨rfl,hb⟩;have n0_:=zm (Kd.R_below (by (with_reducible repeat (first|apply zo|apply zp|apply zq));exact (zG (zH (p:=⟨gb250,1,none⟩) (zH (p:=⟨gb250,0,none⟩) (Kd.R_types HO249.out BK250.out (by decide)) (fun _ hk=>hk.2) (.int .u64 t246)) (fun _ hk=>hk.2) (.slice Ao14 t247.length co14)) (fun _ h_=>h_.1))) hb);have n1_:=zm (zF (g:=gb244) (o:=.cells #[.int .u64 a0_0, .int .u32 a0_1, .slice A0_2 l0_2.length c0_2] 26 (0,0)) (by (with_reducible repeat (first|refine zh ?_ _|refine zj ?_|refine zi ?_ _|refine zv ?_ NB244_250.out _));exact BK244.out) hb);have n2_:=zm (zF (g:=gb245) (o:=.cells #[.int .u64 a1_0, .slice A1_1 l1_1.length c1_1] 33 (0,0)) (by (with_reducible repeat (first|refine zh ?_ _|refine zj ?_|refine zi ?_ _|refine zv ?_ NB245_250.out _));exact BK245.out) hb);have n3_:=zm (zF (g:=gb250) (o:=.cells #[.int .u64 t246, .slice Ao14 t247.length co14] 33 (0,0)) (by (with_reducible repeat (first|refine zh ?_ _|refine zj ?_|refine zi ?_ _));refine zw (cs := #[.int .u64 t246, .slice none 0 0]) ?_ 1 _ rfl;(with_reducible repeat (first|refine zh ?_ _|refine zj ?_|refine zi ?_ _));refine zw (cs := #[.int .u64 0, .slice none 0 0]) ?_ 0 _ rfl;(with_reducible repeat (first|refine zh ?_ _|refine zj ?_|refine zi ?_ _));exact BK250.out) hb);have n4_:=zm (zJ (by repeat (first|(with_reducible first|exact HB.out|apply ze|apply zd|apply zf|refine zk ?_ GE244.out|refine zk ?_ GE245.out|refine zk ?_ GE250.out)|exact HB.out)) hb);clear HO249;clear BK244;clear BK245;clear BK250;clear HB;have HO249:=n0_;have BK244:=n1_;have BK245:=n2_;have BK250:=n3_;have HB:=n4_;clear n0_ n1_ n2_ n3_ n4_;(try clear hb);(try clear hb2);(try clear hk);(try clear hi);have hnb29:=NB250_245.out;have hnc29:=NB245_250.out;have hcz30_0 : w28.cell? ⟨gb250,0,none⟩=some (.int .u64 t246):=(zs BK250.out 0).trans rfl;have hcz30_1 : w28.cell? ⟨gb250,1,none⟩=some (.slice Ao14 t247.length co14):=(zs BK250.out 1).trans rfl;have hfz30_0:=zx BK250.out 0;have hfz30_1:=zx BK250.out 1;have hcz31_0 : w28.cell? ⟨gb245,0,none⟩=some (.int .u64 a1_0):=(zs BK245.out 0).trans rfl;have hcz31_1 : w28.cell? ⟨gb245,1,none⟩=some (.slice A1_1 l1_1.length c1_1):=(zs BK245.out 1).trans rfl;have hfz31_0:=zx BK245.out 0;have hfz31_1:=zx BK245.out 1));try go_wp2_with (first|(go_at_call 22;(with_reducible refine (psalterylaw05_right.calls a0_0 a0_1 _ _ l0_2 true _ ?side1 ?side2 A15.out).mono ?_);(case side1=>exact Kd.C_below HR0_2.out (by repeat (first|(with_reducible first|exact HB.out|apply ze|apply zd|apply zf|refine zk ?_ GE244.out|refine zk ?_ GE245.out|refine zk ?_ GE250.out)|exact HB.out)));(case side2=>exact HC0_2.out);rintro e w28 ⟨rfl,hb⟩;have n0_:=zm (Kd.R_below (by (with_reducible repeat (first|apply zo|apply zp|apply zq));exact (zG (zH (p:=⟨gb250,1,none⟩) (zH (p:=⟨gb250,0,none⟩) (Kd.R_types HO249.out BK250.out (by decide)) (fun _ hk=>hk.2) (.int .u64 t246)) (fun _ hk=>hk.2) (.slice Ao14 t247.length co14)) (fun _ h_=>h_.1))) hb);have n1_:=zm (zF (g:=gb244) (o:=.cells #[.int .u64 a0_0, .int .u32 a0_1, .slice A0_2 l0_2.length c0_2] 26 (0,0)) (by (with_reducible repeat (first|refine zh ?_ _|refine zj ?_|refine zi ?_ _|refine zv ?_ NB244_250.out _));exact BK244.out) hb);have n2_:=zm (zF (g:=gb245) (o:=.cells #[.int .u64 a1_0, .slice A1_1 l1_1.length c1_1] 33 (0,0)) (by (with_reducible repeat (first|refine zh ?_ _|refine zj ?_|refine zi ?_ _|refine zv ?_ NB245_250.out _));exact BK245.out) hb);have n3_:=zm (zF (g:=gb250) (o:=.cells #[.int .u64 t246, .slice Ao14 t247.length co14] 33 (0,0)) (by (with_reducible repeat (first|refine zh ?_ _|refine zj ?_|refine zi ?_ _));refine zw (cs := #[.int .u64 t246, .slice none 0 0]) ?_ 1 _ rfl;(with_reducible repeat (first|refine zh ?_ _|refine zj ?_|refine zi ?_ _));refine zw (cs := #[.int .u64 0, .slice none 0 0]) ?_ 0 _ rfl;(with_reducible repeat (first|refine zh ?_ _|refine zj ?_|refine zi ?_ _));exact BK250.out) hb);have n4_:=zm (zJ (by repeat (first|(with_reducible first|exact HB.out|apply ze|apply zd|apply zf|refine zk ?_ GE244.out|refine zk ?_ GE245.out|refine zk ?_ GE250.out)|exact HB.out)) hb);clear HO249;clear BK244;clear BK245;clear BK250;clear HB;have HO249:=n0_;have BK244:=n1_;have BK245:=n2_;have BK250:=n3_;have HB:=n4_;clear n0_ n1_ n2_ n3_ n4_;(try clear hb);(try clear hb2);(try clear hk);(try clear hi);have hnb29:=NB250_245.out;have hnc29:=NB245_250.out;have hcz30_0 : w28.cell? ⟨gb250,0,none⟩=some (.int .u64 t246):=(zs BK250.out 0).trans rfl;have hcz30_1 : w28.cell? ⟨gb250,1,none⟩=some (.slice Ao14 t247.length co14):=(zs BK250.out 1).trans rfl;have hfz30_0:=zx BK250.out 0;have hfz30_1:=zx BK250.out 1;have hcz31_0 : w28.cell? ⟨gb245,0,none⟩=some (.int .u64 a1_0):=(zs BK245.out 0).trans rfl;have hcz31_1 : w28.cell? ⟨gb245,1,none⟩=some (.slice A1_1 l1_1.length c1_1):=(zs BK245.out 1).trans rfl;have hfz31_0:=zx BK245.out 0;have hfz31_1:=zx BK245.out 1)))
    go_meet
    case rel=>exact ⟨_,(true),(by first|rfl|(simp;done)|(simp [*];done)),H',⟨by first|omega|exact Nat.le_refl _⟩,⟨by (with_reducible repeat (first|apply zo|apply zp|apply zq));exact HO249.out⟩,⟨by (with_reducible repeat (first|refine zh ?_ _|refine zj ?_|refine zi ?_ _));exact BK244.out⟩,⟨by (with_reducible repeat (first|refine zh ?_ _|refine zj ?_|refine zi ?_ _));exact BK245.out⟩,⟨by (with_reducible repeat (first|refine zh ?_ _|refine zj ?_|refine zi ?_ _));exact BK250.out⟩,⟨by repeat (first|(with_reducible first|exact HB.out|apply ze|apply zd|apply zf|refine zk ?_ GE244.out|refine zk ?_ GE245.out|refine zk ?_ GE250.out)|exact HB.out)⟩⟩
  ·
   replace c16:=Bool.eq_false_iff.mpr c16
   subst c16
   have H1 : (psalterylaw05_SameEnc.j0 k true a1_0 l1_1 t246 t247)=some r:=by rw [if_neg (show ¬ (false=true) by decide)] at H;exact H
   clear H;have H:=H1;clear H1
   have H' := zm H
   clear H;have hnb32:=NB244_245.out;have hnc32:=NB245_244.out;have hnb33:=NB244_250.out;have hnc33:=NB250_244.out
   have hcz34_0 : w10.cell? ⟨gb244,0,none⟩=some (.int .u64 a0_0):=(zs BK244.out 0).trans rfl
   have hcz34_1 : w10.cell? ⟨gb244,1,none⟩=some (.int .u32 a0_1):=(zs BK244.out 1).trans rfl
   have hcz34_2 : w10.cell? ⟨gb244,2,none⟩=some (.slice A0_2 l0_2.length c0_2):=(zs BK244.out 2).trans rfl
   have hfz34_0:=zx BK244.out 0
   have hfz34_1:=zx BK244.out 1
   have hfz34_2:=zx BK244.out 2
   go_wp2_with (first|(go_at_call 22;(with_reducible refine (psalterylaw05_right.calls a0_0 a0_1 _ _ l0_2 false _ ?side1 ?side2 A15.out).mono ?_);(case side1=>exact Kd.C_below HR0_2.out (by repeat (first|(with_reducible first|exact HB.out|apply ze|apply zd|apply zf|refine zk ?_ GE244.out|refine zk ?_ GE245.out|refine zk ?_ GE250.out)|exact HB.out)));(case side2=>exact HC0_2.out);rintro e w35 ⟨rfl,hb⟩;have n0_:=zm (Kd.R_below (by (with_reducible repeat (first|apply zo|apply zp|apply zq));exact (zG (zH (p:=⟨gb250,1,none⟩) (zH (p:=⟨gb250,0,none⟩) (Kd.R_types HO249.out BK250.out (by decide)) (fun _ hk=>hk.2) (.int .u64 t246)) (fun _ hk=>hk.2) (.slice Ao14 t247.length co14)) (fun _ h_=>h_.1))) hb);have n1_:=zm (zF (g:=gb244) (o:=.cells #[.int .u64 a0_0, .int .u32 a0_1, .slice A0_2 l0_2.length c0_2] 26 (0,0)) (by (with_reducible repeat (first|refine zh ?_ _|refine zj ?_|refine zi ?_ _|refine zv ?_ NB244_250.out _));exact BK244.out) hb);have n2_:=zm (zF (g:=gb245) (o:=.cells #[.int .u64 a1_0, .slice A1_1 l1_1.length c1_1] 33 (0,0)) (by (with_reducible repeat (first|refine zh ?_ _|refine zj ?_|refine zi ?_ _|refine zv ?_ NB245_250.out _));exact BK245.out) hb);have n3_:=zm (zF (g:=gb250) (o:=.cells #[.int .u64 t246, .slice Ao14 t247.length co14] 33 (0,0)) (by (with_reducible repeat (first|refine zh ?_ _|refine zj ?_|refine zi ?_ _));refine zw (cs := #[.int .u64 t246, .slice none 0 0]) ?_ 1 _ rfl;(with_reducible repeat (first|refine zh ?_ _|refine zj ?_|refine zi ?_ _));refine zw (cs := #[.int .u64 0, .slice none 0 0]) ?_ 0 _ rfl;(with_reducible repeat (first|refine zh ?_ _|refine zj ?_|refine zi ?_ _));exact BK250.out) hb);have n4_:=zm (zJ (by repeat (first|(with_reducible first|exact HB.out|apply ze|apply zd|apply zf|refine zk ?_ GE244.out|refine zk ?_ GE245.out|refine zk ?_ GE250.out)|exact HB.out)) hb);clear HO249;clear BK244;clear BK245;clear BK250;clear HB;have HO249:=n0_;have BK244:=n1_;have BK245:=n2_;have BK250:=n3_;have HB:=n4_;clear n0_ n1_ n2_ n3_ n4_;(try clear hb);(try clear hb2);(try clear hk);(try clear hi)))
   repeat (go_quiet (first|(go_at_call 22;(with_reducible refine (psalterylaw05_right.calls a0_0 a0_1 _ _ l0_2 false _ ?side1 ?side2 A15.out).mono ?_);(case side1=>exact Kd.C_below HR0_2.out (by repeat (first|(with_reducible first|exact HB.out|apply ze|apply zd|apply zf|refine zk ?_ GE244.out|refine zk ?_ GE245.out|refine zk ?_ GE250.out)|exact HB.out)));(case side2=>exact HC0_2.out);rintro e w35 ⟨rfl,hb⟩;have n0_:=zm (Kd.R_below (by (with_reducible repeat (first|apply zo|apply zp|apply zq));exact (zG (zH (p:=⟨gb250,1,none⟩) (zH (p:=⟨gb250,0,none⟩) (Kd.R_types HO249.out BK250.out (by decide)) (fun _ hk=>hk.2) (.int .u64 t246)) (fun _ hk=>hk.2) (.slice Ao14 t247.length co14)) (fun _ h_=>h_.1))) hb);have n1_:=zm (zF (g:=gb244) (o:=.cells #[.int .u64 a0_0, .int .u32 a0_1, .slice A0_2 l0_2.length c0_2] 26 (0,0)) (by (with_reducible repeat (first|refine zh ?_ _|refine zj ?_|refine zi ?_ _|refine zv ?_ NB244_250.out _));exact BK244.out) hb);have n2_:=zm (zF (g:=gb245) (o:=.cells #[.int .u64 a1_0, .slice A1_1 l1_1.length c1_1] 33 (0,0)) (by (with_reducible repeat (first|refine zh ?_ _|refine zj ?_|refine zi ?_ _|refine zv ?_ NB245_250.out _));exact BK245.out) hb);have n3_:=zm (zF (g:=gb250) (o:=.cells #[.int .u64 t246, .slice Ao14 t247.length co14] 33 (0,0)) (by (with_reducible repeat (first|refine zh ?_ _|refine zj ?_|refine zi ?_ _));refine zw (cs := #[.int .u64 t246, .slice none 0 0]) ?_ 1 _ rfl;(with_reducible repeat (first|refine zh ?_ _|refine zj ?_|refine zi ?_ _));refine zw (cs := #[.int .u64 0, .slice none 0 0]) ?_ 0 _ rfl;(with_reducible repeat (first|refine zh ?_ _|refine zj ?_|refine zi ?_ _));exact BK250.out) hb);have n4_:=zm (zJ (by repeat (first|(with_reducible first|exact HB.out|apply ze|apply zd|apply zf|refine zk ?_ GE244.out|refine zk ?_ GE245.out|refine zk ?_ GE250.out)|exact HB.out)) hb);clear HO249;clear BK244;clear BK245;clear BK250;clear HB;have HO249:=n0_;have BK244:=n1_;have BK245:=n2_;have BK250:=n3_;have HB:=n4_;clear n0_ n1_ n2_ n3_ n4_;(try clear hb);(try clear hb2);(try clear hk);(try clear hi)));try go_wp2_with (first|(go_at_call 22;(with_reducible refine (psalterylaw05_right.calls a0_0 a0_1 _ _ l0_2 false _ ?side1 ?side2 A15.out).mono ?_);(case side1=>exact Kd.C_below HR0_2.out (by repeat (first|(with_reducible first|exact HB.out|apply ze|apply zd|apply zf|refine zk ?_ GE244.out|refine zk ?_ GE245.out|refine zk ?_ GE250.out)|exact HB.out)));(case side2=>exact HC0_2.out);rintro e w35 ⟨rfl,hb⟩;have n0_:=zm (Kd.R_below (by (with_reducible repeat (first|apply zo|apply zp|apply zq));exact (zG (zH (p:=⟨gb250,1,none⟩) (zH (p:=⟨gb250,0,none⟩) (Kd.R_types HO249.out BK250.out (by decide)) (fun _ hk=>hk.2) (.int .u64 t246)) (fun _ hk=>hk.2) (.slice Ao14 t247.length co14)) (fun _ h_=>h_.1))) hb);have n1_:=zm (zF (g:=gb244) (o:=.cells #[.int .u64 a0_0, .int .u32 a0_1, .slice A0_2 l0_2.length c0_2] 26 (0,0)) (by (with_reducible repeat (first|refine zh ?_ _|refine zj ?_|refine zi ?_ _|refine zv ?_ NB244_250.out _));exact BK244.out) hb);have n2_:=zm (zF (g:=gb245) (o:=.cells #[.int .u64 a1_0, .slice A1_1 l1_1.length c1_1] 33 (0,0)) (by (with_reducible repeat (first|refine zh ?_ _|refine zj ?_|refine zi ?_ _|refine zv ?_ NB245_250.out _));exact BK245.out) hb);have n3_:=zm (zF (g:=gb250) (o:=.cells #[.int .u64 t246, .slice Ao14 t247.length co14] 33 (0,0)) (by (with_reducible repeat (first|refine zh ?_ _|refine zj ?_|refine zi ?_ _));refine zw (cs := #[.int .u64 t246, .slice none 0 0]) ?_ 1 _ rfl;(with_reducible repeat (first|refine zh ?_ _|refine zj ?_|refine zi ?_ _));refine zw (cs := #[.int .u64 0, .slice none 0 0]) ?_ 0 _ rfl;(with_reducible repeat (first|refine zh ?_ _|refine zj ?_|refine zi ?_ _));exact BK250.out) hb);have n4_:=zm (zJ (by repeat (first|(with_reducible first|exact HB.out|apply ze|apply zd|apply zf|refine zk ?_ GE244.out|refine zk ?_ GE245.out|refine zk ?_ GE250.out)|exact HB.out)) hb);clear HO249;clear BK244;clear BK245;clear BK250;clear HB;have HO249:=n0_;have BK244:=n1_;have BK245:=n2_;have BK250:=n3_;have HB:=n4_;clear n0_ n1_ n2_ n3_ n4_;(try clear hb);(try clear hb2);(try clear hk);(try clear hi))))
   go_meet
   case rel=>exact ⟨_,(true),(by first|rfl|(simp;done)|(simp [*];done)),H',⟨by first|omega|exact Nat.le_refl _⟩,⟨by (with_reducible repeat (first|apply zo|apply zp|apply zq));exact HO249.out⟩,⟨by (with_reducible repeat (first|refine zh ?_ _|refine zj ?_|refine zi ?_ _));exact BK244.out⟩,⟨by (with_reducible repeat (first|refine zh ?_ _|refine zj ?_|refine zi ?_ _));exact BK245.out⟩,⟨by (with_reducible repeat (first|refine zh ?_ _|refine zj ?_|refine zi ?_ _));exact BK250.out⟩,⟨by repeat (first|(with_reducible first|exact HB.out|apply ze|apply zd|apply zf|refine zk ?_ GE244.out|refine zk ?_ GE245.out|refine zk ?_ GE250.out)|exact HB.out)⟩⟩
 case rest =>
  clear HC4
  try clear c1
  try clear c2
  try clear p2
  try clear c3
  try clear c7
  try clear c11
  try clear c12
  try clear c16
  try clear c17
  try clear c17b0
  try clear c17b1
  try clear c18
  try clear c19
  try clear c22
  try clear c23
  try clear c25
  try clear c26
  try clear c29
  try clear c32
  try clear c33
  try clear hcz13_0
  try clear hcz13_1
  try clear hcz20_0
  try clear hcz20_1
  try clear hcz20_2
  try clear hcz23_0
  try clear hcz23_1
  try clear hcz24_0
  try clear hcz24_1
  try clear hcz27_0
  try clear hcz27_1
  try clear hcz27_2
  try clear hcz30_0
  try clear hcz30_1
  try clear hcz31_0
  try clear hcz31_1
  try clear hcz34_0
  try clear hcz34_1
  try clear hcz34_2
  try clear hcz8_0
  try clear hcz8_1
  try clear hcz8_2
  try clear hfz13_0
  try clear hfz13_1
  try clear hfz20_0
  try clear hfz20_1
  try clear hfz20_2
  try clear hfz23_0
  try clear hfz23_1
  try clear hfz24_0
  try clear hfz24_1
  try clear hfz27_0
  try clear hfz27_1
  try clear hfz27_2
  try clear hfz30_0
  try clear hfz30_1
  try clear hfz31_0
  try clear hfz31_1
  try clear hfz34_0
  try clear hfz34_1
  try clear hfz34_2
  try clear hfz8_0
  try clear hfz8_1
  try clear hfz8_2
  obtain ⟨kq,x27_3,rfl,HA,HJ3,HO_251001,BK244,BK245,BK250,HB⟩:=hcut
  cases kq with
  | zero=>exact absurd HA.out (by simp [psalterylaw05_SameEnc.j0])
  | succ kj3 =>
   have H:=HA.out;clear HA
   simp only [psalterylaw05_SameEnc.j0] at H
   by_cases c36 : x27_3=true
   ·
    subst c36
    have H1 : (some false)=some r:=by rw [if_pos rfl] at H;exact H
    clear H;have H:=H1;clear H1
    obtain rfl:=Option.some.inj H
    go_wp2
    repeat (go_quiet (fail);try go_wp2)
    go_ret
    exact ⟨by first|rfl|(simp [errW_none,errW_some] <;> rfl)|(simp [*,errW_none,errW_some] <;> rfl),by repeat (first|(with_reducible first|exact HB.out|apply ze|apply zd|apply zf|refine zk ?_ GE244.out|refine zk ?_ GE245.out|refine zk ?_ GE250.out)|exact HB.out)⟩
   ·
    replace c36:=Bool.eq_false_iff.mpr c36
    subst c36
    have H1 : (psalterylaw05_SameEnc.l0 kj3 0 a1_0 l1_1 t246 t247)=some r:=by rw [if_neg (show ¬ (false=true) by decide)] at H;exact H
    clear H;have H:=H1;clear H1
    have H' := zm H
    clear H
    go_wp2
    repeat (go_quiet (fail);try go_wp2)
    go_loopg [6] kj3 (fun kq v6 w' => ∃ (x6_2 : Int),v6=.int .i64 x6_2∧Aside0 (psalterylaw05_SameEnc.l0 kq x6_2 a1_0 l1_1 t246 t247=some r)∧Aside0 (kq≤kj3)∧Aside0 (Kd.R (Kd.int .i64) 3 w' w.heap.size (fun _=>True) (.slice Ao14 t247.length co14) t247)∧Aside0 (w'.heap[gb244]? = some (.cells #[.int .u64 a0_0, .int .u32 a0_1,(.slice A0_2 l0_2.length c0_2)] 26 (0,0)))∧Aside0 (w'.heap[gb245]? = some (.cells #[.int .u64 a1_0,(.slice A1_1 l1_1.length c1_1)] 33 (0,0)))∧Aside0 (w'.heap[gb250]? = some (.cells #[.int .u64 t246,(.slice Ao14 t247.length co14)] 33 (0,0)))∧Aside0 (Below w.heap.size w w'))
    case atStart=>exact ⟨(0),(by first|rfl|(simp;done)|(simp [*];done)),H',⟨Nat.le_refl _⟩,⟨by (with_reducible repeat (first|apply zo|apply zp|apply zq));exact HO_251001.out⟩,⟨by (with_reducible repeat (first|refine zh ?_ _|refine zj ?_|refine zi ?_ _));exact BK244.out⟩,⟨by (with_reducible repeat (first|refine zh ?_ _|refine zj ?_|refine zi ?_ _));exact BK245.out⟩,⟨by (with_reducible repeat (first|refine zh ?_ _|refine zj ?_|refine zi ?_ _));exact BK250.out⟩,⟨by repeat (first|(with_reducible first|exact HB.out|apply ze|apply zd|apply zf|refine zk ?_ GE244.out|refine zk ?_ GE245.out|refine zk ?_ GE250.out)|exact HB.out)⟩⟩
    case round =>
     clear H'
     try clear c1
     try clear c2
     try clear p2
     try clear c3
     try clear c7
     try clear c11
     try clear c12
     try clear c16
     try clear c17
     try clear c17b0
     try clear c17b1
     try clear c18
     try clear c19
     try clear c22
     try clear c23
     try clear c25
     try clear c26
     try clear c29
     try clear c32
     try clear c33
     try clear c36
     try clear hcz13_0
     try clear hcz13_1
     try clear hcz20_0
     try clear hcz20_1
     try clear hcz20_2
     try clear hcz23_0
     try clear hcz23_1
     try clear hcz24_0
     try clear hcz24_1
     try clear hcz27_0
     try clear hcz27_1
     try clear hcz27_2
     try clear hcz30_0
     try clear hcz30_1
     try clear hcz31_0
     try clear hcz31_1
     try clear hcz34_0
     try clear hcz34_1
     try clear hcz34_2
     try clear hcz8_0
     try clear hcz8_1
     try clear hcz8_2
     try clear hfz13_0
     try clear hfz13_1
     try clear hfz20_0
     try clear hfz20_1
     try clear hfz20_2
     try clear hfz23_0
     try clear hfz23_1
     try clear hfz24_0
     try clear hfz24_1
     try clear hfz27_0
     try clear hfz27_1
     try clear hfz27_2
     try clear hfz30_0
     try clear hfz30_1
     try clear hfz31_0
     try clear hfz31_1
     try clear hfz34_0
     try clear hfz34_1
     try clear hfz34_2
     try clear hfz8_0
     try clear hfz8_1
     try clear hfz8_2
     try clear p2
     obtain ⟨x6_2,rfl,HA,HK2,HO_251001,BK244,BK245,BK250,HB⟩:=hrel
     cases gk with
     | zero=>exact absurd HA.out (by simp [psalterylaw05_SameEnc.l0])
     | succ k2 =>
      have H:=HA.out;clear HA
      simp only [psalterylaw05_SameEnc.l0] at H
      by_cases c37 : x6_2 < (t247.length : Int)
      ·
       rw [if_pos c37] at H
       have c37b0 : decide (x6_2 < (t247.length : Int))=true:=decide_eq_true c37
       clear c37
       by_cases c38 : 0≤x6_2
       ·
        rw [if_pos c38] at H
        have c38b0 : decide (0≤x6_2)=true:=decide_eq_true c38
        clear c38
        by_cases c39 : x6_2 < (l1_1.length : Int)
        ·
         rw [if_pos c39] at H
         have c39b0 : decide (x6_2 < (l1_1.length : Int))=true:=decide_eq_true c39
         clear c39
         by_cases c40 : (rd t247 x6_2)=(rd l1_1 x6_2)
         ·
          rw [if_pos c40] at H
          have c40b0 : ((rd t247 x6_2) == (rd l1_1 x6_2))=true:=beq_iff_eq.mpr c40
          have c40b1 : ((rd t247 x6_2) != (rd l1_1 x6_2))=false:=bne_eq_false_iff_eq.mpr c40
          clear c40
          have H' := zm H
          clear H;have hnb41:=NB250_244.out;have hnc41:=NB244_250.out;have hnb42:=NB250_245.out;have hnc42:=NB245_250.out
          have hcz43_0 : wr.cell? ⟨gb250,0,none⟩=some (.int .u64 t246):=(zs BK250.out 0).trans rfl
          have hcz43_1 : wr.cell? ⟨gb250,1,none⟩=some (.slice Ao14 t247.length co14):=(zs BK250.out 1).trans rfl
          have hfz43_0:=zx BK250.out 0
          have hfz43_1:=zx BK250.out 1
          have p252 : 0≤(x6_2 : Int):=of_decide_eq_true (by first|(with_reducible assumption)|assumption)
          have q252 : x6_2 < (t247.length : Int):=of_decide_eq_true (by first|(with_reducible assumption)|assumption)
          obtain ⟨ad252,e252,hx252_0⟩:=Kd.at_int (Kd.R_reads' HO_251001.out).2.2 x6_2 p252 q252
          cases e252
          replace p252:=eq_true p252
          replace q252:=eq_true q252
          have hnb44:=NB245_244.out;have hnc44:=NB244_245.out
          have hcz45_0 : wr.cell? ⟨gb245,0,none⟩=some (.int .u64 a1_0):=(zs BK245.out 0).trans rfl
          have hcz45_1 : wr.cell? ⟨gb245,1,none⟩=some (.slice A1_1 l1_1.length c1_1):=(zs BK245.out 1).trans rfl
          have hfz45_0:=zx BK245.out 0
          have hfz45_1:=zx BK245.out 1
          have p253 : 0≤(x6_2 : Int):=of_decide_eq_true (by first|(with_reducible assumption)|assumption)
          have q253 : x6_2 < (l1_1.length : Int):=of_decide_eq_true (by first|(with_reducible assumption)|assumption)
          obtain ⟨ad253,e253,hx253_0⟩:=Kd.at_int HR1_1.out x6_2 p253 q253
          cases e253
          replace hx253_0:=(HB.out.cell (zb w _ hx253_0)).trans hx253_0
          replace p253:=eq_true p253
          replace q253:=eq_true q253
          go_wp2
          repeat (go_quiet (fail);try go_wp2)
          go_roundg k2
          case measure=>have:=HJ3.out;have:=HK2.out;omega
          case rel=>exact ⟨(wrap64 (x6_2+1)),(by first|rfl|(simp;done)|(simp [*];done)),H',⟨by have:=HJ3.out;have:=HK2.out;omega⟩,⟨by (with_reducible repeat (first|apply zo|apply zp|apply zq));exact HO_251001.out⟩,⟨by (with_reducible repeat (first|refine zh ?_ _|refine zj ?_|refine zi ?_ _));exact BK244.out⟩,⟨by (with_reducible repeat (first|refine zh ?_ _|refine zj ?_|refine zi ?_ _));exact BK245.out⟩,⟨by (with_reducible repeat (first|refine zh ?_ _|refine zj ?_|refine zi ?_ _));exact BK250.out⟩,⟨by repeat (first|(with_reducible first|exact HB.out|apply ze|apply zd|apply zf|refine zk ?_ GE244.out|refine zk ?_ GE245.out|refine zk ?_ GE250.out)|exact HB.out)⟩⟩
         ·
          rw [if_neg c40] at H
          have c40b0 : ((rd t247 x6_2) == (rd l1_1 x6_2))=false:=beq_eq_false_iff_ne.mpr c40
          have c40b1 : ((rd t247 x6_2) != (rd l1_1 x6_2))=true:=bne_iff_ne.mpr c40
          obtain rfl:=Option.some.inj H
          have hnb46:=NB250_244.out;have hnc46:=NB244_250.out;have hnb47:=NB250_245.out;have hnc47:=NB245_250.out
          have hcz48_0 : wr.cell? ⟨gb250,0,none⟩=some (.int .u64 t246):=(zs BK250.out 0).trans rfl
          have hcz48_1 : wr.cell? ⟨gb250,1,none⟩=some (.slice Ao14 t247.length co14):=(zs BK250.out 1).trans rfl
          have hfz48_0:=zx BK250.out 0
          have hfz48_1:=zx BK250.out 1
          have p252 : 0≤(x6_2 : Int):=of_decide_eq_true (by first|(with_reducible assumption)|assumption)
          have q252 : x6_2 < (t247.length : Int):=of_decide_eq_true (by first|(with_reducible assumption)|assumption)
          obtain ⟨ad252,e252,hx252_0⟩:=Kd.at_int (Kd.R_reads' HO_251001.out).2.2 x6_2 p252 q252
          cases e252
          replace p252:=eq_true p252
          replace q252:=eq_true q252
          have hnb49:=NB245_244.out;have hnc49:=NB244_245.out
          have hcz50_0 : wr.cell? ⟨gb245,0,none⟩=some (.int .u64 a1_0):=(zs BK245.out 0).trans rfl
          have hcz50_1 : wr.cell? ⟨gb245,1,none⟩=some (.slice A1_1 l1_1.length c1_1):=(zs BK245.out 1).trans rfl
          have hfz50_0:=zx BK245.out 0
          have hfz50_1:=zx BK245.out 1
          have p253 : 0≤(x6_2 : Int):=of_decide_eq_true (by first|(with_reducible assumption)|assumption)
          have q253 : x6_2 < (l1_1.length : Int):=of_decide_eq_true (by first|(with_reducible assumption)|assumption)
          obtain ⟨ad253,e253,hx253_0⟩:=Kd.at_int HR1_1.out x6_2 p253 q253
          cases e253
          replace hx253_0:=(HB.out.cell (zb w _ hx253_0)).trans hx253_0
          replace p253:=eq_true p253
          replace q253:=eq_true q253
          go_wp2
          repeat (go_quiet (fail);try go_wp2)
          go_ret
          exact ⟨by first|rfl|(simp [errW_none,errW_some] <;> rfl)|(simp [*,errW_none,errW_some] <;> rfl),by repeat (first|(with_reducible first|exact HB.out|apply ze|apply zd|apply zf|refine zk ?_ GE244.out|refine zk ?_ GE245.out|refine zk ?_ GE250.out)|exact HB.out)⟩
        ·
         rw [if_neg c39] at H
         exact absurd H (by simp)
       ·
        rw [if_neg c38] at H
        exact absurd H (by simp)
      ·
       rw [if_neg c37] at H
       have c37b0 : decide (x6_2 < (t247.length : Int))=false:=decide_eq_false c37
       clear c37
       obtain rfl:=Option.some.inj H
       have hnb51:=NB250_244.out;have hnc51:=NB244_250.out;have hnb52:=NB250_245.out;have hnc52:=NB245_250.out
       have hcz53_0 : wr.cell? ⟨gb250,0,none⟩=some (.int .u64 t246):=(zs BK250.out 0).trans rfl
       have hcz53_1 : wr.cell? ⟨gb250,1,none⟩=some (.slice Ao14 t247.length co14):=(zs BK250.out 1).trans rfl
       have hfz53_0:=zx BK250.out 0
       have hfz53_1:=zx BK250.out 1
       go_wp2
       repeat (go_quiet (fail);try go_wp2)
       go_ret
       exact ⟨by first|rfl|(simp [errW_none,errW_some] <;> rfl)|(simp [*,errW_none,errW_some] <;> rfl),by repeat (first|(with_reducible first|exact HB.out|apply ze|apply zd|apply zf|refine zk ?_ GE244.out|refine zk ?_ GE245.out|refine zk ?_ GE250.out)|exact HB.out)⟩

end Go.Proofs.Ytkaoiblgfpphoaa.Prt

namespace Go.Proofs.Ytkaoiblgfpphoaa.Prt
open Go.RowKit Go.Proofs.YtkaoiblgfpphoaaW.PrintWords Go.Proofs.YtkaoiblgfpphoaaW.PrintLast Go.Proofs.YtkaoiblgfpphoaaW.PrintMore
attribute [local go_sem] max2_int min2_int max_two min_two max_three min_three max_four min_four   -- for this text's walks alone
set_option linter.unusedVariables false
set_option linter.unusedSimpArgs false

/-! ### psalterylaw11_great: function 41 -/
def psalterylaw11_great.f (a0_0 : Int) (a0_1 : Int) (l0_2 : List Int) (a1_0 : Int) (a1_1 : Int) (l1_2 : List Int) (a1_3 : Int) (l2 : List Int) (l3 : List Int) : Option (Bool):=if (l0_2.length : Int) > 5000 then (some true) else (if (l1_2.length : Int) > 5000 then (some true) else (if (l2.length : Int) > 100 then (some true) else (some (decide ((l3.length : Int) > 100)))))
set_option maxHeartbeats 8000000 in
set_option maxRecDepth 100000 in
theorem psalterylaw11_great.calls (a0_0 : Int) (a0_1 : Int) (A0_2 : Option Addr) (c0_2 : Nat) (l0_2 : List Int) (a1_0 : Int) (a1_1 : Int) (A1_2 : Option Addr) (c1_2 : Nat) (l1_2 : List Int) (a1_3 : Int) (A2 : Option Addr) (c2 : Nat) (l2 : List Int) (A3 : Option Addr) (c3 : Nat) (l3 : List Int) (r : Bool) (w : World) (hr0_2 : Kd.C (Kd.int .u8) w A0_2 l0_2.length l0_2) (hc0_2 : l0_2.length≤c0_2) (hr1_2 : Kd.C (Kd.int .u8) w A1_2 l1_2.length l1_2) (hc1_2 : l1_2.length≤c1_2) (hr2 : Kd.C (Kd.int .i64) w A2 l2.length l2) (hc2 : l2.length≤c2) (hr3 : Kd.C (Kd.int .i64) w A3 l3.length l3) (hc3 : l3.length≤c3) (h : psalterylaw11_great.f a0_0 a0_1 l0_2 a1_0 a1_1 l1_2 a1_3 l2 l3=some r) :
  Calls Try.prog 41 #[.agg #[.int .u64 a0_0, .int .u32 a0_1, .slice A0_2 l0_2.length c0_2], .agg #[.int .u64 a1_0, .int .u32 a1_1, .slice A1_2 l1_2.length c1_2, .int .i64 a1_3], .slice A2 l2.length c2, .slice A3 l3.length c3] w fun e w' => e=.returned (.bool r)∧Below w.heap.size w w' := by
 have hu26:=Try.underlying26;have hu43:=Try.underlying43;have HR0_2:=zm hr0_2;have HC0_2:=zm hc0_2;clear hr0_2 hc0_2;have HR1_2:=zm hr1_2;have HC1_2:=zm hc1_2;clear hr1_2 hc1_2;have HR2:=zm hr2;have HC2:=zm hc2;clear hr2 hc2;have HR3:=zm hr3;have HC3:=zm hc3;clear hr3 hc3;have HB:=zm (Below.refl w.heap.size w)
 have H : (if (l0_2.length : Int) > 5000 then (some true) else (if (l1_2.length : Int) > 5000 then (some true) else (if (l2.length : Int) > 100 then (some true) else (some (decide ((l3.length : Int) > 100))))))=some r:=h
 clear h
 by_cases c5 : (l0_2.length : Int) > 5000
 ·
  rw [if_pos c5] at H
  have c5b0 : decide (5000 < (l0_2.length : Int))=true:=decide_eq_true c5
  have c5b1 : decide (5000 < l0_2.length)=true:=decide_eq_true (by omega)
  clear c5
  obtain rfl:=Option.some.inj H
  go_enter Try.func41,Try.ntmps41
  go_wp2_with (first|((with_reducible refine gate_dst (N:=4) rfl ?_);(try (refine gate_guard (by rfl) ?_;dsimp only));refine box_event ?hg (N:=4) ?hd (cs := #[.int .u64 a0_0, .int .u32 a0_1, .slice A0_2 l0_2.length c0_2]) (t:=26) ?hr ?_;(case hd=>rfl);(case hg=>rfl);(case hr=>first|(go_simp;done)|(go_simp;rfl));intro gb659 hg w6 hbox hb;have n0_:=zm (zJ (by repeat (first|(with_reducible first|exact HB.out|apply ze|apply zd|apply zf)|exact HB.out)) hb);have n1_:=zm (hbox);have n2_:=zm ((by rw [hg];exact (zE (by repeat (first|(with_reducible first|exact HB.out|apply ze|apply zd|apply zf)|exact HB.out))) : w.heap.size≤gb659));have n3_:=zm ((by rw [hg];exact (zE (by repeat (first|(with_reducible first|exact HB.out|apply ze|apply zd|apply zf)|exact HB.out))) : w.heap.size≤gb659));clear HB;have HB:=n0_;have BK659:=n1_;have GW659:=n2_;have GE659:=n3_;clear n0_ n1_ n2_ n3_;clear hb hbox hg)|((with_reducible refine gate_dst (N:=5) rfl ?_);(try (refine gate_guard (by rfl) ?_;dsimp only));refine box_event ?hg (N:=5) ?hd (cs := #[.int .u64 a1_0, .int .u32 a1_1, .slice A1_2 l1_2.length c1_2, .int .i64 a1_3]) (t:=43) ?hr ?_;(case hd=>rfl);(case hg=>rfl);(case hr=>first|(go_simp;done)|(go_simp;rfl));intro gb660 hg w7 hbox hb;have n0_:=zm (zF (g:=gb659) (o:=.cells #[.int .u64 a0_0, .int .u32 a0_1, .slice A0_2 l0_2.length c0_2] 26 (0,0)) (by (with_reducible repeat (first|refine zh ?_ _|refine zj ?_|refine zi ?_ _));exact BK659.out) hb);have n1_:=zm (zJ (by repeat (first|(with_reducible first|exact HB.out|apply ze|apply zd|apply zf|refine zk ?_ GE659.out)|exact HB.out)) hb);have n2_:=zm (hbox);have n3_:=zm ((by rw [hg];exact (zE (by repeat (first|(with_reducible first|exact HB.out|apply ze|apply zd|apply zf|refine zk ?_ GE659.out)|exact HB.out))) : w.heap.size≤gb660));have n4_:=zm ((by rw [hg];exact (zE (by repeat (first|(with_reducible first|exact HB.out|apply ze|apply zd|apply zf|refine zk ?_ GE659.out)|exact HB.out))) : w.heap.size≤gb660));have n5_:=zm ((by rw [hg];exact zn (zD (g:=gb659) (o:=.cells #[.int .u64 a0_0, .int .u32 a0_1, .slice A0_2 l0_2.length c0_2] 26 (0,0)) (by (with_reducible repeat (first|refine zh ?_ _|refine zj ?_|refine zi ?_ _));exact BK659.out)) : gb659≠gb660));have n6_:=zm ((by rw [hg];exact zg (zD (g:=gb659) (o:=.cells #[.int .u64 a0_0, .int .u32 a0_1, .slice A0_2 l0_2.length c0_2] 26 (0,0)) (by (with_reducible repeat (first|refine zh ?_ _|refine zj ?_|refine zi ?_ _));exact BK659.out)) : gb660≠gb659));clear BK659;clear HB;have BK659:=n0_;have HB:=n1_;have BK660:=n2_;have GW660:=n3_;have GE660:=n4_;have NB659_660:=n5_;have NB660_659:=n6_;clear n0_ n1_ n2_ n3_ n4_ n5_ n6_;clear hb hbox hg;have hnb8:=NB659_660.out;have hnc8:=NB660_659.out;have hcz9_0 : w7.cell? ⟨gb659,0,none⟩=some (.int .u64 a0_0):=(zs BK659.out 0).trans rfl;have hcz9_1 : w7.cell? ⟨gb659,1,none⟩=some (.int .u32 a0_1):=(zs BK659.out 1).trans rfl;have hcz9_2 : w7.cell? ⟨gb659,2,none⟩=some (.slice A0_2 l0_2.length c0_2):=(zs BK659.out 2).trans rfl;have hfz9_0:=zx BK659.out 0;have hfz9_1:=zx BK659.out 1;have hfz9_2:=zx BK659.out 2))
  go_ret
  exact ⟨by first|rfl|(simp [errW_none,errW_some] <;> rfl)|(simp [*,errW_none,errW_some] <;> rfl),by repeat (first|(with_reducible first|exact HB.out|apply ze|apply zd|apply zf|refine zk ?_ GE659.out|refine zk ?_ GE660.out)|exact HB.out)⟩
 ·
  rw [if_neg c5] at H
  have c5b0 : decide (5000 < (l0_2.length : Int))=false:=decide_eq_false c5
  have c5b1 : decide (5000 < l0_2.length)=false:=decide_eq_false (by omega)
  clear c5
  by_cases c10 : (l1_2.length : Int) > 5000
  ·
   rw [if_pos c10] at H
   have c10b0 : decide (5000 < (l1_2.length : Int))=true:=decide_eq_true c10
   have c10b1 : decide (5000 < l1_2.length)=true:=decide_eq_true (by omega)
   clear c10
   obtain rfl:=Option.some.inj H
   go_enter Try.func41,Try.ntmps41
   go_wp2_with (first|((with_reducible refine gate_dst (N:=4) rfl ?_);(try (refine gate_guard (by rfl) ?_;dsimp only));refine box_event ?hg (N:=4) ?hd (cs := #[.int .u64 a0_0, .int .u32 a0_1, .slice A0_2 l0_2.length c0_2]) (t:=26) ?hr ?_;(case hd=>rfl);(case hg=>rfl);(case hr=>first|(go_simp;done)|(go_simp;rfl));intro gb659 hg w11 hbox hb;have n0_:=zm (zJ (by repeat (first|(with_reducible first|exact HB.out|apply ze|apply zd|apply zf)|exact HB.out)) hb);have n1_:=zm (hbox);have n2_:=zm ((by rw [hg];exact (zE (by repeat (first|(with_reducible first|exact HB.out|apply ze|apply zd|apply zf)|exact HB.out))) : w.heap.size≤gb659));have n3_:=zm ((by rw [hg];exact (zE (by repeat (first|(with_reducible first|exact HB.out|apply ze|apply zd|apply zf)|exact HB.out))) : w.heap.size≤gb659));clear HB;have HB:=n0_;have BK659:=n1_;have GW659:=n2_;have GE659:=n3_;clear n0_ n1_ n2_ n3_;clear hb hbox hg)|((with_reducible refine gate_dst (N:=5) rfl ?_);(try (refine gate_guard (by rfl) ?_;dsimp only));refine box_event ?hg (N:=5) ?hd (cs := #[.int .u64 a1_0, .int .u32 a1_1, .slice A1_2 l1_2.length c1_2, .int .i64 a1_3]) (t:=43) ?hr ?_;(case hd=>rfl);(case hg=>rfl);(case hr=>first|(go_simp;done)|(go_simp;rfl));intro gb660 hg w12 hbox hb;have n0_:=zm (zF (g:=gb659) (o:=.cells #[.int .u64 a0_0, .int .u32 a0_1, .slice A0_2 l0_2.length c0_2] 26 (0,0)) (by (with_reducible repeat (first|refine zh ?_ _|refine zj ?_|refine zi ?_ _));exact BK659.out) hb);have n1_:=zm (zJ (by repeat (first|(with_reducible first|exact HB.out|apply ze|apply zd|apply zf|refine zk ?_ GE659.out)|exact HB.out)) hb);have n2_:=zm (hbox);have n3_:=zm ((by rw [hg];exact (zE (by repeat (first|(with_reducible first|exact HB.out|apply ze|apply zd|apply zf|refine zk ?_ GE659.out)|exact HB.out))) : w.heap.size≤gb660));have n4_:=zm ((by rw [hg];exact (zE (by repeat (first|(with_reducible first|exact HB.out|apply ze|apply zd|apply zf|refine zk ?_ GE659.out)|exact HB.out))) : w.heap.size≤gb660));have n5_:=zm ((by rw [hg];exact zn (zD (g:=gb659) (o:=.cells #[.int .u64 a0_0, .int .u32 a0_1, .slice A0_2 l0_2.length c0_2] 26 (0,0)) (by (with_reducible repeat (first|refine zh ?_ _|refine zj ?_|refine zi ?_ _));exact BK659.out)) : gb659≠gb660));have n6_:=zm ((by rw [hg];exact zg (zD (g:=gb659) (o:=.cells #[.int .u64 a0_0, .int .u32 a0_1, .slice A0_2 l0_2.length c0_2] 26 (0,0)) (by (with_reducible repeat (first|refine zh ?_ _|refine zj ?_|refine zi ?_ _));exact BK659.out)) : gb660≠gb659));clear BK659;clear HB;have BK659:=n0_;have HB:=n1_;have BK660:=n2_;have GW660:=n3_;have GE660:=n4_;have NB659_660:=n5_;have NB660_659:=n6_;clear n0_ n1_ n2_ n3_ n4_ n5_ n6_;clear hb hbox hg;have hnb13:=NB659_660.out;have hnc13:=NB660_659.out;have hcz14_0 : w12.cell? ⟨gb659,0,none⟩=some (.int .u64 a0_0):=(zs BK659.out 0).trans rfl;have hcz14_1 : w12.cell? ⟨gb659,1,none⟩=some (.int .u32 a0_1):=(zs BK659.out 1).trans rfl;have hcz14_2 : w12.cell? ⟨gb659,2,none⟩=some (.slice A0_2 l0_2.length c0_2):=(zs BK659.out 2).trans rfl;have hfz14_0:=zx BK659.out 0;have hfz14_1:=zx BK659.out 1;have hfz14_2:=zx BK659.out 2;have hcz15_0 : w12.cell? ⟨gb660,0,none⟩=some (.int .u64 a1_0):=(zs BK660.out 0).trans rfl;have hcz15_1 : w12.cell? ⟨gb660,1,none⟩=some (.int .u32 a1_1):=(zs BK660.out 1).trans rfl;have hcz15_2 : w12.cell? ⟨gb660,2,none⟩=some (.slice A1_2 l1_2.length c1_2):=(zs BK660.out 2).trans rfl;have hcz15_3 : w12.cell? ⟨gb660,3,none⟩=some (.int .i64 a1_3):=(zs BK660.out 3).trans rfl;have hfz15_0:=zx BK660.out 0;have hfz15_1:=zx BK660.out 1;have hfz15_2:=zx BK660.out 2;have hfz15_3:=zx BK660.out 3))
   go_ret
   exact ⟨by first|rfl|(simp [errW_none,errW_some] <;> rfl)|(simp [*,errW_none,errW_some] <;> rfl),by repeat (first|(with_reducible first|exact HB.out|apply ze|apply zd|apply zf|refine zk ?_ GE659.out|refine zk ?_ GE660.out)|exact HB.out)⟩
  ·
   rw [if_neg c10] at H
   have c10b0 : decide (5000 < (l1_2.length : Int))=false:=decide_eq_false c10
   have c10b1 : decide (5000 < l1_2.length)=false:=decide_eq_false (by omega)
   clear c10
   by_cases c16 : (l2.length : Int) > 100
   ·
    rw [if_pos c16] at H
    have c16b0 : decide (100 < (l2.length : Int))=true:=decide_eq_true c16
    have c16b1 : decide (100 < l2.length)=true:=decide_eq_true (by omega)
    clear c16
    obtain rfl:=Option.some.inj H
    go_enter Try.func41,Try.ntmps41
    go_wp2_with (first|((with_reducible refine gate_dst (N:=4) rfl ?_);(try (refine gate_guard (by rfl) ?_;dsimp only));refine box_event ?hg (N:=4) ?hd (cs := #[.int .u64 a0_0, .int .u32 a0_1, .slice A0_2 l0_2.length c0_2]) (t:=26) ?hr ?_;(case hd=>rfl);(case hg=>rfl);(case hr=>first|(go_simp;done)|(go_simp;rfl));intro gb659 hg w17 hbox hb;have n0_:=zm (zJ (by repeat (first|(with_reducible first|exact HB.out|apply ze|apply zd|apply zf)|exact HB.out)) hb);have n1_:=zm (hbox);have n2_:=zm ((by rw [hg];exact (zE (by repeat (first|(with_reducible first|exact HB.out|apply ze|apply zd|apply zf)|exact HB.out))) : w.heap.size≤gb659));have n3_:=zm ((by rw [hg];exact (zE (by repeat (first|(with_reducible first|exact HB.out|apply ze|apply zd|apply zf)|exact HB.out))) : w.heap.size≤gb659));clear HB;have HB:=n0_;have BK659:=n1_;have GW659:=n2_;have GE659:=n3_;clear n0_ n1_ n2_ n3_;clear hb hbox hg)|((with_reducible refine gate_dst (N:=5) rfl ?_);(try (refine gate_guard (by rfl) ?_;dsimp only));refine box_event ?hg (N:=5) ?hd (cs := #[.int .u64 a1_0, .int .u32 a1_1, .slice A1_2 l1_2.length c1_2, .int .i64 a1_3]) (t:=43) ?hr ?_;(case hd=>rfl);(case hg=>rfl);(case hr=>first|(go_simp;done)|(go_simp;rfl));intro gb660 hg w18 hbox hb;have n0_:=zm (zF (g:=gb659) (o:=.cells #[.int .u64 a0_0, .int .u32 a0_1, .slice A0_2 l0_2.length c0_2] 26 (0,0)) (by (with_reducible repeat (first|refine zh ?_ _|refine zj ?_|refine zi ?_ _));exact BK659.out) hb);have n1_:=zm (zJ (by repeat (first|(with_reducible first|exact HB.out|apply ze|apply zd|apply zf|refine zk ?_ GE659.out)|exact HB.out)) hb);have n2_:=zm (hbox);have n3_:=zm ((by rw [hg];exact (zE (by repeat (first|(with_reducible first|exact HB.out|apply ze|apply zd|apply zf|refine zk ?_ GE659.out)|exact HB.out))) : w.heap.size≤gb660));have n4_:=zm ((by rw [hg];exact (zE (by repeat (first|(with_reducible first|exact HB.out|apply ze|apply zd|apply zf|refine zk ?_ GE659.out)|exact HB.out))) : w.heap.size≤gb660));have n5_:=zm ((by rw [hg];exact zn (zD (g:=gb659) (o:=.cells #[.int .u64 a0_0, .int .u32 a0_1, .slice A0_2 l0_2.length c0_2] 26 (0,0)) (by (with_reducible repeat (first|refine zh ?_ _|refine zj ?_|refine zi ?_ _));exact BK659.out)) : gb659≠gb660));have n6_:=zm ((by rw [hg];exact zg (zD (g:=gb659) (o:=.cells #[.int .u64 a0_0, .int .u32 a0_1, .slice A0_2 l0_2.length c0_2] 26 (0,0)) (by (with_reducible repeat (first|refine zh ?_ _|refine zj ?_|refine zi ?_ _));exact BK659.out)) : gb660≠gb659));clear BK659;clear HB;have BK659:=n0_;have HB:=n1_;have BK660:=n2_;have GW660:=n3_;have GE660:=n4_;have NB659_660:=n5_;have NB660_659:=n6_;clear n0_ n1_ n2_ n3_ n4_ n5_ n6_;clear hb hbox hg;have hnb19:=NB659_660.out;have hnc19:=NB660_659.out;have hcz20_0 : w18.cell? ⟨gb659,0,none⟩=some (.int .u64 a0_0):=(zs BK659.out 0).trans rfl;have hcz20_1 : w18.cell? ⟨gb659,1,none⟩=some (.int .u32 a0_1):=(zs BK659.out 1).trans rfl;have hcz20_2 : w18.cell? ⟨gb659,2,none⟩=some (.slice A0_2 l0_2.length c0_2):=(zs BK659.out 2).trans rfl;have hfz20_0:=zx BK659.out 0;have hfz20_1:=zx BK659.out 1;have hfz20_2:=zx BK659.out 2;have hcz21_0 : w18.cell? ⟨gb660,0,none⟩=some (.int .u64 a1_0):=(zs BK660.out 0).trans rfl;have hcz21_1 : w18.cell? ⟨gb660,1,none⟩=some (.int .u32 a1_1):=(zs BK660.out 1).trans rfl;have hcz21_2 : w18.cell? ⟨gb660,2,none⟩=some (.slice A1_2 l1_2.length c1_2):=(zs BK660.out 2).trans rfl;have hcz21_3 : w18.cell? ⟨gb660,3,none⟩=some (.int .i64 a1_3):=(zs BK660.out 3).trans rfl;have hfz21_0:=zx BK660.out 0;have hfz21_1:=zx BK660.out 1;have hfz21_2:=zx BK660.out 2;have hfz21_3:=zx BK660.out 3))
    go_ret
    exact ⟨by first|rfl|(simp [errW_none,errW_some] <;> rfl)|(simp [*,errW_none,errW_some] <;> rfl),by repeat (first|(with_reducible first|exact HB.out|apply ze|apply zd|apply zf|refine zk ?_ GE659.out|refine zk ?_ GE660.out)|exact HB.out)⟩
   ·
    rw [if_neg c16] at H
    have c16b0 : decide (100 < (l2.length : Int))=false:=decide_eq_false c16
    have c16b1 : decide (100 < l2.length)=false:=decide_eq_false (by omega)
    clear c16
    obtain rfl:=Option.some.inj H
    go_enter Try.func41,Try.ntmps41
    go_wp2_with (first|((with_reducible refine gate_dst (N:=4) rfl ?_);(try (refine gate_guard (by rfl) ?_;dsimp only));refine box_event ?hg (N:=4) ?hd (cs := #[.int .u64 a0_0, .int .u32 a0_1, .slice A0_2 l0_2.length c0_2]) (t:=26) ?hr ?_;(case hd=>rfl);(case hg=>rfl);(case hr=>first|(go_simp;done)|(go_simp;rfl));intro gb659 hg w22 hbox hb;have n0_:=zm (zJ (by repeat (first|(with_reducible first|exact HB.out|apply ze|apply zd|apply zf)|exact HB.out)) hb);have n1_:=zm (hbox);have n2_:=zm ((by rw [hg];exact (zE (by repeat (first|(with_reducible first|exact HB.out|apply ze|apply zd|apply zf)|exact HB.out))) : w.heap.size≤gb659));have n3_:=zm ((by rw [hg];exact (zE (by repeat (first|(with_reducible first|exact HB.out|apply ze|apply zd|apply zf)|exact HB.out))) : w.heap.size≤gb659));clear HB;have HB:=n0_;have BK659:=n1_;have GW659:=n2_;have GE659:=n3_;clear n0_ n1_ n2_ n3_;clear hb hbox hg)|((with_reducible refine gate_dst (N:=5) rfl ?_);(try (refine gate_guard (by rfl) ?_;dsimp only));refine box_event ?hg (N:=5) ?hd (cs := #[.int .u64 a1_0, .int .u32 a1_1, .slice A1_2 l1_2.length c1_2, .int .i64 a1_3]) (t:=43) ?hr ?_;(case hd=>rfl);(case hg=>rfl);(case hr=>first|(go_simp;done)|(go_simp;rfl));intro gb660 hg w23 hbox hb;have n0_:=zm (zF (g:=gb659) (o:=.cells #[.int .u64 a0_0, .int .u32 a0_1, .slice A0_2 l0_2.length c0_2] 26 (0,0)) (by (with_reducible repeat (first|refine zh ?_ _|refine zj ?_|refine zi ?_ _));exact BK659.out) hb);have n1_:=zm (zJ (by repeat (first|(with_reducible first|exact HB.out|apply ze|apply zd|apply zf|refine zk ?_ GE659.out)|exact HB.out)) hb);have n2_:=zm (hbox);have n3_:=zm ((by rw [hg];exact (zE (by repeat (first|(with_reducible first|exact HB.out|apply ze|apply zd|apply zf|refine zk ?_ GE659.out)|exact HB.out))) : w.heap.size≤gb660));have n4_:=zm ((by rw [hg];exact (zE (by repeat (first|(with_reducible first|exact HB.out|apply ze|apply zd|apply zf|refine zk ?_ GE659.out)|exact HB.out))) : w.heap.size≤gb660));have n5_:=zm ((by rw [hg];exact zn (zD (g:=gb659) (o:=.cells #[.int .u64 a0_0, .int .u32 a0_1, .slice A0_2 l0_2.length c0_2] 26 (0,0)) (by (with_reducible repeat (first|refine zh ?_ _|refine zj ?_|refine zi ?_ _));exact BK659.out)) : gb659≠gb660));have n6_:=zm ((by rw [hg];exact zg (zD (g:=gb659) (o:=.cells #[.int .u64 a0_0, .int .u32 a0_1, .slice A0_2 l0_2.length c0_2] 26 (0,0)) (by (with_reducible repeat (first|refine zh ?_ _|refine zj ?_|refine zi ?_ _));exact BK659.out)) : gb660≠gb659));clear BK659;clear HB;have BK659:=n0_;have HB:=n1_;have BK660:=n2_;have GW660:=n3_;have GE660:=n4_;have NB659_660:=n5_;have NB660_659:=n6_;clear n0_ n1_ n2_ n3_ n4_ n5_ n6_;clear hb hbox hg;have hnb24:=NB659_660.out;have hnc24:=NB660_659.out;have hcz25_0 : w23.cell? ⟨gb659,0,none⟩=some (.int .u64 a0_0):=(zs BK659.out 0).trans rfl;have hcz25_1 : w23.cell? ⟨gb659,1,none⟩=some (.int .u32 a0_1):=(zs BK659.out 1).trans rfl;have hcz25_2 : w23.cell? ⟨gb659,2,none⟩=some (.slice A0_2 l0_2.length c0_2):=(zs BK659.out 2).trans rfl;have hfz25_0:=zx BK659.out 0;have hfz25_1:=zx BK659.out 1;have hfz25_2:=zx BK659.out 2;have hcz26_0 : w23.cell? ⟨gb660,0,none⟩=some (.int .u64 a1_0):=(zs BK660.out 0).trans rfl;have hcz26_1 : w23.cell? ⟨gb660,1,none⟩=some (.int .u32 a1_1):=(zs BK660.out 1).trans rfl;have hcz26_2 : w23.cell? ⟨gb660,2,none⟩=some (.slice A1_2 l1_2.length c1_2):=(zs BK660.out 2).trans rfl;have hcz26_3 : w23.cell? ⟨gb660,3,none⟩=some (.int .i64 a1_3):=(zs BK660.out 3).trans rfl;have hfz26_0:=zx BK660.out 0;have hfz26_1:=zx BK660.out 1;have hfz26_2:=zx BK660.out 2;have hfz26_3:=zx BK660.out 3))
    go_ret
    exact ⟨by first|rfl|(simp [errW_none,errW_some] <;> rfl)|(simp [*,errW_none,errW_some] <;> rfl),by repeat (first|(with_reducible first|exact HB.out|apply ze|apply zd|apply zf|refine zk ?_ GE659.out|refine zk ?_ GE660.out)|exact HB.out)⟩

end Go.Proofs.Ytkaoiblgfpphoaa.Prt

namespace Go.Proofs.Ytkaoiblgfpphoaa.Prt
open Go.RowKit Go.Proofs.YtkaoiblgfpphoaaW.PrintWords Go.Proofs.YtkaoiblgfpphoaaW.PrintLast Go.Proofs.YtkaoiblgfpphoaaW.PrintMore
attribute [local go_sem] max2_int min2_int max_two min_two max_three min_three max_four min_four   -- for this text's walks alone
set_option linter.unusedVariables false
set_option linter.unusedSimpArgs false

/-! ### coder_Finish: function 24 -/
def coder_Finish.f (a0_0 : Int) (a0_1 : Int) (l0_2 : List Int) : Option (List Int):=(coder_own.f a0_0 a0_1 l0_2).bind fun bt135=>((some (([(bt135.1 / 16777216) % 256,(bt135.1 / 65536) % 256,(bt135.1 / 256) % 256,(bt135.1) % 256] : List Int) : List Int)).bind fun y140=>(if bt135.2.2.length+y140.length < 140737488355328 then (some (bt135.2.2 ++ y140)) else (none)))
set_option maxHeartbeats 8000000 in
set_option maxRecDepth 100000 in
theorem coder_Finish.calls (a0_0 : Int) (a0_1 : Int) (A0_2 : Option Addr) (c0_2 : Nat) (l0_2 : List Int) (r : List Int) (w : World) (hr0_2 : Kd.C (Kd.int .u8) w A0_2 l0_2.length l0_2) (hc0_2 : l0_2.length≤c0_2) (h : coder_Finish.f a0_0 a0_1 l0_2=some r) :
  Calls Try.prog 24 #[.agg #[.int .u64 a0_0, .int .u32 a0_1, .slice A0_2 l0_2.length c0_2]] w fun e w' => ∃ v0_ : Value,e=.returned (v0_)∧Kd.R (Kd.int .u8) 5 w' w.heap.size (fun _=>True) v0_ r∧Below w.heap.size w w' := by
 have hu26:=Try.underlying26;have HR0_2:=zm hr0_2;have HC0_2:=zm hc0_2;clear hr0_2 hc0_2;have HB:=zm (Below.refl w.heap.size w)
 have H : ((coder_own.f a0_0 a0_1 l0_2).bind fun bt135=>((some (([(bt135.1 / 16777216) % 256,(bt135.1 / 65536) % 256,(bt135.1 / 256) % 256,(bt135.1) % 256] : List Int) : List Int)).bind fun y140=>(if bt135.2.2.length+y140.length < 140737488355328 then (some (bt135.2.2 ++ y140)) else (none))))=some r:=h
 clear h
 replace H:=Option.bind_eq_some_iff.mp H
 obtain ⟨⟨t135,t136,t137⟩,A20,H⟩:=H
 replace H : ((some (([(t135 / 16777216) % 256,(t135 / 65536) % 256,(t135 / 256) % 256,(t135) % 256] : List Int) : List Int)).bind fun y140=>(if t137.length+y140.length < 140737488355328 then (some (t137 ++ y140)) else (none)))=some r:=H
 have A2:=zm A20;clear A20
 obtain ⟨y140,hy140⟩ : ∃ y_ : List Int,y_=(([(t135 / 16777216) % 256,(t135 / 65536) % 256,(t135 / 256) % 256,(t135) % 256] : List Int)):=⟨_,rfl⟩
 replace H : (if t137.length+y140.length < 140737488355328 then (some (t137 ++ y140)) else (none))=some r:=by first|(rw [hy140];with_reducible exact H)|(have H2_:=(Option.bind_some _ _).symm.trans H;rw [hy140];with_reducible exact H2_)|(have H2_:=(Option.bind_some _ _).symm.trans H;with_reducible exact H2_)|with_reducible exact H|(rw [hy140];exact H)|exact H
 have Ny140:=zm hy140;clear hy140
 by_cases c3 : t137.length+y140.length < 140737488355328
 ·
  rw [if_pos c3] at H
  have LMc3:=zm c3;clear c3
  obtain ⟨y143,hy143⟩ : ∃ y_ : List Int,y_=(t137 ++ y140):=⟨_,rfl⟩
  replace H : (some y143)=some r:=by first|(rw [hy143];with_reducible exact H)|(have H2_:=(Option.bind_some _ _).symm.trans H;rw [hy143];with_reducible exact H2_)|(have H2_:=(Option.bind_some _ _).symm.trans H;with_reducible exact H2_)|with_reducible exact H|(rw [hy143];exact H)|exact H
  have Ny143:=zm hy143;clear hy143
  obtain rfl:=Option.some.inj H
  go_enter Try.func24,Try.ntmps24
  go_wp2_with (first|((with_reducible refine gate_dst (N:=1) rfl ?_);refine box_event ?hg (N:=1) ?hd (cs := #[.int .u64 a0_0, .int .u32 a0_1, .slice A0_2 l0_2.length c0_2]) (t:=26) ?hr ?_;(case hd=>rfl);(case hg=>rfl);(case hr=>first|(go_simp;done)|(go_simp;rfl));intro gb134 hg w4 hbox hb;have n0_:=zm (zJ (by repeat (first|(with_reducible first|exact HB.out|apply ze|apply zd|apply zf)|exact HB.out)) hb);have n1_:=zm (hbox);have n2_:=zm ((by rw [hg];exact (zE (by repeat (first|(with_reducible first|exact HB.out|apply ze|apply zd|apply zf)|exact HB.out))) : w.heap.size≤gb134));have n3_:=zm ((by rw [hg];exact (zE (by repeat (first|(with_reducible first|exact HB.out|apply ze|apply zd|apply zf)|exact HB.out))) : w.heap.size≤gb134));clear HB;have HB:=n0_;have BK134:=n1_;have GW134:=n2_;have GE134:=n3_;clear n0_ n1_ n2_ n3_;clear hb hbox hg;have hcz5_0 : w4.cell? ⟨gb134,0,none⟩=some (.int .u64 a0_0):=(zs BK134.out 0).trans rfl;have hcz5_1 : w4.cell? ⟨gb134,1,none⟩=some (.int .u32 a0_1):=(zs BK134.out 1).trans rfl;have hcz5_2 : w4.cell? ⟨gb134,2,none⟩=some (.slice A0_2 l0_2.length c0_2):=(zs BK134.out 2).trans rfl;have hfz5_0:=zx BK134.out 0;have hfz5_1:=zx BK134.out 1;have hfz5_2:=zx BK134.out 2)|((with_reducible refine gate_callee (f:=51) rfl ?_);refine goesL_ (some 4) rfl rfl Try.func51 (by kernel_rfl) rfl #[.agg #[.int .u64 a0_0, .int .u32 a0_1, .slice A0_2 l0_2.length c0_2]] rfl (by (try simp only [List.map_toArray,List.map_cons,List.map_nil]);first|done|rfl|(simp only [List.length_drop,List.length_take];rfl)) ?_;(with_reducible refine (coder_own.calls a0_0 a0_1 _ _ l0_2 t135 t136 t137 _ ?side1 ?side2 A2.out).mono ?_);(case side1=>repeat (first|exact (Kd.C_below HR0_2.out HB.out)|(with_reducible refine Kd.C_alloc ?_ _)|(with_reducible refine Kd.C_drewN ?_ _)|(with_reducible refine Kd.C_drew ?_)));(case side2=>exact HC0_2.out);rintro e w6 ⟨v138,rfl,ho0,hb⟩;refine ⟨_,rfl, ?_⟩;have n0_:=zm (Kd.R_lower ho0 (zE (by repeat (first|(with_reducible first|exact HB.out|apply ze|apply zd|apply zf|refine zk ?_ GE134.out)|exact HB.out))));have n1_:=zm (zF (g:=gb134) (o:=.cells #[.int .u64 a0_0, .int .u32 a0_1, .slice A0_2 l0_2.length c0_2] 26 (0,0)) (by (with_reducible repeat (first|refine zh ?_ _|refine zj ?_|refine zi ?_ _));exact BK134.out) hb);have n2_:=zm (zJ (by repeat (first|(with_reducible first|exact HB.out|apply ze|apply zd|apply zf|refine zk ?_ GE134.out)|exact HB.out)) hb);clear BK134;clear HB;have HO139:=n0_;have BK134:=n1_;have HB:=n2_;clear n0_ n1_ n2_;(try clear hb);(try clear hb2);(try clear hk);(try clear hi);(try clear ho0);have hcz7_0 : w6.cell? ⟨gb134,0,none⟩=some (.int .u64 a0_0):=(zs BK134.out 0).trans rfl;have hcz7_1 : w6.cell? ⟨gb134,1,none⟩=some (.int .u32 a0_1):=(zs BK134.out 1).trans rfl;have hcz7_2 : w6.cell? ⟨gb134,2,none⟩=some (.slice A0_2 l0_2.length c0_2):=(zs BK134.out 2).trans rfl;have hfz7_0:=zx BK134.out 0;have hfz7_1:=zx BK134.out 1;have hfz7_2:=zx BK134.out 2;obtain ⟨Ao8,co8,eo8⟩:=Kd.R_slice HO139.out;subst eo8)|((with_reducible refine gate_dst (N:=22) rfl ?_);refine Kd.R_lit (Kd.int .u8) _ 5 ?hg (N:=22) ?hd (xs:=([(t135 / 16777216) % 256,(t135 / 65536) % 256,(t135 / 256) % 256,(t135) % 256] : List Int)) (inner := [.int .u8 ((t135 / 16777216) % 256), .int .u8 ((t135 / 65536) % 256), .int .u8 ((t135 / 256) % 256), .int .u8 ((t135) % 256)]) (ok:=fun _=>True) (okp:=fun _=>True) ?hr ?hp (fun _ hk=>hk) trivial (Below.refl _ _) (Nat.le_refl _) (by simp) ?_;(case hd=>rfl);(case hg=>rfl);(case hr=>first|(go_simp;done)|(go_simp;rfl));(case hp=>exact (Reps.one (show Kd.M (Kd.int .u8) _ _ _ ((t135 / 16777216) % 256) [.int .u8 ((t135 / 16777216) % 256)] from rfl) (Reps.one (show Kd.M (Kd.int .u8) _ _ _ ((t135 / 65536) % 256) [.int .u8 ((t135 / 65536) % 256)] from rfl) (Reps.one (show Kd.M (Kd.int .u8) _ _ _ ((t135 / 256) % 256) [.int .u8 ((t135 / 256) % 256)] from rfl) (Reps.one (show Kd.M (Kd.int .u8) _ _ _ ((t135) % 256) [.int .u8 ((t135) % 256)] from rfl) (Reps.none _ _))))));intro v141 w9 ho10 hb hg_ hnew_;clear hg_ hnew_;(first|rw [← Ny140.out] at ho10|(simp only [Int.reduceToNat] at ho10;rw [← Ny140.out] at ho10));have n0_:=zm (Kd.R_elder' (by (with_reducible repeat (first|apply zo|apply zp|apply zq));exact (zG (zH (p:=⟨gb134,2,none⟩) (zH (p:=⟨gb134,1,none⟩) (zH (p:=⟨gb134,0,none⟩) (Kd.R_types HO139.out BK134.out (by decide)) (fun _ hk=>hk.2) (.int .u64 t135)) (fun _ hk=>hk.2) (.int .u32 t136)) (fun _ hk=>hk.2) (.slice Ao8 t137.length co8)) (fun _ h_=>h_.1))) (Kd.R_base ho10) hb);have n1_:=zm (Kd.R_lower (Kd.R_new' ho10 (Kd.R_lt (by (with_reducible repeat (first|apply zo|apply zp|apply zq));exact (zG (zH (p:=⟨gb134,2,none⟩) (zH (p:=⟨gb134,1,none⟩) (zH (p:=⟨gb134,0,none⟩) (Kd.R_types HO139.out BK134.out (by decide)) (fun _ hk=>hk.2) (.int .u64 t135)) (fun _ hk=>hk.2) (.int .u32 t136)) (fun _ hk=>hk.2) (.slice Ao8 t137.length co8)) (fun _ h_=>h_.1))))) (zE (by repeat (first|(with_reducible first|exact HB.out|apply ze|apply zd|apply zf|refine zk ?_ GE134.out)|exact HB.out))));have n2_:=zm (zF (g:=gb134) (o:=.cells #[.int .u64 t135, .int .u32 t136, .slice Ao8 t137.length co8] 26 (0,0)) (by (with_reducible repeat (first|refine zh ?_ _|refine zj ?_|refine zi ?_ _));refine zw (cs := #[.int .u64 t135, .int .u32 t136, .slice A0_2 l0_2.length c0_2]) ?_ 2 _ rfl;(with_reducible repeat (first|refine zh ?_ _|refine zj ?_|refine zi ?_ _));refine zw (cs := #[.int .u64 t135, .int .u32 a0_1, .slice A0_2 l0_2.length c0_2]) ?_ 1 _ rfl;(with_reducible repeat (first|refine zh ?_ _|refine zj ?_|refine zi ?_ _));refine zw (cs := #[.int .u64 a0_0, .int .u32 a0_1, .slice A0_2 l0_2.length c0_2]) ?_ 0 _ rfl;(with_reducible repeat (first|refine zh ?_ _|refine zj ?_|refine zi ?_ _));exact BK134.out) hb);have n3_:=zm (zJ (by repeat (first|(with_reducible first|exact HB.out|apply ze|apply zd|apply zf|refine zk ?_ GE134.out)|exact HB.out)) hb);clear HO139;clear BK134;clear HB;have HO139:=n0_;have HO142:=n1_;have BK134:=n2_;have HB:=n3_;clear n0_ n1_ n2_ n3_;clear hb ho10;obtain ⟨Ao12,co12,eo12⟩:=Kd.R_slice HO142.out;subst eo12)|((with_reducible refine gate_builtin (b:=.append) (xs := #[.tmp 6, .tmp 22]) rfl ?_);at_builtin;refine Kd.R_append_rows (Kd.int .u8) (w0:=w) w.heap.size rfl (.tmp 6) (.tmp 22) 24 5 (.int .u8 0) 1 rfl Try.underlying24 info5 rfl (by decide) (by omega) (.slice Ao8 t137.length co8) t137 y140 _ _ _ (fun k_=>some k_≠(.slice Ao12 y140.length co12 : Value).ownBlock) (fun _=>False) rfl rfl ?aO ?aR (fun _ _ h=>h) (fun _ h=>h.elim) ?aF ?aB ?aS ?aL ?_;(case aR=>repeat (first|exact (Kd.R_reads' HO142.out).2.2|(with_reducible refine Kd.C_alloc ?_ _)|(with_reducible refine Kd.C_drewN ?_ _)|(with_reducible refine Kd.C_drew ?_)));(case aB=>exact (by repeat (first|(with_reducible first|exact HB.out|apply ze|apply zd|apply zf|refine zk ?_ GE134.out)|exact HB.out)));(case aF=>exact (fun k_ hk=>Kd.fresh' (Kd.R_lt (by (with_reducible repeat (first|apply zo|apply zp|apply zq));exact HO142.out)) k_ hk));(case aO=>exact (by (with_reducible repeat (first|apply zo|apply zp|apply zq));exact zG HO139.out (fun _ hk=>hk.2)));(case aS=>exact (zE (by repeat (first|(with_reducible first|exact HB.out|apply ze|apply zd|apply zf|refine zk ?_ GE134.out)|exact HB.out))));(case aL=>have:=LMc3.out;omega);intro v144 w11 ho hb hg hat;rw [← Ny143.out] at ho;have n0_:=zm (blk_grown (g:=gb134) (o:=.cells #[.int .u64 t135, .int .u32 t136, .slice Ao8 t137.length co8] 26 (0,0)) (by (with_reducible repeat (first|refine zh ?_ _|refine zj ?_|refine zi ?_ _));exact BK134.out) hg (zu HO139.out BK134.out (by decide)));have n1_:=zm (Kd.R_after (ok:=(fun _=>True)) (by (with_reducible repeat (first|apply zo|apply zp|apply zq));exact HO142.out) hg hat);have n2_:=zm (hb);have n3_:=zm (ho);clear BK134;clear HO142;clear HB;clear HO139;have BK134:=n0_;have HO142:=n1_;have HB:=n2_;have HO145:=n3_;clear n0_ n1_ n2_ n3_;clear ho hb hg hat))
  go_ret
  exact ⟨_,by first|rfl|(simp [errW_none,errW_some] <;> rfl)|(simp [*,errW_none,errW_some] <;> rfl),by (with_reducible repeat (first|apply zo|apply zp|apply zq));exact zG HO145.out (fun _ hk=>trivial),by repeat (first|(with_reducible first|exact HB.out|apply ze|apply zd|apply zf|refine zk ?_ GE134.out)|exact HB.out)⟩
 ·
  rw [if_neg c3] at H
  exact absurd H (by simp)

end Go.Proofs.Ytkaoiblgfpphoaa.Prt

namespace Go.Proofs.Ytkaoiblgfpphoaa.Prt
open Go.RowKit Go.Proofs.YtkaoiblgfpphoaaW.PrintWords Go.Proofs.YtkaoiblgfpphoaaW.PrintLast Go.Proofs.YtkaoiblgfpphoaaW.PrintMore
attribute [local go_sem] max2_int min2_int max_two min_two max_three min_three max_four min_four   -- for this text's walks alone
set_option linter.unusedVariables false
set_option linter.unusedSimpArgs false

/-! ### gain_Most: function 50 -/
def gain_Most.f (a0 : Bool) : Option (Int):=if a0=true then (some 30) else (some 45)
set_option maxHeartbeats 8000000 in
set_option maxRecDepth 100000 in
theorem gain_Most.calls (a0 : Bool) (r : Int) (w : World) (h : gain_Most.f a0=some r) :
  Calls Try.prog 50 #[.bool a0] w fun e w' => e=.returned (.int .i64 r)∧Drawn0 w w' := by
 have H : (if a0=true then (some 30) else (some 45))=some r:=h
 clear h
 by_cases c2 : a0=true
 ·
  subst c2
  have H1 : (some 30)=some r:=by rw [if_pos rfl] at H;exact H
  clear H;have H:=H1;clear H1
  obtain rfl:=Option.some.inj H
  go_enter Try.func50,Try.ntmps50
  go_wp2
  go_ret
  exact ⟨by first|rfl|(simp;done)|(simp [*];done),by repeat (first|exact Drawn0.refl _|apply Drawn0.step)⟩
 ·
  replace c2:=Bool.eq_false_iff.mpr c2
  subst c2
  have H1 : (some 45)=some r:=by rw [if_neg (show ¬ (false=true) by decide)] at H;exact H
  clear H;have H:=H1;clear H1
  obtain rfl:=Option.some.inj H
  go_enter Try.func50,Try.ntmps50
  go_wp2
  go_ret
  exact ⟨by first|rfl|(simp;done)|(simp [*];done),by repeat (first|exact Drawn0.refl _|apply Drawn0.step)⟩

end Go.Proofs.Ytkaoiblgfpphoaa.Prt

namespace Go.Proofs.Ytkaoiblgfpphoaa.Prt
open Go.RowKit Go.Proofs.YtkaoiblgfpphoaaW.PrintWords Go.Proofs.YtkaoiblgfpphoaaW.PrintLast Go.Proofs.YtkaoiblgfpphoaaW.PrintMore
attribute [local go_sem] max2_int min2_int max_two min_two max_three min_three max_four min_four   -- for this text's walks alone
set_option linter.unusedVariables false
set_option linter.unusedSimpArgs false

/-! ### psalteryref06_Same: function 49 -/
def psalteryref06_Same.l0 : Nat→List Int→List Int→Int→Option (Bool)
 | 0,_,_,_=>none
 | k+1,x0,x1,x5=>if x5 < (x0.length : Int) then (if 0≤x5 then (if x5 < (x1.length : Int) then (if (rd x0 x5)=(rd x1 x5) then (psalteryref06_Same.l0 k x0 x1 (wrap64 (x5+1))) else (some false)) else (none)) else (none)) else (some true)
def psalteryref06_Same.f (k : Nat) (l0 : List Int) (l1 : List Int) : Option (Bool):=if (l0.length : Int)=(l1.length : Int) then (psalteryref06_Same.l0 k l0 l1 0) else (some false)
theorem psalteryref06_Same.mono_l : ∀ k,(∀ y0 y1 y2,LeO (psalteryref06_Same.l0 k y0 y1 y2) (psalteryref06_Same.l0 (k+1) y0 y1 y2))
 | 0=>fun _ _ _ r h=>by simp [psalteryref06_Same.l0] at h
 | k+1=>by
  have ih0:=psalteryref06_Same.mono_l k
  ·
   intro y0 y1 y2
   unfold psalteryref06_Same.l0
   repeat' first
   | (with_reducible exact ih0 _ _ _)
   | (with_reducible exact LeO.refl _)
   | (with_reducible exact LeO.none _)
   | (with_reducible refine LeO.ite ?_ ?_)
   | (with_reducible refine LeO.bind ?_ (fun _ => ?_))
   | exact ih0 _ _ _
   | exact LeO.none _
   | refine LeO.ite ?_ ?_
   | refine LeO.bind ?_ (fun _ => ?_)
theorem psalteryref06_Same.mono : ∀ a0 a1 k,LeO (psalteryref06_Same.f k a0 a1) (psalteryref06_Same.f (k+1) a0 a1):=by
 intro a0 a1 k
 have ih0:=psalteryref06_Same.mono_l k
 unfold psalteryref06_Same.f
 repeat' first
   | (with_reducible exact ih0 _ _ _)
   | (with_reducible exact LeO.refl _)
   | (with_reducible exact LeO.none _)
   | (with_reducible refine LeO.ite ?_ ?_)
   | (with_reducible refine LeO.bind ?_ (fun _ => ?_))
   | exact ih0 _ _ _
   | exact LeO.none _
   | refine LeO.ite ?_ ?_
   | refine LeO.bind ?_ (fun _ => ?_)
set_option maxHeartbeats 8000000 in
set_option maxRecDepth 100000 in
theorem psalteryref06_Same.calls (k : Nat) (A0 : Option Addr) (c0 : Nat) (l0 : List Int) (A1 : Option Addr) (c1 : Nat) (l1 : List Int) (r : Bool) (w : World) (hr0 : Kd.C (Kd.int .i64) w A0 l0.length l0) (hc0 : l0.length≤c0) (hr1 : Kd.C (Kd.int .i64) w A1 l1.length l1) (hc1 : l1.length≤c1) (h : psalteryref06_Same.f k l0 l1=some r) :
  Calls Try.prog 49 #[.slice A0 l0.length c0, .slice A1 l1.length c1] w fun e w' => e=.returned (.bool r)∧Drawn0 w w' := by
 have HR0:=zm hr0;have HC0:=zm hc0;clear hr0 hc0;have HR1:=zm hr1;have HC1:=zm hc1;clear hr1 hc1
 have H : (if (l0.length : Int)=(l1.length : Int) then (psalteryref06_Same.l0 k l0 l1 0) else (some false))=some r:=h
 clear h
 by_cases c3 : (l0.length : Int)=(l1.length : Int)
 ·
  rw [if_pos c3] at H
  have c3b0 : ((l0.length : Int) == (l1.length : Int))=true:=beq_iff_eq.mpr c3
  have c3b1 : ((l0.length : Int) != (l1.length : Int))=false:=bne_eq_false_iff_eq.mpr c3
  have c3b2 : (l0.length == l1.length)=true:=by first|simpa using c3|(simp at c3 ⊢; omega)
  clear c3
  have H' := zm H
  clear H
  go_enter Try.func49,Try.ntmps49
  go_wp2
  repeat (go_quiet (fail);try go_wp2)
  go_loopg [5] k (fun kq v5 w' => ∃ (x5_1 : Int),v5=.int .i64 x5_1∧Aside0 (psalteryref06_Same.l0 kq l0 l1 x5_1=some r)∧Aside0 (kq≤k)∧Drawn0 w w')
  case atStart=>exact ⟨(0),(by first|rfl|(simp;done)|(simp [*];done)),H',⟨Nat.le_refl _⟩,by repeat (first|exact Drawn0.refl _|apply Drawn0.step)⟩
  case round =>
   clear H'
   try clear c1
   try clear p2
   try clear c3
   try clear c3b0
   try clear c3b1
   try clear c3b2
   obtain ⟨x5_1,rfl,HA,HK1,⟨m1,rfl⟩⟩:=hrel
   cases gk with
   | zero=>exact absurd HA.out (by simp [psalteryref06_Same.l0])
   | succ k1 =>
    have H:=HA.out;clear HA
    simp only [psalteryref06_Same.l0] at H
    by_cases c4 : x5_1 < (l0.length : Int)
    ·
     rw [if_pos c4] at H
     have c4b0 : decide (x5_1 < (l0.length : Int))=true:=decide_eq_true c4
     clear c4
     by_cases c5 : 0≤x5_1
     ·
      rw [if_pos c5] at H
      have c5b0 : decide (0≤x5_1)=true:=decide_eq_true c5
      clear c5
      by_cases c6 : x5_1 < (l1.length : Int)
      ·
       rw [if_pos c6] at H
       have c6b0 : decide (x5_1 < (l1.length : Int))=true:=decide_eq_true c6
       clear c6
       by_cases c7 : (rd l0 x5_1)=(rd l1 x5_1)
       ·
        rw [if_pos c7] at H
        have c7b0 : ((rd l0 x5_1) == (rd l1 x5_1))=true:=beq_iff_eq.mpr c7
        have c7b1 : ((rd l0 x5_1) != (rd l1 x5_1))=false:=bne_eq_false_iff_eq.mpr c7
        clear c7
        have H' := zm H
        clear H
        have p772 : 0≤(x5_1 : Int):=of_decide_eq_true (by first|(with_reducible assumption)|assumption)
        have q772 : x5_1 < (l0.length : Int):=of_decide_eq_true (by first|(with_reducible assumption)|assumption)
        obtain ⟨ad772,e772,hx772_0⟩:=Kd.at_int HR0.out x5_1 p772 q772
        cases e772
        replace p772:=eq_true p772
        replace q772:=eq_true q772
        have p773 : 0≤(x5_1 : Int):=of_decide_eq_true (by first|(with_reducible assumption)|assumption)
        have q773 : x5_1 < (l1.length : Int):=of_decide_eq_true (by first|(with_reducible assumption)|assumption)
        obtain ⟨ad773,e773,hx773_0⟩:=Kd.at_int HR1.out x5_1 p773 q773
        cases e773
        replace p773:=eq_true p773
        replace q773:=eq_true q773
        go_wp2
        repeat (go_quiet (fail);try go_wp2)
        go_roundg k1
        case measure=>have:=HK1.out;omega
        case rel=>exact ⟨(wrap64 (x5_1+1)),(by first|rfl|(simp;done)|(simp [*];done)),H',⟨by have:=HK1.out;omega⟩,by repeat (first|exact Drawn0.refl _|apply Drawn0.step)⟩
       ·
        rw [if_neg c7] at H
        have c7b0 : ((rd l0 x5_1) == (rd l1 x5_1))=false:=beq_eq_false_iff_ne.mpr c7
        have c7b1 : ((rd l0 x5_1) != (rd l1 x5_1))=true:=bne_iff_ne.mpr c7
        obtain rfl:=Option.some.inj H
        have p772 : 0≤(x5_1 : Int):=of_decide_eq_true (by first|(with_reducible assumption)|assumption)
        have q772 : x5_1 < (l0.length : Int):=of_decide_eq_true (by first|(with_reducible assumption)|assumption)
        obtain ⟨ad772,e772,hx772_0⟩:=Kd.at_int HR0.out x5_1 p772 q772
        cases e772
        replace p772:=eq_true p772
        replace q772:=eq_true q772
        have p773 : 0≤(x5_1 : Int):=of_decide_eq_true (by first|(with_reducible assumption)|assumption)
        have q773 : x5_1 < (l1.length : Int):=of_decide_eq_true (by first|(with_reducible assumption)|assumption)
        obtain ⟨ad773,e773,hx773_0⟩:=Kd.at_int HR1.out x5_1 p773 q773
        cases e773
        replace p773:=eq_true p773
        replace q773:=eq_true q773
        go_wp2
        repeat (go_quiet (fail);try go_wp2)
        go_ret
        exact ⟨by first|rfl|(simp;done)|(simp [*];done),by repeat (first|exact Drawn0.refl _|apply Drawn0.step)⟩
      ·
       rw [if_neg c6] at H
       exact absurd H (by simp)
     ·
      rw [if_neg c5] at H
      exact absurd H (by simp)
    ·
     rw [if_neg c4] at H
     have c4b0 : decide (x5_1 < (l0.length : Int))=false:=decide_eq_false c4
     clear c4
     obtain rfl:=Option.some.inj H
     go_wp2
     repeat (go_quiet (fail);try go_wp2)
     go_ret
     exact ⟨by first|rfl|(simp;done)|(simp [*];done),by repeat (first|exact Drawn0.refl _|apply Drawn0.step)⟩
 ·
  rw [if_neg c3] at H
  have c3b0 : ((l0.length : Int) == (l1.length : Int))=false:=beq_eq_false_iff_ne.mpr c3
  have c3b1 : ((l0.length : Int) != (l1.length : Int))=true:=bne_iff_ne.mpr c3
  have c3b2 : (l0.length == l1.length)=false:=by first|simpa using c3|(simp at c3 ⊢; omega)
  obtain rfl:=Option.some.inj H
  go_enter Try.func49,Try.ntmps49
  go_wp2
  repeat (go_quiet (fail);try go_wp2)
  go_ret
  exact ⟨by first|rfl|(simp;done)|(simp [*];done),by repeat (first|exact Drawn0.refl _|apply Drawn0.step)⟩

end Go.Proofs.Ytkaoiblgfpphoaa.Prt

namespace Go.Proofs.Ytkaoiblgfpphoaa.Prt
open Go.RowKit Go.Proofs.YtkaoiblgfpphoaaW.PrintWords Go.Proofs.YtkaoiblgfpphoaaW.PrintLast Go.Proofs.YtkaoiblgfpphoaaW.PrintMore
attribute [local go_sem] max2_int min2_int max_two min_two max_three min_three max_four min_four   -- for this text's walks alone
set_option linter.unusedVariables false
set_option linter.unusedSimpArgs false

/-! ### psalterylaw11_knows: function 42 -/
def psalterylaw11_knows.f (k : Nat)  : Option (Bool):=(some (([5,5,5,5,5] : List Int) : List Int)).bind fun y774=>((some (([5,4,8,9,5] : List Int) : List Int)).bind fun y777=>((coder_New.f).bind fun bt780=>((gain_Put.f k bt780.1 bt780.2.1 bt780.2.2 y774 y777 false).bind fun bt785=>((coder_Finish.f bt785.1 bt785.2.1 bt785.2.2.1).bind fun t792=>((coder_Open.f t792).bind fun bt795=>((gain_Take.f k bt795.1 bt795.2.1 bt795.2.2.1 bt795.2.2.2 y777 false).bind fun bt801=>(if bt785.2.2.2=0 then ((psalteryref06_Same.f k bt801.2.2.2.2.1 y774).bind fun t812=>(if t812=true then (if bt801.2.2.2.2.2=0 then ((coder_RightDec.f bt801.1 bt801.2.1 bt801.2.2.1 bt801.2.2.2.1).bind fun t813=>(if t813=true then ((gain_Most.f true).bind fun t814=>(if t814=30 then ((gain_Most.f false).bind fun t815=>(if t815=45 then ((gain_Right.f k y774).bind fun t816=>(some t816)) else (none))) else (none))) else (none))) else (none)) else (none))) else (none))))))))
theorem psalterylaw11_knows.mono : ∀ k,LeO (psalterylaw11_knows.f k ) (psalterylaw11_knows.f (k+1) ):=by
 intro  k
 unfold psalterylaw11_knows.f
 repeat' first
   | (with_reducible exact gain_Put.mono _ _ _ _ _ _ _)
   | (with_reducible exact gain_Right.mono _ _)
   | (with_reducible exact gain_Take.mono _ _ _ _ _ _ _)
   | (with_reducible exact psalteryref06_Same.mono _ _ _)
   | (with_reducible exact LeO.refl _)
   | (with_reducible exact LeO.none _)
   | (with_reducible refine LeO.ite ?_ ?_)
   | (with_reducible refine LeO.bind ?_ (fun _ => ?_))
   | exact gain_Put.mono _ _ _ _ _ _ _
   | exact gain_Right.mono _ _
   | exact gain_Take.mono _ _ _ _ _ _ _
   | exact psalteryref06_Same.mono _ _ _
   | exact LeO.none _
   | refine LeO.ite ?_ ?_
   | refine LeO.bind ?_ (fun _ => ?_)
set_option maxHeartbeats 8000000 in
set_option maxRecDepth 100000 in
theorem psalterylaw11_knows.calls (k : Nat)  (r : Bool) (w : World) (h : psalterylaw11_knows.f k  = some r) :
  Calls Try.prog 42 #[] w fun e w' => e=.returned (.bool r)∧Below w.heap.size w w' := by
 have hu26:=Try.underlying26;have hu43:=Try.underlying43;have HB:=zm (Below.refl w.heap.size w)
 have H : ((some (([5,5,5,5,5] : List Int) : List Int)).bind fun y774=>((some (([5,4,8,9,5] : List Int) : List Int)).bind fun y777=>((coder_New.f).bind fun bt780=>((gain_Put.f k bt780.1 bt780.2.1 bt780.2.2 y774 y777 false).bind fun bt785=>((coder_Finish.f bt785.1 bt785.2.1 bt785.2.2.1).bind fun t792=>((coder_Open.f t792).bind fun bt795=>((gain_Take.f k bt795.1 bt795.2.1 bt795.2.2.1 bt795.2.2.2 y777 false).bind fun bt801=>(if bt785.2.2.2=0 then ((psalteryref06_Same.f k bt801.2.2.2.2.1 y774).bind fun t812=>(if t812=true then (if bt801.2.2.2.2.2=0 then ((coder_RightDec.f bt801.1 bt801.2.1 bt801.2.2.1 bt801.2.2.2.1).bind fun t813=>(if t813=true then ((gain_Most.f true).bind fun t814=>(if t814=30 then ((gain_Most.f false).bind fun t815=>(if t815=45 then ((gain_Right.f k y774).bind fun t816=>(some t816)) else (none))) else (none))) else (none))) else (none)) else (none))) else (none)))))))))=some r:=h
 clear h
 obtain ⟨y774,hy774⟩ : ∃ y_ : List Int,y_=(([5,5,5,5,5] : List Int)):=⟨_,rfl⟩
 replace H : ((some (([5,4,8,9,5] : List Int) : List Int)).bind fun y777=>((coder_New.f).bind fun bt780=>((gain_Put.f k bt780.1 bt780.2.1 bt780.2.2 y774 y777 false).bind fun bt785=>((coder_Finish.f bt785.1 bt785.2.1 bt785.2.2.1).bind fun t792=>((coder_Open.f t792).bind fun bt795=>((gain_Take.f k bt795.1 bt795.2.1 bt795.2.2.1 bt795.2.2.2 y777 false).bind fun bt801=>(if bt785.2.2.2=0 then ((psalteryref06_Same.f k bt801.2.2.2.2.1 y774).bind fun t812=>(if t812=true then (if bt801.2.2.2.2.2=0 then ((coder_RightDec.f bt801.1 bt801.2.1 bt801.2.2.1 bt801.2.2.2.1).bind fun t813=>(if t813=true then ((gain_Most.f true).bind fun t814=>(if t814=30 then ((gain_Most.f false).bind fun t815=>(if t815=45 then ((gain_Right.f k y774).bind fun t816=>(some t816)) else (none))) else (none))) else (none))) else (none)) else (none))) else (none))))))))=some r:=by first|(rw [hy774];with_reducible exact H)|(have H2_:=(Option.bind_some _ _).symm.trans H;rw [hy774];with_reducible exact H2_)|(have H2_:=(Option.bind_some _ _).symm.trans H;with_reducible exact H2_)|with_reducible exact H|(rw [hy774];exact H)|exact H
 have Ny774:=zm hy774;clear hy774
 obtain ⟨y777,hy777⟩ : ∃ y_ : List Int,y_=(([5,4,8,9,5] : List Int)):=⟨_,rfl⟩
 replace H : ((coder_New.f).bind fun bt780=>((gain_Put.f k bt780.1 bt780.2.1 bt780.2.2 y774 y777 false).bind fun bt785=>((coder_Finish.f bt785.1 bt785.2.1 bt785.2.2.1).bind fun t792=>((coder_Open.f t792).bind fun bt795=>((gain_Take.f k bt795.1 bt795.2.1 bt795.2.2.1 bt795.2.2.2 y777 false).bind fun bt801=>(if bt785.2.2.2=0 then ((psalteryref06_Same.f k bt801.2.2.2.2.1 y774).bind fun t812=>(if t812=true then (if bt801.2.2.2.2.2=0 then ((coder_RightDec.f bt801.1 bt801.2.1 bt801.2.2.1 bt801.2.2.2.1).bind fun t813=>(if t813=true then ((gain_Most.f true).bind fun t814=>(if t814=30 then ((gain_Most.f false).bind fun t815=>(if t815=45 then ((gain_Right.f k y774).bind fun t816=>(some t816)) else (none))) else (none))) else (none))) else (none)) else (none))) else (none)))))))=some r:=by first|(rw [hy777];with_reducible exact H)|(have H2_:=(Option.bind_some _ _).symm.trans H;rw [hy777];with_reducible exact H2_)|(have H2_:=(Option.bind_some _ _).symm.trans H;with_reducible exact H2_)|with_reducible exact H|(rw [hy777];exact H)|exact H
 have Ny777:=zm hy777;clear hy777
 replace H:=Option.bind_eq_some_iff.mp H
 obtain ⟨⟨t780,t781,t782⟩,A10,H⟩:=H
 replace H : ((gain_Put.f k t780 t781 t782 y774 y777 false).bind fun bt785=>((coder_Finish.f bt785.1 bt785.2.1 bt785.2.2.1).bind fun t792=>((coder_Open.f t792).bind fun bt795=>((gain_Take.f k bt795.1 bt795.2.1 bt795.2.2.1 bt795.2.2.2 y777 false).bind fun bt801=>(if bt785.2.2.2=0 then ((psalteryref06_Same.f k bt801.2.2.2.2.1 y774).bind fun t812=>(if t812=true then (if bt801.2.2.2.2.2=0 then ((coder_RightDec.f bt801.1 bt801.2.1 bt801.2.2.1 bt801.2.2.2.1).bind fun t813=>(if t813=true then ((gain_Most.f true).bind fun t814=>(if t814=30 then ((gain_Most.f false).bind fun t815=>(if t815=45 then ((gain_Right.f k y774).bind fun t816=>(some t816)) else (none))) else (none))) else (none))) else (none)) else (none))) else (none))))))=some r:=H
 have A1:=zm A10;clear A10
 replace H:=Option.bind_eq_some_iff.mp H
 obtain ⟨⟨t785,t786,t787,t790⟩,A20,H⟩:=H
 replace H : ((coder_Finish.f t785 t786 t787).bind fun t792=>((coder_Open.f t792).bind fun bt795=>((gain_Take.f k bt795.1 bt795.2.1 bt795.2.2.1 bt795.2.2.2 y777 false).bind fun bt801=>(if t790=0 then ((psalteryref06_Same.f k bt801.2.2.2.2.1 y774).bind fun t812=>(if t812=true then (if bt801.2.2.2.2.2=0 then ((coder_RightDec.f bt801.1 bt801.2.1 bt801.2.2.1 bt801.2.2.2.1).bind fun t813=>(if t813=true then ((gain_Most.f true).bind fun t814=>(if t814=30 then ((gain_Most.f false).bind fun t815=>(if t815=45 then ((gain_Right.f k y774).bind fun t816=>(some t816)) else (none))) else (none))) else (none))) else (none)) else (none))) else (none)))))=some r:=H
 have A2:=zm A20;clear A20
 replace H:=Option.bind_eq_some_iff.mp H
 obtain ⟨t792,A30,H⟩:=H
 replace H : ((coder_Open.f t792).bind fun bt795=>((gain_Take.f k bt795.1 bt795.2.1 bt795.2.2.1 bt795.2.2.2 y777 false).bind fun bt801=>(if t790=0 then ((psalteryref06_Same.f k bt801.2.2.2.2.1 y774).bind fun t812=>(if t812=true then (if bt801.2.2.2.2.2=0 then ((coder_RightDec.f bt801.1 bt801.2.1 bt801.2.2.1 bt801.2.2.2.1).bind fun t813=>(if t813=true then ((gain_Most.f true).bind fun t814=>(if t814=30 then ((gain_Most.f false).bind fun t815=>(if t815=45 then ((gain_Right.f k y774).bind fun t816=>(some t816)) else (none))) else (none))) else (none))) else (none)) else (none))) else (none))))=some r:=H
 have A3:=zm A30;clear A30
 replace H:=Option.bind_eq_some_iff.mp H
 obtain ⟨⟨t795,t796,t797,t800⟩,A40,H⟩:=H
 replace H : ((gain_Take.f k t795 t796 t797 t800 y777 false).bind fun bt801=>(if t790=0 then ((psalteryref06_Same.f k bt801.2.2.2.2.1 y774).bind fun t812=>(if t812=true then (if bt801.2.2.2.2.2=0 then ((coder_RightDec.f bt801.1 bt801.2.1 bt801.2.2.1 bt801.2.2.2.1).bind fun t813=>(if t813=true then ((gain_Most.f true).bind fun t814=>(if t814=30 then ((gain_Most.f false).bind fun t815=>(if t815=45 then ((gain_Right.f k y774).bind fun t816=>(some t816)) else (none))) else (none))) else (none))) else (none)) else (none))) else (none)))=some r:=H
 have A4:=zm A40;clear A40
 replace H:=Option.bind_eq_some_iff.mp H
 obtain ⟨⟨t801,t802,t803,t806,t807,t810⟩,A50,H⟩:=H
 replace H : (if t790=0 then ((psalteryref06_Same.f k t807 y774).bind fun t812=>(if t812=true then (if t810=0 then ((coder_RightDec.f t801 t802 t803 t806).bind fun t813=>(if t813=true then ((gain_Most.f true).bind fun t814=>(if t814=30 then ((gain_Most.f false).bind fun t815=>(if t815=45 then ((gain_Right.f k y774).bind fun t816=>(some t816)) else (none))) else (none))) else (none))) else (none)) else (none))) else (none))=some r:=H
 have A5:=zm A50;clear A50
 by_cases c6 : t790=0
 ·
  rw [if_pos c6] at H
  have c6b0 : (t790 == 0)=true:=beq_iff_eq.mpr c6
  have c6b1 : (t790 != 0)=false:=bne_eq_false_iff_eq.mpr c6
  clear c6
  replace H:=Option.bind_eq_some_iff.mp H
  obtain ⟨t812,A70,H⟩:=H
  replace H : (if t812=true then (if t810=0 then ((coder_RightDec.f t801 t802 t803 t806).bind fun t813=>(if t813=true then ((gain_Most.f true).bind fun t814=>(if t814=30 then ((gain_Most.f false).bind fun t815=>(if t815=45 then ((gain_Right.f k y774).bind fun t816=>(some t816)) else (none))) else (none))) else (none))) else (none)) else (none))=some r:=H
  have A7:=zm A70;clear A70
  by_cases c8 : t812=true
  ·
   subst c8
   have H1 : (if t810=0 then ((coder_RightDec.f t801 t802 t803 t806).bind fun t813=>(if t813=true then ((gain_Most.f true).bind fun t814=>(if t814=30 then ((gain_Most.f false).bind fun t815=>(if t815=45 then ((gain_Right.f k y774).bind fun t816=>(some t816)) else (none))) else (none))) else (none))) else (none))=some r:=by rw [if_pos rfl] at H;exact H
   clear H;have H:=H1;clear H1
   by_cases c9 : t810=0
   ·
    rw [if_pos c9] at H
    have c9b0 : (t810 == 0)=true:=beq_iff_eq.mpr c9
    have c9b1 : (t810 != 0)=false:=bne_eq_false_iff_eq.mpr c9
    clear c9
    replace H:=Option.bind_eq_some_iff.mp H
    obtain ⟨t813,A100,H⟩:=H
    replace H : (if t813=true then ((gain_Most.f true).bind fun t814=>(if t814=30 then ((gain_Most.f false).bind fun t815=>(if t815=45 then ((gain_Right.f k y774).bind fun t816=>(some t816)) else (none))) else (none))) else (none))=some r:=H
    have A10:=zm A100;clear A100
    by_cases c11 : t813=true
    ·
     subst c11
     have H1 : ((gain_Most.f true).bind fun t814=>(if t814=30 then ((gain_Most.f false).bind fun t815=>(if t815=45 then ((gain_Right.f k y774).bind fun t816=>(some t816)) else (none))) else (none)))=some r:=by rw [if_pos rfl] at H;exact H
     clear H;have H:=H1;clear H1
     replace H:=Option.bind_eq_some_iff.mp H
     obtain ⟨t814,A120,H⟩:=H
     replace H : (if t814=30 then ((gain_Most.f false).bind fun t815=>(if t815=45 then ((gain_Right.f k y774).bind fun t816=>(some t816)) else (none))) else (none))=some r:=H
     have A12:=zm A120;clear A120
     by_cases c13 : t814=30
     ·
      rw [if_pos c13] at H
      have c13b0 : (t814 == 30)=true:=beq_iff_eq.mpr c13
      have c13b1 : (t814 != 30)=false:=bne_eq_false_iff_eq.mpr c13
      clear c13
      replace H:=Option.bind_eq_some_iff.mp H
      obtain ⟨t815,A140,H⟩:=H
      replace H : (if t815=45 then ((gain_Right.f k y774).bind fun t816=>(some t816)) else (none))=some r:=H
      have A14:=zm A140;clear A140
      by_cases c15 : t815=45
      ·
       rw [if_pos c15] at H
       have c15b0 : (t815 == 45)=true:=beq_iff_eq.mpr c15
       have c15b1 : (t815 != 45)=false:=bne_eq_false_iff_eq.mpr c15
       clear c15
       replace H:=Option.bind_eq_some_iff.mp H
       obtain ⟨t816,A160,H⟩:=H
       replace H : (some t816)=some r:=H
       have A16:=zm A160;clear A160
       obtain rfl:=Option.some.inj H
       go_enter Try.func42,Try.ntmps42
       go_wp2_with (first|((with_reducible refine gate_dst (N:=8) rfl ?_);refine Kd.R_lit (Kd.int .i64) _ 3 ?hg (N:=8) ?hd (xs:=([5,5,5,5,5] : List Int)) (inner := [.int .i64 5, .int .i64 5, .int .i64 5, .int .i64 5, .int .i64 5]) (ok:=fun _=>True) (okp:=fun _=>True) ?hr ?hp (fun _ hk=>hk) trivial (Below.refl _ _) (Nat.le_refl _) (by simp) ?_;(case hd=>rfl);(case hg=>rfl);(case hr=>first|(go_simp;done)|(go_simp;rfl));(case hp=>exact (Reps.one (show Kd.M (Kd.int .i64) _ _ _ 5 [.int .i64 5] from rfl) (Reps.one (show Kd.M (Kd.int .i64) _ _ _ 5 [.int .i64 5] from rfl) (Reps.one (show Kd.M (Kd.int .i64) _ _ _ 5 [.int .i64 5] from rfl) (Reps.one (show Kd.M (Kd.int .i64) _ _ _ 5 [.int .i64 5] from rfl) (Reps.one (show Kd.M (Kd.int .i64) _ _ _ 5 [.int .i64 5] from rfl) (Reps.none _ _)))))));intro v775 w17 ho18 hb hg_ hnew_;clear hg_ hnew_;(first|rw [← Ny774.out] at ho18|(simp only [Int.reduceToNat] at ho18;rw [← Ny774.out] at ho18));have n0_:=zm (Kd.R_lower ho18 (zE (by repeat (first|(with_reducible first|exact HB.out|apply ze|apply zd|apply zf)|exact HB.out))));have n1_:=zm (zJ (by repeat (first|(with_reducible first|exact HB.out|apply ze|apply zd|apply zf)|exact HB.out)) hb);clear HB;have HO776:=n0_;have HB:=n1_;clear n0_ n1_;clear hb ho18)|((with_reducible refine gate_dst (N:=9) rfl ?_);refine Kd.R_lit (Kd.int .i64) _ 3 ?hg (N:=9) ?hd (xs:=([5,4,8,9,5] : List Int)) (inner := [.int .i64 5, .int .i64 4, .int .i64 8, .int .i64 9, .int .i64 5]) (ok:=fun _=>True) (okp:=fun _=>True) ?hr ?hp (fun _ hk=>hk) trivial (Below.refl _ _) (Nat.le_refl _) (by simp) ?_;(case hd=>rfl);(case hg=>rfl);(case hr=>first|(go_simp;done)|(go_simp;rfl));(case hp=>exact (Reps.one (show Kd.M (Kd.int .i64) _ _ _ 5 [.int .i64 5] from rfl) (Reps.one (show Kd.M (Kd.int .i64) _ _ _ 4 [.int .i64 4] from rfl) (Reps.one (show Kd.M (Kd.int .i64) _ _ _ 8 [.int .i64 8] from rfl) (Reps.one (show Kd.M (Kd.int .i64) _ _ _ 9 [.int .i64 9] from rfl) (Reps.one (show Kd.M (Kd.int .i64) _ _ _ 5 [.int .i64 5] from rfl) (Reps.none _ _)))))));intro v778 w19 ho20 hb hg_ hnew_;clear hg_ hnew_;(first|rw [← Ny777.out] at ho20|(simp only [Int.reduceToNat] at ho20;rw [← Ny777.out] at ho20));have n0_:=zm (Kd.R_elder' (by (with_reducible repeat (first|apply zo|apply zp|apply zq));exact HO776.out) (Kd.R_base ho20) hb);have n1_:=zm (Kd.R_lower (Kd.R_new' ho20 (Kd.R_lt (by (with_reducible repeat (first|apply zo|apply zp|apply zq));exact HO776.out))) (zE (by repeat (first|(with_reducible first|exact HB.out|apply ze|apply zd|apply zf)|exact HB.out))));have n2_:=zm (zJ (by repeat (first|(with_reducible first|exact HB.out|apply ze|apply zd|apply zf)|exact HB.out)) hb);clear HO776;clear HB;have HO776:=n0_;have HO779:=n1_;have HB:=n2_;clear n0_ n1_ n2_;clear hb ho20)|((with_reducible refine gate_callee (f:=29) rfl ?_);refine goesL_ (some 11) rfl rfl Try.func29 (by kernel_rfl) rfl #[] rfl (by (try simp only [List.map_toArray,List.map_cons,List.map_nil]);first|done|rfl|(simp only [List.length_drop,List.length_take];rfl)) ?_;(with_reducible refine (coder_New.calls  t780 t781 t782 _ A1.out).mono ?_);rintro e w21 ⟨v783,rfl,ho0,hb⟩;refine ⟨_,rfl, ?_⟩;have n0_:=zm (Kd.R_below (by (with_reducible repeat (first|apply zo|apply zp|apply zq));exact HO776.out) hb);have n1_:=zm (Kd.R_below (by (with_reducible repeat (first|apply zo|apply zp|apply zq));exact HO779.out) hb);have n2_:=zm (Kd.R_lower ho0 (zE (by repeat (first|(with_reducible first|exact HB.out|apply ze|apply zd|apply zf)|exact HB.out))));have n3_:=zm (zJ (by repeat (first|(with_reducible first|exact HB.out|apply ze|apply zd|apply zf)|exact HB.out)) hb);clear HO776;clear HO779;clear HB;have HO776:=n0_;have HO779:=n1_;have HO784:=n2_;have HB:=n3_;clear n0_ n1_ n2_ n3_;(try clear hb);(try clear hb2);(try clear hk);(try clear hi);(try clear ho0);obtain ⟨Ao22,co22,eo22⟩:=Kd.R_slice HO784.out;subst eo22;obtain ⟨Ao23,co23,eo23⟩:=Kd.R_slice HO776.out;subst eo23;obtain ⟨Ao24,co24,eo24⟩:=Kd.R_slice HO779.out;subst eo24)|((with_reducible refine gate_callee (f:=43) rfl ?_);refine goesL_ (some 14) rfl rfl Try.func43 (by kernel_rfl) rfl #[.agg #[.int .u64 t780, .int .u32 t781, .slice Ao22 t782.length co22], .slice Ao23 y774.length co23, .slice Ao24 y777.length co24, .bool false] rfl (by (try simp only [List.map_toArray,List.map_cons,List.map_nil]);first|done|rfl|(simp only [List.length_drop,List.length_take];rfl)) ?_;(with_reducible refine (gain_Put.calls k t780 t781 (fun k_=>some k_=(.slice Ao22 t782.length co22 : Value).ownBlock) _ _ t782 _ _ y774 _ _ y777 false t785 t786 t787 t790 _ ?side1 ?side2 ?side3 ?side4 ?side5 A2.out).mono ?_);(case side1=>exact Kd.R_V (Kd.R_tight rfl (Kd.R_apart' (Kd.R_apart' (HO784.out) (Kd.R_typed HO776.out) (by decide)) (Kd.R_typed HO779.out) (by decide))));(case side2=>repeat (first|exact (Kd.R_reads' HO776.out).2.2|(with_reducible refine Kd.C_alloc ?_ _)|(with_reducible refine Kd.C_drewN ?_ _)|(with_reducible refine Kd.C_drew ?_)));(case side3=>exact (Kd.R_reads' HO776.out).2.1);(case side4=>repeat (first|exact (Kd.R_reads' HO779.out).2.2|(with_reducible refine Kd.C_alloc ?_ _)|(with_reducible refine Kd.C_drewN ?_ _)|(with_reducible refine Kd.C_drew ?_)));(case side5=>exact (Kd.R_reads' HO779.out).2.1);rintro e w25 ⟨v788,rfl,ho0,hb⟩;refine ⟨_,rfl, ?_⟩;have n0_:=zm (Kd.R_below (by (with_reducible repeat (first|apply zo|apply zp|apply zq));exact HO776.out) hb);have n1_:=zm (Kd.R_below (by (with_reducible repeat (first|apply zo|apply zp|apply zq));exact HO779.out) hb);have n2_:=zm (Kd.R_below (by (with_reducible repeat (first|apply zo|apply zp|apply zq));exact HO784.out) hb);have n3_:=zm (Kd.V_lower (zy (ok' := fun k_=>some k_≠(.slice Ao23 y774.length co23 : Value).ownBlock∧some k_≠(.slice Ao24 y777.length co24 : Value).ownBlock) ho0 (fun k_ hk_=>⟨Or.elim hk_ (fun hs_=>((Kd.R_apart' (Kd.R_apart' (HO784.out) (Kd.R_typed HO776.out) (by decide)) (Kd.R_typed HO779.out) (by decide)).1 k_ hs_.symm).1.2) (fun hn_=>(Kd.fresh' (Kd.R_lt (by (with_reducible repeat (first|apply zo|apply zp|apply zq));exact HO776.out)) k_ hn_)),Or.elim hk_ (fun hs_=>((Kd.R_apart' (Kd.R_apart' (HO784.out) (Kd.R_typed HO776.out) (by decide)) (Kd.R_typed HO779.out) (by decide)).1 k_ hs_.symm).2) (fun hn_=>(Kd.fresh' (Kd.R_lt (by (with_reducible repeat (first|apply zo|apply zp|apply zq));exact HO779.out)) k_ hn_))⟩)) (zE (by repeat (first|(with_reducible first|exact HB.out|apply ze|apply zd|apply zf)|exact HB.out))));have n4_:=zm (zJ (by repeat (first|(with_reducible first|exact HB.out|apply ze|apply zd|apply zf)|exact HB.out)) hb);clear HO776;clear HO779;clear HO784;clear HB;have HO776:=n0_;have HO779:=n1_;have HO784:=n2_;have HO789:=n3_;have HB:=n4_;clear n0_ n1_ n2_ n3_ n4_;(try clear hb);(try clear hb2);(try clear hk);(try clear hi);(try clear ho0))|((with_reducible refine gate_dst (N:=3) rfl ?_);refine box_event ?hg (N:=3) ?hd (cs := #[.int .u64 0, .int .u32 0, .slice none 0 0]) (t:=26) ?hr ?_;(case hd=>rfl);(case hg=>rfl);(case hr=>first|(go_simp;done)|(go_simp;rfl));intro gb791 hg w26 hbox hb;have n0_:=zm (Kd.R_below (by (with_reducible repeat (first|apply zo|apply zp|apply zq));exact HO776.out) hb);have n1_:=zm (Kd.R_below (by (with_reducible repeat (first|apply zo|apply zp|apply zq));exact HO779.out) hb);have n2_:=zm (Kd.R_below (by (with_reducible repeat (first|apply zo|apply zp|apply zq));exact HO784.out) hb);have n3_:=zm (Kd.V_below (Kd.V_elderB (by (with_reducible repeat (first|apply zA|apply zB|apply zC));exact HO789.out) gb791 (Nat.le_of_eq hg.symm)) hb);have n4_:=zm (zJ (by repeat (first|(with_reducible first|exact HB.out|apply ze|apply zd|apply zf)|exact HB.out)) hb);have n5_:=zm (hbox);have n6_:=zm ((by rw [hg];exact (zE (by repeat (first|(with_reducible first|exact HB.out|apply ze|apply zd|apply zf)|exact HB.out))) : w.heap.size≤gb791));have n7_:=zm ((by rw [hg];exact (zE (by repeat (first|(with_reducible first|exact HB.out|apply ze|apply zd|apply zf)|exact HB.out))) : w.heap.size≤gb791));clear HO776;clear HO779;clear HO784;clear HO789;clear HB;have HO776:=n0_;have HO779:=n1_;have HO784:=n2_;have HO789:=n3_;have HB:=n4_;have BK791:=n5_;have GW791:=n6_;have GE791:=n7_;clear n0_ n1_ n2_ n3_ n4_ n5_ n6_ n7_;clear hb hbox hg;have hcz27_0 : w26.cell? ⟨gb791,0,none⟩=some (.int .u64 0):=(zs BK791.out 0).trans rfl;have hcz27_1 : w26.cell? ⟨gb791,1,none⟩=some (.int .u32 0):=(zs BK791.out 1).trans rfl;have hcz27_2 : w26.cell? ⟨gb791,2,none⟩=some (.slice none 0 0):=(zs BK791.out 2).trans rfl;have hfz27_0:=zx BK791.out 0;have hfz27_1:=zx BK791.out 1;have hfz27_2:=zx BK791.out 2;obtain ⟨Ao28,co28,eo28⟩:=Kd.V_slice HO789.out;subst eo28)|((with_reducible refine gate_callee (f:=24) rfl ?_);refine goesL_ (some 19) rfl rfl Try.func24 (by kernel_rfl) rfl #[.agg #[.int .u64 t785, .int .u32 t786, .slice Ao28 t787.length co28]] rfl (by (try simp only [List.map_toArray,List.map_cons,List.map_nil]);first|done|rfl|(simp only [List.length_drop,List.length_take];rfl)) ?_;(with_reducible refine (coder_Finish.calls t785 t786 _ _ t787 t792 _ ?side1 ?side2 A3.out).mono ?_);(case side1=>refine (Kd.V_reads' (e:=5) (base:=w.heap.size) (ok:=fun k_=>((some k_≠(.slice Ao23 y774.length co23 : Value).ownBlock∧some k_≠(.slice Ao24 y777.length co24 : Value).ownBlock)∧k_≠gb791)) (n:=t787.length) (c:=co28) ?_).2.2;exact (by (with_reducible repeat (first|apply zA|apply zB|apply zC));exact (zy (zI (p:=⟨gb791,2,none⟩) (zI (p:=⟨gb791,1,none⟩) (zI (p:=⟨gb791,0,none⟩) (zy HO789.out (fun k_ hk=>(⟨hk,hk.2⟩ : _∧k_≠gb791))) (fun _ hk=>hk.2) (.int .u64 t785)) (fun _ hk=>hk.2) (.int .u32 t786)) (fun _ hk=>hk.2) (.slice Ao28 t787.length co28)) (fun _ h_=>h_.1))));(case side2=>exact (Kd.V_reads' HO789.out).2.1);rintro e w29 ⟨v793,rfl,ho0,hb⟩;refine ⟨_,rfl, ?_⟩;have n0_:=zm (Kd.R_below (by (with_reducible repeat (first|apply zo|apply zp|apply zq));exact (zG (zH (p:=⟨gb791,2,none⟩) (zH (p:=⟨gb791,1,none⟩) (zH (p:=⟨gb791,0,none⟩) (Kd.R_types HO776.out BK791.out (by decide)) (fun _ hk=>hk.2) (.int .u64 t785)) (fun _ hk=>hk.2) (.int .u32 t786)) (fun _ hk=>hk.2) (.slice Ao28 t787.length co28)) (fun _ h_=>h_.1))) hb);have n1_:=zm (Kd.R_below (by (with_reducible repeat (first|apply zo|apply zp|apply zq));exact (zG (zH (p:=⟨gb791,2,none⟩) (zH (p:=⟨gb791,1,none⟩) (zH (p:=⟨gb791,0,none⟩) (Kd.R_types HO779.out BK791.out (by decide)) (fun _ hk=>hk.2) (.int .u64 t785)) (fun _ hk=>hk.2) (.int .u32 t786)) (fun _ hk=>hk.2) (.slice Ao28 t787.length co28)) (fun _ h_=>h_.1))) hb);have n2_:=zm (Kd.R_elder' (by (with_reducible repeat (first|apply zo|apply zp|apply zq));exact (zG (zH (p:=⟨gb791,2,none⟩) (zH (p:=⟨gb791,1,none⟩) (zH (p:=⟨gb791,0,none⟩) (Kd.R_types HO784.out BK791.out (by decide)) (fun _ hk=>hk.2) (.int .u64 t785)) (fun _ hk=>hk.2) (.int .u32 t786)) (fun _ hk=>hk.2) (.slice Ao28 t787.length co28)) (fun _ h_=>h_.1))) (Kd.R_base ho0) hb);have n3_:=zm (Kd.V_elder' (by (with_reducible repeat (first|apply zA|apply zB|apply zC));exact (zy (zI (p:=⟨gb791,2,none⟩) (zI (p:=⟨gb791,1,none⟩) (zI (p:=⟨gb791,0,none⟩) (zy HO789.out (fun k_ hk=>(⟨hk,hk.2⟩ : _∧k_≠gb791))) (fun _ hk=>hk.2) (.int .u64 t785)) (fun _ hk=>hk.2) (.int .u32 t786)) (fun _ hk=>hk.2) (.slice Ao28 t787.length co28)) (fun _ h_=>h_.1))) (Kd.R_base ho0) hb);have n4_:=zm (Kd.R_lower (Kd.R_new' ho0 (Kd.R_lt (by (with_reducible repeat (first|apply zo|apply zp|apply zq));exact (zG (zH (p:=⟨gb791,2,none⟩) (zH (p:=⟨gb791,1,none⟩) (zH (p:=⟨gb791,0,none⟩) (Kd.R_types HO784.out BK791.out (by decide)) (fun _ hk=>hk.2) (.int .u64 t785)) (fun _ hk=>hk.2) (.int .u32 t786)) (fun _ hk=>hk.2) (.slice Ao28 t787.length co28)) (fun _ h_=>h_.1))))) (zE (by repeat (first|(with_reducible first|exact HB.out|apply ze|apply zd|apply zf|refine zk ?_ GE791.out)|exact HB.out))));have n5_:=zm (zF (g:=gb791) (o:=.cells #[.int .u64 t785, .int .u32 t786, .slice Ao28 t787.length co28] 26 (0,0)) (by (with_reducible repeat (first|refine zh ?_ _|refine zj ?_|refine zi ?_ _));refine zw (cs := #[.int .u64 t785, .int .u32 t786, .slice none 0 0]) ?_ 2 _ rfl;(with_reducible repeat (first|refine zh ?_ _|refine zj ?_|refine zi ?_ _));refine zw (cs := #[.int .u64 t785, .int .u32 0, .slice none 0 0]) ?_ 1 _ rfl;(with_reducible repeat (first|refine zh ?_ _|refine zj ?_|refine zi ?_ _));refine zw (cs := #[.int .u64 0, .int .u32 0, .slice none 0 0]) ?_ 0 _ rfl;(with_reducible repeat (first|refine zh ?_ _|refine zj ?_|refine zi ?_ _));exact BK791.out) hb);have n6_:=zm (zJ (by repeat (first|(with_reducible first|exact HB.out|apply ze|apply zd|apply zf|refine zk ?_ GE791.out)|exact HB.out)) hb);clear HO776;clear HO779;clear HO784;clear HO789;clear BK791;clear HB;have HO776:=n0_;have HO779:=n1_;have HO784:=n2_;have HO789:=n3_;have HO794:=n4_;have BK791:=n5_;have HB:=n6_;clear n0_ n1_ n2_ n3_ n4_ n5_ n6_;(try clear hb);(try clear hb2);(try clear hk);(try clear hi);(try clear ho0);obtain ⟨Ao30,co30,eo30⟩:=Kd.R_slice HO794.out;subst eo30)|((with_reducible refine gate_callee (f:=26) rfl ?_);refine goesL_ (some 20) rfl rfl Try.func26 (by kernel_rfl) rfl #[.slice Ao30 t792.length co30] rfl (by (try simp only [List.map_toArray,List.map_cons,List.map_nil]);first|done|rfl|(simp only [List.length_drop,List.length_take];rfl)) ?_;(with_reducible refine (coder_Open.calls (fun k_=>some k_=(.slice Ao30 t792.length co30 : Value).ownBlock) _ _ t792 t795 t796 t797 t800 _ ?side1 A4.out).mono ?_);(case side1=>exact Kd.R_V (Kd.R_tight rfl (Kd.R_types (Kd.R_apart' (Kd.R_apart' (HO794.out) (Kd.R_typed HO776.out) (by decide)) (Kd.R_typed HO779.out) (by decide)) BK791.out (by decide))));rintro e w31 ⟨v798,rfl,ho0,hb⟩;refine ⟨_,rfl, ?_⟩;have n0_:=zm (Kd.R_below (by (with_reducible repeat (first|apply zo|apply zp|apply zq));exact HO776.out) hb);have n1_:=zm (Kd.R_below (by (with_reducible repeat (first|apply zo|apply zp|apply zq));exact HO779.out) hb);have n2_:=zm (Kd.R_below (by (with_reducible repeat (first|apply zo|apply zp|apply zq));exact HO784.out) hb);have n3_:=zm (Kd.V_below (by (with_reducible repeat (first|apply zA|apply zB|apply zC));exact HO789.out) hb);have n4_:=zm (Kd.R_below (by (with_reducible repeat (first|apply zo|apply zp|apply zq));exact HO794.out) hb);have n5_:=zm (Kd.V_lower (zy (ok' := fun k_=>some k_≠(.slice Ao23 y774.length co23 : Value).ownBlock∧some k_≠(.slice Ao24 y777.length co24 : Value).ownBlock∧some k_≠(.slice Ao22 t782.length co22 : Value).ownBlock∧k_≠gb791) ho0 (fun k_ hk_=>⟨Or.elim hk_ (fun hs_=>((Kd.R_types (Kd.R_apart' (Kd.R_apart' (HO794.out) (Kd.R_typed HO776.out) (by decide)) (Kd.R_typed HO779.out) (by decide)) BK791.out (by decide)).1 k_ hs_.symm).1.1.2) (fun hn_=>(Kd.fresh' (Kd.R_lt (by (with_reducible repeat (first|apply zo|apply zp|apply zq));exact HO776.out)) k_ hn_)),Or.elim hk_ (fun hs_=>((Kd.R_types (Kd.R_apart' (Kd.R_apart' (HO794.out) (Kd.R_typed HO776.out) (by decide)) (Kd.R_typed HO779.out) (by decide)) BK791.out (by decide)).1 k_ hs_.symm).1.2) (fun hn_=>(Kd.fresh' (Kd.R_lt (by (with_reducible repeat (first|apply zo|apply zp|apply zq));exact HO779.out)) k_ hn_)),Or.elim hk_ (fun hs_=>((Kd.R_types (Kd.R_apart' (Kd.R_apart' (HO794.out) (Kd.R_typed HO776.out) (by decide)) (Kd.R_typed HO779.out) (by decide)) BK791.out (by decide)).1 k_ hs_.symm).1.1.1.2) (fun hn_=>(Kd.fresh' (Kd.R_lt (by (with_reducible repeat (first|apply zo|apply zp|apply zq));exact HO784.out)) k_ hn_)),Or.elim hk_ (fun hs_=>((Kd.R_types (Kd.R_apart' (Kd.R_apart' (HO794.out) (Kd.R_typed HO776.out) (by decide)) (Kd.R_typed HO779.out) (by decide)) BK791.out (by decide)).1 k_ hs_.symm).2) (fun hn_=>(Kd.freshB (g:=gb791) (o:=.cells #[.int .u64 t785, .int .u32 t786, .slice Ao28 t787.length co28] 26 (0,0)) (by (with_reducible repeat (first|refine zh ?_ _|refine zj ?_|refine zi ?_ _));exact BK791.out) k_ hn_))⟩)) (zE (by repeat (first|(with_reducible first|exact HB.out|apply ze|apply zd|apply zf|refine zk ?_ GE791.out)|exact HB.out))));have n6_:=zm (zF (g:=gb791) (o:=.cells #[.int .u64 t785, .int .u32 t786, .slice Ao28 t787.length co28] 26 (0,0)) (by (with_reducible repeat (first|refine zh ?_ _|refine zj ?_|refine zi ?_ _));exact BK791.out) hb);have n7_:=zm (zJ (by repeat (first|(with_reducible first|exact HB.out|apply ze|apply zd|apply zf|refine zk ?_ GE791.out)|exact HB.out)) hb);clear HO776;clear HO779;clear HO784;clear HO789;clear HO794;clear BK791;clear HB;have HO776:=n0_;have HO779:=n1_;have HO784:=n2_;have HO789:=n3_;have HO794:=n4_;have HO799:=n5_;have BK791:=n6_;have HB:=n7_;clear n0_ n1_ n2_ n3_ n4_ n5_ n6_ n7_;(try clear hb);(try clear hb2);(try clear hk);(try clear hi);(try clear ho0);obtain ⟨Ao32,co32,eo32⟩:=Kd.V_slice HO799.out;subst eo32)|((with_reducible refine gate_callee (f:=47) rfl ?_);refine goesL_ (some 22) rfl rfl Try.func47 (by kernel_rfl) rfl #[.agg #[.int .u64 t795, .int .u32 t796, .slice Ao32 t797.length co32, .int .i64 t800], .slice Ao24 y777.length co24, .bool false] rfl (by (try simp only [List.map_toArray,List.map_cons,List.map_nil]);first|done|rfl|(simp only [List.length_drop,List.length_take];rfl)) ?_;(with_reducible refine (gain_Take.calls k t795 t796 (fun k_=>(some k_≠(.slice Ao23 y774.length co23 : Value).ownBlock∧(some k_≠(.slice Ao24 y777.length co24 : Value).ownBlock∧(some k_≠(.slice Ao22 t782.length co22 : Value).ownBlock∧k_≠gb791)))) _ _ t797 t800 _ _ y777 false t801 t802 t803 t806 t807 t810 _ ?side1 ?side2 ?side3 A5.out).mono ?_);(case side1=>exact HO799.out);(case side2=>repeat (first|exact (Kd.R_reads' HO779.out).2.2|(with_reducible refine Kd.C_alloc ?_ _)|(with_reducible refine Kd.C_drewN ?_ _)|(with_reducible refine Kd.C_drew ?_)));(case side3=>exact (Kd.R_reads' HO779.out).2.1);rintro e w33 ⟨v804,v808,rfl,ho0,ho1,hb⟩;refine ⟨_,rfl, ?_⟩;have n0_:=zm (Kd.R_elder' (by (with_reducible repeat (first|apply zo|apply zp|apply zq));exact HO776.out) (Kd.R_base ho1) hb);have n1_:=zm (Kd.R_elder' (by (with_reducible repeat (first|apply zo|apply zp|apply zq));exact HO779.out) (Kd.R_base ho1) hb);have n2_:=zm (Kd.R_below (by (with_reducible repeat (first|apply zo|apply zp|apply zq));exact HO784.out) hb);have n3_:=zm (Kd.V_elder' (by (with_reducible repeat (first|apply zA|apply zB|apply zC));exact HO789.out) (Kd.R_base ho1) hb);have n4_:=zm (Kd.R_below (by (with_reducible repeat (first|apply zo|apply zp|apply zq));exact HO794.out) hb);have n5_:=zm (Kd.V_elder' (by (with_reducible repeat (first|apply zA|apply zB|apply zC));exact HO799.out) (Kd.R_base ho1) hb);have n6_:=zm (Kd.V_lower (zy (ok' := fun k_=>some k_≠(v808 : Value).ownBlock∧some k_≠(.slice Ao23 y774.length co23 : Value).ownBlock∧some k_≠(.slice Ao24 y777.length co24 : Value).ownBlock∧some k_≠(.slice Ao22 t782.length co22 : Value).ownBlock∧k_≠gb791) ho0 (fun k_ hk_=>⟨hk_.2,Or.elim hk_.1 (fun hs_=>hs_.1) (fun hn_=>(Kd.fresh' (Kd.R_lt (by (with_reducible repeat (first|apply zo|apply zp|apply zq));exact HO776.out)) k_ hn_)),Or.elim hk_.1 (fun hs_=>hs_.2.1) (fun hn_=>(Kd.fresh' (Kd.R_lt (by (with_reducible repeat (first|apply zo|apply zp|apply zq));exact HO779.out)) k_ hn_)),Or.elim hk_.1 (fun hs_=>hs_.2.2.1) (fun hn_=>(Kd.fresh' (Kd.R_lt (by (with_reducible repeat (first|apply zo|apply zp|apply zq));exact HO784.out)) k_ hn_)),Or.elim hk_.1 (fun hs_=>hs_.2.2.2) (fun hn_=>(Kd.freshB (g:=gb791) (o:=.cells #[.int .u64 t785, .int .u32 t786, .slice Ao28 t787.length co28] 26 (0,0)) (by (with_reducible repeat (first|refine zh ?_ _|refine zj ?_|refine zi ?_ _));exact BK791.out) k_ hn_))⟩)) (zE (by repeat (first|(with_reducible first|exact HB.out|apply ze|apply zd|apply zf|refine zk ?_ GE791.out)|exact HB.out))));have n7_:=zm (Kd.R_lower (Kd.R_new' (Kd.R_new' (zG (ok' := fun k_=>True) ho1 (fun _ hk_=>trivial)) (Kd.R_lt (by (with_reducible repeat (first|apply zo|apply zp|apply zq));exact HO776.out))) (Kd.R_lt (by (with_reducible repeat (first|apply zo|apply zp|apply zq));exact HO779.out))) (zE (by repeat (first|(with_reducible first|exact HB.out|apply ze|apply zd|apply zf|refine zk ?_ GE791.out)|exact HB.out))));have n8_:=zm (zF (g:=gb791) (o:=.cells #[.int .u64 t785, .int .u32 t786, .slice Ao28 t787.length co28] 26 (0,0)) (by (with_reducible repeat (first|refine zh ?_ _|refine zj ?_|refine zi ?_ _));exact BK791.out) hb);have n9_:=zm (zJ (by repeat (first|(with_reducible first|exact HB.out|apply ze|apply zd|apply zf|refine zk ?_ GE791.out)|exact HB.out)) hb);clear HO776;clear HO779;clear HO784;clear HO789;clear HO794;clear HO799;clear BK791;clear HB;have HO776:=n0_;have HO779:=n1_;have HO784:=n2_;have HO789:=n3_;have HO794:=n4_;have HO799:=n5_;have HO805:=n6_;have HO809:=n7_;have BK791:=n8_;have HB:=n9_;clear n0_ n1_ n2_ n3_ n4_ n5_ n6_ n7_ n8_ n9_;(try clear hb);(try clear hb2);(try clear hk);(try clear hi);(try clear ho0);(try clear ho1))|((with_reducible refine gate_dst (N:=5) rfl ?_);refine box_event ?hg (N:=5) ?hd (cs := #[.int .u64 0, .int .u32 0, .slice none 0 0, .int .i64 0]) (t:=43) ?hr ?_;(case hd=>rfl);(case hg=>rfl);(case hr=>first|(go_simp;done)|(go_simp;rfl));intro gb811 hg w34 hbox hb;have n0_:=zm (Kd.R_below (by (with_reducible repeat (first|apply zo|apply zp|apply zq));exact HO776.out) hb);have n1_:=zm (Kd.R_below (by (with_reducible repeat (first|apply zo|apply zp|apply zq));exact HO779.out) hb);have n2_:=zm (Kd.R_below (by (with_reducible repeat (first|apply zo|apply zp|apply zq));exact HO784.out) hb);have n3_:=zm (Kd.V_below (Kd.V_elderB (by (with_reducible repeat (first|apply zA|apply zB|apply zC));exact HO789.out) gb811 (Nat.le_of_eq hg.symm)) hb);have n4_:=zm (Kd.R_below (by (with_reducible repeat (first|apply zo|apply zp|apply zq));exact HO794.out) hb);have n5_:=zm (Kd.V_below (Kd.V_elderB (by (with_reducible repeat (first|apply zA|apply zB|apply zC));exact HO799.out) gb811 (Nat.le_of_eq hg.symm)) hb);have n6_:=zm (Kd.V_below (Kd.V_elderB (by (with_reducible repeat (first|apply zA|apply zB|apply zC));exact HO805.out) gb811 (Nat.le_of_eq hg.symm)) hb);have n7_:=zm (Kd.R_below (by (with_reducible repeat (first|apply zo|apply zp|apply zq));exact HO809.out) hb);have n8_:=zm (zF (g:=gb791) (o:=.cells #[.int .u64 t785, .int .u32 t786, .slice Ao28 t787.length co28] 26 (0,0)) (by (with_reducible repeat (first|refine zh ?_ _|refine zj ?_|refine zi ?_ _));exact BK791.out) hb);have n9_:=zm (zJ (by repeat (first|(with_reducible first|exact HB.out|apply ze|apply zd|apply zf|refine zk ?_ GE791.out)|exact HB.out)) hb);have n10_:=zm (hbox);have n11_:=zm ((by rw [hg];exact (zE (by repeat (first|(with_reducible first|exact HB.out|apply ze|apply zd|apply zf|refine zk ?_ GE791.out)|exact HB.out))) : w.heap.size≤gb811));have n12_:=zm ((by rw [hg];exact (zE (by repeat (first|(with_reducible first|exact HB.out|apply ze|apply zd|apply zf|refine zk ?_ GE791.out)|exact HB.out))) : w.heap.size≤gb811));have n13_:=zm ((by rw [hg];exact zn (zD (g:=gb791) (o:=.cells #[.int .u64 t785, .int .u32 t786, .slice Ao28 t787.length co28] 26 (0,0)) (by (with_reducible repeat (first|refine zh ?_ _|refine zj ?_|refine zi ?_ _));exact BK791.out)) : gb791≠gb811));have n14_:=zm ((by rw [hg];exact zg (zD (g:=gb791) (o:=.cells #[.int .u64 t785, .int .u32 t786, .slice Ao28 t787.length co28] 26 (0,0)) (by (with_reducible repeat (first|refine zh ?_ _|refine zj ?_|refine zi ?_ _));exact BK791.out)) : gb811≠gb791));clear HO776;clear HO779;clear HO784;clear HO789;clear HO794;clear HO799;clear HO805;clear HO809;clear BK791;clear HB;have HO776:=n0_;have HO779:=n1_;have HO784:=n2_;have HO789:=n3_;have HO794:=n4_;have HO799:=n5_;have HO805:=n6_;have HO809:=n7_;have BK791:=n8_;have HB:=n9_;have BK811:=n10_;have GW811:=n11_;have GE811:=n12_;have NB791_811:=n13_;have NB811_791:=n14_;clear n0_ n1_ n2_ n3_ n4_ n5_ n6_ n7_ n8_ n9_ n10_ n11_ n12_ n13_ n14_;clear hb hbox hg;have hnb35:=NB811_791.out;have hnc35:=NB791_811.out;have hcz36_0 : w34.cell? ⟨gb811,0,none⟩=some (.int .u64 0):=(zs BK811.out 0).trans rfl;have hcz36_1 : w34.cell? ⟨gb811,1,none⟩=some (.int .u32 0):=(zs BK811.out 1).trans rfl;have hcz36_2 : w34.cell? ⟨gb811,2,none⟩=some (.slice none 0 0):=(zs BK811.out 2).trans rfl;have hcz36_3 : w34.cell? ⟨gb811,3,none⟩=some (.int .i64 0):=(zs BK811.out 3).trans rfl;have hfz36_0:=zx BK811.out 0;have hfz36_1:=zx BK811.out 1;have hfz36_2:=zx BK811.out 2;have hfz36_3:=zx BK811.out 3;obtain ⟨Ao37,co37,eo37⟩:=Kd.V_slice HO805.out;subst eo37;obtain ⟨Ao38,co38,eo38⟩:=Kd.R_slice HO809.out;subst eo38)|(go_at_call 49;(with_reducible refine (psalteryref06_Same.calls k _ _ t807 _ _ y774 true _ ?side1 ?side2 ?side3 ?side4 A7.out).mono ?_);(case side1=>refine (Kd.R_reads' (e:=3) (base:=w.heap.size) (ok:=fun k_=>((True∧some k_≠(.slice Ao23 y774.length co23 : Value).ownBlock)∧some k_≠(.slice Ao24 y777.length co24 : Value).ownBlock)) (n:=t807.length) (c:=co38) ?_).2.2;exact (by (with_reducible repeat (first|apply zo|apply zp|apply zq));exact (zG (zH (p:=⟨gb811,3,none⟩) (zH (p:=⟨gb811,2,none⟩) (zH (p:=⟨gb811,1,none⟩) (zH (p:=⟨gb811,0,none⟩) (Kd.R_types HO809.out BK811.out (by decide)) (fun _ hk=>hk.2) (.int .u64 t801)) (fun _ hk=>hk.2) (.int .u32 t802)) (fun _ hk=>hk.2) (.slice Ao37 t803.length co37)) (fun _ hk=>hk.2) (.int .i64 t806)) (fun _ h_=>h_.1))));(case side2=>exact (Kd.R_reads' HO809.out).2.1);(case side3=>refine (Kd.R_reads' (e:=3) (base:=w.heap.size) (ok:=fun k_=>((True∧some k_≠(.slice Ao24 y777.length co24 : Value).ownBlock)∧some k_≠(.slice Ao38 t807.length co38 : Value).ownBlock)) (n:=y774.length) (c:=co23) ?_).2.2;exact (by (with_reducible repeat (first|apply zo|apply zp|apply zq));exact (zG (zH (p:=⟨gb811,3,none⟩) (zH (p:=⟨gb811,2,none⟩) (zH (p:=⟨gb811,1,none⟩) (zH (p:=⟨gb811,0,none⟩) (Kd.R_types HO776.out BK811.out (by decide)) (fun _ hk=>hk.2) (.int .u64 t801)) (fun _ hk=>hk.2) (.int .u32 t802)) (fun _ hk=>hk.2) (.slice Ao37 t803.length co37)) (fun _ hk=>hk.2) (.int .i64 t806)) (fun _ h_=>h_.1))));(case side4=>exact (Kd.R_reads' HO776.out).2.1);rintro e w' ⟨rfl,⟨nd,rfl⟩⟩)|(go_at_call 28;(with_reducible refine (coder_RightDec.calls t801 t802 _ _ t803 t806 true _ ?side1 ?side2 A10.out).mono ?_);(case side1=>refine (Kd.V_reads' (e:=5) (base:=w.heap.size) (ok:=fun k_=>((some k_≠(.slice Ao38 t807.length co38 : Value).ownBlock∧(some k_≠(.slice Ao23 y774.length co23 : Value).ownBlock∧(some k_≠(.slice Ao24 y777.length co24 : Value).ownBlock∧(some k_≠(.slice Ao22 t782.length co22 : Value).ownBlock∧k_≠gb791))))∧k_≠gb811)) (n:=t803.length) (c:=co37) ?_).2.2;exact (by (with_reducible repeat (first|apply zA|apply zB|apply zC));exact (zy (zI (p:=⟨gb811,3,none⟩) (zI (p:=⟨gb811,2,none⟩) (zI (p:=⟨gb811,1,none⟩) (zI (p:=⟨gb811,0,none⟩) (zy HO805.out (fun k_ hk=>(⟨hk,hk.2⟩ : _∧k_≠gb811))) (fun _ hk=>hk.2) (.int .u64 t801)) (fun _ hk=>hk.2) (.int .u32 t802)) (fun _ hk=>hk.2) (.slice Ao37 t803.length co37)) (fun _ hk=>hk.2) (.int .i64 t806)) (fun _ h_=>h_.1))));(case side2=>exact (Kd.V_reads' HO805.out).2.1);rintro e w39 ⟨rfl,hb⟩;have n0_:=zm (Kd.R_below (by (with_reducible repeat (first|apply zo|apply zp|apply zq));exact (zG (zH (p:=⟨gb811,3,none⟩) (zH (p:=⟨gb811,2,none⟩) (zH (p:=⟨gb811,1,none⟩) (zH (p:=⟨gb811,0,none⟩) (Kd.R_types HO776.out BK811.out (by decide)) (fun _ hk=>hk.2) (.int .u64 t801)) (fun _ hk=>hk.2) (.int .u32 t802)) (fun _ hk=>hk.2) (.slice Ao37 t803.length co37)) (fun _ hk=>hk.2) (.int .i64 t806)) (fun _ h_=>h_.1))) hb);have n1_:=zm (Kd.R_below (by (with_reducible repeat (first|apply zo|apply zp|apply zq));exact (zG (zH (p:=⟨gb811,3,none⟩) (zH (p:=⟨gb811,2,none⟩) (zH (p:=⟨gb811,1,none⟩) (zH (p:=⟨gb811,0,none⟩) (Kd.R_types HO779.out BK811.out (by decide)) (fun _ hk=>hk.2) (.int .u64 t801)) (fun _ hk=>hk.2) (.int .u32 t802)) (fun _ hk=>hk.2) (.slice Ao37 t803.length co37)) (fun _ hk=>hk.2) (.int .i64 t806)) (fun _ h_=>h_.1))) hb);have n2_:=zm (Kd.R_below (by (with_reducible repeat (first|apply zo|apply zp|apply zq));exact (zG (zH (p:=⟨gb811,3,none⟩) (zH (p:=⟨gb811,2,none⟩) (zH (p:=⟨gb811,1,none⟩) (zH (p:=⟨gb811,0,none⟩) (Kd.R_types HO784.out BK811.out (by decide)) (fun _ hk=>hk.2) (.int .u64 t801)) (fun _ hk=>hk.2) (.int .u32 t802)) (fun _ hk=>hk.2) (.slice Ao37 t803.length co37)) (fun _ hk=>hk.2) (.int .i64 t806)) (fun _ h_=>h_.1))) hb);have n3_:=zm (Kd.V_below (by (with_reducible repeat (first|apply zA|apply zB|apply zC));exact (zy (zI (p:=⟨gb811,3,none⟩) (zI (p:=⟨gb811,2,none⟩) (zI (p:=⟨gb811,1,none⟩) (zI (p:=⟨gb811,0,none⟩) (zy HO789.out (fun k_ hk=>(⟨hk,hk.2⟩ : _∧k_≠gb811))) (fun _ hk=>hk.2) (.int .u64 t801)) (fun _ hk=>hk.2) (.int .u32 t802)) (fun _ hk=>hk.2) (.slice Ao37 t803.length co37)) (fun _ hk=>hk.2) (.int .i64 t806)) (fun _ h_=>h_.1))) hb);have n4_:=zm (Kd.R_below (by (with_reducible repeat (first|apply zo|apply zp|apply zq));exact (zG (zH (p:=⟨gb811,3,none⟩) (zH (p:=⟨gb811,2,none⟩) (zH (p:=⟨gb811,1,none⟩) (zH (p:=⟨gb811,0,none⟩) (Kd.R_types HO794.out BK811.out (by decide)) (fun _ hk=>hk.2) (.int .u64 t801)) (fun _ hk=>hk.2) (.int .u32 t802)) (fun _ hk=>hk.2) (.slice Ao37 t803.length co37)) (fun _ hk=>hk.2) (.int .i64 t806)) (fun _ h_=>h_.1))) hb);have n5_:=zm (Kd.V_below (by (with_reducible repeat (first|apply zA|apply zB|apply zC));exact (zy (zI (p:=⟨gb811,3,none⟩) (zI (p:=⟨gb811,2,none⟩) (zI (p:=⟨gb811,1,none⟩) (zI (p:=⟨gb811,0,none⟩) (zy HO799.out (fun k_ hk=>(⟨hk,hk.2⟩ : _∧k_≠gb811))) (fun _ hk=>hk.2) (.int .u64 t801)) (fun _ hk=>hk.2) (.int .u32 t802)) (fun _ hk=>hk.2) (.slice Ao37 t803.length co37)) (fun _ hk=>hk.2) (.int .i64 t806)) (fun _ h_=>h_.1))) hb);have n6_:=zm (Kd.V_below (by (with_reducible repeat (first|apply zA|apply zB|apply zC));exact (zy (zI (p:=⟨gb811,3,none⟩) (zI (p:=⟨gb811,2,none⟩) (zI (p:=⟨gb811,1,none⟩) (zI (p:=⟨gb811,0,none⟩) (zy HO805.out (fun k_ hk=>(⟨hk,hk.2⟩ : _∧k_≠gb811))) (fun _ hk=>hk.2) (.int .u64 t801)) (fun _ hk=>hk.2) (.int .u32 t802)) (fun _ hk=>hk.2) (.slice Ao37 t803.length co37)) (fun _ hk=>hk.2) (.int .i64 t806)) (fun _ h_=>h_.1))) hb);have n7_:=zm (Kd.R_below (by (with_reducible repeat (first|apply zo|apply zp|apply zq));exact (zG (zH (p:=⟨gb811,3,none⟩) (zH (p:=⟨gb811,2,none⟩) (zH (p:=⟨gb811,1,none⟩) (zH (p:=⟨gb811,0,none⟩) (Kd.R_types HO809.out BK811.out (by decide)) (fun _ hk=>hk.2) (.int .u64 t801)) (fun _ hk=>hk.2) (.int .u32 t802)) (fun _ hk=>hk.2) (.slice Ao37 t803.length co37)) (fun _ hk=>hk.2) (.int .i64 t806)) (fun _ h_=>h_.1))) hb);have n8_:=zm (zF (g:=gb791) (o:=.cells #[.int .u64 t785, .int .u32 t786, .slice Ao28 t787.length co28] 26 (0,0)) (by (with_reducible repeat (first|refine zh ?_ _|refine zj ?_|refine zi ?_ _|refine zv ?_ NB791_811.out _));exact BK791.out) hb);have n9_:=zm (zF (g:=gb811) (o:=.cells #[.int .u64 t801, .int .u32 t802, .slice Ao37 t803.length co37, .int .i64 t806] 43 (0,0)) (by (with_reducible repeat (first|refine zh ?_ _|refine zj ?_|refine zi ?_ _));refine zw (cs := #[.int .u64 t801, .int .u32 t802, .slice Ao37 t803.length co37, .int .i64 0]) ?_ 3 _ rfl;(with_reducible repeat (first|refine zh ?_ _|refine zj ?_|refine zi ?_ _));refine zw (cs := #[.int .u64 t801, .int .u32 t802, .slice none 0 0, .int .i64 0]) ?_ 2 _ rfl;(with_reducible repeat (first|refine zh ?_ _|refine zj ?_|refine zi ?_ _));refine zw (cs := #[.int .u64 t801, .int .u32 0, .slice none 0 0, .int .i64 0]) ?_ 1 _ rfl;(with_reducible repeat (first|refine zh ?_ _|refine zj ?_|refine zi ?_ _));refine zw (cs := #[.int .u64 0, .int .u32 0, .slice none 0 0, .int .i64 0]) ?_ 0 _ rfl;(with_reducible repeat (first|refine zh ?_ _|refine zj ?_|refine zi ?_ _));exact BK811.out) hb);have n10_:=zm (zJ (by repeat (first|(with_reducible first|exact HB.out|apply ze|apply zd|apply zf|refine zk ?_ GE791.out|refine zk ?_ GE811.out)|exact HB.out)) hb);clear HO776;clear HO779;clear HO784;clear HO789;clear HO794;clear HO799;clear HO805;clear HO809;clear BK791;clear BK811;clear HB;have HO776:=n0_;have HO779:=n1_;have HO784:=n2_;have HO789:=n3_;have HO794:=n4_;have HO799:=n5_;have HO805:=n6_;have HO809:=n7_;have BK791:=n8_;have BK811:=n9_;have HB:=n10_;clear n0_ n1_ n2_ n3_ n4_ n5_ n6_ n7_ n8_ n9_ n10_;(try clear hb);(try clear hb2);(try clear hk);(try clear hi))|(go_at_call 50;(with_reducible refine (gain_Most.calls true t814 _ A12.out).mono ?_);rintro e w' ⟨rfl,⟨nd,rfl⟩⟩)|(go_at_call 50;(with_reducible refine (gain_Most.calls false t815 _ A14.out).mono ?_);rintro e w' ⟨rfl,⟨nd,rfl⟩⟩)|(go_at_call 45;(with_reducible refine (gain_Right.calls k _ _ y774 t816 _ ?side1 ?side2 A16.out).mono ?_);(case side1=>repeat (first|exact (Kd.R_reads' HO776.out).2.2|(with_reducible refine Kd.C_alloc ?_ _)|(with_reducible refine Kd.C_drewN ?_ _)|(with_reducible refine Kd.C_drew ?_)));(case side2=>exact (Kd.R_reads' HO776.out).2.1);rintro e w' ⟨rfl,⟨nd,rfl⟩⟩))
       go_ret
       exact ⟨by first|rfl|(simp [errW_none,errW_some] <;> rfl)|(simp [*,errW_none,errW_some] <;> rfl),by repeat (first|(with_reducible first|exact HB.out|apply ze|apply zd|apply zf|refine zk ?_ GE791.out|refine zk ?_ GE811.out)|exact HB.out)⟩
      ·
       rw [if_neg c15] at H
       exact absurd H (by simp)
     ·
      rw [if_neg c13] at H
      exact absurd H (by simp)
    ·
     replace c11:=Bool.eq_false_iff.mpr c11
     subst c11
     have H1 : (none)=some r:=by rw [if_neg (show ¬ (false=true) by decide)] at H;exact H
     clear H;have H:=H1;clear H1
     exact absurd H (by simp)
   ·
    rw [if_neg c9] at H
    exact absurd H (by simp)
  ·
   replace c8:=Bool.eq_false_iff.mpr c8
   subst c8
   have H1 : (none)=some r:=by rw [if_neg (show ¬ (false=true) by decide)] at H;exact H
   clear H;have H:=H1;clear H1
   exact absurd H (by simp)
 ·
  rw [if_neg c6] at H
  exact absurd H (by simp)

end Go.Proofs.Ytkaoiblgfpphoaa.Prt
