-- Functions of the program and of the document as plain Lean, each with the proof that the code comes to it. Written by a program of this session (wip/tools/myprint.py, pack.py) over the kit's printer; Lean checks it.
import Derived.Test.YtbaaedpjaanjnaaZAllocSpendsPrt0
import Derived.Test.YtbaaedpjaanjnaaZAllocSpendsM1
namespace Go.Proofs.Ytbaaedpjaanjnaa.Prt
open Go.RowKit Go.Proofs.YtbaaedpjaanjnaaW.PrintWords Go.Proofs.YtbaaedpjaanjnaaW.PrintLast Go.Proofs.YtbaaedpjaanjnaaW.PrintMore
attribute [local go_sem] max2_int min2_int max_two min_two max_three min_three max_four min_four   -- for this text's walks alone
set_option linter.unusedVariables false
set_option linter.unusedSimpArgs false

/-! ### psalterylaw12_knows: function 13 -/
def psalterylaw12_knows.f (k : Nat)  : Option (Bool):=(alloc_Pulses.f k 11 1 (([(([9,0,0,0,0] : List Int))] : List (List Int)))).bind fun bt164=>((alloc_Pulses.f k 11 1 (([(([0,0,9,0,0] : List Int))] : List (List Int)))).bind fun bt174=>((alloc_Room.f 11 1).bind fun t178=>(if t178=2 then ((psalteryref12_Same.f k bt164.1 (([(([1,0,0,0,0] : List Int))] : List (List Int)))).bind fun t185=>(if t185=true then (if bt164.2=0 then ((psalteryref12_Same.f k bt174.1 (([(([0,0,1,0,0] : List Int))] : List (List Int)))).bind fun t192=>(if t192=true then (if bt174.2=0 then ((alloc_Right.f 17 2).bind fun t193=>(if t193=true then ((alloc_Right.f 16 2).bind fun t194=>(some (!t194))) else (none))) else (none)) else (none))) else (none)) else (none))) else (none))))
theorem psalterylaw12_knows.mono : ∀ k,LeO (psalterylaw12_knows.f k ) (psalterylaw12_knows.f (k+1) ):=by
 intro  k
 unfold psalterylaw12_knows.f
 repeat' first
   | (with_reducible exact alloc_Pulses.mono _ _ _ _)
   | (with_reducible exact psalteryref12_Same.mono _ _ _)
   | (with_reducible exact LeO.refl _)
   | (with_reducible exact LeO.none _)
   | (with_reducible refine LeO.ite ?_ ?_)
   | (with_reducible refine LeO.bind ?_ (fun _ => ?_))
   | exact alloc_Pulses.mono _ _ _ _
   | exact psalteryref12_Same.mono _ _ _
   | exact LeO.none _
   | refine LeO.ite ?_ ?_
   | refine LeO.bind ?_ (fun _ => ?_)
set_option maxHeartbeats 8000000 in
set_option maxRecDepth 100000 in
theorem psalterylaw12_knows.calls (k : Nat)  (r : Bool) (w : World) (h : psalterylaw12_knows.f k  = some r) :
  Calls Try.prog 13 #[] w fun e w' => e=.returned (.bool r)∧Below w.heap.size w w' := by
 have HB:=zm (Below.refl w.heap.size w)
 have H : ((alloc_Pulses.f k 11 1 (([(([9,0,0,0,0] : List Int))] : List (List Int)))).bind fun bt164=>((alloc_Pulses.f k 11 1 (([(([0,0,9,0,0] : List Int))] : List (List Int)))).bind fun bt174=>((alloc_Room.f 11 1).bind fun t178=>(if t178=2 then ((psalteryref12_Same.f k bt164.1 (([(([1,0,0,0,0] : List Int))] : List (List Int)))).bind fun t185=>(if t185=true then (if bt164.2=0 then ((psalteryref12_Same.f k bt174.1 (([(([0,0,1,0,0] : List Int))] : List (List Int)))).bind fun t192=>(if t192=true then (if bt174.2=0 then ((alloc_Right.f 17 2).bind fun t193=>(if t193=true then ((alloc_Right.f 16 2).bind fun t194=>(some (!t194))) else (none))) else (none)) else (none))) else (none)) else (none))) else (none)))))=some r:=h
 clear h
 obtain ⟨y158,hy158⟩ : ∃ y_ : List Int,y_=(([9,0,0,0,0] : List Int)):=⟨_,rfl⟩
 replace H : ((alloc_Pulses.f k 11 1 (([y158] : List (List Int)))).bind fun bt164=>((alloc_Pulses.f k 11 1 (([(([0,0,9,0,0] : List Int))] : List (List Int)))).bind fun bt174=>((alloc_Room.f 11 1).bind fun t178=>(if t178=2 then ((psalteryref12_Same.f k bt164.1 (([(([1,0,0,0,0] : List Int))] : List (List Int)))).bind fun t185=>(if t185=true then (if bt164.2=0 then ((psalteryref12_Same.f k bt174.1 (([(([0,0,1,0,0] : List Int))] : List (List Int)))).bind fun t192=>(if t192=true then (if bt174.2=0 then ((alloc_Right.f 17 2).bind fun t193=>(if t193=true then ((alloc_Right.f 16 2).bind fun t194=>(some (!t194))) else (none))) else (none)) else (none))) else (none)) else (none))) else (none)))))=some r:=by first|(rw [hy158];with_reducible exact H)|(have H2_:=(Option.bind_some _ _).symm.trans H;rw [hy158];with_reducible exact H2_)|(have H2_:=(Option.bind_some _ _).symm.trans H;with_reducible exact H2_)|with_reducible exact H|(rw [hy158];exact H)|exact H
 have Ny158:=zm hy158;clear hy158
 obtain ⟨y161,hy161⟩ : ∃ y_ : List (List Int),y_=(([y158] : List (List Int))):=⟨_,rfl⟩
 replace H : ((alloc_Pulses.f k 11 1 y161).bind fun bt164=>((alloc_Pulses.f k 11 1 (([(([0,0,9,0,0] : List Int))] : List (List Int)))).bind fun bt174=>((alloc_Room.f 11 1).bind fun t178=>(if t178=2 then ((psalteryref12_Same.f k bt164.1 (([(([1,0,0,0,0] : List Int))] : List (List Int)))).bind fun t185=>(if t185=true then (if bt164.2=0 then ((psalteryref12_Same.f k bt174.1 (([(([0,0,1,0,0] : List Int))] : List (List Int)))).bind fun t192=>(if t192=true then (if bt174.2=0 then ((alloc_Right.f 17 2).bind fun t193=>(if t193=true then ((alloc_Right.f 16 2).bind fun t194=>(some (!t194))) else (none))) else (none)) else (none))) else (none)) else (none))) else (none)))))=some r:=by first|(rw [hy161];with_reducible exact H)|(have H2_:=(Option.bind_some _ _).symm.trans H;rw [hy161];with_reducible exact H2_)|(have H2_:=(Option.bind_some _ _).symm.trans H;with_reducible exact H2_)|with_reducible exact H|(rw [hy161];exact H)|exact H
 have Ny161:=zm hy161;clear hy161
 replace H:=Option.bind_eq_some_iff.mp H
 obtain ⟨⟨t164,t165⟩,A10,H⟩:=H
 replace H : ((alloc_Pulses.f k 11 1 (([(([0,0,9,0,0] : List Int))] : List (List Int)))).bind fun bt174=>((alloc_Room.f 11 1).bind fun t178=>(if t178=2 then ((psalteryref12_Same.f k t164 (([(([1,0,0,0,0] : List Int))] : List (List Int)))).bind fun t185=>(if t185=true then (if t165=0 then ((psalteryref12_Same.f k bt174.1 (([(([0,0,1,0,0] : List Int))] : List (List Int)))).bind fun t192=>(if t192=true then (if bt174.2=0 then ((alloc_Right.f 17 2).bind fun t193=>(if t193=true then ((alloc_Right.f 16 2).bind fun t194=>(some (!t194))) else (none))) else (none)) else (none))) else (none)) else (none))) else (none))))=some r:=H
 have A1:=zm A10;clear A10
 obtain ⟨y168,hy168⟩ : ∃ y_ : List Int,y_=(([0,0,9,0,0] : List Int)):=⟨_,rfl⟩
 replace H : ((alloc_Pulses.f k 11 1 (([y168] : List (List Int)))).bind fun bt174=>((alloc_Room.f 11 1).bind fun t178=>(if t178=2 then ((psalteryref12_Same.f k t164 (([(([1,0,0,0,0] : List Int))] : List (List Int)))).bind fun t185=>(if t185=true then (if t165=0 then ((psalteryref12_Same.f k bt174.1 (([(([0,0,1,0,0] : List Int))] : List (List Int)))).bind fun t192=>(if t192=true then (if bt174.2=0 then ((alloc_Right.f 17 2).bind fun t193=>(if t193=true then ((alloc_Right.f 16 2).bind fun t194=>(some (!t194))) else (none))) else (none)) else (none))) else (none)) else (none))) else (none))))=some r:=by first|(rw [hy168];with_reducible exact H)|(have H2_:=(Option.bind_some _ _).symm.trans H;rw [hy168];with_reducible exact H2_)|(have H2_:=(Option.bind_some _ _).symm.trans H;with_reducible exact H2_)|with_reducible exact H|(rw [hy168];exact H)|exact H
 have Ny168:=zm hy168;clear hy168
 obtain ⟨y171,hy171⟩ : ∃ y_ : List (List Int),y_=(([y168] : List (List Int))):=⟨_,rfl⟩
 replace H : ((alloc_Pulses.f k 11 1 y171).bind fun bt174=>((alloc_Room.f 11 1).bind fun t178=>(if t178=2 then ((psalteryref12_Same.f k t164 (([(([1,0,0,0,0] : List Int))] : List (List Int)))).bind fun t185=>(if t185=true then (if t165=0 then ((psalteryref12_Same.f k bt174.1 (([(([0,0,1,0,0] : List Int))] : List (List Int)))).bind fun t192=>(if t192=true then (if bt174.2=0 then ((alloc_Right.f 17 2).bind fun t193=>(if t193=true then ((alloc_Right.f 16 2).bind fun t194=>(some (!t194))) else (none))) else (none)) else (none))) else (none)) else (none))) else (none))))=some r:=by first|(rw [hy171];with_reducible exact H)|(have H2_:=(Option.bind_some _ _).symm.trans H;rw [hy171];with_reducible exact H2_)|(have H2_:=(Option.bind_some _ _).symm.trans H;with_reducible exact H2_)|with_reducible exact H|(rw [hy171];exact H)|exact H
 have Ny171:=zm hy171;clear hy171
 replace H:=Option.bind_eq_some_iff.mp H
 obtain ⟨⟨t174,t175⟩,A20,H⟩:=H
 replace H : ((alloc_Room.f 11 1).bind fun t178=>(if t178=2 then ((psalteryref12_Same.f k t164 (([(([1,0,0,0,0] : List Int))] : List (List Int)))).bind fun t185=>(if t185=true then (if t165=0 then ((psalteryref12_Same.f k t174 (([(([0,0,1,0,0] : List Int))] : List (List Int)))).bind fun t192=>(if t192=true then (if t175=0 then ((alloc_Right.f 17 2).bind fun t193=>(if t193=true then ((alloc_Right.f 16 2).bind fun t194=>(some (!t194))) else (none))) else (none)) else (none))) else (none)) else (none))) else (none)))=some r:=H
 have A2:=zm A20;clear A20
 replace H:=Option.bind_eq_some_iff.mp H
 obtain ⟨t178,A30,H⟩:=H
 replace H : (if t178=2 then ((psalteryref12_Same.f k t164 (([(([1,0,0,0,0] : List Int))] : List (List Int)))).bind fun t185=>(if t185=true then (if t165=0 then ((psalteryref12_Same.f k t174 (([(([0,0,1,0,0] : List Int))] : List (List Int)))).bind fun t192=>(if t192=true then (if t175=0 then ((alloc_Right.f 17 2).bind fun t193=>(if t193=true then ((alloc_Right.f 16 2).bind fun t194=>(some (!t194))) else (none))) else (none)) else (none))) else (none)) else (none))) else (none))=some r:=H
 have A3:=zm A30;clear A30
 by_cases c4 : t178=2
 ·
  rw [if_pos c4] at H
  have c4b0 : (t178 == 2)=true:=beq_iff_eq.mpr c4
  have c4b1 : (t178 != 2)=false:=bne_eq_false_iff_eq.mpr c4
  clear c4
  obtain ⟨y179,hy179⟩ : ∃ y_ : List Int,y_=(([1,0,0,0,0] : List Int)):=⟨_,rfl⟩
  replace H : ((psalteryref12_Same.f k t164 (([y179] : List (List Int)))).bind fun t185=>(if t185=true then (if t165=0 then ((psalteryref12_Same.f k t174 (([(([0,0,1,0,0] : List Int))] : List (List Int)))).bind fun t192=>(if t192=true then (if t175=0 then ((alloc_Right.f 17 2).bind fun t193=>(if t193=true then ((alloc_Right.f 16 2).bind fun t194=>(some (!t194))) else (none))) else (none)) else (none))) else (none)) else (none)))=some r:=by first|(rw [hy179];with_reducible exact H)|(have H2_:=(Option.bind_some _ _).symm.trans H;rw [hy179];with_reducible exact H2_)|(have H2_:=(Option.bind_some _ _).symm.trans H;with_reducible exact H2_)|with_reducible exact H|(rw [hy179];exact H)|exact H
  have Ny179:=zm hy179;clear hy179
  obtain ⟨y182,hy182⟩ : ∃ y_ : List (List Int),y_=(([y179] : List (List Int))):=⟨_,rfl⟩
  replace H : ((psalteryref12_Same.f k t164 y182).bind fun t185=>(if t185=true then (if t165=0 then ((psalteryref12_Same.f k t174 (([(([0,0,1,0,0] : List Int))] : List (List Int)))).bind fun t192=>(if t192=true then (if t175=0 then ((alloc_Right.f 17 2).bind fun t193=>(if t193=true then ((alloc_Right.f 16 2).bind fun t194=>(some (!t194))) else (none))) else (none)) else (none))) else (none)) else (none)))=some r:=by first|(rw [hy182];with_reducible exact H)|(have H2_:=(Option.bind_some _ _).symm.trans H;rw [hy182];with_reducible exact H2_)|(have H2_:=(Option.bind_some _ _).symm.trans H;with_reducible exact H2_)|with_reducible exact H|(rw [hy182];exact H)|exact H
  have Ny182:=zm hy182;clear hy182
  replace H:=Option.bind_eq_some_iff.mp H
  obtain ⟨t185,A50,H⟩:=H
  replace H : (if t185=true then (if t165=0 then ((psalteryref12_Same.f k t174 (([(([0,0,1,0,0] : List Int))] : List (List Int)))).bind fun t192=>(if t192=true then (if t175=0 then ((alloc_Right.f 17 2).bind fun t193=>(if t193=true then ((alloc_Right.f 16 2).bind fun t194=>(some (!t194))) else (none))) else (none)) else (none))) else (none)) else (none))=some r:=H
  have A5:=zm A50;clear A50
  by_cases c6 : t185=true
  ·
   subst c6
   have H1 : (if t165=0 then ((psalteryref12_Same.f k t174 (([(([0,0,1,0,0] : List Int))] : List (List Int)))).bind fun t192=>(if t192=true then (if t175=0 then ((alloc_Right.f 17 2).bind fun t193=>(if t193=true then ((alloc_Right.f 16 2).bind fun t194=>(some (!t194))) else (none))) else (none)) else (none))) else (none))=some r:=by rw [if_pos rfl] at H;exact H
   clear H;have H:=H1;clear H1
   by_cases c7 : t165=0
   ·
    rw [if_pos c7] at H
    have c7b0 : (t165 == 0)=true:=beq_iff_eq.mpr c7
    have c7b1 : (t165 != 0)=false:=bne_eq_false_iff_eq.mpr c7
    clear c7
    obtain ⟨y186,hy186⟩ : ∃ y_ : List Int,y_=(([0,0,1,0,0] : List Int)):=⟨_,rfl⟩
    replace H : ((psalteryref12_Same.f k t174 (([y186] : List (List Int)))).bind fun t192=>(if t192=true then (if t175=0 then ((alloc_Right.f 17 2).bind fun t193=>(if t193=true then ((alloc_Right.f 16 2).bind fun t194=>(some (!t194))) else (none))) else (none)) else (none)))=some r:=by first|(rw [hy186];with_reducible exact H)|(have H2_:=(Option.bind_some _ _).symm.trans H;rw [hy186];with_reducible exact H2_)|(have H2_:=(Option.bind_some _ _).symm.trans H;with_reducible exact H2_)|with_reducible exact H|(rw [hy186];exact H)|exact H
    have Ny186:=zm hy186;clear hy186
    obtain ⟨y189,hy189⟩ : ∃ y_ : List (List Int),y_=(([y186] : List (List Int))):=⟨_,rfl⟩
    replace H : ((psalteryref12_Same.f k t174 y189).bind fun t192=>(if t192=true then (if t175=0 then ((alloc_Right.f 17 2).bind fun t193=>(if t193=true then ((alloc_Right.f 16 2).bind fun t194=>(some (!t194))) else (none))) else (none)) else (none)))=some r:=by first|(rw [hy189];with_reducible exact H)|(have H2_:=(Option.bind_some _ _).symm.trans H;rw [hy189];with_reducible exact H2_)|(have H2_:=(Option.bind_some _ _).symm.trans H;with_reducible exact H2_)|with_reducible exact H|(rw [hy189];exact H)|exact H
    have Ny189:=zm hy189;clear hy189
    replace H:=Option.bind_eq_some_iff.mp H
    obtain ⟨t192,A80,H⟩:=H
    replace H : (if t192=true then (if t175=0 then ((alloc_Right.f 17 2).bind fun t193=>(if t193=true then ((alloc_Right.f 16 2).bind fun t194=>(some (!t194))) else (none))) else (none)) else (none))=some r:=H
    have A8:=zm A80;clear A80
    by_cases c9 : t192=true
    ·
     subst c9
     have H1 : (if t175=0 then ((alloc_Right.f 17 2).bind fun t193=>(if t193=true then ((alloc_Right.f 16 2).bind fun t194=>(some (!t194))) else (none))) else (none))=some r:=by rw [if_pos rfl] at H;exact H
     clear H;have H:=H1;clear H1
     by_cases c10 : t175=0
     ·
      rw [if_pos c10] at H
      have c10b0 : (t175 == 0)=true:=beq_iff_eq.mpr c10
      have c10b1 : (t175 != 0)=false:=bne_eq_false_iff_eq.mpr c10
      clear c10
      replace H:=Option.bind_eq_some_iff.mp H
      obtain ⟨t193,A110,H⟩:=H
      replace H : (if t193=true then ((alloc_Right.f 16 2).bind fun t194=>(some (!t194))) else (none))=some r:=H
      have A11:=zm A110;clear A110
      by_cases c12 : t193=true
      ·
       subst c12
       have H1 : ((alloc_Right.f 16 2).bind fun t194=>(some (!t194)))=some r:=by rw [if_pos rfl] at H;exact H
       clear H;have H:=H1;clear H1
       replace H:=Option.bind_eq_some_iff.mp H
       obtain ⟨t194,A130,H⟩:=H
       replace H : (some (!t194))=some r:=H
       have A13:=zm A130;clear A130
       obtain rfl:=Option.some.inj H
       go_enter Try.func13,Try.ntmps13
       go_wp2_with (first|((with_reducible refine gate_dst (N:=6) rfl ?_);(try (refine gate_guard (by rfl) ?_;dsimp only));refine Kd.R_lit (Kd.int .i64) _ 3 ?hg (N:=6) ?hd (xs:=([9,0,0,0,0] : List Int)) (inner := [.int .i64 9, .int .i64 0, .int .i64 0, .int .i64 0, .int .i64 0]) (ok:=fun _=>True) (okp:=fun _=>True) ?hr ?hp (fun _ hk=>hk) trivial (Below.refl _ _) (Nat.le_refl _) (by simp) ?_;(case hd=>rfl);(case hg=>rfl);(case hr=>first|(go_simp;done)|(go_simp;rfl));(case hp=>exact (Reps.one (show Kd.M (Kd.int .i64) _ _ _ 9 [.int .i64 9] from rfl) (Reps.one (show Kd.M (Kd.int .i64) _ _ _ 0 [.int .i64 0] from rfl) (Reps.one (show Kd.M (Kd.int .i64) _ _ _ 0 [.int .i64 0] from rfl) (Reps.one (show Kd.M (Kd.int .i64) _ _ _ 0 [.int .i64 0] from rfl) (Reps.one (show Kd.M (Kd.int .i64) _ _ _ 0 [.int .i64 0] from rfl) (Reps.none _ _)))))));intro v159 w14 ho15 hb hg_ hnew_;clear hg_ hnew_;(first|rw [← Ny158.out] at ho15|(simp only [Int.reduceToNat] at ho15;rw [← Ny158.out] at ho15));have n0_:=zm (Kd.R_lower ho15 (zE (by repeat (first|(with_reducible first|exact HB.out|apply ze|apply zd|apply zf)|exact HB.out))));have n1_:=zm (zJ (by repeat (first|(with_reducible first|exact HB.out|apply ze|apply zd|apply zf)|exact HB.out)) hb);clear HB;have HO160:=n0_;have HB:=n1_;clear n0_ n1_;clear hb ho15;obtain ⟨Ao16,co16,eo16⟩:=Kd.R_slice HO160.out;subst eo16)|((with_reducible refine gate_dst (N:=7) rfl ?_);(try (refine gate_guard (by rfl) ?_;dsimp only));refine Kd.N_lit (Kd.slice 3 (Kd.int .i64)) _ 34 ?hg (N' := 7) ?hd (xs:=([y158] : List (List Int))) (inner := [.slice Ao16 y158.length co16]) (ok:=(fun _=>True)) (okp:=(fun _=>True)) ?hr ?hp (fun _ hk=>hk) ((show ∀ k_,w14.heap.size≤k_→(fun _=>True) k_ from fun k_ hk=>trivial) _ (Nat.le_refl _)) (Below.refl _ _) (Nat.le_refl _) (by simp) ?_;(case hd=>rfl);(case hg=>rfl);(case hr=>first|(go_simp;done)|(go_simp;rfl));(case hp=>exact (Reps.one (show Kd.FK (Kd.slice 3 (Kd.int .i64)) _ _ y158 [.slice Ao16 y158.length co16] from (Kd.FK_slice_mk (Kd.R_reads' (zG (ok' := (fun _=>True)) (HO160.out) (fun k_ hk=>trivial))).2.1 (Kd.R_F (zG (ok' := (fun _=>True)) (HO160.out) (fun k_ hk=>trivial))))) (Reps.none _ _)));intro v162 w17 ho18 hb hg_ hnew_;clear hg_ hnew_;(first|rw [← Ny161.out] at ho18|(simp only [Int.reduceToNat] at ho18;rw [← Ny161.out] at ho18));have n0_:=zm (Kd.N_lower ho18 (zE (by repeat (first|(with_reducible first|exact HB.out|apply ze|apply zd|apply zf)|exact HB.out))));have n1_:=zm (zJ (by repeat (first|(with_reducible first|exact HB.out|apply ze|apply zd|apply zf)|exact HB.out)) hb);clear HB;clear HO160;have HO163:=n0_;have HB:=n1_;clear n0_ n1_;clear hb ho18;obtain ⟨Ao19,co19,eo19⟩:=Kd.N_slice HO163.out;subst eo19)|((with_reducible refine gate_callee (f:=15) rfl ?_);refine goesL_ (some 8) rfl rfl Try.func15 (by kernel_rfl) rfl #[.int .i64 11, .int .i64 1, .slice Ao19 y161.length co19] rfl (by (try simp only [List.map_toArray,List.map_cons,List.map_nil]);first|done|rfl|(simp only [List.length_drop,List.length_take];rfl)) ?_;(with_reducible refine (alloc_Pulses.calls k 11 1 _ _ y161 t164 t165 _ ?side1 ?side2 A1.out).mono ?_);(case side1=>repeat (first|exact (Kd.N_reads' HO163.out).2.2|(with_reducible refine Kd.C_alloc ?_ _)|(with_reducible refine Kd.C_drewN ?_ _)|(with_reducible refine Kd.C_drew ?_)));(case side2=>exact (Kd.N_reads' HO163.out).2.1);rintro e w20 ⟨v166,rfl,ho0,hb⟩;refine ⟨_,rfl, ?_⟩;have n0_:=zm (Kd.N_elder' (by (with_reducible repeat (first|apply Kd.N_alloc|apply Kd.N_drewN|apply Kd.N_drew));exact HO163.out) (Kd.S_base ho0) hb);have n1_:=zm (Kd.N_lower (Kd.N_mono (ok' := fun k_=>some k_≠(.slice Ao19 y161.length co19 : Value).ownBlock) (Kd.S_N (Kd.S_bound ho0)) (fun k_ hk_=>(Kd.fresh' (Kd.N_lt (by (with_reducible repeat (first|apply Kd.N_alloc|apply Kd.N_drewN|apply Kd.N_drew));exact HO163.out)) k_ hk_.2.1))) (zE (by repeat (first|(with_reducible first|exact HB.out|apply ze|apply zd|apply zf)|exact HB.out))));have n2_:=zm (zJ (by repeat (first|(with_reducible first|exact HB.out|apply ze|apply zd|apply zf)|exact HB.out)) hb);clear HO163;clear HB;have HO163:=n0_;have HO167:=n1_;have HB:=n2_;clear n0_ n1_ n2_;(try clear hb);(try clear hb2);(try clear hk);(try clear hi);(try clear ho0))|((with_reducible refine gate_dst (N:=12) rfl ?_);(try (refine gate_guard (by rfl) ?_;dsimp only));refine Kd.R_lit (Kd.int .i64) _ 3 ?hg (N:=12) ?hd (xs:=([0,0,9,0,0] : List Int)) (inner := [.int .i64 0, .int .i64 0, .int .i64 9, .int .i64 0, .int .i64 0]) (ok:=fun _=>True) (okp:=fun _=>True) ?hr ?hp (fun _ hk=>hk) trivial (Below.refl _ _) (Nat.le_refl _) (by simp) ?_;(case hd=>rfl);(case hg=>rfl);(case hr=>first|(go_simp;done)|(go_simp;rfl));(case hp=>exact (Reps.one (show Kd.M (Kd.int .i64) _ _ _ 0 [.int .i64 0] from rfl) (Reps.one (show Kd.M (Kd.int .i64) _ _ _ 0 [.int .i64 0] from rfl) (Reps.one (show Kd.M (Kd.int .i64) _ _ _ 9 [.int .i64 9] from rfl) (Reps.one (show Kd.M (Kd.int .i64) _ _ _ 0 [.int .i64 0] from rfl) (Reps.one (show Kd.M (Kd.int .i64) _ _ _ 0 [.int .i64 0] from rfl) (Reps.none _ _)))))));intro v169 w21 ho22 hb hg_ hnew_;clear hg_ hnew_;(first|rw [← Ny168.out] at ho22|(simp only [Int.reduceToNat] at ho22;rw [← Ny168.out] at ho22));have n0_:=zm (Kd.N_elder' (by (with_reducible repeat (first|apply Kd.N_alloc|apply Kd.N_drewN|apply Kd.N_drew));exact HO163.out) (Kd.R_base ho22) hb);have n1_:=zm (Kd.N_elder' (by (with_reducible repeat (first|apply Kd.N_alloc|apply Kd.N_drewN|apply Kd.N_drew));exact HO167.out) (Kd.R_base ho22) hb);have n2_:=zm (Kd.R_lower ho22 (zE (by repeat (first|(with_reducible first|exact HB.out|apply ze|apply zd|apply zf)|exact HB.out))));have n3_:=zm (zJ (by repeat (first|(with_reducible first|exact HB.out|apply ze|apply zd|apply zf)|exact HB.out)) hb);clear HO163;clear HO167;clear HB;have HO163:=n0_;have HO167:=n1_;have HO170:=n2_;have HB:=n3_;clear n0_ n1_ n2_ n3_;clear hb ho22;obtain ⟨Ao23,co23,eo23⟩:=Kd.R_slice HO170.out;subst eo23)|((with_reducible refine gate_dst (N:=13) rfl ?_);(try (refine gate_guard (by rfl) ?_;dsimp only));refine Kd.N_lit (Kd.slice 3 (Kd.int .i64)) _ 34 ?hg (N' := 13) ?hd (xs:=([y168] : List (List Int))) (inner := [.slice Ao23 y168.length co23]) (ok:=(fun k_=>some k_≠(.slice Ao19 y161.length co19 : Value).ownBlock∧some k_≠(v166 : Value).ownBlock)) (okp:=(fun k_=>some k_≠(.slice Ao19 y161.length co19 : Value).ownBlock∧some k_≠(v166 : Value).ownBlock)) ?hr ?hp (fun _ hk=>hk) ((show ∀ k_,w21.heap.size≤k_→(fun k_=>some k_≠(.slice Ao19 y161.length co19 : Value).ownBlock∧some k_≠(v166 : Value).ownBlock) k_ from fun k_ hk=>⟨Kd.fresh' (Kd.N_lt (by (with_reducible repeat (first|apply Kd.N_alloc|apply Kd.N_drewN|apply Kd.N_drew));exact HO163.out)) k_ hk,Kd.fresh' (Kd.N_lt (by (with_reducible repeat (first|apply Kd.N_alloc|apply Kd.N_drewN|apply Kd.N_drew));exact HO167.out)) k_ hk⟩) _ (Nat.le_refl _)) (Below.refl _ _) (Nat.le_refl _) (by simp) ?_;(case hd=>rfl);(case hg=>rfl);(case hr=>first|(go_simp;done)|(go_simp;rfl));(case hp=>exact (Reps.one (show Kd.FK (Kd.slice 3 (Kd.int .i64)) _ _ y168 [.slice Ao23 y168.length co23] from (Kd.FK_slice_mk (Kd.R_reads' (zG (ok' := (fun k_=>some k_≠(.slice Ao19 y161.length co19 : Value).ownBlock∧some k_≠(v166 : Value).ownBlock)) (Kd.R_apart' (Kd.R_apart' (HO170.out) (Kd.N_typed HO163.out) (by decide)) (Kd.N_typed HO167.out) (by decide)) (fun k_ hk=>⟨hk.1.2,hk.2⟩))).2.1 (Kd.R_F (zG (ok' := (fun k_=>some k_≠(.slice Ao19 y161.length co19 : Value).ownBlock∧some k_≠(v166 : Value).ownBlock)) (Kd.R_apart' (Kd.R_apart' (HO170.out) (Kd.N_typed HO163.out) (by decide)) (Kd.N_typed HO167.out) (by decide)) (fun k_ hk=>⟨hk.1.2,hk.2⟩))))) (Reps.none _ _)));intro v172 w24 ho25 hb hg_ hnew_;clear hg_ hnew_;(first|rw [← Ny171.out] at ho25|(simp only [Int.reduceToNat] at ho25;rw [← Ny171.out] at ho25));have n0_:=zm (Kd.N_elder' (by (with_reducible repeat (first|apply Kd.N_alloc|apply Kd.N_drewN|apply Kd.N_drew));exact HO163.out) (Kd.N_base ho25) hb);have n1_:=zm (Kd.N_elder' (by (with_reducible repeat (first|apply Kd.N_alloc|apply Kd.N_drewN|apply Kd.N_drew));exact HO167.out) (Kd.N_base ho25) hb);have n2_:=zm (Kd.N_lower ho25 (zE (by repeat (first|(with_reducible first|exact HB.out|apply ze|apply zd|apply zf)|exact HB.out))));have n3_:=zm (zJ (by repeat (first|(with_reducible first|exact HB.out|apply ze|apply zd|apply zf)|exact HB.out)) hb);clear HO163;clear HO167;clear HB;clear HO170;have HO163:=n0_;have HO167:=n1_;have HO173:=n2_;have HB:=n3_;clear n0_ n1_ n2_ n3_;clear hb ho25;obtain ⟨Ao26,co26,eo26⟩:=Kd.N_slice HO173.out;subst eo26)|((with_reducible refine gate_callee (f:=15) rfl ?_);refine goesL_ (some 14) rfl rfl Try.func15 (by kernel_rfl) rfl #[.int .i64 11, .int .i64 1, .slice Ao26 y171.length co26] rfl (by (try simp only [List.map_toArray,List.map_cons,List.map_nil]);first|done|rfl|(simp only [List.length_drop,List.length_take];rfl)) ?_;(with_reducible refine (alloc_Pulses.calls k 11 1 _ _ y171 t174 t175 _ ?side1 ?side2 A2.out).mono ?_);(case side1=>repeat (first|exact (Kd.N_reads' HO173.out).2.2|(with_reducible refine Kd.C_alloc ?_ _)|(with_reducible refine Kd.C_drewN ?_ _)|(with_reducible refine Kd.C_drew ?_)));(case side2=>exact (Kd.N_reads' HO173.out).2.1);rintro e w27 ⟨v176,rfl,ho0,hb⟩;refine ⟨_,rfl, ?_⟩;have n0_:=zm (Kd.N_elder' (by (with_reducible repeat (first|apply Kd.N_alloc|apply Kd.N_drewN|apply Kd.N_drew));exact HO163.out) (Kd.S_base ho0) hb);have n1_:=zm (Kd.N_elder' (by (with_reducible repeat (first|apply Kd.N_alloc|apply Kd.N_drewN|apply Kd.N_drew));exact HO167.out) (Kd.S_base ho0) hb);have n2_:=zm (Kd.N_elder' (by (with_reducible repeat (first|apply Kd.N_alloc|apply Kd.N_drewN|apply Kd.N_drew));exact HO173.out) (Kd.S_base ho0) hb);have n3_:=zm (Kd.N_lower (Kd.N_mono (ok' := fun k_=>some k_≠(.slice Ao19 y161.length co19 : Value).ownBlock∧some k_≠(v166 : Value).ownBlock∧some k_≠(.slice Ao26 y171.length co26 : Value).ownBlock) (Kd.S_N (Kd.S_bound ho0)) (fun k_ hk_=>⟨(Kd.fresh' (Kd.N_lt (by (with_reducible repeat (first|apply Kd.N_alloc|apply Kd.N_drewN|apply Kd.N_drew));exact HO163.out)) k_ hk_.2.1),(Kd.fresh' (Kd.N_lt (by (with_reducible repeat (first|apply Kd.N_alloc|apply Kd.N_drewN|apply Kd.N_drew));exact HO167.out)) k_ hk_.2.1),(Kd.fresh' (Kd.N_lt (by (with_reducible repeat (first|apply Kd.N_alloc|apply Kd.N_drewN|apply Kd.N_drew));exact HO173.out)) k_ hk_.2.1)⟩)) (zE (by repeat (first|(with_reducible first|exact HB.out|apply ze|apply zd|apply zf)|exact HB.out))));have n4_:=zm (zJ (by repeat (first|(with_reducible first|exact HB.out|apply ze|apply zd|apply zf)|exact HB.out)) hb);clear HO163;clear HO167;clear HO173;clear HB;have HO163:=n0_;have HO167:=n1_;have HO173:=n2_;have HO177:=n3_;have HB:=n4_;clear n0_ n1_ n2_ n3_ n4_;(try clear hb);(try clear hb2);(try clear hk);(try clear hi);(try clear ho0))|((with_reducible refine gate_callee (f:=11) rfl ?_);refine goesL_ (some 17) rfl rfl Try.func11 (by kernel_rfl) rfl #[.int .i64 11, .int .i64 1] rfl (by (try simp only [List.map_toArray,List.map_cons,List.map_nil]);first|done|rfl|(simp only [List.length_drop,List.length_take];rfl)) ?_;(with_reducible refine (alloc_Room.calls 11 1 t178 _ A3.out).mono ?_);rintro e w' ⟨rfl,⟨nd,rfl⟩⟩;refine ⟨_,rfl, ?_⟩)|((with_reducible refine gate_dst (N:=21) rfl ?_);(try (refine gate_guard (by rfl) ?_;dsimp only));refine Kd.R_lit (Kd.int .i64) _ 3 ?hg (N:=21) ?hd (xs:=([1,0,0,0,0] : List Int)) (inner := [.int .i64 1, .int .i64 0, .int .i64 0, .int .i64 0, .int .i64 0]) (ok:=fun _=>True) (okp:=fun _=>True) ?hr ?hp (fun _ hk=>hk) trivial (Below.refl _ _) (Nat.le_refl _) (by simp) ?_;(case hd=>rfl);(case hg=>rfl);(case hr=>first|(go_simp;done)|(go_simp;rfl));(case hp=>exact (Reps.one (show Kd.M (Kd.int .i64) _ _ _ 1 [.int .i64 1] from rfl) (Reps.one (show Kd.M (Kd.int .i64) _ _ _ 0 [.int .i64 0] from rfl) (Reps.one (show Kd.M (Kd.int .i64) _ _ _ 0 [.int .i64 0] from rfl) (Reps.one (show Kd.M (Kd.int .i64) _ _ _ 0 [.int .i64 0] from rfl) (Reps.one (show Kd.M (Kd.int .i64) _ _ _ 0 [.int .i64 0] from rfl) (Reps.none _ _)))))));intro v180 w28 ho29 hb hg_ hnew_;clear hg_ hnew_;(first|rw [← Ny179.out] at ho29|(simp only [Int.reduceToNat] at ho29;rw [← Ny179.out] at ho29));have n0_:=zm (Kd.N_elder' (by (with_reducible repeat (first|apply Kd.N_alloc|apply Kd.N_drewN|apply Kd.N_drew));exact HO163.out) (Kd.R_base ho29) hb);have n1_:=zm (Kd.N_elder' (by (with_reducible repeat (first|apply Kd.N_alloc|apply Kd.N_drewN|apply Kd.N_drew));exact HO167.out) (Kd.R_base ho29) hb);have n2_:=zm (Kd.N_elder' (by (with_reducible repeat (first|apply Kd.N_alloc|apply Kd.N_drewN|apply Kd.N_drew));exact HO173.out) (Kd.R_base ho29) hb);have n3_:=zm (Kd.N_elder' (by (with_reducible repeat (first|apply Kd.N_alloc|apply Kd.N_drewN|apply Kd.N_drew));exact HO177.out) (Kd.R_base ho29) hb);have n4_:=zm (Kd.R_lower ho29 (zE (by repeat (first|(with_reducible first|exact HB.out|apply ze|apply zd|apply zf)|exact HB.out))));have n5_:=zm (zJ (by repeat (first|(with_reducible first|exact HB.out|apply ze|apply zd|apply zf)|exact HB.out)) hb);clear HO163;clear HO167;clear HO173;clear HO177;clear HB;have HO163:=n0_;have HO167:=n1_;have HO173:=n2_;have HO177:=n3_;have HO181:=n4_;have HB:=n5_;clear n0_ n1_ n2_ n3_ n4_ n5_;clear hb ho29;obtain ⟨Ao30,co30,eo30⟩:=Kd.R_slice HO181.out;subst eo30)|((with_reducible refine gate_dst (N:=22) rfl ?_);(try (refine gate_guard (by rfl) ?_;dsimp only));refine Kd.N_lit (Kd.slice 3 (Kd.int .i64)) _ 34 ?hg (N' := 22) ?hd (xs:=([y179] : List (List Int))) (inner := [.slice Ao30 y179.length co30]) (ok:=(fun k_=>some k_≠(.slice Ao19 y161.length co19 : Value).ownBlock∧some k_≠(v166 : Value).ownBlock∧some k_≠(.slice Ao26 y171.length co26 : Value).ownBlock∧some k_≠(v176 : Value).ownBlock)) (okp:=(fun k_=>some k_≠(.slice Ao19 y161.length co19 : Value).ownBlock∧some k_≠(v166 : Value).ownBlock∧some k_≠(.slice Ao26 y171.length co26 : Value).ownBlock∧some k_≠(v176 : Value).ownBlock)) ?hr ?hp (fun _ hk=>hk) ((show ∀ k_,w28.heap.size≤k_→(fun k_=>some k_≠(.slice Ao19 y161.length co19 : Value).ownBlock∧some k_≠(v166 : Value).ownBlock∧some k_≠(.slice Ao26 y171.length co26 : Value).ownBlock∧some k_≠(v176 : Value).ownBlock) k_ from fun k_ hk=>⟨Kd.fresh' (Kd.N_lt (by (with_reducible repeat (first|apply Kd.N_alloc|apply Kd.N_drewN|apply Kd.N_drew));exact HO163.out)) k_ hk,Kd.fresh' (Kd.N_lt (by (with_reducible repeat (first|apply Kd.N_alloc|apply Kd.N_drewN|apply Kd.N_drew));exact HO167.out)) k_ hk,Kd.fresh' (Kd.N_lt (by (with_reducible repeat (first|apply Kd.N_alloc|apply Kd.N_drewN|apply Kd.N_drew));exact HO173.out)) k_ hk,Kd.fresh' (Kd.N_lt (by (with_reducible repeat (first|apply Kd.N_alloc|apply Kd.N_drewN|apply Kd.N_drew));exact HO177.out)) k_ hk⟩) _ (Nat.le_refl _)) (Below.refl _ _) (Nat.le_refl _) (by simp) ?_;(case hd=>rfl);(case hg=>rfl);(case hr=>first|(go_simp;done)|(go_simp;rfl));(case hp=>exact (Reps.one (show Kd.FK (Kd.slice 3 (Kd.int .i64)) _ _ y179 [.slice Ao30 y179.length co30] from (Kd.FK_slice_mk (Kd.R_reads' (zG (ok' := (fun k_=>some k_≠(.slice Ao19 y161.length co19 : Value).ownBlock∧some k_≠(v166 : Value).ownBlock∧some k_≠(.slice Ao26 y171.length co26 : Value).ownBlock∧some k_≠(v176 : Value).ownBlock)) (Kd.R_apart' (Kd.R_apart' (Kd.R_apart' (Kd.R_apart' (HO181.out) (Kd.N_typed HO163.out) (by decide)) (Kd.N_typed HO167.out) (by decide)) (Kd.N_typed HO173.out) (by decide)) (Kd.N_typed HO177.out) (by decide)) (fun k_ hk=>⟨hk.1.1.1.2,⟨hk.1.1.2,⟨hk.1.2,hk.2⟩⟩⟩))).2.1 (Kd.R_F (zG (ok' := (fun k_=>some k_≠(.slice Ao19 y161.length co19 : Value).ownBlock∧some k_≠(v166 : Value).ownBlock∧some k_≠(.slice Ao26 y171.length co26 : Value).ownBlock∧some k_≠(v176 : Value).ownBlock)) (Kd.R_apart' (Kd.R_apart' (Kd.R_apart' (Kd.R_apart' (HO181.out) (Kd.N_typed HO163.out) (by decide)) (Kd.N_typed HO167.out) (by decide)) (Kd.N_typed HO173.out) (by decide)) (Kd.N_typed HO177.out) (by decide)) (fun k_ hk=>⟨hk.1.1.1.2,⟨hk.1.1.2,⟨hk.1.2,hk.2⟩⟩⟩))))) (Reps.none _ _)));intro v183 w31 ho32 hb hg_ hnew_;clear hg_ hnew_;(first|rw [← Ny182.out] at ho32|(simp only [Int.reduceToNat] at ho32;rw [← Ny182.out] at ho32));have n0_:=zm (Kd.N_elder' (by (with_reducible repeat (first|apply Kd.N_alloc|apply Kd.N_drewN|apply Kd.N_drew));exact HO163.out) (Kd.N_base ho32) hb);have n1_:=zm (Kd.N_elder' (by (with_reducible repeat (first|apply Kd.N_alloc|apply Kd.N_drewN|apply Kd.N_drew));exact HO167.out) (Kd.N_base ho32) hb);have n2_:=zm (Kd.N_elder' (by (with_reducible repeat (first|apply Kd.N_alloc|apply Kd.N_drewN|apply Kd.N_drew));exact HO173.out) (Kd.N_base ho32) hb);have n3_:=zm (Kd.N_elder' (by (with_reducible repeat (first|apply Kd.N_alloc|apply Kd.N_drewN|apply Kd.N_drew));exact HO177.out) (Kd.N_base ho32) hb);have n4_:=zm (Kd.N_lower ho32 (zE (by repeat (first|(with_reducible first|exact HB.out|apply ze|apply zd|apply zf)|exact HB.out))));have n5_:=zm (zJ (by repeat (first|(with_reducible first|exact HB.out|apply ze|apply zd|apply zf)|exact HB.out)) hb);clear HO163;clear HO167;clear HO173;clear HO177;clear HB;clear HO181;have HO163:=n0_;have HO167:=n1_;have HO173:=n2_;have HO177:=n3_;have HO184:=n4_;have HB:=n5_;clear n0_ n1_ n2_ n3_ n4_ n5_;clear hb ho32;obtain ⟨Ao33,co33,eo33⟩:=Kd.N_slice HO167.out;subst eo33;obtain ⟨Ao34,co34,eo34⟩:=Kd.N_slice HO184.out;subst eo34)|(go_at_call 17;(with_reducible refine (psalteryref12_Same.calls k _ _ t164 _ _ y182 true _ ?side1 ?side2 ?side3 ?side4 A5.out).mono ?_);(case side1=>repeat (first|exact (Kd.N_reads' HO167.out).2.2|(with_reducible refine Kd.C_alloc ?_ _)|(with_reducible refine Kd.C_drewN ?_ _)|(with_reducible refine Kd.C_drew ?_)));(case side2=>exact (Kd.N_reads' HO167.out).2.1);(case side3=>repeat (first|exact (Kd.N_reads' HO184.out).2.2|(with_reducible refine Kd.C_alloc ?_ _)|(with_reducible refine Kd.C_drewN ?_ _)|(with_reducible refine Kd.C_drew ?_)));(case side4=>exact (Kd.N_reads' HO184.out).2.1);rintro e w' ⟨rfl,⟨nd,rfl⟩⟩)|((with_reducible refine gate_dst (N:=31) rfl ?_);(try (refine gate_guard (by rfl) ?_;dsimp only));refine Kd.R_lit (Kd.int .i64) _ 3 ?hg (N:=31) ?hd (xs:=([0,0,1,0,0] : List Int)) (inner := [.int .i64 0, .int .i64 0, .int .i64 1, .int .i64 0, .int .i64 0]) (ok:=fun _=>True) (okp:=fun _=>True) ?hr ?hp (fun _ hk=>hk) trivial (Below.refl _ _) (Nat.le_refl _) (by simp) ?_;(case hd=>rfl);(case hg=>rfl);(case hr=>first|(go_simp;done)|(go_simp;rfl));(case hp=>exact (Reps.one (show Kd.M (Kd.int .i64) _ _ _ 0 [.int .i64 0] from rfl) (Reps.one (show Kd.M (Kd.int .i64) _ _ _ 0 [.int .i64 0] from rfl) (Reps.one (show Kd.M (Kd.int .i64) _ _ _ 1 [.int .i64 1] from rfl) (Reps.one (show Kd.M (Kd.int .i64) _ _ _ 0 [.int .i64 0] from rfl) (Reps.one (show Kd.M (Kd.int .i64) _ _ _ 0 [.int .i64 0] from rfl) (Reps.none _ _)))))));intro v187 w35 ho36 hb hg_ hnew_;clear hg_ hnew_;(first|rw [← Ny186.out] at ho36|(simp only [Int.reduceToNat] at ho36;rw [← Ny186.out] at ho36));have n0_:=zm (Kd.N_elder' (by (with_reducible repeat (first|apply Kd.N_alloc|apply Kd.N_drewN|apply Kd.N_drew));exact HO163.out) (Kd.R_base ho36) hb);have n1_:=zm (Kd.N_elder' (by (with_reducible repeat (first|apply Kd.N_alloc|apply Kd.N_drewN|apply Kd.N_drew));exact HO167.out) (Kd.R_base ho36) hb);have n2_:=zm (Kd.N_elder' (by (with_reducible repeat (first|apply Kd.N_alloc|apply Kd.N_drewN|apply Kd.N_drew));exact HO173.out) (Kd.R_base ho36) hb);have n3_:=zm (Kd.N_elder' (by (with_reducible repeat (first|apply Kd.N_alloc|apply Kd.N_drewN|apply Kd.N_drew));exact HO177.out) (Kd.R_base ho36) hb);have n4_:=zm (Kd.N_elder' (by (with_reducible repeat (first|apply Kd.N_alloc|apply Kd.N_drewN|apply Kd.N_drew));exact HO184.out) (Kd.R_base ho36) hb);have n5_:=zm (Kd.R_lower ho36 (zE (by repeat (first|(with_reducible first|exact HB.out|apply ze|apply zd|apply zf)|exact HB.out))));have n6_:=zm (zJ (by repeat (first|(with_reducible first|exact HB.out|apply ze|apply zd|apply zf)|exact HB.out)) hb);clear HO163;clear HO167;clear HO173;clear HO177;clear HO184;clear HB;have HO163:=n0_;have HO167:=n1_;have HO173:=n2_;have HO177:=n3_;have HO184:=n4_;have HO188:=n5_;have HB:=n6_;clear n0_ n1_ n2_ n3_ n4_ n5_ n6_;clear hb ho36;obtain ⟨Ao37,co37,eo37⟩:=Kd.R_slice HO188.out;subst eo37)|((with_reducible refine gate_dst (N:=32) rfl ?_);(try (refine gate_guard (by rfl) ?_;dsimp only));refine Kd.N_lit (Kd.slice 3 (Kd.int .i64)) _ 34 ?hg (N' := 32) ?hd (xs:=([y186] : List (List Int))) (inner := [.slice Ao37 y186.length co37]) (ok:=(fun k_=>some k_≠(.slice Ao19 y161.length co19 : Value).ownBlock∧some k_≠(.slice Ao33 t164.length co33 : Value).ownBlock∧some k_≠(.slice Ao26 y171.length co26 : Value).ownBlock∧some k_≠(v176 : Value).ownBlock∧some k_≠(.slice Ao34 y182.length co34 : Value).ownBlock)) (okp:=(fun k_=>some k_≠(.slice Ao19 y161.length co19 : Value).ownBlock∧some k_≠(.slice Ao33 t164.length co33 : Value).ownBlock∧some k_≠(.slice Ao26 y171.length co26 : Value).ownBlock∧some k_≠(v176 : Value).ownBlock∧some k_≠(.slice Ao34 y182.length co34 : Value).ownBlock)) ?hr ?hp (fun _ hk=>hk) ((show ∀ k_,w35.heap.size≤k_→(fun k_=>some k_≠(.slice Ao19 y161.length co19 : Value).ownBlock∧some k_≠(.slice Ao33 t164.length co33 : Value).ownBlock∧some k_≠(.slice Ao26 y171.length co26 : Value).ownBlock∧some k_≠(v176 : Value).ownBlock∧some k_≠(.slice Ao34 y182.length co34 : Value).ownBlock) k_ from fun k_ hk=>⟨Kd.fresh' (Kd.N_lt (by (with_reducible repeat (first|apply Kd.N_alloc|apply Kd.N_drewN|apply Kd.N_drew));exact HO163.out)) k_ hk,Kd.fresh' (Kd.N_lt (by (with_reducible repeat (first|apply Kd.N_alloc|apply Kd.N_drewN|apply Kd.N_drew));exact HO167.out)) k_ hk,Kd.fresh' (Kd.N_lt (by (with_reducible repeat (first|apply Kd.N_alloc|apply Kd.N_drewN|apply Kd.N_drew));exact HO173.out)) k_ hk,Kd.fresh' (Kd.N_lt (by (with_reducible repeat (first|apply Kd.N_alloc|apply Kd.N_drewN|apply Kd.N_drew));exact HO177.out)) k_ hk,Kd.fresh' (Kd.N_lt (by (with_reducible repeat (first|apply Kd.N_alloc|apply Kd.N_drewN|apply Kd.N_drew));exact HO184.out)) k_ hk⟩) _ (Nat.le_refl _)) (Below.refl _ _) (Nat.le_refl _) (by simp) ?_;(case hd=>rfl);(case hg=>rfl);(case hr=>first|(go_simp;done)|(go_simp;rfl));(case hp=>exact (Reps.one (show Kd.FK (Kd.slice 3 (Kd.int .i64)) _ _ y186 [.slice Ao37 y186.length co37] from (Kd.FK_slice_mk (Kd.R_reads' (zG (ok' := (fun k_=>some k_≠(.slice Ao19 y161.length co19 : Value).ownBlock∧some k_≠(.slice Ao33 t164.length co33 : Value).ownBlock∧some k_≠(.slice Ao26 y171.length co26 : Value).ownBlock∧some k_≠(v176 : Value).ownBlock∧some k_≠(.slice Ao34 y182.length co34 : Value).ownBlock)) (Kd.R_apart' (Kd.R_apart' (Kd.R_apart' (Kd.R_apart' (Kd.R_apart' (HO188.out) (Kd.N_typed HO163.out) (by decide)) (Kd.N_typed HO167.out) (by decide)) (Kd.N_typed HO173.out) (by decide)) (Kd.N_typed HO177.out) (by decide)) (Kd.N_typed HO184.out) (by decide)) (fun k_ hk=>⟨hk.1.1.1.1.2,⟨hk.1.1.1.2,⟨hk.1.1.2,⟨hk.1.2,hk.2⟩⟩⟩⟩))).2.1 (Kd.R_F (zG (ok' := (fun k_=>some k_≠(.slice Ao19 y161.length co19 : Value).ownBlock∧some k_≠(.slice Ao33 t164.length co33 : Value).ownBlock∧some k_≠(.slice Ao26 y171.length co26 : Value).ownBlock∧some k_≠(v176 : Value).ownBlock∧some k_≠(.slice Ao34 y182.length co34 : Value).ownBlock)) (Kd.R_apart' (Kd.R_apart' (Kd.R_apart' (Kd.R_apart' (Kd.R_apart' (HO188.out) (Kd.N_typed HO163.out) (by decide)) (Kd.N_typed HO167.out) (by decide)) (Kd.N_typed HO173.out) (by decide)) (Kd.N_typed HO177.out) (by decide)) (Kd.N_typed HO184.out) (by decide)) (fun k_ hk=>⟨hk.1.1.1.1.2,⟨hk.1.1.1.2,⟨hk.1.1.2,⟨hk.1.2,hk.2⟩⟩⟩⟩))))) (Reps.none _ _)));intro v190 w38 ho39 hb hg_ hnew_;clear hg_ hnew_;(first|rw [← Ny189.out] at ho39|(simp only [Int.reduceToNat] at ho39;rw [← Ny189.out] at ho39));have n0_:=zm (Kd.N_elder' (by (with_reducible repeat (first|apply Kd.N_alloc|apply Kd.N_drewN|apply Kd.N_drew));exact HO163.out) (Kd.N_base ho39) hb);have n1_:=zm (Kd.N_elder' (by (with_reducible repeat (first|apply Kd.N_alloc|apply Kd.N_drewN|apply Kd.N_drew));exact HO167.out) (Kd.N_base ho39) hb);have n2_:=zm (Kd.N_elder' (by (with_reducible repeat (first|apply Kd.N_alloc|apply Kd.N_drewN|apply Kd.N_drew));exact HO173.out) (Kd.N_base ho39) hb);have n3_:=zm (Kd.N_elder' (by (with_reducible repeat (first|apply Kd.N_alloc|apply Kd.N_drewN|apply Kd.N_drew));exact HO177.out) (Kd.N_base ho39) hb);have n4_:=zm (Kd.N_elder' (by (with_reducible repeat (first|apply Kd.N_alloc|apply Kd.N_drewN|apply Kd.N_drew));exact HO184.out) (Kd.N_base ho39) hb);have n5_:=zm (Kd.N_lower ho39 (zE (by repeat (first|(with_reducible first|exact HB.out|apply ze|apply zd|apply zf)|exact HB.out))));have n6_:=zm (zJ (by repeat (first|(with_reducible first|exact HB.out|apply ze|apply zd|apply zf)|exact HB.out)) hb);clear HO163;clear HO167;clear HO173;clear HO177;clear HO184;clear HB;clear HO188;have HO163:=n0_;have HO167:=n1_;have HO173:=n2_;have HO177:=n3_;have HO184:=n4_;have HO191:=n5_;have HB:=n6_;clear n0_ n1_ n2_ n3_ n4_ n5_ n6_;clear hb ho39;obtain ⟨Ao40,co40,eo40⟩:=Kd.N_slice HO177.out;subst eo40;obtain ⟨Ao41,co41,eo41⟩:=Kd.N_slice HO191.out;subst eo41)|(go_at_call 17;(with_reducible refine (psalteryref12_Same.calls k _ _ t174 _ _ y189 true _ ?side1 ?side2 ?side3 ?side4 A8.out).mono ?_);(case side1=>repeat (first|exact (Kd.N_reads' HO177.out).2.2|(with_reducible refine Kd.C_alloc ?_ _)|(with_reducible refine Kd.C_drewN ?_ _)|(with_reducible refine Kd.C_drew ?_)));(case side2=>exact (Kd.N_reads' HO177.out).2.1);(case side3=>repeat (first|exact (Kd.N_reads' HO191.out).2.2|(with_reducible refine Kd.C_alloc ?_ _)|(with_reducible refine Kd.C_drewN ?_ _)|(with_reducible refine Kd.C_drew ?_)));(case side4=>exact (Kd.N_reads' HO191.out).2.1);rintro e w' ⟨rfl,⟨nd,rfl⟩⟩)|(go_at_call 9;(with_reducible refine (alloc_Right.calls 17 2 true _ A11.out).mono ?_);rintro e w' ⟨rfl,⟨nd,rfl⟩⟩)|(go_at_call 9;(with_reducible refine (alloc_Right.calls 16 2 t194 _ A13.out).mono ?_);rintro e w' ⟨rfl,⟨nd,rfl⟩⟩))
       go_ret
       exact ⟨by first|rfl|(simp [errW_none,errW_some] <;> rfl)|(simp [*,errW_none,errW_some] <;> rfl),by repeat (first|(with_reducible first|exact HB.out|apply ze|apply zd|apply zf)|exact HB.out)⟩
      ·
       replace c12:=Bool.eq_false_iff.mpr c12
       subst c12
       have H1 : (none)=some r:=by rw [if_neg (show ¬ (false=true) by decide)] at H;exact H
       clear H;have H:=H1;clear H1
       exact absurd H (by simp)
     ·
      rw [if_neg c10] at H
      exact absurd H (by simp)
    ·
     replace c9:=Bool.eq_false_iff.mpr c9
     subst c9
     have H1 : (none)=some r:=by rw [if_neg (show ¬ (false=true) by decide)] at H;exact H
     clear H;have H:=H1;clear H1
     exact absurd H (by simp)
   ·
    rw [if_neg c7] at H
    exact absurd H (by simp)
  ·
   replace c6:=Bool.eq_false_iff.mpr c6
   subst c6
   have H1 : (none)=some r:=by rw [if_neg (show ¬ (false=true) by decide)] at H;exact H
   clear H;have H:=H1;clear H1
   exact absurd H (by simp)
 ·
  rw [if_neg c4] at H
  exact absurd H (by simp)

end Go.Proofs.Ytbaaedpjaanjnaa.Prt

namespace Go.Proofs.Ytbaaedpjaanjnaa.Prt
open Go.RowKit Go.Proofs.YtbaaedpjaanjnaaW.PrintWords Go.Proofs.YtbaaedpjaanjnaaW.PrintLast Go.Proofs.YtbaaedpjaanjnaaW.PrintMore
attribute [local go_sem] max2_int min2_int max_two min_two max_three min_three max_four min_four   -- for this text's walks alone
set_option linter.unusedVariables false
set_option linter.unusedSimpArgs false

/-! ### psalteryref10_Width: function 20 -/
def psalteryref10_Width.j0 : Nat→Int→Bool→Option (Int)
 | 0,_,_=>none
 | k+1,x3,x4=>if x4=true then (some 1) else (if x3=2 then (some 2) else (if x3=3 then (some 4) else (if x3=4 then (some 8) else (some 0))))
def psalteryref10_Width.f (k : Nat) (a0 : Int) : Option (Int):=if a0=0 then (psalteryref10_Width.j0 k a0 (a0 == 0)) else (psalteryref10_Width.j0 k a0 (a0 == 1))
theorem psalteryref10_Width.mono_l : ∀ k,(∀ y0 y1,LeO (psalteryref10_Width.j0 k y0 y1) (psalteryref10_Width.j0 (k+1) y0 y1))
 | 0=>fun _ _ r h=>by simp [psalteryref10_Width.j0] at h
 | k+1=>by
  have ih0:=psalteryref10_Width.mono_l k
  ·
   intro y0 y1
   unfold psalteryref10_Width.j0
   repeat' first
   | (with_reducible exact ih0 _ _)
   | (with_reducible exact LeO.refl _)
   | (with_reducible exact LeO.none _)
   | (with_reducible refine LeO.ite ?_ ?_)
   | (with_reducible refine LeO.bind ?_ (fun _ => ?_))
   | exact ih0 _ _
   | exact LeO.none _
   | refine LeO.ite ?_ ?_
   | refine LeO.bind ?_ (fun _ => ?_)
theorem psalteryref10_Width.mono : ∀ a0 k,LeO (psalteryref10_Width.f k a0) (psalteryref10_Width.f (k+1) a0):=by
 intro a0 k
 have ih0:=psalteryref10_Width.mono_l k
 unfold psalteryref10_Width.f
 repeat' first
   | (with_reducible exact ih0 _ _)
   | (with_reducible exact LeO.refl _)
   | (with_reducible exact LeO.none _)
   | (with_reducible refine LeO.ite ?_ ?_)
   | (with_reducible refine LeO.bind ?_ (fun _ => ?_))
   | exact ih0 _ _
   | exact LeO.none _
   | refine LeO.ite ?_ ?_
   | refine LeO.bind ?_ (fun _ => ?_)
set_option maxHeartbeats 8000000 in
set_option maxRecDepth 100000 in
theorem psalteryref10_Width.calls (k : Nat) (a0 : Int) (r : Int) (w : World) (h : psalteryref10_Width.f k a0=some r) :
  Calls Try.prog 20 #[.int .i64 a0] w fun e w' => e=.returned (.int .i64 r)∧Drawn0 w w' := by
 have H : (if a0=0 then (psalteryref10_Width.j0 k a0 (a0 == 0)) else (psalteryref10_Width.j0 k a0 (a0 == 1)))=some r:=h
 clear h;have HC2:=zm H;clear H
 go_enter Try.func20,Try.ntmps20
 go_upto_if 4 with (fail)
 go_cut [4] (fun v4 wc => ∃ (kq : Nat) (x4_1 : Bool),v4=.bool x4_1∧Aside0 (psalteryref10_Width.j0 kq a0 x4_1=some r)∧Aside0 (kq≤k)∧Drawn0 w wc)
 case first =>
  have H:=HC2.out;clear HC2
  by_cases c3 : a0=0
  ·
   rw [if_pos c3] at H
   have c3b0 : (a0 == 0)=true:=beq_iff_eq.mpr c3
   have c3b1 : (a0 != 0)=false:=bne_eq_false_iff_eq.mpr c3
   clear c3
   (first|rw [c3b0]|(simp only [i64_w,i32_w];rw [c3b0])|skip)
   have H' := zm H
   clear H
   go_wp2
   go_meet
   case rel=>exact ⟨_,((a0 == 0)),(by first|rfl|(simp;done)|(simp [*];done)),H',⟨by first|omega|exact Nat.le_refl _⟩,by repeat (first|exact Drawn0.refl _|apply Drawn0.step)⟩
  ·
   rw [if_neg c3] at H
   have c3b0 : (a0 == 0)=false:=beq_eq_false_iff_ne.mpr c3
   have c3b1 : (a0 != 0)=true:=bne_iff_ne.mpr c3
   (first|rw [c3b0]|(simp only [i64_w,i32_w];rw [c3b0])|skip)
   have H' := zm H
   clear H
   go_wp2
   go_meet
   case rel=>exact ⟨_,((a0 == 1)),(by first|rfl|(simp;done)|(simp [*];done)),H',⟨by first|omega|exact Nat.le_refl _⟩,by repeat (first|exact Drawn0.refl _|apply Drawn0.step)⟩
 case rest =>
  clear HC2
  try clear c2
  try clear p2
  try clear c3
  try clear c3b0
  try clear c3b1
  obtain ⟨kq,x4_1,rfl,HA,HJ1,⟨mc1,rfl⟩⟩:=hcut
  cases kq with
  | zero=>exact absurd HA.out (by simp [psalteryref10_Width.j0])
  | succ kj1 =>
   have H:=HA.out;clear HA
   simp only [psalteryref10_Width.j0] at H
   by_cases c4 : x4_1=true
   ·
    subst c4
    have H1 : (some 1)=some r:=by rw [if_pos rfl] at H;exact H
    clear H;have H:=H1;clear H1
    obtain rfl:=Option.some.inj H
    go_wp2
    go_ret
    exact ⟨by first|rfl|(simp;done)|(simp [*];done),by repeat (first|exact Drawn0.refl _|apply Drawn0.step)⟩
   ·
    replace c4:=Bool.eq_false_iff.mpr c4
    subst c4
    have H1 : (if a0=2 then (some 2) else (if a0=3 then (some 4) else (if a0=4 then (some 8) else (some 0))))=some r:=by rw [if_neg (show ¬ (false=true) by decide)] at H;exact H
    clear H;have H:=H1;clear H1
    by_cases c5 : a0=2
    ·
     rw [if_pos c5] at H
     have c5b0 : (a0 == 2)=true:=beq_iff_eq.mpr c5
     have c5b1 : (a0 != 2)=false:=bne_eq_false_iff_eq.mpr c5
     clear c5
     obtain rfl:=Option.some.inj H
     go_wp2
     go_ret
     exact ⟨by first|rfl|(simp;done)|(simp [*];done),by repeat (first|exact Drawn0.refl _|apply Drawn0.step)⟩
    ·
     rw [if_neg c5] at H
     have c5b0 : (a0 == 2)=false:=beq_eq_false_iff_ne.mpr c5
     have c5b1 : (a0 != 2)=true:=bne_iff_ne.mpr c5
     by_cases c6 : a0=3
     ·
      rw [if_pos c6] at H
      have c6b0 : (a0 == 3)=true:=beq_iff_eq.mpr c6
      have c6b1 : (a0 != 3)=false:=bne_eq_false_iff_eq.mpr c6
      clear c6
      obtain rfl:=Option.some.inj H
      go_wp2
      go_ret
      exact ⟨by first|rfl|(simp;done)|(simp [*];done),by repeat (first|exact Drawn0.refl _|apply Drawn0.step)⟩
     ·
      rw [if_neg c6] at H
      have c6b0 : (a0 == 3)=false:=beq_eq_false_iff_ne.mpr c6
      have c6b1 : (a0 != 3)=true:=bne_iff_ne.mpr c6
      by_cases c7 : a0=4
      ·
       rw [if_pos c7] at H
       have c7b0 : (a0 == 4)=true:=beq_iff_eq.mpr c7
       have c7b1 : (a0 != 4)=false:=bne_eq_false_iff_eq.mpr c7
       clear c7
       obtain rfl:=Option.some.inj H
       go_wp2
       go_ret
       exact ⟨by first|rfl|(simp;done)|(simp [*];done),by repeat (first|exact Drawn0.refl _|apply Drawn0.step)⟩
      ·
       rw [if_neg c7] at H
       have c7b0 : (a0 == 4)=false:=beq_eq_false_iff_ne.mpr c7
       have c7b1 : (a0 != 4)=true:=bne_iff_ne.mpr c7
       obtain rfl:=Option.some.inj H
       go_wp2
       go_ret
       exact ⟨by first|rfl|(simp;done)|(simp [*];done),by repeat (first|exact Drawn0.refl _|apply Drawn0.step)⟩

end Go.Proofs.Ytbaaedpjaanjnaa.Prt

namespace Go.Proofs.Ytbaaedpjaanjnaa.Prt
open Go.RowKit Go.Proofs.YtbaaedpjaanjnaaW.PrintWords Go.Proofs.YtbaaedpjaanjnaaW.PrintLast Go.Proofs.YtbaaedpjaanjnaaW.PrintMore
attribute [local go_sem] max2_int min2_int max_two min_two max_three min_three max_four min_four   -- for this text's walks alone
set_option linter.unusedVariables false
set_option linter.unusedSimpArgs false

/-! ### psalteryref12_More: function 30 -/
def psalteryref12_More.f (l0 : List Int) (a1 : Int) : Option (List Int):=(some (([] : List Int) : List Int)).bind fun y227=>(if y227.length+l0.length < 17592186044416 then ((some (y227 ++ l0 : List Int)).bind fun y230=>(if 0≤a1 then (if a1 < (y230.length : Int) then (some (y230.set (a1 : Int).toNat (wrap64 ((rd y230 a1)+1)))) else (none)) else (none))) else (none))
set_option maxHeartbeats 8000000 in
set_option maxRecDepth 100000 in
theorem psalteryref12_More.calls (A0 : Option Addr) (c0 : Nat) (l0 : List Int) (a1 : Int) (r : List Int) (w : World) (hr0 : Kd.C (Kd.int .i64) w A0 l0.length l0) (hc0 : l0.length≤c0) (h : psalteryref12_More.f l0 a1=some r) :
  Calls Try.prog 30 #[.slice A0 l0.length c0, .int .i64 a1] w fun e w' => ∃ v0_ : Value,e=.returned (v0_)∧Kd.R (Kd.int .i64) 3 w' w.heap.size (fun _=>True) v0_ r∧Below w.heap.size w w' := by
 have HR0:=zm hr0;have HC0:=zm hc0;clear hr0 hc0;have HB:=zm (Below.refl w.heap.size w)
 have H : ((some (([] : List Int) : List Int)).bind fun y227=>(if y227.length+l0.length < 17592186044416 then ((some (y227 ++ l0 : List Int)).bind fun y230=>(if 0≤a1 then (if a1 < (y230.length : Int) then (some (y230.set (a1 : Int).toNat (wrap64 ((rd y230 a1)+1)))) else (none)) else (none))) else (none)))=some r:=h
 clear h
 obtain ⟨y227,hy227⟩ : ∃ y_ : List Int,y_=(([] : List Int)):=⟨_,rfl⟩
 replace H : (if y227.length+l0.length < 17592186044416 then ((some (y227 ++ l0 : List Int)).bind fun y230=>(if 0≤a1 then (if a1 < (y230.length : Int) then (some (y230.set (a1 : Int).toNat (wrap64 ((rd y230 a1)+1)))) else (none)) else (none))) else (none))=some r:=by first|(rw [hy227];with_reducible exact H)|(have H2_:=(Option.bind_some _ _).symm.trans H;rw [hy227];with_reducible exact H2_)|(have H2_:=(Option.bind_some _ _).symm.trans H;with_reducible exact H2_)|with_reducible exact H|(rw [hy227];exact H)|exact H
 have Ny227:=zm hy227;clear hy227
 by_cases c3 : y227.length+l0.length < 17592186044416
 ·
  rw [if_pos c3] at H
  have LMc3:=zm c3;clear c3
  obtain ⟨y230,hy230⟩ : ∃ y_ : List Int,y_=(y227 ++ l0):=⟨_,rfl⟩
  replace H : (if 0≤a1 then (if a1 < (y230.length : Int) then (some (y230.set (a1 : Int).toNat (wrap64 ((rd y230 a1)+1)))) else (none)) else (none))=some r:=by first|(rw [hy230];with_reducible exact H)|(have H2_:=(Option.bind_some _ _).symm.trans H;rw [hy230];with_reducible exact H2_)|(have H2_:=(Option.bind_some _ _).symm.trans H;with_reducible exact H2_)|with_reducible exact H|(rw [hy230];exact H)|exact H
  have Ny230:=zm hy230;clear hy230
  by_cases c4 : 0≤a1
  ·
   rw [if_pos c4] at H
   have c4b0 : decide (0≤a1)=true:=decide_eq_true c4
   clear c4
   by_cases c5 : a1 < (y230.length : Int)
   ·
    rw [if_pos c5] at H
    have c5b0 : decide (a1 < (y230.length : Int))=true:=decide_eq_true c5
    clear c5
    obtain ⟨y234,hy234⟩ : ∃ y_ : List Int,y_=(y230.set (a1 : Int).toNat (wrap64 ((rd y230 a1)+1))):=⟨_,rfl⟩
    replace H : (some y234)=some r:=by first|(rw [hy234];with_reducible exact H)|(have H2_:=(Option.bind_some _ _).symm.trans H;rw [hy234];with_reducible exact H2_)|(have H2_:=(Option.bind_some _ _).symm.trans H;with_reducible exact H2_)|with_reducible exact H|(rw [hy234];exact H)|exact H
    have Ny234:=zm hy234;clear hy234
    obtain rfl:=Option.some.inj H
    go_enter Try.func30,Try.ntmps30
    go_wp2_with (first|((with_reducible refine gate_dst (N:=6) rfl ?_);refine Kd.R_lit (Kd.int .i64) _ 3 ?hg (N:=6) ?hd (xs:=([] : List Int)) (inner := []) (ok:=fun _=>True) (okp:=fun _=>True) ?hr ?hp (fun _ hk=>hk) trivial (Below.refl _ _) (Nat.le_refl _) (by simp) ?_;(case hd=>rfl);(case hg=>rfl);(case hr=>first|(go_simp;done)|(go_simp;rfl));(case hp=>exact (Reps.none _ _));intro v228 w7 ho8 hb hg_ hnew_;clear hg_ hnew_;(first|rw [← Ny227.out] at ho8|(simp only [Int.reduceToNat] at ho8;rw [← Ny227.out] at ho8));have n0_:=zm (Kd.R_lower ho8 (zE (by repeat (first|(with_reducible first|exact HB.out|apply ze|apply zd|apply zf)|exact HB.out))));have n1_:=zm (zJ (by repeat (first|(with_reducible first|exact HB.out|apply ze|apply zd|apply zf)|exact HB.out)) hb);clear HB;have HO229:=n0_;have HB:=n1_;clear n0_ n1_;clear hb ho8)|((with_reducible refine gate_builtin (b:=.append) (xs := #[.tmp 6, .tmp 7]) rfl ?_);at_builtin;refine Kd.R_append_rows (Kd.int .i64) (w0:=w) w.heap.size rfl (.tmp 6) (.tmp 7) 34 3 (.int .i64 0) 8 rfl Try.underlying34 info3 rfl (by decide) (by omega) v228 y227 l0 _ _ _ (fun _=>True) (fun _=>False) rfl rfl ?aO ?aR (fun _ _ h=>h) (fun _ h=>h.elim) ?aF ?aB ?aS ?aL ?_;(case aR=>repeat (first|exact (Kd.C_below HR0.out HB.out)|(with_reducible refine Kd.C_alloc ?_ _)|(with_reducible refine Kd.C_drewN ?_ _)|(with_reducible refine Kd.C_drew ?_)));(case aB=>exact (by repeat (first|(with_reducible first|exact HB.out|apply ze|apply zd|apply zf)|exact HB.out)));(case aF=>exact (fun _ _=>trivial));(case aO=>exact (by (with_reducible repeat (first|apply zo|apply zp|apply zq));exact HO229.out));(case aS=>exact (zE (by repeat (first|(with_reducible first|exact HB.out|apply ze|apply zd|apply zf)|exact HB.out))));(case aL=>have:=LMc3.out;omega);intro v231 w9 ho hb hg hat;rw [← Ny230.out] at ho;have n0_:=zm (hb);have n1_:=zm (ho);clear HB;clear HO229;have HB:=n0_;have HO232:=n1_;clear n0_ n1_;clear ho hb hg hat;obtain ⟨Ao10,co10,eo10⟩:=Kd.R_slice HO232.out;subst eo10;have p233 : 0≤(a1 : Int):=of_decide_eq_true (by first|(with_reducible assumption)|assumption);have q233 : a1 < (y230.length : Int):=of_decide_eq_true (by first|(with_reducible assumption)|assumption);obtain ⟨ad233,e233,hx233_0⟩:=Kd.at_int (Kd.R_reads' HO232.out).2.2 a1 p233 q233;cases e233;replace p233:=eq_true p233;replace q233:=eq_true q233;have p6 : 0≤(a1 : Int):=of_decide_eq_true (by first|(with_reducible assumption)|assumption);have q6 : (a1 : Int) < ((y230.length : Int) : Int):=of_decide_eq_true (by first|(with_reducible assumption)|assumption);obtain ⟨go6,co6,eo6,gb6,gl6,cl6,HG6⟩:=Kd.R_form HO232.out (by omega);(first|cases eo6|(injection eo6 with ea_ en_ ec_;(first|subst ea_|(injection ea_ with ea_;subst ea_));subst ec_;clear en_));have GB6:=zm gb6;have GG6:=zm HG6;clear gb6 gl6 HG6;(first|simp only [add_plain] at hx233_0|skip);obtain ⟨hx6_0,hf6_0⟩:=Kd.R_celln 0 HO232.out (a1 : Int) p6 q6;replace p6:=eq_true p6;replace q6:=eq_true q6;obtain ⟨hy11_,hz11_⟩:=Kd.R_celln 0 HO232.out (a1 : Int) (of_decide_eq_true (by first|(with_reducible assumption)|assumption)) (of_decide_eq_true (by first|(with_reducible assumption)|assumption));have HP11:=Kd.R_putg HO232.out (a1 : Int) (wrap64 ((rd y230 a1)+1)))|((with_reducible refine gate_store (t:=3) (p:=16) rfl ?_);refine store_event (t:=3) (p:=16) (v := ?vo_w12) (w1:=(w9.setCell ⟨go6,(a1 : Int).toNat,none⟩ (.int .i64 (wrap64 ((rd y230 a1)+1))))) ?hg ?ho ?hn ?hr ?_;(case ho=>rfl);(case hg=>rfl);(case hn=>rfl);(case hr=>first|(go_simp;done)|(go_simp;rfl));intro w12 hw;have hg : w9.grownBy w12 (some go6):=(by rw [hw];exact HP11.2);have hp_ : Kd.R (Kd.int .i64) 3 w12 w.heap.size (fun _=>True) (.slice (some ⟨go6,0,none⟩) y230.length co10) y234:=(by rw [hw,Ny234.out];exact HP11.1);clear HP11;have n0_:=zm (hp_);have n1_:=zm ((by rw [hw];exact zk (HB.out) GB6.out : Below w.heap.size w w12));clear HO232;clear HB;have HO232:=n0_;have HB:=n1_;clear n0_ n1_;clear hg hw hp_))
    go_ret
    exact ⟨_,by first|rfl|(simp [errW_none,errW_some] <;> rfl)|(simp [*,errW_none,errW_some] <;> rfl),by (with_reducible repeat (first|apply zo|apply zp|apply zq));exact HO232.out,by repeat (first|(with_reducible first|exact HB.out|apply ze|apply zd|apply zf)|exact HB.out)⟩
   ·
    rw [if_neg c5] at H
    exact absurd H (by simp)
  ·
   rw [if_neg c4] at H
   exact absurd H (by simp)
 ·
  rw [if_neg c3] at H
  exact absurd H (by simp)

end Go.Proofs.Ytbaaedpjaanjnaa.Prt

namespace Go.Proofs.Ytbaaedpjaanjnaa.Prt
open Go.RowKit Go.Proofs.YtbaaedpjaanjnaaW.PrintWords Go.Proofs.YtbaaedpjaanjnaaW.PrintLast Go.Proofs.YtbaaedpjaanjnaaW.PrintMore
attribute [local go_sem] max2_int min2_int max_two min_two max_three min_three max_four min_four   -- for this text's walks alone
set_option linter.unusedVariables false
set_option linter.unusedSimpArgs false

/-! ### psalteryref03_Log2: function 35 -/
def psalteryref03_Log2.f : Nat→Int→Option (Int)
 | 0,_=>none
 | k+1,a0=>if a0=0 then (some (-1)) else ((psalteryref03_Log2.f k (IntKind.u64.wrap (Int.tdiv a0 2))).bind fun t220=>(some (wrap64 (1+t220))))
theorem psalteryref03_Log2.mono_l : ∀ k,(∀ y0,LeO (psalteryref03_Log2.f k y0) (psalteryref03_Log2.f (k+1) y0))
 | 0=>fun _ r h=>by simp [psalteryref03_Log2.f] at h
 | k+1=>by
  have ih0:=psalteryref03_Log2.mono_l k
  ·
   intro y0
   unfold psalteryref03_Log2.f
   repeat' first
   | (with_reducible exact ih0 _)
   | (with_reducible exact LeO.refl _)
   | (with_reducible exact LeO.none _)
   | (with_reducible refine LeO.ite ?_ ?_)
   | (with_reducible refine LeO.bind ?_ (fun _ => ?_))
   | exact ih0 _
   | exact LeO.none _
   | refine LeO.ite ?_ ?_
   | refine LeO.bind ?_ (fun _ => ?_)
theorem psalteryref03_Log2.mono : ∀ a0 k,LeO (psalteryref03_Log2.f k a0) (psalteryref03_Log2.f (k+1) a0):=by
 intro a0 k
 have ih0:=psalteryref03_Log2.mono_l k
 exact ih0 a0
set_option maxHeartbeats 8000000 in
set_option maxRecDepth 100000 in
theorem psalteryref03_Log2.calls (k : Nat) : ∀ (a0 : Int) (r : Int) (w : World) (h : psalteryref03_Log2.f k a0=some r),
  Calls Try.prog 35 #[.int .u64 a0] w fun e w' => e=.returned (.int .i64 r)∧Drawn0 w w' := by
 induction k using Nat.strongRecOn with
 | _ k ih =>
 intro a0 r w h
 cases k with
 | zero=>exact absurd h (by simp [psalteryref03_Log2.f])
 | succ k =>
 simp only [psalteryref03_Log2.f] at h
 have H : (if a0=0 then (some (-1)) else ((psalteryref03_Log2.f k (IntKind.u64.wrap (Int.tdiv a0 2))).bind fun t220=>(some (wrap64 (1+t220)))))=some r:=h
 clear h
 by_cases c2 : a0=0
 ·
  rw [if_pos c2] at H
  have c2b0 : (a0 == 0)=true:=beq_iff_eq.mpr c2
  have c2b1 : (a0 != 0)=false:=bne_eq_false_iff_eq.mpr c2
  clear c2
  obtain rfl:=Option.some.inj H
  go_enter Try.func35,Try.ntmps35
  go_wp2
  go_ret
  exact ⟨by first|rfl|(simp;done)|(simp [*];done),by repeat (first|exact Drawn0.refl _|apply Drawn0.step)⟩
 ·
  rw [if_neg c2] at H
  have c2b0 : (a0 == 0)=false:=beq_eq_false_iff_ne.mpr c2
  have c2b1 : (a0 != 0)=true:=bne_iff_ne.mpr c2
  replace H:=Option.bind_eq_some_iff.mp H
  obtain ⟨t220,A30,H⟩:=H
  replace H : (some (wrap64 (1+t220)))=some r:=H
  have A3:=zm A30;clear A30
  obtain rfl:=Option.some.inj H
  go_enter Try.func35,Try.ntmps35
  go_wp2_with (first|((with_reducible refine gate_callee (f:=35) rfl ?_);refine goesL_ (some 7) rfl rfl Try.func35 (by kernel_rfl) rfl #[.int .u64 (IntKind.u64.wrap (Int.tdiv a0 2))] rfl (by (try simp only [List.map_toArray,List.map_cons,List.map_nil]);first|done|rfl|(simp only [List.length_drop,List.length_take];rfl)) ?_;(with_reducible refine (ih k (by omega) (IntKind.u64.wrap (Int.tdiv a0 2)) t220 _ A3.out).mono ?_);rintro e w' ⟨rfl,⟨nd,rfl⟩⟩;refine ⟨_,rfl, ?_⟩))
  go_ret
  exact ⟨by first|rfl|(simp;done)|(simp [*];done),by repeat (first|exact Drawn0.refl _|apply Drawn0.step)⟩

end Go.Proofs.Ytbaaedpjaanjnaa.Prt

namespace Go.Proofs.Ytbaaedpjaanjnaa.Prt
open Go.RowKit Go.Proofs.YtbaaedpjaanjnaaW.PrintWords Go.Proofs.YtbaaedpjaanjnaaW.PrintLast Go.Proofs.YtbaaedpjaanjnaaW.PrintMore
attribute [local go_sem] max2_int min2_int max_two min_two max_three min_three max_four min_four   -- for this text's walks alone
set_option linter.unusedVariables false
set_option linter.unusedSimpArgs false

/-! ### psalteryref06_Row: function 39 -/
mutual
def psalteryref06_Row.l0 : Nat→Int→List Int→Int→Option (List Int)
 | 0,_,_,_=>none
 | k+1,x0,x3,x4=>if x4≤12 then (if x4=0 then (if x3.length < 17592186044416 then (psalteryref06_Row.l0 k x0 (x3 ++ [1]) (wrap64 (x4+1))) else (none)) else (if x3.length < 17592186044416 then (psalteryref06_Row.l0 k x0 (x3 ++ [0]) (wrap64 (x4+1))) else (none))) else (psalteryref06_Row.l1 k x0 x3 0)
def psalteryref06_Row.l1 : Nat→Int→List Int→Int→Option (List Int)
 | 0,_,_,_=>none
 | k+1,x0,x3,x5=>if x5 < x0 then (psalteryref06_Row.l2 k x0 x3 x5 ([] : List Int) 0) else (some x3)
def psalteryref06_Row.l2 : Nat→Int→List Int→Int→List Int→Int→Option (List Int)
 | 0,_,_,_,_,_=>none
 | k+1,x0,x3,x5,x6,x7=>if x7≤12 then (if 0≤x7 then (if x7 < (x3.length : Int) then (psalteryref06_Row.l3 k x0 x3 x5 x6 x7 (rd x3 x7) 1) else (none)) else (none)) else (psalteryref06_Row.l1 k x0 x6 (wrap64 (x5+1)))
def psalteryref06_Row.l3 : Nat→Int→List Int→Int→List Int→Int→Int→Int→Option (List Int)
 | 0,_,_,_,_,_,_,_=>none
 | k+1,x0,x3,x5,x6,x7,x8,x9=>if x9≤x7 then (if 0≤(wrap64 (x7 - x9)) then (if (wrap64 (x7 - x9)) < (x3.length : Int) then (psalteryref06_Row.l3 k x0 x3 x5 x6 x7 (IntKind.u64.wrap (x8+(IntKind.u64.wrap (2 * (rd x3 (wrap64 (x7 - x9))))))) (wrap64 (x9+1))) else (none)) else (none)) else (if x6.length < 17592186044416 then (psalteryref06_Row.l2 k x0 x3 x5 (x6 ++ [x8]) (wrap64 (x7+1))) else (none))
end
def psalteryref06_Row.f (k : Nat) (a0 : Int) : Option (List Int):=psalteryref06_Row.l0 k a0 ([] : List Int) 0
theorem psalteryref06_Row.mono_l : ∀ k,(∀ y0 y1 y2,LeO (psalteryref06_Row.l0 k y0 y1 y2) (psalteryref06_Row.l0 (k+1) y0 y1 y2))∧(∀ y0 y1 y2,LeO (psalteryref06_Row.l1 k y0 y1 y2) (psalteryref06_Row.l1 (k+1) y0 y1 y2))∧(∀ y0 y1 y2 y3 y4,LeO (psalteryref06_Row.l2 k y0 y1 y2 y3 y4) (psalteryref06_Row.l2 (k+1) y0 y1 y2 y3 y4))∧(∀ y0 y1 y2 y3 y4 y5 y6,LeO (psalteryref06_Row.l3 k y0 y1 y2 y3 y4 y5 y6) (psalteryref06_Row.l3 (k+1) y0 y1 y2 y3 y4 y5 y6))
 | 0=>⟨fun _ _ _ r h=>by simp [psalteryref06_Row.l0] at h,fun _ _ _ r h=>by simp [psalteryref06_Row.l1] at h,fun _ _ _ _ _ r h=>by simp [psalteryref06_Row.l2] at h,fun _ _ _ _ _ _ _ r h=>by simp [psalteryref06_Row.l3] at h⟩
 | k+1=>by
  obtain ⟨ih0,ih1,ih2,ih3⟩:=psalteryref06_Row.mono_l k
  refine ⟨?_, ?_, ?_, ?_⟩
  ·
   intro y0 y1 y2
   unfold psalteryref06_Row.l0
   repeat' first
   | (with_reducible exact ih0 _ _ _)
   | (with_reducible exact ih1 _ _ _)
   | (with_reducible exact ih2 _ _ _ _ _)
   | (with_reducible exact ih3 _ _ _ _ _ _ _)
   | (with_reducible exact LeO.refl _)
   | (with_reducible exact LeO.none _)
   | (with_reducible refine LeO.ite ?_ ?_)
   | (with_reducible refine LeO.bind ?_ (fun _ => ?_))
   | exact ih0 _ _ _
   | exact ih1 _ _ _
   | exact ih2 _ _ _ _ _
   | exact ih3 _ _ _ _ _ _ _
   | exact LeO.none _
   | refine LeO.ite ?_ ?_
   | refine LeO.bind ?_ (fun _ => ?_)
  ·
   intro y0 y1 y2
   unfold psalteryref06_Row.l1
   repeat' first
   | (with_reducible exact ih0 _ _ _)
   | (with_reducible exact ih1 _ _ _)
   | (with_reducible exact ih2 _ _ _ _ _)
   | (with_reducible exact ih3 _ _ _ _ _ _ _)
   | (with_reducible exact LeO.refl _)
   | (with_reducible exact LeO.none _)
   | (with_reducible refine LeO.ite ?_ ?_)
   | (with_reducible refine LeO.bind ?_ (fun _ => ?_))
   | exact ih0 _ _ _
   | exact ih1 _ _ _
   | exact ih2 _ _ _ _ _
   | exact ih3 _ _ _ _ _ _ _
   | exact LeO.none _
   | refine LeO.ite ?_ ?_
   | refine LeO.bind ?_ (fun _ => ?_)
  ·
   intro y0 y1 y2 y3 y4
   unfold psalteryref06_Row.l2
   repeat' first
   | (with_reducible exact ih0 _ _ _)
   | (with_reducible exact ih1 _ _ _)
   | (with_reducible exact ih2 _ _ _ _ _)
   | (with_reducible exact ih3 _ _ _ _ _ _ _)
   | (with_reducible exact LeO.refl _)
   | (with_reducible exact LeO.none _)
   | (with_reducible refine LeO.ite ?_ ?_)
   | (with_reducible refine LeO.bind ?_ (fun _ => ?_))
   | exact ih0 _ _ _
   | exact ih1 _ _ _
   | exact ih2 _ _ _ _ _
   | exact ih3 _ _ _ _ _ _ _
   | exact LeO.none _
   | refine LeO.ite ?_ ?_
   | refine LeO.bind ?_ (fun _ => ?_)
  ·
   intro y0 y1 y2 y3 y4 y5 y6
   unfold psalteryref06_Row.l3
   repeat' first
   | (with_reducible exact ih0 _ _ _)
   | (with_reducible exact ih1 _ _ _)
   | (with_reducible exact ih2 _ _ _ _ _)
   | (with_reducible exact ih3 _ _ _ _ _ _ _)
   | (with_reducible exact LeO.refl _)
   | (with_reducible exact LeO.none _)
   | (with_reducible refine LeO.ite ?_ ?_)
   | (with_reducible refine LeO.bind ?_ (fun _ => ?_))
   | exact ih0 _ _ _
   | exact ih1 _ _ _
   | exact ih2 _ _ _ _ _
   | exact ih3 _ _ _ _ _ _ _
   | exact LeO.none _
   | refine LeO.ite ?_ ?_
   | refine LeO.bind ?_ (fun _ => ?_)
theorem psalteryref06_Row.mono : ∀ a0 k,LeO (psalteryref06_Row.f k a0) (psalteryref06_Row.f (k+1) a0):=by
 intro a0 k
 obtain ⟨ih0,ih1,ih2,ih3⟩:=psalteryref06_Row.mono_l k
 unfold psalteryref06_Row.f
 repeat' first
   | (with_reducible exact ih0 _ _ _)
   | (with_reducible exact ih1 _ _ _)
   | (with_reducible exact ih2 _ _ _ _ _)
   | (with_reducible exact ih3 _ _ _ _ _ _ _)
   | (with_reducible exact LeO.refl _)
   | (with_reducible exact LeO.none _)
   | (with_reducible refine LeO.ite ?_ ?_)
   | (with_reducible refine LeO.bind ?_ (fun _ => ?_))
   | exact ih0 _ _ _
   | exact ih1 _ _ _
   | exact ih2 _ _ _ _ _
   | exact ih3 _ _ _ _ _ _ _
   | exact LeO.none _
   | refine LeO.ite ?_ ?_
   | refine LeO.bind ?_ (fun _ => ?_)
set_option maxHeartbeats 8000000 in
set_option maxRecDepth 100000 in
theorem psalteryref06_Row.calls (k : Nat) (a0 : Int) (r : List Int) (w : World) (h : psalteryref06_Row.f k a0=some r) :
  Calls Try.prog 39 #[.int .i64 a0] w fun e w' => ∃ v0_ : Value,e=.returned (v0_)∧Kd.R (Kd.int .u64) 48 w' w.heap.size (fun _=>True) v0_ r∧Below w.heap.size w w' := by
 have HB:=zm (Below.refl w.heap.size w)
 have H : (psalteryref06_Row.l0 k a0 ([] : List Int) 0)=some r:=h
 clear h
 have H' := zm H
 clear H
 go_enter Try.func39,Try.ntmps39
 go_wp2
 go_loopg [3,4] k (fun kq v3 v4 w' => ∃ (x3_1 : List Int) (x4_1 : Int),v4=.int .i64 x4_1∧Aside0 (psalteryref06_Row.l0 kq a0 x3_1 x4_1=some r)∧Aside0 (kq≤k)∧Aside0 (Kd.R (Kd.int .u64) 48 w' w.heap.size (fun _=>True) v3 x3_1)∧Aside0 (Below w.heap.size w w'))
 case atStart=>exact ⟨(([] : List Int)),(0),(by first|rfl|(simp;done)|(simp [*];done)),H',⟨Nat.le_refl _⟩,⟨by first|exact Kd.R_nil _ _ _ _ _|exact Kd.N_nil _ _ _ _ _|exact Kd.V_nil _ _ _ _ _|exact Kd.Q_nil _ _ _ _ _|exact Kd.S_nil _ _ _ _ _⟩,⟨by repeat (first|(with_reducible first|exact HB.out|apply ze|apply zd|apply zf)|exact HB.out)⟩⟩
 case round =>
  clear H'
  obtain ⟨x3_1,x4_1,rfl,HA,HK1,HO_3,HB⟩:=hrel
  cases gk with
  | zero=>exact absurd HA.out (by simp [psalteryref06_Row.l0])
  | succ k1 =>
   have H:=HA.out;clear HA
   simp only [psalteryref06_Row.l0] at H
   by_cases c2 : x4_1≤12
   ·
    rw [if_pos c2] at H
    have c2b0 : decide (x4_1≤12)=true:=decide_eq_true c2
    clear c2
    by_cases c3 : x4_1=0
    ·
     rw [if_pos c3] at H
     have c3b0 : (x4_1 == 0)=true:=beq_iff_eq.mpr c3
     have c3b1 : (x4_1 != 0)=false:=bne_eq_false_iff_eq.mpr c3
     clear c3
     by_cases c4 : x3_1.length < 17592186044416
     ·
      rw [if_pos c4] at H
      have LMc4:=zm c4;clear c4
      obtain ⟨y205,hy205⟩ : ∃ y_ : List Int,y_=(x3_1 ++ [1]):=⟨_,rfl⟩
      replace H : (psalteryref06_Row.l0 k1 a0 y205 (wrap64 (x4_1+1)))=some r:=by first|(rw [hy205];with_reducible exact H)|(have H2_:=(Option.bind_some _ _).symm.trans H;rw [hy205];with_reducible exact H2_)|(have H2_:=(Option.bind_some _ _).symm.trans H;with_reducible exact H2_)|with_reducible exact H|(rw [hy205];exact H)|exact H
      have Ny205:=zm hy205;clear hy205
      have H' := zm H
      clear H
      go_wp2_with (first|((with_reducible refine gate_builtin (b:=.append) (xs := #[.tmp 16, .tmp 17]) rfl ?_);at_builtin;refine Kd.R_append (Kd.int .u64) (w0:=w) w.heap.size rfl (.tmp 16) (.tmp 17) 54 48 (.int .u64 0) 8 rfl Try.underlying54 info48 rfl (by decide) (by omega) u3 x3_1 1 [.int .u64 1] (fun _=>True) (fun _=>False) rfl rfl ?aP (fun _ hk=>hk.elim) ?aF ?aO ?aB ?aS ?aL ?_;(case aP=>exact rfl);(case aB=>exact (by repeat (first|(with_reducible first|exact HB.out|apply ze|apply zd|apply zf)|exact HB.out)));(case aF=>exact (fun _ _=>trivial));(case aO=>exact (by (with_reducible repeat (first|apply zo|apply zp|apply zq));exact HO_3.out));(case aS=>exact (zE (by repeat (first|(with_reducible first|exact HB.out|apply ze|apply zd|apply zf)|exact HB.out))));(case aL=>have:=LMc4.out;omega);intro v206 w5 ho hb hg hat;rw [← Ny205.out] at ho;have n0_:=zm (hb);have n1_:=zm (ho);clear HB;clear HO_3;have HB:=n0_;have HO207:=n1_;clear n0_ n1_;clear ho hb hg hat))
      go_roundg k1
      case measure=>have:=HK1.out;omega
      case rel=>exact ⟨(y205),(wrap64 (x4_1+1)),(by first|rfl|(simp;done)|(simp [*];done)),H',⟨by have:=HK1.out;omega⟩,⟨by (with_reducible repeat (first|apply zo|apply zp|apply zq));exact HO207.out⟩,⟨by repeat (first|(with_reducible first|exact HB.out|apply ze|apply zd|apply zf)|exact HB.out)⟩⟩
     ·
      rw [if_neg c4] at H
      exact absurd H (by simp)
    ·
     rw [if_neg c3] at H
     have c3b0 : (x4_1 == 0)=false:=beq_eq_false_iff_ne.mpr c3
     have c3b1 : (x4_1 != 0)=true:=bne_iff_ne.mpr c3
     by_cases c6 : x3_1.length < 17592186044416
     ·
      rw [if_pos c6] at H
      have LMc6:=zm c6;clear c6
      obtain ⟨y208,hy208⟩ : ∃ y_ : List Int,y_=(x3_1 ++ [0]):=⟨_,rfl⟩
      replace H : (psalteryref06_Row.l0 k1 a0 y208 (wrap64 (x4_1+1)))=some r:=by first|(rw [hy208];with_reducible exact H)|(have H2_:=(Option.bind_some _ _).symm.trans H;rw [hy208];with_reducible exact H2_)|(have H2_:=(Option.bind_some _ _).symm.trans H;with_reducible exact H2_)|with_reducible exact H|(rw [hy208];exact H)|exact H
      have Ny208:=zm hy208;clear hy208
      have H' := zm H
      clear H
      go_wp2_with (first|((with_reducible refine gate_builtin (b:=.append) (xs := #[.tmp 19, .tmp 20]) rfl ?_);at_builtin;refine Kd.R_append (Kd.int .u64) (w0:=w) w.heap.size rfl (.tmp 19) (.tmp 20) 54 48 (.int .u64 0) 8 rfl Try.underlying54 info48 rfl (by decide) (by omega) u3 x3_1 0 [.int .u64 0] (fun _=>True) (fun _=>False) rfl rfl ?aP (fun _ hk=>hk.elim) ?aF ?aO ?aB ?aS ?aL ?_;(case aP=>exact rfl);(case aB=>exact (by repeat (first|(with_reducible first|exact HB.out|apply ze|apply zd|apply zf)|exact HB.out)));(case aF=>exact (fun _ _=>trivial));(case aO=>exact (by (with_reducible repeat (first|apply zo|apply zp|apply zq));exact HO_3.out));(case aS=>exact (zE (by repeat (first|(with_reducible first|exact HB.out|apply ze|apply zd|apply zf)|exact HB.out))));(case aL=>have:=LMc6.out;omega);intro v209 w7 ho hb hg hat;rw [← Ny208.out] at ho;have n0_:=zm (hb);have n1_:=zm (ho);clear HB;clear HO_3;have HB:=n0_;have HO210:=n1_;clear n0_ n1_;clear ho hb hg hat))
      go_roundg k1
      case measure=>have:=HK1.out;omega
      case rel=>exact ⟨(y208),(wrap64 (x4_1+1)),(by first|rfl|(simp;done)|(simp [*];done)),H',⟨by have:=HK1.out;omega⟩,⟨by (with_reducible repeat (first|apply zo|apply zp|apply zq));exact HO210.out⟩,⟨by repeat (first|(with_reducible first|exact HB.out|apply ze|apply zd|apply zf)|exact HB.out)⟩⟩
     ·
      rw [if_neg c6] at H
      exact absurd H (by simp)
   ·
    rw [if_neg c2] at H
    have c2b0 : decide (x4_1≤12)=false:=decide_eq_false c2
    clear c2
    have H' := zm H
    clear H
    go_wp2
    go_loopg [3,5] k1 (fun kq v3 v5 w' => ∃ (x3_2 : List Int) (x5_2 : Int),v5=.int .i64 x5_2∧Aside0 (psalteryref06_Row.l1 kq a0 x3_2 x5_2=some r)∧Aside0 (kq≤k1)∧Aside0 (Kd.R (Kd.int .u64) 48 w' w.heap.size (fun _=>True) v3 x3_2)∧Aside0 (Below w.heap.size w w'))
    case atStart=>exact ⟨(x3_1),(0),(by first|rfl|(simp;done)|(simp [*];done)),H',⟨Nat.le_refl _⟩,⟨by (with_reducible repeat (first|apply zo|apply zp|apply zq));exact HO_3.out⟩,⟨by repeat (first|(with_reducible first|exact HB.out|apply ze|apply zd|apply zf)|exact HB.out)⟩⟩
    case round =>
     clear H'
     try clear c2
     try clear c2b0
     try clear p2
     try clear c3
     try clear c3b0
     try clear c3b1
     try clear c4
     try clear c6
     try clear p6
     obtain ⟨x3_2,x5_2,rfl,HA,HK2,HO_3,HB⟩:=hrel
     cases gk with
     | zero=>exact absurd HA.out (by simp [psalteryref06_Row.l1])
     | succ k2 =>
      have H:=HA.out;clear HA
      simp only [psalteryref06_Row.l1] at H
      by_cases c8 : x5_2 < a0
      ·
       rw [if_pos c8] at H
       have c8b0 : decide (x5_2 < a0)=true:=decide_eq_true c8
       clear c8
       have H' := zm H
       clear H
       go_wp2
       go_loopg [6,7] k2 (fun kq v6 v7 w' => ∃ (x6_3 : List Int) (x7_3 : Int),v7=.int .i64 x7_3∧Aside0 (psalteryref06_Row.l2 kq a0 x3_2 x5_2 x6_3 x7_3=some r)∧Aside0 (kq≤k2)∧Aside0 (Kd.R (Kd.int .u64) 48 w' w.heap.size (fun k_=>some k_≠(v6 : Value).ownBlock) u3 x3_2)∧Aside0 (Kd.R (Kd.int .u64) 48 w' w.heap.size (fun k_=>some k_≠(u3 : Value).ownBlock) v6 x6_3)∧Aside0 (Below w.heap.size w w'))
       case atStart=>exact ⟨(([] : List Int)),(0),(by first|rfl|(simp;done)|(simp [*];done)),H',⟨Nat.le_refl _⟩,⟨by (with_reducible repeat (first|apply zo|apply zp|apply zq));exact zG HO_3.out (fun _ hk=>(by simp [Value.ownBlock]))⟩,⟨by first|exact Kd.R_nil _ _ _ _ _|exact Kd.N_nil _ _ _ _ _|exact Kd.V_nil _ _ _ _ _|exact Kd.Q_nil _ _ _ _ _|exact Kd.S_nil _ _ _ _ _⟩,⟨by repeat (first|(with_reducible first|exact HB.out|apply ze|apply zd|apply zf)|exact HB.out)⟩⟩
       case round =>
        clear H'
        try clear c2
        try clear c2b0
        try clear p2
        try clear c3
        try clear c3b0
        try clear c3b1
        try clear c4
        try clear c6
        try clear p6
        try clear c8
        try clear c8b0
        try clear p2
        try clear p6
        obtain ⟨x6_3,x7_3,rfl,HA,HK3,HO_3,HO_6,HB⟩:=hrel
        cases gk with
        | zero=>exact absurd HA.out (by simp [psalteryref06_Row.l2])
        | succ k3 =>
         have H:=HA.out;clear HA
         simp only [psalteryref06_Row.l2] at H
         by_cases c9 : x7_3≤12
         ·
          rw [if_pos c9] at H
          have c9b0 : decide (x7_3≤12)=true:=decide_eq_true c9
          clear c9
          by_cases c10 : 0≤x7_3
          ·
           rw [if_pos c10] at H
           have c10b0 : decide (0≤x7_3)=true:=decide_eq_true c10
           clear c10
           by_cases c11 : x7_3 < (x3_2.length : Int)
           ·
            rw [if_pos c11] at H
            have c11b0 : decide (x7_3 < (x3_2.length : Int))=true:=decide_eq_true c11
            clear c11
            have H' := zm H
            clear H
            obtain ⟨Ao12,co12,eo12⟩:=Kd.R_slice HO_3.out
            subst eo12
            have p211 : 0≤(x7_3 : Int):=of_decide_eq_true (by first|(with_reducible assumption)|assumption)
            have q211 : x7_3 < (x3_2.length : Int):=of_decide_eq_true (by first|(with_reducible assumption)|assumption)
            obtain ⟨ad211,e211,hx211_0⟩:=Kd.at_int (Kd.R_reads' HO_3.out).2.2 x7_3 p211 q211
            cases e211
            replace p211:=eq_true p211
            replace q211:=eq_true q211
            go_wp2
            go_loopg [8,9] k3 (fun kq v8 v9 w' => ∃ (x8_4 : Int) (x9_4 : Int),v8=.int .u64 x8_4∧v9=.int .i64 x9_4∧Aside0 (psalteryref06_Row.l3 kq a0 x3_2 x5_2 x6_3 x7_3 x8_4 x9_4=some r)∧Aside0 (kq≤k3)∧Aside0 (Kd.R (Kd.int .u64) 48 w' w.heap.size (fun k_=>some k_≠(u6 : Value).ownBlock) (.slice (some ad211) x3_2.length co12) x3_2)∧Aside0 (Kd.R (Kd.int .u64) 48 w' w.heap.size (fun k_=>some k_≠((.slice (some ad211) x3_2.length co12) : Value).ownBlock) u6 x6_3)∧Aside0 (Below w.heap.size w w'))
            case atStart=>exact ⟨(rd x3_2 x7_3),(1),(by first|rfl|(simp;done)|(simp [*];done)),(by first|rfl|(simp;done)|(simp [*];done)),H',⟨Nat.le_refl _⟩,⟨by (with_reducible repeat (first|apply zo|apply zp|apply zq));exact HO_3.out⟩,⟨by (with_reducible repeat (first|apply zo|apply zp|apply zq));exact HO_6.out⟩,⟨by repeat (first|(with_reducible first|exact HB.out|apply ze|apply zd|apply zf)|exact HB.out)⟩⟩
            case round =>
             clear H'
             try clear c1
             try clear c2
             try clear c2b0
             try clear p2
             try clear q2
             try clear hx2
             try clear c3
             try clear c3b0
             try clear c3b1
             try clear c4
             try clear c6
             try clear p6
             try clear c8
             try clear c8b0
             try clear c9
             try clear c9b0
             try clear c10
             try clear c10b0
             try clear c11
             try clear c11b0
             try clear hx211_0
             try clear p2
             try clear p211
             try clear p6
             try clear q211
             obtain ⟨x8_4,x9_4,rfl,rfl,HA,HK4,HO_3,HO_6,HB⟩:=hrel
             cases gk with
             | zero=>exact absurd HA.out (by simp [psalteryref06_Row.l3])
             | succ k4 =>
              have H:=HA.out;clear HA
              simp only [psalteryref06_Row.l3] at H
              by_cases c13 : x9_4≤x7_3
              ·
               rw [if_pos c13] at H
               have c13b0 : decide (x9_4≤x7_3)=true:=decide_eq_true c13
               clear c13
               obtain ⟨ji14,hji14⟩ : ∃ j_ : Int,(wrap64 (x7_3 - x9_4))=j_:=⟨_,rfl⟩
               replace H : (if 0≤(ji14) then (if (ji14) < (x3_2.length : Int) then (psalteryref06_Row.l3 k4 a0 x3_2 x5_2 x6_3 x7_3 (IntKind.u64.wrap (x8_4+(IntKind.u64.wrap (2 * (rd x3_2 (ji14)))))) (wrap64 (x9_4+1))) else (none)) else (none))=some r:=by first|(rw [hji14] at H;exact H)|(simp only [hji14] at H ⊢; exact H)
               have hji14w : (IntKind.i64.wrap (x7_3 - x9_4))=ji14:=(i64_w _).trans hji14
               by_cases c15 : 0≤(ji14)
               ·
                rw [if_pos c15] at H
                have c15b0 : decide (0≤(ji14))=true:=decide_eq_true c15
                clear c15
                by_cases c16 : (ji14) < (x3_2.length : Int)
                ·
                 rw [if_pos c16] at H
                 have c16b0 : decide ((ji14) < (x3_2.length : Int))=true:=decide_eq_true c16
                 clear c16
                 have H' := zm H
                 clear H
                 have p212 : 0≤((ji14) : Int):=of_decide_eq_true (by first|(with_reducible assumption)|assumption)
                 have q212 : (ji14) < (x3_2.length : Int):=of_decide_eq_true (by first|(with_reducible assumption)|assumption)
                 obtain ⟨ad212,e212,hx212_0⟩:=Kd.at_int (Kd.R_reads' HO_3.out).2.2 (ji14) p212 q212
                 obtain rfl : ad211=ad212:=(by injection e212)
                 replace p212:=eq_true p212
                 replace q212:=eq_true q212
                 go_wp2
                 go_roundg k4
                 case measure=>have:=HK1.out;have:=HK2.out;have:=HK3.out;have:=HK4.out;omega
                 case rel=>exact ⟨(IntKind.u64.wrap (x8_4+(IntKind.u64.wrap (2 * (rd x3_2 (ji14)))))),(wrap64 (x9_4+1)),(by first|rfl|(simp;done)|(simp only [← hji14] <;> (first|rfl|simp))|(simp [*];done)),(by first|rfl|(simp;done)|(simp [*];done)),H',⟨by have:=HK1.out;have:=HK2.out;have:=HK3.out;have:=HK4.out;omega⟩,⟨by (with_reducible repeat (first|apply zo|apply zp|apply zq));exact HO_3.out⟩,⟨by (with_reducible repeat (first|apply zo|apply zp|apply zq));exact HO_6.out⟩,⟨by repeat (first|(with_reducible first|exact HB.out|apply ze|apply zd|apply zf)|exact HB.out)⟩⟩
                ·
                 rw [if_neg c16] at H
                 exact absurd H (by simp)
               ·
                rw [if_neg c15] at H
                exact absurd H (by simp)
              ·
               rw [if_neg c13] at H
               have c13b0 : decide (x9_4≤x7_3)=false:=decide_eq_false c13
               clear c13
               by_cases c17 : x6_3.length < 17592186044416
               ·
                rw [if_pos c17] at H
                have LMc17:=zm c17;clear c17
                obtain ⟨y213,hy213⟩ : ∃ y_ : List Int,y_=(x6_3 ++ [x8_4]):=⟨_,rfl⟩
                replace H : (psalteryref06_Row.l2 k4 a0 x3_2 x5_2 y213 (wrap64 (x7_3+1)))=some r:=by first|(rw [hy213];with_reducible exact H)|(have H2_:=(Option.bind_some _ _).symm.trans H;rw [hy213];with_reducible exact H2_)|(have H2_:=(Option.bind_some _ _).symm.trans H;with_reducible exact H2_)|with_reducible exact H|(rw [hy213];exact H)|exact H
                have Ny213:=zm hy213;clear hy213
                have H' := zm H
                clear H
                go_wp2_with (first|((with_reducible refine gate_builtin (b:=.append) (xs := #[.tmp 49, .tmp 51]) rfl ?_);at_builtin;refine Kd.R_append (Kd.int .u64) (w0:=w) w.heap.size rfl (.tmp 49) (.tmp 51) 54 48 (.int .u64 0) 8 rfl Try.underlying54 info48 rfl (by decide) (by omega) u6 x6_3 x8_4 [.int .u64 x8_4] (fun k_=>some k_≠(.slice (some ad211) x3_2.length co12 : Value).ownBlock) (fun _=>False) rfl rfl ?aP (fun _ hk=>hk.elim) ?aF ?aO ?aB ?aS ?aL ?_;(case aP=>exact rfl);(case aB=>exact (by repeat (first|(with_reducible first|exact HB.out|apply ze|apply zd|apply zf)|exact HB.out)));(case aF=>exact (fun k_ hk=>Kd.fresh' (Kd.R_lt (by (with_reducible repeat (first|apply zo|apply zp|apply zq));exact HO_3.out)) k_ hk));(case aO=>exact (by (with_reducible repeat (first|apply zo|apply zp|apply zq));exact HO_6.out));(case aS=>exact (zE (by repeat (first|(with_reducible first|exact HB.out|apply ze|apply zd|apply zf)|exact HB.out))));(case aL=>have:=LMc17.out;omega);intro v214 w18 ho hb hg hat;rw [← Ny213.out] at ho;have n0_:=zm (Kd.R_after (ok:=(fun _=>True)) (by (with_reducible repeat (first|apply zo|apply zp|apply zq));exact zG HO_3.out (fun _ hk=>⟨trivial,hk⟩)) hg hat);have n1_:=zm (hb);have n2_:=zm (ho);clear HO_3;clear HB;clear HO_6;have HO_3:=n0_;have HB:=n1_;have HO215:=n2_;clear n0_ n1_ n2_;clear ho hb hg hat))
                go_roundg k4
                case measure=>have:=HK1.out;have:=HK2.out;have:=HK3.out;have:=HK4.out;omega
                case rel=>exact ⟨(y213),(wrap64 (x7_3+1)),(by first|rfl|(simp;done)|(simp [*];done)),H',⟨by have:=HK1.out;have:=HK2.out;have:=HK3.out;have:=HK4.out;omega⟩,⟨by (with_reducible repeat (first|apply zo|apply zp|apply zq));exact zG HO_3.out (fun _ hk=>hk.2)⟩,⟨by (with_reducible repeat (first|apply zo|apply zp|apply zq));exact HO215.out⟩,⟨by repeat (first|(with_reducible first|exact HB.out|apply ze|apply zd|apply zf)|exact HB.out)⟩⟩
               ·
                rw [if_neg c17] at H
                exact absurd H (by simp)
           ·
            rw [if_neg c11] at H
            exact absurd H (by simp)
          ·
           rw [if_neg c10] at H
           exact absurd H (by simp)
         ·
          rw [if_neg c9] at H
          have c9b0 : decide (x7_3≤12)=false:=decide_eq_false c9
          clear c9
          have H' := zm H
          clear H
          go_wp2
          go_roundg k3
          case measure=>have:=HK1.out;have:=HK2.out;have:=HK3.out;omega
          case rel=>exact ⟨(x6_3),(wrap64 (x5_2+1)),(by first|rfl|(simp;done)|(simp [*];done)),H',⟨by have:=HK1.out;have:=HK2.out;have:=HK3.out;omega⟩,⟨by (with_reducible repeat (first|apply zo|apply zp|apply zq));exact zG HO_6.out (fun _ hk=>trivial)⟩,⟨by repeat (first|(with_reducible first|exact HB.out|apply ze|apply zd|apply zf)|exact HB.out)⟩⟩
      ·
       rw [if_neg c8] at H
       have c8b0 : decide (x5_2 < a0)=false:=decide_eq_false c8
       clear c8
       obtain rfl:=Option.some.inj H
       go_wp2
       go_ret
       exact ⟨_,by first|rfl|(simp [errW_none,errW_some] <;> rfl)|(simp [*,errW_none,errW_some] <;> rfl),by (with_reducible repeat (first|apply zo|apply zp|apply zq));exact HO_3.out,by repeat (first|(with_reducible first|exact HB.out|apply ze|apply zd|apply zf)|exact HB.out)⟩

end Go.Proofs.Ytbaaedpjaanjnaa.Prt

namespace Go.Proofs.Ytbaaedpjaanjnaa.Prt
open Go.RowKit Go.Proofs.YtbaaedpjaanjnaaW.PrintWords Go.Proofs.YtbaaedpjaanjnaaW.PrintLast Go.Proofs.YtbaaedpjaanjnaaW.PrintMore
attribute [local go_sem] max2_int min2_int max_two min_two max_three min_three max_four min_four   -- for this text's walks alone
set_option linter.unusedVariables false
set_option linter.unusedSimpArgs false

/-! ### psalteryref06_Count: function 34 -/
def psalteryref06_Count.f (k : Nat) (a0 : Int) (a1 : Int) : Option (Int):=(psalteryref06_Row.f k a0).bind fun t216=>(if 0≤a1 then (if a1 < (t216.length : Int) then (some (rd t216 a1)) else (none)) else (none))
theorem psalteryref06_Count.mono : ∀ a0 a1 k,LeO (psalteryref06_Count.f k a0 a1) (psalteryref06_Count.f (k+1) a0 a1):=by
 intro a0 a1 k
 unfold psalteryref06_Count.f
 repeat' first
   | (with_reducible exact psalteryref06_Row.mono _ _)
   | (with_reducible exact LeO.refl _)
   | (with_reducible exact LeO.none _)
   | (with_reducible refine LeO.ite ?_ ?_)
   | (with_reducible refine LeO.bind ?_ (fun _ => ?_))
   | exact psalteryref06_Row.mono _ _
   | exact LeO.none _
   | refine LeO.ite ?_ ?_
   | refine LeO.bind ?_ (fun _ => ?_)
set_option maxHeartbeats 8000000 in
set_option maxRecDepth 100000 in
theorem psalteryref06_Count.calls (k : Nat) (a0 : Int) (a1 : Int) (r : Int) (w : World) (h : psalteryref06_Count.f k a0 a1=some r) :
  Calls Try.prog 34 #[.int .i64 a0, .int .i64 a1] w fun e w' => e=.returned (.int .u64 r)∧Below w.heap.size w w' := by
 have HB:=zm (Below.refl w.heap.size w)
 have H : ((psalteryref06_Row.f k a0).bind fun t216=>(if 0≤a1 then (if a1 < (t216.length : Int) then (some (rd t216 a1)) else (none)) else (none)))=some r:=h
 clear h
 replace H:=Option.bind_eq_some_iff.mp H
 obtain ⟨t216,A30,H⟩:=H
 replace H : (if 0≤a1 then (if a1 < (t216.length : Int) then (some (rd t216 a1)) else (none)) else (none))=some r:=H
 have A3:=zm A30;clear A30
 by_cases c4 : 0≤a1
 ·
  rw [if_pos c4] at H
  have c4b0 : decide (0≤a1)=true:=decide_eq_true c4
  clear c4
  by_cases c5 : a1 < (t216.length : Int)
  ·
   rw [if_pos c5] at H
   have c5b0 : decide (a1 < (t216.length : Int))=true:=decide_eq_true c5
   clear c5
   obtain rfl:=Option.some.inj H
   go_enter Try.func34,Try.ntmps34
   go_wp2_with (first|((with_reducible refine gate_callee (f:=39) rfl ?_);refine goesL_ (some 6) rfl rfl Try.func39 (by kernel_rfl) rfl #[.int .i64 a0] rfl (by (try simp only [List.map_toArray,List.map_cons,List.map_nil]);first|done|rfl|(simp only [List.length_drop,List.length_take];rfl)) ?_;(with_reducible refine (psalteryref06_Row.calls k a0 t216 _ A3.out).mono ?_);rintro e w6 ⟨v217,rfl,ho0,hb⟩;refine ⟨_,rfl, ?_⟩;have n0_:=zm (Kd.R_lower ho0 (zE (by repeat (first|(with_reducible first|exact HB.out|apply ze|apply zd|apply zf)|exact HB.out))));have n1_:=zm (zJ (by repeat (first|(with_reducible first|exact HB.out|apply ze|apply zd|apply zf)|exact HB.out)) hb);clear HB;have HO218:=n0_;have HB:=n1_;clear n0_ n1_;(try clear hb);(try clear hb2);(try clear hk);(try clear hi);(try clear ho0);obtain ⟨Ao7,co7,eo7⟩:=Kd.R_slice HO218.out;subst eo7;have p219 : 0≤(a1 : Int):=of_decide_eq_true (by first|(with_reducible assumption)|assumption);have q219 : a1 < (t216.length : Int):=of_decide_eq_true (by first|(with_reducible assumption)|assumption);obtain ⟨ad219,e219,hx219_0⟩:=Kd.at_int (Kd.R_reads' HO218.out).2.2 a1 p219 q219;cases e219;replace p219:=eq_true p219;replace q219:=eq_true q219))
   go_ret
   exact ⟨by first|rfl|(simp [errW_none,errW_some] <;> rfl)|(simp [*,errW_none,errW_some] <;> rfl),by repeat (first|(with_reducible first|exact HB.out|apply ze|apply zd|apply zf)|exact HB.out)⟩
  ·
   rw [if_neg c5] at H
   exact absurd H (by simp)
 ·
  rw [if_neg c4] at H
  exact absurd H (by simp)

end Go.Proofs.Ytbaaedpjaanjnaa.Prt

namespace Go.Proofs.Ytbaaedpjaanjnaa.Prt
open Go.RowKit Go.Proofs.YtbaaedpjaanjnaaW.PrintWords Go.Proofs.YtbaaedpjaanjnaaW.PrintLast Go.Proofs.YtbaaedpjaanjnaaW.PrintMore
attribute [local go_sem] max2_int min2_int max_two min_two max_three min_three max_four min_four   -- for this text's walks alone
set_option linter.unusedVariables false
set_option linter.unusedSimpArgs false

/-! ### psalteryref06_Cost: function 29 -/
def psalteryref06_Cost.f (k : Nat) (a0 : Int) (a1 : Int) : Option (Int):=(psalteryref06_Count.f k a0 a1).bind fun t221=>(if (IntKind.u64.wrap (t221 - 1)) < 65536 then ((psalteryref03_Log2.f k (IntKind.u64.wrap (t221 - 1))).bind fun t222=>(some (wrap64 (1+t222)))) else ((psalteryref03_Log2.f k (IntKind.u64.wrap (Int.tdiv (IntKind.u64.wrap (t221 - 1)) 65536))).bind fun t223=>(some (wrap64 (17+t223)))))
theorem psalteryref06_Cost.mono : ∀ a0 a1 k,LeO (psalteryref06_Cost.f k a0 a1) (psalteryref06_Cost.f (k+1) a0 a1):=by
 intro a0 a1 k
 unfold psalteryref06_Cost.f
 repeat' first
   | (with_reducible exact psalteryref03_Log2.mono _ _)
   | (with_reducible exact psalteryref06_Count.mono _ _ _)
   | (with_reducible exact LeO.refl _)
   | (with_reducible exact LeO.none _)
   | (with_reducible refine LeO.ite ?_ ?_)
   | (with_reducible refine LeO.bind ?_ (fun _ => ?_))
   | exact psalteryref03_Log2.mono _ _
   | exact psalteryref06_Count.mono _ _ _
   | exact LeO.none _
   | refine LeO.ite ?_ ?_
   | refine LeO.bind ?_ (fun _ => ?_)
set_option maxHeartbeats 8000000 in
set_option maxRecDepth 100000 in
theorem psalteryref06_Cost.calls (k : Nat) (a0 : Int) (a1 : Int) (r : Int) (w : World) (h : psalteryref06_Cost.f k a0 a1=some r) :
  Calls Try.prog 29 #[.int .i64 a0, .int .i64 a1] w fun e w' => e=.returned (.int .i64 r)∧Below w.heap.size w w' := by
 have HB:=zm (Below.refl w.heap.size w)
 have H : ((psalteryref06_Count.f k a0 a1).bind fun t221=>(if (IntKind.u64.wrap (t221 - 1)) < 65536 then ((psalteryref03_Log2.f k (IntKind.u64.wrap (t221 - 1))).bind fun t222=>(some (wrap64 (1+t222)))) else ((psalteryref03_Log2.f k (IntKind.u64.wrap (Int.tdiv (IntKind.u64.wrap (t221 - 1)) 65536))).bind fun t223=>(some (wrap64 (17+t223))))))=some r:=h
 clear h
 replace H:=Option.bind_eq_some_iff.mp H
 obtain ⟨t221,A30,H⟩:=H
 replace H : (if (IntKind.u64.wrap (t221 - 1)) < 65536 then ((psalteryref03_Log2.f k (IntKind.u64.wrap (t221 - 1))).bind fun t222=>(some (wrap64 (1+t222)))) else ((psalteryref03_Log2.f k (IntKind.u64.wrap (Int.tdiv (IntKind.u64.wrap (t221 - 1)) 65536))).bind fun t223=>(some (wrap64 (17+t223)))))=some r:=H
 have A3:=zm A30;clear A30
 by_cases c4 : (IntKind.u64.wrap (t221 - 1)) < 65536
 ·
  rw [if_pos c4] at H
  have c4b0 : decide ((IntKind.u64.wrap (t221 - 1)) < 65536)=true:=decide_eq_true c4
  clear c4
  replace H:=Option.bind_eq_some_iff.mp H
  obtain ⟨t222,A50,H⟩:=H
  replace H : (some (wrap64 (1+t222)))=some r:=H
  have A5:=zm A50;clear A50
  obtain rfl:=Option.some.inj H
  go_enter Try.func29,Try.ntmps29
  go_wp2_with (first|((with_reducible refine gate_callee (f:=34) rfl ?_);refine goesL_ (some 8) rfl rfl Try.func34 (by kernel_rfl) rfl #[.int .i64 a0, .int .i64 a1] rfl (by (try simp only [List.map_toArray,List.map_cons,List.map_nil]);first|done|rfl|(simp only [List.length_drop,List.length_take];rfl)) ?_;(with_reducible refine (psalteryref06_Count.calls k a0 a1 t221 _ A3.out).mono ?_);rintro e w6 ⟨rfl,hb⟩;refine ⟨_,rfl, ?_⟩;have n0_:=zm (zJ (by repeat (first|(with_reducible first|exact HB.out|apply ze|apply zd|apply zf)|exact HB.out)) hb);clear HB;have HB:=n0_;clear n0_;(try clear hb);(try clear hb2);(try clear hk);(try clear hi))|((with_reducible refine gate_callee (f:=35) rfl ?_);refine goesL_ (some 13) rfl rfl Try.func35 (by kernel_rfl) rfl #[.int .u64 (IntKind.u64.wrap (t221 - 1))] rfl (by (try simp only [List.map_toArray,List.map_cons,List.map_nil]);first|done|rfl|(simp only [List.length_drop,List.length_take];rfl)) ?_;(with_reducible refine (psalteryref03_Log2.calls k (IntKind.u64.wrap (t221 - 1)) t222 _ A5.out).mono ?_);rintro e w' ⟨rfl,⟨nd,rfl⟩⟩;refine ⟨_,rfl, ?_⟩))
  go_ret
  exact ⟨by first|rfl|(simp [errW_none,errW_some] <;> rfl)|(simp [*,errW_none,errW_some] <;> rfl),by repeat (first|(with_reducible first|exact HB.out|apply ze|apply zd|apply zf)|exact HB.out)⟩
 ·
  rw [if_neg c4] at H
  have c4b0 : decide ((IntKind.u64.wrap (t221 - 1)) < 65536)=false:=decide_eq_false c4
  clear c4
  replace H:=Option.bind_eq_some_iff.mp H
  obtain ⟨t223,A70,H⟩:=H
  replace H : (some (wrap64 (17+t223)))=some r:=H
  have A7:=zm A70;clear A70
  obtain rfl:=Option.some.inj H
  go_enter Try.func29,Try.ntmps29
  go_wp2_with (first|((with_reducible refine gate_callee (f:=34) rfl ?_);refine goesL_ (some 8) rfl rfl Try.func34 (by kernel_rfl) rfl #[.int .i64 a0, .int .i64 a1] rfl (by (try simp only [List.map_toArray,List.map_cons,List.map_nil]);first|done|rfl|(simp only [List.length_drop,List.length_take];rfl)) ?_;(with_reducible refine (psalteryref06_Count.calls k a0 a1 t221 _ A3.out).mono ?_);rintro e w8 ⟨rfl,hb⟩;refine ⟨_,rfl, ?_⟩;have n0_:=zm (zJ (by repeat (first|(with_reducible first|exact HB.out|apply ze|apply zd|apply zf)|exact HB.out)) hb);clear HB;have HB:=n0_;clear n0_;(try clear hb);(try clear hb2);(try clear hk);(try clear hi))|((with_reducible refine gate_callee (f:=35) rfl ?_);refine goesL_ (some 17) rfl rfl Try.func35 (by kernel_rfl) rfl #[.int .u64 (IntKind.u64.wrap (Int.tdiv (IntKind.u64.wrap (t221 - 1)) 65536))] rfl (by (try simp only [List.map_toArray,List.map_cons,List.map_nil]);first|done|rfl|(simp only [List.length_drop,List.length_take];rfl)) ?_;(with_reducible refine (psalteryref03_Log2.calls k (IntKind.u64.wrap (Int.tdiv (IntKind.u64.wrap (t221 - 1)) 65536)) t223 _ A7.out).mono ?_);rintro e w' ⟨rfl,⟨nd,rfl⟩⟩;refine ⟨_,rfl, ?_⟩))
  go_ret
  exact ⟨by first|rfl|(simp [errW_none,errW_some] <;> rfl)|(simp [*,errW_none,errW_some] <;> rfl),by repeat (first|(with_reducible first|exact HB.out|apply ze|apply zd|apply zf)|exact HB.out)⟩

end Go.Proofs.Ytbaaedpjaanjnaa.Prt

namespace Go.Proofs.Ytbaaedpjaanjnaa.Prt
open Go.RowKit Go.Proofs.YtbaaedpjaanjnaaW.PrintWords Go.Proofs.YtbaaedpjaanjnaaW.PrintLast Go.Proofs.YtbaaedpjaanjnaaW.PrintMore
attribute [local go_sem] max2_int min2_int max_two min_two max_three min_three max_four min_four   -- for this text's walks alone
set_option linter.unusedVariables false
set_option linter.unusedSimpArgs false

/-! ### psalteryref12_Spent: function 19 -/
def psalteryref12_Spent.l0 : Nat→List Int→Int→Int→Option (Int)
 | 0,_,_,_=>none
 | k+1,x0,x3,x4=>if x4 < 5 then ((psalteryref10_Width.f k x4).bind fun t224=>(if 0≤x4 then (if x4 < (x0.length : Int) then ((psalteryref06_Cost.f k t224 (rd x0 x4)).bind fun t226=>(psalteryref12_Spent.l0 k x0 (wrap64 (x3+t226)) (wrap64 (x4+1)))) else (none)) else (none))) else (some x3)
def psalteryref12_Spent.f (k : Nat) (l0 : List Int) : Option (Int):=psalteryref12_Spent.l0 k l0 0 0
theorem psalteryref12_Spent.mono_l : ∀ k,(∀ y0 y1 y2,LeO (psalteryref12_Spent.l0 k y0 y1 y2) (psalteryref12_Spent.l0 (k+1) y0 y1 y2))
 | 0=>fun _ _ _ r h=>by simp [psalteryref12_Spent.l0] at h
 | k+1=>by
  have ih0:=psalteryref12_Spent.mono_l k
  ·
   intro y0 y1 y2
   unfold psalteryref12_Spent.l0
   repeat' first
   | (with_reducible exact ih0 _ _ _)
   | (with_reducible exact psalteryref06_Cost.mono _ _ _)
   | (with_reducible exact psalteryref10_Width.mono _ _)
   | (with_reducible exact LeO.refl _)
   | (with_reducible exact LeO.none _)
   | (with_reducible refine LeO.ite ?_ ?_)
   | (with_reducible refine LeO.bind ?_ (fun _ => ?_))
   | exact ih0 _ _ _
   | exact psalteryref06_Cost.mono _ _ _
   | exact psalteryref10_Width.mono _ _
   | exact LeO.none _
   | refine LeO.ite ?_ ?_
   | refine LeO.bind ?_ (fun _ => ?_)
theorem psalteryref12_Spent.mono : ∀ a0 k,LeO (psalteryref12_Spent.f k a0) (psalteryref12_Spent.f (k+1) a0):=by
 intro a0 k
 have ih0:=psalteryref12_Spent.mono_l k
 unfold psalteryref12_Spent.f
 repeat' first
   | (with_reducible exact ih0 _ _ _)
   | (with_reducible exact psalteryref06_Cost.mono _ _ _)
   | (with_reducible exact psalteryref10_Width.mono _ _)
   | (with_reducible exact LeO.refl _)
   | (with_reducible exact LeO.none _)
   | (with_reducible refine LeO.ite ?_ ?_)
   | (with_reducible refine LeO.bind ?_ (fun _ => ?_))
   | exact ih0 _ _ _
   | exact psalteryref06_Cost.mono _ _ _
   | exact psalteryref10_Width.mono _ _
   | exact LeO.none _
   | refine LeO.ite ?_ ?_
   | refine LeO.bind ?_ (fun _ => ?_)
def psalteryref12_Spent.T5 : Bool × List (List Nat × List Nat):=(true, [([], []),([], []),([1], [1]),([], []),([], []),([3,4], [3,4]),([5], [5]),([2,6,2], [2,6]),([0,7], [0,7]),([8,7,0,1,2,3,4,5,6,7,8], [0,8])])
def psalteryref12_Spent.B5 : List Nat := [0,0,2,0,0,24,56,126,255,511]
theorem psalteryref12_Spent.tab5 : rtab .any (opsOf Try.f19 5)=psalteryref12_Spent.T5:=by kernel_rfl
theorem psalteryref12_Spent.bits5 : waitsOk psalteryref12_Spent.T5.2 psalteryref12_Spent.B5=true:=by kernel_rfl
set_option maxHeartbeats 8000000 in
set_option maxRecDepth 100000 in
theorem psalteryref12_Spent.calls (k : Nat) (A0 : Option Addr) (c0 : Nat) (l0 : List Int) (r : Int) (w : World) (hr0 : Kd.C (Kd.int .i64) w A0 l0.length l0) (hc0 : l0.length≤c0) (h : psalteryref12_Spent.f k l0=some r) :
  Calls Try.prog 19 #[.slice A0 l0.length c0] w fun e w' => e=.returned (.int .i64 r)∧Below w.heap.size w w' := by
 have HR0:=zm hr0;have HC0:=zm hc0;clear hr0 hc0;have HB:=zm (Below.refl w.heap.size w)
 have H : (psalteryref12_Spent.l0 k l0 0 0)=some r:=h
 clear h
 have H' := zm H
 clear H
 go_enter Try.func19,Try.ntmps19
 go_wp2
 go_loopg [3,4] k (fun kq v3 v4 w' => ∃ (x3_1 : Int) (x4_1 : Int),v3=.int .i64 x3_1∧v4=.int .i64 x4_1∧Aside0 (psalteryref12_Spent.l0 kq l0 x3_1 x4_1=some r)∧Aside0 (kq≤k)∧Aside0 (Below w.heap.size w w'))
 case atStart=>exact ⟨(0),(0),(by first|rfl|(simp;done)|(simp [*];done)),(by first|rfl|(simp;done)|(simp [*];done)),H',⟨Nat.le_refl _⟩,⟨by repeat (first|(with_reducible first|exact HB.out|apply ze|apply zd|apply zf)|exact HB.out)⟩⟩
 case round =>
  clear H'
  try clear c1
  obtain ⟨x3_1,x4_1,rfl,rfl,HA,HK1,HB⟩:=hrel
  cases gk with
  | zero=>exact absurd HA.out (by simp [psalteryref12_Spent.l0])
  | succ k1 =>
   have H:=HA.out;clear HA
   simp only [psalteryref12_Spent.l0] at H
   by_cases c2 : x4_1 < 5
   ·
    rw [if_pos c2] at H
    have c2b0 : decide (x4_1 < 5)=true:=decide_eq_true c2
    clear c2
    replace H:=Option.bind_eq_some_iff.mp H
    obtain ⟨t224,A30,H⟩:=H
    replace H : (if 0≤x4_1 then (if x4_1 < (l0.length : Int) then ((psalteryref06_Cost.f k1 t224 (rd l0 x4_1)).bind fun t226=>(psalteryref12_Spent.l0 k1 l0 (wrap64 (x3_1+t226)) (wrap64 (x4_1+1)))) else (none)) else (none))=some r:=H
    have A3:=zm A30;clear A30
    by_cases c4 : 0≤x4_1
    ·
     rw [if_pos c4] at H
     have c4b0 : decide (0≤x4_1)=true:=decide_eq_true c4
     clear c4
     by_cases c5 : x4_1 < (l0.length : Int)
     ·
      rw [if_pos c5] at H
      have c5b0 : decide (x4_1 < (l0.length : Int))=true:=decide_eq_true c5
      clear c5
      replace H:=Option.bind_eq_some_iff.mp H
      obtain ⟨t226,A60,H⟩:=H
      replace H : (psalteryref12_Spent.l0 k1 l0 (wrap64 (x3_1+t226)) (wrap64 (x4_1+1)))=some r:=H
      have A6:=zm A60;clear A60
      have H' := zm H
      clear H
      try go_wp2
      have n0_:=zm (zf HB.out);clear HB;have HB:=n0_;clear n0_
      have p225 : 0≤(x4_1 : Int):=of_decide_eq_true (by first|(with_reducible assumption)|assumption)
      have q225 : x4_1 < (l0.length : Int):=of_decide_eq_true (by first|(with_reducible assumption)|assumption)
      obtain ⟨ad225,e225,hx225_0⟩:=Kd.at_int HR0.out x4_1 p225 q225
      have hw225_0:=hx225_0
      cases e225
      replace hx225_0:=(HB.out.cell (zb w _ hx225_0)).trans hx225_0
      replace p225:=eq_true p225
      replace q225:=eq_true q225
      refine start_ (n:=10) (S:=fun w' => w'.cell? (ad225.add (x4_1).toNat)=some (.int .i64 (rd l0 x4_1))) (ds := []) #[false,false,false,false,false,false,false,false,false,false] (by kernel_rfl) rfl rfl (((HB.out.cell (zb w _ hw225_0)).trans hw225_0)) (fun hHeld => ?_);refine with_tabW psalteryref12_Spent.tab5 psalteryref12_Spent.bits5 (fun HT_ HW_ => ?_)
      generalize wr.drew=w7 at HB hx225_0 hHeld ⊢
      refine pure_ (i:=0) (N:=some 9) (v := ?_) (a' := ?_) #[true,false,false,false,false,false,false,false,false,false] rfl rfl (any_of HT_.out (by kernel_rfl)) (fun _ _ _ h=>h) (Or.inl ⟨by rfl, ?_⟩) ?_ ?_
      rotate_left
      ·
       intro w'
       go_simp
       with_reducible rfl
      rotate_left
      ·
       simp only [Act.put,List.setIfInBounds_toArray,List.set_cons_zero,List.set_cons_succ,i64_w,i32_w]
       rfl
      refine pure_ (i:=1) (N:=some 10) (v := ?_) (a' := ?_) #[true,true,false,false,false,false,false,false,false,false] rfl rfl (any_of HT_.out (by kernel_rfl)) (fun _ _ _ h=>h) (Or.inl ⟨by rfl, ?_⟩) ?_ ?_
      rotate_left
      ·
       intro w'
       go_simp
       with_reducible rfl
      rotate_left
      ·
       simp only [Act.put,List.setIfInBounds_toArray,List.set_cons_zero,List.set_cons_succ,i64_w,i32_w]
       rfl
      refine pure_ (i:=3) (N:=some 12) (v := ?_) (a' := ?_) #[true,true,false,true,false,false,false,false,false,false] rfl rfl (any_of HT_.out (by kernel_rfl)) (fun _ _ _ h=>h) (Or.inl ⟨by rfl, ?_⟩) ?_ ?_
      rotate_left
      ·
       intro w'
       go_simp
       with_reducible rfl
      rotate_left
      ·
       simp only [Act.put,List.setIfInBounds_toArray,List.set_cons_zero,List.set_cons_succ,i64_w,i32_w]
       rfl
      refine pure_ (i:=4) (N:=some 13) (v := ?_) (a' := ?_) #[true,true,false,true,true,false,false,false,false,false] rfl rfl (any_of HT_.out (by kernel_rfl)) (fun _ _ _ h=>h) (Or.inl ⟨by rfl, ?_⟩) ?_ ?_
      rotate_left
      ·
       intro w'
       go_simp
       with_reducible rfl
      rotate_left
      ·
       simp only [Act.put,List.setIfInBounds_toArray,List.set_cons_zero,List.set_cons_succ,i64_w,i32_w]
       rfl
      refine pure_ (i:=5) (N:=some 14) (v := ?_) (a' := ?_) #[true,true,false,true,true,true,false,false,false,false] rfl rfl (any_of HT_.out (by kernel_rfl)) (fun _ _ _ h=>h) (Or.inl ⟨by rfl, ?_⟩) ?_ ?_
      rotate_left
      ·
       intro w'
       go_simp
       with_reducible rfl
      rotate_left
      ·
       simp only [Act.put,List.setIfInBounds_toArray,List.set_cons_zero,List.set_cons_succ,i64_w,i32_w]
       rfl
      refine take_ (i:=6) (N:=some 15) (v := ?_) (a' := ?_) #[true,true,false,true,true,true,true,false,false,false] rfl rfl (take_ofW HT_.out HW_.out (by kernel_rfl)) (fun _ _ _ h=>h) (Or.inl ⟨by rfl, ?_⟩) hHeld ?_ ?_
      rotate_left
      ·
       intro w' s0
       go_simp
       with_reducible rfl
      rotate_left
      ·
       simp only [Act.put,List.setIfInBounds_toArray,List.set_cons_zero,List.set_cons_succ,i64_w,i32_w]
       rfl
      refine one_ (i:=2) (N:=some 11) #[true,true,true,true,true,true,true,false,false,false] rfl rfl (one_of HT_.out (by kernel_rfl)) (by decide) (fun K hK => ?_)
      refine goes_ Try.func20 (by kernel_rfl) rfl #[.int .i64 x4_1] (by rfl) rfl rfl (by (try simp only [List.map_toArray,List.map_cons,List.map_nil]);first|done|rfl|(simp only [List.length_drop,List.length_take];rfl)) ?_
      with_reducible refine (psalteryref10_Width.calls k1 x4_1 t224 _ A3.out).mono ?_
      rintro e w' ⟨rfl,⟨nd,rfl⟩⟩
      refine ⟨_,rfl, ?_⟩
      refine hK.out _ _ (((HB.out.cell (zb w _ hw225_0)).trans hw225_0)) (fun hHeld => ?_)
      clear hK K
      refine norm_ (a' := ?_) ?_ ?_
      rotate_left
      ·
       show Act.put _ (some 11) _=_
       simp only [Act.put,List.setIfInBounds_toArray,List.set_cons_zero,List.set_cons_succ,i64_w,i32_w]
       rfl
      refine one_ (i:=7) (N:=some 16) #[true,true,true,true,true,true,true,true,false,false] rfl rfl (one_of HT_.out (by kernel_rfl)) (by decide) (fun K hK => ?_)
      refine goes_ Try.func29 (by kernel_rfl) rfl #[.int .i64 t224, .int .i64 (rd l0 x4_1)] (by rfl) rfl rfl (by (try simp only [List.map_toArray,List.map_cons,List.map_nil]);first|done|rfl|(simp only [List.length_drop,List.length_take];rfl)) ?_
      with_reducible refine (psalteryref06_Cost.calls k1 t224 (rd l0 x4_1) t226 _ A6.out).mono ?_
      rintro e w8 ⟨rfl,hb⟩
      refine ⟨_,rfl, ?_⟩
      have n0_:=zm (zJ (by repeat (first|(with_reducible first|exact HB.out|apply ze|apply zd|apply zf)|exact HB.out)) hb)
      clear HB;have HB:=n0_;clear n0_
      (try clear hb)
      (try clear hb2)
      (try clear hk)
      (try clear hi)
      refine hK.out _ _ (((HB.out.cell (zb w _ hw225_0)).trans hw225_0)) (fun hHeld => ?_)
      clear hK K
      refine norm_ (a' := ?_) ?_ ?_
      rotate_left
      ·
       show Act.put _ (some 16) _=_
       simp only [Act.put,List.setIfInBounds_toArray,List.set_cons_zero,List.set_cons_succ,i64_w,i32_w]
       rfl
      refine pure_ (i:=8) (N:=some 17) (v := ?_) (a' := ?_) #[true,true,true,true,true,true,true,true,true,false] rfl rfl (any_of HT_.out (by kernel_rfl)) (fun _ _ _ h=>h) (Or.inl ⟨by rfl, ?_⟩) ?_ ?_
      rotate_left
      ·
       intro w'
       go_simp
       with_reducible rfl
      rotate_left
      ·
       simp only [Act.put,List.setIfInBounds_toArray,List.set_cons_zero,List.set_cons_succ,i64_w,i32_w]
       rfl
      refine pure_ (i:=9) (N:=some 3) (v := ?_) (a' := ?_) #[true,true,true,true,true,true,true,true,true,true] rfl rfl (any_of HT_.out (by kernel_rfl)) (fun _ _ _ h=>h) (Or.inl ⟨by rfl, ?_⟩) ?_ ?_
      rotate_left
      ·
       intro w'
       go_simp
       with_reducible rfl
      rotate_left
      ·
       simp only [Act.put,List.setIfInBounds_toArray,List.set_cons_zero,List.set_cons_succ,i64_w,i32_w]
       rfl
      refine done_ (done_of HT_.out (by kernel_rfl)) ?_
      try go_wp2
      go_roundg k1
      case measure=>have:=HK1.out;omega
      case rel=>exact ⟨(wrap64 (x3_1+t226)),(wrap64 (x4_1+1)),(by first|rfl|(simp;done)|(simp [*];done)),(by first|rfl|(simp;done)|(simp [*];done)),H',⟨by have:=HK1.out;omega⟩,⟨by repeat (first|(with_reducible first|exact HB.out|apply ze|apply zd|apply zf)|exact HB.out)⟩⟩
     ·
      rw [if_neg c5] at H
      exact absurd H (by simp)
    ·
     rw [if_neg c4] at H
     exact absurd H (by simp)
   ·
    rw [if_neg c2] at H
    have c2b0 : decide (x4_1 < 5)=false:=decide_eq_false c2
    clear c2
    obtain rfl:=Option.some.inj H
    go_wp2
    go_ret
    exact ⟨by first|rfl|(simp [errW_none,errW_some] <;> rfl)|(simp [*,errW_none,errW_some] <;> rfl),by repeat (first|(with_reducible first|exact HB.out|apply ze|apply zd|apply zf)|exact HB.out)⟩

end Go.Proofs.Ytbaaedpjaanjnaa.Prt

namespace Go.Proofs.Ytbaaedpjaanjnaa.Prt
open Go.RowKit Go.Proofs.YtbaaedpjaanjnaaW.PrintWords Go.Proofs.YtbaaedpjaanjnaaW.PrintLast Go.Proofs.YtbaaedpjaanjnaaW.PrintMore
attribute [local go_sem] max2_int min2_int max_two min_two max_three min_three max_four min_four   -- for this text's walks alone
set_option linter.unusedVariables false
set_option linter.unusedSimpArgs false

/-! ### psalteryref12_May: function 21 -/
def psalteryref12_May.j0 : Nat→List Int→Int→Int→Bool→Option (Bool)
 | 0,_,_,_,_=>none
 | k+1,x1,x2,x3,x32=>if x32=true then (some false) else ((psalteryref12_More.f x1 x2).bind fun t239=>((psalteryref12_Spent.f k t239).bind fun t242=>(some (decide (t242≤x3)))))
def psalteryref12_May.f (k : Nat) (l0 : List Int) (l1 : List Int) (a2 : Int) (a3 : Int) : Option (Bool):=if 0≤a2 then (if a2 < (l0.length : Int) then (if (rd l0 a2) < 1 then (psalteryref12_May.j0 k l1 a2 a3 true) else (if a2 < (l1.length : Int) then (if (rd l1 a2) ≥ 12 then (psalteryref12_May.j0 k l1 a2 a3 true) else ((psalteryref10_Width.f k a2).bind fun t237=>(if t237=1 then (psalteryref12_May.j0 k l1 a2 a3 (decide ((rd l1 a2) > 0))) else (psalteryref12_May.j0 k l1 a2 a3 false)))) else (none))) else (none)) else (none)
theorem psalteryref12_May.mono_l : ∀ k,(∀ y0 y1 y2 y3,LeO (psalteryref12_May.j0 k y0 y1 y2 y3) (psalteryref12_May.j0 (k+1) y0 y1 y2 y3))
 | 0=>fun _ _ _ _ r h=>by simp [psalteryref12_May.j0] at h
 | k+1=>by
  have ih0:=psalteryref12_May.mono_l k
  ·
   intro y0 y1 y2 y3
   unfold psalteryref12_May.j0
   repeat' first
   | (with_reducible exact ih0 _ _ _ _)
   | (with_reducible exact psalteryref10_Width.mono _ _)
   | (with_reducible exact psalteryref12_Spent.mono _ _)
   | (with_reducible exact LeO.refl _)
   | (with_reducible exact LeO.none _)
   | (with_reducible refine LeO.ite ?_ ?_)
   | (with_reducible refine LeO.bind ?_ (fun _ => ?_))
   | exact ih0 _ _ _ _
   | exact psalteryref10_Width.mono _ _
   | exact psalteryref12_Spent.mono _ _
   | exact LeO.none _
   | refine LeO.ite ?_ ?_
   | refine LeO.bind ?_ (fun _ => ?_)
theorem psalteryref12_May.mono : ∀ a0 a1 a2 a3 k,LeO (psalteryref12_May.f k a0 a1 a2 a3) (psalteryref12_May.f (k+1) a0 a1 a2 a3):=by
 intro a0 a1 a2 a3 k
 have ih0:=psalteryref12_May.mono_l k
 unfold psalteryref12_May.f
 repeat' first
   | (with_reducible exact ih0 _ _ _ _)
   | (with_reducible exact psalteryref10_Width.mono _ _)
   | (with_reducible exact psalteryref12_Spent.mono _ _)
   | (with_reducible exact LeO.refl _)
   | (with_reducible exact LeO.none _)
   | (with_reducible refine LeO.ite ?_ ?_)
   | (with_reducible refine LeO.bind ?_ (fun _ => ?_))
   | exact ih0 _ _ _ _
   | exact psalteryref10_Width.mono _ _
   | exact psalteryref12_Spent.mono _ _
   | exact LeO.none _
   | refine LeO.ite ?_ ?_
   | refine LeO.bind ?_ (fun _ => ?_)
set_option maxHeartbeats 8000000 in
set_option maxRecDepth 100000 in
theorem psalteryref12_May.calls (k : Nat) (A0 : Option Addr) (c0 : Nat) (l0 : List Int) (A1 : Option Addr) (c1 : Nat) (l1 : List Int) (a2 : Int) (a3 : Int) (r : Bool) (w : World) (hr0 : Kd.C (Kd.int .i64) w A0 l0.length l0) (hc0 : l0.length≤c0) (hr1 : Kd.C (Kd.int .i64) w A1 l1.length l1) (hc1 : l1.length≤c1) (h : psalteryref12_May.f k l0 l1 a2 a3=some r) :
  Calls Try.prog 21 #[.slice A0 l0.length c0, .slice A1 l1.length c1, .int .i64 a2, .int .i64 a3] w fun e w' => e=.returned (.bool r)∧Below w.heap.size w w' := by
 have HR0:=zm hr0;have HC0:=zm hc0;clear hr0 hc0;have HR1:=zm hr1;have HC1:=zm hc1;clear hr1 hc1;have HB:=zm (Below.refl w.heap.size w)
 have H : (if 0≤a2 then (if a2 < (l0.length : Int) then (if (rd l0 a2) < 1 then (psalteryref12_May.j0 k l1 a2 a3 true) else (if a2 < (l1.length : Int) then (if (rd l1 a2) ≥ 12 then (psalteryref12_May.j0 k l1 a2 a3 true) else ((psalteryref10_Width.f k a2).bind fun t237=>(if t237=1 then (psalteryref12_May.j0 k l1 a2 a3 (decide ((rd l1 a2) > 0))) else (psalteryref12_May.j0 k l1 a2 a3 false)))) else (none))) else (none)) else (none))=some r:=h
 clear h;have HC5:=zm H;clear H
 go_enter Try.func21,Try.ntmps21
 go_upto_region 1 with (fail)
 go_cut [32] (fun v32 wc => ∃ (kq : Nat) (x32_4 : Bool),v32=.bool x32_4∧Aside0 (psalteryref12_May.j0 kq l1 a2 a3 x32_4=some r)∧Aside0 (kq≤k)∧Aside0 (Below w.heap.size w wc))
 case first =>
  have H:=HC5.out;clear HC5
  by_cases c6 : 0≤a2
  ·
   rw [if_pos c6] at H
   have c6b0 : decide (0≤a2)=true:=decide_eq_true c6
   clear c6
   (first|rw [c6b0]|(simp only [i64_w,i32_w];rw [c6b0])|skip)
   by_cases c7 : a2 < (l0.length : Int)
   ·
    rw [if_pos c7] at H
    have c7b0 : decide (a2 < (l0.length : Int))=true:=decide_eq_true c7
    clear c7
    by_cases c8 : (rd l0 a2) < 1
    ·
     rw [if_pos c8] at H
     have c8b0 : decide ((rd l0 a2) < 1)=true:=decide_eq_true c8
     clear c8
     have H' := zm H
     clear H
     have p235 : 0≤(a2 : Int):=of_decide_eq_true (by first|(with_reducible assumption)|assumption)
     have q235 : a2 < (l0.length : Int):=of_decide_eq_true (by first|(with_reducible assumption)|assumption)
     obtain ⟨ad235,e235,hx235_0⟩:=Kd.at_int HR0.out a2 p235 q235
     cases e235
     replace hx235_0:=(HB.out.cell (zb w _ hx235_0)).trans hx235_0
     replace p235:=eq_true p235
     replace q235:=eq_true q235
     go_wp2
     go_meet
     case rel=>exact ⟨_,(true),(by first|rfl|(simp;done)|(simp [*];done)),H',⟨by first|omega|exact Nat.le_refl _⟩,⟨by repeat (first|(with_reducible first|exact HB.out|apply ze|apply zd|apply zf)|exact HB.out)⟩⟩
    ·
     rw [if_neg c8] at H
     have c8b0 : decide ((rd l0 a2) < 1)=false:=decide_eq_false c8
     clear c8
     by_cases c9 : a2 < (l1.length : Int)
     ·
      rw [if_pos c9] at H
      have c9b0 : decide (a2 < (l1.length : Int))=true:=decide_eq_true c9
      clear c9
      by_cases c10 : (rd l1 a2) ≥ 12
      ·
       rw [if_pos c10] at H
       have c10b0 : decide (12≤(rd l1 a2))=true:=decide_eq_true c10
       clear c10
       have H' := zm H
       clear H
       have p235 : 0≤(a2 : Int):=of_decide_eq_true (by first|(with_reducible assumption)|assumption)
       have q235 : a2 < (l0.length : Int):=of_decide_eq_true (by first|(with_reducible assumption)|assumption)
       obtain ⟨ad235,e235,hx235_0⟩:=Kd.at_int HR0.out a2 p235 q235
       cases e235
       replace hx235_0:=(HB.out.cell (zb w _ hx235_0)).trans hx235_0
       replace p235:=eq_true p235
       replace q235:=eq_true q235
       have p236 : 0≤(a2 : Int):=of_decide_eq_true (by first|(with_reducible assumption)|assumption)
       have q236 : a2 < (l1.length : Int):=of_decide_eq_true (by first|(with_reducible assumption)|assumption)
       obtain ⟨ad236,e236,hx236_0⟩:=Kd.at_int HR1.out a2 p236 q236
       cases e236
       replace hx236_0:=(HB.out.cell (zb w _ hx236_0)).trans hx236_0
       replace p236:=eq_true p236
       replace q236:=eq_true q236
       go_wp2
       go_meet
       case rel=>exact ⟨_,(true),(by first|rfl|(simp;done)|(simp [*];done)),H',⟨by first|omega|exact Nat.le_refl _⟩,⟨by repeat (first|(with_reducible first|exact HB.out|apply ze|apply zd|apply zf)|exact HB.out)⟩⟩
      ·
       rw [if_neg c10] at H
       have c10b0 : decide (12≤(rd l1 a2))=false:=decide_eq_false c10
       clear c10
       replace H:=Option.bind_eq_some_iff.mp H
       obtain ⟨t237,A110,H⟩:=H
       replace H : (if t237=1 then (psalteryref12_May.j0 k l1 a2 a3 (decide ((rd l1 a2) > 0))) else (psalteryref12_May.j0 k l1 a2 a3 false))=some r:=H
       have A11:=zm A110;clear A110
       by_cases c12 : t237=1
       ·
        rw [if_pos c12] at H
        have c12b0 : (t237 == 1)=true:=beq_iff_eq.mpr c12
        have c12b1 : (t237 != 1)=false:=bne_eq_false_iff_eq.mpr c12
        clear c12
        have H' := zm H
        clear H
        have p235 : 0≤(a2 : Int):=of_decide_eq_true (by first|(with_reducible assumption)|assumption)
        have q235 : a2 < (l0.length : Int):=of_decide_eq_true (by first|(with_reducible assumption)|assumption)
        obtain ⟨ad235,e235,hx235_0⟩:=Kd.at_int HR0.out a2 p235 q235
        cases e235
        replace hx235_0:=(HB.out.cell (zb w _ hx235_0)).trans hx235_0
        replace p235:=eq_true p235
        replace q235:=eq_true q235
        have p236 : 0≤(a2 : Int):=of_decide_eq_true (by first|(with_reducible assumption)|assumption)
        have q236 : a2 < (l1.length : Int):=of_decide_eq_true (by first|(with_reducible assumption)|assumption)
        obtain ⟨ad236,e236,hx236_0⟩:=Kd.at_int HR1.out a2 p236 q236
        cases e236
        replace hx236_0:=(HB.out.cell (zb w _ hx236_0)).trans hx236_0
        replace p236:=eq_true p236
        replace q236:=eq_true q236
        go_wp2_with (first|(go_at_call 20;(with_reducible refine (psalteryref10_Width.calls k a2 t237 _ A11.out).mono ?_);rintro e w' ⟨rfl,⟨nd,rfl⟩⟩;have p238 : 0≤(a2 : Int):=of_decide_eq_true (by first|(with_reducible assumption)|assumption);have q238 : a2 < (l1.length : Int):=of_decide_eq_true (by first|(with_reducible assumption)|assumption);obtain ⟨ad238,e238,hx238_0⟩:=Kd.at_int HR1.out a2 p238 q238;obtain rfl : ad236=ad238:=(by injection e238);replace hx238_0:=(HB.out.cell (zb w _ hx238_0)).trans hx238_0;replace p238:=eq_true p238;replace q238:=eq_true q238))
        go_meet
        case rel=>exact ⟨_,(decide ((rd l1 a2) > 0)),(by first|rfl|(simp;done)|(simp [*];done)),H',⟨by first|omega|exact Nat.le_refl _⟩,⟨by repeat (first|(with_reducible first|exact HB.out|apply ze|apply zd|apply zf)|exact HB.out)⟩⟩
       ·
        rw [if_neg c12] at H
        have c12b0 : (t237 == 1)=false:=beq_eq_false_iff_ne.mpr c12
        have c12b1 : (t237 != 1)=true:=bne_iff_ne.mpr c12
        have H' := zm H
        clear H
        have p235 : 0≤(a2 : Int):=of_decide_eq_true (by first|(with_reducible assumption)|assumption)
        have q235 : a2 < (l0.length : Int):=of_decide_eq_true (by first|(with_reducible assumption)|assumption)
        obtain ⟨ad235,e235,hx235_0⟩:=Kd.at_int HR0.out a2 p235 q235
        cases e235
        replace hx235_0:=(HB.out.cell (zb w _ hx235_0)).trans hx235_0
        replace p235:=eq_true p235
        replace q235:=eq_true q235
        have p236 : 0≤(a2 : Int):=of_decide_eq_true (by first|(with_reducible assumption)|assumption)
        have q236 : a2 < (l1.length : Int):=of_decide_eq_true (by first|(with_reducible assumption)|assumption)
        obtain ⟨ad236,e236,hx236_0⟩:=Kd.at_int HR1.out a2 p236 q236
        cases e236
        replace hx236_0:=(HB.out.cell (zb w _ hx236_0)).trans hx236_0
        replace p236:=eq_true p236
        replace q236:=eq_true q236
        go_wp2_with (first|(go_at_call 20;(with_reducible refine (psalteryref10_Width.calls k a2 t237 _ A11.out).mono ?_);rintro e w' ⟨rfl,⟨nd,rfl⟩⟩))
        go_meet
        case rel=>exact ⟨_,(false),(by first|rfl|(simp;done)|(simp [*];done)),H',⟨by first|omega|exact Nat.le_refl _⟩,⟨by repeat (first|(with_reducible first|exact HB.out|apply ze|apply zd|apply zf)|exact HB.out)⟩⟩
     ·
      rw [if_neg c9] at H
      exact absurd H (by simp)
   ·
    rw [if_neg c7] at H
    exact absurd H (by simp)
  ·
   rw [if_neg c6] at H
   exact absurd H (by simp)
 case rest =>
  clear HC5
  try clear c1
  try clear c2
  try clear p2
  try clear q2
  try clear hx2
  try clear c6
  try clear c6b0
  try clear c7
  try clear c7b0
  try clear c8
  try clear c8b0
  try clear c9
  try clear c9b0
  try clear c10
  try clear c10b0
  try clear c12
  try clear c12b0
  try clear c12b1
  try clear hx235_0
  try clear hx236_0
  try clear hx238_0
  try clear p235
  try clear p236
  try clear p238
  try clear q235
  try clear q236
  try clear q238
  obtain ⟨kq,x32_4,rfl,HA,HJ4,HB⟩:=hcut
  cases kq with
  | zero=>exact absurd HA.out (by simp [psalteryref12_May.j0])
  | succ kj4 =>
   have H:=HA.out;clear HA
   simp only [psalteryref12_May.j0] at H
   by_cases c13 : x32_4=true
   ·
    subst c13
    have H1 : (some false)=some r:=by rw [if_pos rfl] at H;exact H
    clear H;have H:=H1;clear H1
    obtain rfl:=Option.some.inj H
    go_wp2
    go_ret
    exact ⟨by first|rfl|(simp [errW_none,errW_some] <;> rfl)|(simp [*,errW_none,errW_some] <;> rfl),by repeat (first|(with_reducible first|exact HB.out|apply ze|apply zd|apply zf)|exact HB.out)⟩
   ·
    replace c13:=Bool.eq_false_iff.mpr c13
    subst c13
    have H1 : ((psalteryref12_More.f l1 a2).bind fun t239=>((psalteryref12_Spent.f kj4 t239).bind fun t242=>(some (decide (t242≤a3)))))=some r:=by rw [if_neg (show ¬ (false=true) by decide)] at H;exact H
    clear H;have H:=H1;clear H1
    replace H:=Option.bind_eq_some_iff.mp H
    obtain ⟨t239,A140,H⟩:=H
    replace H : ((psalteryref12_Spent.f kj4 t239).bind fun t242=>(some (decide (t242≤a3))))=some r:=H
    have A14:=zm A140;clear A140
    replace H:=Option.bind_eq_some_iff.mp H
    obtain ⟨t242,A150,H⟩:=H
    replace H : (some (decide (t242≤a3)))=some r:=H
    have A15:=zm A150;clear A150
    obtain rfl:=Option.some.inj H
    go_wp2_with (first|((with_reducible refine gate_callee (f:=30) rfl ?_);refine goesL_ (some 35) rfl rfl Try.func30 (by kernel_rfl) rfl #[.slice A1 l1.length c1, .int .i64 a2] rfl (by (try simp only [List.map_toArray,List.map_cons,List.map_nil]);first|done|rfl|(simp only [List.length_drop,List.length_take];rfl)) ?_;(with_reducible refine (psalteryref12_More.calls _ _ l1 a2 t239 _ ?side1 ?side2 A14.out).mono ?_);(case side1=>repeat (first|exact (Kd.C_below HR1.out HB.out)|(with_reducible refine Kd.C_alloc ?_ _)|(with_reducible refine Kd.C_drewN ?_ _)|(with_reducible refine Kd.C_drew ?_)));(case side2=>exact HC1.out);rintro e w16 ⟨v240,rfl,ho0,hb⟩;refine ⟨_,rfl, ?_⟩;have n0_:=zm (Kd.R_lower ho0 (zE (by repeat (first|(with_reducible first|exact HB.out|apply ze|apply zd|apply zf)|exact HB.out))));have n1_:=zm (zJ (by repeat (first|(with_reducible first|exact HB.out|apply ze|apply zd|apply zf)|exact HB.out)) hb);clear HB;have HO241:=n0_;have HB:=n1_;clear n0_ n1_;(try clear hb);(try clear hb2);(try clear hk);(try clear hi);(try clear ho0);obtain ⟨Ao17,co17,eo17⟩:=Kd.R_slice HO241.out;subst eo17)|((with_reducible refine gate_callee (f:=19) rfl ?_);refine goesL_ (some 36) rfl rfl Try.func19 (by kernel_rfl) rfl #[.slice Ao17 t239.length co17] rfl (by (try simp only [List.map_toArray,List.map_cons,List.map_nil]);first|done|rfl|(simp only [List.length_drop,List.length_take];rfl)) ?_;(with_reducible refine (psalteryref12_Spent.calls kj4 _ _ t239 t242 _ ?side1 ?side2 A15.out).mono ?_);(case side1=>repeat (first|exact (Kd.R_reads' HO241.out).2.2|(with_reducible refine Kd.C_alloc ?_ _)|(with_reducible refine Kd.C_drewN ?_ _)|(with_reducible refine Kd.C_drew ?_)));(case side2=>exact (Kd.R_reads' HO241.out).2.1);rintro e w18 ⟨rfl,hb⟩;refine ⟨_,rfl, ?_⟩;have n0_:=zm (Kd.R_below (by (with_reducible repeat (first|apply zo|apply zp|apply zq));exact HO241.out) hb);have n1_:=zm (zJ (by repeat (first|(with_reducible first|exact HB.out|apply ze|apply zd|apply zf)|exact HB.out)) hb);clear HO241;clear HB;have HO241:=n0_;have HB:=n1_;clear n0_ n1_;(try clear hb);(try clear hb2);(try clear hk);(try clear hi)))
    go_ret
    exact ⟨by first|rfl|(simp [errW_none,errW_some] <;> rfl)|(simp [*,errW_none,errW_some] <;> rfl),by repeat (first|(with_reducible first|exact HB.out|apply ze|apply zd|apply zf)|exact HB.out)⟩

end Go.Proofs.Ytbaaedpjaanjnaa.Prt
