-- Functions of the program and of the document as plain Lean, each with the proof that the code comes to it. Written by a program of this session (wip/tools/myprint.py, pack.py) over the kit's printer; Lean checks it.
import Derived.Test.YtnmbndkojpjkmaaZPackRightsPrt0
import Derived.Test.YtnmbndkojpjkmaaZPackRightsM1
import Derived.Test.YtnmbndkojpjkmaaZPackRightsSh
namespace Go.Proofs.Ytnmbndkojpjkmaa.Prt
open Go.RowKit Go.Proofs.YtnmbndkojpjkmaaW.PrintWords Go.Proofs.YtnmbndkojpjkmaaW.PrintLast Go.Proofs.YtnmbndkojpjkmaaW.PrintMore
attribute [local go_sem] max2_int min2_int max_two min_two max_three min_three max_four min_four   -- for this text's walks alone
set_option linter.unusedVariables false
set_option linter.unusedSimpArgs false

/-! ### coder_Take: function 51 -/
def coder_Take.l0 : Nat→Int→Int→Int→List Int→Int→Option (Int × Int × List Int × Int × Int)
 | 0,_,_,_,_,_=>none
 | k+1,x10,x382000,x382001,x382002,x382003=>if x10 < 16777216 then ((coder_at.f x382002 x382003).bind fun t392=>(if x382003 < (x382002.length : Int) then (coder_Take.l0 k ((x10 * 256) % 4294967296) (Go.bits .or .u64 (Go.bits .and .u64 (IntKind.u64.wrap (x382000 * 256)) 4294967295) t392) x382001 x382002 (wrap64 (x382003+1))) else (coder_Take.l0 k ((x10 * 256) % 4294967296) (Go.bits .or .u64 (Go.bits .and .u64 (IntKind.u64.wrap (x382000 * 256)) 4294967295) t392) x382001 x382002 x382003))) else (some (x382000,x10,x382002,x382003,0))
def coder_Take.f (k : Nat) (a0_0 : Int) (a0_1 : Int) (l0_2 : List Int) (a0_3 : Int) (a1 : Int) (a2 : Int) (a3 : Int) : Option (Int × Int × List Int × Int × Int):=(coder_good.f a0_0 a0_1 l0_2 a0_3).bind fun bt383=>((coder_fair.f a1 a2 a3).bind fun t389=>(if t389=true then ((coder_part.f bt383.2.1 a1 a2 a3).bind fun bt390=>(coder_Take.l0 k bt390.1 (IntKind.u64.wrap (bt383.1 - (mn bt383.1 bt390.2))) bt383.2.1 bt383.2.2.1 bt383.2.2.2)) else (some (bt383.1,bt383.2.1,bt383.2.2.1,bt383.2.2.2,1))))
theorem coder_Take.mono_l : ∀ k,(∀ y0 y1 y2 y3 y4,LeO (coder_Take.l0 k y0 y1 y2 y3 y4) (coder_Take.l0 (k+1) y0 y1 y2 y3 y4))
 | 0=>fun _ _ _ _ _ r h=>by simp [coder_Take.l0] at h
 | k+1=>by
  have ih0:=coder_Take.mono_l k
  ·
   intro y0 y1 y2 y3 y4
   unfold coder_Take.l0
   repeat' first
   | (with_reducible exact ih0 _ _ _ _ _)
   | (with_reducible exact LeO.refl _)
   | (with_reducible exact LeO.none _)
   | (with_reducible refine LeO.ite ?_ ?_)
   | (with_reducible refine LeO.bind ?_ (fun _ => ?_))
   | exact ih0 _ _ _ _ _
   | exact LeO.none _
   | refine LeO.ite ?_ ?_
   | refine LeO.bind ?_ (fun _ => ?_)
theorem coder_Take.mono : ∀ a0 a1 a2 a3 a4 a5 a6 k,LeO (coder_Take.f k a0 a1 a2 a3 a4 a5 a6) (coder_Take.f (k+1) a0 a1 a2 a3 a4 a5 a6):=by
 intro a0 a1 a2 a3 a4 a5 a6 k
 have ih0:=coder_Take.mono_l k
 unfold coder_Take.f
 repeat' first
   | (with_reducible exact ih0 _ _ _ _ _)
   | (with_reducible exact LeO.refl _)
   | (with_reducible exact LeO.none _)
   | (with_reducible refine LeO.ite ?_ ?_)
   | (with_reducible refine LeO.bind ?_ (fun _ => ?_))
   | exact ih0 _ _ _ _ _
   | exact LeO.none _
   | refine LeO.ite ?_ ?_
   | refine LeO.bind ?_ (fun _ => ?_)
def coder_Take.T7 : Bool × List (List Nat × List Nat):=(true, [([], []),([0], [0]),([1], [1]),([2], [2]),([], []),([4], [4]),([], []),([6], [6]),([5,7], [5,7]),([3,8], [3,8]),([0,1,2,3,4,5,6,7,8,9], []),([10,9,8,0,1,2,3,4,5,6,7,8,9], [9,10])])
def coder_Take.B7 : List Nat := [0,1,3,7,0,16,0,64,240,511,1023,2047]
theorem coder_Take.tab7 : rtab .any (opsOf Try.f51 7)=coder_Take.T7:=by kernel_rfl
theorem coder_Take.bits7 : waitsOk coder_Take.T7.2 coder_Take.B7=true:=by kernel_rfl
set_option maxHeartbeats 8000000 in
set_option maxRecDepth 100000 in
theorem coder_Take.calls (k : Nat) (a0_0 : Int) (a0_1 : Int) (P0_2_ : Nat→Prop) (A0_2 : Option Addr) (c0_2 : Nat) (l0_2 : List Int) (a0_3 : Int) (a1 : Int) (a2 : Int) (a3 : Int) (r1 : Int) (r2 : Int) (r3 : List Int) (r4 : Int) (r5 : Int) (w : World) (hs0_2 : Kd.V (Kd.int .u8) 5 w w.heap.size (fun k_=>P0_2_ k_) (.slice A0_2 l0_2.length c0_2) l0_2) (h : coder_Take.f k a0_0 a0_1 l0_2 a0_3 a1 a2 a3=some (r1,r2,r3,r4,r5)) :
  Calls Try.prog 51 #[.agg #[.int .u64 a0_0, .int .u32 a0_1, .slice A0_2 l0_2.length c0_2, .int .i64 a0_3], .int .i64 a1, .int .i64 a2, .int .i64 a3] w fun e w' => ∃ v2_ : Value,e=.returned (.tuple #[.agg #[.int .u64 r1, .int .u32 r2,v2_, .int .i64 r4], .int .i64 r5])∧Kd.V (Kd.int .u8) 5 w' w.heap.size (fun k_=>(P0_2_ k_∨w.heap.size≤k_)) v2_ r3∧Below w.heap.size w w' := by
 have hu82:=Try.underlying82
 have HO0_2:=zm (show Kd.V (Kd.int .u8) 5 w w.heap.size (fun k_=>(P0_2_ k_∨w.heap.size≤k_)) (.slice A0_2 l0_2.length c0_2) l0_2 from zy hs0_2 (fun k_ hk => .inl hk))
 have HB:=zm (Below.refl w.heap.size w)
 have H : ((coder_good.f a0_0 a0_1 l0_2 a0_3).bind fun bt383=>((coder_fair.f a1 a2 a3).bind fun t389=>(if t389=true then ((coder_part.f bt383.2.1 a1 a2 a3).bind fun bt390=>(coder_Take.l0 k bt390.1 (IntKind.u64.wrap (bt383.1 - (mn bt383.1 bt390.2))) bt383.2.1 bt383.2.2.1 bt383.2.2.2)) else (some (bt383.1,bt383.2.1,bt383.2.2.1,bt383.2.2.2,1)))))=some (r1,r2,r3,r4,r5):=h
 clear h
 obtain ⟨⟨t383,t384,t385,t388⟩,A5,H⟩:=ybi H
 try dsimp only at H
 obtain ⟨t389,A6,H⟩:=ybi H
 by_cases c7 : t389=true
 ·
  subst c7
  rw [if_pos rfl] at H
  obtain ⟨⟨t390,t391⟩,A8,H⟩:=ybi H
  try dsimp only at H
  obtain ⟨ji9,hji9⟩ : ∃ j_ : Int,(mn t383 t391)=j_:=⟨_,rfl⟩
  replace H : (coder_Take.l0 k t390 (IntKind.u64.wrap (t383 - (ji9))) t384 t385 t388)=some (r1,r2,r3,r4,r5):=by first|(rw [hji9] at H;exact H)|(simp only [hji9] at H ⊢; exact H)
  (try rw [hji9] at A5)
  (try rw [hji9] at A6)
  (try rw [hji9] at A8)
  have hji9_ : (if t391 < t383 then t391 else t383)=ji9:=hji9
  have H' := zm H
  clear H
  go_enter Try.func51,Try.ntmps51
  go_wp2_with (first|((with_reducible refine gate_dst (N:=4) rfl ?_);refine ybx 4 #[.int .u64 a0_0, .int .u32 a0_1, .slice A0_2 l0_2.length c0_2, .int .i64 a0_3] 82 ?_;intro gb381 hg w10 hbox hb;replace HO0_2:=yVe HO0_2 hg hb;have BK381:=zm (hbox);have GW381:=ygw hg;have GE381:=ygw hg;replace HB:=ybs hb;clear hb hbox hg)|((with_reducible refine gate_dst (N:=8) rfl ?_);refine ybx 8 #[.int .u64 0, .int .u32 0, .slice none 0 0, .int .i64 0] 82 ?_;intro gb382 hg w11 hbox hb;replace HO0_2:=yVe HO0_2 hg hb;have BK382:=zm (hbox);have GW382:=ygw hg;have GE382:=ygw hg;replace HB:=ybs hb;have NB381_382:=ynl BK381 hg;have NB382_381:=yng BK381 hg;replace BK381:=ybb BK381 hb;clear hb hbox hg;have hnb12:=NB381_382.out;have hnc12:=NB382_381.out;obtain ⟨hcz13_0,hcz13_1,hcz13_2,hcz13_3,hfz13_0,hfz13_1,hfz13_2,hfz13_3⟩:=yc4 BK381)|((with_reducible refine gate_callee (f:=86) rfl ?_);refine ygl 13 Try.func86 #[.agg #[.int .u64 a0_0, .int .u32 a0_1, .slice A0_2 l0_2.length c0_2, .int .i64 a0_3]] ?_;(with_reducible refine (coder_good.calls a0_0 a0_1 (fun k_=>(((P0_2_ k_∨w.heap.size≤k_)∧k_≠gb381)∧k_≠gb382)) _ _ l0_2 a0_3 t383 t384 t385 t388 _ HO0_2.out A5.out).mono ?_);rintro e w14 ⟨v386,rfl,ho0,hb⟩;refine ⟨_,rfl, ?_⟩;replace HO0_2:=yVb HO0_2 hb;have HO387:=zm (Kd.V_lower (zy (ok' := fun k_=>(P0_2_ k_∨w.heap.size≤k_)∧k_≠gb381∧k_≠gb382) ho0 (fun k_ hk_=>⟨Or.elim hk_ (fun hs_=>hs_.1.1) (fun hn_=>(.inr (Nat.le_trans (zE yhb) hn_))),Or.elim hk_ (fun hs_=>hs_.1.2) (fun hn_=>(Kd.freshB (yk BK381) k_ hn_)),Or.elim hk_ (fun hs_=>hs_.2) (fun hn_=>(Kd.freshB (yk BK382) k_ hn_))⟩)) (zE yhb));replace BK381:=ybb BK381 hb;replace BK382:=ybb BK382 hb;replace HB:=ybs hb;(try clear hb);(try clear hb2);(try clear hk);(try clear hi);(try clear ho0);obtain ⟨hcz15_0,hcz15_1,hcz15_2,hcz15_3,hfz15_0,hfz15_1,hfz15_2,hfz15_3⟩:=yc4 BK381;obtain ⟨Ao16,co16,eo16⟩:=Kd.V_slice HO387.out;subst eo16)|((with_reducible refine gate_store (t:=82) (p:=4) rfl ?_);refine store_event (t:=82) (p:=4) (v := ?vo_w17) (w1:=((((w14.setCell ⟨gb381,0,none⟩ (.int .u64 t383)).setCell ⟨gb381,1,none⟩ (.int .u32 t384)).setCell ⟨gb381,2,none⟩ (.slice Ao16 t385.length co16)).setCell ⟨gb381,3,none⟩ (.int .i64 t388))) ?hg ?ho ?hn ?hr ?_;(case ho=>rfl);(case hg=>rfl);(case hn=>rfl);(case hr=>first|(go_simp;done)|(go_simp;rfl));intro w17 hw;replace HO0_2 : Aside0 (Kd.V (Kd.int .u8) 5 w17 w.heap.size (fun k_=>(P0_2_ k_∨w.heap.size≤k_)∧k_≠gb381∧k_≠gb382) (.slice A0_2 l0_2.length c0_2) l0_2):=⟨(by rw [hw];exact (by (with_reducible repeat (first|apply zA|apply zB|apply zC));exact zy (zI (p:=⟨gb381,3,none⟩) (zI (p:=⟨gb381,2,none⟩) (zI (p:=⟨gb381,1,none⟩) (zI (p:=⟨gb381,0,none⟩) (zy HO0_2.out (fun k_ hk=>(⟨hk,hk.1.2⟩ : _∧k_≠gb381))) (fun _ hk=>hk.2) (.int .u64 t383)) (fun _ hk=>hk.2) (.int .u32 t384)) (fun _ hk=>hk.2) (.slice Ao16 t385.length co16)) (fun _ hk=>hk.2) (.int .i64 t388)) (fun _ hk=>⟨hk.1.1.1,⟨hk.1.1.2,hk.1.2⟩⟩)))⟩;replace HO387 : Aside0 (Kd.V (Kd.int .u8) 5 w17 w.heap.size (fun k_=>(P0_2_ k_∨w.heap.size≤k_)∧k_≠gb381∧k_≠gb382) (.slice Ao16 t385.length co16) t385):=⟨(by rw [hw];exact (by (with_reducible repeat (first|apply zA|apply zB|apply zC));exact zy (zI (p:=⟨gb381,3,none⟩) (zI (p:=⟨gb381,2,none⟩) (zI (p:=⟨gb381,1,none⟩) (zI (p:=⟨gb381,0,none⟩) (zy HO387.out (fun k_ hk=>(⟨hk,hk.2.1⟩ : _∧k_≠gb381))) (fun _ hk=>hk.2) (.int .u64 t383)) (fun _ hk=>hk.2) (.int .u32 t384)) (fun _ hk=>hk.2) (.slice Ao16 t385.length co16)) (fun _ hk=>hk.2) (.int .i64 t388)) (fun _ hk=>⟨hk.1.1,⟨hk.1.2.1,hk.1.2.2⟩⟩)))⟩;replace BK381 : Aside0 (w17.heap[gb381]? = some (.cells #[.int .u64 t383, .int .u32 t384, .slice Ao16 t385.length co16, .int .i64 t388] 82 (0,0))):=⟨(by rw [hw];exact (yk BK381))⟩;replace BK382 : Aside0 (w17.heap[gb382]? = some (.cells #[.int .u64 0, .int .u32 0, .slice none 0 0, .int .i64 0] 82 (0,0))):=⟨(by rw [hw];exact (yk BK382))⟩;replace HB : Aside0 (Below w.heap.size w w17):=⟨(by rw [hw];exact yhb)⟩;clear hw)|((with_reducible refine gate_callee (f:=64) rfl ?_);refine ygl 17 Try.func64 #[.int .i64 a1, .int .i64 a2, .int .i64 a3] ?_;(with_reducible refine (coder_fair.calls a1 a2 a3 true _ A6.out).mono ?_);rintro e w' ⟨rfl,⟨nd,rfl⟩⟩;refine ⟨_,rfl, ?_⟩;(try (rw [drewN_self w17];generalize hq_ : World.drewN w17 _=w17;have n0_ : Aside0 (Kd.V (Kd.int .u8) 5 w17 w.heap.size (fun k_=>(P0_2_ k_∨w.heap.size≤k_)∧k_≠gb381∧k_≠gb382) (.slice A0_2 l0_2.length c0_2) l0_2):=⟨by rw [← hq_];exact (yr HO0_2)⟩;have n1_ : Aside0 (Kd.V (Kd.int .u8) 5 w17 w.heap.size (fun k_=>(P0_2_ k_∨w.heap.size≤k_)∧k_≠gb381∧k_≠gb382) (.slice Ao16 t385.length co16) t385):=⟨by rw [← hq_];exact (yr HO387)⟩;have n2_ : Aside0 (w17.heap[gb381]? = some (.cells #[.int .u64 t383, .int .u32 t384, .slice Ao16 t385.length co16, .int .i64 t388] 82 (0,0))):=⟨by rw [← hq_];exact (yk BK381)⟩;have n3_ : Aside0 (w17.heap[gb382]? = some (.cells #[.int .u64 0, .int .u32 0, .slice none 0 0, .int .i64 0] 82 (0,0))):=⟨by rw [← hq_];exact (yk BK382)⟩;have n4_ : Aside0 (Below w.heap.size w w17):=⟨by rw [← hq_];exact yhb⟩;clear HO0_2 HO387 BK381 BK382 HB hq_;have HO0_2:=n0_;have HO387:=n1_;have BK381:=n2_;have BK382:=n3_;have HB:=n4_;clear n0_ n1_ n2_ n3_ n4_));obtain ⟨hcz18_0,hcz18_1,hcz18_2,hcz18_3,hfz18_0,hfz18_1,hfz18_2,hfz18_3⟩:=yc4 BK381)|((with_reducible refine gate_callee (f:=65) rfl ?_);refine ygl 26 Try.func65 #[.int .u32 t384, .int .i64 a1, .int .i64 a2, .int .i64 a3] ?_;(with_reducible refine (coder_part.calls t384 a1 a2 a3 t390 t391 _ A8.out).mono ?_);rintro e w' ⟨rfl,⟨nd,rfl⟩⟩;refine ⟨_,rfl, ?_⟩;(try (rw [drewN_self w17];generalize hq_ : World.drewN w17 _=w17;have n0_ : Aside0 (Kd.V (Kd.int .u8) 5 w17 w.heap.size (fun k_=>(P0_2_ k_∨w.heap.size≤k_)∧k_≠gb381∧k_≠gb382) (.slice A0_2 l0_2.length c0_2) l0_2):=⟨by rw [← hq_];exact (yr HO0_2)⟩;have n1_ : Aside0 (Kd.V (Kd.int .u8) 5 w17 w.heap.size (fun k_=>(P0_2_ k_∨w.heap.size≤k_)∧k_≠gb381∧k_≠gb382) (.slice Ao16 t385.length co16) t385):=⟨by rw [← hq_];exact (yr HO387)⟩;have n2_ : Aside0 (w17.heap[gb381]? = some (.cells #[.int .u64 t383, .int .u32 t384, .slice Ao16 t385.length co16, .int .i64 t388] 82 (0,0))):=⟨by rw [← hq_];exact (yk BK381)⟩;have n3_ : Aside0 (w17.heap[gb382]? = some (.cells #[.int .u64 0, .int .u32 0, .slice none 0 0, .int .i64 0] 82 (0,0))):=⟨by rw [← hq_];exact (yk BK382)⟩;have n4_ : Aside0 (Below w.heap.size w w17):=⟨by rw [← hq_];exact yhb⟩;clear HO0_2 HO387 BK381 BK382 HB hq_;have HO0_2:=n0_;have HO387:=n1_;have BK381:=n2_;have BK382:=n3_;have HB:=n4_;clear n0_ n1_ n2_ n3_ n4_));obtain ⟨hcz19_0,hcz19_1,hcz19_2,hcz19_3,hfz19_0,hfz19_1,hfz19_2,hfz19_3⟩:=yc4 BK381))
  go_loopg [10] k (fun kq v10 w' => ∃ (x10_1 : Int) (x382000_1 : Int) (x382003_1 : Int),v10=.int .u32 x10_1∧Aside0 (coder_Take.l0 kq x10_1 x382000_1 t384 t385 x382003_1=some (r1,r2,r3,r4,r5))∧Aside0 (kq≤k)∧Aside0 (Kd.V (Kd.int .u8) 5 w' w.heap.size (fun k_=>(P0_2_ k_∨w.heap.size≤k_)∧k_≠gb381∧k_≠gb382) (.slice Ao16 t385.length co16) t385)∧Aside0 (w'.heap[gb381]? = some (.cells #[.int .u64 x382000_1, .int .u32 t384,(.slice Ao16 t385.length co16), .int .i64 x382003_1] 82 (0,0)))∧Aside0 (w'.heap[gb382]? = some (.cells #[.int .u64 0, .int .u32 0,(.slice none 0 0), .int .i64 0] 82 (0,0)))∧Aside0 (Below w.heap.size w w'))
  case atStart=>exact ⟨(t390),(IntKind.u64.wrap (t383 - (ji9))),(t388),yq,H',⟨Nat.le_refl _⟩,⟨by (with_reducible repeat (first|apply zA|apply zB|apply zC));exact zy (zI (p:=⟨gb381,0,none⟩) (zy HO387.out (fun k_ hk=>(⟨hk,hk.2.1⟩ : _∧k_≠gb381))) (fun _ hk=>hk.2) (.int .u64 (IntKind.u64.wrap (t383 - (ji9))))) (fun _ hk=>⟨hk.1.1,⟨hk.1.2.1,hk.1.2.2⟩⟩)⟩,⟨yk BK381⟩,⟨yk BK382⟩,⟨yhb⟩⟩
  case round =>
   clear H'
   try clear c7
   try clear hcz13_0
   try clear hcz13_1
   try clear hcz13_2
   try clear hcz13_3
   try clear hcz15_0
   try clear hcz15_1
   try clear hcz15_2
   try clear hcz15_3
   try clear hcz18_0
   try clear hcz18_1
   try clear hcz18_2
   try clear hcz18_3
   try clear hcz19_0
   try clear hcz19_1
   try clear hcz19_2
   try clear hcz19_3
   try clear hfz13_0
   try clear hfz13_1
   try clear hfz13_2
   try clear hfz13_3
   try clear hfz15_0
   try clear hfz15_1
   try clear hfz15_2
   try clear hfz15_3
   try clear hfz18_0
   try clear hfz18_1
   try clear hfz18_2
   try clear hfz18_3
   try clear hfz19_0
   try clear hfz19_1
   try clear hfz19_2
   try clear hfz19_3
   obtain ⟨x10_1,x382000_1,x382003_1,rfl,HA,HK1,HO_382002,BK381,BK382,HB⟩:=hrel
   cases gk with
   | zero=>exact absurd HA.out (by simp [coder_Take.l0])
   | succ k1 =>
    have H:=HA.out;clear HA
    simp only [coder_Take.l0] at H
    by_cases c20 : x10_1 < 16777216
    ·
     rw [if_pos c20] at H
     have c20b0 : decide (x10_1 < 16777216)=true:=decide_eq_true c20
     clear c20
     obtain ⟨t392,A21,H⟩:=ybi H
     by_cases c22 : x382003_1 < (t385.length : Int)
     ·
      rw [if_pos c22] at H
      have c22b0 : decide (x382003_1 < (t385.length : Int))=true:=decide_eq_true c22
      clear c22
      have H' := zm H
      clear H
      try go_wp2
      replace HO_382002:=zm (zC HO_382002.out)
      replace BK381:=zm (zj BK381.out)
      replace BK382:=zm (zj BK382.out)
      replace HB:=zm (zf HB.out)
      refine start_ (n:=12) (S:=fun w' => w'.cell? ⟨gb381,0,none⟩=some (.int .u64 x382000_1)∧w'.cell? ⟨gb381,1,none⟩=some (.int .u32 t384)∧w'.cell? ⟨gb381,2,none⟩=some (.slice Ao16 t385.length co16)∧w'.cell? ⟨gb381,3,none⟩=some (.int .i64 x382003_1)) (ds := [11]) #[false,false,false,false,false,false,false,false,false,false,false,false] (by kernel_rfl) rfl rfl ⟨(zs BK381.out 0).trans rfl,(zs BK381.out 1).trans rfl,(zs BK381.out 2).trans rfl,(zs BK381.out 3).trans rfl⟩ (fun hHeld => ?_);refine with_tabW coder_Take.tab7 coder_Take.bits7 (fun HT_ HW_ => ?_)
      generalize wr.drew=w23 at HO_382002 BK381 BK382 HB hHeld ⊢
      refine yp 0 39 HT_ ?_
      refine yp 4 43 HT_ ?_
      refine yp 6 45 HT_ ?_
      refine yl 1 40 HT_ HW_ hHeld ?_
      refine yp 2 41 HT_ ?_
      refine yp 3 42 HT_ ?_
      refine yl 5 44 HT_ HW_ hHeld ?_
      refine yl 7 46 HT_ HW_ hHeld ?_
      refine yw 8 47 HT_ (fun K hK => ?_)
      refine ygs Try.func85 #[.slice Ao16 t385.length co16, .int .i64 x382003_1] ?_
      with_reducible refine (coder_at.calls _ _ t385 x382003_1 t392 _ ?side1 ?side2 A21.out).mono ?_
      (case side1=>exact yce (Kd.V_reads' HO_382002.out).2.2)
      (case side2=>exact (Kd.V_reads' HO_382002.out).2.1)
      rintro e w' ⟨rfl,⟨nd,rfl⟩⟩
      refine ⟨_,rfl, ?_⟩
      refine hK.out _ _ ⟨(zs BK381.out 0).trans rfl,(zs BK381.out 1).trans rfl,(zs BK381.out 2).trans rfl,(zs BK381.out 3).trans rfl⟩ (fun hHeld => ?_)
      clear hK K
      refine ym (some 47) ?_
      refine yp 9 48 HT_ ?_
      refine yp 10 49 HT_ ?_
      refine last_ (i:=11) (N:=none) #[true,true,true,true,true,true,true,true,true,true,true,true] rfl rfl (one_of HT_.out (by kernel_rfl)) (by decide) (fun K hK => ?_)
      have hs24 : w23.cell? ⟨gb381,0,none⟩=some (.int .u64 x382000_1):=(zs BK381.out 0).trans rfl
      have hfs24:=zx BK381.out 0
      have hns24_1:=NB382_381.out;have hms24_1:=NB381_382.out
      refine skip_ (w1 := ?_) (by rfl) rfl ?_ ?_
      rotate_left
      ·
       go_simp
       rfl
      refine hK.out _ _ ?_
      clear hK K
      refine done_ (done_of HT_.out (by kernel_rfl)) ?_
      have hnb25:=NB381_382.out;have hnc25:=NB382_381.out
      obtain ⟨_,_,_,_,_,_,_,_⟩:=yc4 BK381
      try go_wp2
      go_roundg k1
      case measure=>have:=HK1.out;omega
      case rel=>exact ⟨((x10_1 * 256) % 4294967296),(Go.bits .or .u64 (Go.bits .and .u64 (IntKind.u64.wrap (x382000_1 * 256)) 4294967295) t392),(wrap64 (x382003_1+1)),yq,H',⟨by have:=HK1.out;omega⟩,⟨by (with_reducible repeat (first|apply zA|apply zB|apply zC));exact zy (zI (p:=⟨gb381,3,none⟩) (zI (p:=⟨gb381,0,none⟩) (zy HO_382002.out (fun k_ hk=>(⟨hk,hk.2.1⟩ : _∧k_≠gb381))) (fun _ hk=>hk.2) (.int .u64 (Go.bits .or .u64 (Go.bits .and .u64 (IntKind.u64.wrap (x382000_1 * 256)) 4294967295) t392))) (fun _ hk=>hk.2) (.int .i64 (wrap64 (x382003_1+1)))) (fun _ hk=>⟨hk.1.1,⟨hk.1.2.1,hk.1.2.2⟩⟩)⟩,⟨yk BK381⟩,⟨yk BK382⟩,⟨yhb⟩⟩
     ·
      rw [if_neg c22] at H
      have c22b0 : decide (x382003_1 < (t385.length : Int))=false:=decide_eq_false c22
      clear c22
      have H' := zm H
      clear H
      try go_wp2
      replace HO_382002:=zm (zC HO_382002.out)
      replace BK381:=zm (zj BK381.out)
      replace BK382:=zm (zj BK382.out)
      replace HB:=zm (zf HB.out)
      refine start_ (n:=12) (S:=fun w' => w'.cell? ⟨gb381,0,none⟩=some (.int .u64 x382000_1)∧w'.cell? ⟨gb381,1,none⟩=some (.int .u32 t384)∧w'.cell? ⟨gb381,2,none⟩=some (.slice Ao16 t385.length co16)∧w'.cell? ⟨gb381,3,none⟩=some (.int .i64 x382003_1)) (ds := [11]) #[false,false,false,false,false,false,false,false,false,false,false,false] (by kernel_rfl) rfl rfl ⟨(zs BK381.out 0).trans rfl,(zs BK381.out 1).trans rfl,(zs BK381.out 2).trans rfl,(zs BK381.out 3).trans rfl⟩ (fun hHeld => ?_);refine with_tabW coder_Take.tab7 coder_Take.bits7 (fun HT_ HW_ => ?_)
      generalize wr.drew=w27 at HO_382002 BK381 BK382 HB hHeld ⊢
      refine yp 0 39 HT_ ?_
      refine yp 4 43 HT_ ?_
      refine yp 6 45 HT_ ?_
      refine yl 1 40 HT_ HW_ hHeld ?_
      refine yp 2 41 HT_ ?_
      refine yp 3 42 HT_ ?_
      refine yl 5 44 HT_ HW_ hHeld ?_
      refine yl 7 46 HT_ HW_ hHeld ?_
      refine yw 8 47 HT_ (fun K hK => ?_)
      refine ygs Try.func85 #[.slice Ao16 t385.length co16, .int .i64 x382003_1] ?_
      with_reducible refine (coder_at.calls _ _ t385 x382003_1 t392 _ ?side1 ?side2 A21.out).mono ?_
      (case side1=>exact yce (Kd.V_reads' HO_382002.out).2.2)
      (case side2=>exact (Kd.V_reads' HO_382002.out).2.1)
      rintro e w' ⟨rfl,⟨nd,rfl⟩⟩
      refine ⟨_,rfl, ?_⟩
      refine hK.out _ _ ⟨(zs BK381.out 0).trans rfl,(zs BK381.out 1).trans rfl,(zs BK381.out 2).trans rfl,(zs BK381.out 3).trans rfl⟩ (fun hHeld => ?_)
      clear hK K
      refine ym (some 47) ?_
      refine yp 9 48 HT_ ?_
      refine yp 10 49 HT_ ?_
      refine last_ (i:=11) (N:=none) #[true,true,true,true,true,true,true,true,true,true,true,true] rfl rfl (one_of HT_.out (by kernel_rfl)) (by decide) (fun K hK => ?_)
      have hs28 : w27.cell? ⟨gb381,0,none⟩=some (.int .u64 x382000_1):=(zs BK381.out 0).trans rfl
      have hfs28:=zx BK381.out 0
      have hns28_1:=NB382_381.out;have hms28_1:=NB381_382.out
      refine skip_ (w1 := ?_) (by rfl) rfl ?_ ?_
      rotate_left
      ·
       go_simp
       rfl
      refine hK.out _ _ ?_
      clear hK K
      refine done_ (done_of HT_.out (by kernel_rfl)) ?_
      have hnb29:=NB381_382.out;have hnc29:=NB382_381.out
      obtain ⟨_,_,_,_,_,_,_,_⟩:=yc4 BK381
      try go_wp2
      go_roundg k1
      case measure=>have:=HK1.out;omega
      case rel=>exact ⟨((x10_1 * 256) % 4294967296),(Go.bits .or .u64 (Go.bits .and .u64 (IntKind.u64.wrap (x382000_1 * 256)) 4294967295) t392),(x382003_1),yq,H',⟨by have:=HK1.out;omega⟩,⟨by (with_reducible repeat (first|apply zA|apply zB|apply zC));exact zy (zI (p:=⟨gb381,0,none⟩) (zy HO_382002.out (fun k_ hk=>(⟨hk,hk.2.1⟩ : _∧k_≠gb381))) (fun _ hk=>hk.2) (.int .u64 (Go.bits .or .u64 (Go.bits .and .u64 (IntKind.u64.wrap (x382000_1 * 256)) 4294967295) t392))) (fun _ hk=>⟨hk.1.1,⟨hk.1.2.1,hk.1.2.2⟩⟩)⟩,⟨yk BK381⟩,⟨yk BK382⟩,⟨yhb⟩⟩
    ·
     rw [if_neg c20] at H
     have c20b0 : decide (x10_1 < 16777216)=false:=decide_eq_false c20
     clear c20
     simp only [Option.some.injEq,Prod.mk.injEq] at H
     obtain ⟨rfl,rfl,rfl,rfl,rfl⟩:=H
     have hnb31:=NB381_382.out;have hnc31:=NB382_381.out
     obtain ⟨_,_,_,_,_,_,_,_⟩:=yc4 BK381
     obtain ⟨_,_,_,_,_,_,_,_⟩:=yc4 BK382
     go_wp2
     refine bodyPost_ret (results_ct rfl _ _ gb382 82 #[.int .u64 x382000_1, .int .u32 x10_1, .slice Ao16 t385.length co16, .int .i64 x382003_1] (0,0) _ rfl (yk BK382) Try.underlying82 rfl (by kernel_rfl)) rfl ?_
     exact ⟨_,by first|rfl|(simp [errW_none,errW_some] <;> rfl)|(simp only [← hji9];first|rfl|(simp [errW_none,errW_some] <;> rfl))|(simp [*,errW_none,errW_some] <;> rfl),by (with_reducible repeat (first|apply zA|apply zB|apply zC));exact zy (zI (p:=⟨gb382,3,none⟩) (zI (p:=⟨gb382,2,none⟩) (zI (p:=⟨gb382,1,none⟩) (zI (p:=⟨gb382,0,none⟩) (zI (p:=⟨gb381,1,none⟩) (zy (zy HO_382002.out (fun k_ hk=>(⟨hk,hk.2.1⟩ : _∧k_≠gb381))) (fun k_ hk=>(⟨hk,hk.1.2.2⟩ : _∧k_≠gb382))) (fun _ hk=>hk.1.2) (.int .u32 x10_1)) (fun _ hk=>hk.2) (.int .u64 x382000_1)) (fun _ hk=>hk.2) (.int .u32 x10_1)) (fun _ hk=>hk.2) (.slice Ao16 t385.length co16)) (fun _ hk=>hk.2) (.int .i64 x382003_1)) (fun _ hk=>hk.1.1.1),yhb⟩
 ·
  replace c7:=Bool.eq_false_iff.mpr c7
  subst c7
  rw [ynf] at H
  simp only [Option.some.injEq,Prod.mk.injEq] at H
  obtain ⟨rfl,rfl,rfl,rfl,rfl⟩:=H
  go_enter Try.func51,Try.ntmps51
  go_wp2_with (first|((with_reducible refine gate_dst (N:=4) rfl ?_);refine ybx 4 #[.int .u64 a0_0, .int .u32 a0_1, .slice A0_2 l0_2.length c0_2, .int .i64 a0_3] 82 ?_;intro gb381 hg w34 hbox hb;replace HO0_2:=yVe HO0_2 hg hb;have BK381:=zm (hbox);have GW381:=ygw hg;have GE381:=ygw hg;replace HB:=ybs hb;clear hb hbox hg)|((with_reducible refine gate_dst (N:=8) rfl ?_);refine ybx 8 #[.int .u64 0, .int .u32 0, .slice none 0 0, .int .i64 0] 82 ?_;intro gb382 hg w35 hbox hb;replace HO0_2:=yVe HO0_2 hg hb;have BK382:=zm (hbox);have GW382:=ygw hg;have GE382:=ygw hg;replace HB:=ybs hb;have NB381_382:=ynl BK381 hg;have NB382_381:=yng BK381 hg;replace BK381:=ybb BK381 hb;clear hb hbox hg;have hnb36:=NB381_382.out;have hnc36:=NB382_381.out;obtain ⟨_,_,_,_,_,_,_,_⟩:=yc4 BK381)|((with_reducible refine gate_callee (f:=86) rfl ?_);refine ygl 13 Try.func86 #[.agg #[.int .u64 a0_0, .int .u32 a0_1, .slice A0_2 l0_2.length c0_2, .int .i64 a0_3]] ?_;(with_reducible refine (coder_good.calls a0_0 a0_1 (fun k_=>(((P0_2_ k_∨w.heap.size≤k_)∧k_≠gb381)∧k_≠gb382)) _ _ l0_2 a0_3 t383 t384 t385 t388 _ HO0_2.out A5.out).mono ?_);rintro e w38 ⟨v386,rfl,ho0,hb⟩;refine ⟨_,rfl, ?_⟩;replace HO0_2:=yVb HO0_2 hb;have HO387:=zm (Kd.V_lower (zy (ok' := fun k_=>(P0_2_ k_∨w.heap.size≤k_)∧k_≠gb381∧k_≠gb382) ho0 (fun k_ hk_=>⟨Or.elim hk_ (fun hs_=>hs_.1.1) (fun hn_=>(.inr (Nat.le_trans (zE yhb) hn_))),Or.elim hk_ (fun hs_=>hs_.1.2) (fun hn_=>(Kd.freshB (yk BK381) k_ hn_)),Or.elim hk_ (fun hs_=>hs_.2) (fun hn_=>(Kd.freshB (yk BK382) k_ hn_))⟩)) (zE yhb));replace BK381:=ybb BK381 hb;replace BK382:=ybb BK382 hb;replace HB:=ybs hb;(try clear hb);(try clear hb2);(try clear hk);(try clear hi);(try clear ho0);obtain ⟨_,_,_,_,_,_,_,_⟩:=yc4 BK381;obtain ⟨Ao40,co40,eo40⟩:=Kd.V_slice HO387.out;subst eo40)|((with_reducible refine gate_store (t:=82) (p:=4) rfl ?_);refine store_event (t:=82) (p:=4) (v := ?vo_w41) (w1:=((((w38.setCell ⟨gb381,0,none⟩ (.int .u64 t383)).setCell ⟨gb381,1,none⟩ (.int .u32 t384)).setCell ⟨gb381,2,none⟩ (.slice Ao40 t385.length co40)).setCell ⟨gb381,3,none⟩ (.int .i64 t388))) ?hg ?ho ?hn ?hr ?_;(case ho=>rfl);(case hg=>rfl);(case hn=>rfl);(case hr=>first|(go_simp;done)|(go_simp;rfl));intro w41 hw;replace HO0_2 : Aside0 (Kd.V (Kd.int .u8) 5 w41 w.heap.size (fun k_=>(P0_2_ k_∨w.heap.size≤k_)∧k_≠gb381∧k_≠gb382) (.slice A0_2 l0_2.length c0_2) l0_2):=⟨(by rw [hw];exact (by (with_reducible repeat (first|apply zA|apply zB|apply zC));exact zy (zI (p:=⟨gb381,3,none⟩) (zI (p:=⟨gb381,2,none⟩) (zI (p:=⟨gb381,1,none⟩) (zI (p:=⟨gb381,0,none⟩) (zy HO0_2.out (fun k_ hk=>(⟨hk,hk.1.2⟩ : _∧k_≠gb381))) (fun _ hk=>hk.2) (.int .u64 t383)) (fun _ hk=>hk.2) (.int .u32 t384)) (fun _ hk=>hk.2) (.slice Ao40 t385.length co40)) (fun _ hk=>hk.2) (.int .i64 t388)) (fun _ hk=>⟨hk.1.1.1,⟨hk.1.1.2,hk.1.2⟩⟩)))⟩;replace HO387 : Aside0 (Kd.V (Kd.int .u8) 5 w41 w.heap.size (fun k_=>(P0_2_ k_∨w.heap.size≤k_)∧k_≠gb381∧k_≠gb382) (.slice Ao40 t385.length co40) t385):=⟨(by rw [hw];exact (by (with_reducible repeat (first|apply zA|apply zB|apply zC));exact zy (zI (p:=⟨gb381,3,none⟩) (zI (p:=⟨gb381,2,none⟩) (zI (p:=⟨gb381,1,none⟩) (zI (p:=⟨gb381,0,none⟩) (zy HO387.out (fun k_ hk=>(⟨hk,hk.2.1⟩ : _∧k_≠gb381))) (fun _ hk=>hk.2) (.int .u64 t383)) (fun _ hk=>hk.2) (.int .u32 t384)) (fun _ hk=>hk.2) (.slice Ao40 t385.length co40)) (fun _ hk=>hk.2) (.int .i64 t388)) (fun _ hk=>⟨hk.1.1,⟨hk.1.2.1,hk.1.2.2⟩⟩)))⟩;replace BK381 : Aside0 (w41.heap[gb381]? = some (.cells #[.int .u64 t383, .int .u32 t384, .slice Ao40 t385.length co40, .int .i64 t388] 82 (0,0))):=⟨(by rw [hw];exact (yk BK381))⟩;replace BK382 : Aside0 (w41.heap[gb382]? = some (.cells #[.int .u64 0, .int .u32 0, .slice none 0 0, .int .i64 0] 82 (0,0))):=⟨(by rw [hw];exact (yk BK382))⟩;replace HB : Aside0 (Below w.heap.size w w41):=⟨(by rw [hw];exact yhb)⟩;clear hw)|((with_reducible refine gate_callee (f:=64) rfl ?_);refine ygl 17 Try.func64 #[.int .i64 a1, .int .i64 a2, .int .i64 a3] ?_;(with_reducible refine (coder_fair.calls a1 a2 a3 false _ A6.out).mono ?_);rintro e w' ⟨rfl,⟨nd,rfl⟩⟩;refine ⟨_,rfl, ?_⟩;(try (rw [drewN_self w41];generalize hq_ : World.drewN w41 _=w41;have n0_ : Aside0 (Kd.V (Kd.int .u8) 5 w41 w.heap.size (fun k_=>(P0_2_ k_∨w.heap.size≤k_)∧k_≠gb381∧k_≠gb382) (.slice A0_2 l0_2.length c0_2) l0_2):=⟨by rw [← hq_];exact (yr HO0_2)⟩;have n1_ : Aside0 (Kd.V (Kd.int .u8) 5 w41 w.heap.size (fun k_=>(P0_2_ k_∨w.heap.size≤k_)∧k_≠gb381∧k_≠gb382) (.slice Ao40 t385.length co40) t385):=⟨by rw [← hq_];exact (yr HO387)⟩;have n2_ : Aside0 (w41.heap[gb381]? = some (.cells #[.int .u64 t383, .int .u32 t384, .slice Ao40 t385.length co40, .int .i64 t388] 82 (0,0))):=⟨by rw [← hq_];exact (yk BK381)⟩;have n3_ : Aside0 (w41.heap[gb382]? = some (.cells #[.int .u64 0, .int .u32 0, .slice none 0 0, .int .i64 0] 82 (0,0))):=⟨by rw [← hq_];exact (yk BK382)⟩;have n4_ : Aside0 (Below w.heap.size w w41):=⟨by rw [← hq_];exact yhb⟩;clear HO0_2 HO387 BK381 BK382 HB hq_;have HO0_2:=n0_;have HO387:=n1_;have BK381:=n2_;have BK382:=n3_;have HB:=n4_;clear n0_ n1_ n2_ n3_ n4_));obtain ⟨_,_,_,_,_,_,_,_⟩:=yc4 BK381;obtain ⟨_,_,_,_,_,_,_,_⟩:=yc4 BK382))
  refine bodyPost_ret (results_ct rfl _ _ gb382 82 #[.int .u64 t383, .int .u32 t384, .slice Ao40 t385.length co40, .int .i64 t388] (0,0) _ rfl (yk BK382) Try.underlying82 rfl (by kernel_rfl)) rfl ?_
  exact ⟨_,ye,by (with_reducible repeat (first|apply zA|apply zB|apply zC));exact zy (zI (p:=⟨gb382,3,none⟩) (zI (p:=⟨gb382,2,none⟩) (zI (p:=⟨gb382,1,none⟩) (zI (p:=⟨gb382,0,none⟩) (zy HO387.out (fun k_ hk=>(⟨hk,hk.2.2⟩ : _∧k_≠gb382))) (fun _ hk=>hk.2) (.int .u64 t383)) (fun _ hk=>hk.2) (.int .u32 t384)) (fun _ hk=>hk.2) (.slice Ao40 t385.length co40)) (fun _ hk=>hk.2) (.int .i64 t388)) (fun _ hk=>hk.1.1),yhb⟩

end Go.Proofs.Ytnmbndkojpjkmaa.Prt

namespace Go.Proofs.Ytnmbndkojpjkmaa.Prt
open Go.RowKit Go.Proofs.YtnmbndkojpjkmaaW.PrintWords Go.Proofs.YtnmbndkojpjkmaaW.PrintLast Go.Proofs.YtnmbndkojpjkmaaW.PrintMore
attribute [local go_sem] max2_int min2_int max_two min_two max_three min_three max_four min_four   -- for this text's walks alone
set_option linter.unusedVariables false
set_option linter.unusedSimpArgs false

/-! ### coder_halves: function 76 -/
def coder_halves.f (a0 : Int) : Option (Int × Int):=if a0≤65536 then (some (wrap64 (a0),1)) else (some (wrap64 ((wrap64 (IntKind.u64.wrap (Int.tdiv (IntKind.u64.wrap (a0 - 1)) 65536)))+1),65536))
set_option maxHeartbeats 8000000 in
set_option maxRecDepth 100000 in
theorem coder_halves.calls (a0 : Int) (r1 : Int) (r2 : Int) (w : World) (h : coder_halves.f a0=some (r1,r2)) :
  Calls Try.prog 76 #[.int .u64 a0] w fun e w' => e=.returned (.tuple #[.int .i64 r1, .int .i64 r2])∧Drawn0 w w' := by
 have H : (if a0≤65536 then (some (wrap64 (a0),1)) else (some (wrap64 ((wrap64 (IntKind.u64.wrap (Int.tdiv (IntKind.u64.wrap (a0 - 1)) 65536)))+1),65536)))=some (r1,r2):=h
 clear h
 by_cases c2 : a0≤65536
 ·
  rw [if_pos c2] at H
  have c2b0 : decide (a0≤65536)=true:=decide_eq_true c2
  clear c2
  simp only [Option.some.injEq,Prod.mk.injEq] at H
  obtain ⟨rfl,rfl⟩:=H
  go_enter Try.func76,Try.ntmps76
  go_wp2
  go_ret2
  exact ⟨yq,yd⟩
 ·
  rw [if_neg c2] at H
  have c2b0 : decide (a0≤65536)=false:=decide_eq_false c2
  clear c2
  simp only [Option.some.injEq,Prod.mk.injEq] at H
  obtain ⟨rfl,rfl⟩:=H
  go_enter Try.func76,Try.ntmps76
  go_wp2
  go_ret2
  exact ⟨yq,yd⟩

end Go.Proofs.Ytnmbndkojpjkmaa.Prt

namespace Go.Proofs.Ytnmbndkojpjkmaa.Prt
open Go.RowKit Go.Proofs.YtnmbndkojpjkmaaW.PrintWords Go.Proofs.YtnmbndkojpjkmaaW.PrintLast Go.Proofs.YtnmbndkojpjkmaaW.PrintMore
attribute [local go_sem] max2_int min2_int max_two min_two max_three min_three max_four min_four   -- for this text's walks alone
set_option linter.unusedVariables false
set_option linter.unusedSimpArgs false

/-! ### coder_TakeNum: function 53 -/
def coder_TakeNum.j0 : Nat→Int→Bool→Int→Int→List Int→Int→Option (Int × Int × List Int × Int × Int × Int)
 | 0,_,_,_,_,_,_=>none
 | k+1,x1,x21,x394000,x394001,x394002,x394003=>if x21=true then (some (x394000,x394001,x394002,x394003,0,1)) else ((coder_halves.f x1).bind fun bt401=>((coder_Get.f x394000 x394001 x394002 x394003 bt401.1).bind fun bt403=>((coder_Take.f k x394000 x394001 x394002 x394003 bt403.1 (wrap64 (bt403.1+1)) bt401.1).bind fun bt405=>(if bt401.2 > 1 then ((coder_Get.f bt405.1 bt405.2.1 bt405.2.2.1 bt405.2.2.2.1 bt401.2).bind fun bt412=>((coder_Take.f k bt405.1 bt405.2.1 bt405.2.2.1 bt405.2.2.2.1 bt412.1 (wrap64 (bt412.1+1)) bt401.2).bind fun bt414=>(some (bt414.1,bt414.2.1,bt414.2.2.1,bt414.2.2.2.1,mn (IntKind.u64.wrap ((IntKind.u64.wrap ((IntKind.u64.wrap (bt403.1)) * (IntKind.u64.wrap (bt401.2))))+(IntKind.u64.wrap (bt412.1)))) (IntKind.u64.wrap (x1 - 1)),0)))) else (some (bt405.1,bt405.2.1,bt405.2.2.1,bt405.2.2.2.1,mn (IntKind.u64.wrap (bt403.1)) (IntKind.u64.wrap (x1 - 1)),0))))))
def coder_TakeNum.f (k : Nat) (a0_0 : Int) (a0_1 : Int) (l0_2 : List Int) (a0_3 : Int) (a1 : Int) : Option (Int × Int × List Int × Int × Int × Int):=(coder_good.f a0_0 a0_1 l0_2 a0_3).bind fun bt395=>(if a1 < 1 then (coder_TakeNum.j0 k a1 true bt395.1 bt395.2.1 bt395.2.2.1 bt395.2.2.2) else (coder_TakeNum.j0 k a1 (decide (a1 > 4294967296)) bt395.1 bt395.2.1 bt395.2.2.1 bt395.2.2.2))
theorem coder_TakeNum.mono_l : ∀ k,(∀ y0 y1 y2 y3 y4 y5,LeO (coder_TakeNum.j0 k y0 y1 y2 y3 y4 y5) (coder_TakeNum.j0 (k+1) y0 y1 y2 y3 y4 y5))
 | 0=>fun _ _ _ _ _ _ r h=>by simp [coder_TakeNum.j0] at h
 | k+1=>by
  have ih0:=coder_TakeNum.mono_l k
  ·
   intro y0 y1 y2 y3 y4 y5
   unfold coder_TakeNum.j0
   repeat' first
   | (with_reducible exact ih0 _ _ _ _ _ _)
   | (with_reducible exact coder_Take.mono _ _ _ _ _ _ _ _)
   | (with_reducible exact LeO.refl _)
   | (with_reducible exact LeO.none _)
   | (with_reducible refine LeO.ite ?_ ?_)
   | (with_reducible refine LeO.bind ?_ (fun _ => ?_))
   | exact ih0 _ _ _ _ _ _
   | exact coder_Take.mono _ _ _ _ _ _ _ _
   | exact LeO.none _
   | refine LeO.ite ?_ ?_
   | refine LeO.bind ?_ (fun _ => ?_)
theorem coder_TakeNum.mono : ∀ a0 a1 a2 a3 a4 k,LeO (coder_TakeNum.f k a0 a1 a2 a3 a4) (coder_TakeNum.f (k+1) a0 a1 a2 a3 a4):=by
 intro a0 a1 a2 a3 a4 k
 have ih0:=coder_TakeNum.mono_l k
 unfold coder_TakeNum.f
 repeat' first
   | (with_reducible exact ih0 _ _ _ _ _ _)
   | (with_reducible exact coder_Take.mono _ _ _ _ _ _ _ _)
   | (with_reducible exact LeO.refl _)
   | (with_reducible exact LeO.none _)
   | (with_reducible refine LeO.ite ?_ ?_)
   | (with_reducible refine LeO.bind ?_ (fun _ => ?_))
   | exact ih0 _ _ _ _ _ _
   | exact coder_Take.mono _ _ _ _ _ _ _ _
   | exact LeO.none _
   | refine LeO.ite ?_ ?_
   | refine LeO.bind ?_ (fun _ => ?_)
set_option maxHeartbeats 8000000 in
set_option maxRecDepth 100000 in
theorem coder_TakeNum.calls (k : Nat) (a0_0 : Int) (a0_1 : Int) (P0_2_ : Nat→Prop) (A0_2 : Option Addr) (c0_2 : Nat) (l0_2 : List Int) (a0_3 : Int) (a1 : Int) (r1 : Int) (r2 : Int) (r3 : List Int) (r4 : Int) (r5 : Int) (r6 : Int) (w : World) (hs0_2 : Kd.V (Kd.int .u8) 5 w w.heap.size (fun k_=>P0_2_ k_) (.slice A0_2 l0_2.length c0_2) l0_2) (h : coder_TakeNum.f k a0_0 a0_1 l0_2 a0_3 a1=some (r1,r2,r3,r4,r5,r6)) :
  Calls Try.prog 53 #[.agg #[.int .u64 a0_0, .int .u32 a0_1, .slice A0_2 l0_2.length c0_2, .int .i64 a0_3], .int .u64 a1] w fun e w' => ∃ v2_ : Value,e=.returned (.tuple #[.agg #[.int .u64 r1, .int .u32 r2,v2_, .int .i64 r4], .int .u64 r5, .int .i64 r6])∧Kd.V (Kd.int .u8) 5 w' w.heap.size (fun k_=>(P0_2_ k_∨w.heap.size≤k_)) v2_ r3∧Below w.heap.size w w' := by
 have hu82:=Try.underlying82
 have HO0_2:=zm (show Kd.V (Kd.int .u8) 5 w w.heap.size (fun k_=>(P0_2_ k_∨w.heap.size≤k_)) (.slice A0_2 l0_2.length c0_2) l0_2 from zy hs0_2 (fun k_ hk => .inl hk))
 have HB:=zm (Below.refl w.heap.size w)
 have H : ((coder_good.f a0_0 a0_1 l0_2 a0_3).bind fun bt395=>(if a1 < 1 then (coder_TakeNum.j0 k a1 true bt395.1 bt395.2.1 bt395.2.2.1 bt395.2.2.2) else (coder_TakeNum.j0 k a1 (decide (a1 > 4294967296)) bt395.1 bt395.2.1 bt395.2.2.1 bt395.2.2.2)))=some (r1,r2,r3,r4,r5,r6):=h
 clear h
 obtain ⟨⟨t395,t396,t397,t400⟩,A3,H⟩:=ybi H
 try dsimp only at H
 have HC4:=zm H;clear H
 go_enter Try.func53,Try.ntmps53
 go_upto_region 2 with (first|((with_reducible refine gate_dst (N:=2) rfl ?_);refine ybx 2 #[.int .u64 a0_0, .int .u32 a0_1, .slice A0_2 l0_2.length c0_2, .int .i64 a0_3] 82 ?_;intro gb393 hg w5 hbox hb;replace HO0_2:=yVe HO0_2 hg hb;have BK393:=zm (hbox);have GW393:=ygw hg;have GE393:=ygw hg;replace HB:=ybs hb;clear hb hbox hg)|((with_reducible refine gate_dst (N:=4) rfl ?_);refine ybx 4 #[.int .u64 0, .int .u32 0, .slice none 0 0, .int .i64 0] 82 ?_;intro gb394 hg w6 hbox hb;replace HO0_2:=yVe HO0_2 hg hb;have BK394:=zm (hbox);have GW394:=ygw hg;have GE394:=ygw hg;replace HB:=ybs hb;have NB393_394:=ynl BK393 hg;have NB394_393:=yng BK393 hg;replace BK393:=ybb BK393 hb;clear hb hbox hg;have hnb7:=NB393_394.out;have hnc7:=NB394_393.out;obtain ⟨hcz8_0,hcz8_1,hcz8_2,hcz8_3,hfz8_0,hfz8_1,hfz8_2,hfz8_3⟩:=yc4 BK393)|((with_reducible refine gate_callee (f:=86) rfl ?_);refine ygl 15 Try.func86 #[.agg #[.int .u64 a0_0, .int .u32 a0_1, .slice A0_2 l0_2.length c0_2, .int .i64 a0_3]] ?_;(with_reducible refine (coder_good.calls a0_0 a0_1 (fun k_=>(((P0_2_ k_∨w.heap.size≤k_)∧k_≠gb393)∧k_≠gb394)) _ _ l0_2 a0_3 t395 t396 t397 t400 _ HO0_2.out A3.out).mono ?_);rintro e w9 ⟨v398,rfl,ho0,hb⟩;refine ⟨_,rfl, ?_⟩;replace HO0_2:=yVb HO0_2 hb;have HO399:=zm (Kd.V_lower (zy (ok' := fun k_=>(P0_2_ k_∨w.heap.size≤k_)∧k_≠gb393∧k_≠gb394) ho0 (fun k_ hk_=>⟨Or.elim hk_ (fun hs_=>hs_.1.1) (fun hn_=>(.inr (Nat.le_trans (zE yhb) hn_))),Or.elim hk_ (fun hs_=>hs_.1.2) (fun hn_=>(Kd.freshB (yk BK393) k_ hn_)),Or.elim hk_ (fun hs_=>hs_.2) (fun hn_=>(Kd.freshB (yk BK394) k_ hn_))⟩)) (zE yhb));replace BK393:=ybb BK393 hb;replace BK394:=ybb BK394 hb;replace HB:=ybs hb;(try clear hb);(try clear hb2);(try clear hk);(try clear hi);(try clear ho0);obtain ⟨hcz10_0,hcz10_1,hcz10_2,hcz10_3,hfz10_0,hfz10_1,hfz10_2,hfz10_3⟩:=yc4 BK393;obtain ⟨Ao11,co11,eo11⟩:=Kd.V_slice HO399.out;subst eo11))
 (try simp only [Act.put,List.setIfInBounds_toArray,List.set_cons_zero,List.set_cons_succ])
 go_cut [21] (fun v21 wc => ∃ (kq : Nat) (x21_3 : Bool),v21=.bool x21_3∧Aside0 (coder_TakeNum.j0 kq a1 x21_3 t395 t396 t397 t400=some (r1,r2,r3,r4,r5,r6))∧Aside0 (kq≤k)∧Aside0 (Kd.V (Kd.int .u8) 5 wc w.heap.size (fun k_=>(P0_2_ k_∨w.heap.size≤k_)∧k_≠gb393∧k_≠gb394) (.slice Ao11 t397.length co11) t397)∧Aside0 (wc.heap[gb393]? = some (.cells #[.int .u64 t395, .int .u32 t396,(.slice Ao11 t397.length co11), .int .i64 t400] 82 (0,0)))∧Aside0 (wc.heap[gb394]? = some (.cells #[.int .u64 0, .int .u32 0,(.slice none 0 0), .int .i64 0] 82 (0,0)))∧Aside0 (Below w.heap.size w wc))
 case first =>
  have H:=HC4.out;clear HC4
  by_cases c12 : a1 < 1
  ·
   rw [if_pos c12] at H
   have c12b0 : decide (a1 < 1)=true:=decide_eq_true c12
   clear c12
   (first|rw [c12b0]|(simp only [i64_w,i32_w];rw [c12b0])|skip)
   have H' := zm H
   clear H
   go_wp2
   go_meet
   case rel=>exact ⟨_,(true),yq,H',⟨yo⟩,⟨by (with_reducible repeat (first|apply zA|apply zB|apply zC));exact zy (zI (p:=⟨gb393,3,none⟩) (zI (p:=⟨gb393,2,none⟩) (zI (p:=⟨gb393,1,none⟩) (zI (p:=⟨gb393,0,none⟩) (zy HO399.out (fun k_ hk=>(⟨hk,hk.2.1⟩ : _∧k_≠gb393))) (fun _ hk=>hk.2) (.int .u64 t395)) (fun _ hk=>hk.2) (.int .u32 t396)) (fun _ hk=>hk.2) (.slice Ao11 t397.length co11)) (fun _ hk=>hk.2) (.int .i64 t400)) (fun _ hk=>⟨hk.1.1,⟨hk.1.2.1,hk.1.2.2⟩⟩)⟩,⟨yk BK393⟩,⟨yk BK394⟩,⟨yhb⟩⟩
  ·
   rw [if_neg c12] at H
   have c12b0 : decide (a1 < 1)=false:=decide_eq_false c12
   clear c12
   (first|rw [c12b0]|(simp only [i64_w,i32_w];rw [c12b0])|skip)
   have H' := zm H
   clear H
   go_wp2
   go_meet
   case rel=>exact ⟨_,(decide (a1 > 4294967296)),yq,H',⟨yo⟩,⟨by (with_reducible repeat (first|apply zA|apply zB|apply zC));exact zy (zI (p:=⟨gb393,3,none⟩) (zI (p:=⟨gb393,2,none⟩) (zI (p:=⟨gb393,1,none⟩) (zI (p:=⟨gb393,0,none⟩) (zy HO399.out (fun k_ hk=>(⟨hk,hk.2.1⟩ : _∧k_≠gb393))) (fun _ hk=>hk.2) (.int .u64 t395)) (fun _ hk=>hk.2) (.int .u32 t396)) (fun _ hk=>hk.2) (.slice Ao11 t397.length co11)) (fun _ hk=>hk.2) (.int .i64 t400)) (fun _ hk=>⟨hk.1.1,⟨hk.1.2.1,hk.1.2.2⟩⟩)⟩,⟨yk BK393⟩,⟨yk BK394⟩,⟨yhb⟩⟩
 case rest =>
  clear HC4
  try clear hcz10_0
  try clear hcz10_1
  try clear hcz10_2
  try clear hcz10_3
  try clear hcz8_0
  try clear hcz8_1
  try clear hcz8_2
  try clear hcz8_3
  try clear hfz10_0
  try clear hfz10_1
  try clear hfz10_2
  try clear hfz10_3
  try clear hfz8_0
  try clear hfz8_1
  try clear hfz8_2
  try clear hfz8_3
  obtain ⟨kq,x21_3,rfl,HA,HJ3,HO_394002,BK393,BK394,HB⟩:=hcut
  cases kq with
  | zero=>exact absurd HA.out (by simp [coder_TakeNum.j0])
  | succ kj3 =>
   have H:=HA.out;clear HA
   simp only [coder_TakeNum.j0] at H
   by_cases c13 : x21_3=true
   ·
    subst c13
    rw [if_pos rfl] at H
    simp only [Option.some.injEq,Prod.mk.injEq] at H
    obtain ⟨rfl,rfl,rfl,rfl,rfl,rfl⟩:=H
    have hnb14:=NB393_394.out;have hnc14:=NB394_393.out
    obtain ⟨_,_,_,_,_,_,_,_⟩:=yc4 BK393
    obtain ⟨_,_,_,_,_,_,_,_⟩:=yc4 BK394
    go_wp2
    refine bodyPost_ret (results_ctt rfl _ _ gb394 82 #[.int .u64 t395, .int .u32 t396, .slice Ao11 t397.length co11, .int .i64 t400] (0,0) _ rfl (yk BK394) Try.underlying82 rfl (by kernel_rfl)) rfl ?_
    exact ⟨_,ye,by (with_reducible repeat (first|apply zA|apply zB|apply zC));exact zy (zI (p:=⟨gb394,3,none⟩) (zI (p:=⟨gb394,2,none⟩) (zI (p:=⟨gb394,1,none⟩) (zI (p:=⟨gb394,0,none⟩) (zy HO_394002.out (fun k_ hk=>(⟨hk,hk.2.2⟩ : _∧k_≠gb394))) (fun _ hk=>hk.2) (.int .u64 t395)) (fun _ hk=>hk.2) (.int .u32 t396)) (fun _ hk=>hk.2) (.slice Ao11 t397.length co11)) (fun _ hk=>hk.2) (.int .i64 t400)) (fun _ hk=>hk.1.1),yhb⟩
   ·
    replace c13:=Bool.eq_false_iff.mpr c13
    subst c13
    rw [ynf] at H
    obtain ⟨⟨t401,t402⟩,A17,H⟩:=ybi H
    try dsimp only at H
    obtain ⟨⟨t403,t404⟩,A18,H⟩:=ybi H
    try dsimp only at H
    obtain ⟨⟨t405,t406,t407,t410,t411⟩,A19,H⟩:=ybi H
    try dsimp only at H
    by_cases c20 : t402 > 1
    ·
     rw [if_pos c20] at H
     have c20b0 : decide (1 < t402)=true:=decide_eq_true c20
     clear c20
     obtain ⟨⟨t412,t413⟩,A21,H⟩:=ybi H
     try dsimp only at H
     obtain ⟨⟨t414,t415,t416,t419,t420⟩,A22,H⟩:=ybi H
     try dsimp only at H
     obtain ⟨ji23,hji23⟩ : ∃ j_ : Int,(mn (IntKind.u64.wrap ((IntKind.u64.wrap ((IntKind.u64.wrap (t403)) * (IntKind.u64.wrap (t402))))+(IntKind.u64.wrap (t412)))) (IntKind.u64.wrap (a1 - 1)))=j_:=⟨_,rfl⟩
     replace H : (some (t414,t415,t416,t419,ji23,0))=some (r1,r2,r3,r4,r5,r6):=by first|(rw [hji23] at H;exact H)|(simp only [hji23] at H ⊢; exact H)
     (try rw [hji23] at A17)
     (try rw [hji23] at A18)
     (try rw [hji23] at A19)
     (try rw [hji23] at A21)
     (try rw [hji23] at A22)
     have hji23_ : (if (IntKind.u64.wrap (a1 - 1)) < (IntKind.u64.wrap ((IntKind.u64.wrap ((IntKind.u64.wrap (t403)) * (IntKind.u64.wrap (t402))))+(IntKind.u64.wrap (t412)))) then (IntKind.u64.wrap (a1 - 1)) else (IntKind.u64.wrap ((IntKind.u64.wrap ((IntKind.u64.wrap (t403)) * (IntKind.u64.wrap (t402))))+(IntKind.u64.wrap (t412)))))=ji23:=hji23
     simp only [Option.some.injEq,Prod.mk.injEq] at H
     obtain ⟨rfl,rfl,rfl,rfl,rfl,rfl⟩:=H
     go_wp2_with (first|((with_reducible refine gate_callee (f:=76) rfl ?_);refine ygl 25 Try.func76 #[.int .u64 a1] ?_;(with_reducible refine (coder_halves.calls a1 t401 t402 _ A17.out).mono ?_);rintro e w' ⟨rfl,⟨nd,rfl⟩⟩;refine ⟨_,rfl, ?_⟩;(try (rw [drewN_self wc];generalize hq_ : World.drewN wc _=wc;have n0_ : Aside0 (Kd.V (Kd.int .u8) 5 wc w.heap.size (fun k_=>(P0_2_ k_∨w.heap.size≤k_)∧k_≠gb393∧k_≠gb394) (.slice Ao11 t397.length co11) t397):=⟨by rw [← hq_];exact (yr HO_394002)⟩;have n1_ : Aside0 (wc.heap[gb393]? = some (.cells #[.int .u64 t395, .int .u32 t396, .slice Ao11 t397.length co11, .int .i64 t400] 82 (0,0))):=⟨by rw [← hq_];exact (yk BK393)⟩;have n2_ : Aside0 (wc.heap[gb394]? = some (.cells #[.int .u64 0, .int .u32 0, .slice none 0 0, .int .i64 0] 82 (0,0))):=⟨by rw [← hq_];exact (yk BK394)⟩;have n3_ : Aside0 (Below w.heap.size w wc):=⟨by rw [← hq_];exact yhb⟩;clear HO_394002 BK393 BK394 HB hq_;have HO_394002:=n0_;have BK393:=n1_;have BK394:=n2_;have HB:=n3_;clear n0_ n1_ n2_ n3_));have hnb24:=NB393_394.out;have hnc24:=NB394_393.out;obtain ⟨_,_,_,_,_,_,_,_⟩:=yc4 BK393)|((with_reducible refine gate_callee (f:=50) rfl ?_);refine ygl 31 Try.func50 #[.agg #[.int .u64 t395, .int .u32 t396, .slice Ao11 t397.length co11, .int .i64 t400], .int .i64 t401] ?_;(with_reducible refine (coder_Get.calls t395 t396 _ _ t397 t400 t401 t403 t404 _ ?side1 ?side2 A18.out).mono ?_);(case side1=>exact yce (Kd.V_reads' HO_394002.out).2.2);(case side2=>exact (Kd.V_reads' HO_394002.out).2.1);rintro e w26 ⟨rfl,hb⟩;refine ⟨_,rfl, ?_⟩;replace HO_394002:=yVb HO_394002 hb;replace BK393:=ybb BK393 hb;replace BK394:=ybb BK394 hb;replace HB:=ybs hb;(try clear hb);(try clear hb2);(try clear hk);(try clear hi);obtain ⟨_,_,_,_,_,_,_,_⟩:=yc4 BK393)|((with_reducible refine gate_callee (f:=51) rfl ?_);refine ygl 40 Try.func51 #[.agg #[.int .u64 t395, .int .u32 t396, .slice Ao11 t397.length co11, .int .i64 t400], .int .i64 t403, .int .i64 (wrap64 (t403+1)), .int .i64 t401] ?_;(with_reducible refine (coder_Take.calls kj3 t395 t396 (fun k_=>((P0_2_ k_∨w.heap.size≤k_)∧(k_≠gb393∧k_≠gb394))) _ _ t397 t400 t403 (wrap64 (t403+1)) t401 t405 t406 t407 t410 t411 _ HO_394002.out A19.out).mono ?_);rintro e w28 ⟨v408,rfl,ho0,hb⟩;refine ⟨_,rfl, ?_⟩;replace HO_394002:=yVb HO_394002 hb;have HO409:=zm (Kd.V_lower (zy (ok' := fun k_=>(P0_2_ k_∨w.heap.size≤k_)∧k_≠gb393∧k_≠gb394) ho0 (fun k_ hk_=>⟨Or.elim hk_ (fun hs_=>hs_.1) (fun hn_=>(.inr (Nat.le_trans (zE yhb) hn_))),Or.elim hk_ (fun hs_=>hs_.2.1) (fun hn_=>(Kd.freshB (yk BK393) k_ hn_)),Or.elim hk_ (fun hs_=>hs_.2.2) (fun hn_=>(Kd.freshB (yk BK394) k_ hn_))⟩)) (zE yhb));replace BK393:=ybb BK393 hb;replace BK394:=ybb BK394 hb;replace HB:=ybs hb;(try clear hb);(try clear hb2);(try clear hk);(try clear hi);(try clear ho0);obtain ⟨_,_,_,_,_,_,_,_⟩:=yc4 BK393;obtain ⟨Ao30,co30,eo30⟩:=Kd.V_slice HO409.out;subst eo30)|((with_reducible refine gate_callee (f:=50) rfl ?_);refine ygl 50 Try.func50 #[.agg #[.int .u64 t405, .int .u32 t406, .slice Ao30 t407.length co30, .int .i64 t410], .int .i64 t402] ?_;(with_reducible refine (coder_Get.calls t405 t406 _ _ t407 t410 t402 t412 t413 _ ?side1 ?side2 A21.out).mono ?_);(case side1=>refine (Kd.V_reads' (e:=5) (base:=w.heap.size) (ok:=fun k_=>((P0_2_ k_∨w.heap.size≤k_)∧(k_≠gb393∧k_≠gb394))) (n:=t407.length) (c:=co30) ?_).2.2;exact (by (with_reducible repeat (first|apply zA|apply zB|apply zC));exact (zy (zI (p:=⟨gb393,3,none⟩) (zI (p:=⟨gb393,2,none⟩) (zI (p:=⟨gb393,1,none⟩) (zI (p:=⟨gb393,0,none⟩) (zy HO409.out (fun k_ hk=>(⟨hk,hk.2.1⟩ : _∧k_≠gb393))) (fun _ hk=>hk.2) (.int .u64 t405)) (fun _ hk=>hk.2) (.int .u32 t406)) (fun _ hk=>hk.2) (.slice Ao30 t407.length co30)) (fun _ hk=>hk.2) (.int .i64 t410)) (fun _ h_=>h_.1))));(case side2=>exact (Kd.V_reads' HO409.out).2.1);rintro e w31 ⟨rfl,hb⟩;refine ⟨_,rfl, ?_⟩;replace HO_394002:=zm (Kd.V_below (by (with_reducible repeat (first|apply zA|apply zB|apply zC));exact (zy (zI (p:=⟨gb393,3,none⟩) (zI (p:=⟨gb393,2,none⟩) (zI (p:=⟨gb393,1,none⟩) (zI (p:=⟨gb393,0,none⟩) (zy HO_394002.out (fun k_ hk=>(⟨hk,hk.2.1⟩ : _∧k_≠gb393))) (fun _ hk=>hk.2) (.int .u64 t405)) (fun _ hk=>hk.2) (.int .u32 t406)) (fun _ hk=>hk.2) (.slice Ao30 t407.length co30)) (fun _ hk=>hk.2) (.int .i64 t410)) (fun _ h_=>h_.1))) hb);replace HO409:=zm (Kd.V_below (by (with_reducible repeat (first|apply zA|apply zB|apply zC));exact (zy (zI (p:=⟨gb393,3,none⟩) (zI (p:=⟨gb393,2,none⟩) (zI (p:=⟨gb393,1,none⟩) (zI (p:=⟨gb393,0,none⟩) (zy HO409.out (fun k_ hk=>(⟨hk,hk.2.1⟩ : _∧k_≠gb393))) (fun _ hk=>hk.2) (.int .u64 t405)) (fun _ hk=>hk.2) (.int .u32 t406)) (fun _ hk=>hk.2) (.slice Ao30 t407.length co30)) (fun _ hk=>hk.2) (.int .i64 t410)) (fun _ h_=>h_.1))) hb);replace BK393:=ybb BK393 hb;replace BK394:=ybb BK394 hb;replace HB:=ybs hb;(try clear hb);(try clear hb2);(try clear hk);(try clear hi);obtain ⟨_,_,_,_,_,_,_,_⟩:=yc4 BK393)|((with_reducible refine gate_callee (f:=51) rfl ?_);refine ygl 59 Try.func51 #[.agg #[.int .u64 t405, .int .u32 t406, .slice Ao30 t407.length co30, .int .i64 t410], .int .i64 t412, .int .i64 (wrap64 (t412+1)), .int .i64 t402] ?_;(with_reducible refine (coder_Take.calls kj3 t405 t406 (fun k_=>((P0_2_ k_∨w.heap.size≤k_)∧(k_≠gb393∧k_≠gb394))) _ _ t407 t410 t412 (wrap64 (t412+1)) t402 t414 t415 t416 t419 t420 _ HO409.out A22.out).mono ?_);rintro e w33 ⟨v417,rfl,ho0,hb⟩;refine ⟨_,rfl, ?_⟩;replace HO_394002:=yVb HO_394002 hb;replace HO409:=yVb HO409 hb;have HO418:=zm (Kd.V_lower (zy (ok' := fun k_=>(P0_2_ k_∨w.heap.size≤k_)∧k_≠gb393∧k_≠gb394) ho0 (fun k_ hk_=>⟨Or.elim hk_ (fun hs_=>hs_.1) (fun hn_=>(.inr (Nat.le_trans (zE yhb) hn_))),Or.elim hk_ (fun hs_=>hs_.2.1) (fun hn_=>(Kd.freshB (yk BK393) k_ hn_)),Or.elim hk_ (fun hs_=>hs_.2.2) (fun hn_=>(Kd.freshB (yk BK394) k_ hn_))⟩)) (zE yhb));replace BK393:=ybb BK393 hb;replace BK394:=ybb BK394 hb;replace HB:=ybs hb;(try clear hb);(try clear hb2);(try clear hk);(try clear hi);(try clear ho0);obtain ⟨_,_,_,_,_,_,_,_⟩:=yc4 BK393;obtain ⟨Ao35,co35,eo35⟩:=Kd.V_slice HO418.out;subst eo35;obtain ⟨_,_,_,_,_,_,_,_⟩:=yc4 BK394))
     refine bodyPost_ret (results_ctt rfl _ _ gb394 82 #[.int .u64 t414, .int .u32 t415, .slice Ao35 t416.length co35, .int .i64 t419] (0,0) _ rfl (yk BK394) Try.underlying82 rfl (by kernel_rfl)) rfl ?_
     exact ⟨_,by first|rfl|(simp [errW_none,errW_some] <;> rfl)|(simp only [← hji23];first|rfl|(simp [errW_none,errW_some] <;> rfl))|(simp [*,errW_none,errW_some] <;> rfl),by (with_reducible repeat (first|apply zA|apply zB|apply zC));exact zy (zI (p:=⟨gb394,3,none⟩) (zI (p:=⟨gb394,2,none⟩) (zI (p:=⟨gb394,1,none⟩) (zI (p:=⟨gb394,0,none⟩) (zI (p:=⟨gb393,3,none⟩) (zI (p:=⟨gb393,2,none⟩) (zI (p:=⟨gb393,1,none⟩) (zI (p:=⟨gb393,0,none⟩) (zy (zy HO418.out (fun k_ hk=>(⟨hk,hk.2.1⟩ : _∧k_≠gb393))) (fun k_ hk=>(⟨hk,hk.1.2.2⟩ : _∧k_≠gb394))) (fun _ hk=>hk.1.2) (.int .u64 t414)) (fun _ hk=>hk.1.2) (.int .u32 t415)) (fun _ hk=>hk.1.2) (.slice Ao35 t416.length co35)) (fun _ hk=>hk.1.2) (.int .i64 t419)) (fun _ hk=>hk.2) (.int .u64 t414)) (fun _ hk=>hk.2) (.int .u32 t415)) (fun _ hk=>hk.2) (.slice Ao35 t416.length co35)) (fun _ hk=>hk.2) (.int .i64 t419)) (fun _ hk=>hk.1.1.1),yhb⟩
    ·
     rw [if_neg c20] at H
     have c20b0 : decide (1 < t402)=false:=decide_eq_false c20
     clear c20
     obtain ⟨ji37,hji37⟩ : ∃ j_ : Int,(mn (IntKind.u64.wrap (t403)) (IntKind.u64.wrap (a1 - 1)))=j_:=⟨_,rfl⟩
     replace H : (some (t405,t406,t407,t410,ji37,0))=some (r1,r2,r3,r4,r5,r6):=by first|(rw [hji37] at H;exact H)|(simp only [hji37] at H ⊢; exact H)
     (try rw [hji37] at A17)
     (try rw [hji37] at A18)
     (try rw [hji37] at A19)
     have hji37_ : (if (IntKind.u64.wrap (a1 - 1)) < (IntKind.u64.wrap (t403)) then (IntKind.u64.wrap (a1 - 1)) else (IntKind.u64.wrap (t403)))=ji37:=hji37
     simp only [Option.some.injEq,Prod.mk.injEq] at H
     obtain ⟨rfl,rfl,rfl,rfl,rfl,rfl⟩:=H
     go_wp2_with (first|((with_reducible refine gate_callee (f:=76) rfl ?_);refine ygl 25 Try.func76 #[.int .u64 a1] ?_;(with_reducible refine (coder_halves.calls a1 t401 t402 _ A17.out).mono ?_);rintro e w' ⟨rfl,⟨nd,rfl⟩⟩;refine ⟨_,rfl, ?_⟩;(try (rw [drewN_self wc];generalize hq_ : World.drewN wc _=wc;have n0_ : Aside0 (Kd.V (Kd.int .u8) 5 wc w.heap.size (fun k_=>(P0_2_ k_∨w.heap.size≤k_)∧k_≠gb393∧k_≠gb394) (.slice Ao11 t397.length co11) t397):=⟨by rw [← hq_];exact (yr HO_394002)⟩;have n1_ : Aside0 (wc.heap[gb393]? = some (.cells #[.int .u64 t395, .int .u32 t396, .slice Ao11 t397.length co11, .int .i64 t400] 82 (0,0))):=⟨by rw [← hq_];exact (yk BK393)⟩;have n2_ : Aside0 (wc.heap[gb394]? = some (.cells #[.int .u64 0, .int .u32 0, .slice none 0 0, .int .i64 0] 82 (0,0))):=⟨by rw [← hq_];exact (yk BK394)⟩;have n3_ : Aside0 (Below w.heap.size w wc):=⟨by rw [← hq_];exact yhb⟩;clear HO_394002 BK393 BK394 HB hq_;have HO_394002:=n0_;have BK393:=n1_;have BK394:=n2_;have HB:=n3_;clear n0_ n1_ n2_ n3_));have hnb38:=NB393_394.out;have hnc38:=NB394_393.out;obtain ⟨_,_,_,_,_,_,_,_⟩:=yc4 BK393)|((with_reducible refine gate_callee (f:=50) rfl ?_);refine ygl 31 Try.func50 #[.agg #[.int .u64 t395, .int .u32 t396, .slice Ao11 t397.length co11, .int .i64 t400], .int .i64 t401] ?_;(with_reducible refine (coder_Get.calls t395 t396 _ _ t397 t400 t401 t403 t404 _ ?side1 ?side2 A18.out).mono ?_);(case side1=>exact yce (Kd.V_reads' HO_394002.out).2.2);(case side2=>exact (Kd.V_reads' HO_394002.out).2.1);rintro e w40 ⟨rfl,hb⟩;refine ⟨_,rfl, ?_⟩;replace HO_394002:=yVb HO_394002 hb;replace BK393:=ybb BK393 hb;replace BK394:=ybb BK394 hb;replace HB:=ybs hb;(try clear hb);(try clear hb2);(try clear hk);(try clear hi);obtain ⟨_,_,_,_,_,_,_,_⟩:=yc4 BK393)|((with_reducible refine gate_callee (f:=51) rfl ?_);refine ygl 40 Try.func51 #[.agg #[.int .u64 t395, .int .u32 t396, .slice Ao11 t397.length co11, .int .i64 t400], .int .i64 t403, .int .i64 (wrap64 (t403+1)), .int .i64 t401] ?_;(with_reducible refine (coder_Take.calls kj3 t395 t396 (fun k_=>((P0_2_ k_∨w.heap.size≤k_)∧(k_≠gb393∧k_≠gb394))) _ _ t397 t400 t403 (wrap64 (t403+1)) t401 t405 t406 t407 t410 t411 _ HO_394002.out A19.out).mono ?_);rintro e w42 ⟨v408,rfl,ho0,hb⟩;refine ⟨_,rfl, ?_⟩;replace HO_394002:=yVb HO_394002 hb;have HO409:=zm (Kd.V_lower (zy (ok' := fun k_=>(P0_2_ k_∨w.heap.size≤k_)∧k_≠gb393∧k_≠gb394) ho0 (fun k_ hk_=>⟨Or.elim hk_ (fun hs_=>hs_.1) (fun hn_=>(.inr (Nat.le_trans (zE yhb) hn_))),Or.elim hk_ (fun hs_=>hs_.2.1) (fun hn_=>(Kd.freshB (yk BK393) k_ hn_)),Or.elim hk_ (fun hs_=>hs_.2.2) (fun hn_=>(Kd.freshB (yk BK394) k_ hn_))⟩)) (zE yhb));replace BK393:=ybb BK393 hb;replace BK394:=ybb BK394 hb;replace HB:=ybs hb;(try clear hb);(try clear hb2);(try clear hk);(try clear hi);(try clear ho0);obtain ⟨_,_,_,_,_,_,_,_⟩:=yc4 BK393;obtain ⟨Ao44,co44,eo44⟩:=Kd.V_slice HO409.out;subst eo44;obtain ⟨_,_,_,_,_,_,_,_⟩:=yc4 BK394))
     refine bodyPost_ret (results_ctt rfl _ _ gb394 82 #[.int .u64 t405, .int .u32 t406, .slice Ao44 t407.length co44, .int .i64 t410] (0,0) _ rfl (yk BK394) Try.underlying82 rfl (by kernel_rfl)) rfl ?_
     exact ⟨_,by first|rfl|(simp [errW_none,errW_some] <;> rfl)|(simp only [← hji37];first|rfl|(simp [errW_none,errW_some] <;> rfl))|(simp [*,errW_none,errW_some] <;> rfl),by (with_reducible repeat (first|apply zA|apply zB|apply zC));exact zy (zI (p:=⟨gb394,3,none⟩) (zI (p:=⟨gb394,2,none⟩) (zI (p:=⟨gb394,1,none⟩) (zI (p:=⟨gb394,0,none⟩) (zI (p:=⟨gb393,3,none⟩) (zI (p:=⟨gb393,2,none⟩) (zI (p:=⟨gb393,1,none⟩) (zI (p:=⟨gb393,0,none⟩) (zy (zy HO409.out (fun k_ hk=>(⟨hk,hk.2.1⟩ : _∧k_≠gb393))) (fun k_ hk=>(⟨hk,hk.1.2.2⟩ : _∧k_≠gb394))) (fun _ hk=>hk.1.2) (.int .u64 t405)) (fun _ hk=>hk.1.2) (.int .u32 t406)) (fun _ hk=>hk.1.2) (.slice Ao44 t407.length co44)) (fun _ hk=>hk.1.2) (.int .i64 t410)) (fun _ hk=>hk.2) (.int .u64 t405)) (fun _ hk=>hk.2) (.int .u32 t406)) (fun _ hk=>hk.2) (.slice Ao44 t407.length co44)) (fun _ hk=>hk.2) (.int .i64 t410)) (fun _ hk=>hk.1.1.1),yhb⟩

end Go.Proofs.Ytnmbndkojpjkmaa.Prt

namespace Go.Proofs.Ytnmbndkojpjkmaa.Prt
open Go.RowKit Go.Proofs.YtnmbndkojpjkmaaW.PrintWords Go.Proofs.YtnmbndkojpjkmaaW.PrintLast Go.Proofs.YtnmbndkojpjkmaaW.PrintMore
attribute [local go_sem] max2_int min2_int max_two min_two max_three min_three max_four min_four   -- for this text's walks alone
set_option linter.unusedVariables false
set_option linter.unusedSimpArgs false

/-! ### comb_Vector: function 54 -/
mutual
def comb_Vector.l0 : Nat→Int→Int→Int→List Int→Option (List Int × Int)
 | 0,_,_,_,_=>none
 | k+1,x0,x1,x2,x9=>if x0 > 0 then ((comb_table.f (wrap64 (x0 - 1)) x1).bind fun t488=>(if x2 ≥ t488 then ((comb_table.f (wrap64 (x0 - 1)) (wrap64 (x1 - 1))).bind fun t489=>(comb_Vector.l1 k x0 x1 (IntKind.u64.wrap (x2 - t488)) x9 1 t489)) else (if x9.length < 17592186044416 then (comb_Vector.l0 k (wrap64 (x0 - 1)) x1 x2 (x9 ++ [0])) else (none)))) else (some (x9,0))
def comb_Vector.l1 : Nat→Int→Int→Int→List Int→Int→Int→Option (List Int × Int)
 | 0,_,_,_,_,_,_=>none
 | k+1,x0,x1,x2,x9,x10,x12=>if x2 ≥ (IntKind.u64.wrap (2 * x12)) then ((comb_table.f (wrap64 (x0 - 1)) (wrap64 (x1 - (wrap64 (x10+1))))).bind fun t490=>(comb_Vector.l1 k x0 x1 (IntKind.u64.wrap (x2 - (IntKind.u64.wrap (2 * x12)))) x9 (wrap64 (x10+1)) t490)) else ((comb_table.f (wrap64 (x0 - 1)) (wrap64 (x1 - x10))).bind fun t491=>(if x2 ≥ t491 then (if x9.length < 17592186044416 then (comb_Vector.l0 k (wrap64 (x0 - 1)) (wrap64 (x1 - x10)) (IntKind.u64.wrap (x2 - t491)) (x9 ++ [wrap64 (-x10)])) else (none)) else (if x9.length < 17592186044416 then (comb_Vector.l0 k (wrap64 (x0 - 1)) (wrap64 (x1 - x10)) x2 (x9 ++ [x10])) else (none))))
end
def comb_Vector.f (k : Nat) (a0 : Int) (a1 : Int) (a2 : Int) : Option (List Int × Int):=(comb_fair.f a0 a1).bind fun t483=>(if t483=true then ((comb_table.f a0 a1).bind fun t487=>(if a2 ≥ t487 then (some (([] : List Int),5)) else (comb_Vector.l0 k a0 a1 a2 ([] : List Int)))) else (some (([] : List Int),1)))
theorem comb_Vector.mono_l : ∀ k,(∀ y0 y1 y2 y3,LeO (comb_Vector.l0 k y0 y1 y2 y3) (comb_Vector.l0 (k+1) y0 y1 y2 y3))∧(∀ y0 y1 y2 y3 y4 y5,LeO (comb_Vector.l1 k y0 y1 y2 y3 y4 y5) (comb_Vector.l1 (k+1) y0 y1 y2 y3 y4 y5))
 | 0=>⟨fun _ _ _ _ r h=>by simp [comb_Vector.l0] at h,fun _ _ _ _ _ _ r h=>by simp [comb_Vector.l1] at h⟩
 | k+1=>by
  obtain ⟨ih0,ih1⟩:=comb_Vector.mono_l k
  refine ⟨?_, ?_⟩
  ·
   intro y0 y1 y2 y3
   unfold comb_Vector.l0
   repeat' first
   | (with_reducible exact ih0 _ _ _ _)
   | (with_reducible exact ih1 _ _ _ _ _ _)
   | (with_reducible exact LeO.refl _)
   | (with_reducible exact LeO.none _)
   | (with_reducible refine LeO.ite ?_ ?_)
   | (with_reducible refine LeO.bind ?_ (fun _ => ?_))
   | exact ih0 _ _ _ _
   | exact ih1 _ _ _ _ _ _
   | exact LeO.none _
   | refine LeO.ite ?_ ?_
   | refine LeO.bind ?_ (fun _ => ?_)
  ·
   intro y0 y1 y2 y3 y4 y5
   unfold comb_Vector.l1
   repeat' first
   | (with_reducible exact ih0 _ _ _ _)
   | (with_reducible exact ih1 _ _ _ _ _ _)
   | (with_reducible exact LeO.refl _)
   | (with_reducible exact LeO.none _)
   | (with_reducible refine LeO.ite ?_ ?_)
   | (with_reducible refine LeO.bind ?_ (fun _ => ?_))
   | exact ih0 _ _ _ _
   | exact ih1 _ _ _ _ _ _
   | exact LeO.none _
   | refine LeO.ite ?_ ?_
   | refine LeO.bind ?_ (fun _ => ?_)
theorem comb_Vector.mono : ∀ a0 a1 a2 k,LeO (comb_Vector.f k a0 a1 a2) (comb_Vector.f (k+1) a0 a1 a2):=by
 intro a0 a1 a2 k
 obtain ⟨ih0,ih1⟩:=comb_Vector.mono_l k
 unfold comb_Vector.f
 repeat' first
   | (with_reducible exact ih0 _ _ _ _)
   | (with_reducible exact ih1 _ _ _ _ _ _)
   | (with_reducible exact LeO.refl _)
   | (with_reducible exact LeO.none _)
   | (with_reducible refine LeO.ite ?_ ?_)
   | (with_reducible refine LeO.bind ?_ (fun _ => ?_))
   | exact ih0 _ _ _ _
   | exact ih1 _ _ _ _ _ _
   | exact LeO.none _
   | refine LeO.ite ?_ ?_
   | refine LeO.bind ?_ (fun _ => ?_)
set_option maxHeartbeats 8000000 in
set_option maxRecDepth 100000 in
theorem comb_Vector.calls (k : Nat) (a0 : Int) (a1 : Int) (a2 : Int) (r1 : List Int) (r2 : Int) (w : World) (h : comb_Vector.f k a0 a1 a2=some (r1,r2)) :
  Calls Try.prog 54 #[.int .i64 a0, .int .i64 a1, .int .u64 a2] w fun e w' => ∃ v0_ : Value,e=.returned (.tuple #[v0_, .int .i64 r2])∧Kd.R (Kd.int .i64) 3 w' w.heap.size (fun _=>True) v0_ r1∧Below w.heap.size w w' := by
 have HB:=zm (Below.refl w.heap.size w)
 have H : ((comb_fair.f a0 a1).bind fun t483=>(if t483=true then ((comb_table.f a0 a1).bind fun t487=>(if a2 ≥ t487 then (some (([] : List Int),5)) else (comb_Vector.l0 k a0 a1 a2 ([] : List Int)))) else (some (([] : List Int),1))))=some (r1,r2):=h
 clear h
 obtain ⟨t483,A4,H⟩:=ybi H
 by_cases c5 : t483=true
 ·
  subst c5
  rw [if_pos rfl] at H
  obtain ⟨y484,hy484⟩ : ∃ y_ : List Int,y_=(([0] : List Int)):=⟨_,rfl⟩
  replace H : ((comb_table.f a0 a1).bind fun t487=>(if a2 ≥ t487 then (some (([] : List Int),5)) else (comb_Vector.l0 k a0 a1 a2 ([] : List Int))))=some (r1,r2):=yrw hy484 H
  have Ny484:=zm hy484;clear hy484
  obtain ⟨t487,A6,H⟩:=ybi H
  by_cases c7 : a2 ≥ t487
  ·
   rw [if_pos c7] at H
   have c7b0 : decide (t487≤a2)=true:=decide_eq_true c7
   clear c7
   simp only [Option.some.injEq,Prod.mk.injEq] at H
   obtain ⟨rfl,rfl⟩:=H
   go_enter Try.func54,Try.ntmps54
   obtain ⟨Z,hz,HZs⟩:=comb_table.zsize
   obtain ⟨ia0,ib0,ic0,id0⟩:=comb_table.inn A6.out
   go_wp2_with (first|((with_reducible refine gate_callee (f:=71) rfl ?_);refine ygl 16 Try.func71 #[.int .i64 a0, .int .i64 a1] ?_;(with_reducible refine (comb_fair.calls a0 a1 true _ A4.out).mono ?_);rintro e w' ⟨rfl,⟨nd,rfl⟩⟩;refine ⟨_,rfl, ?_⟩)|((with_reducible refine gate_callee (f:=72) rfl ?_);refine goesL_ (some 18) rfl rfl Try.func72 (by kernel_rfl) rfl #[] rfl (by first|rfl|simp) ?_;(with_reducible refine (comb_table.made _).mono ?_);rintro e w5 ⟨rfl,hb5⟩;refine ⟨_,rfl, ?_⟩;have hst:=run_storeCells_new (P:=Try.prog) w5 118 Z (ABl (comb_table.T 16)) comb_table.size16 HZs.out (ABl_one _);have n1_:=zm (ze (zJ yhb hb5) (.cells (ABl (comb_table.T 16)) 118));clear HB;have HB:=n1_;clear n1_;have hbn:=zm (blk_new w5 (.cells (ABl (comb_table.T 16)) 118));have hcl0:=comb_table.look hbn.out A6.out))
   go_ret2
   exact ⟨_,ye,yn,yhb⟩
  ·
   rw [if_neg c7] at H
   have c7b0 : decide (t487≤a2)=false:=decide_eq_false c7
   clear c7
   have H' := zm H
   clear H
   go_enter Try.func54,Try.ntmps54
   obtain ⟨Z,hz,HZs⟩:=comb_table.zsize
   obtain ⟨ia0,ib0,ic0,id0⟩:=comb_table.inn A6.out
   go_wp2_with (first|((with_reducible refine gate_callee (f:=71) rfl ?_);refine ygl 16 Try.func71 #[.int .i64 a0, .int .i64 a1] ?_;(with_reducible refine (comb_fair.calls a0 a1 true _ A4.out).mono ?_);rintro e w' ⟨rfl,⟨nd,rfl⟩⟩;refine ⟨_,rfl, ?_⟩)|((with_reducible refine gate_callee (f:=72) rfl ?_);refine goesL_ (some 18) rfl rfl Try.func72 (by kernel_rfl) rfl #[] rfl (by first|rfl|simp) ?_;(with_reducible refine (comb_table.made _).mono ?_);rintro e w5 ⟨rfl,hb5⟩;refine ⟨_,rfl, ?_⟩;have hst:=run_storeCells_new (P:=Try.prog) w5 118 Z (ABl (comb_table.T 16)) comb_table.size16 HZs.out (ABl_one _);have n1_:=zm (ze (zJ yhb hb5) (.cells (ABl (comb_table.T 16)) 118));clear HB;have HB:=n1_;clear n1_;have hbn:=zm (blk_new w5 (.cells (ABl (comb_table.T 16)) 118));have hcl0:=comb_table.look hbn.out A6.out))
   have hb0:=HB.out
   obtain ⟨W0,hW0⟩ : ∃ W0,W0=w5.alloc (.cells (ABl (comb_table.T 16)) 118):=⟨_,rfl⟩
   rw [← hW0] at hb0 hbn
   rw [← hW0]
   clear hW0 HB hst hz HZs;clear hcl0
   generalize w5.heap.size=B at hbn ⊢
   have HB:=zm (Below.refl W0.heap.size W0)
   go_loopg [0,1,2,9] k (fun kq v0 v1 v2 v9 w' => ∃ (x0_1 : Int) (x1_1 : Int) (x2_1 : Int) (x9_1 : List Int),v0=.int .i64 x0_1∧v1=.int .i64 x1_1∧v2=.int .u64 x2_1∧Aside0 (comb_Vector.l0 kq x0_1 x1_1 x2_1 x9_1=some (r1,r2))∧Aside0 (kq≤k)∧Aside0 (Kd.R (Kd.int .i64) 3 w' W0.heap.size (fun _=>True) v9 x9_1)∧Aside0 (Below W0.heap.size W0 w'))
   case atStart=>exact ⟨(a0),(a1),(a2),(([] : List Int)),yq,yq,yq,H',⟨Nat.le_refl _⟩,⟨yn⟩,⟨yhb⟩⟩
   case round =>
    clear H'
    try clear c5
    try clear c7
    try clear c7b0
    obtain ⟨x0_1,x1_1,x2_1,x9_1,rfl,rfl,rfl,HA,HK1,HO_9,HB⟩:=hrel
    cases gk with
    | zero=>exact absurd HA.out (by simp [comb_Vector.l0])
    | succ k1 =>
     have H:=HA.out;clear HA
     simp only [comb_Vector.l0] at H
     by_cases c12 : x0_1 > 0
     ·
      rw [if_pos c12] at H
      have c12b0 : decide (0 < x0_1)=true:=decide_eq_true c12
      clear c12
      obtain ⟨t488,A13,H⟩:=ybi H
      by_cases c14 : x2_1 ≥ t488
      ·
       rw [if_pos c14] at H
       have c14b0 : decide (t488≤x2_1)=true:=decide_eq_true c14
       clear c14
       obtain ⟨t489,A15,H⟩:=ybi H
       have H' := zm H
       clear H
       obtain ⟨ia0,ib0,ic0,id0⟩:=comb_table.inn A13.out
       have hcl0:=(HB.out.cell (zb W0 _ (comb_table.look hbn.out A13.out))).trans (comb_table.look hbn.out A13.out)
       obtain ⟨ia1,ib1,ic1,id1⟩:=comb_table.inn A15.out
       have hcl1:=(HB.out.cell (zb W0 _ (comb_table.look hbn.out A15.out))).trans (comb_table.look hbn.out A15.out)
       go_wp2
       go_loopg [2,10,12] k1 (fun kq v2 v10 v12 w' => ∃ (x2_2 : Int) (x10_2 : Int) (x12_2 : Int),v2=.int .u64 x2_2∧v10=.int .i64 x10_2∧v12=.int .u64 x12_2∧Aside0 (comb_Vector.l1 kq x0_1 x1_1 x2_2 x9_1 x10_2 x12_2=some (r1,r2))∧Aside0 (kq≤k1)∧Aside0 (Kd.R (Kd.int .i64) 3 w' W0.heap.size (fun _=>True) u9 x9_1)∧Aside0 (Below W0.heap.size W0 w'))
       case atStart=>exact ⟨(IntKind.u64.wrap (x2_1 - t488)),(1),(t489),yq,yq,yq,H',⟨Nat.le_refl _⟩,⟨yr HO_9⟩,⟨yhb⟩⟩
       case round =>
        clear H'
        try clear c5
        try clear c7
        try clear c7b0
        try clear c12
        try clear c12b0
        try clear c14
        try clear c14b0
        obtain ⟨x2_2,x10_2,x12_2,rfl,rfl,rfl,HA,HK2,HO_9,HB⟩:=hrel
        cases gk with
        | zero=>exact absurd HA.out (by simp [comb_Vector.l1])
        | succ k2 =>
         have H:=HA.out;clear HA
         simp only [comb_Vector.l1] at H
         by_cases c16 : x2_2 ≥ (IntKind.u64.wrap (2 * x12_2))
         ·
          rw [if_pos c16] at H
          have c16b0 : decide ((IntKind.u64.wrap (2 * x12_2))≤x2_2)=true:=decide_eq_true c16
          clear c16
          obtain ⟨t490,A17,H⟩:=ybi H
          have H' := zm H
          clear H
          obtain ⟨ia2,ib2,ic2,id2⟩:=comb_table.inn A17.out
          have hcl2:=(HB.out.cell (zb W0 _ (comb_table.look hbn.out A17.out))).trans (comb_table.look hbn.out A17.out)
          go_wp2
          go_roundg k2
          case measure=>have:=HK1.out;have:=HK2.out;omega
          case rel=>exact ⟨(IntKind.u64.wrap (x2_2 - (IntKind.u64.wrap (2 * x12_2)))),(wrap64 (x10_2+1)),(t490),yq,yq,yq,H',⟨by have:=HK1.out;have:=HK2.out;omega⟩,⟨yr HO_9⟩,⟨yhb⟩⟩
         ·
          rw [if_neg c16] at H
          have c16b0 : decide ((IntKind.u64.wrap (2 * x12_2))≤x2_2)=false:=decide_eq_false c16
          clear c16
          obtain ⟨t491,A18,H⟩:=ybi H
          by_cases c19 : x2_2 ≥ t491
          ·
           rw [if_pos c19] at H
           have c19b0 : decide (t491≤x2_2)=true:=decide_eq_true c19
           clear c19
           by_cases c20 : x9_1.length < 17592186044416
           ·
            rw [if_pos c20] at H
            have LMc20:=zm c20;clear c20
            obtain ⟨y492,hy492⟩ : ∃ y_ : List Int,y_=(x9_1 ++ [wrap64 (-x10_2)]):=⟨_,rfl⟩
            replace H : (comb_Vector.l0 k2 (wrap64 (x0_1 - 1)) (wrap64 (x1_1 - x10_2)) (IntKind.u64.wrap (x2_2 - t491)) y492)=some (r1,r2):=yrw hy492 H
            have Ny492:=zm hy492;clear hy492
            have H' := zm H
            clear H
            obtain ⟨ia3,ib3,ic3,id3⟩:=comb_table.inn A18.out
            have hcl3:=(HB.out.cell (zb W0 _ (comb_table.look hbn.out A18.out))).trans (comb_table.look hbn.out A18.out)
            go_wp2_with (first|((with_reducible refine gate_builtin (b:=.append) (xs := #[.tmp 85, .tmp 87]) rfl ?_);at_builtin;refine Kd.R_append (Kd.int .i64) (w0:=W0) W0.heap.size rfl (.tmp 85) (.tmp 87) 49 3 (.int .i64 0) 8 rfl Try.underlying49 info3 rfl (by decide) (by omega) u9 x9_1 (wrap64 (-x10_2)) [.int .i64 (wrap64 (-x10_2))] (fun _=>True) (fun _=>False) rfl rfl ?aP (fun _ hk=>hk.elim) ?aF ?aO ?aB ?aS ?aL ?_;(case aP=>exact rfl);(case aB=>exact yhb);(case aF=>exact (fun _ _=>trivial));(case aO=>exact (yr HO_9));(case aS=>exact (zE yhb));(case aL=>have:=LMc20.out;omega);intro v493 w21 ho hb hg hat;rw [← Ny492.out] at ho;replace HB:=zm (hb);have HO494:=zm (ho);clear HO_9;clear ho hb hg hat))
            go_roundg k2
            case measure=>have:=HK1.out;have:=HK2.out;omega
            case rel=>exact ⟨(wrap64 (x0_1 - 1)),(wrap64 (x1_1 - x10_2)),(IntKind.u64.wrap (x2_2 - t491)),(y492),yq,yq,yq,H',⟨by have:=HK1.out;have:=HK2.out;omega⟩,⟨yr HO494⟩,⟨yhb⟩⟩
           ·
            rw [if_neg c20] at H
            exact absurd H (by simp)
          ·
           rw [if_neg c19] at H
           have c19b0 : decide (t491≤x2_2)=false:=decide_eq_false c19
           clear c19
           by_cases c22 : x9_1.length < 17592186044416
           ·
            rw [if_pos c22] at H
            have LMc22:=zm c22;clear c22
            obtain ⟨y495,hy495⟩ : ∃ y_ : List Int,y_=(x9_1 ++ [x10_2]):=⟨_,rfl⟩
            replace H : (comb_Vector.l0 k2 (wrap64 (x0_1 - 1)) (wrap64 (x1_1 - x10_2)) x2_2 y495)=some (r1,r2):=yrw hy495 H
            have Ny495:=zm hy495;clear hy495
            have H' := zm H
            clear H
            obtain ⟨ia4,ib4,ic4,id4⟩:=comb_table.inn A18.out
            have hcl4:=(HB.out.cell (zb W0 _ (comb_table.look hbn.out A18.out))).trans (comb_table.look hbn.out A18.out)
            go_wp2_with (first|((with_reducible refine gate_builtin (b:=.append) (xs := #[.tmp 85, .tmp 87]) rfl ?_);at_builtin;refine Kd.R_append (Kd.int .i64) (w0:=W0) W0.heap.size rfl (.tmp 85) (.tmp 87) 49 3 (.int .i64 0) 8 rfl Try.underlying49 info3 rfl (by decide) (by omega) u9 x9_1 x10_2 [.int .i64 x10_2] (fun _=>True) (fun _=>False) rfl rfl ?aP (fun _ hk=>hk.elim) ?aF ?aO ?aB ?aS ?aL ?_;(case aP=>exact rfl);(case aB=>exact yhb);(case aF=>exact (fun _ _=>trivial));(case aO=>exact (yr HO_9));(case aS=>exact (zE yhb));(case aL=>have:=LMc22.out;omega);intro v496 w23 ho hb hg hat;rw [← Ny495.out] at ho;replace HB:=zm (hb);have HO497:=zm (ho);clear HO_9;clear ho hb hg hat))
            go_roundg k2
            case measure=>have:=HK1.out;have:=HK2.out;omega
            case rel=>exact ⟨(wrap64 (x0_1 - 1)),(wrap64 (x1_1 - x10_2)),(x2_2),(y495),yq,yq,yq,H',⟨by have:=HK1.out;have:=HK2.out;omega⟩,⟨yr HO497⟩,⟨yhb⟩⟩
           ·
            rw [if_neg c22] at H
            exact absurd H (by simp)
      ·
       rw [if_neg c14] at H
       have c14b0 : decide (t488≤x2_1)=false:=decide_eq_false c14
       clear c14
       by_cases c24 : x9_1.length < 17592186044416
       ·
        rw [if_pos c24] at H
        have LMc24:=zm c24;clear c24
        obtain ⟨y498,hy498⟩ : ∃ y_ : List Int,y_=(x9_1 ++ [0]):=⟨_,rfl⟩
        replace H : (comb_Vector.l0 k1 (wrap64 (x0_1 - 1)) x1_1 x2_1 y498)=some (r1,r2):=yrw hy498 H
        have Ny498:=zm hy498;clear hy498
        have H' := zm H
        clear H
        obtain ⟨ia5,ib5,ic5,id5⟩:=comb_table.inn A13.out
        have hcl5:=(HB.out.cell (zb W0 _ (comb_table.look hbn.out A13.out))).trans (comb_table.look hbn.out A13.out)
        go_wp2_with (first|((with_reducible refine gate_builtin (b:=.append) (xs := #[.tmp 85, .tmp 87]) rfl ?_);at_builtin;refine Kd.R_append (Kd.int .i64) (w0:=W0) W0.heap.size rfl (.tmp 85) (.tmp 87) 49 3 (.int .i64 0) 8 rfl Try.underlying49 info3 rfl (by decide) (by omega) u9 x9_1 0 [.int .i64 0] (fun _=>True) (fun _=>False) rfl rfl ?aP (fun _ hk=>hk.elim) ?aF ?aO ?aB ?aS ?aL ?_;(case aP=>exact rfl);(case aB=>exact yhb);(case aF=>exact (fun _ _=>trivial));(case aO=>exact (yr HO_9));(case aS=>exact (zE yhb));(case aL=>have:=LMc24.out;omega);intro v499 w25 ho hb hg hat;rw [← Ny498.out] at ho;replace HB:=zm (hb);have HO500:=zm (ho);clear HO_9;clear ho hb hg hat))
        go_roundg k1
        case measure=>have:=HK1.out;omega
        case rel=>exact ⟨(wrap64 (x0_1 - 1)),(x1_1),(x2_1),(y498),yq,yq,yq,H',⟨by have:=HK1.out;omega⟩,⟨yr HO500⟩,⟨yhb⟩⟩
       ·
        rw [if_neg c24] at H
        exact absurd H (by simp)
     ·
      rw [if_neg c12] at H
      have c12b0 : decide (0 < x0_1)=false:=decide_eq_false c12
      clear c12
      simp only [Option.some.injEq,Prod.mk.injEq] at H
      obtain ⟨rfl,rfl⟩:=H
      go_wp2
      go_ret2
      exact ⟨_,ye,Kd.R_lower (yr HO_9) (zE hb0),zJ hb0 yhb⟩
 ·
  replace c5:=Bool.eq_false_iff.mpr c5
  subst c5
  rw [ynf] at H
  simp only [Option.some.injEq,Prod.mk.injEq] at H
  obtain ⟨rfl,rfl⟩:=H
  go_enter Try.func54,Try.ntmps54
  go_wp2_with (first|((with_reducible refine gate_callee (f:=71) rfl ?_);refine ygl 16 Try.func71 #[.int .i64 a0, .int .i64 a1] ?_;(with_reducible refine (comb_fair.calls a0 a1 false _ A4.out).mono ?_);rintro e w' ⟨rfl,⟨nd,rfl⟩⟩;refine ⟨_,rfl, ?_⟩))
  go_ret2
  exact ⟨_,ye,yn,yhb⟩

end Go.Proofs.Ytnmbndkojpjkmaa.Prt

namespace Go.Proofs.Ytnmbndkojpjkmaa.Prt
open Go.RowKit Go.Proofs.YtnmbndkojpjkmaaW.PrintWords Go.Proofs.YtnmbndkojpjkmaaW.PrintLast Go.Proofs.YtnmbndkojpjkmaaW.PrintMore
attribute [local go_sem] max2_int min2_int max_two min_two max_three min_three max_four min_four   -- for this text's walks alone
set_option linter.unusedVariables false
set_option linter.unusedSimpArgs false

/-! ### cpack_gains: function 25 -/
def cpack_gains.l0 : Nat→Int→List (List Int)→List (List Int)→Int→Int→Option (Bool)
 | 0,_,_,_,_,_=>none
 | k+1,x0,x1,x7,x8,x9=>if x9 < x8 then (if 0≤x9 then (if x9 < (x7.length : Int) then ((gain_Right.f k (rd_L1 x7 x9)).bind fun t183=>(if t183=true then (cpack_gains.l0 k x0 x1 x7 x8 (wrap64 (x9+1))) else (some false))) else (none)) else (none)) else (some ((x1.length : Int) == x0))
def cpack_gains.f (k : Nat) (a0 : Int) (l1 : List (List Int)) : Option (Bool):=cpack_gains.l0 k a0 l1 l1 (l1.length : Int) 0
theorem cpack_gains.mono_l : ∀ k,(∀ y0 y1 y2 y3 y4,LeO (cpack_gains.l0 k y0 y1 y2 y3 y4) (cpack_gains.l0 (k+1) y0 y1 y2 y3 y4))
 | 0=>fun _ _ _ _ _ r h=>by simp [cpack_gains.l0] at h
 | k+1=>by
  have ih0:=cpack_gains.mono_l k
  ·
   intro y0 y1 y2 y3 y4
   unfold cpack_gains.l0
   repeat' first
   | (with_reducible exact ih0 _ _ _ _ _)
   | (with_reducible exact gain_Right.mono _ _)
   | (with_reducible exact LeO.refl _)
   | (with_reducible exact LeO.none _)
   | (with_reducible refine LeO.ite ?_ ?_)
   | (with_reducible refine LeO.bind ?_ (fun _ => ?_))
   | exact ih0 _ _ _ _ _
   | exact gain_Right.mono _ _
   | exact LeO.none _
   | refine LeO.ite ?_ ?_
   | refine LeO.bind ?_ (fun _ => ?_)
theorem cpack_gains.mono : ∀ a0 a1 k,LeO (cpack_gains.f k a0 a1) (cpack_gains.f (k+1) a0 a1):=by
 intro a0 a1 k
 have ih0:=cpack_gains.mono_l k
 unfold cpack_gains.f
 repeat' first
   | (with_reducible exact ih0 _ _ _ _ _)
   | (with_reducible exact gain_Right.mono _ _)
   | (with_reducible exact LeO.refl _)
   | (with_reducible exact LeO.none _)
   | (with_reducible refine LeO.ite ?_ ?_)
   | (with_reducible refine LeO.bind ?_ (fun _ => ?_))
   | exact ih0 _ _ _ _ _
   | exact gain_Right.mono _ _
   | exact LeO.none _
   | refine LeO.ite ?_ ?_
   | refine LeO.bind ?_ (fun _ => ?_)
set_option maxHeartbeats 8000000 in
set_option maxRecDepth 100000 in
theorem cpack_gains.calls (k : Nat) (a0 : Int) (A1 : Option Addr) (c1 : Nat) (l1 : List (List Int)) (r : Bool) (w : World) (hr1 : Kd.C (Kd.slice 3 (Kd.int .i64)) w A1 l1.length l1) (hc1 : l1.length≤c1) (h : cpack_gains.f k a0 l1=some r) :
  Calls Try.prog 25 #[.int .i64 a0, .slice A1 l1.length c1] w fun e w' => e=.returned (.bool r)∧Drawn0 w w' := by
 have HR1:=zm hr1;have HC1:=zm hc1;clear hr1 hc1
 have H : (cpack_gains.l0 k a0 l1 l1 (l1.length : Int) 0)=some r:=h
 clear h
 have H' := zm H
 clear H
 go_enter Try.func25,Try.ntmps25
 go_wp2
 go_loopg [9] k (fun kq v9 w' => ∃ (x9_1 : Int),v9=.int .i64 x9_1∧Aside0 (cpack_gains.l0 kq a0 l1 l1 (l1.length : Int) x9_1=some r)∧Aside0 (kq≤k)∧Drawn0 w w')
 case atStart=>exact ⟨(0),yq,H',⟨Nat.le_refl _⟩,yd⟩
 case round =>
  clear H'
  try clear c1
  obtain ⟨x9_1,rfl,HA,HK1,⟨m1,rfl⟩⟩:=hrel
  cases gk with
  | zero=>exact absurd HA.out (by simp [cpack_gains.l0])
  | succ k1 =>
   have H:=HA.out;clear HA
   simp only [cpack_gains.l0] at H
   by_cases c3 : x9_1 < (l1.length : Int)
   ·
    rw [if_pos c3] at H
    have c3b0 : decide (x9_1 < (l1.length : Int))=true:=decide_eq_true c3
    clear c3
    by_cases c4 : 0≤x9_1
    ·
     rw [if_pos c4] at H
     have c4b0 : decide (0≤x9_1)=true:=decide_eq_true c4
     clear c4
     by_cases c5 : x9_1 < (l1.length : Int)
     ·
      rw [if_pos c5] at H
      have c5b0 : decide (x9_1 < (l1.length : Int))=true:=decide_eq_true c5
      clear c5
      obtain ⟨t183,A6,H⟩:=ybi H
      by_cases c7 : t183=true
      ·
       subst c7
       rw [if_pos rfl] at H
       have H' := zm H
       clear H
       have p182 : 0≤(x9_1 : Int):=yt
       have q182 : x9_1 < (l1.length : Int):=yt
       obtain ⟨ad182,A182_0,c182_0,e182,hx182_0,hl182_0,hi182_0⟩:=at_L1 HR1.out x9_1 p182 q182
       cases e182
       have HR182_0:=zm hi182_0;have HC182_0:=zm hl182_0;clear hi182_0 hl182_0
       replace p182:=eq_true p182
       replace q182:=eq_true q182
       go_wp2_with (first|((with_reducible refine gate_callee (f:=62) rfl ?_);refine ygl 14 Try.func62 #[.slice A182_0 (rd_L1 l1 x9_1).length c182_0] ?_;(with_reducible refine (gain_Right.calls k1 _ _ (rd_L1 l1 x9_1) true _ ?side1 HC182_0.out A6.out).mono ?_);(case side1=>exact yce HR182_0.out);rintro e w' ⟨rfl,⟨nd,rfl⟩⟩;refine ⟨_,rfl, ?_⟩))
       go_roundg k1
       case measure=>have:=HK1.out;omega
       case rel=>exact ⟨(wrap64 (x9_1+1)),yq,H',⟨by have:=HK1.out;omega⟩,yd⟩
      ·
       replace c7:=Bool.eq_false_iff.mpr c7
       subst c7
       rw [ynf] at H
       obtain rfl:=Option.some.inj H
       have p182 : 0≤(x9_1 : Int):=yt
       have q182 : x9_1 < (l1.length : Int):=yt
       obtain ⟨ad182,A182_0,c182_0,e182,hx182_0,hl182_0,hi182_0⟩:=at_L1 HR1.out x9_1 p182 q182
       cases e182
       have HR182_0:=zm hi182_0;have HC182_0:=zm hl182_0;clear hi182_0 hl182_0
       replace p182:=eq_true p182
       replace q182:=eq_true q182
       go_wp2_with (first|((with_reducible refine gate_callee (f:=62) rfl ?_);refine ygl 14 Try.func62 #[.slice A182_0 (rd_L1 l1 x9_1).length c182_0] ?_;(with_reducible refine (gain_Right.calls k1 _ _ (rd_L1 l1 x9_1) false _ ?side1 HC182_0.out A6.out).mono ?_);(case side1=>exact yce HR182_0.out);rintro e w' ⟨rfl,⟨nd,rfl⟩⟩;refine ⟨_,rfl, ?_⟩))
       go_ret
       exact ⟨yq,yd⟩
     ·
      rw [if_neg c5] at H
      exact absurd H (by simp)
    ·
     rw [if_neg c4] at H
     exact absurd H (by simp)
   ·
    rw [if_neg c3] at H
    have c3b0 : decide (x9_1 < (l1.length : Int))=false:=decide_eq_false c3
    clear c3
    obtain rfl:=Option.some.inj H
    go_wp2
    go_ret
    exact ⟨yq,yd⟩

end Go.Proofs.Ytnmbndkojpjkmaa.Prt

namespace Go.Proofs.Ytnmbndkojpjkmaa.Prt
open Go.RowKit Go.Proofs.YtnmbndkojpjkmaaW.PrintWords Go.Proofs.YtnmbndkojpjkmaaW.PrintLast Go.Proofs.YtnmbndkojpjkmaaW.PrintMore
attribute [local go_sem] max2_int min2_int max_two min_two max_three min_three max_four min_four   -- for this text's walks alone
set_option linter.unusedVariables false
set_option linter.unusedSimpArgs false

/-! ### cpack_of: function 29 -/
def cpack_of.f (l0 : List (List Int)) (a1 : Int) : Option (List Int):=if a1 < (l0.length : Int) then (if 0≤a1 then (some (rd_L1 l0 a1)) else (none)) else (some ([] : List Int))
set_option maxHeartbeats 8000000 in
set_option maxRecDepth 100000 in
theorem cpack_of.calls (P0_ : Nat→Prop) (A0 : Option Addr) (c0 : Nat) (l0 : List (List Int)) (a1 : Int) (r : List Int) (w : World) (hs0 : Kd.V (Kd.slice 3 (Kd.int .i64)) 49 w w.heap.size (fun k_=>P0_ k_) (.slice A0 l0.length c0) l0) (h : cpack_of.f l0 a1=some r) :
  Calls Try.prog 29 #[.slice A0 l0.length c0, .int .i64 a1] w fun e w' => ∃ v0_ : Value,e=.returned (v0_)∧Kd.V (Kd.int .i64) 3 w' w.heap.size (fun k_=>(P0_ k_∨w.heap.size≤k_)) v0_ r∧Below w.heap.size w w' := by
 have HO0:=zm (show Kd.V (Kd.slice 3 (Kd.int .i64)) 49 w w.heap.size (fun k_=>(P0_ k_∨w.heap.size≤k_)) (.slice A0 l0.length c0) l0 from zy hs0 (fun k_ hk => .inl hk))
 have HB:=zm (Below.refl w.heap.size w)
 have H : (if a1 < (l0.length : Int) then (if 0≤a1 then (some (rd_L1 l0 a1)) else (none)) else (some ([] : List Int)))=some r:=h
 clear h
 by_cases c3 : a1 < (l0.length : Int)
 ·
  rw [if_pos c3] at H
  have c3b0 : decide (a1 < (l0.length : Int))=true:=decide_eq_true c3
  clear c3
  by_cases c4 : 0≤a1
  ·
   rw [if_pos c4] at H
   have c4b0 : decide (0≤a1)=true:=decide_eq_true c4
   clear c4
   obtain rfl:=Option.some.inj H
   have p287 : 0≤(a1 : Int):=yt
   have q287 : a1 < (l0.length : Int):=yt
   obtain ⟨ad287,A287_0,c287_0,e287,hx287_0,hl287_0,hi287_0⟩:=at_L1 (Kd.V_reads' HO0.out).2.2 a1 p287 q287
   cases e287
   obtain ⟨ce287,hce287,hMe287,hcc287⟩:=Kd.V_get HO0.out [] a1 p287 (by first|exact q287|exact yt|(have e_:=(Kd.V_reads' HO0.out).1;omega))
   obtain ⟨ua287_0,uc287_0,rfl,ul287_0,ge287_0⟩:=Kd.FK_slice_open hMe287
   have hv287_0:=hcc287 0 _ rfl
   rw [Nat.add_zero,show ((Kd.slice 3 (Kd.int .i64))).sz=1 from rfl,Nat.mul_one] at hv287_0
   replace hv287_0:=Option.some.inj (hv287_0.symm.trans hx287_0)
   injection hv287_0 with hva_ hvn_ hvc_
   rw [hva_] at ge287_0
   rw [hvc_] at ul287_0
   have HL287_0:=zm (show Kd.V (Kd.int .i64) 3 _ w.heap.size _ _ (rd_L1 l0 a1) from Kd.V_mk ul287_0 ge287_0)
   clear hva_ hvn_ hvc_ ge287_0 ul287_0;clear hcc287 hce287;have HR287_0:=zm hi287_0;have HC287_0:=zm hl287_0;clear hi287_0 hl287_0
   replace p287:=eq_true p287
   replace q287:=eq_true q287
   go_enter Try.func29,Try.ntmps29
   go_wp2
   go_ret
   exact ⟨_,ye,yr HL287_0,yhb⟩
  ·
   rw [if_neg c4] at H
   exact absurd H (by simp)
 ·
  rw [if_neg c3] at H
  have c3b0 : decide (a1 < (l0.length : Int))=false:=decide_eq_false c3
  clear c3
  obtain rfl:=Option.some.inj H
  go_enter Try.func29,Try.ntmps29
  go_wp2
  go_ret
  exact ⟨_,ye,(by first|exact Kd.V_nil _ _ _ _ _|exact zy (Kd.R_V (yn)) (fun k_ hk=>by first|exact ⟨(.inr (hk.1)),hk.2⟩|exact (.inr (hk)))),yhb⟩

end Go.Proofs.Ytnmbndkojpjkmaa.Prt

namespace Go.Proofs.Ytnmbndkojpjkmaa.Prt
open Go.RowKit Go.Proofs.YtnmbndkojpjkmaaW.PrintWords Go.Proofs.YtnmbndkojpjkmaaW.PrintLast Go.Proofs.YtnmbndkojpjkmaaW.PrintMore
attribute [local go_sem] max2_int min2_int max_two min_two max_three min_three max_four min_four   -- for this text's walks alone
set_option linter.unusedVariables false
set_option linter.unusedSimpArgs false

/-! ### gain_take: function 88 -/
def gain_take.f (k : Nat) (a0_0 : Int) (a0_1 : Int) (l0_2 : List Int) (a0_3 : Int) (a1 : Int) (a2 : Bool) : Option (Int × Int × List Int × Int × Int):=if a2=true then ((coder_TakeNum.f k a0_0 a0_1 l0_2 a0_3 45).bind fun bt423=>(some (bt423.1,bt423.2.1,bt423.2.2.1,bt423.2.2.2.1,wrap64 (bt423.2.2.2.2.1)))) else ((coder_Get.f a0_0 a0_1 l0_2 a0_3 8).bind fun bt432=>((coder_Take.f k a0_0 a0_1 l0_2 a0_3 bt432.1 (wrap64 (bt432.1+1)) 8).bind fun bt434=>(if bt432.1=7 then ((coder_TakeNum.f k bt434.1 bt434.2.1 bt434.2.2.1 bt434.2.2.2.1 45).bind fun bt441=>(some (bt441.1,bt441.2.1,bt441.2.2.1,bt441.2.2.2.1,wrap64 (bt441.2.2.2.2.1)))) else (some (bt434.1,bt434.2.1,bt434.2.2.1,bt434.2.2.2.1,mx 0 (mn (wrap64 ((wrap64 (a1+bt432.1)) - 3)) 44))))))
theorem gain_take.mono : ∀ a0 a1 a2 a3 a4 a5 k,LeO (gain_take.f k a0 a1 a2 a3 a4 a5) (gain_take.f (k+1) a0 a1 a2 a3 a4 a5):=by
 intro a0 a1 a2 a3 a4 a5 k
 unfold gain_take.f
 repeat' first
   | (with_reducible exact coder_Take.mono _ _ _ _ _ _ _ _)
   | (with_reducible exact coder_TakeNum.mono _ _ _ _ _ _)
   | (with_reducible exact LeO.refl _)
   | (with_reducible exact LeO.none _)
   | (with_reducible refine LeO.ite ?_ ?_)
   | (with_reducible refine LeO.bind ?_ (fun _ => ?_))
   | exact coder_Take.mono _ _ _ _ _ _ _ _
   | exact coder_TakeNum.mono _ _ _ _ _ _
   | exact LeO.none _
   | refine LeO.ite ?_ ?_
   | refine LeO.bind ?_ (fun _ => ?_)
set_option maxHeartbeats 8000000 in
set_option maxRecDepth 100000 in
theorem gain_take.calls (k : Nat) (a0_0 : Int) (a0_1 : Int) (P0_2_ : Nat→Prop) (A0_2 : Option Addr) (c0_2 : Nat) (l0_2 : List Int) (a0_3 : Int) (a1 : Int) (a2 : Bool) (r1 : Int) (r2 : Int) (r3 : List Int) (r4 : Int) (r5 : Int) (w : World) (hs0_2 : Kd.V (Kd.int .u8) 5 w w.heap.size (fun k_=>P0_2_ k_) (.slice A0_2 l0_2.length c0_2) l0_2) (h : gain_take.f k a0_0 a0_1 l0_2 a0_3 a1 a2=some (r1,r2,r3,r4,r5)) :
  Calls Try.prog 88 #[.agg #[.int .u64 a0_0, .int .u32 a0_1, .slice A0_2 l0_2.length c0_2, .int .i64 a0_3], .int .i64 a1, .bool a2] w fun e w' => ∃ v2_ : Value,e=.returned (.tuple #[.agg #[.int .u64 r1, .int .u32 r2,v2_, .int .i64 r4], .int .i64 r5])∧Kd.V (Kd.int .u8) 5 w' w.heap.size (fun k_=>(P0_2_ k_∨w.heap.size≤k_)) v2_ r3∧Below w.heap.size w w' := by
 have hu82:=Try.underlying82
 have HO0_2:=zm (show Kd.V (Kd.int .u8) 5 w w.heap.size (fun k_=>(P0_2_ k_∨w.heap.size≤k_)) (.slice A0_2 l0_2.length c0_2) l0_2 from zy hs0_2 (fun k_ hk => .inl hk))
 have HB:=zm (Below.refl w.heap.size w)
 have H : (if a2=true then ((coder_TakeNum.f k a0_0 a0_1 l0_2 a0_3 45).bind fun bt423=>(some (bt423.1,bt423.2.1,bt423.2.2.1,bt423.2.2.2.1,wrap64 (bt423.2.2.2.2.1)))) else ((coder_Get.f a0_0 a0_1 l0_2 a0_3 8).bind fun bt432=>((coder_Take.f k a0_0 a0_1 l0_2 a0_3 bt432.1 (wrap64 (bt432.1+1)) 8).bind fun bt434=>(if bt432.1=7 then ((coder_TakeNum.f k bt434.1 bt434.2.1 bt434.2.2.1 bt434.2.2.2.1 45).bind fun bt441=>(some (bt441.1,bt441.2.1,bt441.2.2.1,bt441.2.2.2.1,wrap64 (bt441.2.2.2.2.1)))) else (some (bt434.1,bt434.2.1,bt434.2.2.1,bt434.2.2.2.1,mx 0 (mn (wrap64 ((wrap64 (a1+bt432.1)) - 3)) 44)))))))=some (r1,r2,r3,r4,r5):=h
 clear h
 by_cases c4 : a2=true
 ·
  subst c4
  rw [if_pos rfl] at H
  obtain ⟨⟨t423,t424,t425,t428,t429,t430⟩,A5,H⟩:=ybi H
  try dsimp only at H
  simp only [Option.some.injEq,Prod.mk.injEq] at H
  obtain ⟨rfl,rfl,rfl,rfl,rfl⟩:=H
  go_enter Try.func88,Try.ntmps88
  go_wp2_with (first|((with_reducible refine gate_dst (N:=3) rfl ?_);refine ybx 3 #[.int .u64 a0_0, .int .u32 a0_1, .slice A0_2 l0_2.length c0_2, .int .i64 a0_3] 82 ?_;intro gb421 hg w6 hbox hb;replace HO0_2:=yVe HO0_2 hg hb;have BK421:=zm (hbox);have GW421:=ygw hg;have GE421:=ygw hg;replace HB:=ybs hb;clear hb hbox hg)|((with_reducible refine gate_dst (N:=6) rfl ?_);refine ybx 6 #[.int .u64 0, .int .u32 0, .slice none 0 0, .int .i64 0] 82 ?_;intro gb422 hg w7 hbox hb;replace HO0_2:=yVe HO0_2 hg hb;have BK422:=zm (hbox);have GW422:=ygw hg;have GE422:=ygw hg;replace HB:=ybs hb;have NB421_422:=ynl BK421 hg;have NB422_421:=yng BK421 hg;replace BK421:=ybb BK421 hb;clear hb hbox hg;have hnb8:=NB421_422.out;have hnc8:=NB422_421.out;obtain ⟨_,_,_,_,_,_,_,_⟩:=yc4 BK421)|((with_reducible refine gate_callee (f:=53) rfl ?_);refine ygl 39 Try.func53 #[.agg #[.int .u64 a0_0, .int .u32 a0_1, .slice A0_2 l0_2.length c0_2, .int .i64 a0_3], .int .u64 45] ?_;(with_reducible refine (coder_TakeNum.calls k a0_0 a0_1 (fun k_=>(((P0_2_ k_∨w.heap.size≤k_)∧k_≠gb421)∧k_≠gb422)) _ _ l0_2 a0_3 45 t423 t424 t425 t428 t429 t430 _ HO0_2.out A5.out).mono ?_);rintro e w10 ⟨v426,rfl,ho0,hb⟩;refine ⟨_,rfl, ?_⟩;replace HO0_2:=yVb HO0_2 hb;have HO427:=zm (Kd.V_lower (zy (ok' := fun k_=>(P0_2_ k_∨w.heap.size≤k_)∧k_≠gb421∧k_≠gb422) ho0 (fun k_ hk_=>⟨Or.elim hk_ (fun hs_=>hs_.1.1) (fun hn_=>(.inr (Nat.le_trans (zE yhb) hn_))),Or.elim hk_ (fun hs_=>hs_.1.2) (fun hn_=>(Kd.freshB (yk BK421) k_ hn_)),Or.elim hk_ (fun hs_=>hs_.2) (fun hn_=>(Kd.freshB (yk BK422) k_ hn_))⟩)) (zE yhb));replace BK421:=ybb BK421 hb;replace BK422:=ybb BK422 hb;replace HB:=ybs hb;(try clear hb);(try clear hb2);(try clear hk);(try clear hi);(try clear ho0))|((with_reducible refine gate_dst (N:=10) rfl ?_);refine ybx 10 #[.int .u64 0, .int .u32 0, .slice none 0 0, .int .i64 0] 82 ?_;intro gb431 hg w11 hbox hb;replace HO0_2:=yVe HO0_2 hg hb;replace HO427:=yVe HO427 hg hb;have BK431:=zm (hbox);have GW431:=ygw hg;have GE431:=ygw hg;replace HB:=ybs hb;have NB421_431:=ynl BK421 hg;have NB431_421:=yng BK421 hg;replace BK421:=ybb BK421 hb;have NB422_431:=ynl BK422 hg;have NB431_422:=yng BK422 hg;replace BK422:=ybb BK422 hb;clear hb hbox hg;have hnb12:=NB431_421.out;have hnc12:=NB421_431.out;have hnb13:=NB431_422.out;have hnc13:=NB422_431.out;obtain ⟨_,_,_,_,_,_,_,_⟩:=yc4 BK431;obtain ⟨Ao15,co15,eo15⟩:=Kd.V_slice HO427.out;subst eo15;obtain ⟨_,_,_,_,_,_,_,_⟩:=yc4 BK422))
  refine bodyPost_ret (results_ct rfl _ _ gb422 82 #[.int .u64 t423, .int .u32 t424, .slice Ao15 t425.length co15, .int .i64 t428] (0,0) _ rfl (yk BK422) Try.underlying82 rfl (by kernel_rfl)) rfl ?_
  exact ⟨_,ye,by (with_reducible repeat (first|apply zA|apply zB|apply zC));exact zy (zI (p:=⟨gb422,3,none⟩) (zI (p:=⟨gb422,2,none⟩) (zI (p:=⟨gb422,1,none⟩) (zI (p:=⟨gb422,0,none⟩) (zI (p:=⟨gb431,3,none⟩) (zI (p:=⟨gb431,2,none⟩) (zI (p:=⟨gb431,1,none⟩) (zI (p:=⟨gb431,0,none⟩) (zy (zy HO427.out (fun k_ hk=>(⟨hk,hk.2⟩ : _∧k_≠gb431))) (fun k_ hk=>(⟨hk,hk.1.1.2.2⟩ : _∧k_≠gb422))) (fun _ hk=>hk.1.2) (.int .u64 t423)) (fun _ hk=>hk.1.2) (.int .u32 t424)) (fun _ hk=>hk.1.2) (.slice Ao15 t425.length co15)) (fun _ hk=>hk.1.2) (.int .i64 t428)) (fun _ hk=>hk.2) (.int .u64 t423)) (fun _ hk=>hk.2) (.int .u32 t424)) (fun _ hk=>hk.2) (.slice Ao15 t425.length co15)) (fun _ hk=>hk.2) (.int .i64 t428)) (fun _ hk=>hk.1.1.1.1),yhb⟩
 ·
  replace c4:=Bool.eq_false_iff.mpr c4
  subst c4
  rw [ynf] at H
  obtain ⟨⟨t432,t433⟩,A17,H⟩:=ybi H
  try dsimp only at H
  obtain ⟨⟨t434,t435,t436,t439,t440⟩,A18,H⟩:=ybi H
  try dsimp only at H
  by_cases c19 : t432=7
  ·
   rw [if_pos c19] at H
   have c19b0 : (t432 == 7)=true:=beq_iff_eq.mpr c19
   have c19b1 : (t432 != 7)=false:=bne_eq_false_iff_eq.mpr c19
   clear c19
   obtain ⟨⟨t441,t442,t443,t446,t447,t448⟩,A20,H⟩:=ybi H
   try dsimp only at H
   simp only [Option.some.injEq,Prod.mk.injEq] at H
   obtain ⟨rfl,rfl,rfl,rfl,rfl⟩:=H
   go_enter Try.func88,Try.ntmps88
   go_wp2_with (first|((with_reducible refine gate_dst (N:=3) rfl ?_);refine ybx 3 #[.int .u64 a0_0, .int .u32 a0_1, .slice A0_2 l0_2.length c0_2, .int .i64 a0_3] 82 ?_;intro gb421 hg w21 hbox hb;replace HO0_2:=yVe HO0_2 hg hb;have BK421:=zm (hbox);have GW421:=ygw hg;have GE421:=ygw hg;replace HB:=ybs hb;clear hb hbox hg)|((with_reducible refine gate_dst (N:=6) rfl ?_);refine ybx 6 #[.int .u64 0, .int .u32 0, .slice none 0 0, .int .i64 0] 82 ?_;intro gb422 hg w22 hbox hb;replace HO0_2:=yVe HO0_2 hg hb;have BK422:=zm (hbox);have GW422:=ygw hg;have GE422:=ygw hg;replace HB:=ybs hb;have NB421_422:=ynl BK421 hg;have NB422_421:=yng BK421 hg;replace BK421:=ybb BK421 hb;clear hb hbox hg;have hnb23:=NB421_422.out;have hnc23:=NB422_421.out;obtain ⟨_,_,_,_,_,_,_,_⟩:=yc4 BK421)|((with_reducible refine gate_callee (f:=50) rfl ?_);refine ygl 17 Try.func50 #[.agg #[.int .u64 a0_0, .int .u32 a0_1, .slice A0_2 l0_2.length c0_2, .int .i64 a0_3], .int .i64 8] ?_;(with_reducible refine (coder_Get.calls a0_0 a0_1 _ _ l0_2 a0_3 8 t432 t433 _ ?side1 ?side2 A17.out).mono ?_);(case side1=>exact yce (Kd.V_reads' HO0_2.out).2.2);(case side2=>exact (Kd.V_reads' HO0_2.out).2.1);rintro e w25 ⟨rfl,hb⟩;refine ⟨_,rfl, ?_⟩;replace HO0_2:=yVb HO0_2 hb;replace BK421:=ybb BK421 hb;replace BK422:=ybb BK422 hb;replace HB:=ybs hb;(try clear hb);(try clear hb2);(try clear hk);(try clear hi);obtain ⟨_,_,_,_,_,_,_,_⟩:=yc4 BK421)|((with_reducible refine gate_callee (f:=51) rfl ?_);refine ygl 25 Try.func51 #[.agg #[.int .u64 a0_0, .int .u32 a0_1, .slice A0_2 l0_2.length c0_2, .int .i64 a0_3], .int .i64 t432, .int .i64 (wrap64 (t432+1)), .int .i64 8] ?_;(with_reducible refine (coder_Take.calls k a0_0 a0_1 (fun k_=>(((P0_2_ k_∨w.heap.size≤k_)∧k_≠gb421)∧k_≠gb422)) _ _ l0_2 a0_3 t432 (wrap64 (t432+1)) 8 t434 t435 t436 t439 t440 _ HO0_2.out A18.out).mono ?_);rintro e w27 ⟨v437,rfl,ho0,hb⟩;refine ⟨_,rfl, ?_⟩;replace HO0_2:=yVb HO0_2 hb;have HO438:=zm (Kd.V_lower (zy (ok' := fun k_=>(P0_2_ k_∨w.heap.size≤k_)∧k_≠gb421∧k_≠gb422) ho0 (fun k_ hk_=>⟨Or.elim hk_ (fun hs_=>hs_.1.1) (fun hn_=>(.inr (Nat.le_trans (zE yhb) hn_))),Or.elim hk_ (fun hs_=>hs_.1.2) (fun hn_=>(Kd.freshB (yk BK421) k_ hn_)),Or.elim hk_ (fun hs_=>hs_.2) (fun hn_=>(Kd.freshB (yk BK422) k_ hn_))⟩)) (zE yhb));replace BK421:=ybb BK421 hb;replace BK422:=ybb BK422 hb;replace HB:=ybs hb;(try clear hb);(try clear hb2);(try clear hk);(try clear hi);(try clear ho0);obtain ⟨_,_,_,_,_,_,_,_⟩:=yc4 BK421;obtain ⟨Ao29,co29,eo29⟩:=Kd.V_slice HO438.out;subst eo29)|((with_reducible refine gate_store (t:=82) (p:=3) rfl ?_);refine store_event (t:=82) (p:=3) (v := ?vo_w30) (w1:=((((w27.setCell ⟨gb421,0,none⟩ (.int .u64 t434)).setCell ⟨gb421,1,none⟩ (.int .u32 t435)).setCell ⟨gb421,2,none⟩ (.slice Ao29 t436.length co29)).setCell ⟨gb421,3,none⟩ (.int .i64 t439))) ?hg ?ho ?hn ?hr ?_;(case ho=>rfl);(case hg=>rfl);(case hn=>rfl);(case hr=>first|(go_simp;done)|(go_simp;rfl));intro w30 hw;replace HO0_2 : Aside0 (Kd.V (Kd.int .u8) 5 w30 w.heap.size (fun k_=>(P0_2_ k_∨w.heap.size≤k_)∧k_≠gb421∧k_≠gb422) (.slice A0_2 l0_2.length c0_2) l0_2):=⟨(by rw [hw];exact (by (with_reducible repeat (first|apply zA|apply zB|apply zC));exact zy (zI (p:=⟨gb421,3,none⟩) (zI (p:=⟨gb421,2,none⟩) (zI (p:=⟨gb421,1,none⟩) (zI (p:=⟨gb421,0,none⟩) (zy HO0_2.out (fun k_ hk=>(⟨hk,hk.1.2⟩ : _∧k_≠gb421))) (fun _ hk=>hk.2) (.int .u64 t434)) (fun _ hk=>hk.2) (.int .u32 t435)) (fun _ hk=>hk.2) (.slice Ao29 t436.length co29)) (fun _ hk=>hk.2) (.int .i64 t439)) (fun _ hk=>⟨hk.1.1.1,⟨hk.1.1.2,hk.1.2⟩⟩)))⟩;replace HO438 : Aside0 (Kd.V (Kd.int .u8) 5 w30 w.heap.size (fun k_=>(P0_2_ k_∨w.heap.size≤k_)∧k_≠gb421∧k_≠gb422) (.slice Ao29 t436.length co29) t436):=⟨(by rw [hw];exact (by (with_reducible repeat (first|apply zA|apply zB|apply zC));exact zy (zI (p:=⟨gb421,3,none⟩) (zI (p:=⟨gb421,2,none⟩) (zI (p:=⟨gb421,1,none⟩) (zI (p:=⟨gb421,0,none⟩) (zy HO438.out (fun k_ hk=>(⟨hk,hk.2.1⟩ : _∧k_≠gb421))) (fun _ hk=>hk.2) (.int .u64 t434)) (fun _ hk=>hk.2) (.int .u32 t435)) (fun _ hk=>hk.2) (.slice Ao29 t436.length co29)) (fun _ hk=>hk.2) (.int .i64 t439)) (fun _ hk=>⟨hk.1.1,⟨hk.1.2.1,hk.1.2.2⟩⟩)))⟩;replace BK421 : Aside0 (w30.heap[gb421]? = some (.cells #[.int .u64 t434, .int .u32 t435, .slice Ao29 t436.length co29, .int .i64 t439] 82 (0,0))):=⟨(by rw [hw];exact (yk BK421))⟩;replace BK422 : Aside0 (w30.heap[gb422]? = some (.cells #[.int .u64 0, .int .u32 0, .slice none 0 0, .int .i64 0] 82 (0,0))):=⟨(by rw [hw];exact (yk BK422))⟩;replace HB : Aside0 (Below w.heap.size w w30):=⟨(by rw [hw];exact yhb)⟩;clear hw;obtain ⟨_,_,_,_,_,_,_,_⟩:=yc4 BK421)|((with_reducible refine gate_callee (f:=53) rfl ?_);refine ygl 39 Try.func53 #[.agg #[.int .u64 t434, .int .u32 t435, .slice Ao29 t436.length co29, .int .i64 t439], .int .u64 45] ?_;(with_reducible refine (coder_TakeNum.calls k t434 t435 (fun k_=>((P0_2_ k_∨w.heap.size≤k_)∧(k_≠gb421∧k_≠gb422))) _ _ t436 t439 45 t441 t442 t443 t446 t447 t448 _ HO438.out A20.out).mono ?_);rintro e w32 ⟨v444,rfl,ho0,hb⟩;refine ⟨_,rfl, ?_⟩;replace HO0_2:=yVb HO0_2 hb;replace HO438:=yVb HO438 hb;have HO445:=zm (Kd.V_lower (zy (ok' := fun k_=>(P0_2_ k_∨w.heap.size≤k_)∧k_≠gb421∧k_≠gb422) ho0 (fun k_ hk_=>⟨Or.elim hk_ (fun hs_=>hs_.1) (fun hn_=>(.inr (Nat.le_trans (zE yhb) hn_))),Or.elim hk_ (fun hs_=>hs_.2.1) (fun hn_=>(Kd.freshB (yk BK421) k_ hn_)),Or.elim hk_ (fun hs_=>hs_.2.2) (fun hn_=>(Kd.freshB (yk BK422) k_ hn_))⟩)) (zE yhb));replace BK421:=ybb BK421 hb;replace BK422:=ybb BK422 hb;replace HB:=ybs hb;(try clear hb);(try clear hb2);(try clear hk);(try clear hi);(try clear ho0))|((with_reducible refine gate_dst (N:=10) rfl ?_);refine ybx 10 #[.int .u64 0, .int .u32 0, .slice none 0 0, .int .i64 0] 82 ?_;intro gb449 hg w33 hbox hb;replace HO0_2:=yVe HO0_2 hg hb;replace HO438:=yVe HO438 hg hb;replace HO445:=yVe HO445 hg hb;have BK449:=zm (hbox);have GW449:=ygw hg;have GE449:=ygw hg;replace HB:=ybs hb;have NB421_449:=ynl BK421 hg;have NB449_421:=yng BK421 hg;replace BK421:=ybb BK421 hb;have NB422_449:=ynl BK422 hg;have NB449_422:=yng BK422 hg;replace BK422:=ybb BK422 hb;clear hb hbox hg;have hnb34:=NB449_421.out;have hnc34:=NB421_449.out;have hnb35:=NB449_422.out;have hnc35:=NB422_449.out;obtain ⟨_,_,_,_,_,_,_,_⟩:=yc4 BK449;obtain ⟨Ao37,co37,eo37⟩:=Kd.V_slice HO445.out;subst eo37;obtain ⟨_,_,_,_,_,_,_,_⟩:=yc4 BK422))
   refine bodyPost_ret (results_ct rfl _ _ gb422 82 #[.int .u64 t441, .int .u32 t442, .slice Ao37 t443.length co37, .int .i64 t446] (0,0) _ rfl (yk BK422) Try.underlying82 rfl (by kernel_rfl)) rfl ?_
   exact ⟨_,ye,by (with_reducible repeat (first|apply zA|apply zB|apply zC));exact zy (zI (p:=⟨gb422,3,none⟩) (zI (p:=⟨gb422,2,none⟩) (zI (p:=⟨gb422,1,none⟩) (zI (p:=⟨gb422,0,none⟩) (zI (p:=⟨gb449,3,none⟩) (zI (p:=⟨gb449,2,none⟩) (zI (p:=⟨gb449,1,none⟩) (zI (p:=⟨gb449,0,none⟩) (zy (zy HO445.out (fun k_ hk=>(⟨hk,hk.2⟩ : _∧k_≠gb449))) (fun k_ hk=>(⟨hk,hk.1.1.2.2⟩ : _∧k_≠gb422))) (fun _ hk=>hk.1.2) (.int .u64 t441)) (fun _ hk=>hk.1.2) (.int .u32 t442)) (fun _ hk=>hk.1.2) (.slice Ao37 t443.length co37)) (fun _ hk=>hk.1.2) (.int .i64 t446)) (fun _ hk=>hk.2) (.int .u64 t441)) (fun _ hk=>hk.2) (.int .u32 t442)) (fun _ hk=>hk.2) (.slice Ao37 t443.length co37)) (fun _ hk=>hk.2) (.int .i64 t446)) (fun _ hk=>hk.1.1.1.1),yhb⟩
  ·
   rw [if_neg c19] at H
   have c19b0 : (t432 == 7)=false:=beq_eq_false_iff_ne.mpr c19
   have c19b1 : (t432 != 7)=true:=bne_iff_ne.mpr c19
   obtain ⟨ji39,hji39⟩ : ∃ j_ : Int,(mn (wrap64 ((wrap64 (a1+t432)) - 3)) 44)=j_:=⟨_,rfl⟩
   replace H : (some (t434,t435,t436,t439,mx 0 (ji39)))=some (r1,r2,r3,r4,r5):=by first|(rw [hji39] at H;exact H)|(simp only [hji39] at H ⊢; exact H)
   (try rw [hji39] at A17)
   (try rw [hji39] at A18)
   (try (have hji39h : ji39≤44:=by (rw [← hji39];unfold mn;(repeat' split) <;> omega)))
   (try (have hji39g : ji39≤64:=by omega))
   have hji39_ : (if 44 < (wrap64 ((wrap64 (a1+t432)) - 3)) then 44 else (wrap64 ((wrap64 (a1+t432)) - 3)))=ji39:=hji39
   obtain ⟨ji40,hji40⟩ : ∃ j_ : Int,(mx 0 (ji39))=j_:=⟨_,rfl⟩
   replace H : (some (t434,t435,t436,t439,ji40))=some (r1,r2,r3,r4,r5):=by first|(rw [hji40] at H;exact H)|(simp only [hji40] at H ⊢; exact H)
   (try rw [hji40] at A17)
   (try rw [hji40] at A18)
   have hji40_ : (if 0 < (ji39) then (ji39) else 0)=ji40:=hji40
   simp only [Option.some.injEq,Prod.mk.injEq] at H
   obtain ⟨rfl,rfl,rfl,rfl,rfl⟩:=H
   go_enter Try.func88,Try.ntmps88
   go_wp2_with (first|((with_reducible refine gate_dst (N:=3) rfl ?_);refine ybx 3 #[.int .u64 a0_0, .int .u32 a0_1, .slice A0_2 l0_2.length c0_2, .int .i64 a0_3] 82 ?_;intro gb421 hg w41 hbox hb;replace HO0_2:=yVe HO0_2 hg hb;have BK421:=zm (hbox);have GW421:=ygw hg;have GE421:=ygw hg;replace HB:=ybs hb;clear hb hbox hg)|((with_reducible refine gate_dst (N:=6) rfl ?_);refine ybx 6 #[.int .u64 0, .int .u32 0, .slice none 0 0, .int .i64 0] 82 ?_;intro gb422 hg w42 hbox hb;replace HO0_2:=yVe HO0_2 hg hb;have BK422:=zm (hbox);have GW422:=ygw hg;have GE422:=ygw hg;replace HB:=ybs hb;have NB421_422:=ynl BK421 hg;have NB422_421:=yng BK421 hg;replace BK421:=ybb BK421 hb;clear hb hbox hg;have hnb43:=NB421_422.out;have hnc43:=NB422_421.out;obtain ⟨_,_,_,_,_,_,_,_⟩:=yc4 BK421)|((with_reducible refine gate_callee (f:=50) rfl ?_);refine ygl 17 Try.func50 #[.agg #[.int .u64 a0_0, .int .u32 a0_1, .slice A0_2 l0_2.length c0_2, .int .i64 a0_3], .int .i64 8] ?_;(with_reducible refine (coder_Get.calls a0_0 a0_1 _ _ l0_2 a0_3 8 t432 t433 _ ?side1 ?side2 A17.out).mono ?_);(case side1=>exact yce (Kd.V_reads' HO0_2.out).2.2);(case side2=>exact (Kd.V_reads' HO0_2.out).2.1);rintro e w45 ⟨rfl,hb⟩;refine ⟨_,rfl, ?_⟩;replace HO0_2:=yVb HO0_2 hb;replace BK421:=ybb BK421 hb;replace BK422:=ybb BK422 hb;replace HB:=ybs hb;(try clear hb);(try clear hb2);(try clear hk);(try clear hi);obtain ⟨_,_,_,_,_,_,_,_⟩:=yc4 BK421)|((with_reducible refine gate_callee (f:=51) rfl ?_);refine ygl 25 Try.func51 #[.agg #[.int .u64 a0_0, .int .u32 a0_1, .slice A0_2 l0_2.length c0_2, .int .i64 a0_3], .int .i64 t432, .int .i64 (wrap64 (t432+1)), .int .i64 8] ?_;(with_reducible refine (coder_Take.calls k a0_0 a0_1 (fun k_=>(((P0_2_ k_∨w.heap.size≤k_)∧k_≠gb421)∧k_≠gb422)) _ _ l0_2 a0_3 t432 (wrap64 (t432+1)) 8 t434 t435 t436 t439 t440 _ HO0_2.out A18.out).mono ?_);rintro e w47 ⟨v437,rfl,ho0,hb⟩;refine ⟨_,rfl, ?_⟩;replace HO0_2:=yVb HO0_2 hb;have HO438:=zm (Kd.V_lower (zy (ok' := fun k_=>(P0_2_ k_∨w.heap.size≤k_)∧k_≠gb421∧k_≠gb422) ho0 (fun k_ hk_=>⟨Or.elim hk_ (fun hs_=>hs_.1.1) (fun hn_=>(.inr (Nat.le_trans (zE yhb) hn_))),Or.elim hk_ (fun hs_=>hs_.1.2) (fun hn_=>(Kd.freshB (yk BK421) k_ hn_)),Or.elim hk_ (fun hs_=>hs_.2) (fun hn_=>(Kd.freshB (yk BK422) k_ hn_))⟩)) (zE yhb));replace BK421:=ybb BK421 hb;replace BK422:=ybb BK422 hb;replace HB:=ybs hb;(try clear hb);(try clear hb2);(try clear hk);(try clear hi);(try clear ho0);obtain ⟨_,_,_,_,_,_,_,_⟩:=yc4 BK421;obtain ⟨Ao49,co49,eo49⟩:=Kd.V_slice HO438.out;subst eo49;obtain ⟨_,_,_,_,_,_,_,_⟩:=yc4 BK422))
   refine bodyPost_ret (results_ct rfl _ _ gb422 82 #[.int .u64 t434, .int .u32 t435, .slice Ao49 t436.length co49, .int .i64 t439] (0,0) _ rfl (yk BK422) Try.underlying82 rfl (by kernel_rfl)) rfl ?_
   exact ⟨_,by first|rfl|(simp [errW_none,errW_some] <;> rfl)|(simp only [← hji39, ← hji40];first|rfl|(simp [errW_none,errW_some] <;> rfl))|(simp [*,errW_none,errW_some] <;> rfl),by (with_reducible repeat (first|apply zA|apply zB|apply zC));exact zy (zI (p:=⟨gb422,3,none⟩) (zI (p:=⟨gb422,2,none⟩) (zI (p:=⟨gb422,1,none⟩) (zI (p:=⟨gb422,0,none⟩) (zI (p:=⟨gb421,3,none⟩) (zI (p:=⟨gb421,2,none⟩) (zI (p:=⟨gb421,1,none⟩) (zI (p:=⟨gb421,0,none⟩) (zy (zy HO438.out (fun k_ hk=>(⟨hk,hk.2.1⟩ : _∧k_≠gb421))) (fun k_ hk=>(⟨hk,hk.1.2.2⟩ : _∧k_≠gb422))) (fun _ hk=>hk.1.2) (.int .u64 t434)) (fun _ hk=>hk.1.2) (.int .u32 t435)) (fun _ hk=>hk.1.2) (.slice Ao49 t436.length co49)) (fun _ hk=>hk.1.2) (.int .i64 t439)) (fun _ hk=>hk.2) (.int .u64 t434)) (fun _ hk=>hk.2) (.int .u32 t435)) (fun _ hk=>hk.2) (.slice Ao49 t436.length co49)) (fun _ hk=>hk.2) (.int .i64 t439)) (fun _ hk=>hk.1.1.1),yhb⟩

end Go.Proofs.Ytnmbndkojpjkmaa.Prt

namespace Go.Proofs.Ytnmbndkojpjkmaa.Prt
open Go.RowKit Go.Proofs.YtnmbndkojpjkmaaW.PrintWords Go.Proofs.YtnmbndkojpjkmaaW.PrintLast Go.Proofs.YtnmbndkojpjkmaaW.PrintMore
attribute [local go_sem] max2_int min2_int max_two min_two max_three min_three max_four min_four   -- for this text's walks alone
set_option linter.unusedVariables false
set_option linter.unusedSimpArgs false

/-! ### gain_Take: function 52 -/
mutual
def gain_Take.j0 : Nat→List Int→Bool→Bool→Int→Int→List Int→Int→Option (Int × Int × List Int × Int × List Int × Int)
 | 0,_,_,_,_,_,_,_=>none
 | k+1,x1,x2,x20,x451000,x451001,x451002,x451003=>if x20=true then ((coder_Take.f k x451000 x451001 x451002 x451003 0 1 1).bind fun bt453=>(some (bt453.1,bt453.2.1,bt453.2.2.1,bt453.2.2.2.1,([] : List Int),1))) else (gain_Take.l0 k x1 x2 ([] : List Int) 0 x451000 x451001 x451002 x451003)
def gain_Take.l0 : Nat→List Int→Bool→List Int→Int→Int→Int→List Int→Int→Option (Int × Int × List Int × Int × List Int × Int)
 | 0,_,_,_,_,_,_,_,_=>none
 | k+1,x1,x2,x9,x27,x451000,x451001,x451002,x451003=>if x27 < 5 then (if x2=true then ((gain_take.f k x451000 x451001 x451002 x451003 0 x2).bind fun bt460=>(if x9.length < 17592186044416 then (gain_Take.l0 k x1 x2 (x9 ++ [bt460.2.2.2.2]) (wrap64 (x27+1)) bt460.1 bt460.2.1 bt460.2.2.1 bt460.2.2.2.1) else (none))) else (if 0≤x27 then (if x27 < (x1.length : Int) then ((gain_take.f k x451000 x451001 x451002 x451003 (rd x1 x27) x2).bind fun bt472=>(if x9.length < 17592186044416 then (gain_Take.l0 k x1 x2 (x9 ++ [bt472.2.2.2.2]) (wrap64 (x27+1)) bt472.1 bt472.2.1 bt472.2.2.1 bt472.2.2.2.1) else (none))) else (none)) else (none))) else (some (x451000,x451001,x451002,x451003,x9,0))
end
def gain_Take.f (k : Nat) (a0_0 : Int) (a0_1 : Int) (l0_2 : List Int) (a0_3 : Int) (l1 : List Int) (a2 : Bool) : Option (Int × Int × List Int × Int × List Int × Int):=if a2=true then (gain_Take.j0 k l1 a2 false a0_0 a0_1 l0_2 a0_3) else ((gain_Right.f k l1).bind fun t452=>(gain_Take.j0 k l1 a2 (!t452) a0_0 a0_1 l0_2 a0_3))
theorem gain_Take.mono_l : ∀ k,(∀ y0 y1 y2 y3 y4 y5 y6,LeO (gain_Take.j0 k y0 y1 y2 y3 y4 y5 y6) (gain_Take.j0 (k+1) y0 y1 y2 y3 y4 y5 y6))∧(∀ y0 y1 y2 y3 y4 y5 y6 y7,LeO (gain_Take.l0 k y0 y1 y2 y3 y4 y5 y6 y7) (gain_Take.l0 (k+1) y0 y1 y2 y3 y4 y5 y6 y7))
 | 0=>⟨fun _ _ _ _ _ _ _ r h=>by simp [gain_Take.j0] at h,fun _ _ _ _ _ _ _ _ r h=>by simp [gain_Take.l0] at h⟩
 | k+1=>by
  obtain ⟨ih0,ih1⟩:=gain_Take.mono_l k
  refine ⟨?_, ?_⟩
  ·
   intro y0 y1 y2 y3 y4 y5 y6
   unfold gain_Take.j0
   repeat' first
   | (with_reducible exact ih0 _ _ _ _ _ _ _)
   | (with_reducible exact ih1 _ _ _ _ _ _ _ _)
   | (with_reducible exact coder_Take.mono _ _ _ _ _ _ _ _)
   | (with_reducible exact gain_Right.mono _ _)
   | (with_reducible exact gain_take.mono _ _ _ _ _ _ _)
   | (with_reducible exact LeO.refl _)
   | (with_reducible exact LeO.none _)
   | (with_reducible refine LeO.ite ?_ ?_)
   | (with_reducible refine LeO.bind ?_ (fun _ => ?_))
   | exact ih0 _ _ _ _ _ _ _
   | exact ih1 _ _ _ _ _ _ _ _
   | exact coder_Take.mono _ _ _ _ _ _ _ _
   | exact gain_Right.mono _ _
   | exact gain_take.mono _ _ _ _ _ _ _
   | exact LeO.none _
   | refine LeO.ite ?_ ?_
   | refine LeO.bind ?_ (fun _ => ?_)
  ·
   intro y0 y1 y2 y3 y4 y5 y6 y7
   unfold gain_Take.l0
   repeat' first
   | (with_reducible exact ih0 _ _ _ _ _ _ _)
   | (with_reducible exact ih1 _ _ _ _ _ _ _ _)
   | (with_reducible exact coder_Take.mono _ _ _ _ _ _ _ _)
   | (with_reducible exact gain_Right.mono _ _)
   | (with_reducible exact gain_take.mono _ _ _ _ _ _ _)
   | (with_reducible exact LeO.refl _)
   | (with_reducible exact LeO.none _)
   | (with_reducible refine LeO.ite ?_ ?_)
   | (with_reducible refine LeO.bind ?_ (fun _ => ?_))
   | exact ih0 _ _ _ _ _ _ _
   | exact ih1 _ _ _ _ _ _ _ _
   | exact coder_Take.mono _ _ _ _ _ _ _ _
   | exact gain_Right.mono _ _
   | exact gain_take.mono _ _ _ _ _ _ _
   | exact LeO.none _
   | refine LeO.ite ?_ ?_
   | refine LeO.bind ?_ (fun _ => ?_)
theorem gain_Take.mono : ∀ a0 a1 a2 a3 a4 a5 k,LeO (gain_Take.f k a0 a1 a2 a3 a4 a5) (gain_Take.f (k+1) a0 a1 a2 a3 a4 a5):=by
 intro a0 a1 a2 a3 a4 a5 k
 obtain ⟨ih0,ih1⟩:=gain_Take.mono_l k
 unfold gain_Take.f
 repeat' first
   | (with_reducible exact ih0 _ _ _ _ _ _ _)
   | (with_reducible exact ih1 _ _ _ _ _ _ _ _)
   | (with_reducible exact coder_Take.mono _ _ _ _ _ _ _ _)
   | (with_reducible exact gain_Right.mono _ _)
   | (with_reducible exact gain_take.mono _ _ _ _ _ _ _)
   | (with_reducible exact LeO.refl _)
   | (with_reducible exact LeO.none _)
   | (with_reducible refine LeO.ite ?_ ?_)
   | (with_reducible refine LeO.bind ?_ (fun _ => ?_))
   | exact ih0 _ _ _ _ _ _ _
   | exact ih1 _ _ _ _ _ _ _ _
   | exact coder_Take.mono _ _ _ _ _ _ _ _
   | exact gain_Right.mono _ _
   | exact gain_take.mono _ _ _ _ _ _ _
   | exact LeO.none _
   | refine LeO.ite ?_ ?_
   | refine LeO.bind ?_ (fun _ => ?_)
set_option maxHeartbeats 8000000 in
set_option maxRecDepth 100000 in
theorem gain_Take.calls (k : Nat) (a0_0 : Int) (a0_1 : Int) (P0_2_ : Nat→Prop) (A0_2 : Option Addr) (c0_2 : Nat) (l0_2 : List Int) (a0_3 : Int) (A1 : Option Addr) (c1 : Nat) (l1 : List Int) (a2 : Bool) (r1 : Int) (r2 : Int) (r3 : List Int) (r4 : Int) (r5 : List Int) (r6 : Int) (w : World) (hs0_2 : Kd.V (Kd.int .u8) 5 w w.heap.size (fun k_=>P0_2_ k_) (.slice A0_2 l0_2.length c0_2) l0_2) (hr1 : Kd.C (Kd.int .i64) w A1 l1.length l1) (hc1 : l1.length≤c1) (h : gain_Take.f k a0_0 a0_1 l0_2 a0_3 l1 a2=some (r1,r2,r3,r4,r5,r6)) :
  Calls Try.prog 52 #[.agg #[.int .u64 a0_0, .int .u32 a0_1, .slice A0_2 l0_2.length c0_2, .int .i64 a0_3], .slice A1 l1.length c1, .bool a2] w fun e w' => ∃ v2_ v4_ : Value,e=.returned (.tuple #[.agg #[.int .u64 r1, .int .u32 r2,v2_, .int .i64 r4],v4_, .int .i64 r6])∧Kd.V (Kd.int .u8) 5 w' w.heap.size (fun k_=>(P0_2_ k_∨w.heap.size≤k_)∧some k_≠(v4_ : Value).ownBlock) v2_ r3∧Kd.R (Kd.int .i64) 3 w' w.heap.size (fun k_=>(w.heap.size≤k_)) v4_ r5∧Below w.heap.size w w' := by
 have hu82:=Try.underlying82
 have HO0_2:=zm (show Kd.V (Kd.int .u8) 5 w w.heap.size (fun k_=>(P0_2_ k_∨w.heap.size≤k_)) (.slice A0_2 l0_2.length c0_2) l0_2 from zy hs0_2 (fun k_ hk => .inl hk))
 have HR1:=zm hr1;have HC1:=zm hc1;clear hr1 hc1;have HB:=zm (Below.refl w.heap.size w)
 have H : (if a2=true then (gain_Take.j0 k l1 a2 false a0_0 a0_1 l0_2 a0_3) else ((gain_Right.f k l1).bind fun t452=>(gain_Take.j0 k l1 a2 (!t452) a0_0 a0_1 l0_2 a0_3)))=some (r1,r2,r3,r4,r5,r6):=h
 clear h;have HC4:=zm H;clear H
 go_enter Try.func52,Try.ntmps52
 go_upto_region 1 with (first|((with_reducible refine gate_dst (N:=3) rfl ?_);refine ybx 3 #[.int .u64 a0_0, .int .u32 a0_1, .slice A0_2 l0_2.length c0_2, .int .i64 a0_3] 82 ?_;intro gb450 hg w5 hbox hb;replace HO0_2:=yVe HO0_2 hg hb;have BK450:=zm (hbox);have GW450:=ygw hg;have GE450:=ygw hg;replace HB:=ybs hb;clear hb hbox hg)|((with_reducible refine gate_dst (N:=6) rfl ?_);refine ybx 6 #[.int .u64 0, .int .u32 0, .slice none 0 0, .int .i64 0] 82 ?_;intro gb451 hg w6 hbox hb;replace HO0_2:=yVe HO0_2 hg hb;have BK451:=zm (hbox);have GW451:=ygw hg;have GE451:=ygw hg;replace HB:=ybs hb;have NB450_451:=ynl BK450 hg;have NB451_450:=yng BK450 hg;replace BK450:=ybb BK450 hb;clear hb hbox hg))
 (try simp only [Act.put,List.setIfInBounds_toArray,List.set_cons_zero,List.set_cons_succ])
 go_cut [20] (fun v20 wc => ∃ (kq : Nat) (x20_3 : Bool),v20=.bool x20_3∧Aside0 (gain_Take.j0 kq l1 a2 x20_3 a0_0 a0_1 l0_2 a0_3=some (r1,r2,r3,r4,r5,r6))∧Aside0 (kq≤k)∧Aside0 (Kd.V (Kd.int .u8) 5 wc w.heap.size (fun k_=>(P0_2_ k_∨w.heap.size≤k_)∧k_≠gb450∧k_≠gb451) (.slice A0_2 l0_2.length c0_2) l0_2)∧Aside0 (wc.heap[gb450]? = some (.cells #[.int .u64 a0_0, .int .u32 a0_1,(.slice A0_2 l0_2.length c0_2), .int .i64 a0_3] 82 (0,0)))∧Aside0 (wc.heap[gb451]? = some (.cells #[.int .u64 0, .int .u32 0,(.slice none 0 0), .int .i64 0] 82 (0,0)))∧Aside0 (Below w.heap.size w wc))
 case first =>
  have H:=HC4.out;clear HC4
  by_cases c7 : a2=true
  ·
   subst c7
   rw [if_pos rfl] at H
   have H' := zm H
   clear H
   go_wp2
   go_meet
   case rel=>exact ⟨_,(false),yq,H',⟨yo⟩,⟨by (with_reducible repeat (first|apply zA|apply zB|apply zC));exact zy HO0_2.out (fun _ hk=>⟨hk.1.1,⟨hk.1.2,hk.2⟩⟩)⟩,⟨yk BK450⟩,⟨yk BK451⟩,⟨yhb⟩⟩
  ·
   replace c7:=Bool.eq_false_iff.mpr c7
   subst c7
   rw [ynf] at H
   obtain ⟨t452,A8,H⟩:=ybi H
   have H' := zm H
   clear H
   go_wp2_with (first|(go_at_call 62;(with_reducible refine (gain_Right.calls k _ _ l1 t452 _ ?side1 HC1.out A8.out).mono ?_);(case side1=>exact ycb HR1);rintro e w' ⟨rfl,⟨nd,rfl⟩⟩))
   go_meet
   case rel=>exact ⟨_,(!t452),yq,H',⟨yo⟩,⟨by (with_reducible repeat (first|apply zA|apply zB|apply zC));exact zy HO0_2.out (fun _ hk=>⟨hk.1.1,⟨hk.1.2,hk.2⟩⟩)⟩,⟨yk BK450⟩,⟨yk BK451⟩,⟨yhb⟩⟩
 case rest =>
  clear HC4
  try clear c1
  obtain ⟨kq,x20_3,rfl,HA,HJ3,HO_451002,BK450,BK451,HB⟩:=hcut
  cases kq with
  | zero=>exact absurd HA.out (by simp [gain_Take.j0])
  | succ kj3 =>
   have H:=HA.out;clear HA
   simp only [gain_Take.j0] at H
   by_cases c9 : x20_3=true
   ·
    subst c9
    rw [if_pos rfl] at H
    obtain ⟨⟨t453,t454,t455,t458,t459⟩,A10,H⟩:=ybi H
    try dsimp only at H
    simp only [Option.some.injEq,Prod.mk.injEq] at H
    obtain ⟨rfl,rfl,rfl,rfl,rfl,rfl⟩:=H
    have hnb11:=NB450_451.out;have hnc11:=NB451_450.out
    obtain ⟨hcz12_0,hcz12_1,hcz12_2,hcz12_3,hfz12_0,hfz12_1,hfz12_2,hfz12_3⟩:=yc4 BK450
    go_wp2_with (first|((with_reducible refine gate_callee (f:=51) rfl ?_);refine ygl 23 Try.func51 #[.agg #[.int .u64 a0_0, .int .u32 a0_1, .slice A0_2 l0_2.length c0_2, .int .i64 a0_3], .int .i64 0, .int .i64 1, .int .i64 1] ?_;(with_reducible refine (coder_Take.calls kj3 a0_0 a0_1 (fun k_=>((P0_2_ k_∨w.heap.size≤k_)∧(k_≠gb450∧k_≠gb451))) _ _ l0_2 a0_3 0 1 1 t453 t454 t455 t458 t459 _ HO_451002.out A10.out).mono ?_);rintro e w13 ⟨v456,rfl,ho0,hb⟩;refine ⟨_,rfl, ?_⟩;replace HO_451002:=yVb HO_451002 hb;have HO457:=zm (Kd.V_lower (zy (ok' := fun k_=>(P0_2_ k_∨w.heap.size≤k_)∧k_≠gb450∧k_≠gb451) ho0 (fun k_ hk_=>⟨Or.elim hk_ (fun hs_=>hs_.1) (fun hn_=>(.inr (Nat.le_trans (zE yhb) hn_))),Or.elim hk_ (fun hs_=>hs_.2.1) (fun hn_=>(Kd.freshB (yk BK450) k_ hn_)),Or.elim hk_ (fun hs_=>hs_.2.2) (fun hn_=>(Kd.freshB (yk BK451) k_ hn_))⟩)) (zE yhb));replace BK450:=ybb BK450 hb;replace BK451:=ybb BK451 hb;replace HB:=ybs hb;(try clear hb);(try clear hb2);(try clear hk);(try clear hi);(try clear ho0);obtain ⟨hcz14_0,hcz14_1,hcz14_2,hcz14_3,hfz14_0,hfz14_1,hfz14_2,hfz14_3⟩:=yc4 BK450;obtain ⟨Ao15,co15,eo15⟩:=Kd.V_slice HO457.out;subst eo15;obtain ⟨hcz16_0,hcz16_1,hcz16_2,hcz16_3,hfz16_0,hfz16_1,hfz16_2,hfz16_3⟩:=yc4 BK451))
    refine bodyPost_ret (results_ctt rfl _ _ gb451 82 #[.int .u64 t453, .int .u32 t454, .slice Ao15 t455.length co15, .int .i64 t458] (0,0) _ rfl (yk BK451) Try.underlying82 rfl (by kernel_rfl)) rfl ?_
    exact ⟨_,_,ye,by (with_reducible repeat (first|apply zA|apply zB|apply zC));exact zy (zI (p:=⟨gb451,3,none⟩) (zI (p:=⟨gb451,2,none⟩) (zI (p:=⟨gb451,1,none⟩) (zI (p:=⟨gb451,0,none⟩) (zI (p:=⟨gb450,3,none⟩) (zI (p:=⟨gb450,2,none⟩) (zI (p:=⟨gb450,1,none⟩) (zI (p:=⟨gb450,0,none⟩) (zy (zy HO457.out (fun k_ hk=>(⟨hk,hk.2.1⟩ : _∧k_≠gb450))) (fun k_ hk=>(⟨hk,hk.1.2.2⟩ : _∧k_≠gb451))) (fun _ hk=>hk.1.2) (.int .u64 t453)) (fun _ hk=>hk.1.2) (.int .u32 t454)) (fun _ hk=>hk.1.2) (.slice Ao15 t455.length co15)) (fun _ hk=>hk.1.2) (.int .i64 t458)) (fun _ hk=>hk.2) (.int .u64 t453)) (fun _ hk=>hk.2) (.int .u32 t454)) (fun _ hk=>hk.2) (.slice Ao15 t455.length co15)) (fun _ hk=>hk.2) (.int .i64 t458)) (fun _ hk=>⟨hk.1.1.1,(by simp [Value.ownBlock])⟩),yn,yhb⟩
   ·
    replace c9:=Bool.eq_false_iff.mpr c9
    subst c9
    rw [ynf] at H
    have H' := zm H
    clear H
    go_wp2
    go_loopg [9,27] kj3 (fun kq v9 v27 w' => ∃ (x9_2 : List Int) (x27_2 : Int) (x451000_2 : Int) (x451001_2 : Int) (x451002_2 : List Int) (x451003_2 : Int) (u451002 : Value),v27=.int .i64 x27_2∧Aside0 (gain_Take.l0 kq l1 a2 x9_2 x27_2 x451000_2 x451001_2 x451002_2 x451003_2=some (r1,r2,r3,r4,r5,r6))∧Aside0 (kq≤kj3)∧Aside0 (Kd.R (Kd.int .i64) 3 w' w.heap.size (fun k_=>(w.heap.size≤k_)) v9 x9_2)∧Aside0 (Kd.V (Kd.int .u8) 5 w' w.heap.size (fun k_=>(P0_2_ k_∨w.heap.size≤k_)∧some k_≠(v9 : Value).ownBlock∧k_≠gb450∧k_≠gb451) u451002 x451002_2)∧Aside0 (w'.heap[gb450]? = some (.cells #[.int .u64 x451000_2, .int .u32 x451001_2,u451002, .int .i64 x451003_2] 82 (0,0)))∧Aside0 (w'.heap[gb451]? = some (.cells #[.int .u64 0, .int .u32 0,(.slice none 0 0), .int .i64 0] 82 (0,0)))∧Aside0 (Below w.heap.size w w'))
    case atStart=>exact ⟨(([] : List Int)),(0),(a0_0),(a0_1),(l0_2),(a0_3),(.slice A0_2 l0_2.length c0_2),yq,H',⟨Nat.le_refl _⟩,⟨yn⟩,⟨by (with_reducible repeat (first|apply zA|apply zB|apply zC));exact zy HO_451002.out (fun _ hk=>⟨hk.1,⟨(by simp [Value.ownBlock]),⟨hk.2.1,hk.2.2⟩⟩⟩)⟩,⟨yk BK450⟩,⟨yk BK451⟩,⟨yhb⟩⟩
    case round =>
     clear H'
     try clear c1
     try clear c9
     try clear hcz12_0
     try clear hcz12_1
     try clear hcz12_2
     try clear hcz12_3
     try clear hcz14_0
     try clear hcz14_1
     try clear hcz14_2
     try clear hcz14_3
     try clear hcz16_0
     try clear hcz16_1
     try clear hcz16_2
     try clear hcz16_3
     try clear hfz12_0
     try clear hfz12_1
     try clear hfz12_2
     try clear hfz12_3
     try clear hfz14_0
     try clear hfz14_1
     try clear hfz14_2
     try clear hfz14_3
     try clear hfz16_0
     try clear hfz16_1
     try clear hfz16_2
     try clear hfz16_3
     obtain ⟨x9_2,x27_2,x451000_2,x451001_2,x451002_2,x451003_2,u451002,rfl,HA,HK2,HO_9,HO_451002,BK450,BK451,HB⟩:=hrel
     cases gk with
     | zero=>exact absurd HA.out (by simp [gain_Take.l0])
     | succ k2 =>
      have H:=HA.out;clear HA
      simp only [gain_Take.l0] at H
      by_cases c17 : x27_2 < 5
      ·
       rw [if_pos c17] at H
       have c17b0 : decide (x27_2 < 5)=true:=decide_eq_true c17
       clear c17
       by_cases c18 : a2=true
       ·
        subst c18
        rw [if_pos rfl] at H
        obtain ⟨⟨t460,t461,t462,t465,t466⟩,A19,H⟩:=ybi H
        try dsimp only at H
        by_cases c20 : x9_2.length < 17592186044416
        ·
         rw [if_pos c20] at H
         have LMc20:=zm c20;clear c20
         obtain ⟨y468,hy468⟩ : ∃ y_ : List Int,y_=(x9_2 ++ [t466]):=⟨_,rfl⟩
         replace H : (gain_Take.l0 k2 l1 true y468 (wrap64 (x27_2+1)) t460 t461 t462 t465)=some (r1,r2,r3,r4,r5,r6):=yrw hy468 H
         have Ny468:=zm hy468;clear hy468
         have H' := zm H
         clear H;have hnb21:=NB450_451.out;have hnc21:=NB451_450.out
         obtain ⟨_,_,_,_,_,_,_,_⟩:=yc4 BK450
         obtain ⟨Ao23,co23,eo23⟩:=Kd.V_slice HO_451002.out
         subst eo23
         try go_wp2_with (first|((with_reducible refine gate_callee (f:=88) rfl ?_);refine ygl 40 Try.func88 #[.agg #[.int .u64 x451000_2, .int .u32 x451001_2, .slice Ao23 x451002_2.length co23, .int .i64 x451003_2], .int .i64 0, .bool true] ?_;(with_reducible refine (gain_take.calls k2 x451000_2 x451001_2 (fun k_=>((P0_2_ k_∨w.heap.size≤k_)∧(some k_≠(u9 : Value).ownBlock∧(k_≠gb450∧k_≠gb451)))) _ _ x451002_2 x451003_2 0 true t460 t461 t462 t465 t466 _ HO_451002.out A19.out).mono ?_);rintro e w24 ⟨v463,rfl,ho0,hb⟩;refine ⟨_,rfl, ?_⟩;replace HO_451002:=yVb HO_451002 hb;have HO464:=zm (Kd.V_lower (zy (ok' := fun k_=>(P0_2_ k_∨w.heap.size≤k_)∧some k_≠(u9 : Value).ownBlock∧k_≠gb450∧k_≠gb451) ho0 (fun k_ hk_=>⟨Or.elim hk_ (fun hs_=>hs_.1) (fun hn_=>(.inr (Nat.le_trans (zE yhb) hn_))),Or.elim hk_ (fun hs_=>hs_.2.1) (fun hn_=>(Kd.fresh' (Kd.R_lt (yr HO_9)) k_ hn_)),Or.elim hk_ (fun hs_=>hs_.2.2.1) (fun hn_=>(Kd.freshB (yk BK450) k_ hn_)),Or.elim hk_ (fun hs_=>hs_.2.2.2) (fun hn_=>(Kd.freshB (yk BK451) k_ hn_))⟩)) (zE yhb));replace HO_9:=yRb HO_9 hb;replace BK450:=ybb BK450 hb;replace BK451:=ybb BK451 hb;replace HB:=ybs hb;(try clear hb);(try clear hb2);(try clear hk);(try clear hi);(try clear ho0))|((with_reducible refine gate_dst (N:=12) rfl ?_);refine ybx 12 #[.int .u64 0, .int .u32 0, .slice none 0 0, .int .i64 0] 82 ?_;intro gb467 hg w25 hbox hb;replace HO_9:=yRb HO_9 hb;replace HO_451002:=yVe HO_451002 hg hb;replace HO464:=yVe HO464 hg hb;have BK467:=zm (hbox);have GW467:=ygw hg;have GE467:=ygw hg;replace HB:=ybs hb;have NB450_467:=ynl BK450 hg;have NB467_450:=yng BK450 hg;replace BK450:=ybb BK450 hb;have NB451_467:=ynl BK451 hg;have NB467_451:=yng BK451 hg;replace BK451:=ybb BK451 hb;clear hb hbox hg;have hnb26:=NB467_450.out;have hnc26:=NB450_467.out;have hnb27:=NB467_451.out;have hnc27:=NB451_467.out;obtain ⟨_,_,_,_,_,_,_,_⟩:=yc4 BK467;obtain ⟨Ao29,co29,eo29⟩:=Kd.V_slice HO464.out;subst eo29))
         have n0_ : Aside0 (Kd.R (Kd.int .i64) 3 ((((w25.setCell ⟨gb467,0,none⟩ (.int .u64 t460)).setCell ⟨gb467,1,none⟩ (.int .u32 t461)).setCell ⟨gb467,2,none⟩ (.slice Ao29 t462.length co29)).setCell ⟨gb467,3,none⟩ (.int .i64 t465)) w.heap.size (fun k_=>(w.heap.size≤k_)) u9 x9_2):=⟨by (with_reducible repeat (first|apply zo|apply zp|apply zq));exact zG (zH (p:=⟨gb467,3,none⟩) (zH (p:=⟨gb467,2,none⟩) (zH (p:=⟨gb467,1,none⟩) (zH (p:=⟨gb467,0,none⟩) (Kd.R_types HO_9.out BK467.out (by decide)) (fun _ hk=>hk.2) (.int .u64 t460)) (fun _ hk=>hk.2) (.int .u32 t461)) (fun _ hk=>hk.2) (.slice Ao29 t462.length co29)) (fun _ hk=>hk.2) (.int .i64 t465)) (fun _ hk=>hk.1)⟩
         have n1_ : Aside0 (Kd.V (Kd.int .u8) 5 ((((w25.setCell ⟨gb467,0,none⟩ (.int .u64 t460)).setCell ⟨gb467,1,none⟩ (.int .u32 t461)).setCell ⟨gb467,2,none⟩ (.slice Ao29 t462.length co29)).setCell ⟨gb467,3,none⟩ (.int .i64 t465)) w.heap.size (fun k_=>(P0_2_ k_∨w.heap.size≤k_)∧some k_≠(u9 : Value).ownBlock∧k_≠gb450∧k_≠gb451∧k_≠gb467) (.slice Ao23 x451002_2.length co23) x451002_2):=⟨by (with_reducible repeat (first|apply zA|apply zB|apply zC));exact zy (zI (p:=⟨gb467,3,none⟩) (zI (p:=⟨gb467,2,none⟩) (zI (p:=⟨gb467,1,none⟩) (zI (p:=⟨gb467,0,none⟩) (zy HO_451002.out (fun k_ hk=>(⟨hk,hk.2⟩ : _∧k_≠gb467))) (fun _ hk=>hk.2) (.int .u64 t460)) (fun _ hk=>hk.2) (.int .u32 t461)) (fun _ hk=>hk.2) (.slice Ao29 t462.length co29)) (fun _ hk=>hk.2) (.int .i64 t465)) (fun _ hk=>⟨hk.1.1.1,⟨hk.1.1.2.1,⟨hk.1.1.2.2.1,⟨hk.1.1.2.2.2,hk.1.2⟩⟩⟩⟩)⟩
         have n2_ : Aside0 (Kd.V (Kd.int .u8) 5 ((((w25.setCell ⟨gb467,0,none⟩ (.int .u64 t460)).setCell ⟨gb467,1,none⟩ (.int .u32 t461)).setCell ⟨gb467,2,none⟩ (.slice Ao29 t462.length co29)).setCell ⟨gb467,3,none⟩ (.int .i64 t465)) w.heap.size (fun k_=>(P0_2_ k_∨w.heap.size≤k_)∧some k_≠(u9 : Value).ownBlock∧k_≠gb450∧k_≠gb451∧k_≠gb467) (.slice Ao29 t462.length co29) t462):=⟨by (with_reducible repeat (first|apply zA|apply zB|apply zC));exact zy (zI (p:=⟨gb467,3,none⟩) (zI (p:=⟨gb467,2,none⟩) (zI (p:=⟨gb467,1,none⟩) (zI (p:=⟨gb467,0,none⟩) (zy HO464.out (fun k_ hk=>(⟨hk,hk.2⟩ : _∧k_≠gb467))) (fun _ hk=>hk.2) (.int .u64 t460)) (fun _ hk=>hk.2) (.int .u32 t461)) (fun _ hk=>hk.2) (.slice Ao29 t462.length co29)) (fun _ hk=>hk.2) (.int .i64 t465)) (fun _ hk=>⟨hk.1.1.1,⟨hk.1.1.2.1,⟨hk.1.1.2.2.1,⟨hk.1.1.2.2.2,hk.1.2⟩⟩⟩⟩)⟩
         have n3_ : Aside0 (((((w25.setCell ⟨gb467,0,none⟩ (.int .u64 t460)).setCell ⟨gb467,1,none⟩ (.int .u32 t461)).setCell ⟨gb467,2,none⟩ (.slice Ao29 t462.length co29)).setCell ⟨gb467,3,none⟩ (.int .i64 t465)).heap[gb450]? = some (.cells #[.int .u64 x451000_2, .int .u32 x451001_2, .slice Ao23 x451002_2.length co23, .int .i64 x451003_2] 82 (0,0))):=⟨yk BK450⟩
         have n4_ : Aside0 (((((w25.setCell ⟨gb467,0,none⟩ (.int .u64 t460)).setCell ⟨gb467,1,none⟩ (.int .u32 t461)).setCell ⟨gb467,2,none⟩ (.slice Ao29 t462.length co29)).setCell ⟨gb467,3,none⟩ (.int .i64 t465)).heap[gb451]? = some (.cells #[.int .u64 0, .int .u32 0, .slice none 0 0, .int .i64 0] 82 (0,0))):=⟨yk BK451⟩
         have n5_ : Aside0 (((((w25.setCell ⟨gb467,0,none⟩ (.int .u64 t460)).setCell ⟨gb467,1,none⟩ (.int .u32 t461)).setCell ⟨gb467,2,none⟩ (.slice Ao29 t462.length co29)).setCell ⟨gb467,3,none⟩ (.int .i64 t465)).heap[gb467]? = some (.cells #[.int .u64 t460, .int .u32 t461, .slice Ao29 t462.length co29, .int .i64 t465] 82 (0,0))):=⟨yk BK467⟩
         have n6_ : Aside0 (Below w.heap.size w ((((w25.setCell ⟨gb467,0,none⟩ (.int .u64 t460)).setCell ⟨gb467,1,none⟩ (.int .u32 t461)).setCell ⟨gb467,2,none⟩ (.slice Ao29 t462.length co29)).setCell ⟨gb467,3,none⟩ (.int .i64 t465))):=⟨yhb⟩
         (try clear HO_9)
         (try clear HO_451002)
         (try clear HO464)
         (try clear BK450)
         (try clear BK451)
         (try clear BK467)
         (try clear HB)
         generalize ((((w25.setCell ⟨gb467,0,none⟩ (.int .u64 t460)).setCell ⟨gb467,1,none⟩ (.int .u32 t461)).setCell ⟨gb467,2,none⟩ (.slice Ao29 t462.length co29)).setCell ⟨gb467,3,none⟩ (.int .i64 t465))=w30 at n0_ n1_ n2_ n3_ n4_ n5_ n6_ ⊢
         have HO_9:=n0_;have HO_451002:=n1_;have HO464:=n2_;have BK450:=n3_;have BK451:=n4_;have BK467:=n5_;have HB:=n6_;clear n0_ n1_ n2_ n3_ n4_ n5_ n6_
         replace HO_9:=zm (zq HO_9.out)
         replace HO_451002:=zm (zC HO_451002.out)
         replace HO464:=zm (zC HO464.out)
         replace BK450:=zm (zj BK450.out)
         replace BK451:=zm (zj BK451.out)
         replace BK467:=zm (zj BK467.out)
         replace HB:=zm (zf HB.out)
         refine start_ (n:=7) (S:=fun w' => w'.cell? ⟨gb467,0,none⟩=some (.int .u64 t460)∧w'.cell? ⟨gb467,1,none⟩=some (.int .u32 t461)∧w'.cell? ⟨gb467,2,none⟩=some (.slice Ao29 t462.length co29)∧w'.cell? ⟨gb467,3,none⟩=some (.int .i64 t465)) (ds := []) #[false,false,false,false,false,false,false] (by kernel_rfl) rfl rfl ⟨(zs BK467.out 0).trans rfl,(zs BK467.out 1).trans rfl,(zs BK467.out 2).trans rfl,(zs BK467.out 3).trans rfl⟩ (fun hHeld => ?_)
         generalize w30.drew=w31 at HO_9 HO_451002 HO464 BK450 BK451 BK467 HB hHeld ⊢
         refine pure_ (i:=1) (N:=some 44) (v := ?_) (a' := ?_) #[false,true,false,false,false,false,false] rfl rfl (by kernel_rfl) (fun _ _ _ h=>h) (Or.inl ⟨by rfl, ?_⟩) ?_ ?_
         rotate_left
         ·
          intro w'
          go_simp
          with_reducible rfl
         rotate_left
         ·
          simp only [Act.put,List.setIfInBounds_toArray,List.set_cons_zero,List.set_cons_succ,i64_w,i32_w]
          rfl
         refine pure_ (i:=2) (N:=some 45) (v := ?_) (a' := ?_) #[false,true,true,false,false,false,false] rfl rfl (by kernel_rfl) (fun _ _ _ h=>h) (Or.inl ⟨by rfl, ?_⟩) ?_ ?_
         rotate_left
         ·
          intro w'
          go_simp
          with_reducible rfl
         rotate_left
         ·
          simp only [Act.put,List.setIfInBounds_toArray,List.set_cons_zero,List.set_cons_succ,i64_w,i32_w]
          rfl
         refine take_ (i:=0) (N:=some 43) (v := ?_) (a' := ?_) #[true,true,true,false,false,false,false] rfl rfl (by kernel_rfl) (fun _ _ _ h=>h) (Or.inl ⟨by rfl, ?_⟩) hHeld ?_ ?_
         rotate_left
         ·
          rintro w' ⟨s0,s1,s2,s3⟩
          go_simp
          with_reducible rfl
         rotate_left
         ·
          simp only [Act.put,List.setIfInBounds_toArray,List.set_cons_zero,List.set_cons_succ,i64_w,i32_w]
          rfl
         refine one_ (i:=3) (N:=some 46) #[true,true,true,true,false,false,false] rfl rfl (by kernel_rfl) (by decide) (fun K hK => ?_)
         refine value_ (w1 := ?_) (v := ?_) (by rfl) rfl ?_ ?_
         rotate_left 2
         ·
          go_simp
          constructor
          ·
           rfl
          ·
           rfl
         refine hK.out _ _ ⟨(zs (zi BK467.out _) 0).trans rfl,(zs (zi BK467.out _) 1).trans rfl,(zs (zi BK467.out _) 2).trans rfl,(zs (zi BK467.out _) 3).trans rfl⟩ (fun hHeld => ?_)
         clear hK K
         refine ym (some 46) ?_
         refine one_ (i:=4) (N:=some 47) #[true,true,true,true,true,false,false] rfl rfl (by kernel_rfl) (by decide) (fun K hK => ?_)
         refine Kd.R_append_step (Kd.int .i64) (w0:=w) w.heap.size (by rfl) (.tmp 44) (.tmp 46) 49 3 (.int .i64 0) 8 rfl Try.underlying49 info3 rfl (by decide) (by omega) u9 x9_2 t466 [.int .i64 t466] (fun k_=>(w.heap.size≤k_)) (fun _=>False) rfl rfl ?aP (fun _ hk=>hk.elim) ?aF ?aO ?aB ?aS ?aL ?_
         (case aP=>exact rfl)
         (case aB=>exact yhb)
         (case aF=>exact (fun k_ hk=>(Nat.le_trans (zE yhb) hk)))
         (case aO=>exact (yr HO_9))
         (case aS=>exact (zE yhb))
         (case aL=>have:=LMc20.out;omega)
         intro v469 w32 ho hb hg hat
         rw [← Ny468.out] at ho
         replace HO_451002:=zm (Kd.V_afterv (ok:=(fun k_=>(P0_2_ k_∨w.heap.size≤k_)∧k_≠gb450∧k_≠gb451∧k_≠gb467)) (by (with_reducible repeat (first|apply zA|apply zB|apply zC));exact zy HO_451002.out (fun _ hk=>⟨⟨hk.1,⟨hk.2.2.1,⟨hk.2.2.2.1,hk.2.2.2.2⟩⟩⟩,hk.2.1⟩)) hg hat)
         replace BK450:=zm (blk_grown (yk BK450) hg (zu HO_9.out BK450.out (by decide)))
         replace BK451:=zm (blk_grown (yk BK451) hg (zu HO_9.out BK451.out (by decide)))
         replace HO464:=zm (Kd.V_afterv (ok:=(fun k_=>(P0_2_ k_∨w.heap.size≤k_)∧k_≠gb450∧k_≠gb451∧k_≠gb467)) (by (with_reducible repeat (first|apply zA|apply zB|apply zC));exact zy HO464.out (fun _ hk=>⟨⟨hk.1,⟨hk.2.2.1,⟨hk.2.2.2.1,hk.2.2.2.2⟩⟩⟩,hk.2.1⟩)) hg hat)
         replace BK467:=zm (blk_grown (yk BK467) hg (zu HO_9.out BK467.out (by decide)))
         replace HB:=zm (hb)
         have HO470:=zm (ho);clear HO_9;clear ho hb hg hat
         refine hK.out _ _ ⟨(zs BK467.out 0).trans rfl,(zs BK467.out 1).trans rfl,(zs BK467.out 2).trans rfl,(zs BK467.out 3).trans rfl⟩ (fun hHeld => ?_)
         clear hK K
         refine ym (some 47) ?_
         refine one_ (i:=5) (N:=none) #[true,true,true,true,true,true,false] rfl rfl (by kernel_rfl) (by decide) (fun K hK => ?_)
         have hs33 : w32.cell? ⟨gb450,0,none⟩=some (.int .u64 x451000_2):=(zs BK450.out 0).trans rfl
         have hfs33:=zx BK450.out 0
         have hns33_1:=NB451_450.out;have hns33_2:=NB467_450.out;have hms33_1:=NB450_451.out;have hms33_2:=NB450_467.out
         have hs34 : w32.cell? ⟨gb450,1,none⟩=some (.int .u32 x451001_2):=(zs BK450.out 1).trans rfl
         have hfs34:=zx BK450.out 1
         have hns34_1:=NB451_450.out;have hns34_2:=NB467_450.out;have hms34_1:=NB450_451.out;have hms34_2:=NB450_467.out
         have hs35 : w32.cell? ⟨gb450,2,none⟩=some (.slice Ao23 x451002_2.length co23):=(zs BK450.out 2).trans rfl
         have hfs35:=zx BK450.out 2
         have hns35_1:=NB451_450.out;have hns35_2:=NB467_450.out;have hms35_1:=NB450_451.out;have hms35_2:=NB450_467.out
         have hs36 : w32.cell? ⟨gb450,3,none⟩=some (.int .i64 x451003_2):=(zs BK450.out 3).trans rfl
         have hfs36:=zx BK450.out 3
         have hns36_1:=NB451_450.out;have hns36_2:=NB467_450.out;have hms36_1:=NB450_451.out;have hms36_2:=NB450_467.out
         refine skip_ (w1 := ?_) (by rfl) rfl ?_ ?_
         rotate_left
         ·
          go_simp
          rfl
         refine hK.out _ _ ⟨((zr (p:=⟨gb450,_,none⟩) NB467_450.out _).trans (((zr (p:=⟨gb450,_,none⟩) NB467_450.out _).trans (((zr (p:=⟨gb450,_,none⟩) NB467_450.out _).trans (((zr (p:=⟨gb450,_,none⟩) NB467_450.out _).trans (hHeld.1)))))))),((zr (p:=⟨gb450,_,none⟩) NB467_450.out _).trans (((zr (p:=⟨gb450,_,none⟩) NB467_450.out _).trans (((zr (p:=⟨gb450,_,none⟩) NB467_450.out _).trans (((zr (p:=⟨gb450,_,none⟩) NB467_450.out _).trans (hHeld.2.1)))))))),((zr (p:=⟨gb450,_,none⟩) NB467_450.out _).trans (((zr (p:=⟨gb450,_,none⟩) NB467_450.out _).trans (((zr (p:=⟨gb450,_,none⟩) NB467_450.out _).trans (((zr (p:=⟨gb450,_,none⟩) NB467_450.out _).trans (hHeld.2.2.1)))))))),((zr (p:=⟨gb450,_,none⟩) NB467_450.out _).trans (((zr (p:=⟨gb450,_,none⟩) NB467_450.out _).trans (((zr (p:=⟨gb450,_,none⟩) NB467_450.out _).trans (((zr (p:=⟨gb450,_,none⟩) NB467_450.out _).trans (hHeld.2.2.2))))))))⟩ (fun hHeld => ?_)
         clear hK K
         refine pure_ (i:=6) (N:=some 9) (v := ?_) (a' := ?_) #[true,true,true,true,true,true,true] rfl rfl (by kernel_rfl) (fun _ _ _ h=>h) (Or.inl ⟨by rfl, ?_⟩) ?_ ?_
         rotate_left
         ·
          intro w'
          go_simp
          with_reducible rfl
         rotate_left
         ·
          simp only [Act.put,List.setIfInBounds_toArray,List.set_cons_zero,List.set_cons_succ,i64_w,i32_w]
          rfl
         refine done_ (by kernel_rfl) ?_
         try go_wp2
         go_roundg k2
         case measure=>have:=HJ3.out;have:=HK2.out;omega
         case rel=>exact ⟨(y468),(wrap64 (x27_2+1)),(t460),(t461),(t462),(t465),(.slice Ao29 t462.length co29),yq,H',⟨by have:=HJ3.out;have:=HK2.out;omega⟩,⟨by (with_reducible repeat (first|apply zo|apply zp|apply zq));exact zG (zH (p:=⟨gb450,3,none⟩) (zH (p:=⟨gb450,2,none⟩) (zH (p:=⟨gb450,1,none⟩) (zH (p:=⟨gb450,0,none⟩) (Kd.R_types HO470.out BK450.out (by decide)) (fun _ hk=>hk.2) (.int .u64 t460)) (fun _ hk=>hk.2) (.int .u32 t461)) (fun _ hk=>hk.2) (.slice Ao29 t462.length co29)) (fun _ hk=>hk.2) (.int .i64 t465)) (fun _ hk=>hk.1)⟩,⟨by (with_reducible repeat (first|apply zA|apply zB|apply zC));exact zy (zI (p:=⟨gb450,3,none⟩) (zI (p:=⟨gb450,2,none⟩) (zI (p:=⟨gb450,1,none⟩) (zI (p:=⟨gb450,0,none⟩) (zy HO464.out (fun k_ hk=>(⟨hk,hk.1.2.1⟩ : _∧k_≠gb450))) (fun _ hk=>hk.2) (.int .u64 t460)) (fun _ hk=>hk.2) (.int .u32 t461)) (fun _ hk=>hk.2) (.slice Ao29 t462.length co29)) (fun _ hk=>hk.2) (.int .i64 t465)) (fun _ hk=>⟨hk.1.1.1,⟨hk.1.2,⟨hk.1.1.2.1,hk.1.1.2.2.1⟩⟩⟩)⟩,⟨yk BK450⟩,⟨yk BK451⟩,⟨yhb⟩⟩
        ·
         rw [if_neg c20] at H
         exact absurd H (by simp)
       ·
        replace c18:=Bool.eq_false_iff.mpr c18
        subst c18
        rw [ynf] at H
        by_cases c37 : 0≤x27_2
        ·
         rw [if_pos c37] at H
         have c37b0 : decide (0≤x27_2)=true:=decide_eq_true c37
         clear c37
         by_cases c38 : x27_2 < (l1.length : Int)
         ·
          rw [if_pos c38] at H
          have c38b0 : decide (x27_2 < (l1.length : Int))=true:=decide_eq_true c38
          clear c38
          obtain ⟨⟨t472,t473,t474,t477,t478⟩,A39,H⟩:=ybi H
          try dsimp only at H
          by_cases c40 : x9_2.length < 17592186044416
          ·
           rw [if_pos c40] at H
           have LMc40:=zm c40;clear c40
           obtain ⟨y480,hy480⟩ : ∃ y_ : List Int,y_=(x9_2 ++ [t478]):=⟨_,rfl⟩
           replace H : (gain_Take.l0 k2 l1 false y480 (wrap64 (x27_2+1)) t472 t473 t474 t477)=some (r1,r2,r3,r4,r5,r6):=yrw hy480 H
           have Ny480:=zm hy480;clear hy480
           have H' := zm H
           clear H
           have p471 : 0≤(x27_2 : Int):=yt
           have q471 : x27_2 < (l1.length : Int):=yt
           obtain ⟨ad471,e471,hx471_0⟩:=Kd.at_int HR1.out x27_2 p471 q471
           cases e471
           replace hx471_0:=(HB.out.cell (zb w _ hx471_0)).trans hx471_0
           replace p471:=eq_true p471
           replace q471:=eq_true q471
           have hnb41:=NB450_451.out;have hnc41:=NB451_450.out
           obtain ⟨_,_,_,_,_,_,_,_⟩:=yc4 BK450
           obtain ⟨Ao43,co43,eo43⟩:=Kd.V_slice HO_451002.out
           subst eo43
           try go_wp2_with (first|((with_reducible refine gate_callee (f:=88) rfl ?_);refine ygl 40 Try.func88 #[.agg #[.int .u64 x451000_2, .int .u32 x451001_2, .slice Ao43 x451002_2.length co43, .int .i64 x451003_2], .int .i64 (rd l1 x27_2), .bool false] ?_;(with_reducible refine (gain_take.calls k2 x451000_2 x451001_2 (fun k_=>((P0_2_ k_∨w.heap.size≤k_)∧(some k_≠(u9 : Value).ownBlock∧(k_≠gb450∧k_≠gb451)))) _ _ x451002_2 x451003_2 (rd l1 x27_2) false t472 t473 t474 t477 t478 _ HO_451002.out A39.out).mono ?_);rintro e w44 ⟨v475,rfl,ho0,hb⟩;refine ⟨_,rfl, ?_⟩;replace HO_451002:=yVb HO_451002 hb;have HO476:=zm (Kd.V_lower (zy (ok' := fun k_=>(P0_2_ k_∨w.heap.size≤k_)∧some k_≠(u9 : Value).ownBlock∧k_≠gb450∧k_≠gb451) ho0 (fun k_ hk_=>⟨Or.elim hk_ (fun hs_=>hs_.1) (fun hn_=>(.inr (Nat.le_trans (zE yhb) hn_))),Or.elim hk_ (fun hs_=>hs_.2.1) (fun hn_=>(Kd.fresh' (Kd.R_lt (yr HO_9)) k_ hn_)),Or.elim hk_ (fun hs_=>hs_.2.2.1) (fun hn_=>(Kd.freshB (yk BK450) k_ hn_)),Or.elim hk_ (fun hs_=>hs_.2.2.2) (fun hn_=>(Kd.freshB (yk BK451) k_ hn_))⟩)) (zE yhb));replace HO_9:=yRb HO_9 hb;replace BK450:=ybb BK450 hb;replace BK451:=ybb BK451 hb;replace HB:=ybs hb;(try clear hb);(try clear hb2);(try clear hk);(try clear hi);(try clear ho0))|((with_reducible refine gate_dst (N:=12) rfl ?_);refine ybx 12 #[.int .u64 0, .int .u32 0, .slice none 0 0, .int .i64 0] 82 ?_;intro gb479 hg w45 hbox hb;replace HO_9:=yRb HO_9 hb;replace HO_451002:=yVe HO_451002 hg hb;replace HO476:=yVe HO476 hg hb;have BK479:=zm (hbox);have GW479:=ygw hg;have GE479:=ygw hg;replace HB:=ybs hb;have NB450_479:=ynl BK450 hg;have NB479_450:=yng BK450 hg;replace BK450:=ybb BK450 hb;have NB451_479:=ynl BK451 hg;have NB479_451:=yng BK451 hg;replace BK451:=ybb BK451 hb;clear hb hbox hg;have hnb46:=NB479_450.out;have hnc46:=NB450_479.out;have hnb47:=NB479_451.out;have hnc47:=NB451_479.out;obtain ⟨_,_,_,_,_,_,_,_⟩:=yc4 BK479;obtain ⟨Ao49,co49,eo49⟩:=Kd.V_slice HO476.out;subst eo49))
           have n0_ : Aside0 (Kd.R (Kd.int .i64) 3 ((((w45.setCell ⟨gb479,0,none⟩ (.int .u64 t472)).setCell ⟨gb479,1,none⟩ (.int .u32 t473)).setCell ⟨gb479,2,none⟩ (.slice Ao49 t474.length co49)).setCell ⟨gb479,3,none⟩ (.int .i64 t477)) w.heap.size (fun k_=>(w.heap.size≤k_)) u9 x9_2):=⟨by (with_reducible repeat (first|apply zo|apply zp|apply zq));exact zG (zH (p:=⟨gb479,3,none⟩) (zH (p:=⟨gb479,2,none⟩) (zH (p:=⟨gb479,1,none⟩) (zH (p:=⟨gb479,0,none⟩) (Kd.R_types HO_9.out BK479.out (by decide)) (fun _ hk=>hk.2) (.int .u64 t472)) (fun _ hk=>hk.2) (.int .u32 t473)) (fun _ hk=>hk.2) (.slice Ao49 t474.length co49)) (fun _ hk=>hk.2) (.int .i64 t477)) (fun _ hk=>hk.1)⟩
           have n1_ : Aside0 (Kd.V (Kd.int .u8) 5 ((((w45.setCell ⟨gb479,0,none⟩ (.int .u64 t472)).setCell ⟨gb479,1,none⟩ (.int .u32 t473)).setCell ⟨gb479,2,none⟩ (.slice Ao49 t474.length co49)).setCell ⟨gb479,3,none⟩ (.int .i64 t477)) w.heap.size (fun k_=>(P0_2_ k_∨w.heap.size≤k_)∧some k_≠(u9 : Value).ownBlock∧k_≠gb450∧k_≠gb451∧k_≠gb479) (.slice Ao43 x451002_2.length co43) x451002_2):=⟨by (with_reducible repeat (first|apply zA|apply zB|apply zC));exact zy (zI (p:=⟨gb479,3,none⟩) (zI (p:=⟨gb479,2,none⟩) (zI (p:=⟨gb479,1,none⟩) (zI (p:=⟨gb479,0,none⟩) (zy HO_451002.out (fun k_ hk=>(⟨hk,hk.2⟩ : _∧k_≠gb479))) (fun _ hk=>hk.2) (.int .u64 t472)) (fun _ hk=>hk.2) (.int .u32 t473)) (fun _ hk=>hk.2) (.slice Ao49 t474.length co49)) (fun _ hk=>hk.2) (.int .i64 t477)) (fun _ hk=>⟨hk.1.1.1,⟨hk.1.1.2.1,⟨hk.1.1.2.2.1,⟨hk.1.1.2.2.2,hk.1.2⟩⟩⟩⟩)⟩
           have n2_ : Aside0 (Kd.V (Kd.int .u8) 5 ((((w45.setCell ⟨gb479,0,none⟩ (.int .u64 t472)).setCell ⟨gb479,1,none⟩ (.int .u32 t473)).setCell ⟨gb479,2,none⟩ (.slice Ao49 t474.length co49)).setCell ⟨gb479,3,none⟩ (.int .i64 t477)) w.heap.size (fun k_=>(P0_2_ k_∨w.heap.size≤k_)∧some k_≠(u9 : Value).ownBlock∧k_≠gb450∧k_≠gb451∧k_≠gb479) (.slice Ao49 t474.length co49) t474):=⟨by (with_reducible repeat (first|apply zA|apply zB|apply zC));exact zy (zI (p:=⟨gb479,3,none⟩) (zI (p:=⟨gb479,2,none⟩) (zI (p:=⟨gb479,1,none⟩) (zI (p:=⟨gb479,0,none⟩) (zy HO476.out (fun k_ hk=>(⟨hk,hk.2⟩ : _∧k_≠gb479))) (fun _ hk=>hk.2) (.int .u64 t472)) (fun _ hk=>hk.2) (.int .u32 t473)) (fun _ hk=>hk.2) (.slice Ao49 t474.length co49)) (fun _ hk=>hk.2) (.int .i64 t477)) (fun _ hk=>⟨hk.1.1.1,⟨hk.1.1.2.1,⟨hk.1.1.2.2.1,⟨hk.1.1.2.2.2,hk.1.2⟩⟩⟩⟩)⟩
           have n3_ : Aside0 (((((w45.setCell ⟨gb479,0,none⟩ (.int .u64 t472)).setCell ⟨gb479,1,none⟩ (.int .u32 t473)).setCell ⟨gb479,2,none⟩ (.slice Ao49 t474.length co49)).setCell ⟨gb479,3,none⟩ (.int .i64 t477)).heap[gb450]? = some (.cells #[.int .u64 x451000_2, .int .u32 x451001_2, .slice Ao43 x451002_2.length co43, .int .i64 x451003_2] 82 (0,0))):=⟨yk BK450⟩
           have n4_ : Aside0 (((((w45.setCell ⟨gb479,0,none⟩ (.int .u64 t472)).setCell ⟨gb479,1,none⟩ (.int .u32 t473)).setCell ⟨gb479,2,none⟩ (.slice Ao49 t474.length co49)).setCell ⟨gb479,3,none⟩ (.int .i64 t477)).heap[gb451]? = some (.cells #[.int .u64 0, .int .u32 0, .slice none 0 0, .int .i64 0] 82 (0,0))):=⟨yk BK451⟩
           have n5_ : Aside0 (((((w45.setCell ⟨gb479,0,none⟩ (.int .u64 t472)).setCell ⟨gb479,1,none⟩ (.int .u32 t473)).setCell ⟨gb479,2,none⟩ (.slice Ao49 t474.length co49)).setCell ⟨gb479,3,none⟩ (.int .i64 t477)).heap[gb479]? = some (.cells #[.int .u64 t472, .int .u32 t473, .slice Ao49 t474.length co49, .int .i64 t477] 82 (0,0))):=⟨yk BK479⟩
           have n6_ : Aside0 (Below w.heap.size w ((((w45.setCell ⟨gb479,0,none⟩ (.int .u64 t472)).setCell ⟨gb479,1,none⟩ (.int .u32 t473)).setCell ⟨gb479,2,none⟩ (.slice Ao49 t474.length co49)).setCell ⟨gb479,3,none⟩ (.int .i64 t477))):=⟨yhb⟩
           (try clear HO_9)
           (try clear HO_451002)
           (try clear HO476)
           (try clear BK450)
           (try clear BK451)
           (try clear BK479)
           (try clear HB)
           generalize ((((w45.setCell ⟨gb479,0,none⟩ (.int .u64 t472)).setCell ⟨gb479,1,none⟩ (.int .u32 t473)).setCell ⟨gb479,2,none⟩ (.slice Ao49 t474.length co49)).setCell ⟨gb479,3,none⟩ (.int .i64 t477))=w50 at n0_ n1_ n2_ n3_ n4_ n5_ n6_ ⊢
           have HO_9:=n0_;have HO_451002:=n1_;have HO476:=n2_;have BK450:=n3_;have BK451:=n4_;have BK479:=n5_;have HB:=n6_;clear n0_ n1_ n2_ n3_ n4_ n5_ n6_
           replace HO_9:=zm (zq HO_9.out)
           replace HO_451002:=zm (zC HO_451002.out)
           replace HO476:=zm (zC HO476.out)
           replace BK450:=zm (zj BK450.out)
           replace BK451:=zm (zj BK451.out)
           replace BK479:=zm (zj BK479.out)
           replace HB:=zm (zf HB.out)
           refine start_ (n:=7) (S:=fun w' => w'.cell? ⟨gb479,0,none⟩=some (.int .u64 t472)∧w'.cell? ⟨gb479,1,none⟩=some (.int .u32 t473)∧w'.cell? ⟨gb479,2,none⟩=some (.slice Ao49 t474.length co49)∧w'.cell? ⟨gb479,3,none⟩=some (.int .i64 t477)) (ds := []) #[false,false,false,false,false,false,false] (by kernel_rfl) rfl rfl ⟨(zs BK479.out 0).trans rfl,(zs BK479.out 1).trans rfl,(zs BK479.out 2).trans rfl,(zs BK479.out 3).trans rfl⟩ (fun hHeld => ?_)
           generalize w50.drew=w51 at HO_9 HO_451002 HO476 BK450 BK451 BK479 HB hHeld ⊢
           refine pure_ (i:=1) (N:=some 44) (v := ?_) (a' := ?_) #[false,true,false,false,false,false,false] rfl rfl (by kernel_rfl) (fun _ _ _ h=>h) (Or.inl ⟨by rfl, ?_⟩) ?_ ?_
           rotate_left
           ·
            intro w'
            go_simp
            with_reducible rfl
           rotate_left
           ·
            simp only [Act.put,List.setIfInBounds_toArray,List.set_cons_zero,List.set_cons_succ,i64_w,i32_w]
            rfl
           refine pure_ (i:=2) (N:=some 45) (v := ?_) (a' := ?_) #[false,true,true,false,false,false,false] rfl rfl (by kernel_rfl) (fun _ _ _ h=>h) (Or.inl ⟨by rfl, ?_⟩) ?_ ?_
           rotate_left
           ·
            intro w'
            go_simp
            with_reducible rfl
           rotate_left
           ·
            simp only [Act.put,List.setIfInBounds_toArray,List.set_cons_zero,List.set_cons_succ,i64_w,i32_w]
            rfl
           refine take_ (i:=0) (N:=some 43) (v := ?_) (a' := ?_) #[true,true,true,false,false,false,false] rfl rfl (by kernel_rfl) (fun _ _ _ h=>h) (Or.inl ⟨by rfl, ?_⟩) hHeld ?_ ?_
           rotate_left
           ·
            rintro w' ⟨s0,s1,s2,s3⟩
            go_simp
            with_reducible rfl
           rotate_left
           ·
            simp only [Act.put,List.setIfInBounds_toArray,List.set_cons_zero,List.set_cons_succ,i64_w,i32_w]
            rfl
           refine one_ (i:=3) (N:=some 46) #[true,true,true,true,false,false,false] rfl rfl (by kernel_rfl) (by decide) (fun K hK => ?_)
           refine value_ (w1 := ?_) (v := ?_) (by rfl) rfl ?_ ?_
           rotate_left 2
           ·
            go_simp
            constructor
            ·
             rfl
            ·
             rfl
           refine hK.out _ _ ⟨(zs (zi BK479.out _) 0).trans rfl,(zs (zi BK479.out _) 1).trans rfl,(zs (zi BK479.out _) 2).trans rfl,(zs (zi BK479.out _) 3).trans rfl⟩ (fun hHeld => ?_)
           clear hK K
           refine ym (some 46) ?_
           refine one_ (i:=4) (N:=some 47) #[true,true,true,true,true,false,false] rfl rfl (by kernel_rfl) (by decide) (fun K hK => ?_)
           refine Kd.R_append_step (Kd.int .i64) (w0:=w) w.heap.size (by rfl) (.tmp 44) (.tmp 46) 49 3 (.int .i64 0) 8 rfl Try.underlying49 info3 rfl (by decide) (by omega) u9 x9_2 t478 [.int .i64 t478] (fun k_=>(w.heap.size≤k_)) (fun _=>False) rfl rfl ?aP (fun _ hk=>hk.elim) ?aF ?aO ?aB ?aS ?aL ?_
           (case aP=>exact rfl)
           (case aB=>exact yhb)
           (case aF=>exact (fun k_ hk=>(Nat.le_trans (zE yhb) hk)))
           (case aO=>exact (yr HO_9))
           (case aS=>exact (zE yhb))
           (case aL=>have:=LMc40.out;omega)
           intro v481 w52 ho hb hg hat
           rw [← Ny480.out] at ho
           replace HO_451002:=zm (Kd.V_afterv (ok:=(fun k_=>(P0_2_ k_∨w.heap.size≤k_)∧k_≠gb450∧k_≠gb451∧k_≠gb479)) (by (with_reducible repeat (first|apply zA|apply zB|apply zC));exact zy HO_451002.out (fun _ hk=>⟨⟨hk.1,⟨hk.2.2.1,⟨hk.2.2.2.1,hk.2.2.2.2⟩⟩⟩,hk.2.1⟩)) hg hat)
           replace BK450:=zm (blk_grown (yk BK450) hg (zu HO_9.out BK450.out (by decide)))
           replace BK451:=zm (blk_grown (yk BK451) hg (zu HO_9.out BK451.out (by decide)))
           replace HO476:=zm (Kd.V_afterv (ok:=(fun k_=>(P0_2_ k_∨w.heap.size≤k_)∧k_≠gb450∧k_≠gb451∧k_≠gb479)) (by (with_reducible repeat (first|apply zA|apply zB|apply zC));exact zy HO476.out (fun _ hk=>⟨⟨hk.1,⟨hk.2.2.1,⟨hk.2.2.2.1,hk.2.2.2.2⟩⟩⟩,hk.2.1⟩)) hg hat)
           replace BK479:=zm (blk_grown (yk BK479) hg (zu HO_9.out BK479.out (by decide)))
           replace HB:=zm (hb)
           have HO482:=zm (ho);clear HO_9;clear ho hb hg hat
           refine hK.out _ _ ⟨(zs BK479.out 0).trans rfl,(zs BK479.out 1).trans rfl,(zs BK479.out 2).trans rfl,(zs BK479.out 3).trans rfl⟩ (fun hHeld => ?_)
           clear hK K
           refine ym (some 47) ?_
           refine one_ (i:=5) (N:=none) #[true,true,true,true,true,true,false] rfl rfl (by kernel_rfl) (by decide) (fun K hK => ?_)
           have hs53 : w52.cell? ⟨gb450,0,none⟩=some (.int .u64 x451000_2):=(zs BK450.out 0).trans rfl
           have hfs53:=zx BK450.out 0
           have hns53_1:=NB451_450.out;have hns53_2:=NB479_450.out;have hms53_1:=NB450_451.out;have hms53_2:=NB450_479.out
           have hs54 : w52.cell? ⟨gb450,1,none⟩=some (.int .u32 x451001_2):=(zs BK450.out 1).trans rfl
           have hfs54:=zx BK450.out 1
           have hns54_1:=NB451_450.out;have hns54_2:=NB479_450.out;have hms54_1:=NB450_451.out;have hms54_2:=NB450_479.out
           have hs55 : w52.cell? ⟨gb450,2,none⟩=some (.slice Ao43 x451002_2.length co43):=(zs BK450.out 2).trans rfl
           have hfs55:=zx BK450.out 2
           have hns55_1:=NB451_450.out;have hns55_2:=NB479_450.out;have hms55_1:=NB450_451.out;have hms55_2:=NB450_479.out
           have hs56 : w52.cell? ⟨gb450,3,none⟩=some (.int .i64 x451003_2):=(zs BK450.out 3).trans rfl
           have hfs56:=zx BK450.out 3
           have hns56_1:=NB451_450.out;have hns56_2:=NB479_450.out;have hms56_1:=NB450_451.out;have hms56_2:=NB450_479.out
           refine skip_ (w1 := ?_) (by rfl) rfl ?_ ?_
           rotate_left
           ·
            go_simp
            rfl
           refine hK.out _ _ ⟨((zr (p:=⟨gb450,_,none⟩) NB479_450.out _).trans (((zr (p:=⟨gb450,_,none⟩) NB479_450.out _).trans (((zr (p:=⟨gb450,_,none⟩) NB479_450.out _).trans (((zr (p:=⟨gb450,_,none⟩) NB479_450.out _).trans (hHeld.1)))))))),((zr (p:=⟨gb450,_,none⟩) NB479_450.out _).trans (((zr (p:=⟨gb450,_,none⟩) NB479_450.out _).trans (((zr (p:=⟨gb450,_,none⟩) NB479_450.out _).trans (((zr (p:=⟨gb450,_,none⟩) NB479_450.out _).trans (hHeld.2.1)))))))),((zr (p:=⟨gb450,_,none⟩) NB479_450.out _).trans (((zr (p:=⟨gb450,_,none⟩) NB479_450.out _).trans (((zr (p:=⟨gb450,_,none⟩) NB479_450.out _).trans (((zr (p:=⟨gb450,_,none⟩) NB479_450.out _).trans (hHeld.2.2.1)))))))),((zr (p:=⟨gb450,_,none⟩) NB479_450.out _).trans (((zr (p:=⟨gb450,_,none⟩) NB479_450.out _).trans (((zr (p:=⟨gb450,_,none⟩) NB479_450.out _).trans (((zr (p:=⟨gb450,_,none⟩) NB479_450.out _).trans (hHeld.2.2.2))))))))⟩ (fun hHeld => ?_)
           clear hK K
           refine pure_ (i:=6) (N:=some 9) (v := ?_) (a' := ?_) #[true,true,true,true,true,true,true] rfl rfl (by kernel_rfl) (fun _ _ _ h=>h) (Or.inl ⟨by rfl, ?_⟩) ?_ ?_
           rotate_left
           ·
            intro w'
            go_simp
            with_reducible rfl
           rotate_left
           ·
            simp only [Act.put,List.setIfInBounds_toArray,List.set_cons_zero,List.set_cons_succ,i64_w,i32_w]
            rfl
           refine done_ (by kernel_rfl) ?_
           try go_wp2
           go_roundg k2
           case measure=>have:=HJ3.out;have:=HK2.out;omega
           case rel=>exact ⟨(y480),(wrap64 (x27_2+1)),(t472),(t473),(t474),(t477),(.slice Ao49 t474.length co49),yq,H',⟨by have:=HJ3.out;have:=HK2.out;omega⟩,⟨by (with_reducible repeat (first|apply zo|apply zp|apply zq));exact zG (zH (p:=⟨gb450,3,none⟩) (zH (p:=⟨gb450,2,none⟩) (zH (p:=⟨gb450,1,none⟩) (zH (p:=⟨gb450,0,none⟩) (Kd.R_types HO482.out BK450.out (by decide)) (fun _ hk=>hk.2) (.int .u64 t472)) (fun _ hk=>hk.2) (.int .u32 t473)) (fun _ hk=>hk.2) (.slice Ao49 t474.length co49)) (fun _ hk=>hk.2) (.int .i64 t477)) (fun _ hk=>hk.1)⟩,⟨by (with_reducible repeat (first|apply zA|apply zB|apply zC));exact zy (zI (p:=⟨gb450,3,none⟩) (zI (p:=⟨gb450,2,none⟩) (zI (p:=⟨gb450,1,none⟩) (zI (p:=⟨gb450,0,none⟩) (zy HO476.out (fun k_ hk=>(⟨hk,hk.1.2.1⟩ : _∧k_≠gb450))) (fun _ hk=>hk.2) (.int .u64 t472)) (fun _ hk=>hk.2) (.int .u32 t473)) (fun _ hk=>hk.2) (.slice Ao49 t474.length co49)) (fun _ hk=>hk.2) (.int .i64 t477)) (fun _ hk=>⟨hk.1.1.1,⟨hk.1.2,⟨hk.1.1.2.1,hk.1.1.2.2.1⟩⟩⟩)⟩,⟨yk BK450⟩,⟨yk BK451⟩,⟨yhb⟩⟩
          ·
           rw [if_neg c40] at H
           exact absurd H (by simp)
         ·
          rw [if_neg c38] at H
          exact absurd H (by simp)
        ·
         rw [if_neg c37] at H
         exact absurd H (by simp)
      ·
       rw [if_neg c17] at H
       have c17b0 : decide (x27_2 < 5)=false:=decide_eq_false c17
       clear c17
       simp only [Option.some.injEq,Prod.mk.injEq] at H
       obtain ⟨rfl,rfl,rfl,rfl,rfl,rfl⟩:=H
       have hnb57:=NB450_451.out;have hnc57:=NB451_450.out
       obtain ⟨_,_,_,_,_,_,_,_⟩:=yc4 BK450
       obtain ⟨_,_,_,_,_,_,_,_⟩:=yc4 BK451
       obtain ⟨Ao60,co60,eo60⟩:=Kd.V_slice HO_451002.out
       subst eo60
       go_wp2
       refine bodyPost_ret (results_ctt rfl _ _ gb451 82 #[.int .u64 x451000_2, .int .u32 x451001_2, .slice Ao60 x451002_2.length co60, .int .i64 x451003_2] (0,0) _ rfl (yk BK451) Try.underlying82 rfl (by kernel_rfl)) rfl ?_
       exact ⟨_,_,ye,by (with_reducible repeat (first|apply zA|apply zB|apply zC));exact zy (zI (p:=⟨gb451,3,none⟩) (zI (p:=⟨gb451,2,none⟩) (zI (p:=⟨gb451,1,none⟩) (zI (p:=⟨gb451,0,none⟩) (zy HO_451002.out (fun k_ hk=>(⟨hk,hk.2.2.2⟩ : _∧k_≠gb451))) (fun _ hk=>hk.2) (.int .u64 x451000_2)) (fun _ hk=>hk.2) (.int .u32 x451001_2)) (fun _ hk=>hk.2) (.slice Ao60 x451002_2.length co60)) (fun _ hk=>hk.2) (.int .i64 x451003_2)) (fun _ hk=>⟨hk.1.1,hk.1.2.1⟩),by (with_reducible repeat (first|apply zo|apply zp|apply zq));exact zG (zH (p:=⟨gb451,3,none⟩) (zH (p:=⟨gb451,2,none⟩) (zH (p:=⟨gb451,1,none⟩) (zH (p:=⟨gb451,0,none⟩) (Kd.R_types HO_9.out BK451.out (by decide)) (fun _ hk=>hk.2) (.int .u64 x451000_2)) (fun _ hk=>hk.2) (.int .u32 x451001_2)) (fun _ hk=>hk.2) (.slice Ao60 x451002_2.length co60)) (fun _ hk=>hk.2) (.int .i64 x451003_2)) (fun _ hk=>hk.1),yhb⟩

end Go.Proofs.Ytnmbndkojpjkmaa.Prt
