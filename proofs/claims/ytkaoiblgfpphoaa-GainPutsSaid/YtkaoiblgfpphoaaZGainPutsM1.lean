-- Functions of the program and of the document as plain Lean, each with the proof that the code comes to it. Written by a program of this session (wip/tools/myprint.py, pack.py) over the kit's printer; Lean checks it.
import Derived.Test.YtkaoiblgfpphoaaZGainPutsPrt0
namespace Go.Proofs.Ytkaoiblgfpphoaa.Prt
open Go.RowKit Go.Proofs.YtkaoiblgfpphoaaW.PrintWords Go.Proofs.YtkaoiblgfpphoaaW.PrintLast Go.Proofs.YtkaoiblgfpphoaaW.PrintMore
attribute [local go_sem] max2_int min2_int max_two min_two max_three min_three max_four min_four   -- for this text's walks alone
set_option linter.unusedVariables false
set_option linter.unusedSimpArgs false

/-! ### coder_carry: function 54 -/
def coder_carry.l0 : Nat→List Int→Int→Option (List Int)
 | 0,_,_=>none
 | k+1,x0,x2=>if x2 ≥ 0 then (if 0≤x2 then (if x2 < (x0.length : Int) then ((some (x0.set (x2 : Int).toNat (((rd x0 x2)+1) % 256) : List Int)).bind fun y118=>(if (rd y118 x2)=0 then (coder_carry.l0 k y118 (wrap64 (x2 - 1))) else (some y118))) else (none)) else (none)) else (some x0)
def coder_carry.f (k : Nat) (l0 : List Int) : Option (List Int):=coder_carry.l0 k l0 (wrap64 ((l0.length : Int) - 1))
theorem coder_carry.mono_l : ∀ k,(∀ y0 y1,LeO (coder_carry.l0 k y0 y1) (coder_carry.l0 (k+1) y0 y1))
 | 0=>fun _ _ r h=>by simp [coder_carry.l0] at h
 | k+1=>by
  have ih0:=coder_carry.mono_l k
  ·
   intro y0 y1
   unfold coder_carry.l0
   repeat' first
   | (with_reducible exact ih0 _ _)
   | (with_reducible exact LeO.refl _)
   | (with_reducible exact LeO.none _)
   | (with_reducible refine LeO.ite ?_ ?_)
   | (with_reducible refine LeO.bind ?_ (fun _ => ?_))
   | exact ih0 _ _
   | exact LeO.none _
   | refine LeO.ite ?_ ?_
   | refine LeO.bind ?_ (fun _ => ?_)
theorem coder_carry.mono : ∀ a0 k,LeO (coder_carry.f k a0) (coder_carry.f (k+1) a0):=by
 intro a0 k
 have ih0:=coder_carry.mono_l k
 unfold coder_carry.f
 repeat' first
   | (with_reducible exact ih0 _ _)
   | (with_reducible exact LeO.refl _)
   | (with_reducible exact LeO.none _)
   | (with_reducible refine LeO.ite ?_ ?_)
   | (with_reducible refine LeO.bind ?_ (fun _ => ?_))
   | exact ih0 _ _
   | exact LeO.none _
   | refine LeO.ite ?_ ?_
   | refine LeO.bind ?_ (fun _ => ?_)
set_option maxHeartbeats 8000000 in
set_option maxRecDepth 100000 in
theorem coder_carry.calls (k : Nat) (P0_ : Nat→Prop) (u9000_ : Value) (l0 : List Int) (r : List Int) (w0 w : World) (hB : Below w0.heap.size w0 w) (ho0 : Kd.R (Kd.int .u8) 5 w w0.heap.size P0_ u9000_ l0) (h : coder_carry.f k l0=some r) :
  Calls Try.prog 54 #[u9000_] w fun e w' => e=.returned (.tuple #[])∧Kd.R (Kd.int .u8) 5 w' w0.heap.size (fun k_=>(P0_ k_∨w.heap.size≤k_)) u9000_ r∧Below w0.heap.size w0 w'∧Kept w w' (fun k_=>P0_ k_):=by
 have HO0:=zm (show Kd.R (Kd.int .u8) 5 w w0.heap.size (fun k_=>(P0_ k_∨w.heap.size≤k_)) u9000_ l0 from zG ho0 (fun k_ hk=>(.inl hk)))
 have HK:=zm (Kept.refl w (fun k_=>P0_ k_))
 have HW0:=zm hB.size;have HB:=zm hB;clear hB
 have H : (coder_carry.l0 k l0 (wrap64 ((l0.length : Int) - 1)))=some r:=h
 clear h
 have H' := zm H
 clear H
 obtain ⟨Ao2,co2,eo2⟩:=Kd.R_slice HO0.out
 subst eo2
 go_enter Try.func54,Try.ntmps54
 go_wp2
 go_step3
 go_wp2
 go_step3
 go_wp2
 go_loopg [2] k (fun kq v2 w' => ∃ (x0_1 : List Int) (x2_1 : Int),v2=.int .i64 x2_1∧Aside0 (coder_carry.l0 kq x0_1 x2_1=some r)∧Aside0 (kq≤k)∧Aside0 (Kd.R (Kd.int .u8) 5 w' w0.heap.size (fun k_=>(P0_ k_∨w.heap.size≤k_)) (.slice Ao2 l0.length co2) x0_1)∧Aside0 (Kept w w' (fun k_=>P0_ k_))∧Aside0 (Below w0.heap.size w0 w'))
 case atStart=>exact ⟨(l0),(wrap64 ((l0.length : Int) - 1)),(by first|rfl|(simp;done)|(simp [*];done)),H',⟨Nat.le_refl _⟩,⟨by (with_reducible repeat (first|apply zo|apply zp|apply zq));exact HO0.out⟩,⟨by repeat (first|(with_reducible first|exact HK.out|apply Kept.alloc|apply Kept.drewN|apply Kept.drew)|exact HK.out)⟩,⟨by repeat (first|(with_reducible first|exact HB.out|apply ze|apply zd|apply zf)|exact HB.out)⟩⟩
 case round =>
  clear H'
  try clear p2
  obtain ⟨x0_1,x2_1,rfl,HA,HK1,HO_0,HK,HB⟩:=hrel
  have hl0_1:=(Kd.R_reads' HO_0.out).1
  rw [hl0_1] at HO_0
  (try simp only [hl0_1])
  cases gk with
  | zero=>exact absurd HA.out (by simp [coder_carry.l0])
  | succ k1 =>
   have H:=HA.out;clear HA
   simp only [coder_carry.l0] at H
   by_cases c3 : x2_1 ≥ 0
   ·
    rw [if_pos c3] at H
    have c3b0 : decide (0≤x2_1)=true:=decide_eq_true c3
    clear c3
    by_cases c4 : 0≤x2_1
    ·
     rw [if_pos c4] at H
     have c4b0 : decide (0≤x2_1)=true:=decide_eq_true c4
     clear c4
     by_cases c5 : x2_1 < (x0_1.length : Int)
     ·
      rw [if_pos c5] at H
      have c5b0 : decide (x2_1 < (x0_1.length : Int))=true:=decide_eq_true c5
      clear c5
      obtain ⟨y118,hy118⟩ : ∃ y_ : List Int,y_=(x0_1.set (x2_1 : Int).toNat (((rd x0_1 x2_1)+1) % 256)):=⟨_,rfl⟩
      replace H : (if (rd y118 x2_1)=0 then (coder_carry.l0 k1 y118 (wrap64 (x2_1 - 1))) else (some y118))=some r:=by first|(rw [hy118];with_reducible exact H)|(have H2_:=(Option.bind_some _ _).symm.trans H;rw [hy118];with_reducible exact H2_)|(have H2_:=(Option.bind_some _ _).symm.trans H;with_reducible exact H2_)|with_reducible exact H|(rw [hy118];exact H)|exact H
      have Ny118:=zm hy118;clear hy118
      by_cases c7 : (rd y118 x2_1)=0
      ·
       rw [if_pos c7] at H
       have c7b0 : ((rd y118 x2_1) == 0)=true:=beq_iff_eq.mpr c7
       have c7b1 : ((rd y118 x2_1) != 0)=false:=bne_eq_false_iff_eq.mpr c7
       clear c7
       have H' := zm H
       clear H
       have p117 : 0≤(x2_1 : Int):=of_decide_eq_true (by first|(with_reducible assumption)|assumption)
       have q117 : x2_1 < (x0_1.length : Int):=of_decide_eq_true (by first|(with_reducible assumption)|assumption)
       obtain ⟨ad117,e117,hx117_0⟩:=Kd.at_int (Kd.R_reads' HO_0.out).2.2 x2_1 p117 q117
       cases e117
       replace p117:=eq_true p117
       replace q117:=eq_true q117
       have p6 : 0≤(x2_1 : Int):=of_decide_eq_true (by first|(with_reducible assumption)|assumption)
       have q6 : (x2_1 : Int) < ((x0_1.length : Int) : Int):=of_decide_eq_true (by first|(with_reducible assumption)|assumption)
       obtain ⟨go6,co6,eo6,gb6,gl6,cl6,HG6⟩:=Kd.R_form HO_0.out (by omega)
       (first|cases eo6|(injection eo6 with ea_ en_ ec_;(first|subst ea_|(injection ea_ with ea_;subst ea_));subst ec_;clear en_))
       have GB6:=zm gb6;have GG6:=zm HG6;clear gb6 gl6 HG6
       have HMgo6:=zm (show (P0_ go6∨w.heap.size≤go6) from (HO_0.out.1 _ rfl))
       (first|simp only [add_plain] at hx117_0|skip)
       obtain ⟨hx6_0,hf6_0⟩:=Kd.R_celln 0 HO_0.out (x2_1 : Int) p6 q6
       replace p6:=eq_true p6
       replace q6:=eq_true q6
       have HP8:=Kd.R_putg HO_0.out (x2_1 : Int) (((rd x0_1 x2_1)+1) % 256)
       go_wp2_with (first|((with_reducible refine gate_store (t:=5) (p:=15) rfl ?_);refine store_event (t:=5) (p:=15) (v := ?vo_w9) (w1:=(wr.setCell ⟨go6,(x2_1 : Int).toNat,none⟩ (.int .u8 (((rd x0_1 x2_1)+1) % 256)))) ?hg ?ho ?hn ?hr ?_;(case ho=>rfl);(case hg=>rfl);(case hn=>rfl);(case hr=>first|(go_simp;done)|(go_simp;rfl));intro w9 hw;have hg : wr.grownBy w9 (some go6):=(by rw [hw];exact HP8.2);have hp_ : Kd.R (Kd.int .u8) 5 w9 w0.heap.size (fun k_=>(P0_ k_∨w.heap.size≤k_)) (.slice (some ⟨go6,0,none⟩) x0_1.length co2) y118:=(by rw [hw,Ny118.out];exact HP8.1);clear HP8;have n0_:=zm (hp_);have n1_:=zm ((by rw [hw];exact zk (HB.out) GB6.out : Below w0.heap.size w0 w9));have n2_:=zm (Kept.of_grown (S:=(fun k_=>P0_ k_)) hg (by repeat (first|(with_reducible first|exact HK.out|apply Kept.alloc|apply Kept.drewN|apply Kept.drew)|exact HK.out)) (fun k_ e_=>(HO_0.out.1 k_ e_)));clear HO_0;clear HB;clear HK;have HO_0:=n0_;have HB:=n1_;have HK:=n2_;clear n0_ n1_ n2_;clear hg hw hp_;have p119 : 0≤(x2_1 : Int):=of_decide_eq_true (by first|(with_reducible assumption)|assumption);have q119 : x2_1 < (y118.length : Int):=(by have h_ : (x2_1 : Int) < ((x0_1.length : Int) : Int):=of_decide_eq_true (by first|(with_reducible assumption)|assumption);first|(have e_:=(Kd.R_reads' HO_0.out).1;omega)|simpa only [Ny118.out,List.length_set] using h_);have ql119 : ((x2_1 : Int) < ((x0_1.length : Int) : Int))=True:=eq_true (of_decide_eq_true (by first|(with_reducible assumption)|assumption));obtain ⟨ad119,e119,hx119_0⟩:=Kd.at_int (Kd.R_reads' HO_0.out).2.2 x2_1 p119 q119;obtain rfl : (⟨go6,0,none⟩ : Addr)=ad119:=(by injection e119);(first|simp only [add_plain] at hx119_0|simp only [add_at] at hx119_0|simp only [Addr.add,Nat.zero_add] at hx119_0|skip);replace p119:=eq_true p119;replace q119:=eq_true q119))
       (try simp only [← hl0_1])
       go_roundg k1
       case measure=>have:=HK1.out;omega
       case rel=>exact ⟨(y118),(wrap64 (x2_1 - 1)),(by first|rfl|(simp;done)|(simp [*];done)),H',⟨by have:=HK1.out;omega⟩,⟨by (try simp only [hl0_1]);(with_reducible repeat (first|apply zo|apply zp|apply zq));exact HO_0.out⟩,⟨by repeat (first|(with_reducible first|exact HK.out|apply Kept.alloc|apply Kept.drewN|apply Kept.drew)|exact HK.out)⟩,⟨by repeat (first|(with_reducible first|exact HB.out|apply ze|apply zd|apply zf)|exact HB.out)⟩⟩
      ·
       rw [if_neg c7] at H
       have c7b0 : ((rd y118 x2_1) == 0)=false:=beq_eq_false_iff_ne.mpr c7
       have c7b1 : ((rd y118 x2_1) != 0)=true:=bne_iff_ne.mpr c7
       obtain rfl:=Option.some.inj H
       have p117 : 0≤(x2_1 : Int):=of_decide_eq_true (by first|(with_reducible assumption)|assumption)
       have q117 : x2_1 < (x0_1.length : Int):=of_decide_eq_true (by first|(with_reducible assumption)|assumption)
       obtain ⟨ad117,e117,hx117_0⟩:=Kd.at_int (Kd.R_reads' HO_0.out).2.2 x2_1 p117 q117
       cases e117
       replace p117:=eq_true p117
       replace q117:=eq_true q117
       have p6 : 0≤(x2_1 : Int):=of_decide_eq_true (by first|(with_reducible assumption)|assumption)
       have q6 : (x2_1 : Int) < ((x0_1.length : Int) : Int):=of_decide_eq_true (by first|(with_reducible assumption)|assumption)
       obtain ⟨go6,co6,eo6,gb6,gl6,cl6,HG6⟩:=Kd.R_form HO_0.out (by omega)
       (first|cases eo6|(injection eo6 with ea_ en_ ec_;(first|subst ea_|(injection ea_ with ea_;subst ea_));subst ec_;clear en_))
       have GB6:=zm gb6;have GG6:=zm HG6;clear gb6 gl6 HG6
       have HMgo6:=zm (show (P0_ go6∨w.heap.size≤go6) from (HO_0.out.1 _ rfl))
       (first|simp only [add_plain] at hx117_0|skip)
       obtain ⟨hx6_0,hf6_0⟩:=Kd.R_celln 0 HO_0.out (x2_1 : Int) p6 q6
       replace p6:=eq_true p6
       replace q6:=eq_true q6
       have HP10:=Kd.R_putg HO_0.out (x2_1 : Int) (((rd x0_1 x2_1)+1) % 256)
       go_wp2_with (first|((with_reducible refine gate_store (t:=5) (p:=15) rfl ?_);refine store_event (t:=5) (p:=15) (v := ?vo_w11) (w1:=(wr.setCell ⟨go6,(x2_1 : Int).toNat,none⟩ (.int .u8 (((rd x0_1 x2_1)+1) % 256)))) ?hg ?ho ?hn ?hr ?_;(case ho=>rfl);(case hg=>rfl);(case hn=>rfl);(case hr=>first|(go_simp;done)|(go_simp;rfl));intro w11 hw;have hg : wr.grownBy w11 (some go6):=(by rw [hw];exact HP10.2);have hp_ : Kd.R (Kd.int .u8) 5 w11 w0.heap.size (fun k_=>(P0_ k_∨w.heap.size≤k_)) (.slice (some ⟨go6,0,none⟩) x0_1.length co2) y118:=(by rw [hw,Ny118.out];exact HP10.1);clear HP10;have n0_:=zm (hp_);have n1_:=zm ((by rw [hw];exact zk (HB.out) GB6.out : Below w0.heap.size w0 w11));have n2_:=zm (Kept.of_grown (S:=(fun k_=>P0_ k_)) hg (by repeat (first|(with_reducible first|exact HK.out|apply Kept.alloc|apply Kept.drewN|apply Kept.drew)|exact HK.out)) (fun k_ e_=>(HO_0.out.1 k_ e_)));clear HO_0;clear HB;clear HK;have HO_0:=n0_;have HB:=n1_;have HK:=n2_;clear n0_ n1_ n2_;clear hg hw hp_;have p119 : 0≤(x2_1 : Int):=of_decide_eq_true (by first|(with_reducible assumption)|assumption);have q119 : x2_1 < (y118.length : Int):=(by have h_ : (x2_1 : Int) < ((x0_1.length : Int) : Int):=of_decide_eq_true (by first|(with_reducible assumption)|assumption);first|(have e_:=(Kd.R_reads' HO_0.out).1;omega)|simpa only [Ny118.out,List.length_set] using h_);have ql119 : ((x2_1 : Int) < ((x0_1.length : Int) : Int))=True:=eq_true (of_decide_eq_true (by first|(with_reducible assumption)|assumption));obtain ⟨ad119,e119,hx119_0⟩:=Kd.at_int (Kd.R_reads' HO_0.out).2.2 x2_1 p119 q119;obtain rfl : (⟨go6,0,none⟩ : Addr)=ad119:=(by injection e119);(first|simp only [add_plain] at hx119_0|simp only [add_at] at hx119_0|simp only [Addr.add,Nat.zero_add] at hx119_0|skip);replace p119:=eq_true p119;replace q119:=eq_true q119))
       first|go_end0|((try simp only [Exit.inBlock,Exit.then]);refine bodyPost_ret (results_none rfl _ _ _) rfl ?_)
       exact ⟨by first|rfl|(simp [errW_none,errW_some] <;> rfl)|(simp [*,errW_none,errW_some] <;> rfl),(by first|exact (by (with_reducible repeat (first|apply zo|apply zp|apply zq));exact HO_0.out)|(simp only [hl0_1];exact (by (with_reducible repeat (first|apply zo|apply zp|apply zq));exact HO_0.out))),by repeat (first|(with_reducible first|exact HB.out|apply ze|apply zd|apply zf)|exact HB.out),by repeat (first|(with_reducible first|exact HK.out|apply Kept.alloc|apply Kept.drewN|apply Kept.drew)|exact HK.out)⟩
     ·
      rw [if_neg c5] at H
      exact absurd H (by simp)
    ·
     rw [if_neg c4] at H
     exact absurd H (by simp)
   ·
    rw [if_neg c3] at H
    have c3b0 : decide (0≤x2_1)=false:=decide_eq_false c3
    clear c3
    obtain rfl:=Option.some.inj H
    go_wp2
    first|go_end0|((try simp only [Exit.inBlock,Exit.then]);refine bodyPost_ret (results_none rfl _ _ _) rfl ?_)
    exact ⟨by first|rfl|(simp [errW_none,errW_some] <;> rfl)|(simp [*,errW_none,errW_some] <;> rfl),(by first|exact (by (with_reducible repeat (first|apply zo|apply zp|apply zq));exact HO_0.out)|(simp only [hl0_1];exact (by (with_reducible repeat (first|apply zo|apply zp|apply zq));exact HO_0.out))),by repeat (first|(with_reducible first|exact HB.out|apply ze|apply zd|apply zf)|exact HB.out),by repeat (first|(with_reducible first|exact HK.out|apply Kept.alloc|apply Kept.drewN|apply Kept.drew)|exact HK.out)⟩

end Go.Proofs.Ytkaoiblgfpphoaa.Prt

namespace Go.Proofs.Ytkaoiblgfpphoaa.Prt
open Go.RowKit Go.Proofs.YtkaoiblgfpphoaaW.PrintWords Go.Proofs.YtkaoiblgfpphoaaW.PrintLast Go.Proofs.YtkaoiblgfpphoaaW.PrintMore
attribute [local go_sem] max2_int min2_int max_two min_two max_three min_three max_four min_four   -- for this text's walks alone
set_option linter.unusedVariables false
set_option linter.unusedSimpArgs false

/-! ### coder_fair: function 52 -/
def coder_fair.f (a0 : Int) (a1 : Int) (a2 : Int) : Option (Bool):=if a0 ≥ 0 then (if a0 < a1 then (if a1≤a2 then (some (decide (a2≤65536))) else (some false)) else (some false)) else (some false)
set_option maxHeartbeats 8000000 in
set_option maxRecDepth 100000 in
theorem coder_fair.calls (a0 : Int) (a1 : Int) (a2 : Int) (r : Bool) (w : World) (h : coder_fair.f a0 a1 a2=some r) :
  Calls Try.prog 52 #[.int .i64 a0, .int .i64 a1, .int .i64 a2] w fun e w' => e=.returned (.bool r)∧Drawn0 w w' := by
 have H : (if a0 ≥ 0 then (if a0 < a1 then (if a1≤a2 then (some (decide (a2≤65536))) else (some false)) else (some false)) else (some false))=some r:=h
 clear h
 by_cases c4 : a0 ≥ 0
 ·
  rw [if_pos c4] at H
  have c4b0 : decide (0≤a0)=true:=decide_eq_true c4
  clear c4
  by_cases c5 : a0 < a1
  ·
   rw [if_pos c5] at H
   have c5b0 : decide (a0 < a1)=true:=decide_eq_true c5
   clear c5
   by_cases c6 : a1≤a2
   ·
    rw [if_pos c6] at H
    have c6b0 : decide (a1≤a2)=true:=decide_eq_true c6
    clear c6
    obtain rfl:=Option.some.inj H
    go_enter Try.func52,Try.ntmps52
    go_wp2
    go_ret
    exact ⟨by first|rfl|(simp;done)|(simp [*];done),by repeat (first|exact Drawn0.refl _|apply Drawn0.step)⟩
   ·
    rw [if_neg c6] at H
    have c6b0 : decide (a1≤a2)=false:=decide_eq_false c6
    clear c6
    obtain rfl:=Option.some.inj H
    go_enter Try.func52,Try.ntmps52
    go_wp2
    go_ret
    exact ⟨by first|rfl|(simp;done)|(simp [*];done),by repeat (first|exact Drawn0.refl _|apply Drawn0.step)⟩
  ·
   rw [if_neg c5] at H
   have c5b0 : decide (a0 < a1)=false:=decide_eq_false c5
   clear c5
   obtain rfl:=Option.some.inj H
   go_enter Try.func52,Try.ntmps52
   go_wp2
   go_ret
   exact ⟨by first|rfl|(simp;done)|(simp [*];done),by repeat (first|exact Drawn0.refl _|apply Drawn0.step)⟩
 ·
  rw [if_neg c4] at H
  have c4b0 : decide (0≤a0)=false:=decide_eq_false c4
  clear c4
  obtain rfl:=Option.some.inj H
  go_enter Try.func52,Try.ntmps52
  go_wp2
  go_ret
  exact ⟨by first|rfl|(simp;done)|(simp [*];done),by repeat (first|exact Drawn0.refl _|apply Drawn0.step)⟩

end Go.Proofs.Ytkaoiblgfpphoaa.Prt

namespace Go.Proofs.Ytkaoiblgfpphoaa.Prt
open Go.RowKit Go.Proofs.YtkaoiblgfpphoaaW.PrintWords Go.Proofs.YtkaoiblgfpphoaaW.PrintLast Go.Proofs.YtkaoiblgfpphoaaW.PrintMore
attribute [local go_sem] max2_int min2_int max_two min_two max_three min_three max_four min_four   -- for this text's walks alone
set_option linter.unusedVariables false
set_option linter.unusedSimpArgs false

/-! ### coder_New: function 29 -/
def coder_New.f  : Option (Int × Int × List Int):=some (0,4294967295,([] : List Int))
set_option maxHeartbeats 8000000 in
set_option maxRecDepth 100000 in
theorem coder_New.calls  (r1 : Int) (r2 : Int) (r3 : List Int) (w : World) (h : coder_New.f  = some (r1,r2,r3)) :
  Calls Try.prog 29 #[] w fun e w' => ∃ v2_ : Value,e=.returned (.agg #[.int .u64 r1, .int .u32 r2,v2_])∧Kd.R (Kd.int .u8) 5 w' w.heap.size (fun _=>True) v2_ r3∧Below w.heap.size w w' := by
 have hu26:=Try.underlying26;have HB:=zm (Below.refl w.heap.size w)
 have H : (some (0,4294967295,([] : List Int)))=some (r1,r2,r3):=h
 clear h
 simp only [Option.some.injEq,Prod.mk.injEq] at H
 obtain ⟨rfl,rfl,rfl⟩:=H
 go_enter Try.func29,Try.ntmps29
 go_wp2_with (first|((with_reducible refine gate_dst (N:=0) rfl ?_);refine box_event ?hg (N:=0) ?hd (cs := #[.int .u64 0, .int .u32 0, .slice none 0 0]) (t:=26) ?hr ?_;(case hd=>rfl);(case hg=>rfl);(case hr=>first|(go_simp;done)|(go_simp;rfl));intro gb102 hg w1 hbox hb;have n0_:=zm (zJ (by repeat (first|(with_reducible first|exact HB.out|apply ze|apply zd|apply zf)|exact HB.out)) hb);have n1_:=zm (hbox);have n2_:=zm ((by rw [hg];exact (zE (by repeat (first|(with_reducible first|exact HB.out|apply ze|apply zd|apply zf)|exact HB.out))) : w.heap.size≤gb102));have n3_:=zm ((by rw [hg];exact (zE (by repeat (first|(with_reducible first|exact HB.out|apply ze|apply zd|apply zf)|exact HB.out))) : w.heap.size≤gb102));clear HB;have HB:=n0_;have BK102:=n1_;have GW102:=n2_;have GE102:=n3_;clear n0_ n1_ n2_ n3_;clear hb hbox hg;have hcz2_0 : w1.cell? ⟨gb102,0,none⟩=some (.int .u64 0):=(zs BK102.out 0).trans rfl;have hcz2_1 : w1.cell? ⟨gb102,1,none⟩=some (.int .u32 0):=(zs BK102.out 1).trans rfl;have hcz2_2 : w1.cell? ⟨gb102,2,none⟩=some (.slice none 0 0):=(zs BK102.out 2).trans rfl;have hfz2_0:=zx BK102.out 0;have hfz2_1:=zx BK102.out 1;have hfz2_2:=zx BK102.out 2))
 refine bodyPost_ret (results_cell_row rfl _ _ gb102 26 #[.int .u64 0, .int .u32 4294967295, .slice none 0 0] (0,0) _ rfl (by (with_reducible repeat (first|refine zh ?_ _|refine zj ?_|refine zi ?_ _));refine zw (cs := #[.int .u64 0, .int .u32 4294967295, .slice none 0 0]) ?_ 2 _ rfl;(with_reducible repeat (first|refine zh ?_ _|refine zj ?_|refine zi ?_ _));refine zw (cs := #[.int .u64 0, .int .u32 0, .slice none 0 0]) ?_ 1 _ rfl;(with_reducible repeat (first|refine zh ?_ _|refine zj ?_|refine zi ?_ _));refine zw (cs := #[.int .u64 0, .int .u32 0, .slice none 0 0]) ?_ 0 _ rfl;(with_reducible repeat (first|refine zh ?_ _|refine zj ?_|refine zi ?_ _));exact BK102.out) Try.underlying26 rfl (by kernel_rfl)) rfl ?_
 exact ⟨_,by first|rfl|(simp [errW_none,errW_some] <;> rfl)|(simp [*,errW_none,errW_some] <;> rfl),by first|exact Kd.R_nil _ _ _ _ _|exact Kd.N_nil _ _ _ _ _|exact Kd.V_nil _ _ _ _ _|exact Kd.Q_nil _ _ _ _ _|exact Kd.S_nil _ _ _ _ _,by repeat (first|(with_reducible first|exact HB.out|apply ze|apply zd|apply zf|refine zk ?_ GE102.out)|exact HB.out)⟩

end Go.Proofs.Ytkaoiblgfpphoaa.Prt

namespace Go.Proofs.Ytkaoiblgfpphoaa.Prt
open Go.RowKit Go.Proofs.YtkaoiblgfpphoaaW.PrintWords Go.Proofs.YtkaoiblgfpphoaaW.PrintLast Go.Proofs.YtkaoiblgfpphoaaW.PrintMore
attribute [local go_sem] max2_int min2_int max_two min_two max_three min_three max_four min_four   -- for this text's walks alone
set_option linter.unusedVariables false
set_option linter.unusedSimpArgs false

/-! ### coder_RightEnc: function 21 -/
def coder_RightEnc.f (a0_0 : Int) (a0_1 : Int) (l0_2 : List Int) : Option (Bool):=if a0_0≤4294967295 then (if a0_1 ≥ 16777216 then (some (decide ((l0_2.length : Int)≤4000))) else (some false)) else (some false)
set_option maxHeartbeats 8000000 in
set_option maxRecDepth 100000 in
theorem coder_RightEnc.calls (a0_0 : Int) (a0_1 : Int) (A0_2 : Option Addr) (c0_2 : Nat) (l0_2 : List Int) (r : Bool) (w : World) (hr0_2 : Kd.C (Kd.int .u8) w A0_2 l0_2.length l0_2) (hc0_2 : l0_2.length≤c0_2) (h : coder_RightEnc.f a0_0 a0_1 l0_2=some r) :
  Calls Try.prog 21 #[.agg #[.int .u64 a0_0, .int .u32 a0_1, .slice A0_2 l0_2.length c0_2]] w fun e w' => e=.returned (.bool r)∧Below w.heap.size w w' := by
 have hu26:=Try.underlying26;have HR0_2:=zm hr0_2;have HC0_2:=zm hc0_2;clear hr0_2 hc0_2;have HB:=zm (Below.refl w.heap.size w)
 have H : (if a0_0≤4294967295 then (if a0_1 ≥ 16777216 then (some (decide ((l0_2.length : Int)≤4000))) else (some false)) else (some false))=some r:=h
 clear h
 by_cases c2 : a0_0≤4294967295
 ·
  rw [if_pos c2] at H
  have c2b0 : decide (a0_0≤4294967295)=true:=decide_eq_true c2
  clear c2
  by_cases c3 : a0_1 ≥ 16777216
  ·
   rw [if_pos c3] at H
   have c3b0 : decide (16777216≤a0_1)=true:=decide_eq_true c3
   clear c3
   obtain rfl:=Option.some.inj H
   go_enter Try.func21,Try.ntmps21
   go_wp2_with (first|((with_reducible refine gate_dst (N:=1) rfl ?_);(try (refine gate_guard (by rfl) ?_;dsimp only));refine box_event ?hg (N:=1) ?hd (cs := #[.int .u64 a0_0, .int .u32 a0_1, .slice A0_2 l0_2.length c0_2]) (t:=26) ?hr ?_;(case hd=>rfl);(case hg=>rfl);(case hr=>first|(go_simp;done)|(go_simp;rfl));intro gb101 hg w4 hbox hb;have n0_:=zm (zJ (by repeat (first|(with_reducible first|exact HB.out|apply ze|apply zd|apply zf)|exact HB.out)) hb);have n1_:=zm (hbox);have n2_:=zm ((by rw [hg];exact (zE (by repeat (first|(with_reducible first|exact HB.out|apply ze|apply zd|apply zf)|exact HB.out))) : w.heap.size≤gb101));have n3_:=zm ((by rw [hg];exact (zE (by repeat (first|(with_reducible first|exact HB.out|apply ze|apply zd|apply zf)|exact HB.out))) : w.heap.size≤gb101));clear HB;have HB:=n0_;have BK101:=n1_;have GW101:=n2_;have GE101:=n3_;clear n0_ n1_ n2_ n3_;clear hb hbox hg;have hcz5_0 : w4.cell? ⟨gb101,0,none⟩=some (.int .u64 a0_0):=(zs BK101.out 0).trans rfl;have hcz5_1 : w4.cell? ⟨gb101,1,none⟩=some (.int .u32 a0_1):=(zs BK101.out 1).trans rfl;have hcz5_2 : w4.cell? ⟨gb101,2,none⟩=some (.slice A0_2 l0_2.length c0_2):=(zs BK101.out 2).trans rfl;have hfz5_0:=zx BK101.out 0;have hfz5_1:=zx BK101.out 1;have hfz5_2:=zx BK101.out 2))
   go_ret
   exact ⟨by first|rfl|(simp [errW_none,errW_some] <;> rfl)|(simp [*,errW_none,errW_some] <;> rfl),by repeat (first|(with_reducible first|exact HB.out|apply ze|apply zd|apply zf|refine zk ?_ GE101.out)|exact HB.out)⟩
  ·
   rw [if_neg c3] at H
   have c3b0 : decide (16777216≤a0_1)=false:=decide_eq_false c3
   clear c3
   obtain rfl:=Option.some.inj H
   go_enter Try.func21,Try.ntmps21
   go_wp2_with (first|((with_reducible refine gate_dst (N:=1) rfl ?_);(try (refine gate_guard (by rfl) ?_;dsimp only));refine box_event ?hg (N:=1) ?hd (cs := #[.int .u64 a0_0, .int .u32 a0_1, .slice A0_2 l0_2.length c0_2]) (t:=26) ?hr ?_;(case hd=>rfl);(case hg=>rfl);(case hr=>first|(go_simp;done)|(go_simp;rfl));intro gb101 hg w6 hbox hb;have n0_:=zm (zJ (by repeat (first|(with_reducible first|exact HB.out|apply ze|apply zd|apply zf)|exact HB.out)) hb);have n1_:=zm (hbox);have n2_:=zm ((by rw [hg];exact (zE (by repeat (first|(with_reducible first|exact HB.out|apply ze|apply zd|apply zf)|exact HB.out))) : w.heap.size≤gb101));have n3_:=zm ((by rw [hg];exact (zE (by repeat (first|(with_reducible first|exact HB.out|apply ze|apply zd|apply zf)|exact HB.out))) : w.heap.size≤gb101));clear HB;have HB:=n0_;have BK101:=n1_;have GW101:=n2_;have GE101:=n3_;clear n0_ n1_ n2_ n3_;clear hb hbox hg;have hcz7_0 : w6.cell? ⟨gb101,0,none⟩=some (.int .u64 a0_0):=(zs BK101.out 0).trans rfl;have hcz7_1 : w6.cell? ⟨gb101,1,none⟩=some (.int .u32 a0_1):=(zs BK101.out 1).trans rfl;have hcz7_2 : w6.cell? ⟨gb101,2,none⟩=some (.slice A0_2 l0_2.length c0_2):=(zs BK101.out 2).trans rfl;have hfz7_0:=zx BK101.out 0;have hfz7_1:=zx BK101.out 1;have hfz7_2:=zx BK101.out 2))
   go_ret
   exact ⟨by first|rfl|(simp [errW_none,errW_some] <;> rfl)|(simp [*,errW_none,errW_some] <;> rfl),by repeat (first|(with_reducible first|exact HB.out|apply ze|apply zd|apply zf|refine zk ?_ GE101.out)|exact HB.out)⟩
 ·
  rw [if_neg c2] at H
  have c2b0 : decide (a0_0≤4294967295)=false:=decide_eq_false c2
  clear c2
  obtain rfl:=Option.some.inj H
  go_enter Try.func21,Try.ntmps21
  go_wp2_with (first|((with_reducible refine gate_dst (N:=1) rfl ?_);(try (refine gate_guard (by rfl) ?_;dsimp only));refine box_event ?hg (N:=1) ?hd (cs := #[.int .u64 a0_0, .int .u32 a0_1, .slice A0_2 l0_2.length c0_2]) (t:=26) ?hr ?_;(case hd=>rfl);(case hg=>rfl);(case hr=>first|(go_simp;done)|(go_simp;rfl));intro gb101 hg w8 hbox hb;have n0_:=zm (zJ (by repeat (first|(with_reducible first|exact HB.out|apply ze|apply zd|apply zf)|exact HB.out)) hb);have n1_:=zm (hbox);have n2_:=zm ((by rw [hg];exact (zE (by repeat (first|(with_reducible first|exact HB.out|apply ze|apply zd|apply zf)|exact HB.out))) : w.heap.size≤gb101));have n3_:=zm ((by rw [hg];exact (zE (by repeat (first|(with_reducible first|exact HB.out|apply ze|apply zd|apply zf)|exact HB.out))) : w.heap.size≤gb101));clear HB;have HB:=n0_;have BK101:=n1_;have GW101:=n2_;have GE101:=n3_;clear n0_ n1_ n2_ n3_;clear hb hbox hg;have hcz9_0 : w8.cell? ⟨gb101,0,none⟩=some (.int .u64 a0_0):=(zs BK101.out 0).trans rfl;have hcz9_1 : w8.cell? ⟨gb101,1,none⟩=some (.int .u32 a0_1):=(zs BK101.out 1).trans rfl;have hcz9_2 : w8.cell? ⟨gb101,2,none⟩=some (.slice A0_2 l0_2.length c0_2):=(zs BK101.out 2).trans rfl;have hfz9_0:=zx BK101.out 0;have hfz9_1:=zx BK101.out 1;have hfz9_2:=zx BK101.out 2))
  go_ret
  exact ⟨by first|rfl|(simp [errW_none,errW_some] <;> rfl)|(simp [*,errW_none,errW_some] <;> rfl),by repeat (first|(with_reducible first|exact HB.out|apply ze|apply zd|apply zf|refine zk ?_ GE101.out)|exact HB.out)⟩

end Go.Proofs.Ytkaoiblgfpphoaa.Prt

namespace Go.Proofs.Ytkaoiblgfpphoaa.Prt
open Go.RowKit Go.Proofs.YtkaoiblgfpphoaaW.PrintWords Go.Proofs.YtkaoiblgfpphoaaW.PrintLast Go.Proofs.YtkaoiblgfpphoaaW.PrintMore
attribute [local go_sem] max2_int min2_int max_two min_two max_three min_three max_four min_four   -- for this text's walks alone
set_option linter.unusedVariables false
set_option linter.unusedSimpArgs false

/-! ### coder_own: function 51 -/
def coder_own.f (a0_0 : Int) (a0_1 : Int) (l0_2 : List Int) : Option (Int × Int × List Int):=(coder_RightEnc.f a0_0 a0_1 l0_2).bind fun t105=>(if t105=true then ((some (([] : List Int) : List Int)).bind fun y106=>(if y106.length+l0_2.length < 140737488355328 then (some (a0_0,a0_1,(y106 ++ l0_2))) else (none))) else ((coder_New.f).bind fun bt112=>(some (bt112.1,bt112.2.1,bt112.2.2))))
set_option maxHeartbeats 8000000 in
set_option maxRecDepth 100000 in
theorem coder_own.calls (a0_0 : Int) (a0_1 : Int) (A0_2 : Option Addr) (c0_2 : Nat) (l0_2 : List Int) (r1 : Int) (r2 : Int) (r3 : List Int) (w : World) (hr0_2 : Kd.C (Kd.int .u8) w A0_2 l0_2.length l0_2) (hc0_2 : l0_2.length≤c0_2) (h : coder_own.f a0_0 a0_1 l0_2=some (r1,r2,r3)) :
  Calls Try.prog 51 #[.agg #[.int .u64 a0_0, .int .u32 a0_1, .slice A0_2 l0_2.length c0_2]] w fun e w' => ∃ v2_ : Value,e=.returned (.agg #[.int .u64 r1, .int .u32 r2,v2_])∧Kd.R (Kd.int .u8) 5 w' w.heap.size (fun _=>True) v2_ r3∧Below w.heap.size w w' := by
 have hu26:=Try.underlying26;have HR0_2:=zm hr0_2;have HC0_2:=zm hc0_2;clear hr0_2 hc0_2;have HB:=zm (Below.refl w.heap.size w)
 have H : ((coder_RightEnc.f a0_0 a0_1 l0_2).bind fun t105=>(if t105=true then ((some (([] : List Int) : List Int)).bind fun y106=>(if y106.length+l0_2.length < 140737488355328 then (some (a0_0,a0_1,(y106 ++ l0_2))) else (none))) else ((coder_New.f).bind fun bt112=>(some (bt112.1,bt112.2.1,bt112.2.2)))))=some (r1,r2,r3):=h
 clear h
 replace H:=Option.bind_eq_some_iff.mp H
 obtain ⟨t105,A20,H⟩:=H
 replace H : (if t105=true then ((some (([] : List Int) : List Int)).bind fun y106=>(if y106.length+l0_2.length < 140737488355328 then (some (a0_0,a0_1,(y106 ++ l0_2))) else (none))) else ((coder_New.f).bind fun bt112=>(some (bt112.1,bt112.2.1,bt112.2.2))))=some (r1,r2,r3):=H
 have A2:=zm A20;clear A20
 by_cases c3 : t105=true
 ·
  subst c3
  have H1 : ((some (([] : List Int) : List Int)).bind fun y106=>(if y106.length+l0_2.length < 140737488355328 then (some (a0_0,a0_1,(y106 ++ l0_2))) else (none)))=some (r1,r2,r3):=by rw [if_pos rfl] at H;exact H
  clear H;have H:=H1;clear H1
  obtain ⟨y106,hy106⟩ : ∃ y_ : List Int,y_=(([] : List Int)):=⟨_,rfl⟩
  replace H : (if y106.length+l0_2.length < 140737488355328 then (some (a0_0,a0_1,(y106 ++ l0_2))) else (none))=some (r1,r2,r3):=by first|(rw [hy106];with_reducible exact H)|(have H2_:=(Option.bind_some _ _).symm.trans H;rw [hy106];with_reducible exact H2_)|(have H2_:=(Option.bind_some _ _).symm.trans H;with_reducible exact H2_)|with_reducible exact H|(rw [hy106];exact H)|exact H
  have Ny106:=zm hy106;clear hy106
  by_cases c4 : y106.length+l0_2.length < 140737488355328
  ·
   rw [if_pos c4] at H
   have LMc4:=zm c4;clear c4
   obtain ⟨y109,hy109⟩ : ∃ y_ : List Int,y_=(y106 ++ l0_2):=⟨_,rfl⟩
   replace H : (some (a0_0,a0_1,y109))=some (r1,r2,r3):=by first|(rw [hy109];with_reducible exact H)|(have H2_:=(Option.bind_some _ _).symm.trans H;rw [hy109];with_reducible exact H2_)|(have H2_:=(Option.bind_some _ _).symm.trans H;with_reducible exact H2_)|with_reducible exact H|(rw [hy109];exact H)|exact H
   have Ny109:=zm hy109;clear hy109
   simp only [Option.some.injEq,Prod.mk.injEq] at H
   obtain ⟨rfl,rfl,rfl⟩:=H
   go_enter Try.func51,Try.ntmps51
   go_wp2_with (first|((with_reducible refine gate_dst (N:=1) rfl ?_);refine box_event ?hg (N:=1) ?hd (cs := #[.int .u64 a0_0, .int .u32 a0_1, .slice A0_2 l0_2.length c0_2]) (t:=26) ?hr ?_;(case hd=>rfl);(case hg=>rfl);(case hr=>first|(go_simp;done)|(go_simp;rfl));intro gb103 hg w5 hbox hb;have n0_:=zm (zJ (by repeat (first|(with_reducible first|exact HB.out|apply ze|apply zd|apply zf)|exact HB.out)) hb);have n1_:=zm (hbox);have n2_:=zm ((by rw [hg];exact (zE (by repeat (first|(with_reducible first|exact HB.out|apply ze|apply zd|apply zf)|exact HB.out))) : w.heap.size≤gb103));have n3_:=zm ((by rw [hg];exact (zE (by repeat (first|(with_reducible first|exact HB.out|apply ze|apply zd|apply zf)|exact HB.out))) : w.heap.size≤gb103));clear HB;have HB:=n0_;have BK103:=n1_;have GW103:=n2_;have GE103:=n3_;clear n0_ n1_ n2_ n3_;clear hb hbox hg)|((with_reducible refine gate_dst (N:=2) rfl ?_);refine box_event ?hg (N:=2) ?hd (cs := #[.int .u64 0, .int .u32 0, .slice none 0 0]) (t:=26) ?hr ?_;(case hd=>rfl);(case hg=>rfl);(case hr=>first|(go_simp;done)|(go_simp;rfl));intro gb104 hg w6 hbox hb;have n0_:=zm (zF (g:=gb103) (o:=.cells #[.int .u64 a0_0, .int .u32 a0_1, .slice A0_2 l0_2.length c0_2] 26 (0,0)) (by (with_reducible repeat (first|refine zh ?_ _|refine zj ?_|refine zi ?_ _));exact BK103.out) hb);have n1_:=zm (zJ (by repeat (first|(with_reducible first|exact HB.out|apply ze|apply zd|apply zf|refine zk ?_ GE103.out)|exact HB.out)) hb);have n2_:=zm (hbox);have n3_:=zm ((by rw [hg];exact (zE (by repeat (first|(with_reducible first|exact HB.out|apply ze|apply zd|apply zf|refine zk ?_ GE103.out)|exact HB.out))) : w.heap.size≤gb104));have n4_:=zm ((by rw [hg];exact (zE (by repeat (first|(with_reducible first|exact HB.out|apply ze|apply zd|apply zf|refine zk ?_ GE103.out)|exact HB.out))) : w.heap.size≤gb104));have n5_:=zm ((by rw [hg];exact zn (zD (g:=gb103) (o:=.cells #[.int .u64 a0_0, .int .u32 a0_1, .slice A0_2 l0_2.length c0_2] 26 (0,0)) (by (with_reducible repeat (first|refine zh ?_ _|refine zj ?_|refine zi ?_ _));exact BK103.out)) : gb103≠gb104));have n6_:=zm ((by rw [hg];exact zg (zD (g:=gb103) (o:=.cells #[.int .u64 a0_0, .int .u32 a0_1, .slice A0_2 l0_2.length c0_2] 26 (0,0)) (by (with_reducible repeat (first|refine zh ?_ _|refine zj ?_|refine zi ?_ _));exact BK103.out)) : gb104≠gb103));clear BK103;clear HB;have BK103:=n0_;have HB:=n1_;have BK104:=n2_;have GW104:=n3_;have GE104:=n4_;have NB103_104:=n5_;have NB104_103:=n6_;clear n0_ n1_ n2_ n3_ n4_ n5_ n6_;clear hb hbox hg;have hnb7:=NB103_104.out;have hnc7:=NB104_103.out;have hcz8_0 : w6.cell? ⟨gb103,0,none⟩=some (.int .u64 a0_0):=(zs BK103.out 0).trans rfl;have hcz8_1 : w6.cell? ⟨gb103,1,none⟩=some (.int .u32 a0_1):=(zs BK103.out 1).trans rfl;have hcz8_2 : w6.cell? ⟨gb103,2,none⟩=some (.slice A0_2 l0_2.length c0_2):=(zs BK103.out 2).trans rfl;have hfz8_0:=zx BK103.out 0;have hfz8_1:=zx BK103.out 1;have hfz8_2:=zx BK103.out 2)|((with_reducible refine gate_callee (f:=21) rfl ?_);refine goesL_ (some 4) rfl rfl Try.func21 (by kernel_rfl) rfl #[.agg #[.int .u64 a0_0, .int .u32 a0_1, .slice A0_2 l0_2.length c0_2]] rfl (by (try simp only [List.map_toArray,List.map_cons,List.map_nil]);first|done|rfl|(simp only [List.length_drop,List.length_take];rfl)) ?_;(with_reducible refine (coder_RightEnc.calls a0_0 a0_1 _ _ l0_2 true _ ?side1 ?side2 A2.out).mono ?_);(case side1=>repeat (first|exact (Kd.C_below HR0_2.out HB.out)|(with_reducible refine Kd.C_alloc ?_ _)|(with_reducible refine Kd.C_drewN ?_ _)|(with_reducible refine Kd.C_drew ?_)));(case side2=>exact HC0_2.out);rintro e w9 ⟨rfl,hb⟩;refine ⟨_,rfl, ?_⟩;have n0_:=zm (zF (g:=gb103) (o:=.cells #[.int .u64 a0_0, .int .u32 a0_1, .slice A0_2 l0_2.length c0_2] 26 (0,0)) (by (with_reducible repeat (first|refine zh ?_ _|refine zj ?_|refine zi ?_ _));exact BK103.out) hb);have n1_:=zm (zF (g:=gb104) (o:=.cells #[.int .u64 0, .int .u32 0, .slice none 0 0] 26 (0,0)) (by (with_reducible repeat (first|refine zh ?_ _|refine zj ?_|refine zi ?_ _));exact BK104.out) hb);have n2_:=zm (zJ (by repeat (first|(with_reducible first|exact HB.out|apply ze|apply zd|apply zf|refine zk ?_ GE103.out|refine zk ?_ GE104.out)|exact HB.out)) hb);clear BK103;clear BK104;clear HB;have BK103:=n0_;have BK104:=n1_;have HB:=n2_;clear n0_ n1_ n2_;(try clear hb);(try clear hb2);(try clear hk);(try clear hi))|((with_reducible refine gate_dst (N:=7) rfl ?_);refine Kd.R_lit (Kd.int .u8) _ 5 ?hg (N:=7) ?hd (xs:=([] : List Int)) (inner := []) (ok:=fun _=>True) (okp:=fun _=>True) ?hr ?hp (fun _ hk=>hk) trivial (Below.refl _ _) (Nat.le_refl _) (by simp) ?_;(case hd=>rfl);(case hg=>rfl);(case hr=>first|(go_simp;done)|(go_simp;rfl));(case hp=>exact (Reps.none _ _));intro v107 w10 ho11 hb hg_ hnew_;clear hg_ hnew_;(first|rw [← Ny106.out] at ho11|(simp only [Int.reduceToNat] at ho11;rw [← Ny106.out] at ho11));have n0_:=zm (Kd.R_lower ho11 (zE (by repeat (first|(with_reducible first|exact HB.out|apply ze|apply zd|apply zf|refine zk ?_ GE103.out|refine zk ?_ GE104.out)|exact HB.out))));have n1_:=zm (zF (g:=gb103) (o:=.cells #[.int .u64 a0_0, .int .u32 a0_1, .slice A0_2 l0_2.length c0_2] 26 (0,0)) (by (with_reducible repeat (first|refine zh ?_ _|refine zj ?_|refine zi ?_ _));exact BK103.out) hb);have n2_:=zm (zF (g:=gb104) (o:=.cells #[.int .u64 0, .int .u32 0, .slice none 0 0] 26 (0,0)) (by (with_reducible repeat (first|refine zh ?_ _|refine zj ?_|refine zi ?_ _));exact BK104.out) hb);have n3_:=zm (zJ (by repeat (first|(with_reducible first|exact HB.out|apply ze|apply zd|apply zf|refine zk ?_ GE103.out|refine zk ?_ GE104.out)|exact HB.out)) hb);clear BK103;clear BK104;clear HB;have HO108:=n0_;have BK103:=n1_;have BK104:=n2_;have HB:=n3_;clear n0_ n1_ n2_ n3_;clear hb ho11;have hcz12_0 : w10.cell? ⟨gb103,0,none⟩=some (.int .u64 a0_0):=(zs BK103.out 0).trans rfl;have hcz12_1 : w10.cell? ⟨gb103,1,none⟩=some (.int .u32 a0_1):=(zs BK103.out 1).trans rfl;have hcz12_2 : w10.cell? ⟨gb103,2,none⟩=some (.slice A0_2 l0_2.length c0_2):=(zs BK103.out 2).trans rfl;have hfz12_0:=zx BK103.out 0;have hfz12_1:=zx BK103.out 1;have hfz12_2:=zx BK103.out 2)|((with_reducible refine gate_builtin (b:=.append) (xs := #[.tmp 7, .tmp 9]) rfl ?_);at_builtin;refine Kd.R_append_rows (Kd.int .u8) (w0:=w) w.heap.size rfl (.tmp 7) (.tmp 9) 24 5 (.int .u8 0) 1 rfl Try.underlying24 info5 rfl (by decide) (by omega) v107 y106 l0_2 _ _ _ (fun _=>True) (fun _=>False) rfl rfl ?aO ?aR (fun _ _ h=>h) (fun _ h=>h.elim) ?aF ?aB ?aS ?aL ?_;(case aR=>repeat (first|exact (Kd.C_below HR0_2.out HB.out)|(with_reducible refine Kd.C_alloc ?_ _)|(with_reducible refine Kd.C_drewN ?_ _)|(with_reducible refine Kd.C_drew ?_)));(case aB=>exact (by repeat (first|(with_reducible first|exact HB.out|apply ze|apply zd|apply zf|refine zk ?_ GE103.out|refine zk ?_ GE104.out)|exact HB.out)));(case aF=>exact (fun _ _=>trivial));(case aO=>exact (by (with_reducible repeat (first|apply zo|apply zp|apply zq));exact HO108.out));(case aS=>exact (zE (by repeat (first|(with_reducible first|exact HB.out|apply ze|apply zd|apply zf|refine zk ?_ GE103.out|refine zk ?_ GE104.out)|exact HB.out))));(case aL=>have:=LMc4.out;omega);intro v110 w13 ho hb hg hat;rw [← Ny109.out] at ho;have n0_:=zm (blk_grown (g:=gb103) (o:=.cells #[.int .u64 a0_0, .int .u32 a0_1, .slice A0_2 l0_2.length c0_2] 26 (0,0)) (by (with_reducible repeat (first|refine zh ?_ _|refine zj ?_|refine zi ?_ _));exact BK103.out) hg (zu HO108.out BK103.out (by decide)));have n1_:=zm (blk_grown (g:=gb104) (o:=.cells #[.int .u64 0, .int .u32 0, .slice none 0 0] 26 (0,0)) (by (with_reducible repeat (first|refine zh ?_ _|refine zj ?_|refine zi ?_ _));exact BK104.out) hg (zu HO108.out BK104.out (by decide)));have n2_:=zm (hb);have n3_:=zm (ho);clear BK103;clear BK104;clear HB;clear HO108;have BK103:=n0_;have BK104:=n1_;have HB:=n2_;have HO111:=n3_;clear n0_ n1_ n2_ n3_;clear ho hb hg hat;obtain ⟨Ao14,co14,eo14⟩:=Kd.R_slice HO111.out;subst eo14;have hcz15_0 : w13.cell? ⟨gb103,0,none⟩=some (.int .u64 a0_0):=(zs BK103.out 0).trans rfl;have hcz15_1 : w13.cell? ⟨gb103,1,none⟩=some (.int .u32 a0_1):=(zs BK103.out 1).trans rfl;have hcz15_2 : w13.cell? ⟨gb103,2,none⟩=some (.slice A0_2 l0_2.length c0_2):=(zs BK103.out 2).trans rfl;have hfz15_0:=zx BK103.out 0;have hfz15_1:=zx BK103.out 1;have hfz15_2:=zx BK103.out 2;have hcz16_0 : w13.cell? ⟨gb104,0,none⟩=some (.int .u64 0):=(zs BK104.out 0).trans rfl;have hcz16_1 : w13.cell? ⟨gb104,1,none⟩=some (.int .u32 0):=(zs BK104.out 1).trans rfl;have hcz16_2 : w13.cell? ⟨gb104,2,none⟩=some (.slice none 0 0):=(zs BK104.out 2).trans rfl;have hfz16_0:=zx BK104.out 0;have hfz16_1:=zx BK104.out 1;have hfz16_2:=zx BK104.out 2))
   refine bodyPost_ret (results_cell_row rfl _ _ gb104 26 #[.int .u64 a0_0, .int .u32 a0_1, .slice Ao14 y109.length co14] (0,0) _ rfl (by (with_reducible repeat (first|refine zh ?_ _|refine zj ?_|refine zi ?_ _));refine zw (cs := #[.int .u64 a0_0, .int .u32 a0_1, .slice none 0 0]) ?_ 2 _ rfl;(with_reducible repeat (first|refine zh ?_ _|refine zj ?_|refine zi ?_ _));refine zw (cs := #[.int .u64 a0_0, .int .u32 0, .slice none 0 0]) ?_ 1 _ rfl;(with_reducible repeat (first|refine zh ?_ _|refine zj ?_|refine zi ?_ _));refine zw (cs := #[.int .u64 0, .int .u32 0, .slice none 0 0]) ?_ 0 _ rfl;(with_reducible repeat (first|refine zh ?_ _|refine zj ?_|refine zi ?_ _|refine zv ?_ NB104_103.out _));exact BK104.out) Try.underlying26 rfl (by kernel_rfl)) rfl ?_
   exact ⟨_,by first|rfl|(simp [errW_none,errW_some] <;> rfl)|(simp [*,errW_none,errW_some] <;> rfl),by (with_reducible repeat (first|apply zo|apply zp|apply zq));exact zG (zH (p:=⟨gb104,2,none⟩) (zH (p:=⟨gb104,1,none⟩) (zH (p:=⟨gb104,0,none⟩) (zH (p:=⟨gb103,2,none⟩) (Kd.R_types (Kd.R_types HO111.out BK103.out (by decide)) BK104.out (by decide)) (fun _ hk=>hk.1.2) (.slice Ao14 y109.length co14)) (fun _ hk=>hk.2) (.int .u64 a0_0)) (fun _ hk=>hk.2) (.int .u32 a0_1)) (fun _ hk=>hk.2) (.slice Ao14 y109.length co14)) (fun _ hk=>trivial),by repeat (first|(with_reducible first|exact HB.out|apply ze|apply zd|apply zf|refine zk ?_ GE103.out|refine zk ?_ GE104.out)|exact HB.out)⟩
  ·
   rw [if_neg c4] at H
   exact absurd H (by simp)
 ·
  replace c3:=Bool.eq_false_iff.mpr c3
  subst c3
  have H1 : ((coder_New.f).bind fun bt112=>(some (bt112.1,bt112.2.1,bt112.2.2)))=some (r1,r2,r3):=by rw [if_neg (show ¬ (false=true) by decide)] at H;exact H
  clear H;have H:=H1;clear H1
  replace H:=Option.bind_eq_some_iff.mp H
  obtain ⟨⟨t112,t113,t114⟩,A170,H⟩:=H
  replace H : (some (t112,t113,t114))=some (r1,r2,r3):=H
  have A17:=zm A170;clear A170
  simp only [Option.some.injEq,Prod.mk.injEq] at H
  obtain ⟨rfl,rfl,rfl⟩:=H
  go_enter Try.func51,Try.ntmps51
  go_wp2_with (first|((with_reducible refine gate_dst (N:=1) rfl ?_);refine box_event ?hg (N:=1) ?hd (cs := #[.int .u64 a0_0, .int .u32 a0_1, .slice A0_2 l0_2.length c0_2]) (t:=26) ?hr ?_;(case hd=>rfl);(case hg=>rfl);(case hr=>first|(go_simp;done)|(go_simp;rfl));intro gb103 hg w18 hbox hb;have n0_:=zm (zJ (by repeat (first|(with_reducible first|exact HB.out|apply ze|apply zd|apply zf)|exact HB.out)) hb);have n1_:=zm (hbox);have n2_:=zm ((by rw [hg];exact (zE (by repeat (first|(with_reducible first|exact HB.out|apply ze|apply zd|apply zf)|exact HB.out))) : w.heap.size≤gb103));have n3_:=zm ((by rw [hg];exact (zE (by repeat (first|(with_reducible first|exact HB.out|apply ze|apply zd|apply zf)|exact HB.out))) : w.heap.size≤gb103));clear HB;have HB:=n0_;have BK103:=n1_;have GW103:=n2_;have GE103:=n3_;clear n0_ n1_ n2_ n3_;clear hb hbox hg)|((with_reducible refine gate_dst (N:=2) rfl ?_);refine box_event ?hg (N:=2) ?hd (cs := #[.int .u64 0, .int .u32 0, .slice none 0 0]) (t:=26) ?hr ?_;(case hd=>rfl);(case hg=>rfl);(case hr=>first|(go_simp;done)|(go_simp;rfl));intro gb104 hg w19 hbox hb;have n0_:=zm (zF (g:=gb103) (o:=.cells #[.int .u64 a0_0, .int .u32 a0_1, .slice A0_2 l0_2.length c0_2] 26 (0,0)) (by (with_reducible repeat (first|refine zh ?_ _|refine zj ?_|refine zi ?_ _));exact BK103.out) hb);have n1_:=zm (zJ (by repeat (first|(with_reducible first|exact HB.out|apply ze|apply zd|apply zf|refine zk ?_ GE103.out)|exact HB.out)) hb);have n2_:=zm (hbox);have n3_:=zm ((by rw [hg];exact (zE (by repeat (first|(with_reducible first|exact HB.out|apply ze|apply zd|apply zf|refine zk ?_ GE103.out)|exact HB.out))) : w.heap.size≤gb104));have n4_:=zm ((by rw [hg];exact (zE (by repeat (first|(with_reducible first|exact HB.out|apply ze|apply zd|apply zf|refine zk ?_ GE103.out)|exact HB.out))) : w.heap.size≤gb104));have n5_:=zm ((by rw [hg];exact zn (zD (g:=gb103) (o:=.cells #[.int .u64 a0_0, .int .u32 a0_1, .slice A0_2 l0_2.length c0_2] 26 (0,0)) (by (with_reducible repeat (first|refine zh ?_ _|refine zj ?_|refine zi ?_ _));exact BK103.out)) : gb103≠gb104));have n6_:=zm ((by rw [hg];exact zg (zD (g:=gb103) (o:=.cells #[.int .u64 a0_0, .int .u32 a0_1, .slice A0_2 l0_2.length c0_2] 26 (0,0)) (by (with_reducible repeat (first|refine zh ?_ _|refine zj ?_|refine zi ?_ _));exact BK103.out)) : gb104≠gb103));clear BK103;clear HB;have BK103:=n0_;have HB:=n1_;have BK104:=n2_;have GW104:=n3_;have GE104:=n4_;have NB103_104:=n5_;have NB104_103:=n6_;clear n0_ n1_ n2_ n3_ n4_ n5_ n6_;clear hb hbox hg;have hnb20:=NB103_104.out;have hnc20:=NB104_103.out;have hcz21_0 : w19.cell? ⟨gb103,0,none⟩=some (.int .u64 a0_0):=(zs BK103.out 0).trans rfl;have hcz21_1 : w19.cell? ⟨gb103,1,none⟩=some (.int .u32 a0_1):=(zs BK103.out 1).trans rfl;have hcz21_2 : w19.cell? ⟨gb103,2,none⟩=some (.slice A0_2 l0_2.length c0_2):=(zs BK103.out 2).trans rfl;have hfz21_0:=zx BK103.out 0;have hfz21_1:=zx BK103.out 1;have hfz21_2:=zx BK103.out 2)|((with_reducible refine gate_callee (f:=21) rfl ?_);refine goesL_ (some 4) rfl rfl Try.func21 (by kernel_rfl) rfl #[.agg #[.int .u64 a0_0, .int .u32 a0_1, .slice A0_2 l0_2.length c0_2]] rfl (by (try simp only [List.map_toArray,List.map_cons,List.map_nil]);first|done|rfl|(simp only [List.length_drop,List.length_take];rfl)) ?_;(with_reducible refine (coder_RightEnc.calls a0_0 a0_1 _ _ l0_2 false _ ?side1 ?side2 A2.out).mono ?_);(case side1=>repeat (first|exact (Kd.C_below HR0_2.out HB.out)|(with_reducible refine Kd.C_alloc ?_ _)|(with_reducible refine Kd.C_drewN ?_ _)|(with_reducible refine Kd.C_drew ?_)));(case side2=>exact HC0_2.out);rintro e w22 ⟨rfl,hb⟩;refine ⟨_,rfl, ?_⟩;have n0_:=zm (zF (g:=gb103) (o:=.cells #[.int .u64 a0_0, .int .u32 a0_1, .slice A0_2 l0_2.length c0_2] 26 (0,0)) (by (with_reducible repeat (first|refine zh ?_ _|refine zj ?_|refine zi ?_ _));exact BK103.out) hb);have n1_:=zm (zF (g:=gb104) (o:=.cells #[.int .u64 0, .int .u32 0, .slice none 0 0] 26 (0,0)) (by (with_reducible repeat (first|refine zh ?_ _|refine zj ?_|refine zi ?_ _));exact BK104.out) hb);have n2_:=zm (zJ (by repeat (first|(with_reducible first|exact HB.out|apply ze|apply zd|apply zf|refine zk ?_ GE103.out|refine zk ?_ GE104.out)|exact HB.out)) hb);clear BK103;clear BK104;clear HB;have BK103:=n0_;have BK104:=n1_;have HB:=n2_;clear n0_ n1_ n2_;(try clear hb);(try clear hb2);(try clear hk);(try clear hi))|((with_reducible refine gate_callee (f:=29) rfl ?_);refine goesL_ (some 6) rfl rfl Try.func29 (by kernel_rfl) rfl #[] rfl (by (try simp only [List.map_toArray,List.map_cons,List.map_nil]);first|done|rfl|(simp only [List.length_drop,List.length_take];rfl)) ?_;(with_reducible refine (coder_New.calls  t112 t113 t114 _ A17.out).mono ?_);rintro e w23 ⟨v115,rfl,ho0,hb⟩;refine ⟨_,rfl, ?_⟩;have n0_:=zm (Kd.R_lower ho0 (zE (by repeat (first|(with_reducible first|exact HB.out|apply ze|apply zd|apply zf|refine zk ?_ GE103.out|refine zk ?_ GE104.out)|exact HB.out))));have n1_:=zm (zF (g:=gb103) (o:=.cells #[.int .u64 a0_0, .int .u32 a0_1, .slice A0_2 l0_2.length c0_2] 26 (0,0)) (by (with_reducible repeat (first|refine zh ?_ _|refine zj ?_|refine zi ?_ _));exact BK103.out) hb);have n2_:=zm (zF (g:=gb104) (o:=.cells #[.int .u64 0, .int .u32 0, .slice none 0 0] 26 (0,0)) (by (with_reducible repeat (first|refine zh ?_ _|refine zj ?_|refine zi ?_ _));exact BK104.out) hb);have n3_:=zm (zJ (by repeat (first|(with_reducible first|exact HB.out|apply ze|apply zd|apply zf|refine zk ?_ GE103.out|refine zk ?_ GE104.out)|exact HB.out)) hb);clear BK103;clear BK104;clear HB;have HO116:=n0_;have BK103:=n1_;have BK104:=n2_;have HB:=n3_;clear n0_ n1_ n2_ n3_;(try clear hb);(try clear hb2);(try clear hk);(try clear hi);(try clear ho0);have hcz24_0 : w23.cell? ⟨gb104,0,none⟩=some (.int .u64 0):=(zs BK104.out 0).trans rfl;have hcz24_1 : w23.cell? ⟨gb104,1,none⟩=some (.int .u32 0):=(zs BK104.out 1).trans rfl;have hcz24_2 : w23.cell? ⟨gb104,2,none⟩=some (.slice none 0 0):=(zs BK104.out 2).trans rfl;have hfz24_0:=zx BK104.out 0;have hfz24_1:=zx BK104.out 1;have hfz24_2:=zx BK104.out 2;obtain ⟨Ao25,co25,eo25⟩:=Kd.R_slice HO116.out;subst eo25))
  refine bodyPost_ret (results_cell_row rfl _ _ gb104 26 #[.int .u64 t112, .int .u32 t113, .slice Ao25 t114.length co25] (0,0) _ rfl (by (with_reducible repeat (first|refine zh ?_ _|refine zj ?_|refine zi ?_ _));refine zw (cs := #[.int .u64 t112, .int .u32 t113, .slice none 0 0]) ?_ 2 _ rfl;(with_reducible repeat (first|refine zh ?_ _|refine zj ?_|refine zi ?_ _));refine zw (cs := #[.int .u64 t112, .int .u32 0, .slice none 0 0]) ?_ 1 _ rfl;(with_reducible repeat (first|refine zh ?_ _|refine zj ?_|refine zi ?_ _));refine zw (cs := #[.int .u64 0, .int .u32 0, .slice none 0 0]) ?_ 0 _ rfl;(with_reducible repeat (first|refine zh ?_ _|refine zj ?_|refine zi ?_ _));exact BK104.out) Try.underlying26 rfl (by kernel_rfl)) rfl ?_
  exact ⟨_,by first|rfl|(simp [errW_none,errW_some] <;> rfl)|(simp [*,errW_none,errW_some] <;> rfl),by (with_reducible repeat (first|apply zo|apply zp|apply zq));exact zG (zH (p:=⟨gb104,2,none⟩) (zH (p:=⟨gb104,1,none⟩) (zH (p:=⟨gb104,0,none⟩) (Kd.R_types HO116.out BK104.out (by decide)) (fun _ hk=>hk.2) (.int .u64 t112)) (fun _ hk=>hk.2) (.int .u32 t113)) (fun _ hk=>hk.2) (.slice Ao25 t114.length co25)) (fun _ hk=>trivial),by repeat (first|(with_reducible first|exact HB.out|apply ze|apply zd|apply zf|refine zk ?_ GE103.out|refine zk ?_ GE104.out)|exact HB.out)⟩

end Go.Proofs.Ytkaoiblgfpphoaa.Prt

namespace Go.Proofs.Ytkaoiblgfpphoaa.Prt
open Go.RowKit Go.Proofs.YtkaoiblgfpphoaaW.PrintWords Go.Proofs.YtkaoiblgfpphoaaW.PrintLast Go.Proofs.YtkaoiblgfpphoaaW.PrintMore
attribute [local go_sem] max2_int min2_int max_two min_two max_three min_three max_four min_four   -- for this text's walks alone
set_option linter.unusedVariables false
set_option linter.unusedSimpArgs false

/-! ### coder_part: function 53 -/
def coder_part.f (a0 : Int) (a1 : Int) (a2 : Int) (a3 : Int) : Option (Int × Int):=if ((a3) % 4294967296)=0 then (none) else (if a2=a3 then (some ((a0 - ((IntKind.u64.wrap (((Int.tdiv a0 ((a3) % 4294967296)) % 4294967296) * (IntKind.u64.wrap (a1)))) % 4294967296)) % 4294967296,IntKind.u64.wrap (((Int.tdiv a0 ((a3) % 4294967296)) % 4294967296) * (IntKind.u64.wrap (a1))))) else (some ((((Int.tdiv a0 ((a3) % 4294967296)) % 4294967296) * ((wrap64 (a2 - a1)) % 4294967296)) % 4294967296,IntKind.u64.wrap (((Int.tdiv a0 ((a3) % 4294967296)) % 4294967296) * (IntKind.u64.wrap (a1))))))
set_option maxHeartbeats 8000000 in
set_option maxRecDepth 100000 in
theorem coder_part.calls (a0 : Int) (a1 : Int) (a2 : Int) (a3 : Int) (r1 : Int) (r2 : Int) (w : World) (h : coder_part.f a0 a1 a2 a3=some (r1,r2)) :
  Calls Try.prog 53 #[.int .u32 a0, .int .i64 a1, .int .i64 a2, .int .i64 a3] w fun e w' => e=.returned (.tuple #[.int .u32 r1, .int .u64 r2])∧Drawn0 w w' := by
 have H : (if ((a3) % 4294967296)=0 then (none) else (if a2=a3 then (some ((a0 - ((IntKind.u64.wrap (((Int.tdiv a0 ((a3) % 4294967296)) % 4294967296) * (IntKind.u64.wrap (a1)))) % 4294967296)) % 4294967296,IntKind.u64.wrap (((Int.tdiv a0 ((a3) % 4294967296)) % 4294967296) * (IntKind.u64.wrap (a1))))) else (some ((((Int.tdiv a0 ((a3) % 4294967296)) % 4294967296) * ((wrap64 (a2 - a1)) % 4294967296)) % 4294967296,IntKind.u64.wrap (((Int.tdiv a0 ((a3) % 4294967296)) % 4294967296) * (IntKind.u64.wrap (a1)))))))=some (r1,r2):=h
 clear h
 by_cases c5 : ((a3) % 4294967296)=0
 ·
  rw [if_pos c5] at H
  exact absurd H (by simp)
 ·
  rw [if_neg c5] at H
  have c5b0 : (((a3) % 4294967296) == 0)=false:=beq_eq_false_iff_ne.mpr c5
  have c5b1 : (((a3) % 4294967296) != 0)=true:=bne_iff_ne.mpr c5
  by_cases c6 : a2=a3
  ·
   rw [if_pos c6] at H
   have c6b0 : (a2 == a3)=true:=beq_iff_eq.mpr c6
   have c6b1 : (a2 != a3)=false:=bne_eq_false_iff_eq.mpr c6
   clear c6
   simp only [Option.some.injEq,Prod.mk.injEq] at H
   obtain ⟨rfl,rfl⟩:=H
   go_enter Try.func53,Try.ntmps53
   go_wp2
   go_ret2
   exact ⟨by first|rfl|(simp;done)|(simp [*];done),by repeat (first|exact Drawn0.refl _|apply Drawn0.step)⟩
  ·
   rw [if_neg c6] at H
   have c6b0 : (a2 == a3)=false:=beq_eq_false_iff_ne.mpr c6
   have c6b1 : (a2 != a3)=true:=bne_iff_ne.mpr c6
   simp only [Option.some.injEq,Prod.mk.injEq] at H
   obtain ⟨rfl,rfl⟩:=H
   go_enter Try.func53,Try.ntmps53
   go_wp2
   go_ret2
   exact ⟨by first|rfl|(simp;done)|(simp [*];done),by repeat (first|exact Drawn0.refl _|apply Drawn0.step)⟩

end Go.Proofs.Ytkaoiblgfpphoaa.Prt

namespace Go.Proofs.Ytkaoiblgfpphoaa.Prt
open Go.RowKit Go.Proofs.YtkaoiblgfpphoaaW.PrintWords Go.Proofs.YtkaoiblgfpphoaaW.PrintLast Go.Proofs.YtkaoiblgfpphoaaW.PrintMore
attribute [local go_sem] max2_int min2_int max_two min_two max_three min_three max_four min_four   -- for this text's walks alone
set_option linter.unusedVariables false
set_option linter.unusedSimpArgs false

/-! ### coder_Put: function 18 -/
mutual
def coder_Put.j0 : Nat→Int→Int→Int→List Int→Option (Int × Int × List Int × Int)
 | 0,_,_,_,_=>none
 | k+1,x10,x121000,x121001,x121002=>coder_Put.l0 k x10 x121000 x121001 x121002
def coder_Put.l0 : Nat→Int→Int→Int→List Int→Option (Int × Int × List Int × Int)
 | 0,_,_,_,_=>none
 | k+1,x10,x121000,x121001,x121002=>if x10 < 16777216 then (if x121002.length < 140737488355328 then (coder_Put.l0 k ((x10 * 256) % 4294967296) (Go.bits .and .u64 (IntKind.u64.wrap (x121000 * 256)) 4294967295) x121001 (x121002 ++ [(x121000 / 16777216) % 256])) else (none)) else (some (x121000,x10,x121002,0))
end
def coder_Put.f (k : Nat) (a0_0 : Int) (a0_1 : Int) (l0_2 : List Int) (a1 : Int) (a2 : Int) (a3 : Int) : Option (Int × Int × List Int × Int):=(coder_own.f a0_0 a0_1 l0_2).bind fun bt122=>((coder_fair.f a1 a2 a3).bind fun t127=>(if t127=true then (if (bt122.2.2.length : Int) ≥ 3996 then (some (bt122.1,bt122.2.1,bt122.2.2,3)) else ((coder_part.f bt122.2.1 a1 a2 a3).bind fun bt128=>(if (IntKind.u64.wrap (bt122.1+bt128.2)) > 4294967295 then ((coder_carry.f k bt122.2.2).bind fun t130=>(coder_Put.j0 k bt128.1 (Go.bits .and .u64 (IntKind.u64.wrap (bt122.1+bt128.2)) 4294967295) bt122.2.1 t130)) else (coder_Put.j0 k bt128.1 (IntKind.u64.wrap (bt122.1+bt128.2)) bt122.2.1 bt122.2.2)))) else (some (bt122.1,bt122.2.1,bt122.2.2,1))))
theorem coder_Put.mono_l : ∀ k,(∀ y0 y1 y2 y3,LeO (coder_Put.j0 k y0 y1 y2 y3) (coder_Put.j0 (k+1) y0 y1 y2 y3))∧(∀ y0 y1 y2 y3,LeO (coder_Put.l0 k y0 y1 y2 y3) (coder_Put.l0 (k+1) y0 y1 y2 y3))
 | 0=>⟨fun _ _ _ _ r h=>by simp [coder_Put.j0] at h,fun _ _ _ _ r h=>by simp [coder_Put.l0] at h⟩
 | k+1=>by
  obtain ⟨ih0,ih1⟩:=coder_Put.mono_l k
  refine ⟨?_, ?_⟩
  ·
   intro y0 y1 y2 y3
   unfold coder_Put.j0
   repeat' first
   | (with_reducible exact ih0 _ _ _ _)
   | (with_reducible exact ih1 _ _ _ _)
   | (with_reducible exact coder_carry.mono _ _)
   | (with_reducible exact LeO.refl _)
   | (with_reducible exact LeO.none _)
   | (with_reducible refine LeO.ite ?_ ?_)
   | (with_reducible refine LeO.bind ?_ (fun _ => ?_))
   | exact ih0 _ _ _ _
   | exact ih1 _ _ _ _
   | exact coder_carry.mono _ _
   | exact LeO.none _
   | refine LeO.ite ?_ ?_
   | refine LeO.bind ?_ (fun _ => ?_)
  ·
   intro y0 y1 y2 y3
   unfold coder_Put.l0
   repeat' first
   | (with_reducible exact ih0 _ _ _ _)
   | (with_reducible exact ih1 _ _ _ _)
   | (with_reducible exact coder_carry.mono _ _)
   | (with_reducible exact LeO.refl _)
   | (with_reducible exact LeO.none _)
   | (with_reducible refine LeO.ite ?_ ?_)
   | (with_reducible refine LeO.bind ?_ (fun _ => ?_))
   | exact ih0 _ _ _ _
   | exact ih1 _ _ _ _
   | exact coder_carry.mono _ _
   | exact LeO.none _
   | refine LeO.ite ?_ ?_
   | refine LeO.bind ?_ (fun _ => ?_)
theorem coder_Put.mono : ∀ a0 a1 a2 a3 a4 a5 k,LeO (coder_Put.f k a0 a1 a2 a3 a4 a5) (coder_Put.f (k+1) a0 a1 a2 a3 a4 a5):=by
 intro a0 a1 a2 a3 a4 a5 k
 obtain ⟨ih0,ih1⟩:=coder_Put.mono_l k
 unfold coder_Put.f
 repeat' first
   | (with_reducible exact ih0 _ _ _ _)
   | (with_reducible exact ih1 _ _ _ _)
   | (with_reducible exact coder_carry.mono _ _)
   | (with_reducible exact LeO.refl _)
   | (with_reducible exact LeO.none _)
   | (with_reducible refine LeO.ite ?_ ?_)
   | (with_reducible refine LeO.bind ?_ (fun _ => ?_))
   | exact ih0 _ _ _ _
   | exact ih1 _ _ _ _
   | exact coder_carry.mono _ _
   | exact LeO.none _
   | refine LeO.ite ?_ ?_
   | refine LeO.bind ?_ (fun _ => ?_)
set_option maxHeartbeats 8000000 in
set_option maxRecDepth 100000 in
theorem coder_Put.calls (k : Nat) (a0_0 : Int) (a0_1 : Int) (A0_2 : Option Addr) (c0_2 : Nat) (l0_2 : List Int) (a1 : Int) (a2 : Int) (a3 : Int) (r1 : Int) (r2 : Int) (r3 : List Int) (r4 : Int) (w : World) (hr0_2 : Kd.C (Kd.int .u8) w A0_2 l0_2.length l0_2) (hc0_2 : l0_2.length≤c0_2) (h : coder_Put.f k a0_0 a0_1 l0_2 a1 a2 a3=some (r1,r2,r3,r4)) :
  Calls Try.prog 18 #[.agg #[.int .u64 a0_0, .int .u32 a0_1, .slice A0_2 l0_2.length c0_2], .int .i64 a1, .int .i64 a2, .int .i64 a3] w fun e w' => ∃ v2_ : Value,e=.returned (.tuple #[.agg #[.int .u64 r1, .int .u32 r2,v2_], .int .i64 r4])∧Kd.R (Kd.int .u8) 5 w' w.heap.size (fun _=>True) v2_ r3∧Below w.heap.size w w' := by
 have hu26:=Try.underlying26;have HR0_2:=zm hr0_2;have HC0_2:=zm hc0_2;clear hr0_2 hc0_2;have HB:=zm (Below.refl w.heap.size w)
 have H : ((coder_own.f a0_0 a0_1 l0_2).bind fun bt122=>((coder_fair.f a1 a2 a3).bind fun t127=>(if t127=true then (if (bt122.2.2.length : Int) ≥ 3996 then (some (bt122.1,bt122.2.1,bt122.2.2,3)) else ((coder_part.f bt122.2.1 a1 a2 a3).bind fun bt128=>(if (IntKind.u64.wrap (bt122.1+bt128.2)) > 4294967295 then ((coder_carry.f k bt122.2.2).bind fun t130=>(coder_Put.j0 k bt128.1 (Go.bits .and .u64 (IntKind.u64.wrap (bt122.1+bt128.2)) 4294967295) bt122.2.1 t130)) else (coder_Put.j0 k bt128.1 (IntKind.u64.wrap (bt122.1+bt128.2)) bt122.2.1 bt122.2.2)))) else (some (bt122.1,bt122.2.1,bt122.2.2,1)))))=some (r1,r2,r3,r4):=h
 clear h
 replace H:=Option.bind_eq_some_iff.mp H
 obtain ⟨⟨t122,t123,t124⟩,A50,H⟩:=H
 replace H : ((coder_fair.f a1 a2 a3).bind fun t127=>(if t127=true then (if (t124.length : Int) ≥ 3996 then (some (t122,t123,t124,3)) else ((coder_part.f t123 a1 a2 a3).bind fun bt128=>(if (IntKind.u64.wrap (t122+bt128.2)) > 4294967295 then ((coder_carry.f k t124).bind fun t130=>(coder_Put.j0 k bt128.1 (Go.bits .and .u64 (IntKind.u64.wrap (t122+bt128.2)) 4294967295) t123 t130)) else (coder_Put.j0 k bt128.1 (IntKind.u64.wrap (t122+bt128.2)) t123 t124)))) else (some (t122,t123,t124,1))))=some (r1,r2,r3,r4):=H
 have A5:=zm A50;clear A50
 replace H:=Option.bind_eq_some_iff.mp H
 obtain ⟨t127,A60,H⟩:=H
 replace H : (if t127=true then (if (t124.length : Int) ≥ 3996 then (some (t122,t123,t124,3)) else ((coder_part.f t123 a1 a2 a3).bind fun bt128=>(if (IntKind.u64.wrap (t122+bt128.2)) > 4294967295 then ((coder_carry.f k t124).bind fun t130=>(coder_Put.j0 k bt128.1 (Go.bits .and .u64 (IntKind.u64.wrap (t122+bt128.2)) 4294967295) t123 t130)) else (coder_Put.j0 k bt128.1 (IntKind.u64.wrap (t122+bt128.2)) t123 t124)))) else (some (t122,t123,t124,1)))=some (r1,r2,r3,r4):=H
 have A6:=zm A60;clear A60
 by_cases c7 : t127=true
 ·
  subst c7
  have H1 : (if (t124.length : Int) ≥ 3996 then (some (t122,t123,t124,3)) else ((coder_part.f t123 a1 a2 a3).bind fun bt128=>(if (IntKind.u64.wrap (t122+bt128.2)) > 4294967295 then ((coder_carry.f k t124).bind fun t130=>(coder_Put.j0 k bt128.1 (Go.bits .and .u64 (IntKind.u64.wrap (t122+bt128.2)) 4294967295) t123 t130)) else (coder_Put.j0 k bt128.1 (IntKind.u64.wrap (t122+bt128.2)) t123 t124))))=some (r1,r2,r3,r4):=by rw [if_pos rfl] at H;exact H
  clear H;have H:=H1;clear H1
  by_cases c8 : (t124.length : Int) ≥ 3996
  ·
   rw [if_pos c8] at H
   have c8b0 : decide (3996≤(t124.length : Int))=true:=decide_eq_true c8
   have c8b1 : decide (3996≤t124.length)=true:=decide_eq_true (by omega)
   clear c8
   simp only [Option.some.injEq,Prod.mk.injEq] at H
   obtain ⟨rfl,rfl,rfl,rfl⟩:=H
   go_enter Try.func18,Try.ntmps18
   go_wp2_with (first|((with_reducible refine gate_dst (N:=4) rfl ?_);refine box_event ?hg (N:=4) ?hd (cs := #[.int .u64 a0_0, .int .u32 a0_1, .slice A0_2 l0_2.length c0_2]) (t:=26) ?hr ?_;(case hd=>rfl);(case hg=>rfl);(case hr=>first|(go_simp;done)|(go_simp;rfl));intro gb120 hg w9 hbox hb;have n0_:=zm (zJ (by repeat (first|(with_reducible first|exact HB.out|apply ze|apply zd|apply zf)|exact HB.out)) hb);have n1_:=zm (hbox);have n2_:=zm ((by rw [hg];exact (zE (by repeat (first|(with_reducible first|exact HB.out|apply ze|apply zd|apply zf)|exact HB.out))) : w.heap.size≤gb120));have n3_:=zm ((by rw [hg];exact (zE (by repeat (first|(with_reducible first|exact HB.out|apply ze|apply zd|apply zf)|exact HB.out))) : w.heap.size≤gb120));clear HB;have HB:=n0_;have BK120:=n1_;have GW120:=n2_;have GE120:=n3_;clear n0_ n1_ n2_ n3_;clear hb hbox hg)|((with_reducible refine gate_dst (N:=8) rfl ?_);refine box_event ?hg (N:=8) ?hd (cs := #[.int .u64 0, .int .u32 0, .slice none 0 0]) (t:=26) ?hr ?_;(case hd=>rfl);(case hg=>rfl);(case hr=>first|(go_simp;done)|(go_simp;rfl));intro gb121 hg w10 hbox hb;have n0_:=zm (zF (g:=gb120) (o:=.cells #[.int .u64 a0_0, .int .u32 a0_1, .slice A0_2 l0_2.length c0_2] 26 (0,0)) (by (with_reducible repeat (first|refine zh ?_ _|refine zj ?_|refine zi ?_ _));exact BK120.out) hb);have n1_:=zm (zJ (by repeat (first|(with_reducible first|exact HB.out|apply ze|apply zd|apply zf|refine zk ?_ GE120.out)|exact HB.out)) hb);have n2_:=zm (hbox);have n3_:=zm ((by rw [hg];exact (zE (by repeat (first|(with_reducible first|exact HB.out|apply ze|apply zd|apply zf|refine zk ?_ GE120.out)|exact HB.out))) : w.heap.size≤gb121));have n4_:=zm ((by rw [hg];exact (zE (by repeat (first|(with_reducible first|exact HB.out|apply ze|apply zd|apply zf|refine zk ?_ GE120.out)|exact HB.out))) : w.heap.size≤gb121));have n5_:=zm ((by rw [hg];exact zn (zD (g:=gb120) (o:=.cells #[.int .u64 a0_0, .int .u32 a0_1, .slice A0_2 l0_2.length c0_2] 26 (0,0)) (by (with_reducible repeat (first|refine zh ?_ _|refine zj ?_|refine zi ?_ _));exact BK120.out)) : gb120≠gb121));have n6_:=zm ((by rw [hg];exact zg (zD (g:=gb120) (o:=.cells #[.int .u64 a0_0, .int .u32 a0_1, .slice A0_2 l0_2.length c0_2] 26 (0,0)) (by (with_reducible repeat (first|refine zh ?_ _|refine zj ?_|refine zi ?_ _));exact BK120.out)) : gb121≠gb120));clear BK120;clear HB;have BK120:=n0_;have HB:=n1_;have BK121:=n2_;have GW121:=n3_;have GE121:=n4_;have NB120_121:=n5_;have NB121_120:=n6_;clear n0_ n1_ n2_ n3_ n4_ n5_ n6_;clear hb hbox hg;have hnb11:=NB120_121.out;have hnc11:=NB121_120.out;have hcz12_0 : w10.cell? ⟨gb120,0,none⟩=some (.int .u64 a0_0):=(zs BK120.out 0).trans rfl;have hcz12_1 : w10.cell? ⟨gb120,1,none⟩=some (.int .u32 a0_1):=(zs BK120.out 1).trans rfl;have hcz12_2 : w10.cell? ⟨gb120,2,none⟩=some (.slice A0_2 l0_2.length c0_2):=(zs BK120.out 2).trans rfl;have hfz12_0:=zx BK120.out 0;have hfz12_1:=zx BK120.out 1;have hfz12_2:=zx BK120.out 2)|((with_reducible refine gate_callee (f:=51) rfl ?_);refine goesL_ (some 13) rfl rfl Try.func51 (by kernel_rfl) rfl #[.agg #[.int .u64 a0_0, .int .u32 a0_1, .slice A0_2 l0_2.length c0_2]] rfl (by (try simp only [List.map_toArray,List.map_cons,List.map_nil]);first|done|rfl|(simp only [List.length_drop,List.length_take];rfl)) ?_;(with_reducible refine (coder_own.calls a0_0 a0_1 _ _ l0_2 t122 t123 t124 _ ?side1 ?side2 A5.out).mono ?_);(case side1=>repeat (first|exact (Kd.C_below HR0_2.out HB.out)|(with_reducible refine Kd.C_alloc ?_ _)|(with_reducible refine Kd.C_drewN ?_ _)|(with_reducible refine Kd.C_drew ?_)));(case side2=>exact HC0_2.out);rintro e w13 ⟨v125,rfl,ho0,hb⟩;refine ⟨_,rfl, ?_⟩;have n0_:=zm (Kd.R_lower ho0 (zE (by repeat (first|(with_reducible first|exact HB.out|apply ze|apply zd|apply zf|refine zk ?_ GE120.out|refine zk ?_ GE121.out)|exact HB.out))));have n1_:=zm (zF (g:=gb120) (o:=.cells #[.int .u64 a0_0, .int .u32 a0_1, .slice A0_2 l0_2.length c0_2] 26 (0,0)) (by (with_reducible repeat (first|refine zh ?_ _|refine zj ?_|refine zi ?_ _));exact BK120.out) hb);have n2_:=zm (zF (g:=gb121) (o:=.cells #[.int .u64 0, .int .u32 0, .slice none 0 0] 26 (0,0)) (by (with_reducible repeat (first|refine zh ?_ _|refine zj ?_|refine zi ?_ _));exact BK121.out) hb);have n3_:=zm (zJ (by repeat (first|(with_reducible first|exact HB.out|apply ze|apply zd|apply zf|refine zk ?_ GE120.out|refine zk ?_ GE121.out)|exact HB.out)) hb);clear BK120;clear BK121;clear HB;have HO126:=n0_;have BK120:=n1_;have BK121:=n2_;have HB:=n3_;clear n0_ n1_ n2_ n3_;(try clear hb);(try clear hb2);(try clear hk);(try clear hi);(try clear ho0);have hcz14_0 : w13.cell? ⟨gb120,0,none⟩=some (.int .u64 a0_0):=(zs BK120.out 0).trans rfl;have hcz14_1 : w13.cell? ⟨gb120,1,none⟩=some (.int .u32 a0_1):=(zs BK120.out 1).trans rfl;have hcz14_2 : w13.cell? ⟨gb120,2,none⟩=some (.slice A0_2 l0_2.length c0_2):=(zs BK120.out 2).trans rfl;have hfz14_0:=zx BK120.out 0;have hfz14_1:=zx BK120.out 1;have hfz14_2:=zx BK120.out 2;obtain ⟨Ao15,co15,eo15⟩:=Kd.R_slice HO126.out;subst eo15)|((with_reducible refine gate_store (t:=26) (p:=4) rfl ?_);refine store_event (t:=26) (p:=4) (v := ?vo_w16) (w1:=(((w13.setCell ⟨gb120,0,none⟩ (.int .u64 t122)).setCell ⟨gb120,1,none⟩ (.int .u32 t123)).setCell ⟨gb120,2,none⟩ (.slice Ao15 t124.length co15))) ?hg ?ho ?hn ?hr ?_;(case ho=>rfl);(case hg=>rfl);(case hn=>rfl);(case hr=>first|(go_simp;done)|(go_simp;rfl));intro w16 hw;have n0_ : Aside0 (Kd.R (Kd.int .u8) 5 w16 w.heap.size (fun _=>True) (.slice Ao15 t124.length co15) t124):=⟨(by rw [hw];exact (by (with_reducible repeat (first|apply zo|apply zp|apply zq));exact zG (zH (p:=⟨gb120,2,none⟩) (zH (p:=⟨gb120,1,none⟩) (zH (p:=⟨gb120,0,none⟩) (Kd.R_types HO126.out BK120.out (by decide)) (fun _ hk=>hk.2) (.int .u64 t122)) (fun _ hk=>hk.2) (.int .u32 t123)) (fun _ hk=>hk.2) (.slice Ao15 t124.length co15)) (fun _ hk=>trivial)))⟩;have n1_ : Aside0 (w16.heap[gb120]? = some (.cells #[.int .u64 t122, .int .u32 t123, .slice Ao15 t124.length co15] 26 (0,0))):=⟨(by rw [hw];exact (by (with_reducible repeat (first|refine zh ?_ _|refine zj ?_|refine zi ?_ _));refine zw (cs := #[.int .u64 t122, .int .u32 t123, .slice A0_2 l0_2.length c0_2]) ?_ 2 _ rfl;(with_reducible repeat (first|refine zh ?_ _|refine zj ?_|refine zi ?_ _));refine zw (cs := #[.int .u64 t122, .int .u32 a0_1, .slice A0_2 l0_2.length c0_2]) ?_ 1 _ rfl;(with_reducible repeat (first|refine zh ?_ _|refine zj ?_|refine zi ?_ _));refine zw (cs := #[.int .u64 a0_0, .int .u32 a0_1, .slice A0_2 l0_2.length c0_2]) ?_ 0 _ rfl;(with_reducible repeat (first|refine zh ?_ _|refine zj ?_|refine zi ?_ _));exact BK120.out))⟩;have n2_ : Aside0 (w16.heap[gb121]? = some (.cells #[.int .u64 0, .int .u32 0, .slice none 0 0] 26 (0,0))):=⟨(by rw [hw];exact (by (with_reducible repeat (first|refine zh ?_ _|refine zj ?_|refine zi ?_ _|refine zv ?_ NB121_120.out _));exact BK121.out))⟩;have n3_ : Aside0 (Below w.heap.size w w16):=⟨(by rw [hw];exact (by repeat (first|(with_reducible first|exact HB.out|apply ze|apply zd|apply zf|refine zk ?_ GE120.out|refine zk ?_ GE121.out)|exact HB.out)))⟩;clear hw;clear HO126;clear BK120;clear BK121;clear HB;have HO126:=n0_;have BK120:=n1_;have BK121:=n2_;have HB:=n3_;clear n0_ n1_ n2_ n3_)|((with_reducible refine gate_callee (f:=52) rfl ?_);refine goesL_ (some 17) rfl rfl Try.func52 (by kernel_rfl) rfl #[.int .i64 a1, .int .i64 a2, .int .i64 a3] rfl (by (try simp only [List.map_toArray,List.map_cons,List.map_nil]);first|done|rfl|(simp only [List.length_drop,List.length_take];rfl)) ?_;(with_reducible refine (coder_fair.calls a1 a2 a3 true _ A6.out).mono ?_);rintro e w' ⟨rfl,⟨nd,rfl⟩⟩;refine ⟨_,rfl, ?_⟩;(try (rw [drewN_self w16];generalize hq_ : World.drewN w16 _=w16;have n0_ : Aside0 (Kd.R (Kd.int .u8) 5 w16 w.heap.size (fun _=>True) (.slice Ao15 t124.length co15) t124):=⟨by rw [← hq_];exact (by (with_reducible repeat (first|apply zo|apply zp|apply zq));exact HO126.out)⟩;have n1_ : Aside0 (w16.heap[gb120]? = some (.cells #[.int .u64 t122, .int .u32 t123, .slice Ao15 t124.length co15] 26 (0,0))):=⟨by rw [← hq_];exact (by (with_reducible repeat (first|refine zh ?_ _|refine zj ?_|refine zi ?_ _));exact BK120.out)⟩;have n2_ : Aside0 (w16.heap[gb121]? = some (.cells #[.int .u64 0, .int .u32 0, .slice none 0 0] 26 (0,0))):=⟨by rw [← hq_];exact (by (with_reducible repeat (first|refine zh ?_ _|refine zj ?_|refine zi ?_ _));exact BK121.out)⟩;have n3_ : Aside0 (Below w.heap.size w w16):=⟨by rw [← hq_];exact (by repeat (first|(with_reducible first|exact HB.out|apply ze|apply zd|apply zf|refine zk ?_ GE120.out|refine zk ?_ GE121.out)|exact HB.out))⟩;clear HO126 BK120 BK121 HB hq_;have HO126:=n0_;have BK120:=n1_;have BK121:=n2_;have HB:=n3_;clear n0_ n1_ n2_ n3_));have hcz17_0 : w16.cell? ⟨gb120,0,none⟩=some (.int .u64 t122):=(zs BK120.out 0).trans rfl;have hcz17_1 : w16.cell? ⟨gb120,1,none⟩=some (.int .u32 t123):=(zs BK120.out 1).trans rfl;have hcz17_2 : w16.cell? ⟨gb120,2,none⟩=some (.slice Ao15 t124.length co15):=(zs BK120.out 2).trans rfl;have hfz17_0:=zx BK120.out 0;have hfz17_1:=zx BK120.out 1;have hfz17_2:=zx BK120.out 2;have hcz18_0 : w16.cell? ⟨gb121,0,none⟩=some (.int .u64 0):=(zs BK121.out 0).trans rfl;have hcz18_1 : w16.cell? ⟨gb121,1,none⟩=some (.int .u32 0):=(zs BK121.out 1).trans rfl;have hcz18_2 : w16.cell? ⟨gb121,2,none⟩=some (.slice none 0 0):=(zs BK121.out 2).trans rfl;have hfz18_0:=zx BK121.out 0;have hfz18_1:=zx BK121.out 1;have hfz18_2:=zx BK121.out 2))
   refine bodyPost_ret (results_ct rfl _ _ gb121 26 #[.int .u64 t122, .int .u32 t123, .slice Ao15 t124.length co15] (0,0) _ rfl (by (with_reducible repeat (first|refine zh ?_ _|refine zj ?_|refine zi ?_ _));refine zw (cs := #[.int .u64 t122, .int .u32 t123, .slice none 0 0]) ?_ 2 _ rfl;(with_reducible repeat (first|refine zh ?_ _|refine zj ?_|refine zi ?_ _));refine zw (cs := #[.int .u64 t122, .int .u32 0, .slice none 0 0]) ?_ 1 _ rfl;(with_reducible repeat (first|refine zh ?_ _|refine zj ?_|refine zi ?_ _));refine zw (cs := #[.int .u64 0, .int .u32 0, .slice none 0 0]) ?_ 0 _ rfl;(with_reducible repeat (first|refine zh ?_ _|refine zj ?_|refine zi ?_ _));exact BK121.out) Try.underlying26 rfl (by kernel_rfl)) rfl ?_
   exact ⟨_,by first|rfl|(simp [errW_none,errW_some] <;> rfl)|(simp [*,errW_none,errW_some] <;> rfl),by (with_reducible repeat (first|apply zo|apply zp|apply zq));exact zG (zH (p:=⟨gb121,2,none⟩) (zH (p:=⟨gb121,1,none⟩) (zH (p:=⟨gb121,0,none⟩) (Kd.R_types HO126.out BK121.out (by decide)) (fun _ hk=>hk.2) (.int .u64 t122)) (fun _ hk=>hk.2) (.int .u32 t123)) (fun _ hk=>hk.2) (.slice Ao15 t124.length co15)) (fun _ hk=>trivial),by repeat (first|(with_reducible first|exact HB.out|apply ze|apply zd|apply zf|refine zk ?_ GE120.out|refine zk ?_ GE121.out)|exact HB.out)⟩
  ·
   rw [if_neg c8] at H
   have c8b0 : decide (3996≤(t124.length : Int))=false:=decide_eq_false c8
   have c8b1 : decide (3996≤t124.length)=false:=decide_eq_false (by omega)
   clear c8
   replace H:=Option.bind_eq_some_iff.mp H
   obtain ⟨⟨t128,t129⟩,A190,H⟩:=H
   replace H : (if (IntKind.u64.wrap (t122+t129)) > 4294967295 then ((coder_carry.f k t124).bind fun t130=>(coder_Put.j0 k t128 (Go.bits .and .u64 (IntKind.u64.wrap (t122+t129)) 4294967295) t123 t130)) else (coder_Put.j0 k t128 (IntKind.u64.wrap (t122+t129)) t123 t124))=some (r1,r2,r3,r4):=H
   have A19:=zm A190;clear A190;have HC20:=zm H;clear H
   go_enter Try.func18,Try.ntmps18
   go_upto_if 41 with (first|((with_reducible refine gate_dst (N:=4) rfl ?_);refine box_event ?hg (N:=4) ?hd (cs := #[.int .u64 a0_0, .int .u32 a0_1, .slice A0_2 l0_2.length c0_2]) (t:=26) ?hr ?_;(case hd=>rfl);(case hg=>rfl);(case hr=>first|(go_simp;done)|(go_simp;rfl));intro gb120 hg w21 hbox hb;have n0_:=zm (zJ (by repeat (first|(with_reducible first|exact HB.out|apply ze|apply zd|apply zf)|exact HB.out)) hb);have n1_:=zm (hbox);have n2_:=zm ((by rw [hg];exact (zE (by repeat (first|(with_reducible first|exact HB.out|apply ze|apply zd|apply zf)|exact HB.out))) : w.heap.size≤gb120));have n3_:=zm ((by rw [hg];exact (zE (by repeat (first|(with_reducible first|exact HB.out|apply ze|apply zd|apply zf)|exact HB.out))) : w.heap.size≤gb120));clear HB;have HB:=n0_;have BK120:=n1_;have GW120:=n2_;have GE120:=n3_;clear n0_ n1_ n2_ n3_;clear hb hbox hg)|((with_reducible refine gate_dst (N:=8) rfl ?_);refine box_event ?hg (N:=8) ?hd (cs := #[.int .u64 0, .int .u32 0, .slice none 0 0]) (t:=26) ?hr ?_;(case hd=>rfl);(case hg=>rfl);(case hr=>first|(go_simp;done)|(go_simp;rfl));intro gb121 hg w22 hbox hb;have n0_:=zm (zF (g:=gb120) (o:=.cells #[.int .u64 a0_0, .int .u32 a0_1, .slice A0_2 l0_2.length c0_2] 26 (0,0)) (by (with_reducible repeat (first|refine zh ?_ _|refine zj ?_|refine zi ?_ _));exact BK120.out) hb);have n1_:=zm (zJ (by repeat (first|(with_reducible first|exact HB.out|apply ze|apply zd|apply zf|refine zk ?_ GE120.out)|exact HB.out)) hb);have n2_:=zm (hbox);have n3_:=zm ((by rw [hg];exact (zE (by repeat (first|(with_reducible first|exact HB.out|apply ze|apply zd|apply zf|refine zk ?_ GE120.out)|exact HB.out))) : w.heap.size≤gb121));have n4_:=zm ((by rw [hg];exact (zE (by repeat (first|(with_reducible first|exact HB.out|apply ze|apply zd|apply zf|refine zk ?_ GE120.out)|exact HB.out))) : w.heap.size≤gb121));have n5_:=zm ((by rw [hg];exact zn (zD (g:=gb120) (o:=.cells #[.int .u64 a0_0, .int .u32 a0_1, .slice A0_2 l0_2.length c0_2] 26 (0,0)) (by (with_reducible repeat (first|refine zh ?_ _|refine zj ?_|refine zi ?_ _));exact BK120.out)) : gb120≠gb121));have n6_:=zm ((by rw [hg];exact zg (zD (g:=gb120) (o:=.cells #[.int .u64 a0_0, .int .u32 a0_1, .slice A0_2 l0_2.length c0_2] 26 (0,0)) (by (with_reducible repeat (first|refine zh ?_ _|refine zj ?_|refine zi ?_ _));exact BK120.out)) : gb121≠gb120));clear BK120;clear HB;have BK120:=n0_;have HB:=n1_;have BK121:=n2_;have GW121:=n3_;have GE121:=n4_;have NB120_121:=n5_;have NB121_120:=n6_;clear n0_ n1_ n2_ n3_ n4_ n5_ n6_;clear hb hbox hg;have hnb23:=NB120_121.out;have hnc23:=NB121_120.out;have hcz24_0 : w22.cell? ⟨gb120,0,none⟩=some (.int .u64 a0_0):=(zs BK120.out 0).trans rfl;have hcz24_1 : w22.cell? ⟨gb120,1,none⟩=some (.int .u32 a0_1):=(zs BK120.out 1).trans rfl;have hcz24_2 : w22.cell? ⟨gb120,2,none⟩=some (.slice A0_2 l0_2.length c0_2):=(zs BK120.out 2).trans rfl;have hfz24_0:=zx BK120.out 0;have hfz24_1:=zx BK120.out 1;have hfz24_2:=zx BK120.out 2)|((with_reducible refine gate_callee (f:=51) rfl ?_);refine goesL_ (some 13) rfl rfl Try.func51 (by kernel_rfl) rfl #[.agg #[.int .u64 a0_0, .int .u32 a0_1, .slice A0_2 l0_2.length c0_2]] rfl (by (try simp only [List.map_toArray,List.map_cons,List.map_nil]);first|done|rfl|(simp only [List.length_drop,List.length_take];rfl)) ?_;(with_reducible refine (coder_own.calls a0_0 a0_1 _ _ l0_2 t122 t123 t124 _ ?side1 ?side2 A5.out).mono ?_);(case side1=>repeat (first|exact (Kd.C_below HR0_2.out HB.out)|(with_reducible refine Kd.C_alloc ?_ _)|(with_reducible refine Kd.C_drewN ?_ _)|(with_reducible refine Kd.C_drew ?_)));(case side2=>exact HC0_2.out);rintro e w25 ⟨v125,rfl,ho0,hb⟩;refine ⟨_,rfl, ?_⟩;have n0_:=zm (Kd.R_lower ho0 (zE (by repeat (first|(with_reducible first|exact HB.out|apply ze|apply zd|apply zf|refine zk ?_ GE120.out|refine zk ?_ GE121.out)|exact HB.out))));have n1_:=zm (zF (g:=gb120) (o:=.cells #[.int .u64 a0_0, .int .u32 a0_1, .slice A0_2 l0_2.length c0_2] 26 (0,0)) (by (with_reducible repeat (first|refine zh ?_ _|refine zj ?_|refine zi ?_ _));exact BK120.out) hb);have n2_:=zm (zF (g:=gb121) (o:=.cells #[.int .u64 0, .int .u32 0, .slice none 0 0] 26 (0,0)) (by (with_reducible repeat (first|refine zh ?_ _|refine zj ?_|refine zi ?_ _));exact BK121.out) hb);have n3_:=zm (zJ (by repeat (first|(with_reducible first|exact HB.out|apply ze|apply zd|apply zf|refine zk ?_ GE120.out|refine zk ?_ GE121.out)|exact HB.out)) hb);clear BK120;clear BK121;clear HB;have HO126:=n0_;have BK120:=n1_;have BK121:=n2_;have HB:=n3_;clear n0_ n1_ n2_ n3_;(try clear hb);(try clear hb2);(try clear hk);(try clear hi);(try clear ho0);have hcz26_0 : w25.cell? ⟨gb120,0,none⟩=some (.int .u64 a0_0):=(zs BK120.out 0).trans rfl;have hcz26_1 : w25.cell? ⟨gb120,1,none⟩=some (.int .u32 a0_1):=(zs BK120.out 1).trans rfl;have hcz26_2 : w25.cell? ⟨gb120,2,none⟩=some (.slice A0_2 l0_2.length c0_2):=(zs BK120.out 2).trans rfl;have hfz26_0:=zx BK120.out 0;have hfz26_1:=zx BK120.out 1;have hfz26_2:=zx BK120.out 2;obtain ⟨Ao27,co27,eo27⟩:=Kd.R_slice HO126.out;subst eo27)|((with_reducible refine gate_store (t:=26) (p:=4) rfl ?_);refine store_event (t:=26) (p:=4) (v := ?vo_w28) (w1:=(((w25.setCell ⟨gb120,0,none⟩ (.int .u64 t122)).setCell ⟨gb120,1,none⟩ (.int .u32 t123)).setCell ⟨gb120,2,none⟩ (.slice Ao27 t124.length co27))) ?hg ?ho ?hn ?hr ?_;(case ho=>rfl);(case hg=>rfl);(case hn=>rfl);(case hr=>first|(go_simp;done)|(go_simp;rfl));intro w28 hw;have n0_ : Aside0 (Kd.R (Kd.int .u8) 5 w28 w.heap.size (fun _=>True) (.slice Ao27 t124.length co27) t124):=⟨(by rw [hw];exact (by (with_reducible repeat (first|apply zo|apply zp|apply zq));exact zG (zH (p:=⟨gb120,2,none⟩) (zH (p:=⟨gb120,1,none⟩) (zH (p:=⟨gb120,0,none⟩) (Kd.R_types HO126.out BK120.out (by decide)) (fun _ hk=>hk.2) (.int .u64 t122)) (fun _ hk=>hk.2) (.int .u32 t123)) (fun _ hk=>hk.2) (.slice Ao27 t124.length co27)) (fun _ hk=>trivial)))⟩;have n1_ : Aside0 (w28.heap[gb120]? = some (.cells #[.int .u64 t122, .int .u32 t123, .slice Ao27 t124.length co27] 26 (0,0))):=⟨(by rw [hw];exact (by (with_reducible repeat (first|refine zh ?_ _|refine zj ?_|refine zi ?_ _));refine zw (cs := #[.int .u64 t122, .int .u32 t123, .slice A0_2 l0_2.length c0_2]) ?_ 2 _ rfl;(with_reducible repeat (first|refine zh ?_ _|refine zj ?_|refine zi ?_ _));refine zw (cs := #[.int .u64 t122, .int .u32 a0_1, .slice A0_2 l0_2.length c0_2]) ?_ 1 _ rfl;(with_reducible repeat (first|refine zh ?_ _|refine zj ?_|refine zi ?_ _));refine zw (cs := #[.int .u64 a0_0, .int .u32 a0_1, .slice A0_2 l0_2.length c0_2]) ?_ 0 _ rfl;(with_reducible repeat (first|refine zh ?_ _|refine zj ?_|refine zi ?_ _));exact BK120.out))⟩;have n2_ : Aside0 (w28.heap[gb121]? = some (.cells #[.int .u64 0, .int .u32 0, .slice none 0 0] 26 (0,0))):=⟨(by rw [hw];exact (by (with_reducible repeat (first|refine zh ?_ _|refine zj ?_|refine zi ?_ _|refine zv ?_ NB121_120.out _));exact BK121.out))⟩;have n3_ : Aside0 (Below w.heap.size w w28):=⟨(by rw [hw];exact (by repeat (first|(with_reducible first|exact HB.out|apply ze|apply zd|apply zf|refine zk ?_ GE120.out|refine zk ?_ GE121.out)|exact HB.out)))⟩;clear hw;clear HO126;clear BK120;clear BK121;clear HB;have HO126:=n0_;have BK120:=n1_;have BK121:=n2_;have HB:=n3_;clear n0_ n1_ n2_ n3_)|((with_reducible refine gate_callee (f:=52) rfl ?_);refine goesL_ (some 17) rfl rfl Try.func52 (by kernel_rfl) rfl #[.int .i64 a1, .int .i64 a2, .int .i64 a3] rfl (by (try simp only [List.map_toArray,List.map_cons,List.map_nil]);first|done|rfl|(simp only [List.length_drop,List.length_take];rfl)) ?_;(with_reducible refine (coder_fair.calls a1 a2 a3 true _ A6.out).mono ?_);rintro e w' ⟨rfl,⟨nd,rfl⟩⟩;refine ⟨_,rfl, ?_⟩;(try (rw [drewN_self w28];generalize hq_ : World.drewN w28 _=w28;have n0_ : Aside0 (Kd.R (Kd.int .u8) 5 w28 w.heap.size (fun _=>True) (.slice Ao27 t124.length co27) t124):=⟨by rw [← hq_];exact (by (with_reducible repeat (first|apply zo|apply zp|apply zq));exact HO126.out)⟩;have n1_ : Aside0 (w28.heap[gb120]? = some (.cells #[.int .u64 t122, .int .u32 t123, .slice Ao27 t124.length co27] 26 (0,0))):=⟨by rw [← hq_];exact (by (with_reducible repeat (first|refine zh ?_ _|refine zj ?_|refine zi ?_ _));exact BK120.out)⟩;have n2_ : Aside0 (w28.heap[gb121]? = some (.cells #[.int .u64 0, .int .u32 0, .slice none 0 0] 26 (0,0))):=⟨by rw [← hq_];exact (by (with_reducible repeat (first|refine zh ?_ _|refine zj ?_|refine zi ?_ _));exact BK121.out)⟩;have n3_ : Aside0 (Below w.heap.size w w28):=⟨by rw [← hq_];exact (by repeat (first|(with_reducible first|exact HB.out|apply ze|apply zd|apply zf|refine zk ?_ GE120.out|refine zk ?_ GE121.out)|exact HB.out))⟩;clear HO126 BK120 BK121 HB hq_;have HO126:=n0_;have BK120:=n1_;have BK121:=n2_;have HB:=n3_;clear n0_ n1_ n2_ n3_));have hcz29_0 : w28.cell? ⟨gb120,0,none⟩=some (.int .u64 t122):=(zs BK120.out 0).trans rfl;have hcz29_1 : w28.cell? ⟨gb120,1,none⟩=some (.int .u32 t123):=(zs BK120.out 1).trans rfl;have hcz29_2 : w28.cell? ⟨gb120,2,none⟩=some (.slice Ao27 t124.length co27):=(zs BK120.out 2).trans rfl;have hfz29_0:=zx BK120.out 0;have hfz29_1:=zx BK120.out 1;have hfz29_2:=zx BK120.out 2)|((with_reducible refine gate_callee (f:=53) rfl ?_);refine goesL_ (some 31) rfl rfl Try.func53 (by kernel_rfl) rfl #[.int .u32 t123, .int .i64 a1, .int .i64 a2, .int .i64 a3] rfl (by (try simp only [List.map_toArray,List.map_cons,List.map_nil]);first|done|rfl|(simp only [List.length_drop,List.length_take];rfl)) ?_;(with_reducible refine (coder_part.calls t123 a1 a2 a3 t128 t129 _ A19.out).mono ?_);rintro e w' ⟨rfl,⟨nd,rfl⟩⟩;refine ⟨_,rfl, ?_⟩;(try (rw [drewN_self w28];generalize hq_ : World.drewN w28 _=w28;have n0_ : Aside0 (Kd.R (Kd.int .u8) 5 w28 w.heap.size (fun _=>True) (.slice Ao27 t124.length co27) t124):=⟨by rw [← hq_];exact (by (with_reducible repeat (first|apply zo|apply zp|apply zq));exact HO126.out)⟩;have n1_ : Aside0 (w28.heap[gb120]? = some (.cells #[.int .u64 t122, .int .u32 t123, .slice Ao27 t124.length co27] 26 (0,0))):=⟨by rw [← hq_];exact (by (with_reducible repeat (first|refine zh ?_ _|refine zj ?_|refine zi ?_ _));exact BK120.out)⟩;have n2_ : Aside0 (w28.heap[gb121]? = some (.cells #[.int .u64 0, .int .u32 0, .slice none 0 0] 26 (0,0))):=⟨by rw [← hq_];exact (by (with_reducible repeat (first|refine zh ?_ _|refine zj ?_|refine zi ?_ _));exact BK121.out)⟩;have n3_ : Aside0 (Below w.heap.size w w28):=⟨by rw [← hq_];exact (by repeat (first|(with_reducible first|exact HB.out|apply ze|apply zd|apply zf|refine zk ?_ GE120.out|refine zk ?_ GE121.out)|exact HB.out))⟩;clear HO126 BK120 BK121 HB hq_;have HO126:=n0_;have BK120:=n1_;have BK121:=n2_;have HB:=n3_;clear n0_ n1_ n2_ n3_));have hcz30_0 : w28.cell? ⟨gb120,0,none⟩=some (.int .u64 t122):=(zs BK120.out 0).trans rfl;have hcz30_1 : w28.cell? ⟨gb120,1,none⟩=some (.int .u32 t123):=(zs BK120.out 1).trans rfl;have hcz30_2 : w28.cell? ⟨gb120,2,none⟩=some (.slice Ao27 t124.length co27):=(zs BK120.out 2).trans rfl;have hfz30_0:=zx BK120.out 0;have hfz30_1:=zx BK120.out 1;have hfz30_2:=zx BK120.out 2))
   (try simp only [Act.put,List.setIfInBounds_toArray,List.set_cons_zero,List.set_cons_succ])
   go_cut [] (fun wc => ∃ (kq : Nat) (x121000_19 : Int) (x121002_19 : List Int) (u121002 : Value),Aside0 (coder_Put.j0 kq t128 x121000_19 t123 x121002_19=some (r1,r2,r3,r4))∧Aside0 (kq≤k)∧Aside0 (Kd.R (Kd.int .u8) 5 wc w.heap.size (fun _=>True) u121002 x121002_19)∧Aside0 (wc.heap[gb120]? = some (.cells #[.int .u64 x121000_19, .int .u32 t123,u121002] 26 (0,0)))∧Aside0 (wc.heap[gb121]? = some (.cells #[.int .u64 0, .int .u32 0,(.slice none 0 0)] 26 (0,0)))∧Aside0 (Below w.heap.size w wc))
   case first =>
    have H:=HC20.out;clear HC20
    by_cases c31 : (IntKind.u64.wrap (t122+t129)) > 4294967295
    ·
     rw [if_pos c31] at H
     have c31b0 : decide (4294967295 < (IntKind.u64.wrap (t122+t129)))=true:=decide_eq_true c31
     clear c31
     (first|rw [c31b0]|(simp only [i64_w,i32_w];rw [c31b0])|skip)
     replace H:=Option.bind_eq_some_iff.mp H
     obtain ⟨t130,A320,H⟩:=H
     replace H : (coder_Put.j0 k t128 (Go.bits .and .u64 (IntKind.u64.wrap (t122+t129)) 4294967295) t123 t130)=some (r1,r2,r3,r4):=H
     have A32:=zm A320;clear A320
     have H' := zm H
     clear H;have hnb33:=NB120_121.out;have hnc33:=NB121_120.out
     have hcz34_0 : w28.cell? ⟨gb120,0,none⟩=some (.int .u64 t122):=(zs BK120.out 0).trans rfl
     have hcz34_1 : w28.cell? ⟨gb120,1,none⟩=some (.int .u32 t123):=(zs BK120.out 1).trans rfl
     have hcz34_2 : w28.cell? ⟨gb120,2,none⟩=some (.slice Ao27 t124.length co27):=(zs BK120.out 2).trans rfl
     have hfz34_0:=zx BK120.out 0
     have hfz34_1:=zx BK120.out 1
     have hfz34_2:=zx BK120.out 2
     go_wp2_with (first|((with_reducible refine gate_store (t:=22) (p:=45) rfl ?_);refine store_event (t:=22) (p:=45) (v := ?vo_w35) (w1:=((w28.setCell ⟨gb120,0,none⟩ (.int .u64 (IntKind.u64.wrap (t122+t129)))).setCell ⟨gb120,0,none⟩ (.int .u64 (Go.bits .and .u64 (IntKind.u64.wrap (t122+t129)) 4294967295)))) ?hg ?ho ?hn ?hr ?_;(case ho=>rfl);(case hg=>rfl);(case hn=>rfl);(case hr=>first|(go_simp;done)|(go_simp;rfl));intro w35 hw;have n0_ : Aside0 (Kd.R (Kd.int .u8) 5 w35 w.heap.size (fun _=>True) (.slice Ao27 t124.length co27) t124):=⟨(by rw [hw];exact (by (with_reducible repeat (first|apply zo|apply zp|apply zq));exact zG (zH (p:=⟨gb120,0,none⟩) (zH (p:=⟨gb120,0,none⟩) (Kd.R_types HO126.out BK120.out (by decide)) (fun _ hk=>hk.2) (.int .u64 (IntKind.u64.wrap (t122+t129)))) (fun _ hk=>hk.2) (.int .u64 (Go.bits .and .u64 (IntKind.u64.wrap (t122+t129)) 4294967295))) (fun _ hk=>trivial)))⟩;have n1_ : Aside0 (w35.heap[gb120]? = some (.cells #[.int .u64 (Go.bits .and .u64 (IntKind.u64.wrap (t122+t129)) 4294967295), .int .u32 t123, .slice Ao27 t124.length co27] 26 (0,0))):=⟨(by rw [hw];exact (by (with_reducible repeat (first|refine zh ?_ _|refine zj ?_|refine zi ?_ _));refine zw (cs := #[.int .u64 (IntKind.u64.wrap (t122+t129)), .int .u32 t123, .slice Ao27 t124.length co27]) ?_ 0 _ rfl;(with_reducible repeat (first|refine zh ?_ _|refine zj ?_|refine zi ?_ _));refine zw (cs := #[.int .u64 t122, .int .u32 t123, .slice Ao27 t124.length co27]) ?_ 0 _ rfl;(with_reducible repeat (first|refine zh ?_ _|refine zj ?_|refine zi ?_ _));exact BK120.out))⟩;have n2_ : Aside0 (w35.heap[gb121]? = some (.cells #[.int .u64 0, .int .u32 0, .slice none 0 0] 26 (0,0))):=⟨(by rw [hw];exact (by (with_reducible repeat (first|refine zh ?_ _|refine zj ?_|refine zi ?_ _|refine zv ?_ NB121_120.out _));exact BK121.out))⟩;have n3_ : Aside0 (Below w.heap.size w w35):=⟨(by rw [hw];exact (by repeat (first|(with_reducible first|exact HB.out|apply ze|apply zd|apply zf|refine zk ?_ GE120.out|refine zk ?_ GE121.out)|exact HB.out)))⟩;clear hw;clear HO126;clear BK120;clear BK121;clear HB;have HO126:=n0_;have BK120:=n1_;have BK121:=n2_;have HB:=n3_;clear n0_ n1_ n2_ n3_;have hcz36_0 : w35.cell? ⟨gb120,0,none⟩=some (.int .u64 (Go.bits .and .u64 (IntKind.u64.wrap (t122+t129)) 4294967295)):=(zs BK120.out 0).trans rfl;have hcz36_1 : w35.cell? ⟨gb120,1,none⟩=some (.int .u32 t123):=(zs BK120.out 1).trans rfl;have hcz36_2 : w35.cell? ⟨gb120,2,none⟩=some (.slice Ao27 t124.length co27):=(zs BK120.out 2).trans rfl;have hfz36_0:=zx BK120.out 0;have hfz36_1:=zx BK120.out 1;have hfz36_2:=zx BK120.out 2)|((with_reducible refine gate_callee (f:=54) rfl ?_);refine goesL_ (some 48) rfl rfl Try.func54 (by kernel_rfl) rfl #[.slice Ao27 t124.length co27] rfl (by (try simp only [List.map_toArray,List.map_cons,List.map_nil]);first|done|rfl|(simp only [List.length_drop,List.length_take];rfl)) ?_;(with_reducible refine (coder_carry.calls k (fun k_=>some k_=(.slice Ao27 t124.length co27 : Value).ownBlock) (.slice Ao27 t124.length co27) t124 t130 w _ ?side1 ?side2 A32.out).mono ?_);(case side1=>repeat (first|(with_reducible first|exact HB.out|apply ze|apply zd|apply zf|refine zk ?_ GE120.out|refine zk ?_ GE121.out)|exact HB.out));(case side2=>exact Kd.R_tight rfl HO126.out);rintro e w37 ⟨rfl,hy0,hb,hkp⟩;refine ⟨_,rfl, ?_⟩;have n0_:=zm (blk_kept (by (with_reducible repeat (first|refine zh ?_ _|refine zj ?_|refine zi ?_ _));exact BK120.out) hkp (fun hs_=>(fun e_=>(zu HO126.out BK120.out (by decide)) e_) hs_));have n1_:=zm (blk_kept (by (with_reducible repeat (first|refine zh ?_ _|refine zj ?_|refine zi ?_ _));exact BK121.out) hkp (fun hs_=>(fun e_=>(zu HO126.out BK121.out (by decide)) e_) hs_));have n2_:=zm (Kd.R_reok rfl hy0 (fun k_ e_=>HO126.out.1 k_ e_));have n3_:=zm (hb);clear BK120;clear BK121;clear HO126;clear HB;have BK120:=n0_;have BK121:=n1_;have HO126:=n2_;have HB:=n3_;clear n0_ n1_ n2_ n3_;(try clear hb);(try clear hkp);(try clear hy0)))
     go_meet
     case rel=>exact ⟨_,(Go.bits .and .u64 (IntKind.u64.wrap (t122+t129)) 4294967295),(t130),(.slice Ao27 t124.length co27),H',⟨by first|omega|exact Nat.le_refl _⟩,⟨by (with_reducible repeat (first|apply zo|apply zp|apply zq));exact HO126.out⟩,⟨by (with_reducible repeat (first|refine zh ?_ _|refine zj ?_|refine zi ?_ _));exact BK120.out⟩,⟨by (with_reducible repeat (first|refine zh ?_ _|refine zj ?_|refine zi ?_ _));exact BK121.out⟩,⟨by repeat (first|(with_reducible first|exact HB.out|apply ze|apply zd|apply zf|refine zk ?_ GE120.out|refine zk ?_ GE121.out)|exact HB.out)⟩⟩
    ·
     rw [if_neg c31] at H
     have c31b0 : decide (4294967295 < (IntKind.u64.wrap (t122+t129)))=false:=decide_eq_false c31
     clear c31
     (first|rw [c31b0]|(simp only [i64_w,i32_w];rw [c31b0])|skip)
     have H' := zm H
     clear H
     go_wp2
     go_meet
     case rel=>exact ⟨_,(IntKind.u64.wrap (t122+t129)),(t124),(.slice Ao27 t124.length co27),H',⟨by first|omega|exact Nat.le_refl _⟩,⟨by (with_reducible repeat (first|apply zo|apply zp|apply zq));exact zG (zH (p:=⟨gb120,0,none⟩) (Kd.R_types HO126.out BK120.out (by decide)) (fun _ hk=>hk.2) (.int .u64 (IntKind.u64.wrap (t122+t129)))) (fun _ hk=>trivial)⟩,⟨by (with_reducible repeat (first|refine zh ?_ _|refine zj ?_|refine zi ?_ _));refine zw (cs := #[.int .u64 t122, .int .u32 t123, .slice Ao27 t124.length co27]) ?_ 0 _ rfl;(with_reducible repeat (first|refine zh ?_ _|refine zj ?_|refine zi ?_ _));exact BK120.out⟩,⟨by (with_reducible repeat (first|refine zh ?_ _|refine zj ?_|refine zi ?_ _|refine zv ?_ NB121_120.out _));exact BK121.out⟩,⟨by repeat (first|(with_reducible first|exact HB.out|apply ze|apply zd|apply zf|refine zk ?_ GE120.out|refine zk ?_ GE121.out)|exact HB.out)⟩⟩
   case rest =>
    clear HC20
    try clear c1
    try clear c2
    try clear p2
    try clear c3
    try clear c5
    try clear c7
    try clear c8
    try clear c8b0
    try clear c8b1
    try clear c11
    try clear c18
    try clear c23
    try clear c31
    try clear c31b0
    try clear c33
    try clear hcz12_0
    try clear hcz12_1
    try clear hcz12_2
    try clear hcz14_0
    try clear hcz14_1
    try clear hcz14_2
    try clear hcz17_0
    try clear hcz17_1
    try clear hcz17_2
    try clear hcz18_0
    try clear hcz18_1
    try clear hcz18_2
    try clear hcz24_0
    try clear hcz24_1
    try clear hcz24_2
    try clear hcz26_0
    try clear hcz26_1
    try clear hcz26_2
    try clear hcz29_0
    try clear hcz29_1
    try clear hcz29_2
    try clear hcz30_0
    try clear hcz30_1
    try clear hcz30_2
    try clear hcz34_0
    try clear hcz34_1
    try clear hcz34_2
    try clear hcz36_0
    try clear hcz36_1
    try clear hcz36_2
    try clear hfz12_0
    try clear hfz12_1
    try clear hfz12_2
    try clear hfz14_0
    try clear hfz14_1
    try clear hfz14_2
    try clear hfz17_0
    try clear hfz17_1
    try clear hfz17_2
    try clear hfz18_0
    try clear hfz18_1
    try clear hfz18_2
    try clear hfz24_0
    try clear hfz24_1
    try clear hfz24_2
    try clear hfz26_0
    try clear hfz26_1
    try clear hfz26_2
    try clear hfz29_0
    try clear hfz29_1
    try clear hfz29_2
    try clear hfz30_0
    try clear hfz30_1
    try clear hfz30_2
    try clear hfz34_0
    try clear hfz34_1
    try clear hfz34_2
    try clear hfz36_0
    try clear hfz36_1
    try clear hfz36_2
    obtain ⟨kq,x121000_19,x121002_19,u121002,HA,HJ19,HO_121002,BK120,BK121,HB⟩:=hcut
    cases kq with
    | zero=>exact absurd HA.out (by simp [coder_Put.j0])
    | succ kj19 =>
     have H:=HA.out;clear HA
     simp only [coder_Put.j0] at H
     have H' := zm H
     clear H
     go_wp2
     go_loopg [10] kj19 (fun kq v10 w' => ∃ (x10_2 : Int) (x121000_2 : Int) (x121002_2 : List Int) (u121002 : Value),v10=.int .u32 x10_2∧Aside0 (coder_Put.l0 kq x10_2 x121000_2 t123 x121002_2=some (r1,r2,r3,r4))∧Aside0 (kq≤kj19)∧Aside0 (Kd.R (Kd.int .u8) 5 w' w.heap.size (fun _=>True) u121002 x121002_2)∧Aside0 (w'.heap[gb120]? = some (.cells #[.int .u64 x121000_2, .int .u32 t123,u121002] 26 (0,0)))∧Aside0 (w'.heap[gb121]? = some (.cells #[.int .u64 0, .int .u32 0,(.slice none 0 0)] 26 (0,0)))∧Aside0 (Below w.heap.size w w'))
     case atStart=>exact ⟨(t128),(x121000_19),(x121002_19),(u121002),(by first|rfl|(simp;done)|(simp [*];done)),H',⟨Nat.le_refl _⟩,⟨by (with_reducible repeat (first|apply zo|apply zp|apply zq));exact HO_121002.out⟩,⟨by (with_reducible repeat (first|refine zh ?_ _|refine zj ?_|refine zi ?_ _));exact BK120.out⟩,⟨by (with_reducible repeat (first|refine zh ?_ _|refine zj ?_|refine zi ?_ _));exact BK121.out⟩,⟨by repeat (first|(with_reducible first|exact HB.out|apply ze|apply zd|apply zf|refine zk ?_ GE120.out|refine zk ?_ GE121.out)|exact HB.out)⟩⟩
     case round =>
      clear H'
      try clear c1
      try clear c2
      try clear p2
      try clear c3
      try clear c5
      try clear c7
      try clear c8
      try clear c8b0
      try clear c8b1
      try clear c11
      try clear c18
      try clear c23
      try clear c31
      try clear c31b0
      try clear c33
      try clear hcz12_0
      try clear hcz12_1
      try clear hcz12_2
      try clear hcz14_0
      try clear hcz14_1
      try clear hcz14_2
      try clear hcz17_0
      try clear hcz17_1
      try clear hcz17_2
      try clear hcz18_0
      try clear hcz18_1
      try clear hcz18_2
      try clear hcz24_0
      try clear hcz24_1
      try clear hcz24_2
      try clear hcz26_0
      try clear hcz26_1
      try clear hcz26_2
      try clear hcz29_0
      try clear hcz29_1
      try clear hcz29_2
      try clear hcz30_0
      try clear hcz30_1
      try clear hcz30_2
      try clear hcz34_0
      try clear hcz34_1
      try clear hcz34_2
      try clear hcz36_0
      try clear hcz36_1
      try clear hcz36_2
      try clear hfz12_0
      try clear hfz12_1
      try clear hfz12_2
      try clear hfz14_0
      try clear hfz14_1
      try clear hfz14_2
      try clear hfz17_0
      try clear hfz17_1
      try clear hfz17_2
      try clear hfz18_0
      try clear hfz18_1
      try clear hfz18_2
      try clear hfz24_0
      try clear hfz24_1
      try clear hfz24_2
      try clear hfz26_0
      try clear hfz26_1
      try clear hfz26_2
      try clear hfz29_0
      try clear hfz29_1
      try clear hfz29_2
      try clear hfz30_0
      try clear hfz30_1
      try clear hfz30_2
      try clear hfz34_0
      try clear hfz34_1
      try clear hfz34_2
      try clear hfz36_0
      try clear hfz36_1
      try clear hfz36_2
      try clear p2
      obtain ⟨x10_2,x121000_2,x121002_2,u121002,rfl,HA,HK2,HO_121002,BK120,BK121,HB⟩:=hrel
      cases gk with
      | zero=>exact absurd HA.out (by simp [coder_Put.l0])
      | succ k2 =>
       have H:=HA.out;clear HA
       simp only [coder_Put.l0] at H
       by_cases c38 : x10_2 < 16777216
       ·
        rw [if_pos c38] at H
        have c38b0 : decide (x10_2 < 16777216)=true:=decide_eq_true c38
        clear c38
        by_cases c39 : x121002_2.length < 140737488355328
        ·
         rw [if_pos c39] at H
         have LMc39:=zm c39;clear c39
         obtain ⟨y131,hy131⟩ : ∃ y_ : List Int,y_=(x121002_2 ++ [(x121000_2 / 16777216) % 256]):=⟨_,rfl⟩
         replace H : (coder_Put.l0 k2 ((x10_2 * 256) % 4294967296) (Go.bits .and .u64 (IntKind.u64.wrap (x121000_2 * 256)) 4294967295) t123 y131)=some (r1,r2,r3,r4):=by first|(rw [hy131];with_reducible exact H)|(have H2_:=(Option.bind_some _ _).symm.trans H;rw [hy131];with_reducible exact H2_)|(have H2_:=(Option.bind_some _ _).symm.trans H;with_reducible exact H2_)|with_reducible exact H|(rw [hy131];exact H)|exact H
         have Ny131:=zm hy131;clear hy131
         have H' := zm H
         clear H;have hnb40:=NB120_121.out;have hnc40:=NB121_120.out
         have hcz41_0 : wr.cell? ⟨gb120,0,none⟩=some (.int .u64 x121000_2):=(zs BK120.out 0).trans rfl
         have hcz41_1 : wr.cell? ⟨gb120,1,none⟩=some (.int .u32 t123):=(zs BK120.out 1).trans rfl
         have hcz41_2 : wr.cell? ⟨gb120,2,none⟩=some (u121002):=(zs BK120.out 2).trans rfl
         have hfz41_0:=zx BK120.out 0
         have hfz41_1:=zx BK120.out 1
         have hfz41_2:=zx BK120.out 2
         go_wp2_with (first|((with_reducible refine gate_builtin (b:=.append) (xs := #[.tmp 52, .tmp 57]) rfl ?_);at_builtin;refine Kd.R_append (Kd.int .u8) (w0:=w) w.heap.size rfl (.tmp 52) (.tmp 57) 24 5 (.int .u8 0) 1 rfl Try.underlying24 info5 rfl (by decide) (by omega) u121002 x121002_2 ((x121000_2 / 16777216) % 256) [.int .u8 ((x121000_2 / 16777216) % 256)] (fun _=>True) (fun _=>False) rfl rfl ?aP (fun _ hk=>hk.elim) ?aF ?aO ?aB ?aS ?aL ?_;(case aP=>exact rfl);(case aB=>exact (by repeat (first|(with_reducible first|exact HB.out|apply ze|apply zd|apply zf|refine zk ?_ GE120.out|refine zk ?_ GE121.out)|exact HB.out)));(case aF=>exact (fun _ _=>trivial));(case aO=>exact (by (with_reducible repeat (first|apply zo|apply zp|apply zq));exact HO_121002.out));(case aS=>exact (zE (by repeat (first|(with_reducible first|exact HB.out|apply ze|apply zd|apply zf|refine zk ?_ GE120.out|refine zk ?_ GE121.out)|exact HB.out))));(case aL=>have:=LMc39.out;omega);intro v132 w42 ho hb hg hat;rw [← Ny131.out] at ho;have n0_:=zm (blk_grown (g:=gb120) (o:=.cells #[.int .u64 x121000_2, .int .u32 t123,u121002] 26 (0,0)) (by (with_reducible repeat (first|refine zh ?_ _|refine zj ?_|refine zi ?_ _));exact BK120.out) hg (zu HO_121002.out BK120.out (by decide)));have n1_:=zm (blk_grown (g:=gb121) (o:=.cells #[.int .u64 0, .int .u32 0, .slice none 0 0] 26 (0,0)) (by (with_reducible repeat (first|refine zh ?_ _|refine zj ?_|refine zi ?_ _));exact BK121.out) hg (zu HO_121002.out BK121.out (by decide)));have n2_:=zm (hb);have n3_:=zm (ho);clear BK120;clear BK121;clear HB;clear HO_121002;have BK120:=n0_;have BK121:=n1_;have HB:=n2_;have HO133:=n3_;clear n0_ n1_ n2_ n3_;clear ho hb hg hat;obtain ⟨Ao43,co43,eo43⟩:=Kd.R_slice HO133.out;subst eo43;have hcz44_0 : w42.cell? ⟨gb120,0,none⟩=some (.int .u64 x121000_2):=(zs BK120.out 0).trans rfl;have hcz44_1 : w42.cell? ⟨gb120,1,none⟩=some (.int .u32 t123):=(zs BK120.out 1).trans rfl;have hcz44_2 : w42.cell? ⟨gb120,2,none⟩=some (u121002):=(zs BK120.out 2).trans rfl;have hfz44_0:=zx BK120.out 0;have hfz44_1:=zx BK120.out 1;have hfz44_2:=zx BK120.out 2))
         go_roundg k2
         case measure=>have:=HJ19.out;have:=HK2.out;omega
         case rel=>exact ⟨((x10_2 * 256) % 4294967296),(Go.bits .and .u64 (IntKind.u64.wrap (x121000_2 * 256)) 4294967295),(y131),(.slice Ao43 y131.length co43),(by first|rfl|(simp;done)|(simp [*];done)),H',⟨by have:=HJ19.out;have:=HK2.out;omega⟩,⟨by (with_reducible repeat (first|apply zo|apply zp|apply zq));exact zG (zH (p:=⟨gb120,0,none⟩) (zH (p:=⟨gb120,2,none⟩) (Kd.R_types HO133.out BK120.out (by decide)) (fun _ hk=>hk.2) (.slice Ao43 y131.length co43)) (fun _ hk=>hk.2) (.int .u64 (Go.bits .and .u64 (IntKind.u64.wrap (x121000_2 * 256)) 4294967295))) (fun _ hk=>trivial)⟩,⟨by (with_reducible repeat (first|refine zh ?_ _|refine zj ?_|refine zi ?_ _));refine zw (cs := #[.int .u64 x121000_2, .int .u32 t123, .slice Ao43 y131.length co43]) ?_ 0 _ rfl;(with_reducible repeat (first|refine zh ?_ _|refine zj ?_|refine zi ?_ _));refine zw (cs := #[.int .u64 x121000_2, .int .u32 t123,u121002]) ?_ 2 _ rfl;(with_reducible repeat (first|refine zh ?_ _|refine zj ?_|refine zi ?_ _));exact BK120.out⟩,⟨by (with_reducible repeat (first|refine zh ?_ _|refine zj ?_|refine zi ?_ _|refine zv ?_ NB121_120.out _));exact BK121.out⟩,⟨by repeat (first|(with_reducible first|exact HB.out|apply ze|apply zd|apply zf|refine zk ?_ GE120.out|refine zk ?_ GE121.out)|exact HB.out)⟩⟩
        ·
         rw [if_neg c39] at H
         exact absurd H (by simp)
       ·
        rw [if_neg c38] at H
        have c38b0 : decide (x10_2 < 16777216)=false:=decide_eq_false c38
        clear c38
        simp only [Option.some.injEq,Prod.mk.injEq] at H
        obtain ⟨rfl,rfl,rfl,rfl⟩:=H
        have hnb45:=NB120_121.out;have hnc45:=NB121_120.out
        have hcz46_0 : wr.cell? ⟨gb120,0,none⟩=some (.int .u64 x121000_2):=(zs BK120.out 0).trans rfl
        have hcz46_1 : wr.cell? ⟨gb120,1,none⟩=some (.int .u32 t123):=(zs BK120.out 1).trans rfl
        have hcz46_2 : wr.cell? ⟨gb120,2,none⟩=some (u121002):=(zs BK120.out 2).trans rfl
        have hfz46_0:=zx BK120.out 0
        have hfz46_1:=zx BK120.out 1
        have hfz46_2:=zx BK120.out 2
        have hcz47_0 : wr.cell? ⟨gb121,0,none⟩=some (.int .u64 0):=(zs BK121.out 0).trans rfl
        have hcz47_1 : wr.cell? ⟨gb121,1,none⟩=some (.int .u32 0):=(zs BK121.out 1).trans rfl
        have hcz47_2 : wr.cell? ⟨gb121,2,none⟩=some (.slice none 0 0):=(zs BK121.out 2).trans rfl
        have hfz47_0:=zx BK121.out 0
        have hfz47_1:=zx BK121.out 1
        have hfz47_2:=zx BK121.out 2
        obtain ⟨Ao48,co48,eo48⟩:=Kd.R_slice HO_121002.out
        subst eo48
        go_wp2
        refine bodyPost_ret (results_ct rfl _ _ gb121 26 #[.int .u64 x121000_2, .int .u32 x10_2, .slice Ao48 x121002_2.length co48] (0,0) _ rfl (by (with_reducible repeat (first|refine zh ?_ _|refine zj ?_|refine zi ?_ _));refine zw (cs := #[.int .u64 x121000_2, .int .u32 x10_2, .slice none 0 0]) ?_ 2 _ rfl;(with_reducible repeat (first|refine zh ?_ _|refine zj ?_|refine zi ?_ _));refine zw (cs := #[.int .u64 x121000_2, .int .u32 0, .slice none 0 0]) ?_ 1 _ rfl;(with_reducible repeat (first|refine zh ?_ _|refine zj ?_|refine zi ?_ _));refine zw (cs := #[.int .u64 0, .int .u32 0, .slice none 0 0]) ?_ 0 _ rfl;(with_reducible repeat (first|refine zh ?_ _|refine zj ?_|refine zi ?_ _|refine zv ?_ NB121_120.out _));exact BK121.out) Try.underlying26 rfl (by kernel_rfl)) rfl ?_
        exact ⟨_,by first|rfl|(simp [errW_none,errW_some] <;> rfl)|(simp [*,errW_none,errW_some] <;> rfl),by (with_reducible repeat (first|apply zo|apply zp|apply zq));exact zG (zH (p:=⟨gb121,2,none⟩) (zH (p:=⟨gb121,1,none⟩) (zH (p:=⟨gb121,0,none⟩) (zH (p:=⟨gb120,1,none⟩) (Kd.R_types (Kd.R_types HO_121002.out BK120.out (by decide)) BK121.out (by decide)) (fun _ hk=>hk.1.2) (.int .u32 x10_2)) (fun _ hk=>hk.2) (.int .u64 x121000_2)) (fun _ hk=>hk.2) (.int .u32 x10_2)) (fun _ hk=>hk.2) (.slice Ao48 x121002_2.length co48)) (fun _ hk=>trivial),by repeat (first|(with_reducible first|exact HB.out|apply ze|apply zd|apply zf|refine zk ?_ GE120.out|refine zk ?_ GE121.out)|exact HB.out)⟩
 ·
  replace c7:=Bool.eq_false_iff.mpr c7
  subst c7
  have H1 : (some (t122,t123,t124,1))=some (r1,r2,r3,r4):=by rw [if_neg (show ¬ (false=true) by decide)] at H;exact H
  clear H;have H:=H1;clear H1
  simp only [Option.some.injEq,Prod.mk.injEq] at H
  obtain ⟨rfl,rfl,rfl,rfl⟩:=H
  go_enter Try.func18,Try.ntmps18
  go_wp2_with (first|((with_reducible refine gate_dst (N:=4) rfl ?_);refine box_event ?hg (N:=4) ?hd (cs := #[.int .u64 a0_0, .int .u32 a0_1, .slice A0_2 l0_2.length c0_2]) (t:=26) ?hr ?_;(case hd=>rfl);(case hg=>rfl);(case hr=>first|(go_simp;done)|(go_simp;rfl));intro gb120 hg w49 hbox hb;have n0_:=zm (zJ (by repeat (first|(with_reducible first|exact HB.out|apply ze|apply zd|apply zf)|exact HB.out)) hb);have n1_:=zm (hbox);have n2_:=zm ((by rw [hg];exact (zE (by repeat (first|(with_reducible first|exact HB.out|apply ze|apply zd|apply zf)|exact HB.out))) : w.heap.size≤gb120));have n3_:=zm ((by rw [hg];exact (zE (by repeat (first|(with_reducible first|exact HB.out|apply ze|apply zd|apply zf)|exact HB.out))) : w.heap.size≤gb120));clear HB;have HB:=n0_;have BK120:=n1_;have GW120:=n2_;have GE120:=n3_;clear n0_ n1_ n2_ n3_;clear hb hbox hg)|((with_reducible refine gate_dst (N:=8) rfl ?_);refine box_event ?hg (N:=8) ?hd (cs := #[.int .u64 0, .int .u32 0, .slice none 0 0]) (t:=26) ?hr ?_;(case hd=>rfl);(case hg=>rfl);(case hr=>first|(go_simp;done)|(go_simp;rfl));intro gb121 hg w50 hbox hb;have n0_:=zm (zF (g:=gb120) (o:=.cells #[.int .u64 a0_0, .int .u32 a0_1, .slice A0_2 l0_2.length c0_2] 26 (0,0)) (by (with_reducible repeat (first|refine zh ?_ _|refine zj ?_|refine zi ?_ _));exact BK120.out) hb);have n1_:=zm (zJ (by repeat (first|(with_reducible first|exact HB.out|apply ze|apply zd|apply zf|refine zk ?_ GE120.out)|exact HB.out)) hb);have n2_:=zm (hbox);have n3_:=zm ((by rw [hg];exact (zE (by repeat (first|(with_reducible first|exact HB.out|apply ze|apply zd|apply zf|refine zk ?_ GE120.out)|exact HB.out))) : w.heap.size≤gb121));have n4_:=zm ((by rw [hg];exact (zE (by repeat (first|(with_reducible first|exact HB.out|apply ze|apply zd|apply zf|refine zk ?_ GE120.out)|exact HB.out))) : w.heap.size≤gb121));have n5_:=zm ((by rw [hg];exact zn (zD (g:=gb120) (o:=.cells #[.int .u64 a0_0, .int .u32 a0_1, .slice A0_2 l0_2.length c0_2] 26 (0,0)) (by (with_reducible repeat (first|refine zh ?_ _|refine zj ?_|refine zi ?_ _));exact BK120.out)) : gb120≠gb121));have n6_:=zm ((by rw [hg];exact zg (zD (g:=gb120) (o:=.cells #[.int .u64 a0_0, .int .u32 a0_1, .slice A0_2 l0_2.length c0_2] 26 (0,0)) (by (with_reducible repeat (first|refine zh ?_ _|refine zj ?_|refine zi ?_ _));exact BK120.out)) : gb121≠gb120));clear BK120;clear HB;have BK120:=n0_;have HB:=n1_;have BK121:=n2_;have GW121:=n3_;have GE121:=n4_;have NB120_121:=n5_;have NB121_120:=n6_;clear n0_ n1_ n2_ n3_ n4_ n5_ n6_;clear hb hbox hg;have hnb51:=NB120_121.out;have hnc51:=NB121_120.out;have hcz52_0 : w50.cell? ⟨gb120,0,none⟩=some (.int .u64 a0_0):=(zs BK120.out 0).trans rfl;have hcz52_1 : w50.cell? ⟨gb120,1,none⟩=some (.int .u32 a0_1):=(zs BK120.out 1).trans rfl;have hcz52_2 : w50.cell? ⟨gb120,2,none⟩=some (.slice A0_2 l0_2.length c0_2):=(zs BK120.out 2).trans rfl;have hfz52_0:=zx BK120.out 0;have hfz52_1:=zx BK120.out 1;have hfz52_2:=zx BK120.out 2)|((with_reducible refine gate_callee (f:=51) rfl ?_);refine goesL_ (some 13) rfl rfl Try.func51 (by kernel_rfl) rfl #[.agg #[.int .u64 a0_0, .int .u32 a0_1, .slice A0_2 l0_2.length c0_2]] rfl (by (try simp only [List.map_toArray,List.map_cons,List.map_nil]);first|done|rfl|(simp only [List.length_drop,List.length_take];rfl)) ?_;(with_reducible refine (coder_own.calls a0_0 a0_1 _ _ l0_2 t122 t123 t124 _ ?side1 ?side2 A5.out).mono ?_);(case side1=>repeat (first|exact (Kd.C_below HR0_2.out HB.out)|(with_reducible refine Kd.C_alloc ?_ _)|(with_reducible refine Kd.C_drewN ?_ _)|(with_reducible refine Kd.C_drew ?_)));(case side2=>exact HC0_2.out);rintro e w53 ⟨v125,rfl,ho0,hb⟩;refine ⟨_,rfl, ?_⟩;have n0_:=zm (Kd.R_lower ho0 (zE (by repeat (first|(with_reducible first|exact HB.out|apply ze|apply zd|apply zf|refine zk ?_ GE120.out|refine zk ?_ GE121.out)|exact HB.out))));have n1_:=zm (zF (g:=gb120) (o:=.cells #[.int .u64 a0_0, .int .u32 a0_1, .slice A0_2 l0_2.length c0_2] 26 (0,0)) (by (with_reducible repeat (first|refine zh ?_ _|refine zj ?_|refine zi ?_ _));exact BK120.out) hb);have n2_:=zm (zF (g:=gb121) (o:=.cells #[.int .u64 0, .int .u32 0, .slice none 0 0] 26 (0,0)) (by (with_reducible repeat (first|refine zh ?_ _|refine zj ?_|refine zi ?_ _));exact BK121.out) hb);have n3_:=zm (zJ (by repeat (first|(with_reducible first|exact HB.out|apply ze|apply zd|apply zf|refine zk ?_ GE120.out|refine zk ?_ GE121.out)|exact HB.out)) hb);clear BK120;clear BK121;clear HB;have HO126:=n0_;have BK120:=n1_;have BK121:=n2_;have HB:=n3_;clear n0_ n1_ n2_ n3_;(try clear hb);(try clear hb2);(try clear hk);(try clear hi);(try clear ho0);have hcz54_0 : w53.cell? ⟨gb120,0,none⟩=some (.int .u64 a0_0):=(zs BK120.out 0).trans rfl;have hcz54_1 : w53.cell? ⟨gb120,1,none⟩=some (.int .u32 a0_1):=(zs BK120.out 1).trans rfl;have hcz54_2 : w53.cell? ⟨gb120,2,none⟩=some (.slice A0_2 l0_2.length c0_2):=(zs BK120.out 2).trans rfl;have hfz54_0:=zx BK120.out 0;have hfz54_1:=zx BK120.out 1;have hfz54_2:=zx BK120.out 2;obtain ⟨Ao55,co55,eo55⟩:=Kd.R_slice HO126.out;subst eo55)|((with_reducible refine gate_store (t:=26) (p:=4) rfl ?_);refine store_event (t:=26) (p:=4) (v := ?vo_w56) (w1:=(((w53.setCell ⟨gb120,0,none⟩ (.int .u64 t122)).setCell ⟨gb120,1,none⟩ (.int .u32 t123)).setCell ⟨gb120,2,none⟩ (.slice Ao55 t124.length co55))) ?hg ?ho ?hn ?hr ?_;(case ho=>rfl);(case hg=>rfl);(case hn=>rfl);(case hr=>first|(go_simp;done)|(go_simp;rfl));intro w56 hw;have n0_ : Aside0 (Kd.R (Kd.int .u8) 5 w56 w.heap.size (fun _=>True) (.slice Ao55 t124.length co55) t124):=⟨(by rw [hw];exact (by (with_reducible repeat (first|apply zo|apply zp|apply zq));exact zG (zH (p:=⟨gb120,2,none⟩) (zH (p:=⟨gb120,1,none⟩) (zH (p:=⟨gb120,0,none⟩) (Kd.R_types HO126.out BK120.out (by decide)) (fun _ hk=>hk.2) (.int .u64 t122)) (fun _ hk=>hk.2) (.int .u32 t123)) (fun _ hk=>hk.2) (.slice Ao55 t124.length co55)) (fun _ hk=>trivial)))⟩;have n1_ : Aside0 (w56.heap[gb120]? = some (.cells #[.int .u64 t122, .int .u32 t123, .slice Ao55 t124.length co55] 26 (0,0))):=⟨(by rw [hw];exact (by (with_reducible repeat (first|refine zh ?_ _|refine zj ?_|refine zi ?_ _));refine zw (cs := #[.int .u64 t122, .int .u32 t123, .slice A0_2 l0_2.length c0_2]) ?_ 2 _ rfl;(with_reducible repeat (first|refine zh ?_ _|refine zj ?_|refine zi ?_ _));refine zw (cs := #[.int .u64 t122, .int .u32 a0_1, .slice A0_2 l0_2.length c0_2]) ?_ 1 _ rfl;(with_reducible repeat (first|refine zh ?_ _|refine zj ?_|refine zi ?_ _));refine zw (cs := #[.int .u64 a0_0, .int .u32 a0_1, .slice A0_2 l0_2.length c0_2]) ?_ 0 _ rfl;(with_reducible repeat (first|refine zh ?_ _|refine zj ?_|refine zi ?_ _));exact BK120.out))⟩;have n2_ : Aside0 (w56.heap[gb121]? = some (.cells #[.int .u64 0, .int .u32 0, .slice none 0 0] 26 (0,0))):=⟨(by rw [hw];exact (by (with_reducible repeat (first|refine zh ?_ _|refine zj ?_|refine zi ?_ _|refine zv ?_ NB121_120.out _));exact BK121.out))⟩;have n3_ : Aside0 (Below w.heap.size w w56):=⟨(by rw [hw];exact (by repeat (first|(with_reducible first|exact HB.out|apply ze|apply zd|apply zf|refine zk ?_ GE120.out|refine zk ?_ GE121.out)|exact HB.out)))⟩;clear hw;clear HO126;clear BK120;clear BK121;clear HB;have HO126:=n0_;have BK120:=n1_;have BK121:=n2_;have HB:=n3_;clear n0_ n1_ n2_ n3_)|((with_reducible refine gate_callee (f:=52) rfl ?_);refine goesL_ (some 17) rfl rfl Try.func52 (by kernel_rfl) rfl #[.int .i64 a1, .int .i64 a2, .int .i64 a3] rfl (by (try simp only [List.map_toArray,List.map_cons,List.map_nil]);first|done|rfl|(simp only [List.length_drop,List.length_take];rfl)) ?_;(with_reducible refine (coder_fair.calls a1 a2 a3 false _ A6.out).mono ?_);rintro e w' ⟨rfl,⟨nd,rfl⟩⟩;refine ⟨_,rfl, ?_⟩;(try (rw [drewN_self w56];generalize hq_ : World.drewN w56 _=w56;have n0_ : Aside0 (Kd.R (Kd.int .u8) 5 w56 w.heap.size (fun _=>True) (.slice Ao55 t124.length co55) t124):=⟨by rw [← hq_];exact (by (with_reducible repeat (first|apply zo|apply zp|apply zq));exact HO126.out)⟩;have n1_ : Aside0 (w56.heap[gb120]? = some (.cells #[.int .u64 t122, .int .u32 t123, .slice Ao55 t124.length co55] 26 (0,0))):=⟨by rw [← hq_];exact (by (with_reducible repeat (first|refine zh ?_ _|refine zj ?_|refine zi ?_ _));exact BK120.out)⟩;have n2_ : Aside0 (w56.heap[gb121]? = some (.cells #[.int .u64 0, .int .u32 0, .slice none 0 0] 26 (0,0))):=⟨by rw [← hq_];exact (by (with_reducible repeat (first|refine zh ?_ _|refine zj ?_|refine zi ?_ _));exact BK121.out)⟩;have n3_ : Aside0 (Below w.heap.size w w56):=⟨by rw [← hq_];exact (by repeat (first|(with_reducible first|exact HB.out|apply ze|apply zd|apply zf|refine zk ?_ GE120.out|refine zk ?_ GE121.out)|exact HB.out))⟩;clear HO126 BK120 BK121 HB hq_;have HO126:=n0_;have BK120:=n1_;have BK121:=n2_;have HB:=n3_;clear n0_ n1_ n2_ n3_));have hcz57_0 : w56.cell? ⟨gb120,0,none⟩=some (.int .u64 t122):=(zs BK120.out 0).trans rfl;have hcz57_1 : w56.cell? ⟨gb120,1,none⟩=some (.int .u32 t123):=(zs BK120.out 1).trans rfl;have hcz57_2 : w56.cell? ⟨gb120,2,none⟩=some (.slice Ao55 t124.length co55):=(zs BK120.out 2).trans rfl;have hfz57_0:=zx BK120.out 0;have hfz57_1:=zx BK120.out 1;have hfz57_2:=zx BK120.out 2;have hcz58_0 : w56.cell? ⟨gb121,0,none⟩=some (.int .u64 0):=(zs BK121.out 0).trans rfl;have hcz58_1 : w56.cell? ⟨gb121,1,none⟩=some (.int .u32 0):=(zs BK121.out 1).trans rfl;have hcz58_2 : w56.cell? ⟨gb121,2,none⟩=some (.slice none 0 0):=(zs BK121.out 2).trans rfl;have hfz58_0:=zx BK121.out 0;have hfz58_1:=zx BK121.out 1;have hfz58_2:=zx BK121.out 2))
  refine bodyPost_ret (results_ct rfl _ _ gb121 26 #[.int .u64 t122, .int .u32 t123, .slice Ao55 t124.length co55] (0,0) _ rfl (by (with_reducible repeat (first|refine zh ?_ _|refine zj ?_|refine zi ?_ _));refine zw (cs := #[.int .u64 t122, .int .u32 t123, .slice none 0 0]) ?_ 2 _ rfl;(with_reducible repeat (first|refine zh ?_ _|refine zj ?_|refine zi ?_ _));refine zw (cs := #[.int .u64 t122, .int .u32 0, .slice none 0 0]) ?_ 1 _ rfl;(with_reducible repeat (first|refine zh ?_ _|refine zj ?_|refine zi ?_ _));refine zw (cs := #[.int .u64 0, .int .u32 0, .slice none 0 0]) ?_ 0 _ rfl;(with_reducible repeat (first|refine zh ?_ _|refine zj ?_|refine zi ?_ _));exact BK121.out) Try.underlying26 rfl (by kernel_rfl)) rfl ?_
  exact ⟨_,by first|rfl|(simp [errW_none,errW_some] <;> rfl)|(simp [*,errW_none,errW_some] <;> rfl),by (with_reducible repeat (first|apply zo|apply zp|apply zq));exact zG (zH (p:=⟨gb121,2,none⟩) (zH (p:=⟨gb121,1,none⟩) (zH (p:=⟨gb121,0,none⟩) (Kd.R_types HO126.out BK121.out (by decide)) (fun _ hk=>hk.2) (.int .u64 t122)) (fun _ hk=>hk.2) (.int .u32 t123)) (fun _ hk=>hk.2) (.slice Ao55 t124.length co55)) (fun _ hk=>trivial),by repeat (first|(with_reducible first|exact HB.out|apply ze|apply zd|apply zf|refine zk ?_ GE120.out|refine zk ?_ GE121.out)|exact HB.out)⟩

end Go.Proofs.Ytkaoiblgfpphoaa.Prt

namespace Go.Proofs.Ytkaoiblgfpphoaa.Prt
open Go.RowKit Go.Proofs.YtkaoiblgfpphoaaW.PrintWords Go.Proofs.YtkaoiblgfpphoaaW.PrintLast Go.Proofs.YtkaoiblgfpphoaaW.PrintMore
attribute [local go_sem] max2_int min2_int max_two min_two max_three min_three max_four min_four   -- for this text's walks alone
set_option linter.unusedVariables false
set_option linter.unusedSimpArgs false

/-! ### gain_Right: function 45 -/
def gain_Right.l0 : Nat→List Int→List Int→Int→Int→Option (Bool)
 | 0,_,_,_,_=>none
 | k+1,x0,x5,x6,x7=>if x7 < x6 then (if 0≤x7 then (if x7 < (x5.length : Int) then (if (rd x5 x7) < 0 then (some false) else (if (rd x5 x7) > 44 then (some false) else (gain_Right.l0 k x0 x5 x6 (wrap64 (x7+1))))) else (none)) else (none)) else (some ((x0.length : Int) == 5))
def gain_Right.f (k : Nat) (l0 : List Int) : Option (Bool):=gain_Right.l0 k l0 l0 (l0.length : Int) 0
theorem gain_Right.mono_l : ∀ k,(∀ y0 y1 y2 y3,LeO (gain_Right.l0 k y0 y1 y2 y3) (gain_Right.l0 (k+1) y0 y1 y2 y3))
 | 0=>fun _ _ _ _ r h=>by simp [gain_Right.l0] at h
 | k+1=>by
  have ih0:=gain_Right.mono_l k
  ·
   intro y0 y1 y2 y3
   unfold gain_Right.l0
   repeat' first
   | (with_reducible exact ih0 _ _ _ _)
   | (with_reducible exact LeO.refl _)
   | (with_reducible exact LeO.none _)
   | (with_reducible refine LeO.ite ?_ ?_)
   | (with_reducible refine LeO.bind ?_ (fun _ => ?_))
   | exact ih0 _ _ _ _
   | exact LeO.none _
   | refine LeO.ite ?_ ?_
   | refine LeO.bind ?_ (fun _ => ?_)
theorem gain_Right.mono : ∀ a0 k,LeO (gain_Right.f k a0) (gain_Right.f (k+1) a0):=by
 intro a0 k
 have ih0:=gain_Right.mono_l k
 unfold gain_Right.f
 repeat' first
   | (with_reducible exact ih0 _ _ _ _)
   | (with_reducible exact LeO.refl _)
   | (with_reducible exact LeO.none _)
   | (with_reducible refine LeO.ite ?_ ?_)
   | (with_reducible refine LeO.bind ?_ (fun _ => ?_))
   | exact ih0 _ _ _ _
   | exact LeO.none _
   | refine LeO.ite ?_ ?_
   | refine LeO.bind ?_ (fun _ => ?_)
set_option maxHeartbeats 8000000 in
set_option maxRecDepth 100000 in
theorem gain_Right.calls (k : Nat) (A0 : Option Addr) (c0 : Nat) (l0 : List Int) (r : Bool) (w : World) (hr0 : Kd.C (Kd.int .i64) w A0 l0.length l0) (hc0 : l0.length≤c0) (h : gain_Right.f k l0=some r) :
  Calls Try.prog 45 #[.slice A0 l0.length c0] w fun e w' => e=.returned (.bool r)∧Drawn0 w w' := by
 have HR0:=zm hr0;have HC0:=zm hc0;clear hr0 hc0
 have H : (gain_Right.l0 k l0 l0 (l0.length : Int) 0)=some r:=h
 clear h
 have H' := zm H
 clear H
 go_enter Try.func45,Try.ntmps45
 go_wp2
 go_loopg [7] k (fun kq v7 w' => ∃ (x7_1 : Int),v7=.int .i64 x7_1∧Aside0 (gain_Right.l0 kq l0 l0 (l0.length : Int) x7_1=some r)∧Aside0 (kq≤k)∧Drawn0 w w')
 case atStart=>exact ⟨(0),(by first|rfl|(simp;done)|(simp [*];done)),H',⟨Nat.le_refl _⟩,by repeat (first|exact Drawn0.refl _|apply Drawn0.step)⟩
 case round =>
  clear H'
  obtain ⟨x7_1,rfl,HA,HK1,⟨m1,rfl⟩⟩:=hrel
  cases gk with
  | zero=>exact absurd HA.out (by simp [gain_Right.l0])
  | succ k1 =>
   have H:=HA.out;clear HA
   simp only [gain_Right.l0] at H
   by_cases c2 : x7_1 < (l0.length : Int)
   ·
    rw [if_pos c2] at H
    have c2b0 : decide (x7_1 < (l0.length : Int))=true:=decide_eq_true c2
    clear c2
    by_cases c3 : 0≤x7_1
    ·
     rw [if_pos c3] at H
     have c3b0 : decide (0≤x7_1)=true:=decide_eq_true c3
     clear c3
     by_cases c4 : x7_1 < (l0.length : Int)
     ·
      rw [if_pos c4] at H
      have c4b0 : decide (x7_1 < (l0.length : Int))=true:=decide_eq_true c4
      clear c4
      by_cases c5 : (rd l0 x7_1) < 0
      ·
       rw [if_pos c5] at H
       have c5b0 : decide ((rd l0 x7_1) < 0)=true:=decide_eq_true c5
       clear c5
       obtain rfl:=Option.some.inj H
       have p661 : 0≤(x7_1 : Int):=of_decide_eq_true (by first|(with_reducible assumption)|assumption)
       have q661 : x7_1 < (l0.length : Int):=of_decide_eq_true (by first|(with_reducible assumption)|assumption)
       obtain ⟨ad661,e661,hx661_0⟩:=Kd.at_int HR0.out x7_1 p661 q661
       cases e661
       replace p661:=eq_true p661
       replace q661:=eq_true q661
       go_wp2
       go_ret
       exact ⟨by first|rfl|(simp;done)|(simp [*];done),by repeat (first|exact Drawn0.refl _|apply Drawn0.step)⟩
      ·
       rw [if_neg c5] at H
       have c5b0 : decide ((rd l0 x7_1) < 0)=false:=decide_eq_false c5
       clear c5
       by_cases c6 : (rd l0 x7_1) > 44
       ·
        rw [if_pos c6] at H
        have c6b0 : decide (44 < (rd l0 x7_1))=true:=decide_eq_true c6
        clear c6
        obtain rfl:=Option.some.inj H
        have p661 : 0≤(x7_1 : Int):=of_decide_eq_true (by first|(with_reducible assumption)|assumption)
        have q661 : x7_1 < (l0.length : Int):=of_decide_eq_true (by first|(with_reducible assumption)|assumption)
        obtain ⟨ad661,e661,hx661_0⟩:=Kd.at_int HR0.out x7_1 p661 q661
        cases e661
        replace p661:=eq_true p661
        replace q661:=eq_true q661
        go_wp2
        go_ret
        exact ⟨by first|rfl|(simp;done)|(simp [*];done),by repeat (first|exact Drawn0.refl _|apply Drawn0.step)⟩
       ·
        rw [if_neg c6] at H
        have c6b0 : decide (44 < (rd l0 x7_1))=false:=decide_eq_false c6
        clear c6
        have H' := zm H
        clear H
        have p661 : 0≤(x7_1 : Int):=of_decide_eq_true (by first|(with_reducible assumption)|assumption)
        have q661 : x7_1 < (l0.length : Int):=of_decide_eq_true (by first|(with_reducible assumption)|assumption)
        obtain ⟨ad661,e661,hx661_0⟩:=Kd.at_int HR0.out x7_1 p661 q661
        cases e661
        replace p661:=eq_true p661
        replace q661:=eq_true q661
        go_wp2
        go_roundg k1
        case measure=>have:=HK1.out;omega
        case rel=>exact ⟨(wrap64 (x7_1+1)),(by first|rfl|(simp;done)|(simp [*];done)),H',⟨by have:=HK1.out;omega⟩,by repeat (first|exact Drawn0.refl _|apply Drawn0.step)⟩
     ·
      rw [if_neg c4] at H
      exact absurd H (by simp)
    ·
     rw [if_neg c3] at H
     exact absurd H (by simp)
   ·
    rw [if_neg c2] at H
    have c2b0 : decide (x7_1 < (l0.length : Int))=false:=decide_eq_false c2
    clear c2
    obtain rfl:=Option.some.inj H
    go_wp2
    go_ret
    exact ⟨by first|rfl|(simp;done)|(simp [*];done),by repeat (first|exact Drawn0.refl _|apply Drawn0.step)⟩

end Go.Proofs.Ytkaoiblgfpphoaa.Prt

namespace Go.Proofs.Ytkaoiblgfpphoaa.Prt
open Go.RowKit Go.Proofs.YtkaoiblgfpphoaaW.PrintWords Go.Proofs.YtkaoiblgfpphoaaW.PrintLast Go.Proofs.YtkaoiblgfpphoaaW.PrintMore
attribute [local go_sem] max2_int min2_int max_two min_two max_three min_three max_four min_four   -- for this text's walks alone
set_option linter.unusedVariables false
set_option linter.unusedSimpArgs false

/-! ### coder_halves: function 63 -/
def coder_halves.f (a0 : Int) : Option (Int × Int):=if a0≤65536 then (some (wrap64 (a0),1)) else (some (wrap64 ((wrap64 (IntKind.u64.wrap (Int.tdiv (IntKind.u64.wrap (a0 - 1)) 65536)))+1),65536))
set_option maxHeartbeats 8000000 in
set_option maxRecDepth 100000 in
theorem coder_halves.calls (a0 : Int) (r1 : Int) (r2 : Int) (w : World) (h : coder_halves.f a0=some (r1,r2)) :
  Calls Try.prog 63 #[.int .u64 a0] w fun e w' => e=.returned (.tuple #[.int .i64 r1, .int .i64 r2])∧Drawn0 w w' := by
 have H : (if a0≤65536 then (some (wrap64 (a0),1)) else (some (wrap64 ((wrap64 (IntKind.u64.wrap (Int.tdiv (IntKind.u64.wrap (a0 - 1)) 65536)))+1),65536)))=some (r1,r2):=h
 clear h
 by_cases c2 : a0≤65536
 ·
  rw [if_pos c2] at H
  have c2b0 : decide (a0≤65536)=true:=decide_eq_true c2
  clear c2
  simp only [Option.some.injEq,Prod.mk.injEq] at H
  obtain ⟨rfl,rfl⟩:=H
  go_enter Try.func63,Try.ntmps63
  go_wp2
  go_ret2
  exact ⟨by first|rfl|(simp;done)|(simp [*];done),by repeat (first|exact Drawn0.refl _|apply Drawn0.step)⟩
 ·
  rw [if_neg c2] at H
  have c2b0 : decide (a0≤65536)=false:=decide_eq_false c2
  clear c2
  simp only [Option.some.injEq,Prod.mk.injEq] at H
  obtain ⟨rfl,rfl⟩:=H
  go_enter Try.func63,Try.ntmps63
  go_wp2
  go_ret2
  exact ⟨by first|rfl|(simp;done)|(simp [*];done),by repeat (first|exact Drawn0.refl _|apply Drawn0.step)⟩

end Go.Proofs.Ytkaoiblgfpphoaa.Prt

namespace Go.Proofs.Ytkaoiblgfpphoaa.Prt
open Go.RowKit Go.Proofs.YtkaoiblgfpphoaaW.PrintWords Go.Proofs.YtkaoiblgfpphoaaW.PrintLast Go.Proofs.YtkaoiblgfpphoaaW.PrintMore
attribute [local go_sem] max2_int min2_int max_two min_two max_three min_three max_four min_four   -- for this text's walks alone
set_option linter.unusedVariables false
set_option linter.unusedSimpArgs false

/-! ### coder_PutNum: function 37 -/
mutual
def coder_PutNum.j0 : Nat→Int→Int→Bool→Int→Int→List Int→Option (Int × Int × List Int × Int)
 | 0,_,_,_,_,_,_=>none
 | k+1,x1,x2,x26,x473000,x473001,x473002=>if x26=true then (some (x473000,x473001,x473002,1)) else ((coder_halves.f x2).bind fun bt479=>(if bt479.2=0 then (none) else ((coder_Put.f k x473000 x473001 x473002 (wrap64 (Int.tdiv (wrap64 (x1)) bt479.2)) (wrap64 ((wrap64 (Int.tdiv (wrap64 (x1)) bt479.2))+1)) bt479.1).bind fun bt481=>(if bt481.2.2.2=0 then (coder_PutNum.j1 k bt479.2 (Int.tmod (wrap64 (x1)) bt479.2) bt481.2.2.2 (decide (bt479.2 > 1)) x473000 x473001 x473002 bt481.1 bt481.2.1 bt481.2.2.1) else (coder_PutNum.j1 k bt479.2 (Int.tmod (wrap64 (x1)) bt479.2) bt481.2.2.2 false x473000 x473001 x473002 bt481.1 bt481.2.1 bt481.2.2.1)))))
def coder_PutNum.j1 : Nat→Int→Int→Int→Bool→Int→Int→List Int→Int→Int→List Int→Option (Int × Int × List Int × Int)
 | 0,_,_,_,_,_,_,_,_,_,_=>none
 | k+1,x9,x11,x13,x55,x473000,x473001,x473002,x488000,x488001,x488002=>if x55=true then ((coder_Put.f k x488000 x488001 x488002 x11 (wrap64 (x11+1)) x9).bind fun bt488=>(if bt488.2.2.2=0 then (some (bt488.1,bt488.2.1,bt488.2.2.1,0)) else (some (x473000,x473001,x473002,bt488.2.2.2)))) else (if x13=0 then (some (x488000,x488001,x488002,0)) else (some (x473000,x473001,x473002,x13)))
end
def coder_PutNum.f (k : Nat) (a0_0 : Int) (a0_1 : Int) (l0_2 : List Int) (a1 : Int) (a2 : Int) : Option (Int × Int × List Int × Int):=(coder_own.f a0_0 a0_1 l0_2).bind fun bt474=>(if a2 < 1 then (coder_PutNum.j0 k a1 a2 true bt474.1 bt474.2.1 bt474.2.2) else (if a2 > 4294967296 then (coder_PutNum.j0 k a1 a2 true bt474.1 bt474.2.1 bt474.2.2) else (coder_PutNum.j0 k a1 a2 (decide (a1 ≥ a2)) bt474.1 bt474.2.1 bt474.2.2)))
theorem coder_PutNum.mono_l : ∀ k,(∀ y0 y1 y2 y3 y4 y5,LeO (coder_PutNum.j0 k y0 y1 y2 y3 y4 y5) (coder_PutNum.j0 (k+1) y0 y1 y2 y3 y4 y5))∧(∀ y0 y1 y2 y3 y4 y5 y6 y7 y8 y9,LeO (coder_PutNum.j1 k y0 y1 y2 y3 y4 y5 y6 y7 y8 y9) (coder_PutNum.j1 (k+1) y0 y1 y2 y3 y4 y5 y6 y7 y8 y9))
 | 0=>⟨fun _ _ _ _ _ _ r h=>by simp [coder_PutNum.j0] at h,fun _ _ _ _ _ _ _ _ _ _ r h=>by simp [coder_PutNum.j1] at h⟩
 | k+1=>by
  obtain ⟨ih0,ih1⟩:=coder_PutNum.mono_l k
  refine ⟨?_, ?_⟩
  ·
   intro y0 y1 y2 y3 y4 y5
   unfold coder_PutNum.j0
   repeat' first
   | (with_reducible exact ih0 _ _ _ _ _ _)
   | (with_reducible exact ih1 _ _ _ _ _ _ _ _ _ _)
   | (with_reducible exact coder_Put.mono _ _ _ _ _ _ _)
   | (with_reducible exact LeO.refl _)
   | (with_reducible exact LeO.none _)
   | (with_reducible refine LeO.ite ?_ ?_)
   | (with_reducible refine LeO.bind ?_ (fun _ => ?_))
   | exact ih0 _ _ _ _ _ _
   | exact ih1 _ _ _ _ _ _ _ _ _ _
   | exact coder_Put.mono _ _ _ _ _ _ _
   | exact LeO.none _
   | refine LeO.ite ?_ ?_
   | refine LeO.bind ?_ (fun _ => ?_)
  ·
   intro y0 y1 y2 y3 y4 y5 y6 y7 y8 y9
   unfold coder_PutNum.j1
   repeat' first
   | (with_reducible exact ih0 _ _ _ _ _ _)
   | (with_reducible exact ih1 _ _ _ _ _ _ _ _ _ _)
   | (with_reducible exact coder_Put.mono _ _ _ _ _ _ _)
   | (with_reducible exact LeO.refl _)
   | (with_reducible exact LeO.none _)
   | (with_reducible refine LeO.ite ?_ ?_)
   | (with_reducible refine LeO.bind ?_ (fun _ => ?_))
   | exact ih0 _ _ _ _ _ _
   | exact ih1 _ _ _ _ _ _ _ _ _ _
   | exact coder_Put.mono _ _ _ _ _ _ _
   | exact LeO.none _
   | refine LeO.ite ?_ ?_
   | refine LeO.bind ?_ (fun _ => ?_)
theorem coder_PutNum.mono : ∀ a0 a1 a2 a3 a4 k,LeO (coder_PutNum.f k a0 a1 a2 a3 a4) (coder_PutNum.f (k+1) a0 a1 a2 a3 a4):=by
 intro a0 a1 a2 a3 a4 k
 obtain ⟨ih0,ih1⟩:=coder_PutNum.mono_l k
 unfold coder_PutNum.f
 repeat' first
   | (with_reducible exact ih0 _ _ _ _ _ _)
   | (with_reducible exact ih1 _ _ _ _ _ _ _ _ _ _)
   | (with_reducible exact coder_Put.mono _ _ _ _ _ _ _)
   | (with_reducible exact LeO.refl _)
   | (with_reducible exact LeO.none _)
   | (with_reducible refine LeO.ite ?_ ?_)
   | (with_reducible refine LeO.bind ?_ (fun _ => ?_))
   | exact ih0 _ _ _ _ _ _
   | exact ih1 _ _ _ _ _ _ _ _ _ _
   | exact coder_Put.mono _ _ _ _ _ _ _
   | exact LeO.none _
   | refine LeO.ite ?_ ?_
   | refine LeO.bind ?_ (fun _ => ?_)
set_option maxHeartbeats 8000000 in
set_option maxRecDepth 100000 in
theorem coder_PutNum.calls (k : Nat) (a0_0 : Int) (a0_1 : Int) (A0_2 : Option Addr) (c0_2 : Nat) (l0_2 : List Int) (a1 : Int) (a2 : Int) (r1 : Int) (r2 : Int) (r3 : List Int) (r4 : Int) (w : World) (hr0_2 : Kd.C (Kd.int .u8) w A0_2 l0_2.length l0_2) (hc0_2 : l0_2.length≤c0_2) (h : coder_PutNum.f k a0_0 a0_1 l0_2 a1 a2=some (r1,r2,r3,r4)) :
  Calls Try.prog 37 #[.agg #[.int .u64 a0_0, .int .u32 a0_1, .slice A0_2 l0_2.length c0_2], .int .u64 a1, .int .u64 a2] w fun e w' => ∃ v2_ : Value,e=.returned (.tuple #[.agg #[.int .u64 r1, .int .u32 r2,v2_], .int .i64 r4])∧Kd.R (Kd.int .u8) 5 w' w.heap.size (fun _=>True) v2_ r3∧Below w.heap.size w w' := by
 have hu26:=Try.underlying26;have HR0_2:=zm hr0_2;have HC0_2:=zm hc0_2;clear hr0_2 hc0_2;have HB:=zm (Below.refl w.heap.size w)
 have H : ((coder_own.f a0_0 a0_1 l0_2).bind fun bt474=>(if a2 < 1 then (coder_PutNum.j0 k a1 a2 true bt474.1 bt474.2.1 bt474.2.2) else (if a2 > 4294967296 then (coder_PutNum.j0 k a1 a2 true bt474.1 bt474.2.1 bt474.2.2) else (coder_PutNum.j0 k a1 a2 (decide (a1 ≥ a2)) bt474.1 bt474.2.1 bt474.2.2))))=some (r1,r2,r3,r4):=h
 clear h
 replace H:=Option.bind_eq_some_iff.mp H
 obtain ⟨⟨t474,t475,t476⟩,A40,H⟩:=H
 replace H : (if a2 < 1 then (coder_PutNum.j0 k a1 a2 true t474 t475 t476) else (if a2 > 4294967296 then (coder_PutNum.j0 k a1 a2 true t474 t475 t476) else (coder_PutNum.j0 k a1 a2 (decide (a1 ≥ a2)) t474 t475 t476)))=some (r1,r2,r3,r4):=H
 have A4:=zm A40;clear A40;have HC5:=zm H;clear H
 go_enter Try.func37,Try.ntmps37
 go_upto_region 2 with (first|((with_reducible refine gate_dst (N:=3) rfl ?_);refine box_event ?hg (N:=3) ?hd (cs := #[.int .u64 a0_0, .int .u32 a0_1, .slice A0_2 l0_2.length c0_2]) (t:=26) ?hr ?_;(case hd=>rfl);(case hg=>rfl);(case hr=>first|(go_simp;done)|(go_simp;rfl));intro gb472 hg w6 hbox hb;have n0_:=zm (zJ (by repeat (first|(with_reducible first|exact HB.out|apply ze|apply zd|apply zf)|exact HB.out)) hb);have n1_:=zm (hbox);have n2_:=zm ((by rw [hg];exact (zE (by repeat (first|(with_reducible first|exact HB.out|apply ze|apply zd|apply zf)|exact HB.out))) : w.heap.size≤gb472));have n3_:=zm ((by rw [hg];exact (zE (by repeat (first|(with_reducible first|exact HB.out|apply ze|apply zd|apply zf)|exact HB.out))) : w.heap.size≤gb472));clear HB;have HB:=n0_;have BK472:=n1_;have GW472:=n2_;have GE472:=n3_;clear n0_ n1_ n2_ n3_;clear hb hbox hg)|((with_reducible refine gate_dst (N:=6) rfl ?_);refine box_event ?hg (N:=6) ?hd (cs := #[.int .u64 0, .int .u32 0, .slice none 0 0]) (t:=26) ?hr ?_;(case hd=>rfl);(case hg=>rfl);(case hr=>first|(go_simp;done)|(go_simp;rfl));intro gb473 hg w7 hbox hb;have n0_:=zm (zF (g:=gb472) (o:=.cells #[.int .u64 a0_0, .int .u32 a0_1, .slice A0_2 l0_2.length c0_2] 26 (0,0)) (by (with_reducible repeat (first|refine zh ?_ _|refine zj ?_|refine zi ?_ _));exact BK472.out) hb);have n1_:=zm (zJ (by repeat (first|(with_reducible first|exact HB.out|apply ze|apply zd|apply zf|refine zk ?_ GE472.out)|exact HB.out)) hb);have n2_:=zm (hbox);have n3_:=zm ((by rw [hg];exact (zE (by repeat (first|(with_reducible first|exact HB.out|apply ze|apply zd|apply zf|refine zk ?_ GE472.out)|exact HB.out))) : w.heap.size≤gb473));have n4_:=zm ((by rw [hg];exact (zE (by repeat (first|(with_reducible first|exact HB.out|apply ze|apply zd|apply zf|refine zk ?_ GE472.out)|exact HB.out))) : w.heap.size≤gb473));have n5_:=zm ((by rw [hg];exact zn (zD (g:=gb472) (o:=.cells #[.int .u64 a0_0, .int .u32 a0_1, .slice A0_2 l0_2.length c0_2] 26 (0,0)) (by (with_reducible repeat (first|refine zh ?_ _|refine zj ?_|refine zi ?_ _));exact BK472.out)) : gb472≠gb473));have n6_:=zm ((by rw [hg];exact zg (zD (g:=gb472) (o:=.cells #[.int .u64 a0_0, .int .u32 a0_1, .slice A0_2 l0_2.length c0_2] 26 (0,0)) (by (with_reducible repeat (first|refine zh ?_ _|refine zj ?_|refine zi ?_ _));exact BK472.out)) : gb473≠gb472));clear BK472;clear HB;have BK472:=n0_;have HB:=n1_;have BK473:=n2_;have GW473:=n3_;have GE473:=n4_;have NB472_473:=n5_;have NB473_472:=n6_;clear n0_ n1_ n2_ n3_ n4_ n5_ n6_;clear hb hbox hg;have hnb8:=NB472_473.out;have hnc8:=NB473_472.out;have hcz9_0 : w7.cell? ⟨gb472,0,none⟩=some (.int .u64 a0_0):=(zs BK472.out 0).trans rfl;have hcz9_1 : w7.cell? ⟨gb472,1,none⟩=some (.int .u32 a0_1):=(zs BK472.out 1).trans rfl;have hcz9_2 : w7.cell? ⟨gb472,2,none⟩=some (.slice A0_2 l0_2.length c0_2):=(zs BK472.out 2).trans rfl;have hfz9_0:=zx BK472.out 0;have hfz9_1:=zx BK472.out 1;have hfz9_2:=zx BK472.out 2)|(go_at_call 51;(with_reducible refine (coder_own.calls a0_0 a0_1 _ _ l0_2 t474 t475 t476 _ ?side1 ?side2 A4.out).mono ?_);(case side1=>repeat (first|exact (Kd.C_below HR0_2.out HB.out)|(with_reducible refine Kd.C_alloc ?_ _)|(with_reducible refine Kd.C_drewN ?_ _)|(with_reducible refine Kd.C_drew ?_)));(case side2=>exact HC0_2.out);rintro e w10 ⟨v477,rfl,ho0,hb⟩;have n0_:=zm (Kd.R_lower ho0 (zE (by repeat (first|(with_reducible first|exact HB.out|apply ze|apply zd|apply zf|refine zk ?_ GE472.out|refine zk ?_ GE473.out)|exact HB.out))));have n1_:=zm (zF (g:=gb472) (o:=.cells #[.int .u64 a0_0, .int .u32 a0_1, .slice A0_2 l0_2.length c0_2] 26 (0,0)) (by (with_reducible repeat (first|refine zh ?_ _|refine zj ?_|refine zi ?_ _));exact BK472.out) hb);have n2_:=zm (zF (g:=gb473) (o:=.cells #[.int .u64 0, .int .u32 0, .slice none 0 0] 26 (0,0)) (by (with_reducible repeat (first|refine zh ?_ _|refine zj ?_|refine zi ?_ _));exact BK473.out) hb);have n3_:=zm (zJ (by repeat (first|(with_reducible first|exact HB.out|apply ze|apply zd|apply zf|refine zk ?_ GE472.out|refine zk ?_ GE473.out)|exact HB.out)) hb);clear BK472;clear BK473;clear HB;have HO478:=n0_;have BK472:=n1_;have BK473:=n2_;have HB:=n3_;clear n0_ n1_ n2_ n3_;(try clear hb);(try clear hb2);(try clear hk);(try clear hi);(try clear ho0);have hcz11_0 : w10.cell? ⟨gb472,0,none⟩=some (.int .u64 a0_0):=(zs BK472.out 0).trans rfl;have hcz11_1 : w10.cell? ⟨gb472,1,none⟩=some (.int .u32 a0_1):=(zs BK472.out 1).trans rfl;have hcz11_2 : w10.cell? ⟨gb472,2,none⟩=some (.slice A0_2 l0_2.length c0_2):=(zs BK472.out 2).trans rfl;have hfz11_0:=zx BK472.out 0;have hfz11_1:=zx BK472.out 1;have hfz11_2:=zx BK472.out 2;obtain ⟨Ao12,co12,eo12⟩:=Kd.R_slice HO478.out;subst eo12))
 repeat (go_quiet (first|((with_reducible refine gate_dst (N:=3) rfl ?_);refine box_event ?hg (N:=3) ?hd (cs := #[.int .u64 a0_0, .int .u32 a0_1, .slice A0_2 l0_2.length c0_2]) (t:=26) ?hr ?_;(case hd=>rfl);(case hg=>rfl);(case hr=>first|(go_simp;done)|(go_simp;rfl));intro gb472 hg w6 hbox hb;have n0_:=zm (zJ (by repeat (first|(with_reducible first|exact HB.out|apply ze|apply zd|apply zf)|exact HB.out)) hb);have n1_:=zm (hbox);have n2_:=zm ((by rw [hg];exact (zE (by repeat (first|(with_reducible first|exact HB.out|apply ze|apply zd|apply zf)|exact HB.out))) : w.heap.size≤gb472));have n3_:=zm ((by rw [hg];exact (zE (by repeat (first|(with_reducible first|exact HB.out|apply ze|apply zd|apply zf)|exact HB.out))) : w.heap.size≤gb472));clear HB;have HB:=n0_;have BK472:=n1_;have GW472:=n2_;have GE472:=n3_;clear n0_ n1_ n2_ n3_;clear hb hbox hg)|((with_reducible refine gate_dst (N:=6) rfl ?_);refine box_event ?hg (N:=6) ?hd (cs := #[.int .u64 0, .int .u32 0, .slice none 0 0]) (t:=26) ?hr ?_;(case hd=>rfl);(case hg=>rfl);(case hr=>first|(go_simp;done)|(go_simp;rfl));intro gb473 hg w7 hbox hb;have n0_:=zm (zF (g:=gb472) (o:=.cells #[.int .u64 a0_0, .int .u32 a0_1, .slice A0_2 l0_2.length c0_2] 26 (0,0)) (by (with_reducible repeat (first|refine zh ?_ _|refine zj ?_|refine zi ?_ _));exact BK472.out) hb);have n1_:=zm (zJ (by repeat (first|(with_reducible first|exact HB.out|apply ze|apply zd|apply zf|refine zk ?_ GE472.out)|exact HB.out)) hb);have n2_:=zm (hbox);have n3_:=zm ((by rw [hg];exact (zE (by repeat (first|(with_reducible first|exact HB.out|apply ze|apply zd|apply zf|refine zk ?_ GE472.out)|exact HB.out))) : w.heap.size≤gb473));have n4_:=zm ((by rw [hg];exact (zE (by repeat (first|(with_reducible first|exact HB.out|apply ze|apply zd|apply zf|refine zk ?_ GE472.out)|exact HB.out))) : w.heap.size≤gb473));have n5_:=zm ((by rw [hg];exact zn (zD (g:=gb472) (o:=.cells #[.int .u64 a0_0, .int .u32 a0_1, .slice A0_2 l0_2.length c0_2] 26 (0,0)) (by (with_reducible repeat (first|refine zh ?_ _|refine zj ?_|refine zi ?_ _));exact BK472.out)) : gb472≠gb473));have n6_:=zm ((by rw [hg];exact zg (zD (g:=gb472) (o:=.cells #[.int .u64 a0_0, .int .u32 a0_1, .slice A0_2 l0_2.length c0_2] 26 (0,0)) (by (with_reducible repeat (first|refine zh ?_ _|refine zj ?_|refine zi ?_ _));exact BK472.out)) : gb473≠gb472));clear BK472;clear HB;have BK472:=n0_;have HB:=n1_;have BK473:=n2_;have GW473:=n3_;have GE473:=n4_;have NB472_473:=n5_;have NB473_472:=n6_;clear n0_ n1_ n2_ n3_ n4_ n5_ n6_;clear hb hbox hg;have hnb8:=NB472_473.out;have hnc8:=NB473_472.out;have hcz9_0 : w7.cell? ⟨gb472,0,none⟩=some (.int .u64 a0_0):=(zs BK472.out 0).trans rfl;have hcz9_1 : w7.cell? ⟨gb472,1,none⟩=some (.int .u32 a0_1):=(zs BK472.out 1).trans rfl;have hcz9_2 : w7.cell? ⟨gb472,2,none⟩=some (.slice A0_2 l0_2.length c0_2):=(zs BK472.out 2).trans rfl;have hfz9_0:=zx BK472.out 0;have hfz9_1:=zx BK472.out 1;have hfz9_2:=zx BK472.out 2)|(go_at_call 51;(with_reducible refine (coder_own.calls a0_0 a0_1 _ _ l0_2 t474 t475 t476 _ ?side1 ?side2 A4.out).mono ?_);(case side1=>repeat (first|exact (Kd.C_below HR0_2.out HB.out)|(with_reducible refine Kd.C_alloc ?_ _)|(with_reducible refine Kd.C_drewN ?_ _)|(with_reducible refine Kd.C_drew ?_)));(case side2=>exact HC0_2.out);rintro e w10 ⟨v477,rfl,ho0,hb⟩;have n0_:=zm (Kd.R_lower ho0 (zE (by repeat (first|(with_reducible first|exact HB.out|apply ze|apply zd|apply zf|refine zk ?_ GE472.out|refine zk ?_ GE473.out)|exact HB.out))));have n1_:=zm (zF (g:=gb472) (o:=.cells #[.int .u64 a0_0, .int .u32 a0_1, .slice A0_2 l0_2.length c0_2] 26 (0,0)) (by (with_reducible repeat (first|refine zh ?_ _|refine zj ?_|refine zi ?_ _));exact BK472.out) hb);have n2_:=zm (zF (g:=gb473) (o:=.cells #[.int .u64 0, .int .u32 0, .slice none 0 0] 26 (0,0)) (by (with_reducible repeat (first|refine zh ?_ _|refine zj ?_|refine zi ?_ _));exact BK473.out) hb);have n3_:=zm (zJ (by repeat (first|(with_reducible first|exact HB.out|apply ze|apply zd|apply zf|refine zk ?_ GE472.out|refine zk ?_ GE473.out)|exact HB.out)) hb);clear BK472;clear BK473;clear HB;have HO478:=n0_;have BK472:=n1_;have BK473:=n2_;have HB:=n3_;clear n0_ n1_ n2_ n3_;(try clear hb);(try clear hb2);(try clear hk);(try clear hi);(try clear ho0);have hcz11_0 : w10.cell? ⟨gb472,0,none⟩=some (.int .u64 a0_0):=(zs BK472.out 0).trans rfl;have hcz11_1 : w10.cell? ⟨gb472,1,none⟩=some (.int .u32 a0_1):=(zs BK472.out 1).trans rfl;have hcz11_2 : w10.cell? ⟨gb472,2,none⟩=some (.slice A0_2 l0_2.length c0_2):=(zs BK472.out 2).trans rfl;have hfz11_0:=zx BK472.out 0;have hfz11_1:=zx BK472.out 1;have hfz11_2:=zx BK472.out 2;obtain ⟨Ao12,co12,eo12⟩:=Kd.R_slice HO478.out;subst eo12));go_upto_region 2 with (first|((with_reducible refine gate_dst (N:=3) rfl ?_);refine box_event ?hg (N:=3) ?hd (cs := #[.int .u64 a0_0, .int .u32 a0_1, .slice A0_2 l0_2.length c0_2]) (t:=26) ?hr ?_;(case hd=>rfl);(case hg=>rfl);(case hr=>first|(go_simp;done)|(go_simp;rfl));intro gb472 hg w6 hbox hb;have n0_:=zm (zJ (by repeat (first|(with_reducible first|exact HB.out|apply ze|apply zd|apply zf)|exact HB.out)) hb);have n1_:=zm (hbox);have n2_:=zm ((by rw [hg];exact (zE (by repeat (first|(with_reducible first|exact HB.out|apply ze|apply zd|apply zf)|exact HB.out))) : w.heap.size≤gb472));have n3_:=zm ((by rw [hg];exact (zE (by repeat (first|(with_reducible first|exact HB.out|apply ze|apply zd|apply zf)|exact HB.out))) : w.heap.size≤gb472));clear HB;have HB:=n0_;have BK472:=n1_;have GW472:=n2_;have GE472:=n3_;clear n0_ n1_ n2_ n3_;clear hb hbox hg)|((with_reducible refine gate_dst (N:=6) rfl ?_);refine box_event ?hg (N:=6) ?hd (cs := #[.int .u64 0, .int .u32 0, .slice none 0 0]) (t:=26) ?hr ?_;(case hd=>rfl);(case hg=>rfl);(case hr=>first|(go_simp;done)|(go_simp;rfl));intro gb473 hg w7 hbox hb;have n0_:=zm (zF (g:=gb472) (o:=.cells #[.int .u64 a0_0, .int .u32 a0_1, .slice A0_2 l0_2.length c0_2] 26 (0,0)) (by (with_reducible repeat (first|refine zh ?_ _|refine zj ?_|refine zi ?_ _));exact BK472.out) hb);have n1_:=zm (zJ (by repeat (first|(with_reducible first|exact HB.out|apply ze|apply zd|apply zf|refine zk ?_ GE472.out)|exact HB.out)) hb);have n2_:=zm (hbox);have n3_:=zm ((by rw [hg];exact (zE (by repeat (first|(with_reducible first|exact HB.out|apply ze|apply zd|apply zf|refine zk ?_ GE472.out)|exact HB.out))) : w.heap.size≤gb473));have n4_:=zm ((by rw [hg];exact (zE (by repeat (first|(with_reducible first|exact HB.out|apply ze|apply zd|apply zf|refine zk ?_ GE472.out)|exact HB.out))) : w.heap.size≤gb473));have n5_:=zm ((by rw [hg];exact zn (zD (g:=gb472) (o:=.cells #[.int .u64 a0_0, .int .u32 a0_1, .slice A0_2 l0_2.length c0_2] 26 (0,0)) (by (with_reducible repeat (first|refine zh ?_ _|refine zj ?_|refine zi ?_ _));exact BK472.out)) : gb472≠gb473));have n6_:=zm ((by rw [hg];exact zg (zD (g:=gb472) (o:=.cells #[.int .u64 a0_0, .int .u32 a0_1, .slice A0_2 l0_2.length c0_2] 26 (0,0)) (by (with_reducible repeat (first|refine zh ?_ _|refine zj ?_|refine zi ?_ _));exact BK472.out)) : gb473≠gb472));clear BK472;clear HB;have BK472:=n0_;have HB:=n1_;have BK473:=n2_;have GW473:=n3_;have GE473:=n4_;have NB472_473:=n5_;have NB473_472:=n6_;clear n0_ n1_ n2_ n3_ n4_ n5_ n6_;clear hb hbox hg;have hnb8:=NB472_473.out;have hnc8:=NB473_472.out;have hcz9_0 : w7.cell? ⟨gb472,0,none⟩=some (.int .u64 a0_0):=(zs BK472.out 0).trans rfl;have hcz9_1 : w7.cell? ⟨gb472,1,none⟩=some (.int .u32 a0_1):=(zs BK472.out 1).trans rfl;have hcz9_2 : w7.cell? ⟨gb472,2,none⟩=some (.slice A0_2 l0_2.length c0_2):=(zs BK472.out 2).trans rfl;have hfz9_0:=zx BK472.out 0;have hfz9_1:=zx BK472.out 1;have hfz9_2:=zx BK472.out 2)|(go_at_call 51;(with_reducible refine (coder_own.calls a0_0 a0_1 _ _ l0_2 t474 t475 t476 _ ?side1 ?side2 A4.out).mono ?_);(case side1=>repeat (first|exact (Kd.C_below HR0_2.out HB.out)|(with_reducible refine Kd.C_alloc ?_ _)|(with_reducible refine Kd.C_drewN ?_ _)|(with_reducible refine Kd.C_drew ?_)));(case side2=>exact HC0_2.out);rintro e w10 ⟨v477,rfl,ho0,hb⟩;have n0_:=zm (Kd.R_lower ho0 (zE (by repeat (first|(with_reducible first|exact HB.out|apply ze|apply zd|apply zf|refine zk ?_ GE472.out|refine zk ?_ GE473.out)|exact HB.out))));have n1_:=zm (zF (g:=gb472) (o:=.cells #[.int .u64 a0_0, .int .u32 a0_1, .slice A0_2 l0_2.length c0_2] 26 (0,0)) (by (with_reducible repeat (first|refine zh ?_ _|refine zj ?_|refine zi ?_ _));exact BK472.out) hb);have n2_:=zm (zF (g:=gb473) (o:=.cells #[.int .u64 0, .int .u32 0, .slice none 0 0] 26 (0,0)) (by (with_reducible repeat (first|refine zh ?_ _|refine zj ?_|refine zi ?_ _));exact BK473.out) hb);have n3_:=zm (zJ (by repeat (first|(with_reducible first|exact HB.out|apply ze|apply zd|apply zf|refine zk ?_ GE472.out|refine zk ?_ GE473.out)|exact HB.out)) hb);clear BK472;clear BK473;clear HB;have HO478:=n0_;have BK472:=n1_;have BK473:=n2_;have HB:=n3_;clear n0_ n1_ n2_ n3_;(try clear hb);(try clear hb2);(try clear hk);(try clear hi);(try clear ho0);have hcz11_0 : w10.cell? ⟨gb472,0,none⟩=some (.int .u64 a0_0):=(zs BK472.out 0).trans rfl;have hcz11_1 : w10.cell? ⟨gb472,1,none⟩=some (.int .u32 a0_1):=(zs BK472.out 1).trans rfl;have hcz11_2 : w10.cell? ⟨gb472,2,none⟩=some (.slice A0_2 l0_2.length c0_2):=(zs BK472.out 2).trans rfl;have hfz11_0:=zx BK472.out 0;have hfz11_1:=zx BK472.out 1;have hfz11_2:=zx BK472.out 2;obtain ⟨Ao12,co12,eo12⟩:=Kd.R_slice HO478.out;subst eo12)))
 (try simp only [Act.put,List.setIfInBounds_toArray,List.set_cons_zero,List.set_cons_succ])
 go_cut [26] (fun v26 wc => ∃ (kq : Nat) (x26_4 : Bool),v26=.bool x26_4∧Aside0 (coder_PutNum.j0 kq a1 a2 x26_4 t474 t475 t476=some (r1,r2,r3,r4))∧Aside0 (kq≤k)∧Aside0 (Kd.R (Kd.int .u8) 5 wc w.heap.size (fun _=>True) (.slice Ao12 t476.length co12) t476)∧Aside0 (wc.heap[gb472]? = some (.cells #[.int .u64 t474, .int .u32 t475,(.slice Ao12 t476.length co12)] 26 (0,0)))∧Aside0 (wc.heap[gb473]? = some (.cells #[.int .u64 0, .int .u32 0,(.slice none 0 0)] 26 (0,0)))∧Aside0 (Below w.heap.size w wc))
 case first =>
  have H:=HC5.out;clear HC5
  by_cases c13 : a2 < 1
  ·
   rw [if_pos c13] at H
   have c13b0 : decide (a2 < 1)=true:=decide_eq_true c13
   clear c13
   (first|rw [c13b0]|(simp only [i64_w,i32_w];rw [c13b0])|skip)
   have H' := zm H
   clear H
   go_wp2
   repeat (go_quiet (fail);try go_wp2)
   go_meet
   case rel=>exact ⟨_,(true),(by first|rfl|(simp;done)|(simp [*];done)),H',⟨by first|omega|exact Nat.le_refl _⟩,⟨by (with_reducible repeat (first|apply zo|apply zp|apply zq));exact zG (zH (p:=⟨gb472,2,none⟩) (zH (p:=⟨gb472,1,none⟩) (zH (p:=⟨gb472,0,none⟩) (Kd.R_types HO478.out BK472.out (by decide)) (fun _ hk=>hk.2) (.int .u64 t474)) (fun _ hk=>hk.2) (.int .u32 t475)) (fun _ hk=>hk.2) (.slice Ao12 t476.length co12)) (fun _ hk=>trivial)⟩,⟨by (with_reducible repeat (first|refine zh ?_ _|refine zj ?_|refine zi ?_ _));refine zw (cs := #[.int .u64 t474, .int .u32 t475, .slice A0_2 l0_2.length c0_2]) ?_ 2 _ rfl;(with_reducible repeat (first|refine zh ?_ _|refine zj ?_|refine zi ?_ _));refine zw (cs := #[.int .u64 t474, .int .u32 a0_1, .slice A0_2 l0_2.length c0_2]) ?_ 1 _ rfl;(with_reducible repeat (first|refine zh ?_ _|refine zj ?_|refine zi ?_ _));refine zw (cs := #[.int .u64 a0_0, .int .u32 a0_1, .slice A0_2 l0_2.length c0_2]) ?_ 0 _ rfl;(with_reducible repeat (first|refine zh ?_ _|refine zj ?_|refine zi ?_ _));exact BK472.out⟩,⟨by (with_reducible repeat (first|refine zh ?_ _|refine zj ?_|refine zi ?_ _|refine zv ?_ NB473_472.out _));exact BK473.out⟩,⟨by repeat (first|(with_reducible first|exact HB.out|apply ze|apply zd|apply zf|refine zk ?_ GE472.out|refine zk ?_ GE473.out)|exact HB.out)⟩⟩
  ·
   rw [if_neg c13] at H
   have c13b0 : decide (a2 < 1)=false:=decide_eq_false c13
   clear c13
   (first|rw [c13b0]|(simp only [i64_w,i32_w];rw [c13b0])|skip)
   by_cases c14 : a2 > 4294967296
   ·
    rw [if_pos c14] at H
    have c14b0 : decide (4294967296 < a2)=true:=decide_eq_true c14
    clear c14
    have H' := zm H
    clear H
    go_wp2
    repeat (go_quiet (fail);try go_wp2)
    go_meet
    case rel=>exact ⟨_,(true),(by first|rfl|(simp;done)|(simp [*];done)),H',⟨by first|omega|exact Nat.le_refl _⟩,⟨by (with_reducible repeat (first|apply zo|apply zp|apply zq));exact zG (zH (p:=⟨gb472,2,none⟩) (zH (p:=⟨gb472,1,none⟩) (zH (p:=⟨gb472,0,none⟩) (Kd.R_types HO478.out BK472.out (by decide)) (fun _ hk=>hk.2) (.int .u64 t474)) (fun _ hk=>hk.2) (.int .u32 t475)) (fun _ hk=>hk.2) (.slice Ao12 t476.length co12)) (fun _ hk=>trivial)⟩,⟨by (with_reducible repeat (first|refine zh ?_ _|refine zj ?_|refine zi ?_ _));refine zw (cs := #[.int .u64 t474, .int .u32 t475, .slice A0_2 l0_2.length c0_2]) ?_ 2 _ rfl;(with_reducible repeat (first|refine zh ?_ _|refine zj ?_|refine zi ?_ _));refine zw (cs := #[.int .u64 t474, .int .u32 a0_1, .slice A0_2 l0_2.length c0_2]) ?_ 1 _ rfl;(with_reducible repeat (first|refine zh ?_ _|refine zj ?_|refine zi ?_ _));refine zw (cs := #[.int .u64 a0_0, .int .u32 a0_1, .slice A0_2 l0_2.length c0_2]) ?_ 0 _ rfl;(with_reducible repeat (first|refine zh ?_ _|refine zj ?_|refine zi ?_ _));exact BK472.out⟩,⟨by (with_reducible repeat (first|refine zh ?_ _|refine zj ?_|refine zi ?_ _|refine zv ?_ NB473_472.out _));exact BK473.out⟩,⟨by repeat (first|(with_reducible first|exact HB.out|apply ze|apply zd|apply zf|refine zk ?_ GE472.out|refine zk ?_ GE473.out)|exact HB.out)⟩⟩
   ·
    rw [if_neg c14] at H
    have c14b0 : decide (4294967296 < a2)=false:=decide_eq_false c14
    clear c14
    have H' := zm H
    clear H
    go_wp2
    repeat (go_quiet (fail);try go_wp2)
    go_meet
    case rel=>exact ⟨_,(decide (a1 ≥ a2)),(by first|rfl|(simp;done)|(simp [*];done)),H',⟨by first|omega|exact Nat.le_refl _⟩,⟨by (with_reducible repeat (first|apply zo|apply zp|apply zq));exact zG (zH (p:=⟨gb472,2,none⟩) (zH (p:=⟨gb472,1,none⟩) (zH (p:=⟨gb472,0,none⟩) (Kd.R_types HO478.out BK472.out (by decide)) (fun _ hk=>hk.2) (.int .u64 t474)) (fun _ hk=>hk.2) (.int .u32 t475)) (fun _ hk=>hk.2) (.slice Ao12 t476.length co12)) (fun _ hk=>trivial)⟩,⟨by (with_reducible repeat (first|refine zh ?_ _|refine zj ?_|refine zi ?_ _));refine zw (cs := #[.int .u64 t474, .int .u32 t475, .slice A0_2 l0_2.length c0_2]) ?_ 2 _ rfl;(with_reducible repeat (first|refine zh ?_ _|refine zj ?_|refine zi ?_ _));refine zw (cs := #[.int .u64 t474, .int .u32 a0_1, .slice A0_2 l0_2.length c0_2]) ?_ 1 _ rfl;(with_reducible repeat (first|refine zh ?_ _|refine zj ?_|refine zi ?_ _));refine zw (cs := #[.int .u64 a0_0, .int .u32 a0_1, .slice A0_2 l0_2.length c0_2]) ?_ 0 _ rfl;(with_reducible repeat (first|refine zh ?_ _|refine zj ?_|refine zi ?_ _));exact BK472.out⟩,⟨by (with_reducible repeat (first|refine zh ?_ _|refine zj ?_|refine zi ?_ _|refine zv ?_ NB473_472.out _));exact BK473.out⟩,⟨by repeat (first|(with_reducible first|exact HB.out|apply ze|apply zd|apply zf|refine zk ?_ GE472.out|refine zk ?_ GE473.out)|exact HB.out)⟩⟩
 case rest =>
  clear HC5
  try clear c1
  try clear p2
  try clear c3
  try clear c8
  try clear c13
  try clear c13b0
  try clear c14
  try clear c14b0
  try clear hcz11_0
  try clear hcz11_1
  try clear hcz11_2
  try clear hcz9_0
  try clear hcz9_1
  try clear hcz9_2
  try clear hfz11_0
  try clear hfz11_1
  try clear hfz11_2
  try clear hfz9_0
  try clear hfz9_1
  try clear hfz9_2
  obtain ⟨kq,x26_4,rfl,HA,HJ4,HO_473002,BK472,BK473,HB⟩:=hcut
  cases kq with
  | zero=>exact absurd HA.out (by simp [coder_PutNum.j0])
  | succ kj4 =>
   have H:=HA.out;clear HA
   simp only [coder_PutNum.j0] at H
   by_cases c15 : x26_4=true
   ·
    subst c15
    have H1 : (some (t474,t475,t476,1))=some (r1,r2,r3,r4):=by rw [if_pos rfl] at H;exact H
    clear H;have H:=H1;clear H1
    simp only [Option.some.injEq,Prod.mk.injEq] at H
    obtain ⟨rfl,rfl,rfl,rfl⟩:=H
    have hnb16:=NB472_473.out;have hnc16:=NB473_472.out
    have hcz17_0 : wc.cell? ⟨gb472,0,none⟩=some (.int .u64 t474):=(zs BK472.out 0).trans rfl
    have hcz17_1 : wc.cell? ⟨gb472,1,none⟩=some (.int .u32 t475):=(zs BK472.out 1).trans rfl
    have hcz17_2 : wc.cell? ⟨gb472,2,none⟩=some (.slice Ao12 t476.length co12):=(zs BK472.out 2).trans rfl
    have hfz17_0:=zx BK472.out 0
    have hfz17_1:=zx BK472.out 1
    have hfz17_2:=zx BK472.out 2
    have hcz18_0 : wc.cell? ⟨gb473,0,none⟩=some (.int .u64 0):=(zs BK473.out 0).trans rfl
    have hcz18_1 : wc.cell? ⟨gb473,1,none⟩=some (.int .u32 0):=(zs BK473.out 1).trans rfl
    have hcz18_2 : wc.cell? ⟨gb473,2,none⟩=some (.slice none 0 0):=(zs BK473.out 2).trans rfl
    have hfz18_0:=zx BK473.out 0
    have hfz18_1:=zx BK473.out 1
    have hfz18_2:=zx BK473.out 2
    go_wp2
    repeat (go_quiet (fail);try go_wp2)
    refine bodyPost_ret (results_ct rfl _ _ gb473 26 #[.int .u64 t474, .int .u32 t475, .slice Ao12 t476.length co12] (0,0) _ rfl (by (with_reducible repeat (first|refine zh ?_ _|refine zj ?_|refine zi ?_ _));refine zw (cs := #[.int .u64 t474, .int .u32 t475, .slice none 0 0]) ?_ 2 _ rfl;(with_reducible repeat (first|refine zh ?_ _|refine zj ?_|refine zi ?_ _));refine zw (cs := #[.int .u64 t474, .int .u32 0, .slice none 0 0]) ?_ 1 _ rfl;(with_reducible repeat (first|refine zh ?_ _|refine zj ?_|refine zi ?_ _));refine zw (cs := #[.int .u64 0, .int .u32 0, .slice none 0 0]) ?_ 0 _ rfl;(with_reducible repeat (first|refine zh ?_ _|refine zj ?_|refine zi ?_ _));exact BK473.out) Try.underlying26 rfl (by kernel_rfl)) rfl ?_
    exact ⟨_,by first|rfl|(simp [errW_none,errW_some] <;> rfl)|(simp [*,errW_none,errW_some] <;> rfl),by (with_reducible repeat (first|apply zo|apply zp|apply zq));exact zG (zH (p:=⟨gb473,2,none⟩) (zH (p:=⟨gb473,1,none⟩) (zH (p:=⟨gb473,0,none⟩) (Kd.R_types HO_473002.out BK473.out (by decide)) (fun _ hk=>hk.2) (.int .u64 t474)) (fun _ hk=>hk.2) (.int .u32 t475)) (fun _ hk=>hk.2) (.slice Ao12 t476.length co12)) (fun _ hk=>trivial),by repeat (first|(with_reducible first|exact HB.out|apply ze|apply zd|apply zf|refine zk ?_ GE472.out|refine zk ?_ GE473.out)|exact HB.out)⟩
   ·
    replace c15:=Bool.eq_false_iff.mpr c15
    subst c15
    have H1 : ((coder_halves.f a2).bind fun bt479=>(if bt479.2=0 then (none) else ((coder_Put.f kj4 t474 t475 t476 (wrap64 (Int.tdiv (wrap64 (a1)) bt479.2)) (wrap64 ((wrap64 (Int.tdiv (wrap64 (a1)) bt479.2))+1)) bt479.1).bind fun bt481=>(if bt481.2.2.2=0 then (coder_PutNum.j1 kj4 bt479.2 (Int.tmod (wrap64 (a1)) bt479.2) bt481.2.2.2 (decide (bt479.2 > 1)) t474 t475 t476 bt481.1 bt481.2.1 bt481.2.2.1) else (coder_PutNum.j1 kj4 bt479.2 (Int.tmod (wrap64 (a1)) bt479.2) bt481.2.2.2 false t474 t475 t476 bt481.1 bt481.2.1 bt481.2.2.1)))))=some (r1,r2,r3,r4):=by rw [if_neg (show ¬ (false=true) by decide)] at H;exact H
    clear H;have H:=H1;clear H1
    replace H:=Option.bind_eq_some_iff.mp H
    obtain ⟨⟨t479,t480⟩,A190,H⟩:=H
    replace H : (if t480=0 then (none) else ((coder_Put.f kj4 t474 t475 t476 (wrap64 (Int.tdiv (wrap64 (a1)) t480)) (wrap64 ((wrap64 (Int.tdiv (wrap64 (a1)) t480))+1)) t479).bind fun bt481=>(if bt481.2.2.2=0 then (coder_PutNum.j1 kj4 t480 (Int.tmod (wrap64 (a1)) t480) bt481.2.2.2 (decide (t480 > 1)) t474 t475 t476 bt481.1 bt481.2.1 bt481.2.2.1) else (coder_PutNum.j1 kj4 t480 (Int.tmod (wrap64 (a1)) t480) bt481.2.2.2 false t474 t475 t476 bt481.1 bt481.2.1 bt481.2.2.1))))=some (r1,r2,r3,r4):=H
    have A19:=zm A190;clear A190
    by_cases c20 : t480=0
    ·
     rw [if_pos c20] at H
     exact absurd H (by simp)
    ·
     rw [if_neg c20] at H
     have c20b0 : (t480 == 0)=false:=beq_eq_false_iff_ne.mpr c20
     have c20b1 : (t480 != 0)=true:=bne_iff_ne.mpr c20
     replace H:=Option.bind_eq_some_iff.mp H
     obtain ⟨⟨t481,t482,t483,t486⟩,A210,H⟩:=H
     replace H : (if t486=0 then (coder_PutNum.j1 kj4 t480 (Int.tmod (wrap64 (a1)) t480) t486 (decide (t480 > 1)) t474 t475 t476 t481 t482 t483) else (coder_PutNum.j1 kj4 t480 (Int.tmod (wrap64 (a1)) t480) t486 false t474 t475 t476 t481 t482 t483))=some (r1,r2,r3,r4):=H
     have A21:=zm A210;clear A210;have HC22:=zm H;clear H
     go_upto_region 7 with (first|(go_at_call 63;(with_reducible refine (coder_halves.calls a2 t479 t480 _ A19.out).mono ?_);rintro e w' ⟨rfl,⟨nd,rfl⟩⟩;(try first|exact ⟨rfl,_,World.drewN_drewN _ _ _⟩|exact ⟨rfl,_,Eq.trans (World.drewN_drewN _ _ _) (congrArg (World.drewN _) (Nat.add_assoc _ _ _))⟩);have hnb23:=NB472_473.out;have hnc23:=NB473_472.out;have hcz24_0 : wc.cell? ⟨gb472,0,none⟩=some (.int .u64 t474):=(zs BK472.out 0).trans rfl;have hcz24_1 : wc.cell? ⟨gb472,1,none⟩=some (.int .u32 t475):=(zs BK472.out 1).trans rfl;have hcz24_2 : wc.cell? ⟨gb472,2,none⟩=some (.slice Ao12 t476.length co12):=(zs BK472.out 2).trans rfl;have hfz24_0:=zx BK472.out 0;have hfz24_1:=zx BK472.out 1;have hfz24_2:=zx BK472.out 2)|(go_at_call 18;(with_reducible refine (coder_Put.calls kj4 t474 t475 _ _ t476 (wrap64 (Int.tdiv (wrap64 (a1)) t480)) (wrap64 ((wrap64 (Int.tdiv (wrap64 (a1)) t480))+1)) t479 t481 t482 t483 t486 _ ?side1 ?side2 A21.out).mono ?_);(case side1=>repeat (first|exact (Kd.R_reads' HO_473002.out).2.2|(with_reducible refine Kd.C_alloc ?_ _)|(with_reducible refine Kd.C_drewN ?_ _)|(with_reducible refine Kd.C_drew ?_)));(case side2=>exact (Kd.R_reads' HO_473002.out).2.1);rintro e w25 ⟨v484,rfl,ho0,hb⟩;have n0_:=zm (Kd.R_elder' (by (with_reducible repeat (first|apply zo|apply zp|apply zq));exact HO_473002.out) (Kd.R_base ho0) hb);have n1_:=zm (Kd.R_lower (Kd.R_new' ho0 (Kd.R_lt (by (with_reducible repeat (first|apply zo|apply zp|apply zq));exact HO_473002.out))) (zE (by repeat (first|(with_reducible first|exact HB.out|apply ze|apply zd|apply zf|refine zk ?_ GE472.out|refine zk ?_ GE473.out)|exact HB.out))));have n2_:=zm (zF (g:=gb472) (o:=.cells #[.int .u64 t474, .int .u32 t475, .slice Ao12 t476.length co12] 26 (0,0)) (by (with_reducible repeat (first|refine zh ?_ _|refine zj ?_|refine zi ?_ _));exact BK472.out) hb);have n3_:=zm (zF (g:=gb473) (o:=.cells #[.int .u64 0, .int .u32 0, .slice none 0 0] 26 (0,0)) (by (with_reducible repeat (first|refine zh ?_ _|refine zj ?_|refine zi ?_ _));exact BK473.out) hb);have n4_:=zm (zJ (by repeat (first|(with_reducible first|exact HB.out|apply ze|apply zd|apply zf|refine zk ?_ GE472.out|refine zk ?_ GE473.out)|exact HB.out)) hb);clear HO_473002;clear BK472;clear BK473;clear HB;have HO_473002:=n0_;have HO485:=n1_;have BK472:=n2_;have BK473:=n3_;have HB:=n4_;clear n0_ n1_ n2_ n3_ n4_;(try clear hb);(try clear hb2);(try clear hk);(try clear hi);(try clear ho0))|((with_reducible refine gate_dst (N:=12) rfl ?_);refine box_event ?hg (N:=12) ?hd (cs := #[.int .u64 0, .int .u32 0, .slice none 0 0]) (t:=26) ?hr ?_;(case hd=>rfl);(case hg=>rfl);(case hr=>first|(go_simp;done)|(go_simp;rfl));intro gb487 hg w26 hbox hb;have n0_:=zm (Kd.R_below (by (with_reducible repeat (first|apply zo|apply zp|apply zq));exact HO_473002.out) hb);have n1_:=zm (Kd.R_below (by (with_reducible repeat (first|apply zo|apply zp|apply zq));exact HO485.out) hb);have n2_:=zm (zF (g:=gb472) (o:=.cells #[.int .u64 t474, .int .u32 t475, .slice Ao12 t476.length co12] 26 (0,0)) (by (with_reducible repeat (first|refine zh ?_ _|refine zj ?_|refine zi ?_ _));exact BK472.out) hb);have n3_:=zm (zF (g:=gb473) (o:=.cells #[.int .u64 0, .int .u32 0, .slice none 0 0] 26 (0,0)) (by (with_reducible repeat (first|refine zh ?_ _|refine zj ?_|refine zi ?_ _));exact BK473.out) hb);have n4_:=zm (zJ (by repeat (first|(with_reducible first|exact HB.out|apply ze|apply zd|apply zf|refine zk ?_ GE472.out|refine zk ?_ GE473.out)|exact HB.out)) hb);have n5_:=zm (hbox);have n6_:=zm ((by rw [hg];exact (zE (by repeat (first|(with_reducible first|exact HB.out|apply ze|apply zd|apply zf|refine zk ?_ GE472.out|refine zk ?_ GE473.out)|exact HB.out))) : w.heap.size≤gb487));have n7_:=zm ((by rw [hg];exact (zE (by repeat (first|(with_reducible first|exact HB.out|apply ze|apply zd|apply zf|refine zk ?_ GE472.out|refine zk ?_ GE473.out)|exact HB.out))) : w.heap.size≤gb487));have n8_:=zm ((by rw [hg];exact zn (zD (g:=gb472) (o:=.cells #[.int .u64 t474, .int .u32 t475, .slice Ao12 t476.length co12] 26 (0,0)) (by (with_reducible repeat (first|refine zh ?_ _|refine zj ?_|refine zi ?_ _));exact BK472.out)) : gb472≠gb487));have n9_:=zm ((by rw [hg];exact zg (zD (g:=gb472) (o:=.cells #[.int .u64 t474, .int .u32 t475, .slice Ao12 t476.length co12] 26 (0,0)) (by (with_reducible repeat (first|refine zh ?_ _|refine zj ?_|refine zi ?_ _));exact BK472.out)) : gb487≠gb472));have n10_:=zm ((by rw [hg];exact zn (zD (g:=gb473) (o:=.cells #[.int .u64 0, .int .u32 0, .slice none 0 0] 26 (0,0)) (by (with_reducible repeat (first|refine zh ?_ _|refine zj ?_|refine zi ?_ _));exact BK473.out)) : gb473≠gb487));have n11_:=zm ((by rw [hg];exact zg (zD (g:=gb473) (o:=.cells #[.int .u64 0, .int .u32 0, .slice none 0 0] 26 (0,0)) (by (with_reducible repeat (first|refine zh ?_ _|refine zj ?_|refine zi ?_ _));exact BK473.out)) : gb487≠gb473));clear HO_473002;clear HO485;clear BK472;clear BK473;clear HB;have HO_473002:=n0_;have HO485:=n1_;have BK472:=n2_;have BK473:=n3_;have HB:=n4_;have BK487:=n5_;have GW487:=n6_;have GE487:=n7_;have NB472_487:=n8_;have NB487_472:=n9_;have NB473_487:=n10_;have NB487_473:=n11_;clear n0_ n1_ n2_ n3_ n4_ n5_ n6_ n7_ n8_ n9_ n10_ n11_;clear hb hbox hg;have hnb27:=NB487_472.out;have hnc27:=NB472_487.out;have hnb28:=NB487_473.out;have hnc28:=NB473_487.out;have hcz29_0 : w26.cell? ⟨gb487,0,none⟩=some (.int .u64 0):=(zs BK487.out 0).trans rfl;have hcz29_1 : w26.cell? ⟨gb487,1,none⟩=some (.int .u32 0):=(zs BK487.out 1).trans rfl;have hcz29_2 : w26.cell? ⟨gb487,2,none⟩=some (.slice none 0 0):=(zs BK487.out 2).trans rfl;have hfz29_0:=zx BK487.out 0;have hfz29_1:=zx BK487.out 1;have hfz29_2:=zx BK487.out 2;obtain ⟨Ao30,co30,eo30⟩:=Kd.R_slice HO485.out;subst eo30))
     repeat (go_quiet (first|(go_at_call 63;(with_reducible refine (coder_halves.calls a2 t479 t480 _ A19.out).mono ?_);rintro e w' ⟨rfl,⟨nd,rfl⟩⟩;(try first|exact ⟨rfl,_,World.drewN_drewN _ _ _⟩|exact ⟨rfl,_,Eq.trans (World.drewN_drewN _ _ _) (congrArg (World.drewN _) (Nat.add_assoc _ _ _))⟩);have hnb23:=NB472_473.out;have hnc23:=NB473_472.out;have hcz24_0 : wc.cell? ⟨gb472,0,none⟩=some (.int .u64 t474):=(zs BK472.out 0).trans rfl;have hcz24_1 : wc.cell? ⟨gb472,1,none⟩=some (.int .u32 t475):=(zs BK472.out 1).trans rfl;have hcz24_2 : wc.cell? ⟨gb472,2,none⟩=some (.slice Ao12 t476.length co12):=(zs BK472.out 2).trans rfl;have hfz24_0:=zx BK472.out 0;have hfz24_1:=zx BK472.out 1;have hfz24_2:=zx BK472.out 2)|(go_at_call 18;(with_reducible refine (coder_Put.calls kj4 t474 t475 _ _ t476 (wrap64 (Int.tdiv (wrap64 (a1)) t480)) (wrap64 ((wrap64 (Int.tdiv (wrap64 (a1)) t480))+1)) t479 t481 t482 t483 t486 _ ?side1 ?side2 A21.out).mono ?_);(case side1=>repeat (first|exact (Kd.R_reads' HO_473002.out).2.2|(with_reducible refine Kd.C_alloc ?_ _)|(with_reducible refine Kd.C_drewN ?_ _)|(with_reducible refine Kd.C_drew ?_)));(case side2=>exact (Kd.R_reads' HO_473002.out).2.1);rintro e w25 ⟨v484,rfl,ho0,hb⟩;have n0_:=zm (Kd.R_elder' (by (with_reducible repeat (first|apply zo|apply zp|apply zq));exact HO_473002.out) (Kd.R_base ho0) hb);have n1_:=zm (Kd.R_lower (Kd.R_new' ho0 (Kd.R_lt (by (with_reducible repeat (first|apply zo|apply zp|apply zq));exact HO_473002.out))) (zE (by repeat (first|(with_reducible first|exact HB.out|apply ze|apply zd|apply zf|refine zk ?_ GE472.out|refine zk ?_ GE473.out)|exact HB.out))));have n2_:=zm (zF (g:=gb472) (o:=.cells #[.int .u64 t474, .int .u32 t475, .slice Ao12 t476.length co12] 26 (0,0)) (by (with_reducible repeat (first|refine zh ?_ _|refine zj ?_|refine zi ?_ _));exact BK472.out) hb);have n3_:=zm (zF (g:=gb473) (o:=.cells #[.int .u64 0, .int .u32 0, .slice none 0 0] 26 (0,0)) (by (with_reducible repeat (first|refine zh ?_ _|refine zj ?_|refine zi ?_ _));exact BK473.out) hb);have n4_:=zm (zJ (by repeat (first|(with_reducible first|exact HB.out|apply ze|apply zd|apply zf|refine zk ?_ GE472.out|refine zk ?_ GE473.out)|exact HB.out)) hb);clear HO_473002;clear BK472;clear BK473;clear HB;have HO_473002:=n0_;have HO485:=n1_;have BK472:=n2_;have BK473:=n3_;have HB:=n4_;clear n0_ n1_ n2_ n3_ n4_;(try clear hb);(try clear hb2);(try clear hk);(try clear hi);(try clear ho0))|((with_reducible refine gate_dst (N:=12) rfl ?_);refine box_event ?hg (N:=12) ?hd (cs := #[.int .u64 0, .int .u32 0, .slice none 0 0]) (t:=26) ?hr ?_;(case hd=>rfl);(case hg=>rfl);(case hr=>first|(go_simp;done)|(go_simp;rfl));intro gb487 hg w26 hbox hb;have n0_:=zm (Kd.R_below (by (with_reducible repeat (first|apply zo|apply zp|apply zq));exact HO_473002.out) hb);have n1_:=zm (Kd.R_below (by (with_reducible repeat (first|apply zo|apply zp|apply zq));exact HO485.out) hb);have n2_:=zm (zF (g:=gb472) (o:=.cells #[.int .u64 t474, .int .u32 t475, .slice Ao12 t476.length co12] 26 (0,0)) (by (with_reducible repeat (first|refine zh ?_ _|refine zj ?_|refine zi ?_ _));exact BK472.out) hb);have n3_:=zm (zF (g:=gb473) (o:=.cells #[.int .u64 0, .int .u32 0, .slice none 0 0] 26 (0,0)) (by (with_reducible repeat (first|refine zh ?_ _|refine zj ?_|refine zi ?_ _));exact BK473.out) hb);have n4_:=zm (zJ (by repeat (first|(with_reducible first|exact HB.out|apply ze|apply zd|apply zf|refine zk ?_ GE472.out|refine zk ?_ GE473.out)|exact HB.out)) hb);have n5_:=zm (hbox);have n6_:=zm ((by rw [hg];exact (zE (by repeat (first|(with_reducible first|exact HB.out|apply ze|apply zd|apply zf|refine zk ?_ GE472.out|refine zk ?_ GE473.out)|exact HB.out))) : w.heap.size≤gb487));have n7_:=zm ((by rw [hg];exact (zE (by repeat (first|(with_reducible first|exact HB.out|apply ze|apply zd|apply zf|refine zk ?_ GE472.out|refine zk ?_ GE473.out)|exact HB.out))) : w.heap.size≤gb487));have n8_:=zm ((by rw [hg];exact zn (zD (g:=gb472) (o:=.cells #[.int .u64 t474, .int .u32 t475, .slice Ao12 t476.length co12] 26 (0,0)) (by (with_reducible repeat (first|refine zh ?_ _|refine zj ?_|refine zi ?_ _));exact BK472.out)) : gb472≠gb487));have n9_:=zm ((by rw [hg];exact zg (zD (g:=gb472) (o:=.cells #[.int .u64 t474, .int .u32 t475, .slice Ao12 t476.length co12] 26 (0,0)) (by (with_reducible repeat (first|refine zh ?_ _|refine zj ?_|refine zi ?_ _));exact BK472.out)) : gb487≠gb472));have n10_:=zm ((by rw [hg];exact zn (zD (g:=gb473) (o:=.cells #[.int .u64 0, .int .u32 0, .slice none 0 0] 26 (0,0)) (by (with_reducible repeat (first|refine zh ?_ _|refine zj ?_|refine zi ?_ _));exact BK473.out)) : gb473≠gb487));have n11_:=zm ((by rw [hg];exact zg (zD (g:=gb473) (o:=.cells #[.int .u64 0, .int .u32 0, .slice none 0 0] 26 (0,0)) (by (with_reducible repeat (first|refine zh ?_ _|refine zj ?_|refine zi ?_ _));exact BK473.out)) : gb487≠gb473));clear HO_473002;clear HO485;clear BK472;clear BK473;clear HB;have HO_473002:=n0_;have HO485:=n1_;have BK472:=n2_;have BK473:=n3_;have HB:=n4_;have BK487:=n5_;have GW487:=n6_;have GE487:=n7_;have NB472_487:=n8_;have NB487_472:=n9_;have NB473_487:=n10_;have NB487_473:=n11_;clear n0_ n1_ n2_ n3_ n4_ n5_ n6_ n7_ n8_ n9_ n10_ n11_;clear hb hbox hg;have hnb27:=NB487_472.out;have hnc27:=NB472_487.out;have hnb28:=NB487_473.out;have hnc28:=NB473_487.out;have hcz29_0 : w26.cell? ⟨gb487,0,none⟩=some (.int .u64 0):=(zs BK487.out 0).trans rfl;have hcz29_1 : w26.cell? ⟨gb487,1,none⟩=some (.int .u32 0):=(zs BK487.out 1).trans rfl;have hcz29_2 : w26.cell? ⟨gb487,2,none⟩=some (.slice none 0 0):=(zs BK487.out 2).trans rfl;have hfz29_0:=zx BK487.out 0;have hfz29_1:=zx BK487.out 1;have hfz29_2:=zx BK487.out 2;obtain ⟨Ao30,co30,eo30⟩:=Kd.R_slice HO485.out;subst eo30));go_upto_region 7 with (first|(go_at_call 63;(with_reducible refine (coder_halves.calls a2 t479 t480 _ A19.out).mono ?_);rintro e w' ⟨rfl,⟨nd,rfl⟩⟩;(try first|exact ⟨rfl,_,World.drewN_drewN _ _ _⟩|exact ⟨rfl,_,Eq.trans (World.drewN_drewN _ _ _) (congrArg (World.drewN _) (Nat.add_assoc _ _ _))⟩);have hnb23:=NB472_473.out;have hnc23:=NB473_472.out;have hcz24_0 : wc.cell? ⟨gb472,0,none⟩=some (.int .u64 t474):=(zs BK472.out 0).trans rfl;have hcz24_1 : wc.cell? ⟨gb472,1,none⟩=some (.int .u32 t475):=(zs BK472.out 1).trans rfl;have hcz24_2 : wc.cell? ⟨gb472,2,none⟩=some (.slice Ao12 t476.length co12):=(zs BK472.out 2).trans rfl;have hfz24_0:=zx BK472.out 0;have hfz24_1:=zx BK472.out 1;have hfz24_2:=zx BK472.out 2)|(go_at_call 18;(with_reducible refine (coder_Put.calls kj4 t474 t475 _ _ t476 (wrap64 (Int.tdiv (wrap64 (a1)) t480)) (wrap64 ((wrap64 (Int.tdiv (wrap64 (a1)) t480))+1)) t479 t481 t482 t483 t486 _ ?side1 ?side2 A21.out).mono ?_);(case side1=>repeat (first|exact (Kd.R_reads' HO_473002.out).2.2|(with_reducible refine Kd.C_alloc ?_ _)|(with_reducible refine Kd.C_drewN ?_ _)|(with_reducible refine Kd.C_drew ?_)));(case side2=>exact (Kd.R_reads' HO_473002.out).2.1);rintro e w25 ⟨v484,rfl,ho0,hb⟩;have n0_:=zm (Kd.R_elder' (by (with_reducible repeat (first|apply zo|apply zp|apply zq));exact HO_473002.out) (Kd.R_base ho0) hb);have n1_:=zm (Kd.R_lower (Kd.R_new' ho0 (Kd.R_lt (by (with_reducible repeat (first|apply zo|apply zp|apply zq));exact HO_473002.out))) (zE (by repeat (first|(with_reducible first|exact HB.out|apply ze|apply zd|apply zf|refine zk ?_ GE472.out|refine zk ?_ GE473.out)|exact HB.out))));have n2_:=zm (zF (g:=gb472) (o:=.cells #[.int .u64 t474, .int .u32 t475, .slice Ao12 t476.length co12] 26 (0,0)) (by (with_reducible repeat (first|refine zh ?_ _|refine zj ?_|refine zi ?_ _));exact BK472.out) hb);have n3_:=zm (zF (g:=gb473) (o:=.cells #[.int .u64 0, .int .u32 0, .slice none 0 0] 26 (0,0)) (by (with_reducible repeat (first|refine zh ?_ _|refine zj ?_|refine zi ?_ _));exact BK473.out) hb);have n4_:=zm (zJ (by repeat (first|(with_reducible first|exact HB.out|apply ze|apply zd|apply zf|refine zk ?_ GE472.out|refine zk ?_ GE473.out)|exact HB.out)) hb);clear HO_473002;clear BK472;clear BK473;clear HB;have HO_473002:=n0_;have HO485:=n1_;have BK472:=n2_;have BK473:=n3_;have HB:=n4_;clear n0_ n1_ n2_ n3_ n4_;(try clear hb);(try clear hb2);(try clear hk);(try clear hi);(try clear ho0))|((with_reducible refine gate_dst (N:=12) rfl ?_);refine box_event ?hg (N:=12) ?hd (cs := #[.int .u64 0, .int .u32 0, .slice none 0 0]) (t:=26) ?hr ?_;(case hd=>rfl);(case hg=>rfl);(case hr=>first|(go_simp;done)|(go_simp;rfl));intro gb487 hg w26 hbox hb;have n0_:=zm (Kd.R_below (by (with_reducible repeat (first|apply zo|apply zp|apply zq));exact HO_473002.out) hb);have n1_:=zm (Kd.R_below (by (with_reducible repeat (first|apply zo|apply zp|apply zq));exact HO485.out) hb);have n2_:=zm (zF (g:=gb472) (o:=.cells #[.int .u64 t474, .int .u32 t475, .slice Ao12 t476.length co12] 26 (0,0)) (by (with_reducible repeat (first|refine zh ?_ _|refine zj ?_|refine zi ?_ _));exact BK472.out) hb);have n3_:=zm (zF (g:=gb473) (o:=.cells #[.int .u64 0, .int .u32 0, .slice none 0 0] 26 (0,0)) (by (with_reducible repeat (first|refine zh ?_ _|refine zj ?_|refine zi ?_ _));exact BK473.out) hb);have n4_:=zm (zJ (by repeat (first|(with_reducible first|exact HB.out|apply ze|apply zd|apply zf|refine zk ?_ GE472.out|refine zk ?_ GE473.out)|exact HB.out)) hb);have n5_:=zm (hbox);have n6_:=zm ((by rw [hg];exact (zE (by repeat (first|(with_reducible first|exact HB.out|apply ze|apply zd|apply zf|refine zk ?_ GE472.out|refine zk ?_ GE473.out)|exact HB.out))) : w.heap.size≤gb487));have n7_:=zm ((by rw [hg];exact (zE (by repeat (first|(with_reducible first|exact HB.out|apply ze|apply zd|apply zf|refine zk ?_ GE472.out|refine zk ?_ GE473.out)|exact HB.out))) : w.heap.size≤gb487));have n8_:=zm ((by rw [hg];exact zn (zD (g:=gb472) (o:=.cells #[.int .u64 t474, .int .u32 t475, .slice Ao12 t476.length co12] 26 (0,0)) (by (with_reducible repeat (first|refine zh ?_ _|refine zj ?_|refine zi ?_ _));exact BK472.out)) : gb472≠gb487));have n9_:=zm ((by rw [hg];exact zg (zD (g:=gb472) (o:=.cells #[.int .u64 t474, .int .u32 t475, .slice Ao12 t476.length co12] 26 (0,0)) (by (with_reducible repeat (first|refine zh ?_ _|refine zj ?_|refine zi ?_ _));exact BK472.out)) : gb487≠gb472));have n10_:=zm ((by rw [hg];exact zn (zD (g:=gb473) (o:=.cells #[.int .u64 0, .int .u32 0, .slice none 0 0] 26 (0,0)) (by (with_reducible repeat (first|refine zh ?_ _|refine zj ?_|refine zi ?_ _));exact BK473.out)) : gb473≠gb487));have n11_:=zm ((by rw [hg];exact zg (zD (g:=gb473) (o:=.cells #[.int .u64 0, .int .u32 0, .slice none 0 0] 26 (0,0)) (by (with_reducible repeat (first|refine zh ?_ _|refine zj ?_|refine zi ?_ _));exact BK473.out)) : gb487≠gb473));clear HO_473002;clear HO485;clear BK472;clear BK473;clear HB;have HO_473002:=n0_;have HO485:=n1_;have BK472:=n2_;have BK473:=n3_;have HB:=n4_;have BK487:=n5_;have GW487:=n6_;have GE487:=n7_;have NB472_487:=n8_;have NB487_472:=n9_;have NB473_487:=n10_;have NB487_473:=n11_;clear n0_ n1_ n2_ n3_ n4_ n5_ n6_ n7_ n8_ n9_ n10_ n11_;clear hb hbox hg;have hnb27:=NB487_472.out;have hnc27:=NB472_487.out;have hnb28:=NB487_473.out;have hnc28:=NB473_487.out;have hcz29_0 : w26.cell? ⟨gb487,0,none⟩=some (.int .u64 0):=(zs BK487.out 0).trans rfl;have hcz29_1 : w26.cell? ⟨gb487,1,none⟩=some (.int .u32 0):=(zs BK487.out 1).trans rfl;have hcz29_2 : w26.cell? ⟨gb487,2,none⟩=some (.slice none 0 0):=(zs BK487.out 2).trans rfl;have hfz29_0:=zx BK487.out 0;have hfz29_1:=zx BK487.out 1;have hfz29_2:=zx BK487.out 2;obtain ⟨Ao30,co30,eo30⟩:=Kd.R_slice HO485.out;subst eo30)))
     (try simp only [Act.put,List.setIfInBounds_toArray,List.set_cons_zero,List.set_cons_succ])
     go_cut [55] (fun v55 wc => ∃ (kq : Nat) (x55_21 : Bool),v55=.bool x55_21∧Aside0 (coder_PutNum.j1 kq t480 (Int.tmod (wrap64 (a1)) t480) t486 x55_21 t474 t475 t476 t481 t482 t483=some (r1,r2,r3,r4))∧Aside0 (kq≤kj4)∧Aside0 (Kd.R (Kd.int .u8) 5 wc w.heap.size (fun k_=>some k_≠((.slice Ao30 t483.length co30) : Value).ownBlock) (.slice Ao12 t476.length co12) t476)∧Aside0 (Kd.R (Kd.int .u8) 5 wc w.heap.size (fun k_=>some k_≠((.slice Ao12 t476.length co12) : Value).ownBlock) (.slice Ao30 t483.length co30) t483)∧Aside0 (wc.heap[gb472]? = some (.cells #[.int .u64 t474, .int .u32 t475,(.slice Ao12 t476.length co12)] 26 (0,0)))∧Aside0 (wc.heap[gb473]? = some (.cells #[.int .u64 0, .int .u32 0,(.slice none 0 0)] 26 (0,0)))∧Aside0 (wc.heap[gb487]? = some (.cells #[.int .u64 t481, .int .u32 t482,(.slice Ao30 t483.length co30)] 26 (0,0)))∧Aside0 (Below w.heap.size w wc))
     case first =>
      have H:=HC22.out;clear HC22
      by_cases c31 : t486=0
      ·
       rw [if_pos c31] at H
       have c31b0 : (t486 == 0)=true:=beq_iff_eq.mpr c31
       have c31b1 : (t486 != 0)=false:=bne_eq_false_iff_eq.mpr c31
       clear c31
       (first|rw [c31b0]|(simp only [i64_w,i32_w];rw [c31b0])|skip)
       have H' := zm H
       clear H
       go_wp2
       repeat (go_quiet (fail);try go_wp2)
       go_meet
       case rel=>exact ⟨_,(decide (t480 > 1)),(by first|rfl|(simp;done)|(simp [*];done)),H',⟨by have:=HJ4.out;first|omega|exact Nat.le_refl _⟩,⟨by (with_reducible repeat (first|apply zo|apply zp|apply zq));exact zG (zH (p:=⟨gb487,2,none⟩) (zH (p:=⟨gb487,1,none⟩) (zH (p:=⟨gb487,0,none⟩) (Kd.R_types HO_473002.out BK487.out (by decide)) (fun _ hk=>hk.2) (.int .u64 t481)) (fun _ hk=>hk.2) (.int .u32 t482)) (fun _ hk=>hk.2) (.slice Ao30 t483.length co30)) (fun _ hk=>hk.1.2)⟩,⟨by (with_reducible repeat (first|apply zo|apply zp|apply zq));exact zG (zH (p:=⟨gb487,2,none⟩) (zH (p:=⟨gb487,1,none⟩) (zH (p:=⟨gb487,0,none⟩) (Kd.R_types HO485.out BK487.out (by decide)) (fun _ hk=>hk.2) (.int .u64 t481)) (fun _ hk=>hk.2) (.int .u32 t482)) (fun _ hk=>hk.2) (.slice Ao30 t483.length co30)) (fun _ hk=>hk.1.2)⟩,⟨by (with_reducible repeat (first|refine zh ?_ _|refine zj ?_|refine zi ?_ _|refine zv ?_ NB472_487.out _));exact BK472.out⟩,⟨by (with_reducible repeat (first|refine zh ?_ _|refine zj ?_|refine zi ?_ _|refine zv ?_ NB473_487.out _));exact BK473.out⟩,⟨by (with_reducible repeat (first|refine zh ?_ _|refine zj ?_|refine zi ?_ _));refine zw (cs := #[.int .u64 t481, .int .u32 t482, .slice none 0 0]) ?_ 2 _ rfl;(with_reducible repeat (first|refine zh ?_ _|refine zj ?_|refine zi ?_ _));refine zw (cs := #[.int .u64 t481, .int .u32 0, .slice none 0 0]) ?_ 1 _ rfl;(with_reducible repeat (first|refine zh ?_ _|refine zj ?_|refine zi ?_ _));refine zw (cs := #[.int .u64 0, .int .u32 0, .slice none 0 0]) ?_ 0 _ rfl;(with_reducible repeat (first|refine zh ?_ _|refine zj ?_|refine zi ?_ _));exact BK487.out⟩,⟨by repeat (first|(with_reducible first|exact HB.out|apply ze|apply zd|apply zf|refine zk ?_ GE472.out|refine zk ?_ GE473.out|refine zk ?_ GE487.out)|exact HB.out)⟩⟩
      ·
       rw [if_neg c31] at H
       have c31b0 : (t486 == 0)=false:=beq_eq_false_iff_ne.mpr c31
       have c31b1 : (t486 != 0)=true:=bne_iff_ne.mpr c31
       (first|rw [c31b0]|(simp only [i64_w,i32_w];rw [c31b0])|skip)
       have H' := zm H
       clear H
       go_wp2
       repeat (go_quiet (fail);try go_wp2)
       go_meet
       case rel=>exact ⟨_,(false),(by first|rfl|(simp;done)|(simp [*];done)),H',⟨by have:=HJ4.out;first|omega|exact Nat.le_refl _⟩,⟨by (with_reducible repeat (first|apply zo|apply zp|apply zq));exact zG (zH (p:=⟨gb487,2,none⟩) (zH (p:=⟨gb487,1,none⟩) (zH (p:=⟨gb487,0,none⟩) (Kd.R_types HO_473002.out BK487.out (by decide)) (fun _ hk=>hk.2) (.int .u64 t481)) (fun _ hk=>hk.2) (.int .u32 t482)) (fun _ hk=>hk.2) (.slice Ao30 t483.length co30)) (fun _ hk=>hk.1.2)⟩,⟨by (with_reducible repeat (first|apply zo|apply zp|apply zq));exact zG (zH (p:=⟨gb487,2,none⟩) (zH (p:=⟨gb487,1,none⟩) (zH (p:=⟨gb487,0,none⟩) (Kd.R_types HO485.out BK487.out (by decide)) (fun _ hk=>hk.2) (.int .u64 t481)) (fun _ hk=>hk.2) (.int .u32 t482)) (fun _ hk=>hk.2) (.slice Ao30 t483.length co30)) (fun _ hk=>hk.1.2)⟩,⟨by (with_reducible repeat (first|refine zh ?_ _|refine zj ?_|refine zi ?_ _|refine zv ?_ NB472_487.out _));exact BK472.out⟩,⟨by (with_reducible repeat (first|refine zh ?_ _|refine zj ?_|refine zi ?_ _|refine zv ?_ NB473_487.out _));exact BK473.out⟩,⟨by (with_reducible repeat (first|refine zh ?_ _|refine zj ?_|refine zi ?_ _));refine zw (cs := #[.int .u64 t481, .int .u32 t482, .slice none 0 0]) ?_ 2 _ rfl;(with_reducible repeat (first|refine zh ?_ _|refine zj ?_|refine zi ?_ _));refine zw (cs := #[.int .u64 t481, .int .u32 0, .slice none 0 0]) ?_ 1 _ rfl;(with_reducible repeat (first|refine zh ?_ _|refine zj ?_|refine zi ?_ _));refine zw (cs := #[.int .u64 0, .int .u32 0, .slice none 0 0]) ?_ 0 _ rfl;(with_reducible repeat (first|refine zh ?_ _|refine zj ?_|refine zi ?_ _));exact BK487.out⟩,⟨by repeat (first|(with_reducible first|exact HB.out|apply ze|apply zd|apply zf|refine zk ?_ GE472.out|refine zk ?_ GE473.out|refine zk ?_ GE487.out)|exact HB.out)⟩⟩
     case rest =>
      clear HC22
      try clear c1
      try clear c2
      try clear p2
      try clear c3
      try clear p6
      try clear c8
      try clear c13
      try clear c13b0
      try clear c14
      try clear c14b0
      try clear c15
      try clear c16
      try clear c20
      try clear c20b0
      try clear c20b1
      try clear c23
      try clear c27
      try clear c28
      try clear c31
      try clear c31b0
      try clear c31b1
      try clear hcz11_0
      try clear hcz11_1
      try clear hcz11_2
      try clear hcz17_0
      try clear hcz17_1
      try clear hcz17_2
      try clear hcz18_0
      try clear hcz18_1
      try clear hcz18_2
      try clear hcz24_0
      try clear hcz24_1
      try clear hcz24_2
      try clear hcz29_0
      try clear hcz29_1
      try clear hcz29_2
      try clear hcz9_0
      try clear hcz9_1
      try clear hcz9_2
      try clear hfz11_0
      try clear hfz11_1
      try clear hfz11_2
      try clear hfz17_0
      try clear hfz17_1
      try clear hfz17_2
      try clear hfz18_0
      try clear hfz18_1
      try clear hfz18_2
      try clear hfz24_0
      try clear hfz24_1
      try clear hfz24_2
      try clear hfz29_0
      try clear hfz29_1
      try clear hfz29_2
      try clear hfz9_0
      try clear hfz9_1
      try clear hfz9_2
      try clear p2
      obtain ⟨kq,x55_21,rfl,HA,HJ21,HO_473002,HO_488002,BK472,BK473,BK487,HB⟩:=hcut
      cases kq with
      | zero=>exact absurd HA.out (by simp [coder_PutNum.j1])
      | succ kj21 =>
       have H:=HA.out;clear HA
       simp only [coder_PutNum.j1] at H
       by_cases c32 : x55_21=true
       ·
        subst c32
        have H1 : ((coder_Put.f kj21 t481 t482 t483 (Int.tmod (wrap64 (a1)) t480) (wrap64 ((Int.tmod (wrap64 (a1)) t480)+1)) t480).bind fun bt488=>(if bt488.2.2.2=0 then (some (bt488.1,bt488.2.1,bt488.2.2.1,0)) else (some (t474,t475,t476,bt488.2.2.2))))=some (r1,r2,r3,r4):=by rw [if_pos rfl] at H;exact H
        clear H;have H:=H1;clear H1
        replace H:=Option.bind_eq_some_iff.mp H
        obtain ⟨⟨t488,t489,t490,t493⟩,A330,H⟩:=H
        replace H : (if t493=0 then (some (t488,t489,t490,0)) else (some (t474,t475,t476,t493)))=some (r1,r2,r3,r4):=H
        have A33:=zm A330;clear A330
        by_cases c34 : t493=0
        ·
         rw [if_pos c34] at H
         have c34b0 : (t493 == 0)=true:=beq_iff_eq.mpr c34
         have c34b1 : (t493 != 0)=false:=bne_eq_false_iff_eq.mpr c34
         clear c34
         simp only [Option.some.injEq,Prod.mk.injEq] at H
         obtain ⟨rfl,rfl,rfl,rfl⟩:=H
         have hnb35:=NB487_472.out;have hnc35:=NB472_487.out;have hnb36:=NB487_473.out;have hnc36:=NB473_487.out
         have hcz37_0 : wc.cell? ⟨gb487,0,none⟩=some (.int .u64 t481):=(zs BK487.out 0).trans rfl
         have hcz37_1 : wc.cell? ⟨gb487,1,none⟩=some (.int .u32 t482):=(zs BK487.out 1).trans rfl
         have hcz37_2 : wc.cell? ⟨gb487,2,none⟩=some (.slice Ao30 t483.length co30):=(zs BK487.out 2).trans rfl
         have hfz37_0:=zx BK487.out 0
         have hfz37_1:=zx BK487.out 1
         have hfz37_2:=zx BK487.out 2
         go_wp2_with (first|(go_at_call 18;(with_reducible refine (coder_Put.calls kj21 t481 t482 _ _ t483 (Int.tmod (wrap64 (a1)) t480) (wrap64 ((Int.tmod (wrap64 (a1)) t480)+1)) t480 t488 t489 t490 t493 _ ?side1 ?side2 A33.out).mono ?_);(case side1=>repeat (first|exact (Kd.R_reads' HO_488002.out).2.2|(with_reducible refine Kd.C_alloc ?_ _)|(with_reducible refine Kd.C_drewN ?_ _)|(with_reducible refine Kd.C_drew ?_)));(case side2=>exact (Kd.R_reads' HO_488002.out).2.1);rintro e w38 ⟨v491,rfl,ho0,hb⟩;have n0_:=zm (Kd.R_elder' (by (with_reducible repeat (first|apply zo|apply zp|apply zq));exact HO_473002.out) (Kd.R_base ho0) hb);have n1_:=zm (Kd.R_elder' (by (with_reducible repeat (first|apply zo|apply zp|apply zq));exact HO_488002.out) (Kd.R_base ho0) hb);have n2_:=zm (Kd.R_lower (Kd.R_new' (Kd.R_new' ho0 (Kd.R_lt (by (with_reducible repeat (first|apply zo|apply zp|apply zq));exact HO_473002.out))) (Kd.R_lt (by (with_reducible repeat (first|apply zo|apply zp|apply zq));exact HO_488002.out))) (zE (by repeat (first|(with_reducible first|exact HB.out|apply ze|apply zd|apply zf|refine zk ?_ GE472.out|refine zk ?_ GE473.out|refine zk ?_ GE487.out)|exact HB.out))));have n3_:=zm (zF (g:=gb472) (o:=.cells #[.int .u64 t474, .int .u32 t475, .slice Ao12 t476.length co12] 26 (0,0)) (by (with_reducible repeat (first|refine zh ?_ _|refine zj ?_|refine zi ?_ _));exact BK472.out) hb);have n4_:=zm (zF (g:=gb473) (o:=.cells #[.int .u64 0, .int .u32 0, .slice none 0 0] 26 (0,0)) (by (with_reducible repeat (first|refine zh ?_ _|refine zj ?_|refine zi ?_ _));exact BK473.out) hb);have n5_:=zm (zF (g:=gb487) (o:=.cells #[.int .u64 t481, .int .u32 t482, .slice Ao30 t483.length co30] 26 (0,0)) (by (with_reducible repeat (first|refine zh ?_ _|refine zj ?_|refine zi ?_ _));exact BK487.out) hb);have n6_:=zm (zJ (by repeat (first|(with_reducible first|exact HB.out|apply ze|apply zd|apply zf|refine zk ?_ GE472.out|refine zk ?_ GE473.out|refine zk ?_ GE487.out)|exact HB.out)) hb);clear HO_473002;clear HO_488002;clear BK472;clear BK473;clear BK487;clear HB;have HO_473002:=n0_;have HO_488002:=n1_;have HO492:=n2_;have BK472:=n3_;have BK473:=n4_;have BK487:=n5_;have HB:=n6_;clear n0_ n1_ n2_ n3_ n4_ n5_ n6_;(try clear hb);(try clear hb2);(try clear hk);(try clear hi);(try clear ho0);have hcz39_0 : w38.cell? ⟨gb487,0,none⟩=some (.int .u64 t481):=(zs BK487.out 0).trans rfl;have hcz39_1 : w38.cell? ⟨gb487,1,none⟩=some (.int .u32 t482):=(zs BK487.out 1).trans rfl;have hcz39_2 : w38.cell? ⟨gb487,2,none⟩=some (.slice Ao30 t483.length co30):=(zs BK487.out 2).trans rfl;have hfz39_0:=zx BK487.out 0;have hfz39_1:=zx BK487.out 1;have hfz39_2:=zx BK487.out 2;obtain ⟨Ao40,co40,eo40⟩:=Kd.R_slice HO492.out;subst eo40;have hnb41:=NB473_472.out;have hnc41:=NB472_473.out;have hcz42_0 : w38.cell? ⟨gb473,0,none⟩=some (.int .u64 0):=(zs BK473.out 0).trans rfl;have hcz42_1 : w38.cell? ⟨gb473,1,none⟩=some (.int .u32 0):=(zs BK473.out 1).trans rfl;have hcz42_2 : w38.cell? ⟨gb473,2,none⟩=some (.slice none 0 0):=(zs BK473.out 2).trans rfl;have hfz42_0:=zx BK473.out 0;have hfz42_1:=zx BK473.out 1;have hfz42_2:=zx BK473.out 2))
         repeat (go_quiet (first|(go_at_call 18;(with_reducible refine (coder_Put.calls kj21 t481 t482 _ _ t483 (Int.tmod (wrap64 (a1)) t480) (wrap64 ((Int.tmod (wrap64 (a1)) t480)+1)) t480 t488 t489 t490 t493 _ ?side1 ?side2 A33.out).mono ?_);(case side1=>repeat (first|exact (Kd.R_reads' HO_488002.out).2.2|(with_reducible refine Kd.C_alloc ?_ _)|(with_reducible refine Kd.C_drewN ?_ _)|(with_reducible refine Kd.C_drew ?_)));(case side2=>exact (Kd.R_reads' HO_488002.out).2.1);rintro e w38 ⟨v491,rfl,ho0,hb⟩;have n0_:=zm (Kd.R_elder' (by (with_reducible repeat (first|apply zo|apply zp|apply zq));exact HO_473002.out) (Kd.R_base ho0) hb);have n1_:=zm (Kd.R_elder' (by (with_reducible repeat (first|apply zo|apply zp|apply zq));exact HO_488002.out) (Kd.R_base ho0) hb);have n2_:=zm (Kd.R_lower (Kd.R_new' (Kd.R_new' ho0 (Kd.R_lt (by (with_reducible repeat (first|apply zo|apply zp|apply zq));exact HO_473002.out))) (Kd.R_lt (by (with_reducible repeat (first|apply zo|apply zp|apply zq));exact HO_488002.out))) (zE (by repeat (first|(with_reducible first|exact HB.out|apply ze|apply zd|apply zf|refine zk ?_ GE472.out|refine zk ?_ GE473.out|refine zk ?_ GE487.out)|exact HB.out))));have n3_:=zm (zF (g:=gb472) (o:=.cells #[.int .u64 t474, .int .u32 t475, .slice Ao12 t476.length co12] 26 (0,0)) (by (with_reducible repeat (first|refine zh ?_ _|refine zj ?_|refine zi ?_ _));exact BK472.out) hb);have n4_:=zm (zF (g:=gb473) (o:=.cells #[.int .u64 0, .int .u32 0, .slice none 0 0] 26 (0,0)) (by (with_reducible repeat (first|refine zh ?_ _|refine zj ?_|refine zi ?_ _));exact BK473.out) hb);have n5_:=zm (zF (g:=gb487) (o:=.cells #[.int .u64 t481, .int .u32 t482, .slice Ao30 t483.length co30] 26 (0,0)) (by (with_reducible repeat (first|refine zh ?_ _|refine zj ?_|refine zi ?_ _));exact BK487.out) hb);have n6_:=zm (zJ (by repeat (first|(with_reducible first|exact HB.out|apply ze|apply zd|apply zf|refine zk ?_ GE472.out|refine zk ?_ GE473.out|refine zk ?_ GE487.out)|exact HB.out)) hb);clear HO_473002;clear HO_488002;clear BK472;clear BK473;clear BK487;clear HB;have HO_473002:=n0_;have HO_488002:=n1_;have HO492:=n2_;have BK472:=n3_;have BK473:=n4_;have BK487:=n5_;have HB:=n6_;clear n0_ n1_ n2_ n3_ n4_ n5_ n6_;(try clear hb);(try clear hb2);(try clear hk);(try clear hi);(try clear ho0);have hcz39_0 : w38.cell? ⟨gb487,0,none⟩=some (.int .u64 t481):=(zs BK487.out 0).trans rfl;have hcz39_1 : w38.cell? ⟨gb487,1,none⟩=some (.int .u32 t482):=(zs BK487.out 1).trans rfl;have hcz39_2 : w38.cell? ⟨gb487,2,none⟩=some (.slice Ao30 t483.length co30):=(zs BK487.out 2).trans rfl;have hfz39_0:=zx BK487.out 0;have hfz39_1:=zx BK487.out 1;have hfz39_2:=zx BK487.out 2;obtain ⟨Ao40,co40,eo40⟩:=Kd.R_slice HO492.out;subst eo40;have hnb41:=NB473_472.out;have hnc41:=NB472_473.out;have hcz42_0 : w38.cell? ⟨gb473,0,none⟩=some (.int .u64 0):=(zs BK473.out 0).trans rfl;have hcz42_1 : w38.cell? ⟨gb473,1,none⟩=some (.int .u32 0):=(zs BK473.out 1).trans rfl;have hcz42_2 : w38.cell? ⟨gb473,2,none⟩=some (.slice none 0 0):=(zs BK473.out 2).trans rfl;have hfz42_0:=zx BK473.out 0;have hfz42_1:=zx BK473.out 1;have hfz42_2:=zx BK473.out 2));try go_wp2_with (first|(go_at_call 18;(with_reducible refine (coder_Put.calls kj21 t481 t482 _ _ t483 (Int.tmod (wrap64 (a1)) t480) (wrap64 ((Int.tmod (wrap64 (a1)) t480)+1)) t480 t488 t489 t490 t493 _ ?side1 ?side2 A33.out).mono ?_);(case side1=>repeat (first|exact (Kd.R_reads' HO_488002.out).2.2|(with_reducible refine Kd.C_alloc ?_ _)|(with_reducible refine Kd.C_drewN ?_ _)|(with_reducible refine Kd.C_drew ?_)));(case side2=>exact (Kd.R_reads' HO_488002.out).2.1);rintro e w38 ⟨v491,rfl,ho0,hb⟩;have n0_:=zm (Kd.R_elder' (by (with_reducible repeat (first|apply zo|apply zp|apply zq));exact HO_473002.out) (Kd.R_base ho0) hb);have n1_:=zm (Kd.R_elder' (by (with_reducible repeat (first|apply zo|apply zp|apply zq));exact HO_488002.out) (Kd.R_base ho0) hb);have n2_:=zm (Kd.R_lower (Kd.R_new' (Kd.R_new' ho0 (Kd.R_lt (by (with_reducible repeat (first|apply zo|apply zp|apply zq));exact HO_473002.out))) (Kd.R_lt (by (with_reducible repeat (first|apply zo|apply zp|apply zq));exact HO_488002.out))) (zE (by repeat (first|(with_reducible first|exact HB.out|apply ze|apply zd|apply zf|refine zk ?_ GE472.out|refine zk ?_ GE473.out|refine zk ?_ GE487.out)|exact HB.out))));have n3_:=zm (zF (g:=gb472) (o:=.cells #[.int .u64 t474, .int .u32 t475, .slice Ao12 t476.length co12] 26 (0,0)) (by (with_reducible repeat (first|refine zh ?_ _|refine zj ?_|refine zi ?_ _));exact BK472.out) hb);have n4_:=zm (zF (g:=gb473) (o:=.cells #[.int .u64 0, .int .u32 0, .slice none 0 0] 26 (0,0)) (by (with_reducible repeat (first|refine zh ?_ _|refine zj ?_|refine zi ?_ _));exact BK473.out) hb);have n5_:=zm (zF (g:=gb487) (o:=.cells #[.int .u64 t481, .int .u32 t482, .slice Ao30 t483.length co30] 26 (0,0)) (by (with_reducible repeat (first|refine zh ?_ _|refine zj ?_|refine zi ?_ _));exact BK487.out) hb);have n6_:=zm (zJ (by repeat (first|(with_reducible first|exact HB.out|apply ze|apply zd|apply zf|refine zk ?_ GE472.out|refine zk ?_ GE473.out|refine zk ?_ GE487.out)|exact HB.out)) hb);clear HO_473002;clear HO_488002;clear BK472;clear BK473;clear BK487;clear HB;have HO_473002:=n0_;have HO_488002:=n1_;have HO492:=n2_;have BK472:=n3_;have BK473:=n4_;have BK487:=n5_;have HB:=n6_;clear n0_ n1_ n2_ n3_ n4_ n5_ n6_;(try clear hb);(try clear hb2);(try clear hk);(try clear hi);(try clear ho0);have hcz39_0 : w38.cell? ⟨gb487,0,none⟩=some (.int .u64 t481):=(zs BK487.out 0).trans rfl;have hcz39_1 : w38.cell? ⟨gb487,1,none⟩=some (.int .u32 t482):=(zs BK487.out 1).trans rfl;have hcz39_2 : w38.cell? ⟨gb487,2,none⟩=some (.slice Ao30 t483.length co30):=(zs BK487.out 2).trans rfl;have hfz39_0:=zx BK487.out 0;have hfz39_1:=zx BK487.out 1;have hfz39_2:=zx BK487.out 2;obtain ⟨Ao40,co40,eo40⟩:=Kd.R_slice HO492.out;subst eo40;have hnb41:=NB473_472.out;have hnc41:=NB472_473.out;have hcz42_0 : w38.cell? ⟨gb473,0,none⟩=some (.int .u64 0):=(zs BK473.out 0).trans rfl;have hcz42_1 : w38.cell? ⟨gb473,1,none⟩=some (.int .u32 0):=(zs BK473.out 1).trans rfl;have hcz42_2 : w38.cell? ⟨gb473,2,none⟩=some (.slice none 0 0):=(zs BK473.out 2).trans rfl;have hfz42_0:=zx BK473.out 0;have hfz42_1:=zx BK473.out 1;have hfz42_2:=zx BK473.out 2)))
         refine bodyPost_ret (results_ct rfl _ _ gb473 26 #[.int .u64 t488, .int .u32 t489, .slice Ao40 t490.length co40] (0,0) _ rfl (by (with_reducible repeat (first|refine zh ?_ _|refine zj ?_|refine zi ?_ _));refine zw (cs := #[.int .u64 t488, .int .u32 t489, .slice none 0 0]) ?_ 2 _ rfl;(with_reducible repeat (first|refine zh ?_ _|refine zj ?_|refine zi ?_ _));refine zw (cs := #[.int .u64 t488, .int .u32 0, .slice none 0 0]) ?_ 1 _ rfl;(with_reducible repeat (first|refine zh ?_ _|refine zj ?_|refine zi ?_ _));refine zw (cs := #[.int .u64 0, .int .u32 0, .slice none 0 0]) ?_ 0 _ rfl;(with_reducible repeat (first|refine zh ?_ _|refine zj ?_|refine zi ?_ _|refine zv ?_ NB473_487.out _));exact BK473.out) Try.underlying26 rfl (by kernel_rfl)) rfl ?_
         exact ⟨_,by first|rfl|(simp [errW_none,errW_some] <;> rfl)|(simp [*,errW_none,errW_some] <;> rfl),by (with_reducible repeat (first|apply zo|apply zp|apply zq));exact zG (zH (p:=⟨gb473,2,none⟩) (zH (p:=⟨gb473,1,none⟩) (zH (p:=⟨gb473,0,none⟩) (zH (p:=⟨gb487,2,none⟩) (zH (p:=⟨gb487,1,none⟩) (zH (p:=⟨gb487,0,none⟩) (Kd.R_types (Kd.R_types HO492.out BK487.out (by decide)) BK473.out (by decide)) (fun _ hk=>hk.1.2) (.int .u64 t488)) (fun _ hk=>hk.1.2) (.int .u32 t489)) (fun _ hk=>hk.1.2) (.slice Ao40 t490.length co40)) (fun _ hk=>hk.2) (.int .u64 t488)) (fun _ hk=>hk.2) (.int .u32 t489)) (fun _ hk=>hk.2) (.slice Ao40 t490.length co40)) (fun _ hk=>trivial),by repeat (first|(with_reducible first|exact HB.out|apply ze|apply zd|apply zf|refine zk ?_ GE472.out|refine zk ?_ GE473.out|refine zk ?_ GE487.out)|exact HB.out)⟩
        ·
         rw [if_neg c34] at H
         have c34b0 : (t493 == 0)=false:=beq_eq_false_iff_ne.mpr c34
         have c34b1 : (t493 != 0)=true:=bne_iff_ne.mpr c34
         simp only [Option.some.injEq,Prod.mk.injEq] at H
         obtain ⟨rfl,rfl,rfl,rfl⟩:=H
         have hnb43:=NB487_472.out;have hnc43:=NB472_487.out;have hnb44:=NB487_473.out;have hnc44:=NB473_487.out
         have hcz45_0 : wc.cell? ⟨gb487,0,none⟩=some (.int .u64 t481):=(zs BK487.out 0).trans rfl
         have hcz45_1 : wc.cell? ⟨gb487,1,none⟩=some (.int .u32 t482):=(zs BK487.out 1).trans rfl
         have hcz45_2 : wc.cell? ⟨gb487,2,none⟩=some (.slice Ao30 t483.length co30):=(zs BK487.out 2).trans rfl
         have hfz45_0:=zx BK487.out 0
         have hfz45_1:=zx BK487.out 1
         have hfz45_2:=zx BK487.out 2
         go_wp2_with (first|(go_at_call 18;(with_reducible refine (coder_Put.calls kj21 t481 t482 _ _ t483 (Int.tmod (wrap64 (a1)) t480) (wrap64 ((Int.tmod (wrap64 (a1)) t480)+1)) t480 t488 t489 t490 t493 _ ?side1 ?side2 A33.out).mono ?_);(case side1=>repeat (first|exact (Kd.R_reads' HO_488002.out).2.2|(with_reducible refine Kd.C_alloc ?_ _)|(with_reducible refine Kd.C_drewN ?_ _)|(with_reducible refine Kd.C_drew ?_)));(case side2=>exact (Kd.R_reads' HO_488002.out).2.1);rintro e w46 ⟨v491,rfl,ho0,hb⟩;have n0_:=zm (Kd.R_elder' (by (with_reducible repeat (first|apply zo|apply zp|apply zq));exact HO_473002.out) (Kd.R_base ho0) hb);have n1_:=zm (Kd.R_elder' (by (with_reducible repeat (first|apply zo|apply zp|apply zq));exact HO_488002.out) (Kd.R_base ho0) hb);have n2_:=zm (Kd.R_lower (Kd.R_new' (Kd.R_new' ho0 (Kd.R_lt (by (with_reducible repeat (first|apply zo|apply zp|apply zq));exact HO_473002.out))) (Kd.R_lt (by (with_reducible repeat (first|apply zo|apply zp|apply zq));exact HO_488002.out))) (zE (by repeat (first|(with_reducible first|exact HB.out|apply ze|apply zd|apply zf|refine zk ?_ GE472.out|refine zk ?_ GE473.out|refine zk ?_ GE487.out)|exact HB.out))));have n3_:=zm (zF (g:=gb472) (o:=.cells #[.int .u64 t474, .int .u32 t475, .slice Ao12 t476.length co12] 26 (0,0)) (by (with_reducible repeat (first|refine zh ?_ _|refine zj ?_|refine zi ?_ _));exact BK472.out) hb);have n4_:=zm (zF (g:=gb473) (o:=.cells #[.int .u64 0, .int .u32 0, .slice none 0 0] 26 (0,0)) (by (with_reducible repeat (first|refine zh ?_ _|refine zj ?_|refine zi ?_ _));exact BK473.out) hb);have n5_:=zm (zF (g:=gb487) (o:=.cells #[.int .u64 t481, .int .u32 t482, .slice Ao30 t483.length co30] 26 (0,0)) (by (with_reducible repeat (first|refine zh ?_ _|refine zj ?_|refine zi ?_ _));exact BK487.out) hb);have n6_:=zm (zJ (by repeat (first|(with_reducible first|exact HB.out|apply ze|apply zd|apply zf|refine zk ?_ GE472.out|refine zk ?_ GE473.out|refine zk ?_ GE487.out)|exact HB.out)) hb);clear HO_473002;clear HO_488002;clear BK472;clear BK473;clear BK487;clear HB;have HO_473002:=n0_;have HO_488002:=n1_;have HO492:=n2_;have BK472:=n3_;have BK473:=n4_;have BK487:=n5_;have HB:=n6_;clear n0_ n1_ n2_ n3_ n4_ n5_ n6_;(try clear hb);(try clear hb2);(try clear hk);(try clear hi);(try clear ho0);have hcz47_0 : w46.cell? ⟨gb487,0,none⟩=some (.int .u64 t481):=(zs BK487.out 0).trans rfl;have hcz47_1 : w46.cell? ⟨gb487,1,none⟩=some (.int .u32 t482):=(zs BK487.out 1).trans rfl;have hcz47_2 : w46.cell? ⟨gb487,2,none⟩=some (.slice Ao30 t483.length co30):=(zs BK487.out 2).trans rfl;have hfz47_0:=zx BK487.out 0;have hfz47_1:=zx BK487.out 1;have hfz47_2:=zx BK487.out 2;obtain ⟨Ao48,co48,eo48⟩:=Kd.R_slice HO492.out;subst eo48;have hnb49:=NB472_473.out;have hnc49:=NB473_472.out;have hcz50_0 : w46.cell? ⟨gb472,0,none⟩=some (.int .u64 t474):=(zs BK472.out 0).trans rfl;have hcz50_1 : w46.cell? ⟨gb472,1,none⟩=some (.int .u32 t475):=(zs BK472.out 1).trans rfl;have hcz50_2 : w46.cell? ⟨gb472,2,none⟩=some (.slice Ao12 t476.length co12):=(zs BK472.out 2).trans rfl;have hfz50_0:=zx BK472.out 0;have hfz50_1:=zx BK472.out 1;have hfz50_2:=zx BK472.out 2;have hcz51_0 : w46.cell? ⟨gb473,0,none⟩=some (.int .u64 0):=(zs BK473.out 0).trans rfl;have hcz51_1 : w46.cell? ⟨gb473,1,none⟩=some (.int .u32 0):=(zs BK473.out 1).trans rfl;have hcz51_2 : w46.cell? ⟨gb473,2,none⟩=some (.slice none 0 0):=(zs BK473.out 2).trans rfl;have hfz51_0:=zx BK473.out 0;have hfz51_1:=zx BK473.out 1;have hfz51_2:=zx BK473.out 2))
         repeat (go_quiet (first|(go_at_call 18;(with_reducible refine (coder_Put.calls kj21 t481 t482 _ _ t483 (Int.tmod (wrap64 (a1)) t480) (wrap64 ((Int.tmod (wrap64 (a1)) t480)+1)) t480 t488 t489 t490 t493 _ ?side1 ?side2 A33.out).mono ?_);(case side1=>repeat (first|exact (Kd.R_reads' HO_488002.out).2.2|(with_reducible refine Kd.C_alloc ?_ _)|(with_reducible refine Kd.C_drewN ?_ _)|(with_reducible refine Kd.C_drew ?_)));(case side2=>exact (Kd.R_reads' HO_488002.out).2.1);rintro e w46 ⟨v491,rfl,ho0,hb⟩;have n0_:=zm (Kd.R_elder' (by (with_reducible repeat (first|apply zo|apply zp|apply zq));exact HO_473002.out) (Kd.R_base ho0) hb);have n1_:=zm (Kd.R_elder' (by (with_reducible repeat (first|apply zo|apply zp|apply zq));exact HO_488002.out) (Kd.R_base ho0) hb);have n2_:=zm (Kd.R_lower (Kd.R_new' (Kd.R_new' ho0 (Kd.R_lt (by (with_reducible repeat (first|apply zo|apply zp|apply zq));exact HO_473002.out))) (Kd.R_lt (by (with_reducible repeat (first|apply zo|apply zp|apply zq));exact HO_488002.out))) (zE (by repeat (first|(with_reducible first|exact HB.out|apply ze|apply zd|apply zf|refine zk ?_ GE472.out|refine zk ?_ GE473.out|refine zk ?_ GE487.out)|exact HB.out))));have n3_:=zm (zF (g:=gb472) (o:=.cells #[.int .u64 t474, .int .u32 t475, .slice Ao12 t476.length co12] 26 (0,0)) (by (with_reducible repeat (first|refine zh ?_ _|refine zj ?_|refine zi ?_ _));exact BK472.out) hb);have n4_:=zm (zF (g:=gb473) (o:=.cells #[.int .u64 0, .int .u32 0, .slice none 0 0] 26 (0,0)) (by (with_reducible repeat (first|refine zh ?_ _|refine zj ?_|refine zi ?_ _));exact BK473.out) hb);have n5_:=zm (zF (g:=gb487) (o:=.cells #[.int .u64 t481, .int .u32 t482, .slice Ao30 t483.length co30] 26 (0,0)) (by (with_reducible repeat (first|refine zh ?_ _|refine zj ?_|refine zi ?_ _));exact BK487.out) hb);have n6_:=zm (zJ (by repeat (first|(with_reducible first|exact HB.out|apply ze|apply zd|apply zf|refine zk ?_ GE472.out|refine zk ?_ GE473.out|refine zk ?_ GE487.out)|exact HB.out)) hb);clear HO_473002;clear HO_488002;clear BK472;clear BK473;clear BK487;clear HB;have HO_473002:=n0_;have HO_488002:=n1_;have HO492:=n2_;have BK472:=n3_;have BK473:=n4_;have BK487:=n5_;have HB:=n6_;clear n0_ n1_ n2_ n3_ n4_ n5_ n6_;(try clear hb);(try clear hb2);(try clear hk);(try clear hi);(try clear ho0);have hcz47_0 : w46.cell? ⟨gb487,0,none⟩=some (.int .u64 t481):=(zs BK487.out 0).trans rfl;have hcz47_1 : w46.cell? ⟨gb487,1,none⟩=some (.int .u32 t482):=(zs BK487.out 1).trans rfl;have hcz47_2 : w46.cell? ⟨gb487,2,none⟩=some (.slice Ao30 t483.length co30):=(zs BK487.out 2).trans rfl;have hfz47_0:=zx BK487.out 0;have hfz47_1:=zx BK487.out 1;have hfz47_2:=zx BK487.out 2;obtain ⟨Ao48,co48,eo48⟩:=Kd.R_slice HO492.out;subst eo48;have hnb49:=NB472_473.out;have hnc49:=NB473_472.out;have hcz50_0 : w46.cell? ⟨gb472,0,none⟩=some (.int .u64 t474):=(zs BK472.out 0).trans rfl;have hcz50_1 : w46.cell? ⟨gb472,1,none⟩=some (.int .u32 t475):=(zs BK472.out 1).trans rfl;have hcz50_2 : w46.cell? ⟨gb472,2,none⟩=some (.slice Ao12 t476.length co12):=(zs BK472.out 2).trans rfl;have hfz50_0:=zx BK472.out 0;have hfz50_1:=zx BK472.out 1;have hfz50_2:=zx BK472.out 2;have hcz51_0 : w46.cell? ⟨gb473,0,none⟩=some (.int .u64 0):=(zs BK473.out 0).trans rfl;have hcz51_1 : w46.cell? ⟨gb473,1,none⟩=some (.int .u32 0):=(zs BK473.out 1).trans rfl;have hcz51_2 : w46.cell? ⟨gb473,2,none⟩=some (.slice none 0 0):=(zs BK473.out 2).trans rfl;have hfz51_0:=zx BK473.out 0;have hfz51_1:=zx BK473.out 1;have hfz51_2:=zx BK473.out 2));try go_wp2_with (first|(go_at_call 18;(with_reducible refine (coder_Put.calls kj21 t481 t482 _ _ t483 (Int.tmod (wrap64 (a1)) t480) (wrap64 ((Int.tmod (wrap64 (a1)) t480)+1)) t480 t488 t489 t490 t493 _ ?side1 ?side2 A33.out).mono ?_);(case side1=>repeat (first|exact (Kd.R_reads' HO_488002.out).2.2|(with_reducible refine Kd.C_alloc ?_ _)|(with_reducible refine Kd.C_drewN ?_ _)|(with_reducible refine Kd.C_drew ?_)));(case side2=>exact (Kd.R_reads' HO_488002.out).2.1);rintro e w46 ⟨v491,rfl,ho0,hb⟩;have n0_:=zm (Kd.R_elder' (by (with_reducible repeat (first|apply zo|apply zp|apply zq));exact HO_473002.out) (Kd.R_base ho0) hb);have n1_:=zm (Kd.R_elder' (by (with_reducible repeat (first|apply zo|apply zp|apply zq));exact HO_488002.out) (Kd.R_base ho0) hb);have n2_:=zm (Kd.R_lower (Kd.R_new' (Kd.R_new' ho0 (Kd.R_lt (by (with_reducible repeat (first|apply zo|apply zp|apply zq));exact HO_473002.out))) (Kd.R_lt (by (with_reducible repeat (first|apply zo|apply zp|apply zq));exact HO_488002.out))) (zE (by repeat (first|(with_reducible first|exact HB.out|apply ze|apply zd|apply zf|refine zk ?_ GE472.out|refine zk ?_ GE473.out|refine zk ?_ GE487.out)|exact HB.out))));have n3_:=zm (zF (g:=gb472) (o:=.cells #[.int .u64 t474, .int .u32 t475, .slice Ao12 t476.length co12] 26 (0,0)) (by (with_reducible repeat (first|refine zh ?_ _|refine zj ?_|refine zi ?_ _));exact BK472.out) hb);have n4_:=zm (zF (g:=gb473) (o:=.cells #[.int .u64 0, .int .u32 0, .slice none 0 0] 26 (0,0)) (by (with_reducible repeat (first|refine zh ?_ _|refine zj ?_|refine zi ?_ _));exact BK473.out) hb);have n5_:=zm (zF (g:=gb487) (o:=.cells #[.int .u64 t481, .int .u32 t482, .slice Ao30 t483.length co30] 26 (0,0)) (by (with_reducible repeat (first|refine zh ?_ _|refine zj ?_|refine zi ?_ _));exact BK487.out) hb);have n6_:=zm (zJ (by repeat (first|(with_reducible first|exact HB.out|apply ze|apply zd|apply zf|refine zk ?_ GE472.out|refine zk ?_ GE473.out|refine zk ?_ GE487.out)|exact HB.out)) hb);clear HO_473002;clear HO_488002;clear BK472;clear BK473;clear BK487;clear HB;have HO_473002:=n0_;have HO_488002:=n1_;have HO492:=n2_;have BK472:=n3_;have BK473:=n4_;have BK487:=n5_;have HB:=n6_;clear n0_ n1_ n2_ n3_ n4_ n5_ n6_;(try clear hb);(try clear hb2);(try clear hk);(try clear hi);(try clear ho0);have hcz47_0 : w46.cell? ⟨gb487,0,none⟩=some (.int .u64 t481):=(zs BK487.out 0).trans rfl;have hcz47_1 : w46.cell? ⟨gb487,1,none⟩=some (.int .u32 t482):=(zs BK487.out 1).trans rfl;have hcz47_2 : w46.cell? ⟨gb487,2,none⟩=some (.slice Ao30 t483.length co30):=(zs BK487.out 2).trans rfl;have hfz47_0:=zx BK487.out 0;have hfz47_1:=zx BK487.out 1;have hfz47_2:=zx BK487.out 2;obtain ⟨Ao48,co48,eo48⟩:=Kd.R_slice HO492.out;subst eo48;have hnb49:=NB472_473.out;have hnc49:=NB473_472.out;have hcz50_0 : w46.cell? ⟨gb472,0,none⟩=some (.int .u64 t474):=(zs BK472.out 0).trans rfl;have hcz50_1 : w46.cell? ⟨gb472,1,none⟩=some (.int .u32 t475):=(zs BK472.out 1).trans rfl;have hcz50_2 : w46.cell? ⟨gb472,2,none⟩=some (.slice Ao12 t476.length co12):=(zs BK472.out 2).trans rfl;have hfz50_0:=zx BK472.out 0;have hfz50_1:=zx BK472.out 1;have hfz50_2:=zx BK472.out 2;have hcz51_0 : w46.cell? ⟨gb473,0,none⟩=some (.int .u64 0):=(zs BK473.out 0).trans rfl;have hcz51_1 : w46.cell? ⟨gb473,1,none⟩=some (.int .u32 0):=(zs BK473.out 1).trans rfl;have hcz51_2 : w46.cell? ⟨gb473,2,none⟩=some (.slice none 0 0):=(zs BK473.out 2).trans rfl;have hfz51_0:=zx BK473.out 0;have hfz51_1:=zx BK473.out 1;have hfz51_2:=zx BK473.out 2)))
         refine bodyPost_ret (results_ct rfl _ _ gb473 26 #[.int .u64 t474, .int .u32 t475, .slice Ao12 t476.length co12] (0,0) _ rfl (by (with_reducible repeat (first|refine zh ?_ _|refine zj ?_|refine zi ?_ _));refine zw (cs := #[.int .u64 t474, .int .u32 t475, .slice none 0 0]) ?_ 2 _ rfl;(with_reducible repeat (first|refine zh ?_ _|refine zj ?_|refine zi ?_ _));refine zw (cs := #[.int .u64 t474, .int .u32 0, .slice none 0 0]) ?_ 1 _ rfl;(with_reducible repeat (first|refine zh ?_ _|refine zj ?_|refine zi ?_ _));refine zw (cs := #[.int .u64 0, .int .u32 0, .slice none 0 0]) ?_ 0 _ rfl;(with_reducible repeat (first|refine zh ?_ _|refine zj ?_|refine zi ?_ _|refine zv ?_ NB473_487.out _));exact BK473.out) Try.underlying26 rfl (by kernel_rfl)) rfl ?_
         exact ⟨_,by first|rfl|(simp [errW_none,errW_some] <;> rfl)|(simp [*,errW_none,errW_some] <;> rfl),by (with_reducible repeat (first|apply zo|apply zp|apply zq));exact zG (zH (p:=⟨gb473,2,none⟩) (zH (p:=⟨gb473,1,none⟩) (zH (p:=⟨gb473,0,none⟩) (zH (p:=⟨gb487,2,none⟩) (zH (p:=⟨gb487,1,none⟩) (zH (p:=⟨gb487,0,none⟩) (Kd.R_types (Kd.R_types HO_473002.out BK487.out (by decide)) BK473.out (by decide)) (fun _ hk=>hk.1.2) (.int .u64 t488)) (fun _ hk=>hk.1.2) (.int .u32 t489)) (fun _ hk=>hk.1.2) (.slice Ao48 t490.length co48)) (fun _ hk=>hk.2) (.int .u64 t474)) (fun _ hk=>hk.2) (.int .u32 t475)) (fun _ hk=>hk.2) (.slice Ao12 t476.length co12)) (fun _ hk=>trivial),by repeat (first|(with_reducible first|exact HB.out|apply ze|apply zd|apply zf|refine zk ?_ GE472.out|refine zk ?_ GE473.out|refine zk ?_ GE487.out)|exact HB.out)⟩
       ·
        replace c32:=Bool.eq_false_iff.mpr c32
        subst c32
        have H1 : (if t486=0 then (some (t481,t482,t483,0)) else (some (t474,t475,t476,t486)))=some (r1,r2,r3,r4):=by rw [if_neg (show ¬ (false=true) by decide)] at H;exact H
        clear H;have H:=H1;clear H1
        by_cases c52 : t486=0
        ·
         rw [if_pos c52] at H
         have c52b0 : (t486 == 0)=true:=beq_iff_eq.mpr c52
         have c52b1 : (t486 != 0)=false:=bne_eq_false_iff_eq.mpr c52
         clear c52
         simp only [Option.some.injEq,Prod.mk.injEq] at H
         obtain ⟨rfl,rfl,rfl,rfl⟩:=H
         have hnb53:=NB487_472.out;have hnc53:=NB472_487.out;have hnb54:=NB487_473.out;have hnc54:=NB473_487.out
         have hcz55_0 : wc.cell? ⟨gb487,0,none⟩=some (.int .u64 t481):=(zs BK487.out 0).trans rfl
         have hcz55_1 : wc.cell? ⟨gb487,1,none⟩=some (.int .u32 t482):=(zs BK487.out 1).trans rfl
         have hcz55_2 : wc.cell? ⟨gb487,2,none⟩=some (.slice Ao30 t483.length co30):=(zs BK487.out 2).trans rfl
         have hfz55_0:=zx BK487.out 0
         have hfz55_1:=zx BK487.out 1
         have hfz55_2:=zx BK487.out 2
         have hnb56:=NB473_472.out;have hnc56:=NB472_473.out
         have hcz57_0 : wc.cell? ⟨gb473,0,none⟩=some (.int .u64 0):=(zs BK473.out 0).trans rfl
         have hcz57_1 : wc.cell? ⟨gb473,1,none⟩=some (.int .u32 0):=(zs BK473.out 1).trans rfl
         have hcz57_2 : wc.cell? ⟨gb473,2,none⟩=some (.slice none 0 0):=(zs BK473.out 2).trans rfl
         have hfz57_0:=zx BK473.out 0
         have hfz57_1:=zx BK473.out 1
         have hfz57_2:=zx BK473.out 2
         go_wp2
         repeat (go_quiet (fail);try go_wp2)
         refine bodyPost_ret (results_ct rfl _ _ gb473 26 #[.int .u64 t481, .int .u32 t482, .slice Ao30 t483.length co30] (0,0) _ rfl (by (with_reducible repeat (first|refine zh ?_ _|refine zj ?_|refine zi ?_ _));refine zw (cs := #[.int .u64 t481, .int .u32 t482, .slice none 0 0]) ?_ 2 _ rfl;(with_reducible repeat (first|refine zh ?_ _|refine zj ?_|refine zi ?_ _));refine zw (cs := #[.int .u64 t481, .int .u32 0, .slice none 0 0]) ?_ 1 _ rfl;(with_reducible repeat (first|refine zh ?_ _|refine zj ?_|refine zi ?_ _));refine zw (cs := #[.int .u64 0, .int .u32 0, .slice none 0 0]) ?_ 0 _ rfl;(with_reducible repeat (first|refine zh ?_ _|refine zj ?_|refine zi ?_ _));exact BK473.out) Try.underlying26 rfl (by kernel_rfl)) rfl ?_
         exact ⟨_,by first|rfl|(simp [errW_none,errW_some] <;> rfl)|(simp [*,errW_none,errW_some] <;> rfl),by (with_reducible repeat (first|apply zo|apply zp|apply zq));exact zG (zH (p:=⟨gb473,2,none⟩) (zH (p:=⟨gb473,1,none⟩) (zH (p:=⟨gb473,0,none⟩) (Kd.R_types HO_488002.out BK473.out (by decide)) (fun _ hk=>hk.2) (.int .u64 t481)) (fun _ hk=>hk.2) (.int .u32 t482)) (fun _ hk=>hk.2) (.slice Ao30 t483.length co30)) (fun _ hk=>trivial),by repeat (first|(with_reducible first|exact HB.out|apply ze|apply zd|apply zf|refine zk ?_ GE472.out|refine zk ?_ GE473.out|refine zk ?_ GE487.out)|exact HB.out)⟩
        ·
         rw [if_neg c52] at H
         have c52b0 : (t486 == 0)=false:=beq_eq_false_iff_ne.mpr c52
         have c52b1 : (t486 != 0)=true:=bne_iff_ne.mpr c52
         simp only [Option.some.injEq,Prod.mk.injEq] at H
         obtain ⟨rfl,rfl,rfl,rfl⟩:=H
         have hnb58:=NB472_473.out;have hnc58:=NB473_472.out;have hnb59:=NB472_487.out;have hnc59:=NB487_472.out
         have hcz60_0 : wc.cell? ⟨gb472,0,none⟩=some (.int .u64 t474):=(zs BK472.out 0).trans rfl
         have hcz60_1 : wc.cell? ⟨gb472,1,none⟩=some (.int .u32 t475):=(zs BK472.out 1).trans rfl
         have hcz60_2 : wc.cell? ⟨gb472,2,none⟩=some (.slice Ao12 t476.length co12):=(zs BK472.out 2).trans rfl
         have hfz60_0:=zx BK472.out 0
         have hfz60_1:=zx BK472.out 1
         have hfz60_2:=zx BK472.out 2
         have hnb61:=NB473_487.out;have hnc61:=NB487_473.out
         have hcz62_0 : wc.cell? ⟨gb473,0,none⟩=some (.int .u64 0):=(zs BK473.out 0).trans rfl
         have hcz62_1 : wc.cell? ⟨gb473,1,none⟩=some (.int .u32 0):=(zs BK473.out 1).trans rfl
         have hcz62_2 : wc.cell? ⟨gb473,2,none⟩=some (.slice none 0 0):=(zs BK473.out 2).trans rfl
         have hfz62_0:=zx BK473.out 0
         have hfz62_1:=zx BK473.out 1
         have hfz62_2:=zx BK473.out 2
         go_wp2
         repeat (go_quiet (fail);try go_wp2)
         refine bodyPost_ret (results_ct rfl _ _ gb473 26 #[.int .u64 t474, .int .u32 t475, .slice Ao12 t476.length co12] (0,0) _ rfl (by (with_reducible repeat (first|refine zh ?_ _|refine zj ?_|refine zi ?_ _));refine zw (cs := #[.int .u64 t474, .int .u32 t475, .slice none 0 0]) ?_ 2 _ rfl;(with_reducible repeat (first|refine zh ?_ _|refine zj ?_|refine zi ?_ _));refine zw (cs := #[.int .u64 t474, .int .u32 0, .slice none 0 0]) ?_ 1 _ rfl;(with_reducible repeat (first|refine zh ?_ _|refine zj ?_|refine zi ?_ _));refine zw (cs := #[.int .u64 0, .int .u32 0, .slice none 0 0]) ?_ 0 _ rfl;(with_reducible repeat (first|refine zh ?_ _|refine zj ?_|refine zi ?_ _));exact BK473.out) Try.underlying26 rfl (by kernel_rfl)) rfl ?_
         exact ⟨_,by first|rfl|(simp [errW_none,errW_some] <;> rfl)|(simp [*,errW_none,errW_some] <;> rfl),by (with_reducible repeat (first|apply zo|apply zp|apply zq));exact zG (zH (p:=⟨gb473,2,none⟩) (zH (p:=⟨gb473,1,none⟩) (zH (p:=⟨gb473,0,none⟩) (Kd.R_types HO_473002.out BK473.out (by decide)) (fun _ hk=>hk.2) (.int .u64 t474)) (fun _ hk=>hk.2) (.int .u32 t475)) (fun _ hk=>hk.2) (.slice Ao12 t476.length co12)) (fun _ hk=>trivial),by repeat (first|(with_reducible first|exact HB.out|apply ze|apply zd|apply zf|refine zk ?_ GE472.out|refine zk ?_ GE473.out|refine zk ?_ GE487.out)|exact HB.out)⟩

end Go.Proofs.Ytkaoiblgfpphoaa.Prt

namespace Go.Proofs.Ytkaoiblgfpphoaa.Prt
open Go.RowKit Go.Proofs.YtkaoiblgfpphoaaW.PrintWords Go.Proofs.YtkaoiblgfpphoaaW.PrintLast Go.Proofs.YtkaoiblgfpphoaaW.PrintMore
attribute [local go_sem] max2_int min2_int max_two min_two max_three min_three max_four min_four   -- for this text's walks alone
set_option linter.unusedVariables false
set_option linter.unusedSimpArgs false

/-! ### gain_put: function 64 -/
def gain_put.j0 : Nat→Int→Int→Bool→Int→Int→List Int→Option (Int × Int × List Int × Int)
 | 0,_,_,_,_,_,_=>none
 | k+1,x1,x10,x23,x663000,x663001,x663002=>if x23=true then ((coder_Put.f k x663000 x663001 x663002 (wrap64 (x10+3)) (wrap64 ((wrap64 (x10+3))+1)) 8).bind fun bt670=>(some (bt670.1,bt670.2.1,bt670.2.2.1,bt670.2.2.2))) else ((coder_Put.f k x663000 x663001 x663002 7 8 8).bind fun bt676=>(if bt676.2.2.2=0 then ((coder_PutNum.f k bt676.1 bt676.2.1 bt676.2.2.1 (IntKind.u64.wrap (x1)) 45).bind fun bt683=>(some (bt683.1,bt683.2.1,bt683.2.2.1,bt683.2.2.2))) else (some (bt676.1,bt676.2.1,bt676.2.2.1,bt676.2.2.2))))
def gain_put.f (k : Nat) (a0_0 : Int) (a0_1 : Int) (l0_2 : List Int) (a1 : Int) (a2 : Int) (a3 : Bool) : Option (Int × Int × List Int × Int):=if a3=true then ((coder_PutNum.f k a0_0 a0_1 l0_2 (IntKind.u64.wrap (a1)) 45).bind fun bt664=>(some (bt664.1,bt664.2.1,bt664.2.2.1,bt664.2.2.2))) else (if (wrap64 (a1 - a2)) ≥ (-3) then (gain_put.j0 k a1 (wrap64 (a1 - a2)) (decide ((wrap64 (a1 - a2))≤3)) a0_0 a0_1 l0_2) else (gain_put.j0 k a1 (wrap64 (a1 - a2)) false a0_0 a0_1 l0_2))
theorem gain_put.mono_l : ∀ k,(∀ y0 y1 y2 y3 y4 y5,LeO (gain_put.j0 k y0 y1 y2 y3 y4 y5) (gain_put.j0 (k+1) y0 y1 y2 y3 y4 y5))
 | 0=>fun _ _ _ _ _ _ r h=>by simp [gain_put.j0] at h
 | k+1=>by
  have ih0:=gain_put.mono_l k
  ·
   intro y0 y1 y2 y3 y4 y5
   unfold gain_put.j0
   repeat' first
   | (with_reducible exact ih0 _ _ _ _ _ _)
   | (with_reducible exact coder_Put.mono _ _ _ _ _ _ _)
   | (with_reducible exact coder_PutNum.mono _ _ _ _ _ _)
   | (with_reducible exact LeO.refl _)
   | (with_reducible exact LeO.none _)
   | (with_reducible refine LeO.ite ?_ ?_)
   | (with_reducible refine LeO.bind ?_ (fun _ => ?_))
   | exact ih0 _ _ _ _ _ _
   | exact coder_Put.mono _ _ _ _ _ _ _
   | exact coder_PutNum.mono _ _ _ _ _ _
   | exact LeO.none _
   | refine LeO.ite ?_ ?_
   | refine LeO.bind ?_ (fun _ => ?_)
theorem gain_put.mono : ∀ a0 a1 a2 a3 a4 a5 k,LeO (gain_put.f k a0 a1 a2 a3 a4 a5) (gain_put.f (k+1) a0 a1 a2 a3 a4 a5):=by
 intro a0 a1 a2 a3 a4 a5 k
 have ih0:=gain_put.mono_l k
 unfold gain_put.f
 repeat' first
   | (with_reducible exact ih0 _ _ _ _ _ _)
   | (with_reducible exact coder_Put.mono _ _ _ _ _ _ _)
   | (with_reducible exact coder_PutNum.mono _ _ _ _ _ _)
   | (with_reducible exact LeO.refl _)
   | (with_reducible exact LeO.none _)
   | (with_reducible refine LeO.ite ?_ ?_)
   | (with_reducible refine LeO.bind ?_ (fun _ => ?_))
   | exact ih0 _ _ _ _ _ _
   | exact coder_Put.mono _ _ _ _ _ _ _
   | exact coder_PutNum.mono _ _ _ _ _ _
   | exact LeO.none _
   | refine LeO.ite ?_ ?_
   | refine LeO.bind ?_ (fun _ => ?_)
set_option maxHeartbeats 8000000 in
set_option maxRecDepth 100000 in
theorem gain_put.calls (k : Nat) (a0_0 : Int) (a0_1 : Int) (A0_2 : Option Addr) (c0_2 : Nat) (l0_2 : List Int) (a1 : Int) (a2 : Int) (a3 : Bool) (r1 : Int) (r2 : Int) (r3 : List Int) (r4 : Int) (w : World) (hr0_2 : Kd.C (Kd.int .u8) w A0_2 l0_2.length l0_2) (hc0_2 : l0_2.length≤c0_2) (h : gain_put.f k a0_0 a0_1 l0_2 a1 a2 a3=some (r1,r2,r3,r4)) :
  Calls Try.prog 64 #[.agg #[.int .u64 a0_0, .int .u32 a0_1, .slice A0_2 l0_2.length c0_2], .int .i64 a1, .int .i64 a2, .bool a3] w fun e w' => ∃ v2_ : Value,e=.returned (.tuple #[.agg #[.int .u64 r1, .int .u32 r2,v2_], .int .i64 r4])∧Kd.R (Kd.int .u8) 5 w' w.heap.size (fun _=>True) v2_ r3∧Below w.heap.size w w' := by
 have hu26:=Try.underlying26;have HR0_2:=zm hr0_2;have HC0_2:=zm hc0_2;clear hr0_2 hc0_2;have HB:=zm (Below.refl w.heap.size w)
 have H : (if a3=true then ((coder_PutNum.f k a0_0 a0_1 l0_2 (IntKind.u64.wrap (a1)) 45).bind fun bt664=>(some (bt664.1,bt664.2.1,bt664.2.2.1,bt664.2.2.2))) else (if (wrap64 (a1 - a2)) ≥ (-3) then (gain_put.j0 k a1 (wrap64 (a1 - a2)) (decide ((wrap64 (a1 - a2))≤3)) a0_0 a0_1 l0_2) else (gain_put.j0 k a1 (wrap64 (a1 - a2)) false a0_0 a0_1 l0_2)))=some (r1,r2,r3,r4):=h
 clear h
 by_cases c5 : a3=true
 ·
  subst c5
  have H1 : ((coder_PutNum.f k a0_0 a0_1 l0_2 (IntKind.u64.wrap (a1)) 45).bind fun bt664=>(some (bt664.1,bt664.2.1,bt664.2.2.1,bt664.2.2.2)))=some (r1,r2,r3,r4):=by rw [if_pos rfl] at H;exact H
  clear H;have H:=H1;clear H1
  replace H:=Option.bind_eq_some_iff.mp H
  obtain ⟨⟨t664,t665,t666,t669⟩,A60,H⟩:=H
  replace H : (some (t664,t665,t666,t669))=some (r1,r2,r3,r4):=H
  have A6:=zm A60;clear A60
  simp only [Option.some.injEq,Prod.mk.injEq] at H
  obtain ⟨rfl,rfl,rfl,rfl⟩:=H
  go_enter Try.func64,Try.ntmps64
  go_wp2_with (first|((with_reducible refine gate_dst (N:=4) rfl ?_);refine box_event ?hg (N:=4) ?hd (cs := #[.int .u64 a0_0, .int .u32 a0_1, .slice A0_2 l0_2.length c0_2]) (t:=26) ?hr ?_;(case hd=>rfl);(case hg=>rfl);(case hr=>first|(go_simp;done)|(go_simp;rfl));intro gb662 hg w7 hbox hb;have n0_:=zm (zJ (by repeat (first|(with_reducible first|exact HB.out|apply ze|apply zd|apply zf)|exact HB.out)) hb);have n1_:=zm (hbox);have n2_:=zm ((by rw [hg];exact (zE (by repeat (first|(with_reducible first|exact HB.out|apply ze|apply zd|apply zf)|exact HB.out))) : w.heap.size≤gb662));have n3_:=zm ((by rw [hg];exact (zE (by repeat (first|(with_reducible first|exact HB.out|apply ze|apply zd|apply zf)|exact HB.out))) : w.heap.size≤gb662));clear HB;have HB:=n0_;have BK662:=n1_;have GW662:=n2_;have GE662:=n3_;clear n0_ n1_ n2_ n3_;clear hb hbox hg)|((with_reducible refine gate_dst (N:=8) rfl ?_);refine box_event ?hg (N:=8) ?hd (cs := #[.int .u64 0, .int .u32 0, .slice none 0 0]) (t:=26) ?hr ?_;(case hd=>rfl);(case hg=>rfl);(case hr=>first|(go_simp;done)|(go_simp;rfl));intro gb663 hg w8 hbox hb;have n0_:=zm (zF (g:=gb662) (o:=.cells #[.int .u64 a0_0, .int .u32 a0_1, .slice A0_2 l0_2.length c0_2] 26 (0,0)) (by (with_reducible repeat (first|refine zh ?_ _|refine zj ?_|refine zi ?_ _));exact BK662.out) hb);have n1_:=zm (zJ (by repeat (first|(with_reducible first|exact HB.out|apply ze|apply zd|apply zf|refine zk ?_ GE662.out)|exact HB.out)) hb);have n2_:=zm (hbox);have n3_:=zm ((by rw [hg];exact (zE (by repeat (first|(with_reducible first|exact HB.out|apply ze|apply zd|apply zf|refine zk ?_ GE662.out)|exact HB.out))) : w.heap.size≤gb663));have n4_:=zm ((by rw [hg];exact (zE (by repeat (first|(with_reducible first|exact HB.out|apply ze|apply zd|apply zf|refine zk ?_ GE662.out)|exact HB.out))) : w.heap.size≤gb663));have n5_:=zm ((by rw [hg];exact zn (zD (g:=gb662) (o:=.cells #[.int .u64 a0_0, .int .u32 a0_1, .slice A0_2 l0_2.length c0_2] 26 (0,0)) (by (with_reducible repeat (first|refine zh ?_ _|refine zj ?_|refine zi ?_ _));exact BK662.out)) : gb662≠gb663));have n6_:=zm ((by rw [hg];exact zg (zD (g:=gb662) (o:=.cells #[.int .u64 a0_0, .int .u32 a0_1, .slice A0_2 l0_2.length c0_2] 26 (0,0)) (by (with_reducible repeat (first|refine zh ?_ _|refine zj ?_|refine zi ?_ _));exact BK662.out)) : gb663≠gb662));clear BK662;clear HB;have BK662:=n0_;have HB:=n1_;have BK663:=n2_;have GW663:=n3_;have GE663:=n4_;have NB662_663:=n5_;have NB663_662:=n6_;clear n0_ n1_ n2_ n3_ n4_ n5_ n6_;clear hb hbox hg;have hnb9:=NB662_663.out;have hnc9:=NB663_662.out;have hcz10_0 : w8.cell? ⟨gb662,0,none⟩=some (.int .u64 a0_0):=(zs BK662.out 0).trans rfl;have hcz10_1 : w8.cell? ⟨gb662,1,none⟩=some (.int .u32 a0_1):=(zs BK662.out 1).trans rfl;have hcz10_2 : w8.cell? ⟨gb662,2,none⟩=some (.slice A0_2 l0_2.length c0_2):=(zs BK662.out 2).trans rfl;have hfz10_0:=zx BK662.out 0;have hfz10_1:=zx BK662.out 1;have hfz10_2:=zx BK662.out 2)|((with_reducible refine gate_callee (f:=37) rfl ?_);refine goesL_ (some 46) rfl rfl Try.func37 (by kernel_rfl) rfl #[.agg #[.int .u64 a0_0, .int .u32 a0_1, .slice A0_2 l0_2.length c0_2], .int .u64 (IntKind.u64.wrap (a1)), .int .u64 45] rfl (by (try simp only [List.map_toArray,List.map_cons,List.map_nil]);first|done|rfl|(simp only [List.length_drop,List.length_take];rfl)) ?_;(with_reducible refine (coder_PutNum.calls k a0_0 a0_1 _ _ l0_2 (IntKind.u64.wrap (a1)) 45 t664 t665 t666 t669 _ ?side1 ?side2 A6.out).mono ?_);(case side1=>repeat (first|exact (Kd.C_below HR0_2.out HB.out)|(with_reducible refine Kd.C_alloc ?_ _)|(with_reducible refine Kd.C_drewN ?_ _)|(with_reducible refine Kd.C_drew ?_)));(case side2=>exact HC0_2.out);rintro e w11 ⟨v667,rfl,ho0,hb⟩;refine ⟨_,rfl, ?_⟩;have n0_:=zm (Kd.R_lower ho0 (zE (by repeat (first|(with_reducible first|exact HB.out|apply ze|apply zd|apply zf|refine zk ?_ GE662.out|refine zk ?_ GE663.out)|exact HB.out))));have n1_:=zm (zF (g:=gb662) (o:=.cells #[.int .u64 a0_0, .int .u32 a0_1, .slice A0_2 l0_2.length c0_2] 26 (0,0)) (by (with_reducible repeat (first|refine zh ?_ _|refine zj ?_|refine zi ?_ _));exact BK662.out) hb);have n2_:=zm (zF (g:=gb663) (o:=.cells #[.int .u64 0, .int .u32 0, .slice none 0 0] 26 (0,0)) (by (with_reducible repeat (first|refine zh ?_ _|refine zj ?_|refine zi ?_ _));exact BK663.out) hb);have n3_:=zm (zJ (by repeat (first|(with_reducible first|exact HB.out|apply ze|apply zd|apply zf|refine zk ?_ GE662.out|refine zk ?_ GE663.out)|exact HB.out)) hb);clear BK662;clear BK663;clear HB;have HO668:=n0_;have BK662:=n1_;have BK663:=n2_;have HB:=n3_;clear n0_ n1_ n2_ n3_;(try clear hb);(try clear hb2);(try clear hk);(try clear hi);(try clear ho0);have hcz12_0 : w11.cell? ⟨gb663,0,none⟩=some (.int .u64 0):=(zs BK663.out 0).trans rfl;have hcz12_1 : w11.cell? ⟨gb663,1,none⟩=some (.int .u32 0):=(zs BK663.out 1).trans rfl;have hcz12_2 : w11.cell? ⟨gb663,2,none⟩=some (.slice none 0 0):=(zs BK663.out 2).trans rfl;have hfz12_0:=zx BK663.out 0;have hfz12_1:=zx BK663.out 1;have hfz12_2:=zx BK663.out 2;obtain ⟨Ao13,co13,eo13⟩:=Kd.R_slice HO668.out;subst eo13))
  refine bodyPost_ret (results_ct rfl _ _ gb663 26 #[.int .u64 t664, .int .u32 t665, .slice Ao13 t666.length co13] (0,0) _ rfl (by (with_reducible repeat (first|refine zh ?_ _|refine zj ?_|refine zi ?_ _));refine zw (cs := #[.int .u64 t664, .int .u32 t665, .slice none 0 0]) ?_ 2 _ rfl;(with_reducible repeat (first|refine zh ?_ _|refine zj ?_|refine zi ?_ _));refine zw (cs := #[.int .u64 t664, .int .u32 0, .slice none 0 0]) ?_ 1 _ rfl;(with_reducible repeat (first|refine zh ?_ _|refine zj ?_|refine zi ?_ _));refine zw (cs := #[.int .u64 0, .int .u32 0, .slice none 0 0]) ?_ 0 _ rfl;(with_reducible repeat (first|refine zh ?_ _|refine zj ?_|refine zi ?_ _));exact BK663.out) Try.underlying26 rfl (by kernel_rfl)) rfl ?_
  exact ⟨_,by first|rfl|(simp [errW_none,errW_some] <;> rfl)|(simp [*,errW_none,errW_some] <;> rfl),by (with_reducible repeat (first|apply zo|apply zp|apply zq));exact zG (zH (p:=⟨gb663,2,none⟩) (zH (p:=⟨gb663,1,none⟩) (zH (p:=⟨gb663,0,none⟩) (Kd.R_types HO668.out BK663.out (by decide)) (fun _ hk=>hk.2) (.int .u64 t664)) (fun _ hk=>hk.2) (.int .u32 t665)) (fun _ hk=>hk.2) (.slice Ao13 t666.length co13)) (fun _ hk=>trivial),by repeat (first|(with_reducible first|exact HB.out|apply ze|apply zd|apply zf|refine zk ?_ GE662.out|refine zk ?_ GE663.out)|exact HB.out)⟩
 ·
  replace c5:=Bool.eq_false_iff.mpr c5
  subst c5
  have H1 : (if (wrap64 (a1 - a2)) ≥ (-3) then (gain_put.j0 k a1 (wrap64 (a1 - a2)) (decide ((wrap64 (a1 - a2))≤3)) a0_0 a0_1 l0_2) else (gain_put.j0 k a1 (wrap64 (a1 - a2)) false a0_0 a0_1 l0_2))=some (r1,r2,r3,r4):=by rw [if_neg (show ¬ (false=true) by decide)] at H;exact H
  clear H;have H:=H1;clear H1;have HC14:=zm H;clear H
  go_enter Try.func64,Try.ntmps64
  go_upto_region 3 with (first|((with_reducible refine gate_dst (N:=4) rfl ?_);refine box_event ?hg (N:=4) ?hd (cs := #[.int .u64 a0_0, .int .u32 a0_1, .slice A0_2 l0_2.length c0_2]) (t:=26) ?hr ?_;(case hd=>rfl);(case hg=>rfl);(case hr=>first|(go_simp;done)|(go_simp;rfl));intro gb662 hg w15 hbox hb;have n0_:=zm (zJ (by repeat (first|(with_reducible first|exact HB.out|apply ze|apply zd|apply zf)|exact HB.out)) hb);have n1_:=zm (hbox);have n2_:=zm ((by rw [hg];exact (zE (by repeat (first|(with_reducible first|exact HB.out|apply ze|apply zd|apply zf)|exact HB.out))) : w.heap.size≤gb662));have n3_:=zm ((by rw [hg];exact (zE (by repeat (first|(with_reducible first|exact HB.out|apply ze|apply zd|apply zf)|exact HB.out))) : w.heap.size≤gb662));clear HB;have HB:=n0_;have BK662:=n1_;have GW662:=n2_;have GE662:=n3_;clear n0_ n1_ n2_ n3_;clear hb hbox hg)|((with_reducible refine gate_dst (N:=8) rfl ?_);refine box_event ?hg (N:=8) ?hd (cs := #[.int .u64 0, .int .u32 0, .slice none 0 0]) (t:=26) ?hr ?_;(case hd=>rfl);(case hg=>rfl);(case hr=>first|(go_simp;done)|(go_simp;rfl));intro gb663 hg w16 hbox hb;have n0_:=zm (zF (g:=gb662) (o:=.cells #[.int .u64 a0_0, .int .u32 a0_1, .slice A0_2 l0_2.length c0_2] 26 (0,0)) (by (with_reducible repeat (first|refine zh ?_ _|refine zj ?_|refine zi ?_ _));exact BK662.out) hb);have n1_:=zm (zJ (by repeat (first|(with_reducible first|exact HB.out|apply ze|apply zd|apply zf|refine zk ?_ GE662.out)|exact HB.out)) hb);have n2_:=zm (hbox);have n3_:=zm ((by rw [hg];exact (zE (by repeat (first|(with_reducible first|exact HB.out|apply ze|apply zd|apply zf|refine zk ?_ GE662.out)|exact HB.out))) : w.heap.size≤gb663));have n4_:=zm ((by rw [hg];exact (zE (by repeat (first|(with_reducible first|exact HB.out|apply ze|apply zd|apply zf|refine zk ?_ GE662.out)|exact HB.out))) : w.heap.size≤gb663));have n5_:=zm ((by rw [hg];exact zn (zD (g:=gb662) (o:=.cells #[.int .u64 a0_0, .int .u32 a0_1, .slice A0_2 l0_2.length c0_2] 26 (0,0)) (by (with_reducible repeat (first|refine zh ?_ _|refine zj ?_|refine zi ?_ _));exact BK662.out)) : gb662≠gb663));have n6_:=zm ((by rw [hg];exact zg (zD (g:=gb662) (o:=.cells #[.int .u64 a0_0, .int .u32 a0_1, .slice A0_2 l0_2.length c0_2] 26 (0,0)) (by (with_reducible repeat (first|refine zh ?_ _|refine zj ?_|refine zi ?_ _));exact BK662.out)) : gb663≠gb662));clear BK662;clear HB;have BK662:=n0_;have HB:=n1_;have BK663:=n2_;have GW663:=n3_;have GE663:=n4_;have NB662_663:=n5_;have NB663_662:=n6_;clear n0_ n1_ n2_ n3_ n4_ n5_ n6_;clear hb hbox hg))
  (try simp only [Act.put,List.setIfInBounds_toArray,List.set_cons_zero,List.set_cons_succ])
  go_cut [23] (fun v23 wc => ∃ (kq : Nat) (x23_13 : Bool),v23=.bool x23_13∧Aside0 (gain_put.j0 kq a1 (wrap64 (a1 - a2)) x23_13 a0_0 a0_1 l0_2=some (r1,r2,r3,r4))∧Aside0 (kq≤k)∧Aside0 (wc.heap[gb662]? = some (.cells #[.int .u64 a0_0, .int .u32 a0_1,(.slice A0_2 l0_2.length c0_2)] 26 (0,0)))∧Aside0 (wc.heap[gb663]? = some (.cells #[.int .u64 0, .int .u32 0,(.slice none 0 0)] 26 (0,0)))∧Aside0 (Below w.heap.size w wc))
  case first =>
   have H:=HC14.out;clear HC14
   by_cases c17 : (wrap64 (a1 - a2)) ≥ (-3)
   ·
    rw [if_pos c17] at H
    have c17b0 : decide ((-3)≤(wrap64 (a1 - a2)))=true:=decide_eq_true c17
    clear c17
    (first|rw [c17b0]|(simp only [i64_w,i32_w];rw [c17b0])|skip)
    have H' := zm H
    clear H
    go_wp2
    go_meet
    case rel=>exact ⟨_,(decide ((wrap64 (a1 - a2))≤3)),(by first|rfl|(simp;done)|(simp [*];done)),H',⟨by first|omega|exact Nat.le_refl _⟩,⟨by (with_reducible repeat (first|refine zh ?_ _|refine zj ?_|refine zi ?_ _));exact BK662.out⟩,⟨by (with_reducible repeat (first|refine zh ?_ _|refine zj ?_|refine zi ?_ _));exact BK663.out⟩,⟨by repeat (first|(with_reducible first|exact HB.out|apply ze|apply zd|apply zf|refine zk ?_ GE662.out|refine zk ?_ GE663.out)|exact HB.out)⟩⟩
   ·
    rw [if_neg c17] at H
    have c17b0 : decide ((-3)≤(wrap64 (a1 - a2)))=false:=decide_eq_false c17
    clear c17
    (first|rw [c17b0]|(simp only [i64_w,i32_w];rw [c17b0])|skip)
    have H' := zm H
    clear H
    go_wp2
    go_meet
    case rel=>exact ⟨_,(false),(by first|rfl|(simp;done)|(simp [*];done)),H',⟨by first|omega|exact Nat.le_refl _⟩,⟨by (with_reducible repeat (first|refine zh ?_ _|refine zj ?_|refine zi ?_ _));exact BK662.out⟩,⟨by (with_reducible repeat (first|refine zh ?_ _|refine zj ?_|refine zi ?_ _));exact BK663.out⟩,⟨by repeat (first|(with_reducible first|exact HB.out|apply ze|apply zd|apply zf|refine zk ?_ GE662.out|refine zk ?_ GE663.out)|exact HB.out)⟩⟩
  case rest =>
   clear HC14
   try clear c1
   try clear p2
   try clear c3
   try clear c5
   try clear c6
   try clear p6
   try clear c9
   try clear c17
   try clear c17b0
   try clear hcz10_0
   try clear hcz10_1
   try clear hcz10_2
   try clear hcz12_0
   try clear hcz12_1
   try clear hcz12_2
   try clear hfz10_0
   try clear hfz10_1
   try clear hfz10_2
   try clear hfz12_0
   try clear hfz12_1
   try clear hfz12_2
   obtain ⟨kq,x23_13,rfl,HA,HJ13,BK662,BK663,HB⟩:=hcut
   cases kq with
   | zero=>exact absurd HA.out (by simp [gain_put.j0])
   | succ kj13 =>
    have H:=HA.out;clear HA
    simp only [gain_put.j0] at H
    by_cases c18 : x23_13=true
    ·
     subst c18
     have H1 : ((coder_Put.f kj13 a0_0 a0_1 l0_2 (wrap64 ((wrap64 (a1 - a2))+3)) (wrap64 ((wrap64 ((wrap64 (a1 - a2))+3))+1)) 8).bind fun bt670=>(some (bt670.1,bt670.2.1,bt670.2.2.1,bt670.2.2.2)))=some (r1,r2,r3,r4):=by rw [if_pos rfl] at H;exact H
     clear H;have H:=H1;clear H1
     replace H:=Option.bind_eq_some_iff.mp H
     obtain ⟨⟨t670,t671,t672,t675⟩,A190,H⟩:=H
     replace H : (some (t670,t671,t672,t675))=some (r1,r2,r3,r4):=H
     have A19:=zm A190;clear A190
     simp only [Option.some.injEq,Prod.mk.injEq] at H
     obtain ⟨rfl,rfl,rfl,rfl⟩:=H
     have hnb20:=NB662_663.out;have hnc20:=NB663_662.out
     have hcz21_0 : wc.cell? ⟨gb662,0,none⟩=some (.int .u64 a0_0):=(zs BK662.out 0).trans rfl
     have hcz21_1 : wc.cell? ⟨gb662,1,none⟩=some (.int .u32 a0_1):=(zs BK662.out 1).trans rfl
     have hcz21_2 : wc.cell? ⟨gb662,2,none⟩=some (.slice A0_2 l0_2.length c0_2):=(zs BK662.out 2).trans rfl
     have hfz21_0:=zx BK662.out 0
     have hfz21_1:=zx BK662.out 1
     have hfz21_2:=zx BK662.out 2
     go_wp2_with (first|((with_reducible refine gate_callee (f:=18) rfl ?_);refine goesL_ (some 30) rfl rfl Try.func18 (by kernel_rfl) rfl #[.agg #[.int .u64 a0_0, .int .u32 a0_1, .slice A0_2 l0_2.length c0_2], .int .i64 (wrap64 ((wrap64 (a1 - a2))+3)), .int .i64 (wrap64 ((wrap64 ((wrap64 (a1 - a2))+3))+1)), .int .i64 8] rfl (by (try simp only [List.map_toArray,List.map_cons,List.map_nil]);first|done|rfl|(simp only [List.length_drop,List.length_take];rfl)) ?_;(with_reducible refine (coder_Put.calls kj13 a0_0 a0_1 _ _ l0_2 (wrap64 ((wrap64 (a1 - a2))+3)) (wrap64 ((wrap64 ((wrap64 (a1 - a2))+3))+1)) 8 t670 t671 t672 t675 _ ?side1 ?side2 A19.out).mono ?_);(case side1=>repeat (first|exact (Kd.C_below HR0_2.out HB.out)|(with_reducible refine Kd.C_alloc ?_ _)|(with_reducible refine Kd.C_drewN ?_ _)|(with_reducible refine Kd.C_drew ?_)));(case side2=>exact HC0_2.out);rintro e w22 ⟨v673,rfl,ho0,hb⟩;refine ⟨_,rfl, ?_⟩;have n0_:=zm (Kd.R_lower ho0 (zE (by repeat (first|(with_reducible first|exact HB.out|apply ze|apply zd|apply zf|refine zk ?_ GE662.out|refine zk ?_ GE663.out)|exact HB.out))));have n1_:=zm (zF (g:=gb662) (o:=.cells #[.int .u64 a0_0, .int .u32 a0_1, .slice A0_2 l0_2.length c0_2] 26 (0,0)) (by (with_reducible repeat (first|refine zh ?_ _|refine zj ?_|refine zi ?_ _));exact BK662.out) hb);have n2_:=zm (zF (g:=gb663) (o:=.cells #[.int .u64 0, .int .u32 0, .slice none 0 0] 26 (0,0)) (by (with_reducible repeat (first|refine zh ?_ _|refine zj ?_|refine zi ?_ _));exact BK663.out) hb);have n3_:=zm (zJ (by repeat (first|(with_reducible first|exact HB.out|apply ze|apply zd|apply zf|refine zk ?_ GE662.out|refine zk ?_ GE663.out)|exact HB.out)) hb);clear BK662;clear BK663;clear HB;have HO674:=n0_;have BK662:=n1_;have BK663:=n2_;have HB:=n3_;clear n0_ n1_ n2_ n3_;(try clear hb);(try clear hb2);(try clear hk);(try clear hi);(try clear ho0);have hcz23_0 : w22.cell? ⟨gb663,0,none⟩=some (.int .u64 0):=(zs BK663.out 0).trans rfl;have hcz23_1 : w22.cell? ⟨gb663,1,none⟩=some (.int .u32 0):=(zs BK663.out 1).trans rfl;have hcz23_2 : w22.cell? ⟨gb663,2,none⟩=some (.slice none 0 0):=(zs BK663.out 2).trans rfl;have hfz23_0:=zx BK663.out 0;have hfz23_1:=zx BK663.out 1;have hfz23_2:=zx BK663.out 2;obtain ⟨Ao24,co24,eo24⟩:=Kd.R_slice HO674.out;subst eo24))
     refine bodyPost_ret (results_ct rfl _ _ gb663 26 #[.int .u64 t670, .int .u32 t671, .slice Ao24 t672.length co24] (0,0) _ rfl (by (with_reducible repeat (first|refine zh ?_ _|refine zj ?_|refine zi ?_ _));refine zw (cs := #[.int .u64 t670, .int .u32 t671, .slice none 0 0]) ?_ 2 _ rfl;(with_reducible repeat (first|refine zh ?_ _|refine zj ?_|refine zi ?_ _));refine zw (cs := #[.int .u64 t670, .int .u32 0, .slice none 0 0]) ?_ 1 _ rfl;(with_reducible repeat (first|refine zh ?_ _|refine zj ?_|refine zi ?_ _));refine zw (cs := #[.int .u64 0, .int .u32 0, .slice none 0 0]) ?_ 0 _ rfl;(with_reducible repeat (first|refine zh ?_ _|refine zj ?_|refine zi ?_ _));exact BK663.out) Try.underlying26 rfl (by kernel_rfl)) rfl ?_
     exact ⟨_,by first|rfl|(simp [errW_none,errW_some] <;> rfl)|(simp [*,errW_none,errW_some] <;> rfl),by (with_reducible repeat (first|apply zo|apply zp|apply zq));exact zG (zH (p:=⟨gb663,2,none⟩) (zH (p:=⟨gb663,1,none⟩) (zH (p:=⟨gb663,0,none⟩) (Kd.R_types HO674.out BK663.out (by decide)) (fun _ hk=>hk.2) (.int .u64 t670)) (fun _ hk=>hk.2) (.int .u32 t671)) (fun _ hk=>hk.2) (.slice Ao24 t672.length co24)) (fun _ hk=>trivial),by repeat (first|(with_reducible first|exact HB.out|apply ze|apply zd|apply zf|refine zk ?_ GE662.out|refine zk ?_ GE663.out)|exact HB.out)⟩
    ·
     replace c18:=Bool.eq_false_iff.mpr c18
     subst c18
     have H1 : ((coder_Put.f kj13 a0_0 a0_1 l0_2 7 8 8).bind fun bt676=>(if bt676.2.2.2=0 then ((coder_PutNum.f kj13 bt676.1 bt676.2.1 bt676.2.2.1 (IntKind.u64.wrap (a1)) 45).bind fun bt683=>(some (bt683.1,bt683.2.1,bt683.2.2.1,bt683.2.2.2))) else (some (bt676.1,bt676.2.1,bt676.2.2.1,bt676.2.2.2))))=some (r1,r2,r3,r4):=by rw [if_neg (show ¬ (false=true) by decide)] at H;exact H
     clear H;have H:=H1;clear H1
     replace H:=Option.bind_eq_some_iff.mp H
     obtain ⟨⟨t676,t677,t678,t681⟩,A250,H⟩:=H
     replace H : (if t681=0 then ((coder_PutNum.f kj13 t676 t677 t678 (IntKind.u64.wrap (a1)) 45).bind fun bt683=>(some (bt683.1,bt683.2.1,bt683.2.2.1,bt683.2.2.2))) else (some (t676,t677,t678,t681)))=some (r1,r2,r3,r4):=H
     have A25:=zm A250;clear A250
     by_cases c26 : t681=0
     ·
      rw [if_pos c26] at H
      have c26b0 : (t681 == 0)=true:=beq_iff_eq.mpr c26
      have c26b1 : (t681 != 0)=false:=bne_eq_false_iff_eq.mpr c26
      clear c26
      replace H:=Option.bind_eq_some_iff.mp H
      obtain ⟨⟨t683,t684,t685,t688⟩,A270,H⟩:=H
      replace H : (some (t683,t684,t685,t688))=some (r1,r2,r3,r4):=H
      have A27:=zm A270;clear A270
      simp only [Option.some.injEq,Prod.mk.injEq] at H
      obtain ⟨rfl,rfl,rfl,rfl⟩:=H
      have hnb28:=NB662_663.out;have hnc28:=NB663_662.out
      have hcz29_0 : wc.cell? ⟨gb662,0,none⟩=some (.int .u64 a0_0):=(zs BK662.out 0).trans rfl
      have hcz29_1 : wc.cell? ⟨gb662,1,none⟩=some (.int .u32 a0_1):=(zs BK662.out 1).trans rfl
      have hcz29_2 : wc.cell? ⟨gb662,2,none⟩=some (.slice A0_2 l0_2.length c0_2):=(zs BK662.out 2).trans rfl
      have hfz29_0:=zx BK662.out 0
      have hfz29_1:=zx BK662.out 1
      have hfz29_2:=zx BK662.out 2
      go_wp2_with (first|((with_reducible refine gate_callee (f:=18) rfl ?_);refine goesL_ (some 35) rfl rfl Try.func18 (by kernel_rfl) rfl #[.agg #[.int .u64 a0_0, .int .u32 a0_1, .slice A0_2 l0_2.length c0_2], .int .i64 7, .int .i64 8, .int .i64 8] rfl (by (try simp only [List.map_toArray,List.map_cons,List.map_nil]);first|done|rfl|(simp only [List.length_drop,List.length_take];rfl)) ?_;(with_reducible refine (coder_Put.calls kj13 a0_0 a0_1 _ _ l0_2 7 8 8 t676 t677 t678 t681 _ ?side1 ?side2 A25.out).mono ?_);(case side1=>repeat (first|exact (Kd.C_below HR0_2.out HB.out)|(with_reducible refine Kd.C_alloc ?_ _)|(with_reducible refine Kd.C_drewN ?_ _)|(with_reducible refine Kd.C_drew ?_)));(case side2=>exact HC0_2.out);rintro e w30 ⟨v679,rfl,ho0,hb⟩;refine ⟨_,rfl, ?_⟩;have n0_:=zm (Kd.R_lower ho0 (zE (by repeat (first|(with_reducible first|exact HB.out|apply ze|apply zd|apply zf|refine zk ?_ GE662.out|refine zk ?_ GE663.out)|exact HB.out))));have n1_:=zm (zF (g:=gb662) (o:=.cells #[.int .u64 a0_0, .int .u32 a0_1, .slice A0_2 l0_2.length c0_2] 26 (0,0)) (by (with_reducible repeat (first|refine zh ?_ _|refine zj ?_|refine zi ?_ _));exact BK662.out) hb);have n2_:=zm (zF (g:=gb663) (o:=.cells #[.int .u64 0, .int .u32 0, .slice none 0 0] 26 (0,0)) (by (with_reducible repeat (first|refine zh ?_ _|refine zj ?_|refine zi ?_ _));exact BK663.out) hb);have n3_:=zm (zJ (by repeat (first|(with_reducible first|exact HB.out|apply ze|apply zd|apply zf|refine zk ?_ GE662.out|refine zk ?_ GE663.out)|exact HB.out)) hb);clear BK662;clear BK663;clear HB;have HO680:=n0_;have BK662:=n1_;have BK663:=n2_;have HB:=n3_;clear n0_ n1_ n2_ n3_;(try clear hb);(try clear hb2);(try clear hk);(try clear hi);(try clear ho0))|((with_reducible refine gate_dst (N:=11) rfl ?_);refine box_event ?hg (N:=11) ?hd (cs := #[.int .u64 0, .int .u32 0, .slice none 0 0]) (t:=26) ?hr ?_;(case hd=>rfl);(case hg=>rfl);(case hr=>first|(go_simp;done)|(go_simp;rfl));intro gb682 hg w31 hbox hb;have n0_:=zm (Kd.R_below (by (with_reducible repeat (first|apply zo|apply zp|apply zq));exact HO680.out) hb);have n1_:=zm (zF (g:=gb662) (o:=.cells #[.int .u64 a0_0, .int .u32 a0_1, .slice A0_2 l0_2.length c0_2] 26 (0,0)) (by (with_reducible repeat (first|refine zh ?_ _|refine zj ?_|refine zi ?_ _));exact BK662.out) hb);have n2_:=zm (zF (g:=gb663) (o:=.cells #[.int .u64 0, .int .u32 0, .slice none 0 0] 26 (0,0)) (by (with_reducible repeat (first|refine zh ?_ _|refine zj ?_|refine zi ?_ _));exact BK663.out) hb);have n3_:=zm (zJ (by repeat (first|(with_reducible first|exact HB.out|apply ze|apply zd|apply zf|refine zk ?_ GE662.out|refine zk ?_ GE663.out)|exact HB.out)) hb);have n4_:=zm (hbox);have n5_:=zm ((by rw [hg];exact (zE (by repeat (first|(with_reducible first|exact HB.out|apply ze|apply zd|apply zf|refine zk ?_ GE662.out|refine zk ?_ GE663.out)|exact HB.out))) : w.heap.size≤gb682));have n6_:=zm ((by rw [hg];exact (zE (by repeat (first|(with_reducible first|exact HB.out|apply ze|apply zd|apply zf|refine zk ?_ GE662.out|refine zk ?_ GE663.out)|exact HB.out))) : w.heap.size≤gb682));have n7_:=zm ((by rw [hg];exact zn (zD (g:=gb662) (o:=.cells #[.int .u64 a0_0, .int .u32 a0_1, .slice A0_2 l0_2.length c0_2] 26 (0,0)) (by (with_reducible repeat (first|refine zh ?_ _|refine zj ?_|refine zi ?_ _));exact BK662.out)) : gb662≠gb682));have n8_:=zm ((by rw [hg];exact zg (zD (g:=gb662) (o:=.cells #[.int .u64 a0_0, .int .u32 a0_1, .slice A0_2 l0_2.length c0_2] 26 (0,0)) (by (with_reducible repeat (first|refine zh ?_ _|refine zj ?_|refine zi ?_ _));exact BK662.out)) : gb682≠gb662));have n9_:=zm ((by rw [hg];exact zn (zD (g:=gb663) (o:=.cells #[.int .u64 0, .int .u32 0, .slice none 0 0] 26 (0,0)) (by (with_reducible repeat (first|refine zh ?_ _|refine zj ?_|refine zi ?_ _));exact BK663.out)) : gb663≠gb682));have n10_:=zm ((by rw [hg];exact zg (zD (g:=gb663) (o:=.cells #[.int .u64 0, .int .u32 0, .slice none 0 0] 26 (0,0)) (by (with_reducible repeat (first|refine zh ?_ _|refine zj ?_|refine zi ?_ _));exact BK663.out)) : gb682≠gb663));clear HO680;clear BK662;clear BK663;clear HB;have HO680:=n0_;have BK662:=n1_;have BK663:=n2_;have HB:=n3_;have BK682:=n4_;have GW682:=n5_;have GE682:=n6_;have NB662_682:=n7_;have NB682_662:=n8_;have NB663_682:=n9_;have NB682_663:=n10_;clear n0_ n1_ n2_ n3_ n4_ n5_ n6_ n7_ n8_ n9_ n10_;clear hb hbox hg;have hnb32:=NB682_662.out;have hnc32:=NB662_682.out;have hnb33:=NB682_663.out;have hnc33:=NB663_682.out;have hcz34_0 : w31.cell? ⟨gb682,0,none⟩=some (.int .u64 0):=(zs BK682.out 0).trans rfl;have hcz34_1 : w31.cell? ⟨gb682,1,none⟩=some (.int .u32 0):=(zs BK682.out 1).trans rfl;have hcz34_2 : w31.cell? ⟨gb682,2,none⟩=some (.slice none 0 0):=(zs BK682.out 2).trans rfl;have hfz34_0:=zx BK682.out 0;have hfz34_1:=zx BK682.out 1;have hfz34_2:=zx BK682.out 2;obtain ⟨Ao35,co35,eo35⟩:=Kd.R_slice HO680.out;subst eo35;have hcz36_0 : w31.cell? ⟨gb662,0,none⟩=some (.int .u64 a0_0):=(zs BK662.out 0).trans rfl;have hcz36_1 : w31.cell? ⟨gb662,1,none⟩=some (.int .u32 a0_1):=(zs BK662.out 1).trans rfl;have hcz36_2 : w31.cell? ⟨gb662,2,none⟩=some (.slice A0_2 l0_2.length c0_2):=(zs BK662.out 2).trans rfl;have hfz36_0:=zx BK662.out 0;have hfz36_1:=zx BK662.out 1;have hfz36_2:=zx BK662.out 2)|((with_reducible refine gate_callee (f:=37) rfl ?_);refine goesL_ (some 46) rfl rfl Try.func37 (by kernel_rfl) rfl #[.agg #[.int .u64 t676, .int .u32 t677, .slice Ao35 t678.length co35], .int .u64 (IntKind.u64.wrap (a1)), .int .u64 45] rfl (by (try simp only [List.map_toArray,List.map_cons,List.map_nil]);first|done|rfl|(simp only [List.length_drop,List.length_take];rfl)) ?_;(with_reducible refine (coder_PutNum.calls kj13 t676 t677 _ _ t678 (IntKind.u64.wrap (a1)) 45 t683 t684 t685 t688 _ ?side1 ?side2 A27.out).mono ?_);(case side1=>refine (Kd.R_reads' (e:=5) (base:=w.heap.size) (ok:=fun k_=>True) (n:=t678.length) (c:=co35) ?_).2.2;exact (by (with_reducible repeat (first|apply zo|apply zp|apply zq));exact (zG (zG (zH (p:=⟨gb662,2,none⟩) (zH (p:=⟨gb662,1,none⟩) (zH (p:=⟨gb662,0,none⟩) (zH (p:=⟨gb682,2,none⟩) (zH (p:=⟨gb682,1,none⟩) (zH (p:=⟨gb682,0,none⟩) (Kd.R_types (Kd.R_types HO680.out BK682.out (by decide)) BK662.out (by decide)) (fun _ hk=>hk.1.2) (.int .u64 t676)) (fun _ hk=>hk.1.2) (.int .u32 t677)) (fun _ hk=>hk.1.2) (.slice Ao35 t678.length co35)) (fun _ hk=>hk.2) (.int .u64 t676)) (fun _ hk=>hk.2) (.int .u32 t677)) (fun _ hk=>hk.2) (.slice Ao35 t678.length co35)) (fun _ h_=>h_.1)) (fun _ h_=>h_.1))));(case side2=>exact (Kd.R_reads' HO680.out).2.1);rintro e w37 ⟨v686,rfl,ho0,hb⟩;refine ⟨_,rfl, ?_⟩;have n0_:=zm (Kd.R_elder' (by (with_reducible repeat (first|apply zo|apply zp|apply zq));exact (zG (zG (zH (p:=⟨gb662,2,none⟩) (zH (p:=⟨gb662,1,none⟩) (zH (p:=⟨gb662,0,none⟩) (zH (p:=⟨gb682,2,none⟩) (zH (p:=⟨gb682,1,none⟩) (zH (p:=⟨gb682,0,none⟩) (Kd.R_types (Kd.R_types HO680.out BK682.out (by decide)) BK662.out (by decide)) (fun _ hk=>hk.1.2) (.int .u64 t676)) (fun _ hk=>hk.1.2) (.int .u32 t677)) (fun _ hk=>hk.1.2) (.slice Ao35 t678.length co35)) (fun _ hk=>hk.2) (.int .u64 t676)) (fun _ hk=>hk.2) (.int .u32 t677)) (fun _ hk=>hk.2) (.slice Ao35 t678.length co35)) (fun _ h_=>h_.1)) (fun _ h_=>h_.1))) (Kd.R_base ho0) hb);have n1_:=zm (Kd.R_lower (Kd.R_new' ho0 (Kd.R_lt (by (with_reducible repeat (first|apply zo|apply zp|apply zq));exact (zG (zG (zH (p:=⟨gb662,2,none⟩) (zH (p:=⟨gb662,1,none⟩) (zH (p:=⟨gb662,0,none⟩) (zH (p:=⟨gb682,2,none⟩) (zH (p:=⟨gb682,1,none⟩) (zH (p:=⟨gb682,0,none⟩) (Kd.R_types (Kd.R_types HO680.out BK682.out (by decide)) BK662.out (by decide)) (fun _ hk=>hk.1.2) (.int .u64 t676)) (fun _ hk=>hk.1.2) (.int .u32 t677)) (fun _ hk=>hk.1.2) (.slice Ao35 t678.length co35)) (fun _ hk=>hk.2) (.int .u64 t676)) (fun _ hk=>hk.2) (.int .u32 t677)) (fun _ hk=>hk.2) (.slice Ao35 t678.length co35)) (fun _ h_=>h_.1)) (fun _ h_=>h_.1))))) (zE (by repeat (first|(with_reducible first|exact HB.out|apply ze|apply zd|apply zf|refine zk ?_ GE662.out|refine zk ?_ GE663.out|refine zk ?_ GE682.out)|exact HB.out))));have n2_:=zm (zF (g:=gb662) (o:=.cells #[.int .u64 t676, .int .u32 t677, .slice Ao35 t678.length co35] 26 (0,0)) (by (with_reducible repeat (first|refine zh ?_ _|refine zj ?_|refine zi ?_ _));refine zw (cs := #[.int .u64 t676, .int .u32 t677, .slice A0_2 l0_2.length c0_2]) ?_ 2 _ rfl;(with_reducible repeat (first|refine zh ?_ _|refine zj ?_|refine zi ?_ _));refine zw (cs := #[.int .u64 t676, .int .u32 a0_1, .slice A0_2 l0_2.length c0_2]) ?_ 1 _ rfl;(with_reducible repeat (first|refine zh ?_ _|refine zj ?_|refine zi ?_ _));refine zw (cs := #[.int .u64 a0_0, .int .u32 a0_1, .slice A0_2 l0_2.length c0_2]) ?_ 0 _ rfl;(with_reducible repeat (first|refine zh ?_ _|refine zj ?_|refine zi ?_ _|refine zv ?_ NB662_682.out _));exact BK662.out) hb);have n3_:=zm (zF (g:=gb663) (o:=.cells #[.int .u64 0, .int .u32 0, .slice none 0 0] 26 (0,0)) (by (with_reducible repeat (first|refine zh ?_ _|refine zj ?_|refine zi ?_ _|refine zv ?_ NB663_662.out _|refine zv ?_ NB663_682.out _));exact BK663.out) hb);have n4_:=zm (zF (g:=gb682) (o:=.cells #[.int .u64 t676, .int .u32 t677, .slice Ao35 t678.length co35] 26 (0,0)) (by (with_reducible repeat (first|refine zh ?_ _|refine zj ?_|refine zi ?_ _|refine zv ?_ NB682_662.out _));refine zw (cs := #[.int .u64 t676, .int .u32 t677, .slice none 0 0]) ?_ 2 _ rfl;(with_reducible repeat (first|refine zh ?_ _|refine zj ?_|refine zi ?_ _));refine zw (cs := #[.int .u64 t676, .int .u32 0, .slice none 0 0]) ?_ 1 _ rfl;(with_reducible repeat (first|refine zh ?_ _|refine zj ?_|refine zi ?_ _));refine zw (cs := #[.int .u64 0, .int .u32 0, .slice none 0 0]) ?_ 0 _ rfl;(with_reducible repeat (first|refine zh ?_ _|refine zj ?_|refine zi ?_ _));exact BK682.out) hb);have n5_:=zm (zJ (by repeat (first|(with_reducible first|exact HB.out|apply ze|apply zd|apply zf|refine zk ?_ GE662.out|refine zk ?_ GE663.out|refine zk ?_ GE682.out)|exact HB.out)) hb);clear HO680;clear BK662;clear BK663;clear BK682;clear HB;have HO680:=n0_;have HO687:=n1_;have BK662:=n2_;have BK663:=n3_;have BK682:=n4_;have HB:=n5_;clear n0_ n1_ n2_ n3_ n4_ n5_;(try clear hb);(try clear hb2);(try clear hk);(try clear hi);(try clear ho0);have hcz38_0 : w37.cell? ⟨gb663,0,none⟩=some (.int .u64 0):=(zs BK663.out 0).trans rfl;have hcz38_1 : w37.cell? ⟨gb663,1,none⟩=some (.int .u32 0):=(zs BK663.out 1).trans rfl;have hcz38_2 : w37.cell? ⟨gb663,2,none⟩=some (.slice none 0 0):=(zs BK663.out 2).trans rfl;have hfz38_0:=zx BK663.out 0;have hfz38_1:=zx BK663.out 1;have hfz38_2:=zx BK663.out 2;obtain ⟨Ao39,co39,eo39⟩:=Kd.R_slice HO687.out;subst eo39))
      refine bodyPost_ret (results_ct rfl _ _ gb663 26 #[.int .u64 t683, .int .u32 t684, .slice Ao39 t685.length co39] (0,0) _ rfl (by (with_reducible repeat (first|refine zh ?_ _|refine zj ?_|refine zi ?_ _));refine zw (cs := #[.int .u64 t683, .int .u32 t684, .slice none 0 0]) ?_ 2 _ rfl;(with_reducible repeat (first|refine zh ?_ _|refine zj ?_|refine zi ?_ _));refine zw (cs := #[.int .u64 t683, .int .u32 0, .slice none 0 0]) ?_ 1 _ rfl;(with_reducible repeat (first|refine zh ?_ _|refine zj ?_|refine zi ?_ _));refine zw (cs := #[.int .u64 0, .int .u32 0, .slice none 0 0]) ?_ 0 _ rfl;(with_reducible repeat (first|refine zh ?_ _|refine zj ?_|refine zi ?_ _));exact BK663.out) Try.underlying26 rfl (by kernel_rfl)) rfl ?_
      exact ⟨_,by first|rfl|(simp [errW_none,errW_some] <;> rfl)|(simp [*,errW_none,errW_some] <;> rfl),by (with_reducible repeat (first|apply zo|apply zp|apply zq));exact zG (zH (p:=⟨gb663,2,none⟩) (zH (p:=⟨gb663,1,none⟩) (zH (p:=⟨gb663,0,none⟩) (Kd.R_types HO687.out BK663.out (by decide)) (fun _ hk=>hk.2) (.int .u64 t683)) (fun _ hk=>hk.2) (.int .u32 t684)) (fun _ hk=>hk.2) (.slice Ao39 t685.length co39)) (fun _ hk=>trivial),by repeat (first|(with_reducible first|exact HB.out|apply ze|apply zd|apply zf|refine zk ?_ GE662.out|refine zk ?_ GE663.out|refine zk ?_ GE682.out)|exact HB.out)⟩
     ·
      rw [if_neg c26] at H
      have c26b0 : (t681 == 0)=false:=beq_eq_false_iff_ne.mpr c26
      have c26b1 : (t681 != 0)=true:=bne_iff_ne.mpr c26
      simp only [Option.some.injEq,Prod.mk.injEq] at H
      obtain ⟨rfl,rfl,rfl,rfl⟩:=H
      have hnb40:=NB662_663.out;have hnc40:=NB663_662.out
      have hcz41_0 : wc.cell? ⟨gb662,0,none⟩=some (.int .u64 a0_0):=(zs BK662.out 0).trans rfl
      have hcz41_1 : wc.cell? ⟨gb662,1,none⟩=some (.int .u32 a0_1):=(zs BK662.out 1).trans rfl
      have hcz41_2 : wc.cell? ⟨gb662,2,none⟩=some (.slice A0_2 l0_2.length c0_2):=(zs BK662.out 2).trans rfl
      have hfz41_0:=zx BK662.out 0
      have hfz41_1:=zx BK662.out 1
      have hfz41_2:=zx BK662.out 2
      go_wp2_with (first|((with_reducible refine gate_callee (f:=18) rfl ?_);refine goesL_ (some 35) rfl rfl Try.func18 (by kernel_rfl) rfl #[.agg #[.int .u64 a0_0, .int .u32 a0_1, .slice A0_2 l0_2.length c0_2], .int .i64 7, .int .i64 8, .int .i64 8] rfl (by (try simp only [List.map_toArray,List.map_cons,List.map_nil]);first|done|rfl|(simp only [List.length_drop,List.length_take];rfl)) ?_;(with_reducible refine (coder_Put.calls kj13 a0_0 a0_1 _ _ l0_2 7 8 8 t676 t677 t678 t681 _ ?side1 ?side2 A25.out).mono ?_);(case side1=>repeat (first|exact (Kd.C_below HR0_2.out HB.out)|(with_reducible refine Kd.C_alloc ?_ _)|(with_reducible refine Kd.C_drewN ?_ _)|(with_reducible refine Kd.C_drew ?_)));(case side2=>exact HC0_2.out);rintro e w42 ⟨v679,rfl,ho0,hb⟩;refine ⟨_,rfl, ?_⟩;have n0_:=zm (Kd.R_lower ho0 (zE (by repeat (first|(with_reducible first|exact HB.out|apply ze|apply zd|apply zf|refine zk ?_ GE662.out|refine zk ?_ GE663.out)|exact HB.out))));have n1_:=zm (zF (g:=gb662) (o:=.cells #[.int .u64 a0_0, .int .u32 a0_1, .slice A0_2 l0_2.length c0_2] 26 (0,0)) (by (with_reducible repeat (first|refine zh ?_ _|refine zj ?_|refine zi ?_ _));exact BK662.out) hb);have n2_:=zm (zF (g:=gb663) (o:=.cells #[.int .u64 0, .int .u32 0, .slice none 0 0] 26 (0,0)) (by (with_reducible repeat (first|refine zh ?_ _|refine zj ?_|refine zi ?_ _));exact BK663.out) hb);have n3_:=zm (zJ (by repeat (first|(with_reducible first|exact HB.out|apply ze|apply zd|apply zf|refine zk ?_ GE662.out|refine zk ?_ GE663.out)|exact HB.out)) hb);clear BK662;clear BK663;clear HB;have HO680:=n0_;have BK662:=n1_;have BK663:=n2_;have HB:=n3_;clear n0_ n1_ n2_ n3_;(try clear hb);(try clear hb2);(try clear hk);(try clear hi);(try clear ho0))|((with_reducible refine gate_dst (N:=11) rfl ?_);refine box_event ?hg (N:=11) ?hd (cs := #[.int .u64 0, .int .u32 0, .slice none 0 0]) (t:=26) ?hr ?_;(case hd=>rfl);(case hg=>rfl);(case hr=>first|(go_simp;done)|(go_simp;rfl));intro gb682 hg w43 hbox hb;have n0_:=zm (Kd.R_below (by (with_reducible repeat (first|apply zo|apply zp|apply zq));exact HO680.out) hb);have n1_:=zm (zF (g:=gb662) (o:=.cells #[.int .u64 a0_0, .int .u32 a0_1, .slice A0_2 l0_2.length c0_2] 26 (0,0)) (by (with_reducible repeat (first|refine zh ?_ _|refine zj ?_|refine zi ?_ _));exact BK662.out) hb);have n2_:=zm (zF (g:=gb663) (o:=.cells #[.int .u64 0, .int .u32 0, .slice none 0 0] 26 (0,0)) (by (with_reducible repeat (first|refine zh ?_ _|refine zj ?_|refine zi ?_ _));exact BK663.out) hb);have n3_:=zm (zJ (by repeat (first|(with_reducible first|exact HB.out|apply ze|apply zd|apply zf|refine zk ?_ GE662.out|refine zk ?_ GE663.out)|exact HB.out)) hb);have n4_:=zm (hbox);have n5_:=zm ((by rw [hg];exact (zE (by repeat (first|(with_reducible first|exact HB.out|apply ze|apply zd|apply zf|refine zk ?_ GE662.out|refine zk ?_ GE663.out)|exact HB.out))) : w.heap.size≤gb682));have n6_:=zm ((by rw [hg];exact (zE (by repeat (first|(with_reducible first|exact HB.out|apply ze|apply zd|apply zf|refine zk ?_ GE662.out|refine zk ?_ GE663.out)|exact HB.out))) : w.heap.size≤gb682));have n7_:=zm ((by rw [hg];exact zn (zD (g:=gb662) (o:=.cells #[.int .u64 a0_0, .int .u32 a0_1, .slice A0_2 l0_2.length c0_2] 26 (0,0)) (by (with_reducible repeat (first|refine zh ?_ _|refine zj ?_|refine zi ?_ _));exact BK662.out)) : gb662≠gb682));have n8_:=zm ((by rw [hg];exact zg (zD (g:=gb662) (o:=.cells #[.int .u64 a0_0, .int .u32 a0_1, .slice A0_2 l0_2.length c0_2] 26 (0,0)) (by (with_reducible repeat (first|refine zh ?_ _|refine zj ?_|refine zi ?_ _));exact BK662.out)) : gb682≠gb662));have n9_:=zm ((by rw [hg];exact zn (zD (g:=gb663) (o:=.cells #[.int .u64 0, .int .u32 0, .slice none 0 0] 26 (0,0)) (by (with_reducible repeat (first|refine zh ?_ _|refine zj ?_|refine zi ?_ _));exact BK663.out)) : gb663≠gb682));have n10_:=zm ((by rw [hg];exact zg (zD (g:=gb663) (o:=.cells #[.int .u64 0, .int .u32 0, .slice none 0 0] 26 (0,0)) (by (with_reducible repeat (first|refine zh ?_ _|refine zj ?_|refine zi ?_ _));exact BK663.out)) : gb682≠gb663));clear HO680;clear BK662;clear BK663;clear HB;have HO680:=n0_;have BK662:=n1_;have BK663:=n2_;have HB:=n3_;have BK682:=n4_;have GW682:=n5_;have GE682:=n6_;have NB662_682:=n7_;have NB682_662:=n8_;have NB663_682:=n9_;have NB682_663:=n10_;clear n0_ n1_ n2_ n3_ n4_ n5_ n6_ n7_ n8_ n9_ n10_;clear hb hbox hg;have hnb44:=NB682_662.out;have hnc44:=NB662_682.out;have hnb45:=NB682_663.out;have hnc45:=NB663_682.out;have hcz46_0 : w43.cell? ⟨gb682,0,none⟩=some (.int .u64 0):=(zs BK682.out 0).trans rfl;have hcz46_1 : w43.cell? ⟨gb682,1,none⟩=some (.int .u32 0):=(zs BK682.out 1).trans rfl;have hcz46_2 : w43.cell? ⟨gb682,2,none⟩=some (.slice none 0 0):=(zs BK682.out 2).trans rfl;have hfz46_0:=zx BK682.out 0;have hfz46_1:=zx BK682.out 1;have hfz46_2:=zx BK682.out 2;obtain ⟨Ao47,co47,eo47⟩:=Kd.R_slice HO680.out;subst eo47;have hcz48_0 : w43.cell? ⟨gb663,0,none⟩=some (.int .u64 0):=(zs BK663.out 0).trans rfl;have hcz48_1 : w43.cell? ⟨gb663,1,none⟩=some (.int .u32 0):=(zs BK663.out 1).trans rfl;have hcz48_2 : w43.cell? ⟨gb663,2,none⟩=some (.slice none 0 0):=(zs BK663.out 2).trans rfl;have hfz48_0:=zx BK663.out 0;have hfz48_1:=zx BK663.out 1;have hfz48_2:=zx BK663.out 2))
      refine bodyPost_ret (results_ct rfl _ _ gb663 26 #[.int .u64 t676, .int .u32 t677, .slice Ao47 t678.length co47] (0,0) _ rfl (by (with_reducible repeat (first|refine zh ?_ _|refine zj ?_|refine zi ?_ _));refine zw (cs := #[.int .u64 t676, .int .u32 t677, .slice none 0 0]) ?_ 2 _ rfl;(with_reducible repeat (first|refine zh ?_ _|refine zj ?_|refine zi ?_ _));refine zw (cs := #[.int .u64 t676, .int .u32 0, .slice none 0 0]) ?_ 1 _ rfl;(with_reducible repeat (first|refine zh ?_ _|refine zj ?_|refine zi ?_ _));refine zw (cs := #[.int .u64 0, .int .u32 0, .slice none 0 0]) ?_ 0 _ rfl;(with_reducible repeat (first|refine zh ?_ _|refine zj ?_|refine zi ?_ _|refine zv ?_ NB663_682.out _));exact BK663.out) Try.underlying26 rfl (by kernel_rfl)) rfl ?_
      exact ⟨_,by first|rfl|(simp [errW_none,errW_some] <;> rfl)|(simp [*,errW_none,errW_some] <;> rfl),by (with_reducible repeat (first|apply zo|apply zp|apply zq));exact zG (zH (p:=⟨gb663,2,none⟩) (zH (p:=⟨gb663,1,none⟩) (zH (p:=⟨gb663,0,none⟩) (zH (p:=⟨gb682,2,none⟩) (zH (p:=⟨gb682,1,none⟩) (zH (p:=⟨gb682,0,none⟩) (Kd.R_types (Kd.R_types HO680.out BK682.out (by decide)) BK663.out (by decide)) (fun _ hk=>hk.1.2) (.int .u64 t676)) (fun _ hk=>hk.1.2) (.int .u32 t677)) (fun _ hk=>hk.1.2) (.slice Ao47 t678.length co47)) (fun _ hk=>hk.2) (.int .u64 t676)) (fun _ hk=>hk.2) (.int .u32 t677)) (fun _ hk=>hk.2) (.slice Ao47 t678.length co47)) (fun _ hk=>trivial),by repeat (first|(with_reducible first|exact HB.out|apply ze|apply zd|apply zf|refine zk ?_ GE662.out|refine zk ?_ GE663.out|refine zk ?_ GE682.out)|exact HB.out)⟩

end Go.Proofs.Ytkaoiblgfpphoaa.Prt
