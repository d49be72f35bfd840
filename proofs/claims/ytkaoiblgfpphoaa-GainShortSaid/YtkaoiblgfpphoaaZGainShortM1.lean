-- Functions of the program and of the document as plain Lean, each with the proof that the code comes to it. Written by a program of this session (wip/tools/myprint.py, pack.py) over the kit's printer; Lean checks it.
import Derived.Test.YtkaoiblgfpphoaaZGainShortPrt0
import Derived.Test.YtkaoiblgfpphoaaZGainShortSh
namespace Go.Proofs.Ytkaoiblgfpphoaa.Prt
open Go.RowKit Go.Proofs.YtkaoiblgfpphoaaW.PrintWords Go.Proofs.YtkaoiblgfpphoaaW.PrintLast Go.Proofs.YtkaoiblgfpphoaaW.PrintMore
attribute [local go_sem] max2_int min2_int max_two min_two max_three min_three max_four min_four   -- for this text's walks alone
set_option linter.unusedVariables false
set_option linter.unusedSimpArgs false


def coder_New.f  : Option (Int × Int × List Int):=some (0,4294967295,([] : List Int))
set_option maxHeartbeats 8000000 in
set_option maxRecDepth 100000 in
theorem coder_New.calls  (r1 : Int) (r2 : Int) (r3 : List Int) (w : World) (h : coder_New.f  = some (r1,r2,r3)) :
  Calls Try.prog 29 #[] w fun e w' => ∃ v2_ : Value,e=.returned (.agg #[.int .u64 r1, .int .u32 r2,v2_])∧Kd.R (Kd.int .u8) 5 w' w.heap.size (fun _=>True) v2_ r3∧Below w.heap.size w w' := by
 have hu26:=Try.underlying26;have HB:=zm (Below.refl w.heap.size w)
 have H : (some (0,4294967295,([] : List Int)))=some (r1,r2,r3):=h
 clear h
 simp only [Option.some.injEq,Prod.mk.injEq] at H
 obtain ⟨rfl,rfl,rfl⟩:=H
 go_enter Try.func29,Try.ntmps29
 go_wp2_with (first|((with_reducible refine gate_dst (N:=0) rfl ?_);refine ybx 0 #[.int .u64 0, .int .u32 0, .slice none 0 0] 26 ?_;intro gb137 hg w1 hbox hb;have BK137:=zm (hbox);have GW137:=ygw hg;have GE137:=ygw hg;replace HB:=ybs hb;clear hb hbox hg;obtain ⟨_,_,_,_,_,_⟩:=yc3 BK137))
 refine bodyPost_ret (results_cell_row rfl _ _ gb137 26 #[.int .u64 0, .int .u32 4294967295, .slice none 0 0] (0,0) _ rfl (ykp BK137) Try.underlying26 rfl (by kernel_rfl)) rfl ?_
 exact ⟨_,ye,yn,yhb⟩
def gain_Most.f (a0 : Bool) : Option (Int):=if a0=true then (some 30) else (some 45)
set_option maxHeartbeats 8000000 in
set_option maxRecDepth 100000 in
theorem gain_Most.calls (a0 : Bool) (r : Int) (w : World) (h : gain_Most.f a0=some r) :
  Calls Try.prog 50 #[.bool a0] w fun e w' => e=.returned (.int .i64 r)∧Drawn0 w w' := by
 have H : (if a0=true then (some 30) else (some 45))=some r:=h
 clear h
 by_cases c2 : a0=true
 ·
  subst c2
  rw [if_pos rfl] at H
  obtain rfl:=Option.some.inj H
  go_enter Try.func50,Try.ntmps50
  go_wp2
  go_ret
  exact ⟨yq,yd⟩
 ·
  replace c2:=Bool.eq_false_iff.mpr c2
  subst c2
  rw [ynf] at H
  obtain rfl:=Option.some.inj H
  go_enter Try.func50,Try.ntmps50
  go_wp2
  go_ret
  exact ⟨yq,yd⟩
def coder_carry.l0 : Nat→List Int→Int→Option (List Int)
 | 0,_,_=>none
 | k+1,x0,x2=>if x2 ≥ 0 then (if 0≤x2 then (if x2 < (x0.length : Int) then ((some (x0.set (x2 : Int).toNat (((rd x0 x2)+1) % 256) : List Int)).bind fun y172=>(if (rd y172 x2)=0 then (coder_carry.l0 k y172 (wrap64 (x2 - 1))) else (some y172))) else (none)) else (none)) else (some x0)
def coder_carry.f (k : Nat) (l0 : List Int) : Option (List Int):=coder_carry.l0 k l0 (wrap64 ((l0.length : Int) - 1))
theorem coder_carry.mono_l : ∀ k,(∀ y0 y1,LeO (coder_carry.l0 k y0 y1) (coder_carry.l0 (k+1) y0 y1))
 | 0=>fun _ _ r h=>by simp [coder_carry.l0] at h
 | k+1=>by
  have ih0:=coder_carry.mono_l k
  ·
   intro y0 y1
   unfold coder_carry.l0
   repeat' with_reducible first|apply ih0|apply yLr|apply yLn|apply yLi|apply yLb|intro _
theorem coder_carry.mono : ∀ a0 k,LeO (coder_carry.f k a0) (coder_carry.f (k+1) a0):=by
 intro a0 k
 have ih0:=coder_carry.mono_l k
 unfold coder_carry.f
 repeat' with_reducible first|apply ih0|apply yLr|apply yLn|apply yLi|apply yLb|intro _
set_option maxHeartbeats 8000000 in
set_option maxRecDepth 100000 in
theorem coder_carry.calls (k : Nat) (P0_ : Nat→Prop) (u9000_ : Value) (l0 : List Int) (r : List Int) (w0 w : World) (hB : Below w0.heap.size w0 w) (ho0 : Kd.R (Kd.int .u8) 5 w w0.heap.size P0_ u9000_ l0) (h : coder_carry.f k l0=some r) :
  Calls Try.prog 54 #[u9000_] w fun e w' => e=.returned (.tuple #[])∧Kd.R (Kd.int .u8) 5 w' w0.heap.size (fun k_=>(P0_ k_∨w.heap.size≤k_)) u9000_ r∧Below w0.heap.size w0 w'∧Kept w w' (fun k_=>P0_ k_):=by
 have HO0:=zm (show Kd.R (Kd.int .u8) 5 w w0.heap.size (fun k_=>(P0_ k_∨w.heap.size≤k_)) u9000_ l0 from zG ho0 (fun k_ hk=>(.inl hk)))
 have HK:=zm (Kept.refl w (fun k_=>P0_ k_))
 have HW0:=zm hB.size;have HB:=zm hB;clear hB
 have H : (coder_carry.l0 k l0 (wrap64 ((l0.length : Int) - 1)))=some r:=h
 clear h
 have H' := zm H
 clear H
 obtain ⟨Ao2,co2,eo2⟩:=Kd.R_slice HO0.out
 subst eo2
 go_enter Try.func54,Try.ntmps54
 go_wp2
 go_step3
 go_wp2
 go_step3
 go_wp2
 go_loopg [2] k (fun kq v2 w' => ∃ (x0_1 : List Int) (x2_1 : Int),v2=.int .i64 x2_1∧Aside0 (coder_carry.l0 kq x0_1 x2_1=some r)∧Aside0 (kq≤k)∧Aside0 (Kd.R (Kd.int .u8) 5 w' w0.heap.size (fun k_=>(P0_ k_∨w.heap.size≤k_)) (.slice Ao2 l0.length co2) x0_1)∧Aside0 (Kept w w' (fun k_=>P0_ k_))∧Aside0 (Below w0.heap.size w0 w'))
 case atStart=>exact ⟨(l0),(wrap64 ((l0.length : Int) - 1)),yq,H',⟨Nat.le_refl _⟩,⟨yr HO0⟩,⟨by repeat (first|(with_reducible first|exact HK.out|apply Kept.alloc|apply Kept.drewN|apply Kept.drew)|exact HK.out)⟩,⟨yhb⟩⟩
 case round =>
  clear H'
  obtain ⟨x0_1,x2_1,rfl,HA,HK1,HO_0,HK,HB⟩:=hrel
  have hl0_1:=(Kd.R_reads' HO_0.out).1
  rw [hl0_1] at HO_0
  (try simp only [hl0_1])
  obtain ⟨k1,rfl⟩:=ysu gk (fun h=>by subst h;exact absurd HA.out (by simp [coder_carry.l0]))
  have H:=HA.out;clear HA
  simp only [coder_carry.l0] at H
  by_cases c3 : x2_1 ≥ 0
  ·
   rw [if_pos c3] at H
   have c3b0 : decide (0≤x2_1)=true:=decide_eq_true c3
   clear c3
   replace H:=yif H;obtain ⟨c4,H⟩:=H
   have c4b0 : decide (0≤x2_1)=true:=decide_eq_true c4
   clear c4
   replace H:=yif H;obtain ⟨c5,H⟩:=H
   have c5b0 : decide (x2_1 < (x0_1.length : Int))=true:=decide_eq_true c5
   clear c5
   obtain ⟨y172,hy172⟩ : ∃ y_ : List Int,y_=(x0_1.set (x2_1 : Int).toNat (((rd x0_1 x2_1)+1) % 256)):=⟨_,rfl⟩
   replace H : (if (rd y172 x2_1)=0 then (coder_carry.l0 k1 y172 (wrap64 (x2_1 - 1))) else (some y172))=some r:=yrw hy172 H
   have Ny172:=zm hy172;clear hy172
   by_cases c7 : (rd y172 x2_1)=0
   ·
    rw [if_pos c7] at H
    have c7b0 : ((rd y172 x2_1) == 0)=true:=beq_iff_eq.mpr c7
    have c7b1 : ((rd y172 x2_1) != 0)=false:=bne_eq_false_iff_eq.mpr c7
    clear c7
    have H' := zm H
    clear H
    have p171 : 0≤(x2_1 : Int):=yt
    have q171 : x2_1 < (x0_1.length : Int):=yt
    obtain ⟨ad171,e171,hx171_0⟩:=Kd.at_int (Kd.R_reads' HO_0.out).2.2 x2_1 p171 q171
    cases e171
    replace p171:=eq_true p171
    replace q171:=eq_true q171
    have p6 : 0≤(x2_1 : Int):=yt
    have q6 : (x2_1 : Int) < ((x0_1.length : Int) : Int):=yt
    obtain ⟨go6,co6,eo6,gb6,gl6,cl6,HG6⟩:=Kd.R_form HO_0.out (by omega)
    (first|cases eo6|(injection eo6 with ea_ en_ ec_;(first|subst ea_|(injection ea_ with ea_;subst ea_));subst ec_;clear en_))
    have GB6:=zm gb6;have GG6:=zm HG6;clear gb6 gl6 HG6
    have HMgo6:=zm (show (P0_ go6∨w.heap.size≤go6) from (HO_0.out.1 _ rfl))
    (first|simp only [add_plain] at hx171_0|skip)
    obtain ⟨hx6_0,hf6_0⟩:=Kd.R_celln 0 HO_0.out (x2_1 : Int) p6 q6
    replace p6:=eq_true p6
    replace q6:=eq_true q6
    have HP8:=Kd.R_putg HO_0.out (x2_1 : Int) (((rd x0_1 x2_1)+1) % 256)
    go_wp2_with (first|((with_reducible refine gate_store (t:=5) (p:=15) rfl ?_);refine store_event (t:=5) (p:=15) (v := ?vo_w9) (w1:=(wr.setCell ⟨go6,(x2_1 : Int).toNat,none⟩ (.int .u8 (((rd x0_1 x2_1)+1) % 256)))) ?hg ?ho ?hn ?hr ?_;(case ho=>rfl);(case hg=>rfl);(case hn=>rfl);(case hr=>first|(go_simp;done)|(go_simp;rfl));intro w9 hw;have hg : wr.grownBy w9 (some go6):=(by rw [hw];exact HP8.2);have hp_ : Kd.R (Kd.int .u8) 5 w9 w0.heap.size (fun k_=>(P0_ k_∨w.heap.size≤k_)) (.slice (some ⟨go6,0,none⟩) x0_1.length co2) y172:=(by rw [hw,Ny172.out];exact HP8.1);clear HP8;replace HB:=zm ((by rw [hw];exact zk (HB.out) GB6.out : Below w0.heap.size w0 w9));replace HK:=zm (Kept.of_grown (S:=(fun k_=>P0_ k_)) hg (by repeat (first|(with_reducible first|exact HK.out|apply Kept.alloc|apply Kept.drewN|apply Kept.drew)|exact HK.out)) (fun k_ e_=>(HO_0.out.1 k_ e_)));replace HO_0:=zm (hp_);clear hg hw hp_;have p173 : 0≤(x2_1 : Int):=yt;have q173 : x2_1 < (y172.length : Int):=(by have h_ : (x2_1 : Int) < ((x0_1.length : Int) : Int):=yt;first|(have e_:=(Kd.R_reads' HO_0.out).1;omega)|simpa only [Ny172.out,List.length_set] using h_);have ql173 : ((x2_1 : Int) < ((x0_1.length : Int) : Int))=True:=eq_true (yt);obtain ⟨ad173,e173,hx173_0⟩:=Kd.at_int (Kd.R_reads' HO_0.out).2.2 x2_1 p173 q173;obtain rfl : (⟨go6,0,none⟩ : Addr)=ad173:=(by injection e173);(first|simp only [add_plain] at hx173_0|simp only [add_at] at hx173_0|simp only [Addr.add,Nat.zero_add] at hx173_0|skip);replace p173:=eq_true p173;replace q173:=eq_true q173))
    (try simp only [← hl0_1])
    go_roundg k1
    case measure=>exact yom1 HK1
    case rel=>exact ⟨(y172),(wrap64 (x2_1 - 1)),yq,H',⟨yom1 HK1⟩,⟨by (try simp only [hl0_1]);(with_reducible repeat (first|apply zo|apply zp|apply zq));exact HO_0.out⟩,⟨by repeat (first|(with_reducible first|exact HK.out|apply Kept.alloc|apply Kept.drewN|apply Kept.drew)|exact HK.out)⟩,⟨yhb⟩⟩
   ·
    rw [if_neg c7] at H
    have c7b0 : ((rd y172 x2_1) == 0)=false:=beq_eq_false_iff_ne.mpr c7
    have c7b1 : ((rd y172 x2_1) != 0)=true:=bne_iff_ne.mpr c7
    obtain rfl:=Option.some.inj H
    have p171 : 0≤(x2_1 : Int):=yt
    have q171 : x2_1 < (x0_1.length : Int):=yt
    obtain ⟨ad171,e171,hx171_0⟩:=Kd.at_int (Kd.R_reads' HO_0.out).2.2 x2_1 p171 q171
    cases e171
    replace p171:=eq_true p171
    replace q171:=eq_true q171
    have p6 : 0≤(x2_1 : Int):=yt
    have q6 : (x2_1 : Int) < ((x0_1.length : Int) : Int):=yt
    obtain ⟨go6,co6,eo6,gb6,gl6,cl6,HG6⟩:=Kd.R_form HO_0.out (by omega)
    (first|cases eo6|(injection eo6 with ea_ en_ ec_;(first|subst ea_|(injection ea_ with ea_;subst ea_));subst ec_;clear en_))
    have GB6:=zm gb6;have GG6:=zm HG6;clear gb6 gl6 HG6
    have HMgo6:=zm (show (P0_ go6∨w.heap.size≤go6) from (HO_0.out.1 _ rfl))
    (first|simp only [add_plain] at hx171_0|skip)
    obtain ⟨hx6_0,hf6_0⟩:=Kd.R_celln 0 HO_0.out (x2_1 : Int) p6 q6
    replace p6:=eq_true p6
    replace q6:=eq_true q6
    have HP10:=Kd.R_putg HO_0.out (x2_1 : Int) (((rd x0_1 x2_1)+1) % 256)
    go_wp2_with (first|((with_reducible refine gate_store (t:=5) (p:=15) rfl ?_);refine store_event (t:=5) (p:=15) (v := ?vo_w11) (w1:=(wr.setCell ⟨go6,(x2_1 : Int).toNat,none⟩ (.int .u8 (((rd x0_1 x2_1)+1) % 256)))) ?hg ?ho ?hn ?hr ?_;(case ho=>rfl);(case hg=>rfl);(case hn=>rfl);(case hr=>first|(go_simp;done)|(go_simp;rfl));intro w11 hw;have hg : wr.grownBy w11 (some go6):=(by rw [hw];exact HP10.2);have hp_ : Kd.R (Kd.int .u8) 5 w11 w0.heap.size (fun k_=>(P0_ k_∨w.heap.size≤k_)) (.slice (some ⟨go6,0,none⟩) x0_1.length co2) y172:=(by rw [hw,Ny172.out];exact HP10.1);clear HP10;replace HB:=zm ((by rw [hw];exact zk (HB.out) GB6.out : Below w0.heap.size w0 w11));replace HK:=zm (Kept.of_grown (S:=(fun k_=>P0_ k_)) hg (by repeat (first|(with_reducible first|exact HK.out|apply Kept.alloc|apply Kept.drewN|apply Kept.drew)|exact HK.out)) (fun k_ e_=>(HO_0.out.1 k_ e_)));replace HO_0:=zm (hp_);clear hg hw hp_;have p173 : 0≤(x2_1 : Int):=yt;have q173 : x2_1 < (y172.length : Int):=(by have h_ : (x2_1 : Int) < ((x0_1.length : Int) : Int):=yt;first|(have e_:=(Kd.R_reads' HO_0.out).1;omega)|simpa only [Ny172.out,List.length_set] using h_);have ql173 : ((x2_1 : Int) < ((x0_1.length : Int) : Int))=True:=eq_true (yt);obtain ⟨ad173,e173,hx173_0⟩:=Kd.at_int (Kd.R_reads' HO_0.out).2.2 x2_1 p173 q173;obtain rfl : (⟨go6,0,none⟩ : Addr)=ad173:=(by injection e173);(first|simp only [add_plain] at hx173_0|simp only [add_at] at hx173_0|simp only [Addr.add,Nat.zero_add] at hx173_0|skip);replace p173:=eq_true p173;replace q173:=eq_true q173))
    first|go_end0|((try simp only [Exit.inBlock,Exit.then]);refine bodyPost_ret (results_none rfl _ _ _) rfl ?_)
    exact ⟨ye,(by first|exact (yr HO_0)|(simp only [hl0_1];exact (yr HO_0))),yhb,by repeat (first|(with_reducible first|exact HK.out|apply Kept.alloc|apply Kept.drewN|apply Kept.drew)|exact HK.out)⟩
  ·
   rw [if_neg c3] at H
   have c3b0 : decide (0≤x2_1)=false:=decide_eq_false c3
   clear c3
   obtain rfl:=Option.some.inj H
   go_wp2
   first|go_end0|((try simp only [Exit.inBlock,Exit.then]);refine bodyPost_ret (results_none rfl _ _ _) rfl ?_)
   exact ⟨ye,(by first|exact (yr HO_0)|(simp only [hl0_1];exact (yr HO_0))),yhb,by repeat (first|(with_reducible first|exact HK.out|apply Kept.alloc|apply Kept.drewN|apply Kept.drew)|exact HK.out)⟩
def coder_fair.f (a0 : Int) (a1 : Int) (a2 : Int) : Option (Bool):=if a0 ≥ 0 then (if a0 < a1 then (if a1≤a2 then (some (decide (a2≤65536))) else (some false)) else (some false)) else (some false)
set_option maxHeartbeats 8000000 in
set_option maxRecDepth 100000 in
theorem coder_fair.calls (a0 : Int) (a1 : Int) (a2 : Int) (r : Bool) (w : World) (h : coder_fair.f a0 a1 a2=some r) :
  Calls Try.prog 52 #[.int .i64 a0, .int .i64 a1, .int .i64 a2] w fun e w' => e=.returned (.bool r)∧Drawn0 w w' := by
 have H : (if a0 ≥ 0 then (if a0 < a1 then (if a1≤a2 then (some (decide (a2≤65536))) else (some false)) else (some false)) else (some false))=some r:=h
 clear h
 by_cases c4 : a0 ≥ 0
 ·
  rw [if_pos c4] at H
  have c4b0 : decide (0≤a0)=true:=decide_eq_true c4
  clear c4
  by_cases c5 : a0 < a1
  ·
   rw [if_pos c5] at H
   have c5b0 : decide (a0 < a1)=true:=decide_eq_true c5
   clear c5
   by_cases c6 : a1≤a2
   ·
    rw [if_pos c6] at H
    have c6b0 : decide (a1≤a2)=true:=decide_eq_true c6
    clear c6
    obtain rfl:=Option.some.inj H
    go_enter Try.func52,Try.ntmps52
    go_wp2
    go_ret
    exact ⟨yq,yd⟩
   ·
    rw [if_neg c6] at H
    have c6b0 : decide (a1≤a2)=false:=decide_eq_false c6
    clear c6
    obtain rfl:=Option.some.inj H
    go_enter Try.func52,Try.ntmps52
    go_wp2
    go_ret
    exact ⟨yq,yd⟩
  ·
   rw [if_neg c5] at H
   have c5b0 : decide (a0 < a1)=false:=decide_eq_false c5
   clear c5
   obtain rfl:=Option.some.inj H
   go_enter Try.func52,Try.ntmps52
   go_wp2
   go_ret
   exact ⟨yq,yd⟩
 ·
  rw [if_neg c4] at H
  have c4b0 : decide (0≤a0)=false:=decide_eq_false c4
  clear c4
  obtain rfl:=Option.some.inj H
  go_enter Try.func52,Try.ntmps52
  go_wp2
  go_ret
  exact ⟨yq,yd⟩
def coder_RightEnc.f (a0_0 : Int) (a0_1 : Int) (l0_2 : List Int) : Option (Bool):=if a0_0≤4294967295 then (if a0_1 ≥ 16777216 then (some (decide ((l0_2.length : Int)≤4000))) else (some false)) else (some false)
set_option maxHeartbeats 8000000 in
set_option maxRecDepth 100000 in
theorem coder_RightEnc.calls (a0_0 : Int) (a0_1 : Int) (A0_2 : Option Addr) (c0_2 : Nat) (l0_2 : List Int) (r : Bool) (w : World) (hr0_2 : Kd.C (Kd.int .u8) w A0_2 l0_2.length l0_2) (hc0_2 : l0_2.length≤c0_2) (h : coder_RightEnc.f a0_0 a0_1 l0_2=some r) :
  Calls Try.prog 21 #[.agg #[.int .u64 a0_0, .int .u32 a0_1, .slice A0_2 l0_2.length c0_2]] w fun e w' => e=.returned (.bool r)∧Below w.heap.size w w' := by
 have hu26:=Try.underlying26;have HR0_2:=zm hr0_2;have HC0_2:=zm hc0_2;clear hr0_2 hc0_2;have HB:=zm (Below.refl w.heap.size w)
 have H : (if a0_0≤4294967295 then (if a0_1 ≥ 16777216 then (some (decide ((l0_2.length : Int)≤4000))) else (some false)) else (some false))=some r:=h
 clear h
 by_cases c2 : a0_0≤4294967295
 ·
  rw [if_pos c2] at H
  have c2b0 : decide (a0_0≤4294967295)=true:=decide_eq_true c2
  clear c2
  by_cases c3 : a0_1 ≥ 16777216
  ·
   rw [if_pos c3] at H
   have c3b0 : decide (16777216≤a0_1)=true:=decide_eq_true c3
   clear c3
   obtain rfl:=Option.some.inj H
   go_enter Try.func21,Try.ntmps21
   go_wp2_with (first|((with_reducible refine gate_dst (N:=1) rfl ?_);(try (refine gate_guard (by rfl) ?_;dsimp only));refine ybx 1 #[.int .u64 a0_0, .int .u32 a0_1, .slice A0_2 l0_2.length c0_2] 26 ?_;intro gb136 hg w4 hbox hb;have BK136:=zm (hbox);have GW136:=ygw hg;have GE136:=ygw hg;replace HB:=ybs hb;clear hb hbox hg;obtain ⟨_,_,_,_,_,_⟩:=yc3 BK136))
   go_ret
   exact ⟨ye,yhb⟩
  ·
   rw [if_neg c3] at H
   have c3b0 : decide (16777216≤a0_1)=false:=decide_eq_false c3
   clear c3
   obtain rfl:=Option.some.inj H
   go_enter Try.func21,Try.ntmps21
   go_wp2_with (first|((with_reducible refine gate_dst (N:=1) rfl ?_);(try (refine gate_guard (by rfl) ?_;dsimp only));refine ybx 1 #[.int .u64 a0_0, .int .u32 a0_1, .slice A0_2 l0_2.length c0_2] 26 ?_;intro gb136 hg w6 hbox hb;have BK136:=zm (hbox);have GW136:=ygw hg;have GE136:=ygw hg;replace HB:=ybs hb;clear hb hbox hg;obtain ⟨_,_,_,_,_,_⟩:=yc3 BK136))
   go_ret
   exact ⟨ye,yhb⟩
 ·
  rw [if_neg c2] at H
  have c2b0 : decide (a0_0≤4294967295)=false:=decide_eq_false c2
  clear c2
  obtain rfl:=Option.some.inj H
  go_enter Try.func21,Try.ntmps21
  go_wp2_with (first|((with_reducible refine gate_dst (N:=1) rfl ?_);(try (refine gate_guard (by rfl) ?_;dsimp only));refine ybx 1 #[.int .u64 a0_0, .int .u32 a0_1, .slice A0_2 l0_2.length c0_2] 26 ?_;intro gb136 hg w8 hbox hb;have BK136:=zm (hbox);have GW136:=ygw hg;have GE136:=ygw hg;replace HB:=ybs hb;clear hb hbox hg;obtain ⟨_,_,_,_,_,_⟩:=yc3 BK136))
  go_ret
  exact ⟨ye,yhb⟩
def coder_own.f (a0_0 : Int) (a0_1 : Int) (l0_2 : List Int) : Option (Int × Int × List Int):=(coder_RightEnc.f a0_0 a0_1 l0_2).bind fun t140=>(if t140=true then ((some (([] : List Int) : List Int)).bind fun y141=>(if y141.length+l0_2.length < 140737488355328 then (some (a0_0,a0_1,(y141 ++ l0_2))) else (none))) else ((coder_New.f).bind fun bt147=>(some (bt147.1,bt147.2.1,bt147.2.2))))
set_option maxHeartbeats 8000000 in
set_option maxRecDepth 100000 in
theorem coder_own.calls (a0_0 : Int) (a0_1 : Int) (A0_2 : Option Addr) (c0_2 : Nat) (l0_2 : List Int) (r1 : Int) (r2 : Int) (r3 : List Int) (w : World) (hr0_2 : Kd.C (Kd.int .u8) w A0_2 l0_2.length l0_2) (hc0_2 : l0_2.length≤c0_2) (h : coder_own.f a0_0 a0_1 l0_2=some (r1,r2,r3)) :
  Calls Try.prog 51 #[.agg #[.int .u64 a0_0, .int .u32 a0_1, .slice A0_2 l0_2.length c0_2]] w fun e w' => ∃ v2_ : Value,e=.returned (.agg #[.int .u64 r1, .int .u32 r2,v2_])∧Kd.R (Kd.int .u8) 5 w' w.heap.size (fun _=>True) v2_ r3∧Below w.heap.size w w' := by
 have hu26:=Try.underlying26;have HR0_2:=zm hr0_2;have HC0_2:=zm hc0_2;clear hr0_2 hc0_2;have HB:=zm (Below.refl w.heap.size w)
 have H : ((coder_RightEnc.f a0_0 a0_1 l0_2).bind fun t140=>(if t140=true then ((some (([] : List Int) : List Int)).bind fun y141=>(if y141.length+l0_2.length < 140737488355328 then (some (a0_0,a0_1,(y141 ++ l0_2))) else (none))) else ((coder_New.f).bind fun bt147=>(some (bt147.1,bt147.2.1,bt147.2.2)))))=some (r1,r2,r3):=h
 clear h
 replace H:=ybi H;obtain ⟨t140,A2,H⟩:=H
 by_cases c3 : t140=true
 ·
  subst c3
  rw [if_pos rfl] at H
  obtain ⟨y141,hy141⟩ : ∃ y_ : List Int,y_=(([] : List Int)):=⟨_,rfl⟩
  replace H : (if y141.length+l0_2.length < 140737488355328 then (some (a0_0,a0_1,(y141 ++ l0_2))) else (none))=some (r1,r2,r3):=yrw hy141 H
  have Ny141:=zm hy141;clear hy141
  replace H:=yif H;obtain ⟨c4,H⟩:=H
  have LMc4:=zm c4;clear c4
  obtain ⟨y144,hy144⟩ : ∃ y_ : List Int,y_=(y141 ++ l0_2):=⟨_,rfl⟩
  replace H : (some (a0_0,a0_1,y144))=some (r1,r2,r3):=yrw hy144 H
  have Ny144:=zm hy144;clear hy144
  simp only [Option.some.injEq,Prod.mk.injEq] at H
  obtain ⟨rfl,rfl,rfl⟩:=H
  go_enter Try.func51,Try.ntmps51
  go_wp2_with (first|((with_reducible refine gate_dst (N:=1) rfl ?_);refine ybx 1 #[.int .u64 a0_0, .int .u32 a0_1, .slice A0_2 l0_2.length c0_2] 26 ?_;intro gb138 hg w5 hbox hb;have BK138:=zm (hbox);have GW138:=ygw hg;have GE138:=ygw hg;replace HB:=ybs hb;clear hb hbox hg)|((with_reducible refine gate_dst (N:=2) rfl ?_);refine ybx 2 #[.int .u64 0, .int .u32 0, .slice none 0 0] 26 ?_;intro gb139 hg w6 hbox hb;have BK139:=zm (hbox);have GW139:=ygw hg;have GE139:=ygw hg;replace HB:=ybs hb;have NB138_139:=ynl BK138 hg;have NB139_138:=yng BK138 hg;replace BK138:=ybb BK138 hb;clear hb hbox hg;have:=NB138_139.out;have:=NB139_138.out;obtain ⟨_,_,_,_,_,_⟩:=yc3 BK138)|((with_reducible refine gate_callee (f:=21) rfl ?_);refine ygl 4 Try.func21 #[.agg #[.int .u64 a0_0, .int .u32 a0_1, .slice A0_2 l0_2.length c0_2]] ?_;(with_reducible refine (coder_RightEnc.calls a0_0 a0_1 _ _ l0_2 true _ ?side1 HC0_2.out A2.out).mono ?_);(case side1=>exact ycb HR0_2);rintro e w9 ⟨rfl,hb⟩;refine ⟨_,rfl, ?_⟩;replace BK138:=ybb BK138 hb;replace BK139:=ybb BK139 hb;replace HB:=ybs hb;(try clear hb))|((with_reducible refine gate_dst (N:=7) rfl ?_);refine Kd.R_lit (Kd.int .u8) _ 5 ?hg (N:=7) ?hd (xs:=([] : List Int)) (inner := []) (ok:=fun _=>True) (okp:=fun _=>True) ?hr ?hp (fun _ hk=>hk) trivial (Below.refl _ _) (Nat.le_refl _) (by simp) ?_;(case hd=>rfl);(case hg=>rfl);(case hr=>first|(go_simp;done)|(go_simp;rfl));(case hp=>exact (Reps.none _ _));intro v142 w10 ho11 hb hg_ hnew_;clear hg_ hnew_;(first|rw [← Ny141.out] at ho11|(simp only [Int.reduceToNat] at ho11;rw [← Ny141.out] at ho11));have HO143:=zm (Kd.R_lower ho11 (zE yhb));replace BK138:=ybb BK138 hb;replace BK139:=ybb BK139 hb;replace HB:=ybs hb;clear hb ho11;obtain ⟨_,_,_,_,_,_⟩:=yc3 BK138)|((with_reducible refine gate_builtin (b:=.append) (xs := #[.tmp 7, .tmp 9]) rfl ?_);at_builtin;refine Kd.R_append_rows (Kd.int .u8) (w0:=w) w.heap.size rfl (.tmp 7) (.tmp 9) 24 5 (.int .u8 0) 1 rfl Try.underlying24 info5 rfl (by decide) (by omega) v142 y141 l0_2 _ _ _ (fun _=>True) (fun _=>False) rfl rfl ?aO ?aR (fun _ _ h=>h) (fun _ h=>h.elim) ?aF ?aB ?aS ?aL ?_;(case aR=>exact ycb HR0_2);(case aB=>exact yhb);(case aF=>exact (fun _ _=>trivial));(case aO=>exact (yr HO143));(case aS=>exact (zE yhb));(case aL=>have:=LMc4.out;omega);intro v145 w13 ho hb hg hat;rw [← Ny144.out] at ho;replace BK138:=zm (blk_grown (yk BK138) hg (zu HO143.out BK138.out (by decide)));replace BK139:=zm (blk_grown (yk BK139) hg (zu HO143.out BK139.out (by decide)));replace HB:=zm (hb);have HO146:=zm (ho);clear HO143;clear ho hb hg hat;obtain ⟨Ao14,co14,eo14⟩:=Kd.R_slice HO146.out;subst eo14;obtain ⟨_,_,_,_,_,_⟩:=yc3 BK138;obtain ⟨_,_,_,_,_,_⟩:=yc3 BK139))
  refine bodyPost_ret (results_cell_row rfl _ _ gb139 26 #[.int .u64 a0_0, .int .u32 a0_1, .slice Ao14 y144.length co14] (0,0) _ rfl (ykp BK139) Try.underlying26 rfl (by kernel_rfl)) rfl ?_
  exact ⟨_,ye,yR2 HO146 BK138 BK139,yhb⟩
 ·
  replace c3:=Bool.eq_false_iff.mpr c3
  subst c3
  rw [ynf] at H
  replace H:=ybi H;obtain ⟨⟨t147,t148,t149⟩,A17,H⟩:=H
  try dsimp only at H
  simp only [Option.some.injEq,Prod.mk.injEq] at H
  obtain ⟨rfl,rfl,rfl⟩:=H
  go_enter Try.func51,Try.ntmps51
  go_wp2_with (first|((with_reducible refine gate_dst (N:=1) rfl ?_);refine ybx 1 #[.int .u64 a0_0, .int .u32 a0_1, .slice A0_2 l0_2.length c0_2] 26 ?_;intro gb138 hg w18 hbox hb;have BK138:=zm (hbox);have GW138:=ygw hg;have GE138:=ygw hg;replace HB:=ybs hb;clear hb hbox hg)|((with_reducible refine gate_dst (N:=2) rfl ?_);refine ybx 2 #[.int .u64 0, .int .u32 0, .slice none 0 0] 26 ?_;intro gb139 hg w19 hbox hb;have BK139:=zm (hbox);have GW139:=ygw hg;have GE139:=ygw hg;replace HB:=ybs hb;have NB138_139:=ynl BK138 hg;have NB139_138:=yng BK138 hg;replace BK138:=ybb BK138 hb;clear hb hbox hg;have:=NB138_139.out;have:=NB139_138.out;obtain ⟨_,_,_,_,_,_⟩:=yc3 BK138)|((with_reducible refine gate_callee (f:=21) rfl ?_);refine ygl 4 Try.func21 #[.agg #[.int .u64 a0_0, .int .u32 a0_1, .slice A0_2 l0_2.length c0_2]] ?_;(with_reducible refine (coder_RightEnc.calls a0_0 a0_1 _ _ l0_2 false _ ?side1 HC0_2.out A2.out).mono ?_);(case side1=>exact ycb HR0_2);rintro e w22 ⟨rfl,hb⟩;refine ⟨_,rfl, ?_⟩;replace BK138:=ybb BK138 hb;replace BK139:=ybb BK139 hb;replace HB:=ybs hb;(try clear hb))|((with_reducible refine gate_callee (f:=29) rfl ?_);refine ygl 6 Try.func29 #[] ?_;(with_reducible refine (coder_New.calls  t147 t148 t149 _ A17.out).mono ?_);rintro e w23 ⟨v150,rfl,ho0,hb⟩;refine ⟨_,rfl, ?_⟩;have HO151:=zm (Kd.R_lower ho0 (zE yhb));replace BK138:=ybb BK138 hb;replace BK139:=ybb BK139 hb;replace HB:=ybs hb;(try clear hb);(try clear ho0);obtain ⟨_,_,_,_,_,_⟩:=yc3 BK139;obtain ⟨Ao25,co25,eo25⟩:=Kd.R_slice HO151.out;subst eo25))
  refine bodyPost_ret (results_cell_row rfl _ _ gb139 26 #[.int .u64 t147, .int .u32 t148, .slice Ao25 t149.length co25] (0,0) _ rfl (ykp BK139) Try.underlying26 rfl (by kernel_rfl)) rfl ?_
  exact ⟨_,ye,yR1 HO151 BK139,yhb⟩
def coder_part.f (a0 : Int) (a1 : Int) (a2 : Int) (a3 : Int) : Option (Int × Int):=if ((a3) % 4294967296)=0 then (none) else (if a2=a3 then (some ((a0 - ((IntKind.u64.wrap (((Int.tdiv a0 ((a3) % 4294967296)) % 4294967296) * (IntKind.u64.wrap (a1)))) % 4294967296)) % 4294967296,IntKind.u64.wrap (((Int.tdiv a0 ((a3) % 4294967296)) % 4294967296) * (IntKind.u64.wrap (a1))))) else (some ((((Int.tdiv a0 ((a3) % 4294967296)) % 4294967296) * ((wrap64 (a2 - a1)) % 4294967296)) % 4294967296,IntKind.u64.wrap (((Int.tdiv a0 ((a3) % 4294967296)) % 4294967296) * (IntKind.u64.wrap (a1))))))
set_option maxHeartbeats 8000000 in
set_option maxRecDepth 100000 in
theorem coder_part.calls (a0 : Int) (a1 : Int) (a2 : Int) (a3 : Int) (r1 : Int) (r2 : Int) (w : World) (h : coder_part.f a0 a1 a2 a3=some (r1,r2)) :
  Calls Try.prog 53 #[.int .u32 a0, .int .i64 a1, .int .i64 a2, .int .i64 a3] w fun e w' => e=.returned (.tuple #[.int .u32 r1, .int .u64 r2])∧Drawn0 w w' := by
 have H : (if ((a3) % 4294967296)=0 then (none) else (if a2=a3 then (some ((a0 - ((IntKind.u64.wrap (((Int.tdiv a0 ((a3) % 4294967296)) % 4294967296) * (IntKind.u64.wrap (a1)))) % 4294967296)) % 4294967296,IntKind.u64.wrap (((Int.tdiv a0 ((a3) % 4294967296)) % 4294967296) * (IntKind.u64.wrap (a1))))) else (some ((((Int.tdiv a0 ((a3) % 4294967296)) % 4294967296) * ((wrap64 (a2 - a1)) % 4294967296)) % 4294967296,IntKind.u64.wrap (((Int.tdiv a0 ((a3) % 4294967296)) % 4294967296) * (IntKind.u64.wrap (a1)))))))=some (r1,r2):=h
 clear h
 replace H:=yie H;obtain ⟨c5,H⟩:=H
 have c5b0 : (((a3) % 4294967296) == 0)=false:=beq_eq_false_iff_ne.mpr c5
 have c5b1 : (((a3) % 4294967296) != 0)=true:=bne_iff_ne.mpr c5
 by_cases c6 : a2=a3
 ·
  rw [if_pos c6] at H
  have c6b0 : (a2 == a3)=true:=beq_iff_eq.mpr c6
  have c6b1 : (a2 != a3)=false:=bne_eq_false_iff_eq.mpr c6
  clear c6
  simp only [Option.some.injEq,Prod.mk.injEq] at H
  obtain ⟨rfl,rfl⟩:=H
  go_enter Try.func53,Try.ntmps53
  go_wp2
  go_ret2
  exact ⟨yq,yd⟩
 ·
  rw [if_neg c6] at H
  have c6b0 : (a2 == a3)=false:=beq_eq_false_iff_ne.mpr c6
  have c6b1 : (a2 != a3)=true:=bne_iff_ne.mpr c6
  simp only [Option.some.injEq,Prod.mk.injEq] at H
  obtain ⟨rfl,rfl⟩:=H
  go_enter Try.func53,Try.ntmps53
  go_wp2
  go_ret2
  exact ⟨yq,yd⟩
mutual
def coder_Put.j0 : Nat→Int→Int→Int→List Int→Option (Int × Int × List Int × Int)
 | 0,_,_,_,_=>none
 | k+1,x10,x175000,x175001,x175002=>coder_Put.l0 k x10 x175000 x175001 x175002
def coder_Put.l0 : Nat→Int→Int→Int→List Int→Option (Int × Int × List Int × Int)
 | 0,_,_,_,_=>none
 | k+1,x10,x175000,x175001,x175002=>if x10 < 16777216 then (if x175002.length < 140737488355328 then (coder_Put.l0 k ((x10 * 256) % 4294967296) (Go.bits .and .u64 (IntKind.u64.wrap (x175000 * 256)) 4294967295) x175001 (x175002 ++ [(x175000 / 16777216) % 256])) else (none)) else (some (x175000,x10,x175002,0))
end
def coder_Put.f (k : Nat) (a0_0 : Int) (a0_1 : Int) (l0_2 : List Int) (a1 : Int) (a2 : Int) (a3 : Int) : Option (Int × Int × List Int × Int):=(coder_own.f a0_0 a0_1 l0_2).bind fun bt176=>((coder_fair.f a1 a2 a3).bind fun t181=>(if t181=true then (if (bt176.2.2.length : Int) ≥ 3996 then (some (bt176.1,bt176.2.1,bt176.2.2,3)) else ((coder_part.f bt176.2.1 a1 a2 a3).bind fun bt182=>(if (IntKind.u64.wrap (bt176.1+bt182.2)) > 4294967295 then ((coder_carry.f k bt176.2.2).bind fun t184=>(coder_Put.j0 k bt182.1 (Go.bits .and .u64 (IntKind.u64.wrap (bt176.1+bt182.2)) 4294967295) bt176.2.1 t184)) else (coder_Put.j0 k bt182.1 (IntKind.u64.wrap (bt176.1+bt182.2)) bt176.2.1 bt176.2.2)))) else (some (bt176.1,bt176.2.1,bt176.2.2,1))))
theorem coder_Put.mono_l : ∀ k,(∀ y0 y1 y2 y3,LeO (coder_Put.j0 k y0 y1 y2 y3) (coder_Put.j0 (k+1) y0 y1 y2 y3))∧(∀ y0 y1 y2 y3,LeO (coder_Put.l0 k y0 y1 y2 y3) (coder_Put.l0 (k+1) y0 y1 y2 y3))
 | 0=>⟨fun _ _ _ _ r h=>by simp [coder_Put.j0] at h,fun _ _ _ _ r h=>by simp [coder_Put.l0] at h⟩
 | k+1=>by
  obtain ⟨ih0,ih1⟩:=coder_Put.mono_l k
  refine ⟨?_, ?_⟩
  ·
   intro y0 y1 y2 y3
   unfold coder_Put.j0
   repeat' with_reducible first|apply ih0|apply ih1|apply coder_carry.mono|apply yLr|apply yLn|apply yLi|apply yLb|intro _
  ·
   intro y0 y1 y2 y3
   unfold coder_Put.l0
   repeat' with_reducible first|apply ih0|apply ih1|apply coder_carry.mono|apply yLr|apply yLn|apply yLi|apply yLb|intro _
theorem coder_Put.mono : ∀ a0 a1 a2 a3 a4 a5 k,LeO (coder_Put.f k a0 a1 a2 a3 a4 a5) (coder_Put.f (k+1) a0 a1 a2 a3 a4 a5):=by
 intro a0 a1 a2 a3 a4 a5 k
 obtain ⟨ih0,ih1⟩:=coder_Put.mono_l k
 unfold coder_Put.f
 repeat' with_reducible first|apply ih0|apply ih1|apply coder_carry.mono|apply yLr|apply yLn|apply yLi|apply yLb|intro _
set_option maxHeartbeats 8000000 in
set_option maxRecDepth 100000 in
theorem coder_Put.calls (k : Nat) (a0_0 : Int) (a0_1 : Int) (A0_2 : Option Addr) (c0_2 : Nat) (l0_2 : List Int) (a1 : Int) (a2 : Int) (a3 : Int) (r1 : Int) (r2 : Int) (r3 : List Int) (r4 : Int) (w : World) (hr0_2 : Kd.C (Kd.int .u8) w A0_2 l0_2.length l0_2) (hc0_2 : l0_2.length≤c0_2) (h : coder_Put.f k a0_0 a0_1 l0_2 a1 a2 a3=some (r1,r2,r3,r4)) :
  Calls Try.prog 18 #[.agg #[.int .u64 a0_0, .int .u32 a0_1, .slice A0_2 l0_2.length c0_2], .int .i64 a1, .int .i64 a2, .int .i64 a3] w fun e w' => ∃ v2_ : Value,e=.returned (.tuple #[.agg #[.int .u64 r1, .int .u32 r2,v2_], .int .i64 r4])∧Kd.R (Kd.int .u8) 5 w' w.heap.size (fun _=>True) v2_ r3∧Below w.heap.size w w' := by
 have hu26:=Try.underlying26;have HR0_2:=zm hr0_2;have HC0_2:=zm hc0_2;clear hr0_2 hc0_2;have HB:=zm (Below.refl w.heap.size w)
 have H : ((coder_own.f a0_0 a0_1 l0_2).bind fun bt176=>((coder_fair.f a1 a2 a3).bind fun t181=>(if t181=true then (if (bt176.2.2.length : Int) ≥ 3996 then (some (bt176.1,bt176.2.1,bt176.2.2,3)) else ((coder_part.f bt176.2.1 a1 a2 a3).bind fun bt182=>(if (IntKind.u64.wrap (bt176.1+bt182.2)) > 4294967295 then ((coder_carry.f k bt176.2.2).bind fun t184=>(coder_Put.j0 k bt182.1 (Go.bits .and .u64 (IntKind.u64.wrap (bt176.1+bt182.2)) 4294967295) bt176.2.1 t184)) else (coder_Put.j0 k bt182.1 (IntKind.u64.wrap (bt176.1+bt182.2)) bt176.2.1 bt176.2.2)))) else (some (bt176.1,bt176.2.1,bt176.2.2,1)))))=some (r1,r2,r3,r4):=h
 clear h
 replace H:=ybi H;obtain ⟨⟨t176,t177,t178⟩,A5,H⟩:=H
 try dsimp only at H
 replace H:=ybi H;obtain ⟨t181,A6,H⟩:=H
 by_cases c7 : t181=true
 ·
  subst c7
  rw [if_pos rfl] at H
  by_cases c8 : (t178.length : Int) ≥ 3996
  ·
   rw [if_pos c8] at H
   have c8b0 : decide (3996≤(t178.length : Int))=true:=decide_eq_true c8
   have c8b1 : decide (3996≤t178.length)=true:=decide_eq_true (by omega)
   clear c8
   simp only [Option.some.injEq,Prod.mk.injEq] at H
   obtain ⟨rfl,rfl,rfl,rfl⟩:=H
   go_enter Try.func18,Try.ntmps18
   go_wp2_with (first|((with_reducible refine gate_dst (N:=4) rfl ?_);refine ybx 4 #[.int .u64 a0_0, .int .u32 a0_1, .slice A0_2 l0_2.length c0_2] 26 ?_;intro gb174 hg w9 hbox hb;have BK174:=zm (hbox);have GW174:=ygw hg;have GE174:=ygw hg;replace HB:=ybs hb;clear hb hbox hg)|((with_reducible refine gate_dst (N:=8) rfl ?_);refine ybx 8 #[.int .u64 0, .int .u32 0, .slice none 0 0] 26 ?_;intro gb175 hg w10 hbox hb;have BK175:=zm (hbox);have GW175:=ygw hg;have GE175:=ygw hg;replace HB:=ybs hb;have NB174_175:=ynl BK174 hg;have NB175_174:=yng BK174 hg;replace BK174:=ybb BK174 hb;clear hb hbox hg;have:=NB174_175.out;have:=NB175_174.out;obtain ⟨hcz12_0,hcz12_1,hcz12_2,hfz12_0,hfz12_1,hfz12_2⟩:=yc3 BK174)|((with_reducible refine gate_callee (f:=51) rfl ?_);refine ygl 13 Try.func51 #[.agg #[.int .u64 a0_0, .int .u32 a0_1, .slice A0_2 l0_2.length c0_2]] ?_;(with_reducible refine (coder_own.calls a0_0 a0_1 _ _ l0_2 t176 t177 t178 _ ?side1 HC0_2.out A5.out).mono ?_);(case side1=>exact ycb HR0_2);rintro e w13 ⟨v179,rfl,ho0,hb⟩;refine ⟨_,rfl, ?_⟩;have HO180:=zm (Kd.R_lower ho0 (zE yhb));replace BK174:=ybb BK174 hb;replace BK175:=ybb BK175 hb;replace HB:=ybs hb;(try clear hb);(try clear ho0);obtain ⟨hcz14_0,hcz14_1,hcz14_2,hfz14_0,hfz14_1,hfz14_2⟩:=yc3 BK174;obtain ⟨Ao15,co15,eo15⟩:=Kd.R_slice HO180.out;subst eo15)|((with_reducible refine gate_store (t:=26) (p:=4) rfl ?_);refine store_event (t:=26) (p:=4) (v := ?vo_w16) (w1:=(((w13.setCell ⟨gb174,0,none⟩ (.int .u64 t176)).setCell ⟨gb174,1,none⟩ (.int .u32 t177)).setCell ⟨gb174,2,none⟩ (.slice Ao15 t178.length co15))) ?hg ?ho ?hn ?hr ?_;(case ho=>rfl);(case hg=>rfl);(case hn=>rfl);(case hr=>first|(go_simp;done)|(go_simp;rfl));intro w16 hw;replace HO180 : Aside0 (Kd.R (Kd.int .u8) 5 w16 w.heap.size (fun _=>True) (.slice Ao15 t178.length co15) t178):=⟨(by rw [hw];exact (yR1 HO180 BK174))⟩;replace BK174 : Aside0 (w16.heap[gb174]? = some (.cells #[.int .u64 t176, .int .u32 t177, .slice Ao15 t178.length co15] 26 (0,0))):=⟨(by rw [hw];exact (ykp BK174))⟩;replace BK175 : Aside0 (w16.heap[gb175]? = some (.cells #[.int .u64 0, .int .u32 0, .slice none 0 0] 26 (0,0))):=⟨(by rw [hw];exact (yk BK175))⟩;replace HB : Aside0 (Below w.heap.size w w16):=⟨(by rw [hw];exact yhb)⟩;clear hw)|((with_reducible refine gate_callee (f:=52) rfl ?_);refine ygl 17 Try.func52 #[.int .i64 a1, .int .i64 a2, .int .i64 a3] ?_;(with_reducible refine (coder_fair.calls a1 a2 a3 true _ A6.out).mono ?_);rintro e w' ⟨rfl,⟨nd,rfl⟩⟩;refine ⟨_,rfl, ?_⟩;(try (rw [drewN_self w16];generalize hq_ : World.drewN w16 _=w16;have n0_ : Aside0 (Kd.R (Kd.int .u8) 5 w16 w.heap.size (fun _=>True) (.slice Ao15 t178.length co15) t178):=⟨by rw [← hq_];exact (yr HO180)⟩;have n1_ : Aside0 (w16.heap[gb174]? = some (.cells #[.int .u64 t176, .int .u32 t177, .slice Ao15 t178.length co15] 26 (0,0))):=⟨by rw [← hq_];exact (yk BK174)⟩;have n2_ : Aside0 (w16.heap[gb175]? = some (.cells #[.int .u64 0, .int .u32 0, .slice none 0 0] 26 (0,0))):=⟨by rw [← hq_];exact (yk BK175)⟩;have n3_ : Aside0 (Below w.heap.size w w16):=⟨by rw [← hq_];exact yhb⟩;clear HO180 BK174 BK175 HB hq_;have HO180:=n0_;have BK174:=n1_;have BK175:=n2_;have HB:=n3_;clear n0_ n1_ n2_ n3_));obtain ⟨hcz17_0,hcz17_1,hcz17_2,hfz17_0,hfz17_1,hfz17_2⟩:=yc3 BK174;obtain ⟨hcz18_0,hcz18_1,hcz18_2,hfz18_0,hfz18_1,hfz18_2⟩:=yc3 BK175))
   refine bodyPost_ret (results_ct rfl _ _ gb175 26 #[.int .u64 t176, .int .u32 t177, .slice Ao15 t178.length co15] (0,0) _ rfl (ykp BK175) Try.underlying26 rfl (by kernel_rfl)) rfl ?_
   exact ⟨_,ye,yR1 HO180 BK175,yhb⟩
  ·
   rw [if_neg c8] at H
   have c8b0 : decide (3996≤(t178.length : Int))=false:=decide_eq_false c8
   have c8b1 : decide (3996≤t178.length)=false:=decide_eq_false (by omega)
   clear c8
   replace H:=ybi H;obtain ⟨⟨t182,t183⟩,A19,H⟩:=H
   try dsimp only at H
   have HC20:=zm H;clear H
   go_enter Try.func18,Try.ntmps18
   go_upto_if 41 with (first|((with_reducible refine gate_dst (N:=4) rfl ?_);refine ybx 4 #[.int .u64 a0_0, .int .u32 a0_1, .slice A0_2 l0_2.length c0_2] 26 ?_;intro gb174 hg w21 hbox hb;have BK174:=zm (hbox);have GW174:=ygw hg;have GE174:=ygw hg;replace HB:=ybs hb;clear hb hbox hg)|((with_reducible refine gate_dst (N:=8) rfl ?_);refine ybx 8 #[.int .u64 0, .int .u32 0, .slice none 0 0] 26 ?_;intro gb175 hg w22 hbox hb;have BK175:=zm (hbox);have GW175:=ygw hg;have GE175:=ygw hg;replace HB:=ybs hb;have NB174_175:=ynl BK174 hg;have NB175_174:=yng BK174 hg;replace BK174:=ybb BK174 hb;clear hb hbox hg;have:=NB174_175.out;have:=NB175_174.out;obtain ⟨hcz24_0,hcz24_1,hcz24_2,hfz24_0,hfz24_1,hfz24_2⟩:=yc3 BK174)|((with_reducible refine gate_callee (f:=51) rfl ?_);refine ygl 13 Try.func51 #[.agg #[.int .u64 a0_0, .int .u32 a0_1, .slice A0_2 l0_2.length c0_2]] ?_;(with_reducible refine (coder_own.calls a0_0 a0_1 _ _ l0_2 t176 t177 t178 _ ?side1 HC0_2.out A5.out).mono ?_);(case side1=>exact ycb HR0_2);rintro e w25 ⟨v179,rfl,ho0,hb⟩;refine ⟨_,rfl, ?_⟩;have HO180:=zm (Kd.R_lower ho0 (zE yhb));replace BK174:=ybb BK174 hb;replace BK175:=ybb BK175 hb;replace HB:=ybs hb;(try clear hb);(try clear ho0);obtain ⟨hcz26_0,hcz26_1,hcz26_2,hfz26_0,hfz26_1,hfz26_2⟩:=yc3 BK174;obtain ⟨Ao27,co27,eo27⟩:=Kd.R_slice HO180.out;subst eo27)|((with_reducible refine gate_store (t:=26) (p:=4) rfl ?_);refine store_event (t:=26) (p:=4) (v := ?vo_w28) (w1:=(((w25.setCell ⟨gb174,0,none⟩ (.int .u64 t176)).setCell ⟨gb174,1,none⟩ (.int .u32 t177)).setCell ⟨gb174,2,none⟩ (.slice Ao27 t178.length co27))) ?hg ?ho ?hn ?hr ?_;(case ho=>rfl);(case hg=>rfl);(case hn=>rfl);(case hr=>first|(go_simp;done)|(go_simp;rfl));intro w28 hw;replace HO180 : Aside0 (Kd.R (Kd.int .u8) 5 w28 w.heap.size (fun _=>True) (.slice Ao27 t178.length co27) t178):=⟨(by rw [hw];exact (yR1 HO180 BK174))⟩;replace BK174 : Aside0 (w28.heap[gb174]? = some (.cells #[.int .u64 t176, .int .u32 t177, .slice Ao27 t178.length co27] 26 (0,0))):=⟨(by rw [hw];exact (ykp BK174))⟩;replace BK175 : Aside0 (w28.heap[gb175]? = some (.cells #[.int .u64 0, .int .u32 0, .slice none 0 0] 26 (0,0))):=⟨(by rw [hw];exact (yk BK175))⟩;replace HB : Aside0 (Below w.heap.size w w28):=⟨(by rw [hw];exact yhb)⟩;clear hw)|((with_reducible refine gate_callee (f:=52) rfl ?_);refine ygl 17 Try.func52 #[.int .i64 a1, .int .i64 a2, .int .i64 a3] ?_;(with_reducible refine (coder_fair.calls a1 a2 a3 true _ A6.out).mono ?_);rintro e w' ⟨rfl,⟨nd,rfl⟩⟩;refine ⟨_,rfl, ?_⟩;(try (rw [drewN_self w28];generalize hq_ : World.drewN w28 _=w28;have n0_ : Aside0 (Kd.R (Kd.int .u8) 5 w28 w.heap.size (fun _=>True) (.slice Ao27 t178.length co27) t178):=⟨by rw [← hq_];exact (yr HO180)⟩;have n1_ : Aside0 (w28.heap[gb174]? = some (.cells #[.int .u64 t176, .int .u32 t177, .slice Ao27 t178.length co27] 26 (0,0))):=⟨by rw [← hq_];exact (yk BK174)⟩;have n2_ : Aside0 (w28.heap[gb175]? = some (.cells #[.int .u64 0, .int .u32 0, .slice none 0 0] 26 (0,0))):=⟨by rw [← hq_];exact (yk BK175)⟩;have n3_ : Aside0 (Below w.heap.size w w28):=⟨by rw [← hq_];exact yhb⟩;clear HO180 BK174 BK175 HB hq_;have HO180:=n0_;have BK174:=n1_;have BK175:=n2_;have HB:=n3_;clear n0_ n1_ n2_ n3_));obtain ⟨hcz29_0,hcz29_1,hcz29_2,hfz29_0,hfz29_1,hfz29_2⟩:=yc3 BK174)|((with_reducible refine gate_callee (f:=53) rfl ?_);refine ygl 31 Try.func53 #[.int .u32 t177, .int .i64 a1, .int .i64 a2, .int .i64 a3] ?_;(with_reducible refine (coder_part.calls t177 a1 a2 a3 t182 t183 _ A19.out).mono ?_);rintro e w' ⟨rfl,⟨nd,rfl⟩⟩;refine ⟨_,rfl, ?_⟩;(try (rw [drewN_self w28];generalize hq_ : World.drewN w28 _=w28;have n0_ : Aside0 (Kd.R (Kd.int .u8) 5 w28 w.heap.size (fun _=>True) (.slice Ao27 t178.length co27) t178):=⟨by rw [← hq_];exact (yr HO180)⟩;have n1_ : Aside0 (w28.heap[gb174]? = some (.cells #[.int .u64 t176, .int .u32 t177, .slice Ao27 t178.length co27] 26 (0,0))):=⟨by rw [← hq_];exact (yk BK174)⟩;have n2_ : Aside0 (w28.heap[gb175]? = some (.cells #[.int .u64 0, .int .u32 0, .slice none 0 0] 26 (0,0))):=⟨by rw [← hq_];exact (yk BK175)⟩;have n3_ : Aside0 (Below w.heap.size w w28):=⟨by rw [← hq_];exact yhb⟩;clear HO180 BK174 BK175 HB hq_;have HO180:=n0_;have BK174:=n1_;have BK175:=n2_;have HB:=n3_;clear n0_ n1_ n2_ n3_));obtain ⟨hcz30_0,hcz30_1,hcz30_2,hfz30_0,hfz30_1,hfz30_2⟩:=yc3 BK174))
   (try simp only [Act.put,List.setIfInBounds_toArray,List.set_cons_zero,List.set_cons_succ])
   go_cut [] (fun wc => ∃ (kq : Nat) (x175000_19 : Int) (x175002_19 : List Int) (u175002 : Value),Aside0 (coder_Put.j0 kq t182 x175000_19 t177 x175002_19=some (r1,r2,r3,r4))∧Aside0 (kq≤k)∧Aside0 (Kd.R (Kd.int .u8) 5 wc w.heap.size (fun _=>True) u175002 x175002_19)∧Aside0 (wc.heap[gb174]? = some (.cells #[.int .u64 x175000_19, .int .u32 t177,u175002] 26 (0,0)))∧Aside0 (wc.heap[gb175]? = some (.cells #[.int .u64 0, .int .u32 0,(.slice none 0 0)] 26 (0,0)))∧Aside0 (Below w.heap.size w wc))
   case first =>
    have H:=HC20.out;clear HC20
    by_cases c31 : (IntKind.u64.wrap (t176+t183)) > 4294967295
    ·
     rw [if_pos c31] at H
     have c31b0 : decide (4294967295 < (IntKind.u64.wrap (t176+t183)))=true:=decide_eq_true c31
     clear c31
     (first|rw [c31b0]|(simp only [i64_w,i32_w];rw [c31b0])|skip)
     replace H:=ybi H;obtain ⟨t184,A32,H⟩:=H
     have H' := zm H
     clear H
     have:=NB174_175.out
     have:=NB175_174.out
     obtain ⟨_,_,_,_,_,_⟩:=yc3 BK174
     go_wp2_with (first|((with_reducible refine gate_store (t:=22) (p:=45) rfl ?_);refine store_event (t:=22) (p:=45) (v := ?vo_w35) (w1:=((w28.setCell ⟨gb174,0,none⟩ (.int .u64 (IntKind.u64.wrap (t176+t183)))).setCell ⟨gb174,0,none⟩ (.int .u64 (Go.bits .and .u64 (IntKind.u64.wrap (t176+t183)) 4294967295)))) ?hg ?ho ?hn ?hr ?_;(case ho=>rfl);(case hg=>rfl);(case hn=>rfl);(case hr=>first|(go_simp;done)|(go_simp;rfl));intro w35 hw;replace HO180 : Aside0 (Kd.R (Kd.int .u8) 5 w35 w.heap.size (fun _=>True) (.slice Ao27 t178.length co27) t178):=⟨(by rw [hw];exact (yR1 HO180 BK174))⟩;replace BK174 : Aside0 (w35.heap[gb174]? = some (.cells #[.int .u64 (Go.bits .and .u64 (IntKind.u64.wrap (t176+t183)) 4294967295), .int .u32 t177, .slice Ao27 t178.length co27] 26 (0,0))):=⟨(by rw [hw];exact (ykp BK174))⟩;replace BK175 : Aside0 (w35.heap[gb175]? = some (.cells #[.int .u64 0, .int .u32 0, .slice none 0 0] 26 (0,0))):=⟨(by rw [hw];exact (yk BK175))⟩;replace HB : Aside0 (Below w.heap.size w w35):=⟨(by rw [hw];exact yhb)⟩;clear hw;obtain ⟨_,_,_,_,_,_⟩:=yc3 BK174)|((with_reducible refine gate_callee (f:=54) rfl ?_);refine ygl 48 Try.func54 #[.slice Ao27 t178.length co27] ?_;(with_reducible refine (coder_carry.calls k (fun k_=>some k_=(.slice Ao27 t178.length co27 : Value).ownBlock) (.slice Ao27 t178.length co27) t178 t184 w _ ?side1 ?side2 A32.out).mono ?_);(case side1=>exact yhb);(case side2=>exact Kd.R_tight rfl HO180.out);rintro e w37 ⟨rfl,hy0,hb,hkp⟩;refine ⟨_,rfl, ?_⟩;replace BK174:=zm (blk_kept (yk BK174) hkp (fun hs_=>(fun e_=>(zu HO180.out BK174.out (by decide)) e_) hs_));replace BK175:=zm (blk_kept (yk BK175) hkp (fun hs_=>(fun e_=>(zu HO180.out BK175.out (by decide)) e_) hs_));replace HO180:=zm (Kd.R_reok rfl hy0 (fun k_ e_=>HO180.out.1 k_ e_));replace HB:=zm (hb);(try clear hb);(try clear hkp);(try clear hy0)))
     go_meet
     case rel=>exact ⟨_,(Go.bits .and .u64 (IntKind.u64.wrap (t176+t183)) 4294967295),(t184),(.slice Ao27 t178.length co27),H',⟨yo⟩,⟨yr HO180⟩,⟨yk BK174⟩,⟨yk BK175⟩,⟨yhb⟩⟩
    ·
     rw [if_neg c31] at H
     have c31b0 : decide (4294967295 < (IntKind.u64.wrap (t176+t183)))=false:=decide_eq_false c31
     clear c31
     (first|rw [c31b0]|(simp only [i64_w,i32_w];rw [c31b0])|skip)
     have H' := zm H
     clear H
     go_wp2
     go_meet
     case rel=>exact ⟨_,(IntKind.u64.wrap (t176+t183)),(t178),(.slice Ao27 t178.length co27),H',⟨yo⟩,⟨yR1 HO180 BK174⟩,⟨ykp BK174⟩,⟨yk BK175⟩,⟨yhb⟩⟩
   case rest =>
    clear HC20
    try clear c8b0
    try clear c8b1
    try clear hcz12_0
    try clear hcz12_1
    try clear hcz12_2
    try clear hcz14_0
    try clear hcz14_1
    try clear hcz14_2
    try clear hcz17_0
    try clear hcz17_1
    try clear hcz17_2
    try clear hcz18_0
    try clear hcz18_1
    try clear hcz18_2
    try clear hcz24_0
    try clear hcz24_1
    try clear hcz24_2
    try clear hcz26_0
    try clear hcz26_1
    try clear hcz26_2
    try clear hcz29_0
    try clear hcz29_1
    try clear hcz29_2
    try clear hcz30_0
    try clear hcz30_1
    try clear hcz30_2
    try clear hfz12_0
    try clear hfz12_1
    try clear hfz12_2
    try clear hfz14_0
    try clear hfz14_1
    try clear hfz14_2
    try clear hfz17_0
    try clear hfz17_1
    try clear hfz17_2
    try clear hfz18_0
    try clear hfz18_1
    try clear hfz18_2
    try clear hfz24_0
    try clear hfz24_1
    try clear hfz24_2
    try clear hfz26_0
    try clear hfz26_1
    try clear hfz26_2
    try clear hfz29_0
    try clear hfz29_1
    try clear hfz29_2
    try clear hfz30_0
    try clear hfz30_1
    try clear hfz30_2
    obtain ⟨kq,x175000_19,x175002_19,u175002,HA,HJ19,HO_175002,BK174,BK175,HB⟩:=hcut
    obtain ⟨kj19,rfl⟩:=ysu kq (fun h=>by subst h;exact absurd HA.out (by simp [coder_Put.j0]))
    have H:=HA.out;clear HA
    simp only [coder_Put.j0] at H
    have H' := zm H
    clear H
    go_wp2
    go_loopg [10] kj19 (fun kq v10 w' => ∃ (x10_2 : Int) (x175000_2 : Int) (x175002_2 : List Int) (u175002 : Value),v10=.int .u32 x10_2∧Aside0 (coder_Put.l0 kq x10_2 x175000_2 t177 x175002_2=some (r1,r2,r3,r4))∧Aside0 (kq≤kj19)∧Aside0 (Kd.R (Kd.int .u8) 5 w' w.heap.size (fun _=>True) u175002 x175002_2)∧Aside0 (w'.heap[gb174]? = some (.cells #[.int .u64 x175000_2, .int .u32 t177,u175002] 26 (0,0)))∧Aside0 (w'.heap[gb175]? = some (.cells #[.int .u64 0, .int .u32 0,(.slice none 0 0)] 26 (0,0)))∧Aside0 (Below w.heap.size w w'))
    case atStart=>exact ⟨(t182),(x175000_19),(x175002_19),(u175002),yq,H',⟨Nat.le_refl _⟩,⟨yr HO_175002⟩,⟨yk BK174⟩,⟨yk BK175⟩,⟨yhb⟩⟩
    case round =>
     clear H'
     obtain ⟨x10_2,x175000_2,x175002_2,u175002,rfl,HA,HK2,HO_175002,BK174,BK175,HB⟩:=hrel
     obtain ⟨k2,rfl⟩:=ysu gk (fun h=>by subst h;exact absurd HA.out (by simp [coder_Put.l0]))
     have H:=HA.out;clear HA
     simp only [coder_Put.l0] at H
     by_cases c38 : x10_2 < 16777216
     ·
      rw [if_pos c38] at H
      have c38b0 : decide (x10_2 < 16777216)=true:=decide_eq_true c38
      clear c38
      replace H:=yif H;obtain ⟨c39,H⟩:=H
      have LMc39:=zm c39;clear c39
      obtain ⟨y185,hy185⟩ : ∃ y_ : List Int,y_=(x175002_2 ++ [(x175000_2 / 16777216) % 256]):=⟨_,rfl⟩
      replace H : (coder_Put.l0 k2 ((x10_2 * 256) % 4294967296) (Go.bits .and .u64 (IntKind.u64.wrap (x175000_2 * 256)) 4294967295) t177 y185)=some (r1,r2,r3,r4):=yrw hy185 H
      have Ny185:=zm hy185;clear hy185
      have H' := zm H
      clear H
      have:=NB174_175.out
      have:=NB175_174.out
      obtain ⟨_,_,_,_,_,_⟩:=yc3 BK174
      go_wp2_with (first|((with_reducible refine gate_builtin (b:=.append) (xs := #[.tmp 52, .tmp 57]) rfl ?_);at_builtin;refine Kd.R_append (Kd.int .u8) (w0:=w) w.heap.size rfl (.tmp 52) (.tmp 57) 24 5 (.int .u8 0) 1 rfl Try.underlying24 info5 rfl (by decide) (by omega) u175002 x175002_2 ((x175000_2 / 16777216) % 256) [.int .u8 ((x175000_2 / 16777216) % 256)] (fun _=>True) (fun _=>False) rfl rfl ?aP (fun _ hk=>hk.elim) ?aF ?aO ?aB ?aS ?aL ?_;(case aP=>exact rfl);(case aB=>exact yhb);(case aF=>exact (fun _ _=>trivial));(case aO=>exact (yr HO_175002));(case aS=>exact (zE yhb));(case aL=>have:=LMc39.out;omega);intro v186 w42 ho hb hg hat;rw [← Ny185.out] at ho;replace BK174:=zm (blk_grown (yk BK174) hg (zu HO_175002.out BK174.out (by decide)));replace BK175:=zm (blk_grown (yk BK175) hg (zu HO_175002.out BK175.out (by decide)));replace HB:=zm (hb);have HO187:=zm (ho);clear HO_175002;clear ho hb hg hat;obtain ⟨Ao43,co43,eo43⟩:=Kd.R_slice HO187.out;subst eo43;obtain ⟨_,_,_,_,_,_⟩:=yc3 BK174))
      go_roundg k2
      case measure=>exact yom2 HJ19 HK2
      case rel=>exact ⟨((x10_2 * 256) % 4294967296),(Go.bits .and .u64 (IntKind.u64.wrap (x175000_2 * 256)) 4294967295),(y185),(.slice Ao43 y185.length co43),yq,H',⟨yom2 HJ19 HK2⟩,⟨yR1 HO187 BK174⟩,⟨ykp BK174⟩,⟨yk BK175⟩,⟨yhb⟩⟩
     ·
      rw [if_neg c38] at H
      have c38b0 : decide (x10_2 < 16777216)=false:=decide_eq_false c38
      clear c38
      simp only [Option.some.injEq,Prod.mk.injEq] at H
      obtain ⟨rfl,rfl,rfl,rfl⟩:=H
      have:=NB174_175.out
      have:=NB175_174.out
      obtain ⟨_,_,_,_,_,_⟩:=yc3 BK174
      obtain ⟨_,_,_,_,_,_⟩:=yc3 BK175
      obtain ⟨Ao48,co48,eo48⟩:=Kd.R_slice HO_175002.out
      subst eo48
      go_wp2
      refine bodyPost_ret (results_ct rfl _ _ gb175 26 #[.int .u64 x175000_2, .int .u32 x10_2, .slice Ao48 x175002_2.length co48] (0,0) _ rfl (ykp BK175) Try.underlying26 rfl (by kernel_rfl)) rfl ?_
      exact ⟨_,ye,yR2 HO_175002 BK174 BK175,yhb⟩
 ·
  replace c7:=Bool.eq_false_iff.mpr c7
  subst c7
  rw [ynf] at H
  simp only [Option.some.injEq,Prod.mk.injEq] at H
  obtain ⟨rfl,rfl,rfl,rfl⟩:=H
  go_enter Try.func18,Try.ntmps18
  go_wp2_with (first|((with_reducible refine gate_dst (N:=4) rfl ?_);refine ybx 4 #[.int .u64 a0_0, .int .u32 a0_1, .slice A0_2 l0_2.length c0_2] 26 ?_;intro gb174 hg w49 hbox hb;have BK174:=zm (hbox);have GW174:=ygw hg;have GE174:=ygw hg;replace HB:=ybs hb;clear hb hbox hg)|((with_reducible refine gate_dst (N:=8) rfl ?_);refine ybx 8 #[.int .u64 0, .int .u32 0, .slice none 0 0] 26 ?_;intro gb175 hg w50 hbox hb;have BK175:=zm (hbox);have GW175:=ygw hg;have GE175:=ygw hg;replace HB:=ybs hb;have NB174_175:=ynl BK174 hg;have NB175_174:=yng BK174 hg;replace BK174:=ybb BK174 hb;clear hb hbox hg;have:=NB174_175.out;have:=NB175_174.out;obtain ⟨_,_,_,_,_,_⟩:=yc3 BK174)|((with_reducible refine gate_callee (f:=51) rfl ?_);refine ygl 13 Try.func51 #[.agg #[.int .u64 a0_0, .int .u32 a0_1, .slice A0_2 l0_2.length c0_2]] ?_;(with_reducible refine (coder_own.calls a0_0 a0_1 _ _ l0_2 t176 t177 t178 _ ?side1 HC0_2.out A5.out).mono ?_);(case side1=>exact ycb HR0_2);rintro e w53 ⟨v179,rfl,ho0,hb⟩;refine ⟨_,rfl, ?_⟩;have HO180:=zm (Kd.R_lower ho0 (zE yhb));replace BK174:=ybb BK174 hb;replace BK175:=ybb BK175 hb;replace HB:=ybs hb;(try clear hb);(try clear ho0);obtain ⟨_,_,_,_,_,_⟩:=yc3 BK174;obtain ⟨Ao55,co55,eo55⟩:=Kd.R_slice HO180.out;subst eo55)|((with_reducible refine gate_store (t:=26) (p:=4) rfl ?_);refine store_event (t:=26) (p:=4) (v := ?vo_w56) (w1:=(((w53.setCell ⟨gb174,0,none⟩ (.int .u64 t176)).setCell ⟨gb174,1,none⟩ (.int .u32 t177)).setCell ⟨gb174,2,none⟩ (.slice Ao55 t178.length co55))) ?hg ?ho ?hn ?hr ?_;(case ho=>rfl);(case hg=>rfl);(case hn=>rfl);(case hr=>first|(go_simp;done)|(go_simp;rfl));intro w56 hw;replace HO180 : Aside0 (Kd.R (Kd.int .u8) 5 w56 w.heap.size (fun _=>True) (.slice Ao55 t178.length co55) t178):=⟨(by rw [hw];exact (yR1 HO180 BK174))⟩;replace BK174 : Aside0 (w56.heap[gb174]? = some (.cells #[.int .u64 t176, .int .u32 t177, .slice Ao55 t178.length co55] 26 (0,0))):=⟨(by rw [hw];exact (ykp BK174))⟩;replace BK175 : Aside0 (w56.heap[gb175]? = some (.cells #[.int .u64 0, .int .u32 0, .slice none 0 0] 26 (0,0))):=⟨(by rw [hw];exact (yk BK175))⟩;replace HB : Aside0 (Below w.heap.size w w56):=⟨(by rw [hw];exact yhb)⟩;clear hw)|((with_reducible refine gate_callee (f:=52) rfl ?_);refine ygl 17 Try.func52 #[.int .i64 a1, .int .i64 a2, .int .i64 a3] ?_;(with_reducible refine (coder_fair.calls a1 a2 a3 false _ A6.out).mono ?_);rintro e w' ⟨rfl,⟨nd,rfl⟩⟩;refine ⟨_,rfl, ?_⟩;(try (rw [drewN_self w56];generalize hq_ : World.drewN w56 _=w56;have n0_ : Aside0 (Kd.R (Kd.int .u8) 5 w56 w.heap.size (fun _=>True) (.slice Ao55 t178.length co55) t178):=⟨by rw [← hq_];exact (yr HO180)⟩;have n1_ : Aside0 (w56.heap[gb174]? = some (.cells #[.int .u64 t176, .int .u32 t177, .slice Ao55 t178.length co55] 26 (0,0))):=⟨by rw [← hq_];exact (yk BK174)⟩;have n2_ : Aside0 (w56.heap[gb175]? = some (.cells #[.int .u64 0, .int .u32 0, .slice none 0 0] 26 (0,0))):=⟨by rw [← hq_];exact (yk BK175)⟩;have n3_ : Aside0 (Below w.heap.size w w56):=⟨by rw [← hq_];exact yhb⟩;clear HO180 BK174 BK175 HB hq_;have HO180:=n0_;have BK174:=n1_;have BK175:=n2_;have HB:=n3_;clear n0_ n1_ n2_ n3_));obtain ⟨_,_,_,_,_,_⟩:=yc3 BK174;obtain ⟨_,_,_,_,_,_⟩:=yc3 BK175))
  refine bodyPost_ret (results_ct rfl _ _ gb175 26 #[.int .u64 t176, .int .u32 t177, .slice Ao55 t178.length co55] (0,0) _ rfl (ykp BK175) Try.underlying26 rfl (by kernel_rfl)) rfl ?_
  exact ⟨_,ye,yR1 HO180 BK175,yhb⟩
def gain_Right.l0 : Nat→List Int→List Int→Int→Int→Option (Bool)
 | 0,_,_,_,_=>none
 | k+1,x0,x5,x6,x7=>if x7 < x6 then (if 0≤x7 then (if x7 < (x5.length : Int) then (if (rd x5 x7) < 0 then (some false) else (if (rd x5 x7) > 44 then (some false) else (gain_Right.l0 k x0 x5 x6 (wrap64 (x7+1))))) else (none)) else (none)) else (some ((x0.length : Int) == 5))
def gain_Right.f (k : Nat) (l0 : List Int) : Option (Bool):=gain_Right.l0 k l0 l0 (l0.length : Int) 0
theorem gain_Right.mono_l : ∀ k,(∀ y0 y1 y2 y3,LeO (gain_Right.l0 k y0 y1 y2 y3) (gain_Right.l0 (k+1) y0 y1 y2 y3))
 | 0=>fun _ _ _ _ r h=>by simp [gain_Right.l0] at h
 | k+1=>by
  have ih0:=gain_Right.mono_l k
  ·
   intro y0 y1 y2 y3
   unfold gain_Right.l0
   repeat' with_reducible first|apply ih0|apply yLr|apply yLn|apply yLi|apply yLb|intro _
theorem gain_Right.mono : ∀ a0 k,LeO (gain_Right.f k a0) (gain_Right.f (k+1) a0):=by
 intro a0 k
 have ih0:=gain_Right.mono_l k
 unfold gain_Right.f
 repeat' with_reducible first|apply ih0|apply yLr|apply yLn|apply yLi|apply yLb|intro _
set_option maxHeartbeats 8000000 in
set_option maxRecDepth 100000 in
theorem gain_Right.calls (k : Nat) (A0 : Option Addr) (c0 : Nat) (l0 : List Int) (r : Bool) (w : World) (hr0 : Kd.C (Kd.int .i64) w A0 l0.length l0) (hc0 : l0.length≤c0) (h : gain_Right.f k l0=some r) :
  Calls Try.prog 45 #[.slice A0 l0.length c0] w fun e w' => e=.returned (.bool r)∧Drawn0 w w' := by
 have HR0:=zm hr0;have HC0:=zm hc0;clear hr0 hc0
 have H : (gain_Right.l0 k l0 l0 (l0.length : Int) 0)=some r:=h
 clear h
 have H' := zm H
 clear H
 go_enter Try.func45,Try.ntmps45
 go_wp2
 go_loopg [7] k (fun kq v7 w' => ∃ (x7_1 : Int),v7=.int .i64 x7_1∧Aside0 (gain_Right.l0 kq l0 l0 (l0.length : Int) x7_1=some r)∧Aside0 (kq≤k)∧Drawn0 w w')
 case atStart=>exact ⟨(0),yq,H',⟨Nat.le_refl _⟩,yd⟩
 case round =>
  clear H'
  obtain ⟨x7_1,rfl,HA,HK1,⟨m1,rfl⟩⟩:=hrel
  obtain ⟨k1,rfl⟩:=ysu gk (fun h=>by subst h;exact absurd HA.out (by simp [gain_Right.l0]))
  have H:=HA.out;clear HA
  simp only [gain_Right.l0] at H
  by_cases c2 : x7_1 < (l0.length : Int)
  ·
   rw [if_pos c2] at H
   have c2b0 : decide (x7_1 < (l0.length : Int))=true:=decide_eq_true c2
   clear c2
   replace H:=yif H;obtain ⟨c3,H⟩:=H
   have c3b0 : decide (0≤x7_1)=true:=decide_eq_true c3
   clear c3
   replace H:=yif H;obtain ⟨c4,H⟩:=H
   have c4b0 : decide (x7_1 < (l0.length : Int))=true:=decide_eq_true c4
   clear c4
   by_cases c5 : (rd l0 x7_1) < 0
   ·
    rw [if_pos c5] at H
    have c5b0 : decide ((rd l0 x7_1) < 0)=true:=decide_eq_true c5
    clear c5
    obtain rfl:=Option.some.inj H
    obtain ⟨ad188,e188,hx188_0,p188,q188⟩:=yai HR0 x7_1
    cases e188
    go_wp2
    go_ret
    exact ⟨yq,yd⟩
   ·
    rw [if_neg c5] at H
    have c5b0 : decide ((rd l0 x7_1) < 0)=false:=decide_eq_false c5
    clear c5
    by_cases c6 : (rd l0 x7_1) > 44
    ·
     rw [if_pos c6] at H
     have c6b0 : decide (44 < (rd l0 x7_1))=true:=decide_eq_true c6
     clear c6
     obtain rfl:=Option.some.inj H
     obtain ⟨ad188,e188,hx188_0,p188,q188⟩:=yai HR0 x7_1
     cases e188
     go_wp2
     go_ret
     exact ⟨yq,yd⟩
    ·
     rw [if_neg c6] at H
     have c6b0 : decide (44 < (rd l0 x7_1))=false:=decide_eq_false c6
     clear c6
     have H' := zm H
     clear H
     obtain ⟨ad188,e188,hx188_0,p188,q188⟩:=yai HR0 x7_1
     cases e188
     go_wp2
     go_roundg k1
     case measure=>exact yom1 HK1
     case rel=>exact ⟨(wrap64 (x7_1+1)),yq,H',⟨yom1 HK1⟩,yd⟩
  ·
   rw [if_neg c2] at H
   have c2b0 : decide (x7_1 < (l0.length : Int))=false:=decide_eq_false c2
   clear c2
   obtain rfl:=Option.some.inj H
   go_wp2
   go_ret
   exact ⟨yq,yd⟩
def coder_halves.f (a0 : Int) : Option (Int × Int):=if a0≤65536 then (some (wrap64 (a0),1)) else (some (wrap64 ((wrap64 (IntKind.u64.wrap (Int.tdiv (IntKind.u64.wrap (a0 - 1)) 65536)))+1),65536))
set_option maxHeartbeats 8000000 in
set_option maxRecDepth 100000 in
theorem coder_halves.calls (a0 : Int) (r1 : Int) (r2 : Int) (w : World) (h : coder_halves.f a0=some (r1,r2)) :
  Calls Try.prog 63 #[.int .u64 a0] w fun e w' => e=.returned (.tuple #[.int .i64 r1, .int .i64 r2])∧Drawn0 w w' := by
 have H : (if a0≤65536 then (some (wrap64 (a0),1)) else (some (wrap64 ((wrap64 (IntKind.u64.wrap (Int.tdiv (IntKind.u64.wrap (a0 - 1)) 65536)))+1),65536)))=some (r1,r2):=h
 clear h
 by_cases c2 : a0≤65536
 ·
  rw [if_pos c2] at H
  have c2b0 : decide (a0≤65536)=true:=decide_eq_true c2
  clear c2
  simp only [Option.some.injEq,Prod.mk.injEq] at H
  obtain ⟨rfl,rfl⟩:=H
  go_enter Try.func63,Try.ntmps63
  go_wp2
  go_ret2
  exact ⟨yq,yd⟩
 ·
  rw [if_neg c2] at H
  have c2b0 : decide (a0≤65536)=false:=decide_eq_false c2
  clear c2
  simp only [Option.some.injEq,Prod.mk.injEq] at H
  obtain ⟨rfl,rfl⟩:=H
  go_enter Try.func63,Try.ntmps63
  go_wp2
  go_ret2
  exact ⟨yq,yd⟩
mutual
def coder_PutNum.j0 : Nat→Int→Int→Bool→Int→Int→List Int→Option (Int × Int × List Int × Int)
 | 0,_,_,_,_,_,_=>none
 | k+1,x1,x2,x26,x190000,x190001,x190002=>if x26=true then (some (x190000,x190001,x190002,1)) else ((coder_halves.f x2).bind fun bt196=>(if bt196.2=0 then (none) else ((coder_Put.f k x190000 x190001 x190002 (wrap64 (Int.tdiv (wrap64 (x1)) bt196.2)) (wrap64 ((wrap64 (Int.tdiv (wrap64 (x1)) bt196.2))+1)) bt196.1).bind fun bt198=>(if bt198.2.2.2=0 then (coder_PutNum.j1 k bt196.2 (Int.tmod (wrap64 (x1)) bt196.2) bt198.2.2.2 (decide (bt196.2 > 1)) x190000 x190001 x190002 bt198.1 bt198.2.1 bt198.2.2.1) else (coder_PutNum.j1 k bt196.2 (Int.tmod (wrap64 (x1)) bt196.2) bt198.2.2.2 false x190000 x190001 x190002 bt198.1 bt198.2.1 bt198.2.2.1)))))
def coder_PutNum.j1 : Nat→Int→Int→Int→Bool→Int→Int→List Int→Int→Int→List Int→Option (Int × Int × List Int × Int)
 | 0,_,_,_,_,_,_,_,_,_,_=>none
 | k+1,x9,x11,x13,x55,x190000,x190001,x190002,x205000,x205001,x205002=>if x55=true then ((coder_Put.f k x205000 x205001 x205002 x11 (wrap64 (x11+1)) x9).bind fun bt205=>(if bt205.2.2.2=0 then (some (bt205.1,bt205.2.1,bt205.2.2.1,0)) else (some (x190000,x190001,x190002,bt205.2.2.2)))) else (if x13=0 then (some (x205000,x205001,x205002,0)) else (some (x190000,x190001,x190002,x13)))
end
def coder_PutNum.f (k : Nat) (a0_0 : Int) (a0_1 : Int) (l0_2 : List Int) (a1 : Int) (a2 : Int) : Option (Int × Int × List Int × Int):=(coder_own.f a0_0 a0_1 l0_2).bind fun bt191=>(if a2 < 1 then (coder_PutNum.j0 k a1 a2 true bt191.1 bt191.2.1 bt191.2.2) else (if a2 > 4294967296 then (coder_PutNum.j0 k a1 a2 true bt191.1 bt191.2.1 bt191.2.2) else (coder_PutNum.j0 k a1 a2 (decide (a1 ≥ a2)) bt191.1 bt191.2.1 bt191.2.2)))
theorem coder_PutNum.mono_l : ∀ k,(∀ y0 y1 y2 y3 y4 y5,LeO (coder_PutNum.j0 k y0 y1 y2 y3 y4 y5) (coder_PutNum.j0 (k+1) y0 y1 y2 y3 y4 y5))∧(∀ y0 y1 y2 y3 y4 y5 y6 y7 y8 y9,LeO (coder_PutNum.j1 k y0 y1 y2 y3 y4 y5 y6 y7 y8 y9) (coder_PutNum.j1 (k+1) y0 y1 y2 y3 y4 y5 y6 y7 y8 y9))
 | 0=>⟨fun _ _ _ _ _ _ r h=>by simp [coder_PutNum.j0] at h,fun _ _ _ _ _ _ _ _ _ _ r h=>by simp [coder_PutNum.j1] at h⟩
 | k+1=>by
  obtain ⟨ih0,ih1⟩:=coder_PutNum.mono_l k
  refine ⟨?_, ?_⟩
  ·
   intro y0 y1 y2 y3 y4 y5
   unfold coder_PutNum.j0
   repeat' with_reducible first|apply ih0|apply ih1|apply coder_Put.mono|apply yLr|apply yLn|apply yLi|apply yLb|intro _
  ·
   intro y0 y1 y2 y3 y4 y5 y6 y7 y8 y9
   unfold coder_PutNum.j1
   repeat' with_reducible first|apply ih0|apply ih1|apply coder_Put.mono|apply yLr|apply yLn|apply yLi|apply yLb|intro _
theorem coder_PutNum.mono : ∀ a0 a1 a2 a3 a4 k,LeO (coder_PutNum.f k a0 a1 a2 a3 a4) (coder_PutNum.f (k+1) a0 a1 a2 a3 a4):=by
 intro a0 a1 a2 a3 a4 k
 obtain ⟨ih0,ih1⟩:=coder_PutNum.mono_l k
 unfold coder_PutNum.f
 repeat' with_reducible first|apply ih0|apply ih1|apply coder_Put.mono|apply yLr|apply yLn|apply yLi|apply yLb|intro _
set_option maxHeartbeats 8000000 in
set_option maxRecDepth 100000 in
theorem coder_PutNum.calls (k : Nat) (a0_0 : Int) (a0_1 : Int) (A0_2 : Option Addr) (c0_2 : Nat) (l0_2 : List Int) (a1 : Int) (a2 : Int) (r1 : Int) (r2 : Int) (r3 : List Int) (r4 : Int) (w : World) (hr0_2 : Kd.C (Kd.int .u8) w A0_2 l0_2.length l0_2) (hc0_2 : l0_2.length≤c0_2) (h : coder_PutNum.f k a0_0 a0_1 l0_2 a1 a2=some (r1,r2,r3,r4)) :
  Calls Try.prog 37 #[.agg #[.int .u64 a0_0, .int .u32 a0_1, .slice A0_2 l0_2.length c0_2], .int .u64 a1, .int .u64 a2] w fun e w' => ∃ v2_ : Value,e=.returned (.tuple #[.agg #[.int .u64 r1, .int .u32 r2,v2_], .int .i64 r4])∧Kd.R (Kd.int .u8) 5 w' w.heap.size (fun _=>True) v2_ r3∧Below w.heap.size w w' := by
 have hu26:=Try.underlying26;have HR0_2:=zm hr0_2;have HC0_2:=zm hc0_2;clear hr0_2 hc0_2;have HB:=zm (Below.refl w.heap.size w)
 have H : ((coder_own.f a0_0 a0_1 l0_2).bind fun bt191=>(if a2 < 1 then (coder_PutNum.j0 k a1 a2 true bt191.1 bt191.2.1 bt191.2.2) else (if a2 > 4294967296 then (coder_PutNum.j0 k a1 a2 true bt191.1 bt191.2.1 bt191.2.2) else (coder_PutNum.j0 k a1 a2 (decide (a1 ≥ a2)) bt191.1 bt191.2.1 bt191.2.2))))=some (r1,r2,r3,r4):=h
 clear h
 replace H:=ybi H;obtain ⟨⟨t191,t192,t193⟩,A4,H⟩:=H
 try dsimp only at H
 have HC5:=zm H;clear H
 go_enter Try.func37,Try.ntmps37
 go_upto_region 2 with (first|((with_reducible refine gate_dst (N:=3) rfl ?_);refine ybx 3 #[.int .u64 a0_0, .int .u32 a0_1, .slice A0_2 l0_2.length c0_2] 26 ?_;intro gb189 hg w6 hbox hb;have BK189:=zm (hbox);have GW189:=ygw hg;have GE189:=ygw hg;replace HB:=ybs hb;clear hb hbox hg)|((with_reducible refine gate_dst (N:=6) rfl ?_);refine ybx 6 #[.int .u64 0, .int .u32 0, .slice none 0 0] 26 ?_;intro gb190 hg w7 hbox hb;have BK190:=zm (hbox);have GW190:=ygw hg;have GE190:=ygw hg;replace HB:=ybs hb;have NB189_190:=ynl BK189 hg;have NB190_189:=yng BK189 hg;replace BK189:=ybb BK189 hb;clear hb hbox hg;have:=NB189_190.out;have:=NB190_189.out;obtain ⟨hcz9_0,hcz9_1,hcz9_2,hfz9_0,hfz9_1,hfz9_2⟩:=yc3 BK189)|(go_at_call 51;(with_reducible refine (coder_own.calls a0_0 a0_1 _ _ l0_2 t191 t192 t193 _ ?side1 HC0_2.out A4.out).mono ?_);(case side1=>exact ycb HR0_2);rintro e w10 ⟨v194,rfl,ho0,hb⟩;have HO195:=zm (Kd.R_lower ho0 (zE yhb));replace BK189:=ybb BK189 hb;replace BK190:=ybb BK190 hb;replace HB:=ybs hb;(try clear hb);(try clear ho0);obtain ⟨hcz11_0,hcz11_1,hcz11_2,hfz11_0,hfz11_1,hfz11_2⟩:=yc3 BK189;obtain ⟨Ao12,co12,eo12⟩:=Kd.R_slice HO195.out;subst eo12))
 repeat (go_quiet (first|((with_reducible refine gate_dst (N:=3) rfl ?_);refine ybx 3 #[.int .u64 a0_0, .int .u32 a0_1, .slice A0_2 l0_2.length c0_2] 26 ?_;intro gb189 hg w6 hbox hb;have BK189:=zm (hbox);have GW189:=ygw hg;have GE189:=ygw hg;replace HB:=ybs hb;clear hb hbox hg)|((with_reducible refine gate_dst (N:=6) rfl ?_);refine ybx 6 #[.int .u64 0, .int .u32 0, .slice none 0 0] 26 ?_;intro gb190 hg w7 hbox hb;have BK190:=zm (hbox);have GW190:=ygw hg;have GE190:=ygw hg;replace HB:=ybs hb;have NB189_190:=ynl BK189 hg;have NB190_189:=yng BK189 hg;replace BK189:=ybb BK189 hb;clear hb hbox hg;have:=NB189_190.out;have:=NB190_189.out;obtain ⟨hcz9_0,hcz9_1,hcz9_2,hfz9_0,hfz9_1,hfz9_2⟩:=yc3 BK189)|(go_at_call 51;(with_reducible refine (coder_own.calls a0_0 a0_1 _ _ l0_2 t191 t192 t193 _ ?side1 HC0_2.out A4.out).mono ?_);(case side1=>exact ycb HR0_2);rintro e w10 ⟨v194,rfl,ho0,hb⟩;have HO195:=zm (Kd.R_lower ho0 (zE yhb));replace BK189:=ybb BK189 hb;replace BK190:=ybb BK190 hb;replace HB:=ybs hb;(try clear hb);(try clear ho0);obtain ⟨hcz11_0,hcz11_1,hcz11_2,hfz11_0,hfz11_1,hfz11_2⟩:=yc3 BK189;obtain ⟨Ao12,co12,eo12⟩:=Kd.R_slice HO195.out;subst eo12));go_upto_region 2 with (first|((with_reducible refine gate_dst (N:=3) rfl ?_);refine ybx 3 #[.int .u64 a0_0, .int .u32 a0_1, .slice A0_2 l0_2.length c0_2] 26 ?_;intro gb189 hg w6 hbox hb;have BK189:=zm (hbox);have GW189:=ygw hg;have GE189:=ygw hg;replace HB:=ybs hb;clear hb hbox hg)|((with_reducible refine gate_dst (N:=6) rfl ?_);refine ybx 6 #[.int .u64 0, .int .u32 0, .slice none 0 0] 26 ?_;intro gb190 hg w7 hbox hb;have BK190:=zm (hbox);have GW190:=ygw hg;have GE190:=ygw hg;replace HB:=ybs hb;have NB189_190:=ynl BK189 hg;have NB190_189:=yng BK189 hg;replace BK189:=ybb BK189 hb;clear hb hbox hg;have:=NB189_190.out;have:=NB190_189.out;obtain ⟨hcz9_0,hcz9_1,hcz9_2,hfz9_0,hfz9_1,hfz9_2⟩:=yc3 BK189)|(go_at_call 51;(with_reducible refine (coder_own.calls a0_0 a0_1 _ _ l0_2 t191 t192 t193 _ ?side1 HC0_2.out A4.out).mono ?_);(case side1=>exact ycb HR0_2);rintro e w10 ⟨v194,rfl,ho0,hb⟩;have HO195:=zm (Kd.R_lower ho0 (zE yhb));replace BK189:=ybb BK189 hb;replace BK190:=ybb BK190 hb;replace HB:=ybs hb;(try clear hb);(try clear ho0);obtain ⟨hcz11_0,hcz11_1,hcz11_2,hfz11_0,hfz11_1,hfz11_2⟩:=yc3 BK189;obtain ⟨Ao12,co12,eo12⟩:=Kd.R_slice HO195.out;subst eo12)))
 (try simp only [Act.put,List.setIfInBounds_toArray,List.set_cons_zero,List.set_cons_succ])
 go_cut [26] (fun v26 wc => ∃ (kq : Nat) (x26_4 : Bool),v26=.bool x26_4∧Aside0 (coder_PutNum.j0 kq a1 a2 x26_4 t191 t192 t193=some (r1,r2,r3,r4))∧Aside0 (kq≤k)∧Aside0 (Kd.R (Kd.int .u8) 5 wc w.heap.size (fun _=>True) (.slice Ao12 t193.length co12) t193)∧Aside0 (wc.heap[gb189]? = some (.cells #[.int .u64 t191, .int .u32 t192,(.slice Ao12 t193.length co12)] 26 (0,0)))∧Aside0 (wc.heap[gb190]? = some (.cells #[.int .u64 0, .int .u32 0,(.slice none 0 0)] 26 (0,0)))∧Aside0 (Below w.heap.size w wc))
 case first =>
  have H:=HC5.out;clear HC5
  by_cases c13 : a2 < 1
  ·
   rw [if_pos c13] at H
   have c13b0 : decide (a2 < 1)=true:=decide_eq_true c13
   clear c13
   (first|rw [c13b0]|(simp only [i64_w,i32_w];rw [c13b0])|skip)
   have H' := zm H
   clear H
   go_wp2
   repeat (go_quiet (fail);try go_wp2)
   go_meet
   case rel=>exact ⟨_,(true),yq,H',⟨yo⟩,⟨yR1 HO195 BK189⟩,⟨ykp BK189⟩,⟨yk BK190⟩,⟨yhb⟩⟩
  ·
   rw [if_neg c13] at H
   have c13b0 : decide (a2 < 1)=false:=decide_eq_false c13
   clear c13
   (first|rw [c13b0]|(simp only [i64_w,i32_w];rw [c13b0])|skip)
   by_cases c14 : a2 > 4294967296
   ·
    rw [if_pos c14] at H
    have c14b0 : decide (4294967296 < a2)=true:=decide_eq_true c14
    clear c14
    have H' := zm H
    clear H
    go_wp2
    repeat (go_quiet (fail);try go_wp2)
    go_meet
    case rel=>exact ⟨_,(true),yq,H',⟨yo⟩,⟨yR1 HO195 BK189⟩,⟨ykp BK189⟩,⟨yk BK190⟩,⟨yhb⟩⟩
   ·
    rw [if_neg c14] at H
    have c14b0 : decide (4294967296 < a2)=false:=decide_eq_false c14
    clear c14
    have H' := zm H
    clear H
    go_wp2
    repeat (go_quiet (fail);try go_wp2)
    go_meet
    case rel=>exact ⟨_,(decide (a1 ≥ a2)),yq,H',⟨yo⟩,⟨yR1 HO195 BK189⟩,⟨ykp BK189⟩,⟨yk BK190⟩,⟨yhb⟩⟩
 case rest =>
  clear HC5
  try clear hcz11_0
  try clear hcz11_1
  try clear hcz11_2
  try clear hcz9_0
  try clear hcz9_1
  try clear hcz9_2
  try clear hfz11_0
  try clear hfz11_1
  try clear hfz11_2
  try clear hfz9_0
  try clear hfz9_1
  try clear hfz9_2
  obtain ⟨kq,x26_4,rfl,HA,HJ4,HO_190002,BK189,BK190,HB⟩:=hcut
  obtain ⟨kj4,rfl⟩:=ysu kq (fun h=>by subst h;exact absurd HA.out (by simp [coder_PutNum.j0]))
  have H:=HA.out;clear HA
  simp only [coder_PutNum.j0] at H
  by_cases c15 : x26_4=true
  ·
   subst c15
   rw [if_pos rfl] at H
   simp only [Option.some.injEq,Prod.mk.injEq] at H
   obtain ⟨rfl,rfl,rfl,rfl⟩:=H
   have:=NB189_190.out
   have:=NB190_189.out
   obtain ⟨hcz17_0,hcz17_1,hcz17_2,hfz17_0,hfz17_1,hfz17_2⟩:=yc3 BK189
   obtain ⟨hcz18_0,hcz18_1,hcz18_2,hfz18_0,hfz18_1,hfz18_2⟩:=yc3 BK190
   go_wp2
   repeat (go_quiet (fail);try go_wp2)
   refine bodyPost_ret (results_ct rfl _ _ gb190 26 #[.int .u64 t191, .int .u32 t192, .slice Ao12 t193.length co12] (0,0) _ rfl (ykp BK190) Try.underlying26 rfl (by kernel_rfl)) rfl ?_
   exact ⟨_,ye,yR1 HO_190002 BK190,yhb⟩
  ·
   replace c15:=Bool.eq_false_iff.mpr c15
   subst c15
   rw [ynf] at H
   replace H:=ybi H;obtain ⟨⟨t196,t197⟩,A19,H⟩:=H
   try dsimp only at H
   replace H:=yie H;obtain ⟨c20,H⟩:=H
   have c20b0 : (t197 == 0)=false:=beq_eq_false_iff_ne.mpr c20
   have c20b1 : (t197 != 0)=true:=bne_iff_ne.mpr c20
   replace H:=ybi H;obtain ⟨⟨t198,t199,t200,t203⟩,A21,H⟩:=H
   try dsimp only at H
   have HC22:=zm H;clear H
   go_upto_region 7 with (first|(go_at_call 63;(with_reducible refine (coder_halves.calls a2 t196 t197 _ A19.out).mono ?_);rintro e w' ⟨rfl,⟨nd,rfl⟩⟩;(try exact yww);have:=NB189_190.out;have:=NB190_189.out;obtain ⟨hcz24_0,hcz24_1,hcz24_2,hfz24_0,hfz24_1,hfz24_2⟩:=yc3 BK189)|(go_at_call 18;(with_reducible refine (coder_Put.calls kj4 t191 t192 _ _ t193 (wrap64 (Int.tdiv (wrap64 (a1)) t197)) (wrap64 ((wrap64 (Int.tdiv (wrap64 (a1)) t197))+1)) t196 t198 t199 t200 t203 _ ?side1 ?side2 A21.out).mono ?_);(case side1=>exact yce (Kd.R_reads' HO_190002.out).2.2);(case side2=>exact (Kd.R_reads' HO_190002.out).2.1);rintro e w25 ⟨v201,rfl,ho0,hb⟩;have HO202:=zm (Kd.R_lower (Kd.R_new' ho0 (Kd.R_lt (yr HO_190002))) (zE yhb));replace HO_190002:=zm (Kd.R_elder' (yr HO_190002) (Kd.R_base ho0) hb);replace BK189:=ybb BK189 hb;replace BK190:=ybb BK190 hb;replace HB:=ybs hb;(try clear hb);(try clear ho0))|((with_reducible refine gate_dst (N:=12) rfl ?_);refine ybx 12 #[.int .u64 0, .int .u32 0, .slice none 0 0] 26 ?_;intro gb204 hg w26 hbox hb;replace HO_190002:=yRb HO_190002 hb;replace HO202:=yRb HO202 hb;have BK204:=zm (hbox);have GW204:=ygw hg;have GE204:=ygw hg;replace HB:=ybs hb;have NB189_204:=ynl BK189 hg;have NB204_189:=yng BK189 hg;replace BK189:=ybb BK189 hb;have NB190_204:=ynl BK190 hg;have NB204_190:=yng BK190 hg;replace BK190:=ybb BK190 hb;clear hb hbox hg;have:=NB204_189.out;have:=NB189_204.out;have:=NB204_190.out;have:=NB190_204.out;obtain ⟨hcz29_0,hcz29_1,hcz29_2,hfz29_0,hfz29_1,hfz29_2⟩:=yc3 BK204;obtain ⟨Ao30,co30,eo30⟩:=Kd.R_slice HO202.out;subst eo30))
   repeat (go_quiet (first|(go_at_call 63;(with_reducible refine (coder_halves.calls a2 t196 t197 _ A19.out).mono ?_);rintro e w' ⟨rfl,⟨nd,rfl⟩⟩;(try exact yww);have:=NB189_190.out;have:=NB190_189.out;obtain ⟨hcz24_0,hcz24_1,hcz24_2,hfz24_0,hfz24_1,hfz24_2⟩:=yc3 BK189)|(go_at_call 18;(with_reducible refine (coder_Put.calls kj4 t191 t192 _ _ t193 (wrap64 (Int.tdiv (wrap64 (a1)) t197)) (wrap64 ((wrap64 (Int.tdiv (wrap64 (a1)) t197))+1)) t196 t198 t199 t200 t203 _ ?side1 ?side2 A21.out).mono ?_);(case side1=>exact yce (Kd.R_reads' HO_190002.out).2.2);(case side2=>exact (Kd.R_reads' HO_190002.out).2.1);rintro e w25 ⟨v201,rfl,ho0,hb⟩;have HO202:=zm (Kd.R_lower (Kd.R_new' ho0 (Kd.R_lt (yr HO_190002))) (zE yhb));replace HO_190002:=zm (Kd.R_elder' (yr HO_190002) (Kd.R_base ho0) hb);replace BK189:=ybb BK189 hb;replace BK190:=ybb BK190 hb;replace HB:=ybs hb;(try clear hb);(try clear ho0))|((with_reducible refine gate_dst (N:=12) rfl ?_);refine ybx 12 #[.int .u64 0, .int .u32 0, .slice none 0 0] 26 ?_;intro gb204 hg w26 hbox hb;replace HO_190002:=yRb HO_190002 hb;replace HO202:=yRb HO202 hb;have BK204:=zm (hbox);have GW204:=ygw hg;have GE204:=ygw hg;replace HB:=ybs hb;have NB189_204:=ynl BK189 hg;have NB204_189:=yng BK189 hg;replace BK189:=ybb BK189 hb;have NB190_204:=ynl BK190 hg;have NB204_190:=yng BK190 hg;replace BK190:=ybb BK190 hb;clear hb hbox hg;have:=NB204_189.out;have:=NB189_204.out;have:=NB204_190.out;have:=NB190_204.out;obtain ⟨hcz29_0,hcz29_1,hcz29_2,hfz29_0,hfz29_1,hfz29_2⟩:=yc3 BK204;obtain ⟨Ao30,co30,eo30⟩:=Kd.R_slice HO202.out;subst eo30));go_upto_region 7 with (first|(go_at_call 63;(with_reducible refine (coder_halves.calls a2 t196 t197 _ A19.out).mono ?_);rintro e w' ⟨rfl,⟨nd,rfl⟩⟩;(try exact yww);have:=NB189_190.out;have:=NB190_189.out;obtain ⟨hcz24_0,hcz24_1,hcz24_2,hfz24_0,hfz24_1,hfz24_2⟩:=yc3 BK189)|(go_at_call 18;(with_reducible refine (coder_Put.calls kj4 t191 t192 _ _ t193 (wrap64 (Int.tdiv (wrap64 (a1)) t197)) (wrap64 ((wrap64 (Int.tdiv (wrap64 (a1)) t197))+1)) t196 t198 t199 t200 t203 _ ?side1 ?side2 A21.out).mono ?_);(case side1=>exact yce (Kd.R_reads' HO_190002.out).2.2);(case side2=>exact (Kd.R_reads' HO_190002.out).2.1);rintro e w25 ⟨v201,rfl,ho0,hb⟩;have HO202:=zm (Kd.R_lower (Kd.R_new' ho0 (Kd.R_lt (yr HO_190002))) (zE yhb));replace HO_190002:=zm (Kd.R_elder' (yr HO_190002) (Kd.R_base ho0) hb);replace BK189:=ybb BK189 hb;replace BK190:=ybb BK190 hb;replace HB:=ybs hb;(try clear hb);(try clear ho0))|((with_reducible refine gate_dst (N:=12) rfl ?_);refine ybx 12 #[.int .u64 0, .int .u32 0, .slice none 0 0] 26 ?_;intro gb204 hg w26 hbox hb;replace HO_190002:=yRb HO_190002 hb;replace HO202:=yRb HO202 hb;have BK204:=zm (hbox);have GW204:=ygw hg;have GE204:=ygw hg;replace HB:=ybs hb;have NB189_204:=ynl BK189 hg;have NB204_189:=yng BK189 hg;replace BK189:=ybb BK189 hb;have NB190_204:=ynl BK190 hg;have NB204_190:=yng BK190 hg;replace BK190:=ybb BK190 hb;clear hb hbox hg;have:=NB204_189.out;have:=NB189_204.out;have:=NB204_190.out;have:=NB190_204.out;obtain ⟨hcz29_0,hcz29_1,hcz29_2,hfz29_0,hfz29_1,hfz29_2⟩:=yc3 BK204;obtain ⟨Ao30,co30,eo30⟩:=Kd.R_slice HO202.out;subst eo30)))
   (try simp only [Act.put,List.setIfInBounds_toArray,List.set_cons_zero,List.set_cons_succ])
   go_cut [55] (fun v55 wc => ∃ (kq : Nat) (x55_21 : Bool),v55=.bool x55_21∧Aside0 (coder_PutNum.j1 kq t197 (Int.tmod (wrap64 (a1)) t197) t203 x55_21 t191 t192 t193 t198 t199 t200=some (r1,r2,r3,r4))∧Aside0 (kq≤kj4)∧Aside0 (Kd.R (Kd.int .u8) 5 wc w.heap.size (fun k_=>some k_≠((.slice Ao30 t200.length co30) : Value).ownBlock) (.slice Ao12 t193.length co12) t193)∧Aside0 (Kd.R (Kd.int .u8) 5 wc w.heap.size (fun k_=>some k_≠((.slice Ao12 t193.length co12) : Value).ownBlock) (.slice Ao30 t200.length co30) t200)∧Aside0 (wc.heap[gb189]? = some (.cells #[.int .u64 t191, .int .u32 t192,(.slice Ao12 t193.length co12)] 26 (0,0)))∧Aside0 (wc.heap[gb190]? = some (.cells #[.int .u64 0, .int .u32 0,(.slice none 0 0)] 26 (0,0)))∧Aside0 (wc.heap[gb204]? = some (.cells #[.int .u64 t198, .int .u32 t199,(.slice Ao30 t200.length co30)] 26 (0,0)))∧Aside0 (Below w.heap.size w wc))
   case first =>
    have H:=HC22.out;clear HC22
    by_cases c31 : t203=0
    ·
     rw [if_pos c31] at H
     have c31b0 : (t203 == 0)=true:=beq_iff_eq.mpr c31
     have c31b1 : (t203 != 0)=false:=bne_eq_false_iff_eq.mpr c31
     clear c31
     (first|rw [c31b0]|(simp only [i64_w,i32_w];rw [c31b0])|skip)
     have H' := zm H
     clear H
     go_wp2
     repeat (go_quiet (fail);try go_wp2)
     go_meet
     case rel=>exact ⟨_,(decide (t197 > 1)),yq,H',⟨yom1 HJ4⟩,⟨yR1 HO_190002 BK204⟩,⟨yR1 HO202 BK204⟩,⟨yk BK189⟩,⟨yk BK190⟩,⟨ykp BK204⟩,⟨yhb⟩⟩
    ·
     rw [if_neg c31] at H
     have c31b0 : (t203 == 0)=false:=beq_eq_false_iff_ne.mpr c31
     have c31b1 : (t203 != 0)=true:=bne_iff_ne.mpr c31
     (first|rw [c31b0]|(simp only [i64_w,i32_w];rw [c31b0])|skip)
     have H' := zm H
     clear H
     go_wp2
     repeat (go_quiet (fail);try go_wp2)
     go_meet
     case rel=>exact ⟨_,(false),yq,H',⟨yom1 HJ4⟩,⟨yR1 HO_190002 BK204⟩,⟨yR1 HO202 BK204⟩,⟨yk BK189⟩,⟨yk BK190⟩,⟨ykp BK204⟩,⟨yhb⟩⟩
   case rest =>
    clear HC22
    try clear c20
    try clear c20b0
    try clear c20b1
    try clear hcz17_0
    try clear hcz17_1
    try clear hcz17_2
    try clear hcz18_0
    try clear hcz18_1
    try clear hcz18_2
    try clear hcz24_0
    try clear hcz24_1
    try clear hcz24_2
    try clear hcz29_0
    try clear hcz29_1
    try clear hcz29_2
    try clear hfz17_0
    try clear hfz17_1
    try clear hfz17_2
    try clear hfz18_0
    try clear hfz18_1
    try clear hfz18_2
    try clear hfz24_0
    try clear hfz24_1
    try clear hfz24_2
    try clear hfz29_0
    try clear hfz29_1
    try clear hfz29_2
    obtain ⟨kq,x55_21,rfl,HA,HJ21,HO_190002,HO_205002,BK189,BK190,BK204,HB⟩:=hcut
    obtain ⟨kj21,rfl⟩:=ysu kq (fun h=>by subst h;exact absurd HA.out (by simp [coder_PutNum.j1]))
    have H:=HA.out;clear HA
    simp only [coder_PutNum.j1] at H
    by_cases c32 : x55_21=true
    ·
     subst c32
     rw [if_pos rfl] at H
     replace H:=ybi H;obtain ⟨⟨t205,t206,t207,t210⟩,A33,H⟩:=H
     try dsimp only at H
     by_cases c34 : t210=0
     ·
      rw [if_pos c34] at H
      have c34b0 : (t210 == 0)=true:=beq_iff_eq.mpr c34
      have c34b1 : (t210 != 0)=false:=bne_eq_false_iff_eq.mpr c34
      clear c34
      simp only [Option.some.injEq,Prod.mk.injEq] at H
      obtain ⟨rfl,rfl,rfl,rfl⟩:=H
      have:=NB204_189.out
      have:=NB189_204.out
      have:=NB204_190.out
      have:=NB190_204.out
      obtain ⟨_,_,_,_,_,_⟩:=yc3 BK204
      go_wp2_with (first|(go_at_call 18;(with_reducible refine (coder_Put.calls kj21 t198 t199 _ _ t200 (Int.tmod (wrap64 (a1)) t197) (wrap64 ((Int.tmod (wrap64 (a1)) t197)+1)) t197 t205 t206 t207 t210 _ ?side1 ?side2 A33.out).mono ?_);(case side1=>exact yce (Kd.R_reads' HO_205002.out).2.2);(case side2=>exact (Kd.R_reads' HO_205002.out).2.1);rintro e w38 ⟨v208,rfl,ho0,hb⟩;have HO209:=zm (Kd.R_lower (Kd.R_new' (Kd.R_new' ho0 (Kd.R_lt (yr HO_190002))) (Kd.R_lt (yr HO_205002))) (zE yhb));replace HO_190002:=zm (Kd.R_elder' (yr HO_190002) (Kd.R_base ho0) hb);replace HO_205002:=zm (Kd.R_elder' (yr HO_205002) (Kd.R_base ho0) hb);replace BK189:=ybb BK189 hb;replace BK190:=ybb BK190 hb;replace BK204:=ybb BK204 hb;replace HB:=ybs hb;(try clear hb);(try clear ho0);obtain ⟨_,_,_,_,_,_⟩:=yc3 BK204;obtain ⟨Ao40,co40,eo40⟩:=Kd.R_slice HO209.out;subst eo40;have:=NB190_189.out;have:=NB189_190.out;obtain ⟨_,_,_,_,_,_⟩:=yc3 BK190))
      repeat (go_quiet (first|(go_at_call 18;(with_reducible refine (coder_Put.calls kj21 t198 t199 _ _ t200 (Int.tmod (wrap64 (a1)) t197) (wrap64 ((Int.tmod (wrap64 (a1)) t197)+1)) t197 t205 t206 t207 t210 _ ?side1 ?side2 A33.out).mono ?_);(case side1=>exact yce (Kd.R_reads' HO_205002.out).2.2);(case side2=>exact (Kd.R_reads' HO_205002.out).2.1);rintro e w38 ⟨v208,rfl,ho0,hb⟩;have HO209:=zm (Kd.R_lower (Kd.R_new' (Kd.R_new' ho0 (Kd.R_lt (yr HO_190002))) (Kd.R_lt (yr HO_205002))) (zE yhb));replace HO_190002:=zm (Kd.R_elder' (yr HO_190002) (Kd.R_base ho0) hb);replace HO_205002:=zm (Kd.R_elder' (yr HO_205002) (Kd.R_base ho0) hb);replace BK189:=ybb BK189 hb;replace BK190:=ybb BK190 hb;replace BK204:=ybb BK204 hb;replace HB:=ybs hb;(try clear hb);(try clear ho0);obtain ⟨_,_,_,_,_,_⟩:=yc3 BK204;obtain ⟨Ao40,co40,eo40⟩:=Kd.R_slice HO209.out;subst eo40;have:=NB190_189.out;have:=NB189_190.out;obtain ⟨_,_,_,_,_,_⟩:=yc3 BK190));try go_wp2_with (first|(go_at_call 18;(with_reducible refine (coder_Put.calls kj21 t198 t199 _ _ t200 (Int.tmod (wrap64 (a1)) t197) (wrap64 ((Int.tmod (wrap64 (a1)) t197)+1)) t197 t205 t206 t207 t210 _ ?side1 ?side2 A33.out).mono ?_);(case side1=>exact yce (Kd.R_reads' HO_205002.out).2.2);(case side2=>exact (Kd.R_reads' HO_205002.out).2.1);rintro e w38 ⟨v208,rfl,ho0,hb⟩;have HO209:=zm (Kd.R_lower (Kd.R_new' (Kd.R_new' ho0 (Kd.R_lt (yr HO_190002))) (Kd.R_lt (yr HO_205002))) (zE yhb));replace HO_190002:=zm (Kd.R_elder' (yr HO_190002) (Kd.R_base ho0) hb);replace HO_205002:=zm (Kd.R_elder' (yr HO_205002) (Kd.R_base ho0) hb);replace BK189:=ybb BK189 hb;replace BK190:=ybb BK190 hb;replace BK204:=ybb BK204 hb;replace HB:=ybs hb;(try clear hb);(try clear ho0);obtain ⟨_,_,_,_,_,_⟩:=yc3 BK204;obtain ⟨Ao40,co40,eo40⟩:=Kd.R_slice HO209.out;subst eo40;have:=NB190_189.out;have:=NB189_190.out;obtain ⟨_,_,_,_,_,_⟩:=yc3 BK190)))
      refine bodyPost_ret (results_ct rfl _ _ gb190 26 #[.int .u64 t205, .int .u32 t206, .slice Ao40 t207.length co40] (0,0) _ rfl (ykp BK190) Try.underlying26 rfl (by kernel_rfl)) rfl ?_
      exact ⟨_,ye,yR2 HO209 BK204 BK190,yhb⟩
     ·
      rw [if_neg c34] at H
      have c34b0 : (t210 == 0)=false:=beq_eq_false_iff_ne.mpr c34
      have c34b1 : (t210 != 0)=true:=bne_iff_ne.mpr c34
      simp only [Option.some.injEq,Prod.mk.injEq] at H
      obtain ⟨rfl,rfl,rfl,rfl⟩:=H
      have:=NB204_189.out
      have:=NB189_204.out
      have:=NB204_190.out
      have:=NB190_204.out
      obtain ⟨_,_,_,_,_,_⟩:=yc3 BK204
      go_wp2_with (first|(go_at_call 18;(with_reducible refine (coder_Put.calls kj21 t198 t199 _ _ t200 (Int.tmod (wrap64 (a1)) t197) (wrap64 ((Int.tmod (wrap64 (a1)) t197)+1)) t197 t205 t206 t207 t210 _ ?side1 ?side2 A33.out).mono ?_);(case side1=>exact yce (Kd.R_reads' HO_205002.out).2.2);(case side2=>exact (Kd.R_reads' HO_205002.out).2.1);rintro e w46 ⟨v208,rfl,ho0,hb⟩;have HO209:=zm (Kd.R_lower (Kd.R_new' (Kd.R_new' ho0 (Kd.R_lt (yr HO_190002))) (Kd.R_lt (yr HO_205002))) (zE yhb));replace HO_190002:=zm (Kd.R_elder' (yr HO_190002) (Kd.R_base ho0) hb);replace HO_205002:=zm (Kd.R_elder' (yr HO_205002) (Kd.R_base ho0) hb);replace BK189:=ybb BK189 hb;replace BK190:=ybb BK190 hb;replace BK204:=ybb BK204 hb;replace HB:=ybs hb;(try clear hb);(try clear ho0);obtain ⟨_,_,_,_,_,_⟩:=yc3 BK204;obtain ⟨Ao48,co48,eo48⟩:=Kd.R_slice HO209.out;subst eo48;have:=NB189_190.out;have:=NB190_189.out;obtain ⟨_,_,_,_,_,_⟩:=yc3 BK189;obtain ⟨_,_,_,_,_,_⟩:=yc3 BK190))
      repeat (go_quiet (first|(go_at_call 18;(with_reducible refine (coder_Put.calls kj21 t198 t199 _ _ t200 (Int.tmod (wrap64 (a1)) t197) (wrap64 ((Int.tmod (wrap64 (a1)) t197)+1)) t197 t205 t206 t207 t210 _ ?side1 ?side2 A33.out).mono ?_);(case side1=>exact yce (Kd.R_reads' HO_205002.out).2.2);(case side2=>exact (Kd.R_reads' HO_205002.out).2.1);rintro e w46 ⟨v208,rfl,ho0,hb⟩;have HO209:=zm (Kd.R_lower (Kd.R_new' (Kd.R_new' ho0 (Kd.R_lt (yr HO_190002))) (Kd.R_lt (yr HO_205002))) (zE yhb));replace HO_190002:=zm (Kd.R_elder' (yr HO_190002) (Kd.R_base ho0) hb);replace HO_205002:=zm (Kd.R_elder' (yr HO_205002) (Kd.R_base ho0) hb);replace BK189:=ybb BK189 hb;replace BK190:=ybb BK190 hb;replace BK204:=ybb BK204 hb;replace HB:=ybs hb;(try clear hb);(try clear ho0);obtain ⟨_,_,_,_,_,_⟩:=yc3 BK204;obtain ⟨Ao48,co48,eo48⟩:=Kd.R_slice HO209.out;subst eo48;have:=NB189_190.out;have:=NB190_189.out;obtain ⟨_,_,_,_,_,_⟩:=yc3 BK189;obtain ⟨_,_,_,_,_,_⟩:=yc3 BK190));try go_wp2_with (first|(go_at_call 18;(with_reducible refine (coder_Put.calls kj21 t198 t199 _ _ t200 (Int.tmod (wrap64 (a1)) t197) (wrap64 ((Int.tmod (wrap64 (a1)) t197)+1)) t197 t205 t206 t207 t210 _ ?side1 ?side2 A33.out).mono ?_);(case side1=>exact yce (Kd.R_reads' HO_205002.out).2.2);(case side2=>exact (Kd.R_reads' HO_205002.out).2.1);rintro e w46 ⟨v208,rfl,ho0,hb⟩;have HO209:=zm (Kd.R_lower (Kd.R_new' (Kd.R_new' ho0 (Kd.R_lt (yr HO_190002))) (Kd.R_lt (yr HO_205002))) (zE yhb));replace HO_190002:=zm (Kd.R_elder' (yr HO_190002) (Kd.R_base ho0) hb);replace HO_205002:=zm (Kd.R_elder' (yr HO_205002) (Kd.R_base ho0) hb);replace BK189:=ybb BK189 hb;replace BK190:=ybb BK190 hb;replace BK204:=ybb BK204 hb;replace HB:=ybs hb;(try clear hb);(try clear ho0);obtain ⟨_,_,_,_,_,_⟩:=yc3 BK204;obtain ⟨Ao48,co48,eo48⟩:=Kd.R_slice HO209.out;subst eo48;have:=NB189_190.out;have:=NB190_189.out;obtain ⟨_,_,_,_,_,_⟩:=yc3 BK189;obtain ⟨_,_,_,_,_,_⟩:=yc3 BK190)))
      refine bodyPost_ret (results_ct rfl _ _ gb190 26 #[.int .u64 t191, .int .u32 t192, .slice Ao12 t193.length co12] (0,0) _ rfl (ykp BK190) Try.underlying26 rfl (by kernel_rfl)) rfl ?_
      exact ⟨_,ye,yR2 HO_190002 BK204 BK190,yhb⟩
    ·
     replace c32:=Bool.eq_false_iff.mpr c32
     subst c32
     rw [ynf] at H
     by_cases c52 : t203=0
     ·
      rw [if_pos c52] at H
      have c52b0 : (t203 == 0)=true:=beq_iff_eq.mpr c52
      have c52b1 : (t203 != 0)=false:=bne_eq_false_iff_eq.mpr c52
      clear c52
      simp only [Option.some.injEq,Prod.mk.injEq] at H
      obtain ⟨rfl,rfl,rfl,rfl⟩:=H
      have:=NB204_189.out
      have:=NB189_204.out
      have:=NB204_190.out
      have:=NB190_204.out
      obtain ⟨_,_,_,_,_,_⟩:=yc3 BK204
      have:=NB190_189.out
      have:=NB189_190.out
      obtain ⟨_,_,_,_,_,_⟩:=yc3 BK190
      go_wp2
      repeat (go_quiet (fail);try go_wp2)
      refine bodyPost_ret (results_ct rfl _ _ gb190 26 #[.int .u64 t198, .int .u32 t199, .slice Ao30 t200.length co30] (0,0) _ rfl (ykp BK190) Try.underlying26 rfl (by kernel_rfl)) rfl ?_
      exact ⟨_,ye,yR1 HO_205002 BK190,yhb⟩
     ·
      rw [if_neg c52] at H
      have c52b0 : (t203 == 0)=false:=beq_eq_false_iff_ne.mpr c52
      have c52b1 : (t203 != 0)=true:=bne_iff_ne.mpr c52
      simp only [Option.some.injEq,Prod.mk.injEq] at H
      obtain ⟨rfl,rfl,rfl,rfl⟩:=H
      have:=NB189_190.out
      have:=NB190_189.out
      have:=NB189_204.out
      have:=NB204_189.out
      obtain ⟨_,_,_,_,_,_⟩:=yc3 BK189
      have:=NB190_204.out
      have:=NB204_190.out
      obtain ⟨_,_,_,_,_,_⟩:=yc3 BK190
      go_wp2
      repeat (go_quiet (fail);try go_wp2)
      refine bodyPost_ret (results_ct rfl _ _ gb190 26 #[.int .u64 t191, .int .u32 t192, .slice Ao12 t193.length co12] (0,0) _ rfl (ykp BK190) Try.underlying26 rfl (by kernel_rfl)) rfl ?_
      exact ⟨_,ye,yR1 HO_190002 BK190,yhb⟩
def gain_put.j0 : Nat→Int→Int→Bool→Int→Int→List Int→Option (Int × Int × List Int × Int)
 | 0,_,_,_,_,_,_=>none
 | k+1,x1,x10,x23,x212000,x212001,x212002=>if x23=true then ((coder_Put.f k x212000 x212001 x212002 (wrap64 (x10+3)) (wrap64 ((wrap64 (x10+3))+1)) 8).bind fun bt219=>(some (bt219.1,bt219.2.1,bt219.2.2.1,bt219.2.2.2))) else ((coder_Put.f k x212000 x212001 x212002 7 8 8).bind fun bt225=>(if bt225.2.2.2=0 then ((coder_PutNum.f k bt225.1 bt225.2.1 bt225.2.2.1 (IntKind.u64.wrap (x1)) 45).bind fun bt232=>(some (bt232.1,bt232.2.1,bt232.2.2.1,bt232.2.2.2))) else (some (bt225.1,bt225.2.1,bt225.2.2.1,bt225.2.2.2))))
def gain_put.f (k : Nat) (a0_0 : Int) (a0_1 : Int) (l0_2 : List Int) (a1 : Int) (a2 : Int) (a3 : Bool) : Option (Int × Int × List Int × Int):=if a3=true then ((coder_PutNum.f k a0_0 a0_1 l0_2 (IntKind.u64.wrap (a1)) 45).bind fun bt213=>(some (bt213.1,bt213.2.1,bt213.2.2.1,bt213.2.2.2))) else (if (wrap64 (a1 - a2)) ≥ (-3) then (gain_put.j0 k a1 (wrap64 (a1 - a2)) (decide ((wrap64 (a1 - a2))≤3)) a0_0 a0_1 l0_2) else (gain_put.j0 k a1 (wrap64 (a1 - a2)) false a0_0 a0_1 l0_2))
theorem gain_put.mono_l : ∀ k,(∀ y0 y1 y2 y3 y4 y5,LeO (gain_put.j0 k y0 y1 y2 y3 y4 y5) (gain_put.j0 (k+1) y0 y1 y2 y3 y4 y5))
 | 0=>fun _ _ _ _ _ _ r h=>by simp [gain_put.j0] at h
 | k+1=>by
  have ih0:=gain_put.mono_l k
  ·
   intro y0 y1 y2 y3 y4 y5
   unfold gain_put.j0
   repeat' with_reducible first|apply ih0|apply coder_Put.mono|apply coder_PutNum.mono|apply yLr|apply yLn|apply yLi|apply yLb|intro _
theorem gain_put.mono : ∀ a0 a1 a2 a3 a4 a5 k,LeO (gain_put.f k a0 a1 a2 a3 a4 a5) (gain_put.f (k+1) a0 a1 a2 a3 a4 a5):=by
 intro a0 a1 a2 a3 a4 a5 k
 have ih0:=gain_put.mono_l k
 unfold gain_put.f
 repeat' with_reducible first|apply ih0|apply coder_Put.mono|apply coder_PutNum.mono|apply yLr|apply yLn|apply yLi|apply yLb|intro _
set_option maxHeartbeats 8000000 in
set_option maxRecDepth 100000 in
theorem gain_put.calls (k : Nat) (a0_0 : Int) (a0_1 : Int) (A0_2 : Option Addr) (c0_2 : Nat) (l0_2 : List Int) (a1 : Int) (a2 : Int) (a3 : Bool) (r1 : Int) (r2 : Int) (r3 : List Int) (r4 : Int) (w : World) (hr0_2 : Kd.C (Kd.int .u8) w A0_2 l0_2.length l0_2) (hc0_2 : l0_2.length≤c0_2) (h : gain_put.f k a0_0 a0_1 l0_2 a1 a2 a3=some (r1,r2,r3,r4)) :
  Calls Try.prog 64 #[.agg #[.int .u64 a0_0, .int .u32 a0_1, .slice A0_2 l0_2.length c0_2], .int .i64 a1, .int .i64 a2, .bool a3] w fun e w' => ∃ v2_ : Value,e=.returned (.tuple #[.agg #[.int .u64 r1, .int .u32 r2,v2_], .int .i64 r4])∧Kd.R (Kd.int .u8) 5 w' w.heap.size (fun _=>True) v2_ r3∧Below w.heap.size w w' := by
 have hu26:=Try.underlying26;have HR0_2:=zm hr0_2;have HC0_2:=zm hc0_2;clear hr0_2 hc0_2;have HB:=zm (Below.refl w.heap.size w)
 have H : (if a3=true then ((coder_PutNum.f k a0_0 a0_1 l0_2 (IntKind.u64.wrap (a1)) 45).bind fun bt213=>(some (bt213.1,bt213.2.1,bt213.2.2.1,bt213.2.2.2))) else (if (wrap64 (a1 - a2)) ≥ (-3) then (gain_put.j0 k a1 (wrap64 (a1 - a2)) (decide ((wrap64 (a1 - a2))≤3)) a0_0 a0_1 l0_2) else (gain_put.j0 k a1 (wrap64 (a1 - a2)) false a0_0 a0_1 l0_2)))=some (r1,r2,r3,r4):=h
 clear h
 by_cases c5 : a3=true
 ·
  subst c5
  rw [if_pos rfl] at H
  replace H:=ybi H;obtain ⟨⟨t213,t214,t215,t218⟩,A6,H⟩:=H
  try dsimp only at H
  simp only [Option.some.injEq,Prod.mk.injEq] at H
  obtain ⟨rfl,rfl,rfl,rfl⟩:=H
  go_enter Try.func64,Try.ntmps64
  go_wp2_with (first|((with_reducible refine gate_dst (N:=4) rfl ?_);refine ybx 4 #[.int .u64 a0_0, .int .u32 a0_1, .slice A0_2 l0_2.length c0_2] 26 ?_;intro gb211 hg w7 hbox hb;have BK211:=zm (hbox);have GW211:=ygw hg;have GE211:=ygw hg;replace HB:=ybs hb;clear hb hbox hg)|((with_reducible refine gate_dst (N:=8) rfl ?_);refine ybx 8 #[.int .u64 0, .int .u32 0, .slice none 0 0] 26 ?_;intro gb212 hg w8 hbox hb;have BK212:=zm (hbox);have GW212:=ygw hg;have GE212:=ygw hg;replace HB:=ybs hb;have NB211_212:=ynl BK211 hg;have NB212_211:=yng BK211 hg;replace BK211:=ybb BK211 hb;clear hb hbox hg;have:=NB211_212.out;have:=NB212_211.out;obtain ⟨hcz10_0,hcz10_1,hcz10_2,hfz10_0,hfz10_1,hfz10_2⟩:=yc3 BK211)|((with_reducible refine gate_callee (f:=37) rfl ?_);refine ygl 46 Try.func37 #[.agg #[.int .u64 a0_0, .int .u32 a0_1, .slice A0_2 l0_2.length c0_2], .int .u64 (IntKind.u64.wrap (a1)), .int .u64 45] ?_;(with_reducible refine (coder_PutNum.calls k a0_0 a0_1 _ _ l0_2 (IntKind.u64.wrap (a1)) 45 t213 t214 t215 t218 _ ?side1 HC0_2.out A6.out).mono ?_);(case side1=>exact ycb HR0_2);rintro e w11 ⟨v216,rfl,ho0,hb⟩;refine ⟨_,rfl, ?_⟩;have HO217:=zm (Kd.R_lower ho0 (zE yhb));replace BK211:=ybb BK211 hb;replace BK212:=ybb BK212 hb;replace HB:=ybs hb;(try clear hb);(try clear ho0);obtain ⟨hcz12_0,hcz12_1,hcz12_2,hfz12_0,hfz12_1,hfz12_2⟩:=yc3 BK212;obtain ⟨Ao13,co13,eo13⟩:=Kd.R_slice HO217.out;subst eo13))
  refine bodyPost_ret (results_ct rfl _ _ gb212 26 #[.int .u64 t213, .int .u32 t214, .slice Ao13 t215.length co13] (0,0) _ rfl (ykp BK212) Try.underlying26 rfl (by kernel_rfl)) rfl ?_
  exact ⟨_,ye,yR1 HO217 BK212,yhb⟩
 ·
  replace c5:=Bool.eq_false_iff.mpr c5
  subst c5
  rw [ynf] at H
  have HC14:=zm H;clear H
  go_enter Try.func64,Try.ntmps64
  go_upto_region 3 with (first|((with_reducible refine gate_dst (N:=4) rfl ?_);refine ybx 4 #[.int .u64 a0_0, .int .u32 a0_1, .slice A0_2 l0_2.length c0_2] 26 ?_;intro gb211 hg w15 hbox hb;have BK211:=zm (hbox);have GW211:=ygw hg;have GE211:=ygw hg;replace HB:=ybs hb;clear hb hbox hg)|((with_reducible refine gate_dst (N:=8) rfl ?_);refine ybx 8 #[.int .u64 0, .int .u32 0, .slice none 0 0] 26 ?_;intro gb212 hg w16 hbox hb;have BK212:=zm (hbox);have GW212:=ygw hg;have GE212:=ygw hg;replace HB:=ybs hb;have NB211_212:=ynl BK211 hg;have NB212_211:=yng BK211 hg;replace BK211:=ybb BK211 hb;clear hb hbox hg))
  (try simp only [Act.put,List.setIfInBounds_toArray,List.set_cons_zero,List.set_cons_succ])
  go_cut [23] (fun v23 wc => ∃ (kq : Nat) (x23_13 : Bool),v23=.bool x23_13∧Aside0 (gain_put.j0 kq a1 (wrap64 (a1 - a2)) x23_13 a0_0 a0_1 l0_2=some (r1,r2,r3,r4))∧Aside0 (kq≤k)∧Aside0 (wc.heap[gb211]? = some (.cells #[.int .u64 a0_0, .int .u32 a0_1,(.slice A0_2 l0_2.length c0_2)] 26 (0,0)))∧Aside0 (wc.heap[gb212]? = some (.cells #[.int .u64 0, .int .u32 0,(.slice none 0 0)] 26 (0,0)))∧Aside0 (Below w.heap.size w wc))
  case first =>
   have H:=HC14.out;clear HC14
   by_cases c17 : (wrap64 (a1 - a2)) ≥ (-3)
   ·
    rw [if_pos c17] at H
    have c17b0 : decide ((-3)≤(wrap64 (a1 - a2)))=true:=decide_eq_true c17
    clear c17
    (first|rw [c17b0]|(simp only [i64_w,i32_w];rw [c17b0])|skip)
    have H' := zm H
    clear H
    go_wp2
    go_meet
    case rel=>exact ⟨_,(decide ((wrap64 (a1 - a2))≤3)),yq,H',⟨yo⟩,⟨yk BK211⟩,⟨yk BK212⟩,⟨yhb⟩⟩
   ·
    rw [if_neg c17] at H
    have c17b0 : decide ((-3)≤(wrap64 (a1 - a2)))=false:=decide_eq_false c17
    clear c17
    (first|rw [c17b0]|(simp only [i64_w,i32_w];rw [c17b0])|skip)
    have H' := zm H
    clear H
    go_wp2
    go_meet
    case rel=>exact ⟨_,(false),yq,H',⟨yo⟩,⟨yk BK211⟩,⟨yk BK212⟩,⟨yhb⟩⟩
  case rest =>
   clear HC14
   try clear hcz10_0
   try clear hcz10_1
   try clear hcz10_2
   try clear hcz12_0
   try clear hcz12_1
   try clear hcz12_2
   try clear hfz10_0
   try clear hfz10_1
   try clear hfz10_2
   try clear hfz12_0
   try clear hfz12_1
   try clear hfz12_2
   obtain ⟨kq,x23_13,rfl,HA,HJ13,BK211,BK212,HB⟩:=hcut
   obtain ⟨kj13,rfl⟩:=ysu kq (fun h=>by subst h;exact absurd HA.out (by simp [gain_put.j0]))
   have H:=HA.out;clear HA
   simp only [gain_put.j0] at H
   by_cases c18 : x23_13=true
   ·
    subst c18
    rw [if_pos rfl] at H
    replace H:=ybi H;obtain ⟨⟨t219,t220,t221,t224⟩,A19,H⟩:=H
    try dsimp only at H
    simp only [Option.some.injEq,Prod.mk.injEq] at H
    obtain ⟨rfl,rfl,rfl,rfl⟩:=H
    have:=NB211_212.out
    have:=NB212_211.out
    obtain ⟨_,_,_,_,_,_⟩:=yc3 BK211
    go_wp2_with (first|((with_reducible refine gate_callee (f:=18) rfl ?_);refine ygl 30 Try.func18 #[.agg #[.int .u64 a0_0, .int .u32 a0_1, .slice A0_2 l0_2.length c0_2], .int .i64 (wrap64 ((wrap64 (a1 - a2))+3)), .int .i64 (wrap64 ((wrap64 ((wrap64 (a1 - a2))+3))+1)), .int .i64 8] ?_;(with_reducible refine (coder_Put.calls kj13 a0_0 a0_1 _ _ l0_2 (wrap64 ((wrap64 (a1 - a2))+3)) (wrap64 ((wrap64 ((wrap64 (a1 - a2))+3))+1)) 8 t219 t220 t221 t224 _ ?side1 HC0_2.out A19.out).mono ?_);(case side1=>exact ycb HR0_2);rintro e w22 ⟨v222,rfl,ho0,hb⟩;refine ⟨_,rfl, ?_⟩;have HO223:=zm (Kd.R_lower ho0 (zE yhb));replace BK211:=ybb BK211 hb;replace BK212:=ybb BK212 hb;replace HB:=ybs hb;(try clear hb);(try clear ho0);obtain ⟨_,_,_,_,_,_⟩:=yc3 BK212;obtain ⟨Ao24,co24,eo24⟩:=Kd.R_slice HO223.out;subst eo24))
    refine bodyPost_ret (results_ct rfl _ _ gb212 26 #[.int .u64 t219, .int .u32 t220, .slice Ao24 t221.length co24] (0,0) _ rfl (ykp BK212) Try.underlying26 rfl (by kernel_rfl)) rfl ?_
    exact ⟨_,ye,yR1 HO223 BK212,yhb⟩
   ·
    replace c18:=Bool.eq_false_iff.mpr c18
    subst c18
    rw [ynf] at H
    replace H:=ybi H;obtain ⟨⟨t225,t226,t227,t230⟩,A25,H⟩:=H
    try dsimp only at H
    by_cases c26 : t230=0
    ·
     rw [if_pos c26] at H
     have c26b0 : (t230 == 0)=true:=beq_iff_eq.mpr c26
     have c26b1 : (t230 != 0)=false:=bne_eq_false_iff_eq.mpr c26
     clear c26
     replace H:=ybi H;obtain ⟨⟨t232,t233,t234,t237⟩,A27,H⟩:=H
     try dsimp only at H
     simp only [Option.some.injEq,Prod.mk.injEq] at H
     obtain ⟨rfl,rfl,rfl,rfl⟩:=H
     have:=NB211_212.out
     have:=NB212_211.out
     obtain ⟨_,_,_,_,_,_⟩:=yc3 BK211
     go_wp2_with (first|((with_reducible refine gate_callee (f:=18) rfl ?_);refine ygl 35 Try.func18 #[.agg #[.int .u64 a0_0, .int .u32 a0_1, .slice A0_2 l0_2.length c0_2], .int .i64 7, .int .i64 8, .int .i64 8] ?_;(with_reducible refine (coder_Put.calls kj13 a0_0 a0_1 _ _ l0_2 7 8 8 t225 t226 t227 t230 _ ?side1 HC0_2.out A25.out).mono ?_);(case side1=>exact ycb HR0_2);rintro e w30 ⟨v228,rfl,ho0,hb⟩;refine ⟨_,rfl, ?_⟩;have HO229:=zm (Kd.R_lower ho0 (zE yhb));replace BK211:=ybb BK211 hb;replace BK212:=ybb BK212 hb;replace HB:=ybs hb;(try clear hb);(try clear ho0))|((with_reducible refine gate_dst (N:=11) rfl ?_);refine ybx 11 #[.int .u64 0, .int .u32 0, .slice none 0 0] 26 ?_;intro gb231 hg w31 hbox hb;replace HO229:=yRb HO229 hb;have BK231:=zm (hbox);have GW231:=ygw hg;have GE231:=ygw hg;replace HB:=ybs hb;have NB211_231:=ynl BK211 hg;have NB231_211:=yng BK211 hg;replace BK211:=ybb BK211 hb;have NB212_231:=ynl BK212 hg;have NB231_212:=yng BK212 hg;replace BK212:=ybb BK212 hb;clear hb hbox hg;have:=NB231_211.out;have:=NB211_231.out;have:=NB231_212.out;have:=NB212_231.out;obtain ⟨_,_,_,_,_,_⟩:=yc3 BK231;obtain ⟨Ao35,co35,eo35⟩:=Kd.R_slice HO229.out;subst eo35;obtain ⟨_,_,_,_,_,_⟩:=yc3 BK211)|((with_reducible refine gate_callee (f:=37) rfl ?_);refine ygl 46 Try.func37 #[.agg #[.int .u64 t225, .int .u32 t226, .slice Ao35 t227.length co35], .int .u64 (IntKind.u64.wrap (a1)), .int .u64 45] ?_;(with_reducible refine (coder_PutNum.calls kj13 t225 t226 _ _ t227 (IntKind.u64.wrap (a1)) 45 t232 t233 t234 t237 _ ?side1 ?side2 A27.out).mono ?_);(case side1=>refine (Kd.R_reads' (e:=5) (base:=w.heap.size) (ok:=fun k_=>True) (n:=t227.length) (c:=co35) ?_).2.2;exact (yR2 HO229 BK231 BK211));(case side2=>exact (Kd.R_reads' HO229.out).2.1);rintro e w37 ⟨v235,rfl,ho0,hb⟩;refine ⟨_,rfl, ?_⟩;have HO236:=zm (Kd.R_lower (Kd.R_new' ho0 (Kd.R_lt (yR2 HO229 BK231 BK211))) (zE yhb));replace HO229:=zm (Kd.R_elder' (yR2 HO229 BK231 BK211) (Kd.R_base ho0) hb);replace BK211:=zm (zF (g:=gb211) (o:=.cells #[.int .u64 t225, .int .u32 t226, .slice Ao35 t227.length co35] 26 (0,0)) (ykp BK211) hb);replace BK212:=ybb BK212 hb;replace BK231:=zm (zF (g:=gb231) (o:=.cells #[.int .u64 t225, .int .u32 t226, .slice Ao35 t227.length co35] 26 (0,0)) (ykp BK231) hb);replace HB:=ybs hb;(try clear hb);(try clear ho0);obtain ⟨_,_,_,_,_,_⟩:=yc3 BK212;obtain ⟨Ao39,co39,eo39⟩:=Kd.R_slice HO236.out;subst eo39))
     refine bodyPost_ret (results_ct rfl _ _ gb212 26 #[.int .u64 t232, .int .u32 t233, .slice Ao39 t234.length co39] (0,0) _ rfl (ykp BK212) Try.underlying26 rfl (by kernel_rfl)) rfl ?_
     exact ⟨_,ye,yR1 HO236 BK212,yhb⟩
    ·
     rw [if_neg c26] at H
     have c26b0 : (t230 == 0)=false:=beq_eq_false_iff_ne.mpr c26
     have c26b1 : (t230 != 0)=true:=bne_iff_ne.mpr c26
     simp only [Option.some.injEq,Prod.mk.injEq] at H
     obtain ⟨rfl,rfl,rfl,rfl⟩:=H
     have:=NB211_212.out
     have:=NB212_211.out
     obtain ⟨_,_,_,_,_,_⟩:=yc3 BK211
     go_wp2_with (first|((with_reducible refine gate_callee (f:=18) rfl ?_);refine ygl 35 Try.func18 #[.agg #[.int .u64 a0_0, .int .u32 a0_1, .slice A0_2 l0_2.length c0_2], .int .i64 7, .int .i64 8, .int .i64 8] ?_;(with_reducible refine (coder_Put.calls kj13 a0_0 a0_1 _ _ l0_2 7 8 8 t225 t226 t227 t230 _ ?side1 HC0_2.out A25.out).mono ?_);(case side1=>exact ycb HR0_2);rintro e w42 ⟨v228,rfl,ho0,hb⟩;refine ⟨_,rfl, ?_⟩;have HO229:=zm (Kd.R_lower ho0 (zE yhb));replace BK211:=ybb BK211 hb;replace BK212:=ybb BK212 hb;replace HB:=ybs hb;(try clear hb);(try clear ho0))|((with_reducible refine gate_dst (N:=11) rfl ?_);refine ybx 11 #[.int .u64 0, .int .u32 0, .slice none 0 0] 26 ?_;intro gb231 hg w43 hbox hb;replace HO229:=yRb HO229 hb;have BK231:=zm (hbox);have GW231:=ygw hg;have GE231:=ygw hg;replace HB:=ybs hb;have NB211_231:=ynl BK211 hg;have NB231_211:=yng BK211 hg;replace BK211:=ybb BK211 hb;have NB212_231:=ynl BK212 hg;have NB231_212:=yng BK212 hg;replace BK212:=ybb BK212 hb;clear hb hbox hg;have:=NB231_211.out;have:=NB211_231.out;have:=NB231_212.out;have:=NB212_231.out;obtain ⟨_,_,_,_,_,_⟩:=yc3 BK231;obtain ⟨Ao47,co47,eo47⟩:=Kd.R_slice HO229.out;subst eo47;obtain ⟨_,_,_,_,_,_⟩:=yc3 BK212))
     refine bodyPost_ret (results_ct rfl _ _ gb212 26 #[.int .u64 t225, .int .u32 t226, .slice Ao47 t227.length co47] (0,0) _ rfl (ykp BK212) Try.underlying26 rfl (by kernel_rfl)) rfl ?_
     exact ⟨_,ye,yR2 HO229 BK231 BK212,yhb⟩
mutual
def gain_Put.j0 : Nat→List Int→List Int→Bool→Bool→Int→Int→List Int→Int→Int→List Int→Option (Int × Int × List Int × Int)
 | 0,_,_,_,_,_,_,_,_,_,_=>none
 | k+1,x1,x2,x3,x33,x239000,x239001,x239002,x247000,x247001,x247002=>if x33=true then (some (x247000,x247001,x247002,1)) else (gain_Put.l0 k x1 x2 x3 0 x247000 x247001 x247002 x239000 x239001 x239002)
def gain_Put.l0 : Nat→List Int→List Int→Bool→Int→Int→Int→List Int→Int→Int→List Int→Option (Int × Int × List Int × Int)
 | 0,_,_,_,_,_,_,_,_,_,_=>none
 | k+1,x1,x2,x3,x36,x247000,x247001,x247002,x250000,x250001,x250002=>if x36 < 5 then (if x3=true then (gain_Put.j2 k x1 x2 x3 x36 0 x36 x247000 x247001 x247002 x250000 x250001 x250002) else (if 0≤x36 then (if x36 < (x2.length : Int) then (gain_Put.j2 k x1 x2 x3 x36 (rd x2 x36) x36 x247000 x247001 x247002 x250000 x250001 x250002) else (none)) else (none))) else (some (x250000,x250001,x250002,0))
def gain_Put.j2 : Nat→List Int→List Int→Bool→Int→Int→Int→Int→Int→List Int→Int→Int→List Int→Option (Int × Int × List Int × Int)
 | 0,_,_,_,_,_,_,_,_,_,_,_,_=>none
 | k+1,x1,x2,x3,x13,x14,x36,x247000,x247001,x247002,x250000,x250001,x250002=>if 0≤x13 then (if x13 < (x1.length : Int) then ((gain_put.f k x250000 x250001 x250002 (rd x1 x13) x14 x3).bind fun bt252=>(if bt252.2.2.2=0 then (gain_Put.l0 k x1 x2 x3 (wrap64 (x36+1)) x247000 x247001 x247002 bt252.1 bt252.2.1 bt252.2.2.1) else (some (x247000,x247001,x247002,bt252.2.2.2)))) else (none)) else (none)
end
def gain_Put.f (k : Nat) (a0_0 : Int) (a0_1 : Int) (l0_2 : List Int) (l1 : List Int) (l2 : List Int) (a3 : Bool) : Option (Int × Int × List Int × Int):=(coder_Put.f k a0_0 a0_1 l0_2 0 1 0).bind fun bt240=>((gain_Right.f k l1).bind fun t247=>(if t247=true then (if a3=true then (gain_Put.j0 k l1 l2 a3 false a0_0 a0_1 l0_2 bt240.1 bt240.2.1 bt240.2.2.1) else ((gain_Right.f k l2).bind fun t248=>(gain_Put.j0 k l1 l2 a3 (!t248) a0_0 a0_1 l0_2 bt240.1 bt240.2.1 bt240.2.2.1))) else (gain_Put.j0 k l1 l2 a3 true a0_0 a0_1 l0_2 bt240.1 bt240.2.1 bt240.2.2.1)))
theorem gain_Put.mono_l : ∀ k,(∀ y0 y1 y2 y3 y4 y5 y6 y7 y8 y9,LeO (gain_Put.j0 k y0 y1 y2 y3 y4 y5 y6 y7 y8 y9) (gain_Put.j0 (k+1) y0 y1 y2 y3 y4 y5 y6 y7 y8 y9))∧(∀ y0 y1 y2 y3 y4 y5 y6 y7 y8 y9,LeO (gain_Put.l0 k y0 y1 y2 y3 y4 y5 y6 y7 y8 y9) (gain_Put.l0 (k+1) y0 y1 y2 y3 y4 y5 y6 y7 y8 y9))∧(∀ y0 y1 y2 y3 y4 y5 y6 y7 y8 y9 y10 y11,LeO (gain_Put.j2 k y0 y1 y2 y3 y4 y5 y6 y7 y8 y9 y10 y11) (gain_Put.j2 (k+1) y0 y1 y2 y3 y4 y5 y6 y7 y8 y9 y10 y11))
 | 0=>⟨fun _ _ _ _ _ _ _ _ _ _ r h=>by simp [gain_Put.j0] at h,fun _ _ _ _ _ _ _ _ _ _ r h=>by simp [gain_Put.l0] at h,fun _ _ _ _ _ _ _ _ _ _ _ _ r h=>by simp [gain_Put.j2] at h⟩
 | k+1=>by
  obtain ⟨ih0,ih1,ih2⟩:=gain_Put.mono_l k
  refine ⟨?_, ?_, ?_⟩
  ·
   intro y0 y1 y2 y3 y4 y5 y6 y7 y8 y9
   unfold gain_Put.j0
   repeat' with_reducible first|apply ih0|apply ih1|apply ih2|apply coder_Put.mono|apply gain_Right.mono|apply gain_put.mono|apply yLr|apply yLn|apply yLi|apply yLb|intro _
  ·
   intro y0 y1 y2 y3 y4 y5 y6 y7 y8 y9
   unfold gain_Put.l0
   repeat' with_reducible first|apply ih0|apply ih1|apply ih2|apply coder_Put.mono|apply gain_Right.mono|apply gain_put.mono|apply yLr|apply yLn|apply yLi|apply yLb|intro _
  ·
   intro y0 y1 y2 y3 y4 y5 y6 y7 y8 y9 y10 y11
   unfold gain_Put.j2
   repeat' with_reducible first|apply ih0|apply ih1|apply ih2|apply coder_Put.mono|apply gain_Right.mono|apply gain_put.mono|apply yLr|apply yLn|apply yLi|apply yLb|intro _
theorem gain_Put.mono : ∀ a0 a1 a2 a3 a4 a5 k,LeO (gain_Put.f k a0 a1 a2 a3 a4 a5) (gain_Put.f (k+1) a0 a1 a2 a3 a4 a5):=by
 intro a0 a1 a2 a3 a4 a5 k
 obtain ⟨ih0,ih1,ih2⟩:=gain_Put.mono_l k
 unfold gain_Put.f
 repeat' with_reducible first|apply ih0|apply ih1|apply ih2|apply coder_Put.mono|apply gain_Right.mono|apply gain_put.mono|apply yLr|apply yLn|apply yLi|apply yLb|intro _
def gain_Put.T11 : Bool × List (List Nat × List Nat):=(true, [([], []),([], []),([], []),([1,2], [1,2]),([3], [3]),([], []),([], []),([0,4,5,6], [0,4,5,6]),([7], [7]),([8], [8]),([8], [8]),([], []),([11,9,7,0,1,2,3,4,5,6,7,8,9,11], [9,11]),([10,12,0,1,2,3,4,5,6,7,8,9,10,11,12], [10])])
def gain_Put.B11 : List Nat := [0,0,0,6,14,0,0,127,255,511,511,0,3071,8191]
theorem gain_Put.tab11 : rtab .any (opsOf Try.f43 11)=gain_Put.T11:=by kernel_rfl
theorem gain_Put.bits11 : waitsOk gain_Put.T11.2 gain_Put.B11=true:=by kernel_rfl
set_option maxHeartbeats 8000000 in
set_option maxRecDepth 100000 in
theorem gain_Put.calls (k : Nat) (a0_0 : Int) (a0_1 : Int) (P0_2_ : Nat→Prop) (A0_2 : Option Addr) (c0_2 : Nat) (l0_2 : List Int) (A1 : Option Addr) (c1 : Nat) (l1 : List Int) (A2 : Option Addr) (c2 : Nat) (l2 : List Int) (a3 : Bool) (r1 : Int) (r2 : Int) (r3 : List Int) (r4 : Int) (w : World) (hs0_2 : Kd.V (Kd.int .u8) 5 w w.heap.size (fun k_=>P0_2_ k_) (.slice A0_2 l0_2.length c0_2) l0_2) (hr1 : Kd.C (Kd.int .i64) w A1 l1.length l1) (hc1 : l1.length≤c1) (hr2 : Kd.C (Kd.int .i64) w A2 l2.length l2) (hc2 : l2.length≤c2) (h : gain_Put.f k a0_0 a0_1 l0_2 l1 l2 a3=some (r1,r2,r3,r4)) :
  Calls Try.prog 43 #[.agg #[.int .u64 a0_0, .int .u32 a0_1, .slice A0_2 l0_2.length c0_2], .slice A1 l1.length c1, .slice A2 l2.length c2, .bool a3] w fun e w' => ∃ v2_ : Value,e=.returned (.tuple #[.agg #[.int .u64 r1, .int .u32 r2,v2_], .int .i64 r4])∧Kd.V (Kd.int .u8) 5 w' w.heap.size (fun k_=>(P0_2_ k_∨w.heap.size≤k_)) v2_ r3∧Below w.heap.size w w' := by
 have hu26:=Try.underlying26
 have HO0_2:=zm (show Kd.V (Kd.int .u8) 5 w w.heap.size (fun k_=>(P0_2_ k_∨w.heap.size≤k_)) (.slice A0_2 l0_2.length c0_2) l0_2 from zy hs0_2 (fun k_ hk => .inl hk))
 have HR1:=zm hr1;have HC1:=zm hc1;clear hr1 hc1;have HR2:=zm hr2;have HC2:=zm hc2;clear hr2 hc2;have HB:=zm (Below.refl w.heap.size w)
 have H : ((coder_Put.f k a0_0 a0_1 l0_2 0 1 0).bind fun bt240=>((gain_Right.f k l1).bind fun t247=>(if t247=true then (if a3=true then (gain_Put.j0 k l1 l2 a3 false a0_0 a0_1 l0_2 bt240.1 bt240.2.1 bt240.2.2.1) else ((gain_Right.f k l2).bind fun t248=>(gain_Put.j0 k l1 l2 a3 (!t248) a0_0 a0_1 l0_2 bt240.1 bt240.2.1 bt240.2.2.1))) else (gain_Put.j0 k l1 l2 a3 true a0_0 a0_1 l0_2 bt240.1 bt240.2.1 bt240.2.2.1))))=some (r1,r2,r3,r4):=h
 clear h
 replace H:=ybi H;obtain ⟨⟨t240,t241,t242,t245⟩,A5,H⟩:=H
 try dsimp only at H
 have HC6:=zm H;clear H
 go_enter Try.func43,Try.ntmps43
 go_upto_region 2 with (first|((with_reducible refine gate_dst (N:=4) rfl ?_);refine ybx 4 #[.int .u64 a0_0, .int .u32 a0_1, .slice A0_2 l0_2.length c0_2] 26 ?_;intro gb238 hg w7 hbox hb;replace HO0_2:=yVe HO0_2 hg hb;have BK238:=zm (hbox);have GW238:=ygw hg;have GE238:=ygw hg;replace HB:=ybs hb;clear hb hbox hg)|((with_reducible refine gate_dst (N:=8) rfl ?_);refine ybx 8 #[.int .u64 0, .int .u32 0, .slice none 0 0] 26 ?_;intro gb239 hg w8 hbox hb;replace HO0_2:=yVe HO0_2 hg hb;have BK239:=zm (hbox);have GW239:=ygw hg;have GE239:=ygw hg;replace HB:=ybs hb;have NB238_239:=ynl BK238 hg;have NB239_238:=yng BK238 hg;replace BK238:=ybb BK238 hb;clear hb hbox hg;have:=NB238_239.out;have:=NB239_238.out;obtain ⟨hcz10_0,hcz10_1,hcz10_2,hfz10_0,hfz10_1,hfz10_2⟩:=yc3 BK238)|((with_reducible refine gate_callee (f:=18) rfl ?_);refine ygl 19 Try.func18 #[.agg #[.int .u64 a0_0, .int .u32 a0_1, .slice A0_2 l0_2.length c0_2], .int .i64 0, .int .i64 1, .int .i64 0] ?_;(with_reducible refine (coder_Put.calls k a0_0 a0_1 _ _ l0_2 0 1 0 t240 t241 t242 t245 _ ?side1 ?side2 A5.out).mono ?_);(case side1=>exact yce (Kd.V_reads' HO0_2.out).2.2);(case side2=>exact (Kd.V_reads' HO0_2.out).2.1);rintro e w11 ⟨v243,rfl,ho0,hb⟩;refine ⟨_,rfl, ?_⟩;replace HO0_2:=zm (Kd.V_elder' (yr HO0_2) (Kd.R_base ho0) hb);have HO244:=zm (Kd.R_lower (Kd.R_newM (M:=fun k_=>(w.heap.size≤k_)) ho0 (zE yhb) (fun k_ h_=>h_)) (zE yhb));replace BK238:=ybb BK238 hb;replace BK239:=ybb BK239 hb;replace HB:=ybs hb;(try clear hb);(try clear ho0))|((with_reducible refine gate_dst (N:=10) rfl ?_);refine ybx 10 #[.int .u64 0, .int .u32 0, .slice none 0 0] 26 ?_;intro gb246 hg w12 hbox hb;replace HO0_2:=yVe HO0_2 hg hb;replace HO244:=yRb HO244 hb;have BK246:=zm (hbox);have GW246:=ygw hg;have GE246:=ygw hg;replace HB:=ybs hb;have NB238_246:=ynl BK238 hg;have NB246_238:=yng BK238 hg;replace BK238:=ybb BK238 hb;have NB239_246:=ynl BK239 hg;have NB246_239:=yng BK239 hg;replace BK239:=ybb BK239 hb;clear hb hbox hg;have:=NB246_238.out;have:=NB238_246.out;have:=NB246_239.out;have:=NB239_246.out;obtain ⟨hcz15_0,hcz15_1,hcz15_2,hfz15_0,hfz15_1,hfz15_2⟩:=yc3 BK246;obtain ⟨Ao16,co16,eo16⟩:=Kd.R_slice HO244.out;subst eo16))
 (try simp only [Act.put,List.setIfInBounds_toArray,List.set_cons_zero,List.set_cons_succ])
 go_cut [33] (fun v33 wc => ∃ (kq : Nat) (x33_5 : Bool),v33=.bool x33_5∧Aside0 (gain_Put.j0 kq l1 l2 a3 x33_5 a0_0 a0_1 l0_2 t240 t241 t242=some (r1,r2,r3,r4))∧Aside0 (kq≤k)∧Aside0 (Kd.V (Kd.int .u8) 5 wc w.heap.size (fun k_=>(P0_2_ k_∨w.heap.size≤k_)∧some k_≠((.slice Ao16 t242.length co16) : Value).ownBlock∧k_≠gb238∧k_≠gb239∧k_≠gb246) (.slice A0_2 l0_2.length c0_2) l0_2)∧Aside0 (Kd.R (Kd.int .u8) 5 wc w.heap.size (fun k_=>(w.heap.size≤k_)) (.slice Ao16 t242.length co16) t242)∧Aside0 (wc.heap[gb238]? = some (.cells #[.int .u64 a0_0, .int .u32 a0_1,(.slice A0_2 l0_2.length c0_2)] 26 (0,0)))∧Aside0 (wc.heap[gb239]? = some (.cells #[.int .u64 0, .int .u32 0,(.slice none 0 0)] 26 (0,0)))∧Aside0 (wc.heap[gb246]? = some (.cells #[.int .u64 t240, .int .u32 t241,(.slice Ao16 t242.length co16)] 26 (0,0)))∧Aside0 (Below w.heap.size w wc))
 case first =>
  have H:=HC6.out;clear HC6
  replace H:=ybi H;obtain ⟨t247,A17,H⟩:=H
  by_cases c18 : t247=true
  ·
   subst c18
   rw [if_pos rfl] at H
   by_cases c19 : a3=true
   ·
    subst c19
    rw [if_pos rfl] at H
    have H' := zm H
    clear H
    go_wp2_with (first|((with_reducible refine gate_callee (f:=45) rfl ?_);refine ygl 23 Try.func45 #[.slice A1 l1.length c1] ?_;(with_reducible refine (gain_Right.calls k _ _ l1 true _ ?side1 HC1.out A17.out).mono ?_);(case side1=>exact Kd.C_below HR1.out yhb);rintro e w' ⟨rfl,⟨nd,rfl⟩⟩;refine ⟨_,rfl, ?_⟩))
    go_meet
    case rel=>exact ⟨_,(false),yq,H',⟨yo⟩,⟨yV0 HO0_2⟩,⟨yR1 HO244 BK246⟩,⟨yk BK238⟩,⟨yk BK239⟩,⟨ykp BK246⟩,⟨yhb⟩⟩
   ·
    replace c19:=Bool.eq_false_iff.mpr c19
    subst c19
    rw [ynf] at H
    replace H:=ybi H;obtain ⟨t248,A20,H⟩:=H
    have H' := zm H
    clear H
    go_wp2_with (first|((with_reducible refine gate_callee (f:=45) rfl ?_);refine ygl 23 Try.func45 #[.slice A1 l1.length c1] ?_;(with_reducible refine (gain_Right.calls k _ _ l1 true _ ?side1 HC1.out A17.out).mono ?_);(case side1=>exact Kd.C_below HR1.out yhb);rintro e w' ⟨rfl,⟨nd,rfl⟩⟩;refine ⟨_,rfl, ?_⟩)|(go_at_call 45;(with_reducible refine (gain_Right.calls k _ _ l2 t248 _ ?side1 HC2.out A20.out).mono ?_);(case side1=>exact Kd.C_below HR2.out yhb);rintro e w' ⟨rfl,⟨nd,rfl⟩⟩))
    go_meet
    case rel=>exact ⟨_,(!t248),yq,H',⟨yo⟩,⟨yV0 HO0_2⟩,⟨yR1 HO244 BK246⟩,⟨yk BK238⟩,⟨yk BK239⟩,⟨ykp BK246⟩,⟨yhb⟩⟩
  ·
   replace c18:=Bool.eq_false_iff.mpr c18
   subst c18
   rw [ynf] at H
   have H' := zm H
   clear H
   go_wp2_with (first|((with_reducible refine gate_callee (f:=45) rfl ?_);refine ygl 23 Try.func45 #[.slice A1 l1.length c1] ?_;(with_reducible refine (gain_Right.calls k _ _ l1 false _ ?side1 HC1.out A17.out).mono ?_);(case side1=>exact Kd.C_below HR1.out yhb);rintro e w' ⟨rfl,⟨nd,rfl⟩⟩;refine ⟨_,rfl, ?_⟩))
   go_meet
   case rel=>exact ⟨_,(true),yq,H',⟨yo⟩,⟨yV0 HO0_2⟩,⟨yR1 HO244 BK246⟩,⟨yk BK238⟩,⟨yk BK239⟩,⟨ykp BK246⟩,⟨yhb⟩⟩
 case rest =>
  clear HC6
  try clear c1
  try clear c2
  try clear hcz10_0
  try clear hcz10_1
  try clear hcz10_2
  try clear hcz15_0
  try clear hcz15_1
  try clear hcz15_2
  try clear hfz10_0
  try clear hfz10_1
  try clear hfz10_2
  try clear hfz15_0
  try clear hfz15_1
  try clear hfz15_2
  obtain ⟨kq,x33_5,rfl,HA,HJ5,HO_239002,HO_247002,BK238,BK239,BK246,HB⟩:=hcut
  obtain ⟨kj5,rfl⟩:=ysu kq (fun h=>by subst h;exact absurd HA.out (by simp [gain_Put.j0]))
  have H:=HA.out;clear HA
  simp only [gain_Put.j0] at H
  by_cases c21 : x33_5=true
  ·
   subst c21
   rw [if_pos rfl] at H
   simp only [Option.some.injEq,Prod.mk.injEq] at H
   obtain ⟨rfl,rfl,rfl,rfl⟩:=H
   have:=NB246_238.out
   have:=NB238_246.out
   have:=NB246_239.out
   have:=NB239_246.out
   obtain ⟨hcz24_0,hcz24_1,hcz24_2,hfz24_0,hfz24_1,hfz24_2⟩:=yc3 BK246
   have:=NB239_238.out
   have:=NB238_239.out
   obtain ⟨hcz26_0,hcz26_1,hcz26_2,hfz26_0,hfz26_1,hfz26_2⟩:=yc3 BK239
   go_wp2
   refine bodyPost_ret (results_ct rfl _ _ gb239 26 #[.int .u64 t240, .int .u32 t241, .slice Ao16 t242.length co16] (0,0) _ rfl (ykp BK239) Try.underlying26 rfl (by kernel_rfl)) rfl ?_
   exact ⟨_,ye,zy (Kd.R_V (by (with_reducible repeat (first|apply zo|apply zp|apply zq));exact zG (zH (p:=⟨gb239,2,none⟩) (zH (p:=⟨gb239,1,none⟩) (zH (p:=⟨gb239,0,none⟩) (Kd.R_types HO_247002.out BK239.out (by decide)) (fun _ hk=>hk.2) (.int .u64 t240)) (fun _ hk=>hk.2) (.int .u32 t241)) (fun _ hk=>hk.2) (.slice Ao16 t242.length co16)) (fun _ hk=>hk.1))) (fun k_ hk=>by first|exact ⟨(.inr (hk.1)),hk.2⟩|exact (.inr (hk))),yhb⟩
  ·
   replace c21:=Bool.eq_false_iff.mpr c21
   subst c21
   rw [ynf] at H
   have H' := zm H
   clear H
   have:=NB238_239.out
   have:=NB239_238.out
   have:=NB238_246.out
   have:=NB246_238.out
   obtain ⟨hcz29_0,hcz29_1,hcz29_2,hfz29_0,hfz29_1,hfz29_2⟩:=yc3 BK238
   go_wp2_with (first|((with_reducible refine gate_dst (N:=12) rfl ?_);refine ybx 12 #[.int .u64 0, .int .u32 0, .slice none 0 0] 26 ?_;intro gb249 hg w30 hbox hb;replace HO_239002:=yVe HO_239002 hg hb;replace HO_247002:=yRb HO_247002 hb;have BK249:=zm (hbox);have GW249:=ygw hg;have GE249:=ygw hg;replace HB:=ybs hb;have NB238_249:=ynl BK238 hg;have NB249_238:=yng BK238 hg;replace BK238:=ybb BK238 hb;have NB239_249:=ynl BK239 hg;have NB249_239:=yng BK239 hg;replace BK239:=ybb BK239 hb;have NB246_249:=ynl BK246 hg;have NB249_246:=yng BK246 hg;replace BK246:=ybb BK246 hb;clear hb hbox hg;have:=NB249_238.out;have:=NB238_249.out;have:=NB249_239.out;have:=NB239_249.out;have:=NB249_246.out;have:=NB246_249.out;obtain ⟨hcz34_0,hcz34_1,hcz34_2,hfz34_0,hfz34_1,hfz34_2⟩:=yc3 BK249))
   go_loopg [36] kj5 (fun kq v36 w' => ∃ (x36_2 : Int) (x240000_2 : Int) (x240001_2 : Int) (x250000_2 : Int) (x250001_2 : Int) (x250002_2 : List Int) (u250002 : Value),v36=.int .i64 x36_2∧Aside0 (gain_Put.l0 kq l1 l2 a3 x36_2 t240 t241 t242 x250000_2 x250001_2 x250002_2=some (r1,r2,r3,r4))∧Aside0 (kq≤kj5)∧Aside0 (Kd.V (Kd.int .u8) 5 w' w.heap.size (fun k_=>(P0_2_ k_∨w.heap.size≤k_)∧some k_≠((.slice Ao16 t242.length co16) : Value).ownBlock∧k_≠gb238∧k_≠gb239∧k_≠gb246∧k_≠gb249) (.slice A0_2 l0_2.length c0_2) l0_2)∧Aside0 (Kd.R (Kd.int .u8) 5 w' w.heap.size (fun k_=>(w.heap.size≤k_)) (.slice Ao16 t242.length co16) t242)∧Aside0 (Kd.V (Kd.int .u8) 5 w' w.heap.size (fun k_=>(P0_2_ k_∨w.heap.size≤k_)∧some k_≠((.slice Ao16 t242.length co16) : Value).ownBlock∧k_≠gb238∧k_≠gb239∧k_≠gb246∧k_≠gb249) u250002 x250002_2)∧Aside0 (w'.heap[gb238]? = some (.cells #[.int .u64 a0_0, .int .u32 a0_1,(.slice A0_2 l0_2.length c0_2)] 26 (0,0)))∧Aside0 (w'.heap[gb239]? = some (.cells #[.int .u64 x240000_2, .int .u32 x240001_2,(.slice none 0 0)] 26 (0,0)))∧Aside0 (w'.heap[gb246]? = some (.cells #[.int .u64 t240, .int .u32 t241,(.slice Ao16 t242.length co16)] 26 (0,0)))∧Aside0 (w'.heap[gb249]? = some (.cells #[.int .u64 x250000_2, .int .u32 x250001_2,u250002] 26 (0,0)))∧Aside0 (Below w.heap.size w w'))
   case atStart=>exact ⟨(0),(0),(0),(a0_0),(a0_1),(l0_2),(.slice A0_2 l0_2.length c0_2),yq,H',⟨Nat.le_refl _⟩,⟨yV0 HO_239002⟩,⟨yR1 HO_247002 BK249⟩,⟨yV0 HO_239002⟩,⟨yk BK238⟩,⟨yk BK239⟩,⟨yk BK246⟩,⟨ykp BK249⟩,⟨yhb⟩⟩
   case round =>
    clear H'
    try clear hcz24_0
    try clear hcz24_1
    try clear hcz24_2
    try clear hcz26_0
    try clear hcz26_1
    try clear hcz26_2
    try clear hcz29_0
    try clear hcz29_1
    try clear hcz29_2
    try clear hcz34_0
    try clear hcz34_1
    try clear hcz34_2
    try clear hfz24_0
    try clear hfz24_1
    try clear hfz24_2
    try clear hfz26_0
    try clear hfz26_1
    try clear hfz26_2
    try clear hfz29_0
    try clear hfz29_1
    try clear hfz29_2
    try clear hfz34_0
    try clear hfz34_1
    try clear hfz34_2
    obtain ⟨x36_2,x240000_2,x240001_2,x250000_2,x250001_2,x250002_2,u250002,rfl,HA,HK2,HO_239002,HO_247002,HO_250002,BK238,BK239,BK246,BK249,HB⟩:=hrel
    obtain ⟨k2,rfl⟩:=ysu gk (fun h=>by subst h;exact absurd HA.out (by simp [gain_Put.l0]))
    have H:=HA.out;clear HA
    simp only [gain_Put.l0] at H
    by_cases c35 : x36_2 < 5
    ·
     rw [if_pos c35] at H
     have c35b0 : decide (x36_2 < 5)=true:=decide_eq_true c35
     clear c35;have HC36:=zm H;clear H
     go_upto_if 40 with (fail)
     go_cut [14] (fun v14 wc => ∃ (kq : Nat) (x14_35 : Int),v14=.int .i64 x14_35∧Aside0 (gain_Put.j2 kq l1 l2 a3 x36_2 x14_35 x36_2 t240 t241 t242 x250000_2 x250001_2 x250002_2=some (r1,r2,r3,r4))∧Aside0 (kq≤k2)∧Aside0 (Kd.V (Kd.int .u8) 5 wc w.heap.size (fun k_=>(P0_2_ k_∨w.heap.size≤k_)∧some k_≠((.slice Ao16 t242.length co16) : Value).ownBlock∧k_≠gb238∧k_≠gb239∧k_≠gb246∧k_≠gb249) (.slice A0_2 l0_2.length c0_2) l0_2)∧Aside0 (Kd.R (Kd.int .u8) 5 wc w.heap.size (fun k_=>(w.heap.size≤k_)) (.slice Ao16 t242.length co16) t242)∧Aside0 (Kd.V (Kd.int .u8) 5 wc w.heap.size (fun k_=>(P0_2_ k_∨w.heap.size≤k_)∧some k_≠((.slice Ao16 t242.length co16) : Value).ownBlock∧k_≠gb238∧k_≠gb239∧k_≠gb246∧k_≠gb249) u250002 x250002_2)∧Aside0 (wc.heap[gb238]? = some (.cells #[.int .u64 a0_0, .int .u32 a0_1,(.slice A0_2 l0_2.length c0_2)] 26 (0,0)))∧Aside0 (wc.heap[gb239]? = some (.cells #[.int .u64 x240000_2, .int .u32 x240001_2,(.slice none 0 0)] 26 (0,0)))∧Aside0 (wc.heap[gb246]? = some (.cells #[.int .u64 t240, .int .u32 t241,(.slice Ao16 t242.length co16)] 26 (0,0)))∧Aside0 (wc.heap[gb249]? = some (.cells #[.int .u64 x250000_2, .int .u32 x250001_2,u250002] 26 (0,0)))∧Aside0 (Below w.heap.size w wc))
     case first =>
      have H:=HC36.out;clear HC36
      by_cases c37 : a3=true
      ·
       subst c37
       rw [if_pos rfl] at H
       have H' := zm H
       clear H
       go_wp2
       go_meet
       case rel=>exact ⟨_,(0),yq,H',⟨yom2 HJ5 HK2⟩,⟨yr HO_239002⟩,⟨yr HO_247002⟩,⟨yr HO_250002⟩,⟨yk BK238⟩,⟨yk BK239⟩,⟨yk BK246⟩,⟨yk BK249⟩,⟨yhb⟩⟩
      ·
       replace c37:=Bool.eq_false_iff.mpr c37
       subst c37
       rw [ynf] at H
       replace H:=yif H;obtain ⟨c38,H⟩:=H
       have c38b0 : decide (0≤x36_2)=true:=decide_eq_true c38
       clear c38
       (first|rw [c38b0]|(simp only [i64_w,i32_w];rw [c38b0])|skip)
       replace H:=yif H;obtain ⟨c39,H⟩:=H
       have c39b0 : decide (x36_2 < (l2.length : Int))=true:=decide_eq_true c39
       clear c39
       have H' := zm H
       clear H
       have p250 : 0≤(x36_2 : Int):=yt
       have q250 : x36_2 < (l2.length : Int):=yt
       obtain ⟨ad250,e250,hx250_0⟩:=Kd.at_int HR2.out x36_2 p250 q250
       cases e250
       replace hx250_0:=yhx HB hx250_0
       replace p250:=eq_true p250
       replace q250:=eq_true q250
       go_wp2
       go_meet
       case rel=>exact ⟨_,(rd l2 x36_2),yq,H',⟨yom2 HJ5 HK2⟩,⟨yr HO_239002⟩,⟨yr HO_247002⟩,⟨yr HO_250002⟩,⟨yk BK238⟩,⟨yk BK239⟩,⟨yk BK246⟩,⟨yk BK249⟩,⟨yhb⟩⟩
     case rest =>
      clear HC36
      try clear c35b0
      obtain ⟨kq,x14_35,rfl,HA,HJ35,HO_239002,HO_247002,HO_250002,BK238,BK239,BK246,BK249,HB⟩:=hcut
      obtain ⟨kj35,rfl⟩:=ysu kq (fun h=>by subst h;exact absurd HA.out (by simp [gain_Put.j2]))
      have H:=HA.out;clear HA
      simp only [gain_Put.j2] at H
      replace H:=yif H;obtain ⟨c40,H⟩:=H
      have c40b0 : decide (0≤x36_2)=true:=decide_eq_true c40
      clear c40
      replace H:=yif H;obtain ⟨c41,H⟩:=H
      have c41b0 : decide (x36_2 < (l1.length : Int))=true:=decide_eq_true c41
      clear c41
      replace H:=ybi H;obtain ⟨⟨t252,t253,t254,t257⟩,A42,H⟩:=H
      try dsimp only at H
      by_cases c43 : t257=0
      ·
       rw [if_pos c43] at H
       have c43b0 : (t257 == 0)=true:=beq_iff_eq.mpr c43
       have c43b1 : (t257 != 0)=false:=bne_eq_false_iff_eq.mpr c43
       clear c43
       have H' := zm H
       clear H
       obtain ⟨Ao44,co44,eo44⟩:=Kd.V_slice HO_250002.out
       subst eo44
       try go_wp2
       replace HO_239002:=zm (zC HO_239002.out)
       replace HO_247002:=zm (zq HO_247002.out)
       replace HO_250002:=zm (zC HO_250002.out)
       replace BK238:=zm (zj BK238.out)
       replace BK239:=zm (zj BK239.out)
       replace BK246:=zm (zj BK246.out)
       replace BK249:=zm (zj BK249.out)
       replace HB:=zm (zf HB.out)
       have p251 : 0≤(x36_2 : Int):=yt
       have q251 : x36_2 < (l1.length : Int):=yt
       obtain ⟨ad251,e251,hx251_0⟩:=Kd.at_int HR1.out x36_2 p251 q251
       have hw251_0:=hx251_0
       cases e251
       replace hx251_0:=yhx HB hx251_0
       replace p251:=eq_true p251
       replace q251:=eq_true q251
       refine yst (fun w' => w'.cell? ⟨gb249,0,none⟩=some (.int .u64 x250000_2)∧w'.cell? ⟨gb249,1,none⟩=some (.int .u32 x250001_2)∧w'.cell? ⟨gb249,2,none⟩=some (.slice Ao44 x250002_2.length co44)∧w'.cell? (ad251.add (x36_2).toNat)=some (.int .i64 (rd l1 x36_2))) [] 14 gain_Put.tab11 gain_Put.bits11 (fun hHeld HT_ HW_ => ?_)
       generalize wc.drew=w45 at HO_239002 HO_247002 HO_250002 BK238 BK239 BK246 BK249 HB hx251_0 hHeld ⊢
       refine yp 1 47 HT_ ?_
       refine yp 2 48 HT_ ?_
       refine yp 3 49 HT_ ?_
       refine yp 5 51 HT_ ?_
       refine yp 6 52 HT_ ?_
       refine yl 0 46 HT_ HW_ hHeld ?_
       refine yl 4 50 HT_ HW_ hHeld ?_
       refine join_ (σ:=Value × Nat) 2 #[true,true,true,true,true,true,true,true,true,true,true,true,false,false] (fun s_ => [(53, .tuple #[.agg #[.int .u64 t252, .int .u32 t253,s_.1], .int .i64 t257]),(15, .pointer (some ⟨s_.2,0,none⟩)),(45, .tuple #[.agg #[.int .u64 t252, .int .u32 t253,s_.1], .int .i64 t257]),(54, .agg #[.int .u64 t252, .int .u32 t253,s_.1]),(55, .int .i64 t257)]) (fun s_ w' => (w'.cell? ⟨gb249,0,none⟩=some (.int .u64 x250000_2)∧w'.cell? ⟨gb249,1,none⟩=some (.int .u32 x250001_2)∧w'.cell? ⟨gb249,2,none⟩=some (.slice Ao44 x250002_2.length co44)∧w'.cell? (ad251.add (x36_2).toNat)=some (.int .i64 (rd l1 x36_2)))∧(Kd.R (Kd.int .u8) 5 w' w.heap.size (fun k_=>(w.heap.size≤k_)∧some k_≠(.slice Ao16 t242.length co16 : Value).ownBlock) s_.1 t254)∧(Kd.V (Kd.int .u8) 5 w' w.heap.size (fun k_=>(P0_2_ k_∨w.heap.size≤k_)∧some k_≠(s_.1 : Value).ownBlock∧some k_≠(.slice Ao16 t242.length co16 : Value).ownBlock∧k_≠gb238∧k_≠gb239∧k_≠gb246∧k_≠gb249∧k_≠s_.2) (.slice A0_2 l0_2.length c0_2) l0_2)∧(Kd.R (Kd.int .u8) 5 w' w.heap.size (fun k_=>(w.heap.size≤k_)∧some k_≠(s_.1 : Value).ownBlock) (.slice Ao16 t242.length co16) t242)∧(Kd.V (Kd.int .u8) 5 w' w.heap.size (fun k_=>(P0_2_ k_∨w.heap.size≤k_)∧some k_≠(s_.1 : Value).ownBlock∧some k_≠(.slice Ao16 t242.length co16 : Value).ownBlock∧k_≠gb238∧k_≠gb239∧k_≠gb246∧k_≠gb249∧k_≠s_.2) (.slice Ao44 x250002_2.length co44) x250002_2)∧(w'.heap[gb238]? = some (.cells #[.int .u64 a0_0, .int .u32 a0_1, .slice A0_2 l0_2.length c0_2] 26 (0,0)))∧(w'.heap[gb239]? = some (.cells #[.int .u64 x240000_2, .int .u32 x240001_2, .slice none 0 0] 26 (0,0)))∧(w'.heap[gb246]? = some (.cells #[.int .u64 t240, .int .u32 t241, .slice Ao16 t242.length co16] 26 (0,0)))∧(w'.heap[gb249]? = some (.cells #[.int .u64 x250000_2, .int .u32 x250001_2, .slice Ao44 x250002_2.length co44] 26 (0,0)))∧(w'.heap[s_.2]? = some (.cells #[.int .u64 0, .int .u32 0, .slice none 0 0] 26 (0,0)))∧(w.heap.size≤s_.2)∧(w.heap.size≤s_.2)∧(gb238≠s_.2)∧(s_.2≠gb238)∧(gb239≠s_.2)∧(s_.2≠gb239)∧(gb246≠s_.2)∧(s_.2≠gb246)∧(gb249≠s_.2)∧(s_.2≠gb249)∧(Below w.heap.size w w')) ?_ ?_
       rotate_left
       ·
        intro hCont
        refine two_ (i:=7) (j:=11) (Ni:=some 53) (Nj:=some 15) #[true,true,true,true,true,true,true,true,false,false,false,false,false,false] #[true,true,true,true,true,true,true,false,false,false,false,true,false,false] rfl rfl rfl rfl (two_of HT_.out (by kernel_rfl)) (by decide) (by decide) (fun K hK => ?_) (fun K hK => ?_)
        ·
         skip
         refine ygs Try.func64 #[.agg #[.int .u64 x250000_2, .int .u32 x250001_2, .slice Ao44 x250002_2.length co44], .int .i64 (rd l1 x36_2), .int .i64 x14_35, .bool a3] ?_
         with_reducible refine (gain_put.calls kj35 x250000_2 x250001_2 _ _ x250002_2 (rd l1 x36_2) x14_35 a3 t252 t253 t254 t257 _ ?side1 ?side2 A42.out).mono ?_
         (case side1=>exact yce (Kd.V_reads' HO_250002.out).2.2)
         (case side2=>exact (Kd.V_reads' HO_250002.out).2.1)
         rintro e w46 ⟨v255,rfl,ho0,hb⟩
         refine ⟨_,rfl, ?_⟩
         replace HO_239002:=zm (Kd.V_elder' (yr HO_239002) (Kd.R_base ho0) hb)
         replace HO_250002:=zm (Kd.V_elder' (yr HO_250002) (Kd.R_base ho0) hb)
         have HO256:=zm (Kd.R_lower (Kd.R_new' (Kd.R_newM (M:=fun k_=>(w.heap.size≤k_)) ho0 (zE yhb) (fun k_ h_=>h_)) (Kd.R_lt (yr HO_247002))) (zE yhb))
         replace HO_247002:=zm (Kd.R_elder' (yr HO_247002) (Kd.R_base ho0) hb)
         replace BK238:=ybb BK238 hb
         replace BK239:=ybb BK239 hb
         replace BK246:=ybb BK246 hb
         replace BK249:=ybb BK249 hb
         replace HB:=ybs hb
         (try clear hb)
         (try clear ho0)
         refine hK.out _ _ yH (fun hHeld => ?_)
         clear hK K
         refine ym (some 53) ?_
         refine yp 8 45 HT_ ?_
         refine yp 9 54 HT_ ?_
         refine yp 10 55 HT_ ?_
         refine yw 11 15 HT_ (fun K hK => ?_)
         refine box_step ?hg (N:=15) ?hd (cs := #[.int .u64 0, .int .u32 0, .slice none 0 0]) (t:=26) ?hr ?_;(case hd=>rfl);(case hg=>rfl);(case hr=>first|(go_simp;done)|(go_simp;rfl))
         intro gb258 hg w47 hbox hb
         replace HO_239002:=yVe HO_239002 hg hb
         replace HO_247002:=yRb HO_247002 hb
         replace HO_250002:=yVe HO_250002 hg hb
         replace HO256:=yRb HO256 hb
         have BK258:=zm (hbox)
         have GW258:=ygw hg
         have GE258:=ygw hg
         replace HB:=ybs hb
         have NB238_258:=ynl BK238 hg
         have NB258_238:=yng BK238 hg
         replace BK238:=ybb BK238 hb
         have NB239_258:=ynl BK239 hg
         have NB258_239:=yng BK239 hg
         replace BK239:=ybb BK239 hb
         have NB246_258:=ynl BK246 hg
         have NB258_246:=yng BK246 hg
         replace BK246:=ybb BK246 hb
         have NB249_258:=ynl BK249 hg
         have NB258_249:=yng BK249 hg
         replace BK249:=ybb BK249 hb
         clear hb hbox hg
         refine hK.out _ _ yH (fun hHeld => ?_)
         clear hK K
         refine ym (some 15) ?_
         exact norm_ (by simp only [putAll,Act.put,List.setIfInBounds_toArray,List.set_cons_zero,List.set_cons_succ]) (hCont (v255,gb258) _ ⟨hHeld,(yR0 HO256),(yV0 HO_239002),(yr HO_247002),(yV0 HO_250002),(yk BK238),(yk BK239),(yk BK246),(yk BK249),(yk BK258),GW258.out,GE258.out,NB238_258.out,NB258_238.out,NB239_258.out,NB258_239.out,NB246_258.out,NB258_246.out,NB249_258.out,NB258_249.out,yhb⟩)
        ·
         skip
         refine box_step ?hg (N:=15) ?hd (cs := #[.int .u64 0, .int .u32 0, .slice none 0 0]) (t:=26) ?hr ?_;(case hd=>rfl);(case hg=>rfl);(case hr=>first|(go_simp;done)|(go_simp;rfl))
         intro gb258 hg w46 hbox hb
         replace HO_239002:=yVe HO_239002 hg hb
         replace HO_247002:=yRb HO_247002 hb
         replace HO_250002:=yVe HO_250002 hg hb
         have BK258:=zm (hbox)
         have GW258:=ygw hg
         have GE258:=ygw hg
         replace HB:=ybs hb
         have NB238_258:=ynl BK238 hg
         have NB258_238:=yng BK238 hg
         replace BK238:=ybb BK238 hb
         have NB239_258:=ynl BK239 hg
         have NB258_239:=yng BK239 hg
         replace BK239:=ybb BK239 hb
         have NB246_258:=ynl BK246 hg
         have NB258_246:=yng BK246 hg
         replace BK246:=ybb BK246 hb
         have NB249_258:=ynl BK249 hg
         have NB258_249:=yng BK249 hg
         replace BK249:=ybb BK249 hb
         clear hb hbox hg
         refine hK.out _ _ yH (fun hHeld => ?_)
         clear hK K
         refine ym (some 15) ?_
         refine yw 7 53 HT_ (fun K hK => ?_)
         refine ygs Try.func64 #[.agg #[.int .u64 x250000_2, .int .u32 x250001_2, .slice Ao44 x250002_2.length co44], .int .i64 (rd l1 x36_2), .int .i64 x14_35, .bool a3] ?_
         with_reducible refine (gain_put.calls kj35 x250000_2 x250001_2 _ _ x250002_2 (rd l1 x36_2) x14_35 a3 t252 t253 t254 t257 _ ?side1 ?side2 A42.out).mono ?_
         (case side1=>exact yce (Kd.V_reads' HO_250002.out).2.2)
         (case side2=>exact (Kd.V_reads' HO_250002.out).2.1)
         rintro e w47 ⟨v255,rfl,ho0,hb⟩
         refine ⟨_,rfl, ?_⟩
         replace HO_239002:=zm (Kd.V_elder' (yr HO_239002) (Kd.R_base ho0) hb)
         replace HO_250002:=zm (Kd.V_elder' (yr HO_250002) (Kd.R_base ho0) hb)
         have HO256:=zm (Kd.R_lower (Kd.R_new' (Kd.R_newM (M:=fun k_=>(w.heap.size≤k_)) ho0 (zE yhb) (fun k_ h_=>h_)) (Kd.R_lt (yr HO_247002))) (zE yhb))
         replace HO_247002:=zm (Kd.R_elder' (yr HO_247002) (Kd.R_base ho0) hb)
         replace BK238:=ybb BK238 hb
         replace BK239:=ybb BK239 hb
         replace BK246:=ybb BK246 hb
         replace BK249:=ybb BK249 hb
         replace BK258:=ybb BK258 hb
         replace HB:=ybs hb
         (try clear hb)
         (try clear ho0)
         refine hK.out _ _ yH (fun hHeld => ?_)
         clear hK K
         refine ym (some 53) ?_
         refine yp 8 45 HT_ ?_
         refine yp 9 54 HT_ ?_
         refine yp 10 55 HT_ ?_
         exact norm_ (by simp only [putAll,Act.put,List.setIfInBounds_toArray,List.set_cons_zero,List.set_cons_succ]) (hCont (v255,gb258) _ ⟨hHeld,(yR0 HO256),(yV0 HO_239002),(yr HO_247002),(yV0 HO_250002),(yk BK238),(yk BK239),(yk BK246),(yk BK249),(yk BK258),GW258.out,GE258.out,NB238_258.out,NB258_238.out,NB239_258.out,NB258_239.out,NB246_258.out,NB258_246.out,NB249_258.out,NB258_249.out,yhb⟩)
       rintro ⟨v255,gb258⟩ w48 ⟨hS_,h0_,h1_,h2_,h3_,h4_,h5_,h6_,h7_,h8_,h9_,h10_,h11_,h12_,h13_,h14_,h15_,h16_,h17_,h18_,h19_⟩
       have n0_ : Aside0 (Kd.R (Kd.int .u8) 5 w48 w.heap.size (fun k_=>(w.heap.size≤k_)∧some k_≠(.slice Ao16 t242.length co16 : Value).ownBlock) v255 t254):=⟨h0_⟩
       have n1_ : Aside0 (Kd.V (Kd.int .u8) 5 w48 w.heap.size (fun k_=>(P0_2_ k_∨w.heap.size≤k_)∧some k_≠(v255 : Value).ownBlock∧some k_≠(.slice Ao16 t242.length co16 : Value).ownBlock∧k_≠gb238∧k_≠gb239∧k_≠gb246∧k_≠gb249∧k_≠gb258) (.slice A0_2 l0_2.length c0_2) l0_2):=⟨h1_⟩
       have n2_ : Aside0 (Kd.R (Kd.int .u8) 5 w48 w.heap.size (fun k_=>(w.heap.size≤k_)∧some k_≠(v255 : Value).ownBlock) (.slice Ao16 t242.length co16) t242):=⟨h2_⟩
       have n3_ : Aside0 (Kd.V (Kd.int .u8) 5 w48 w.heap.size (fun k_=>(P0_2_ k_∨w.heap.size≤k_)∧some k_≠(v255 : Value).ownBlock∧some k_≠(.slice Ao16 t242.length co16 : Value).ownBlock∧k_≠gb238∧k_≠gb239∧k_≠gb246∧k_≠gb249∧k_≠gb258) (.slice Ao44 x250002_2.length co44) x250002_2):=⟨h3_⟩
       have n4_ : Aside0 (w48.heap[gb238]? = some (.cells #[.int .u64 a0_0, .int .u32 a0_1, .slice A0_2 l0_2.length c0_2] 26 (0,0))):=⟨h4_⟩
       have n5_ : Aside0 (w48.heap[gb239]? = some (.cells #[.int .u64 x240000_2, .int .u32 x240001_2, .slice none 0 0] 26 (0,0))):=⟨h5_⟩
       have n6_ : Aside0 (w48.heap[gb246]? = some (.cells #[.int .u64 t240, .int .u32 t241, .slice Ao16 t242.length co16] 26 (0,0))):=⟨h6_⟩
       have n7_ : Aside0 (w48.heap[gb249]? = some (.cells #[.int .u64 x250000_2, .int .u32 x250001_2, .slice Ao44 x250002_2.length co44] 26 (0,0))):=⟨h7_⟩
       have n8_ : Aside0 (w48.heap[gb258]? = some (.cells #[.int .u64 0, .int .u32 0, .slice none 0 0] 26 (0,0))):=⟨h8_⟩
       have n9_ : Aside0 (w.heap.size≤gb258):=⟨h9_⟩
       have n10_ : Aside0 (w.heap.size≤gb258):=⟨h10_⟩
       have n11_ : Aside0 (gb238≠gb258):=⟨h11_⟩
       have n12_ : Aside0 (gb258≠gb238):=⟨h12_⟩
       have n13_ : Aside0 (gb239≠gb258):=⟨h13_⟩
       have n14_ : Aside0 (gb258≠gb239):=⟨h14_⟩
       have n15_ : Aside0 (gb246≠gb258):=⟨h15_⟩
       have n16_ : Aside0 (gb258≠gb246):=⟨h16_⟩
       have n17_ : Aside0 (gb249≠gb258):=⟨h17_⟩
       have n18_ : Aside0 (gb258≠gb249):=⟨h18_⟩
       have n19_ : Aside0 (Below w.heap.size w w48):=⟨h19_⟩
       clear HO_239002;clear HO_247002;clear HO_250002;clear BK238;clear BK239;clear BK246;clear BK249;clear HB;clear h0_ h1_ h2_ h3_ h4_ h5_ h6_ h7_ h8_ h9_ h10_ h11_ h12_ h13_ h14_ h15_ h16_ h17_ h18_ h19_;have HO256:=n0_;have HO_239002:=n1_;have HO_247002:=n2_;have HO_250002:=n3_;have BK238:=n4_;have BK239:=n5_;have BK246:=n6_;have BK249:=n7_;have BK258:=n8_;have GW258:=n9_;have GE258:=n10_;have NB238_258:=n11_;have NB258_238:=n12_;have NB239_258:=n13_;have NB258_239:=n14_;have NB246_258:=n15_;have NB258_246:=n16_;have NB249_258:=n17_;have NB258_249:=n18_;have HB:=n19_;clear n0_ n1_ n2_ n3_ n4_ n5_ n6_ n7_ n8_ n9_ n10_ n11_ n12_ n13_ n14_ n15_ n16_ n17_ n18_ n19_
       have hHeld : w48.cell? ⟨gb249,0,none⟩=some (.int .u64 x250000_2)∧w48.cell? ⟨gb249,1,none⟩=some (.int .u32 x250001_2)∧w48.cell? ⟨gb249,2,none⟩=some (.slice Ao44 x250002_2.length co44)∧w48.cell? (ad251.add (x36_2).toNat)=some (.int .i64 (rd l1 x36_2)):=hS_
       obtain ⟨Ao51,co51,eo51⟩:=Kd.R_slice HO256.out
       (first|subst eo51|(injection eo51 with f1_ f2_ f3_;have f4_:=f1_.symm;have f5_:=f3_.symm;clear f1_ f2_ f3_;subst f4_;subst f5_))
       refine norm_ (a' := ?_) ?_ ?_
       rotate_left
       ·
        simp only [putAll,Act.put,List.setIfInBounds_toArray,List.set_cons_zero,List.set_cons_succ]
        rfl
       refine yv 12 HT_ (fun K hK => ?_)
       have hs49 : w48.cell? ⟨gb258,0,none⟩=some (.int .u64 0):=(zs BK258.out 0).trans rfl
       have hfs49:=zx BK258.out 0
       have:=NB238_258.out
       have:=NB239_258.out
       have:=NB246_258.out
       have:=NB249_258.out
       have:=NB258_238.out
       have:=NB258_239.out
       have:=NB258_246.out
       have:=NB258_249.out
       have hs50 : w48.cell? ⟨gb258,1,none⟩=some (.int .u32 0):=(zs BK258.out 1).trans rfl
       have hfs50:=zx BK258.out 1
       have:=NB238_258.out
       have:=NB239_258.out
       have:=NB246_258.out
       have:=NB249_258.out
       have:=NB258_238.out
       have:=NB258_239.out
       have:=NB258_246.out
       have:=NB258_249.out
       have hs52 : w48.cell? ⟨gb258,2,none⟩=some (.slice none 0 0):=(zs BK258.out 2).trans rfl
       have hfs52:=zx BK258.out 2
       have:=NB238_258.out
       have:=NB239_258.out
       have:=NB246_258.out
       have:=NB249_258.out
       have:=NB258_238.out
       have:=NB258_239.out
       have:=NB258_246.out
       have:=NB258_249.out
       refine skip_ (w1 := ?_) (by rfl) rfl ?_ ?_
       rotate_left
       ·
        go_simp
        rfl
       refine hK.out _ _ ⟨((zr (p:=⟨gb258,_,none⟩) NB249_258.out _).trans (((zr (p:=⟨gb258,_,none⟩) NB249_258.out _).trans (((zr (p:=⟨gb258,_,none⟩) NB249_258.out _).trans (hHeld.1)))))),((zr (p:=⟨gb258,_,none⟩) NB249_258.out _).trans (((zr (p:=⟨gb258,_,none⟩) NB249_258.out _).trans (((zr (p:=⟨gb258,_,none⟩) NB249_258.out _).trans (hHeld.2.1)))))),((zr (p:=⟨gb258,_,none⟩) NB249_258.out _).trans (((zr (p:=⟨gb258,_,none⟩) NB249_258.out _).trans (((zr (p:=⟨gb258,_,none⟩) NB249_258.out _).trans (hHeld.2.2.1)))))),((zr (p:=⟨gb258,_,none⟩) (by first|exact zn (zl (by have:=zb _ _ hw251_0;first|rwa [za] at this|exact this) GW258.out)|(rw [za];exact zn (zl (by have:=zb _ _ hw251_0;first|rwa [za] at this|exact this) GW258.out))|(show (Addr.add _ _).block≠_;rw [za];exact zn (zl (by have:=zb _ _ hw251_0;first|rwa [za] at this|exact this) GW258.out))|(dsimp only;exact zn (zl (by have:=zb _ _ hw251_0;first|rwa [za] at this|exact this) GW258.out))) _).trans (((zr (p:=⟨gb258,_,none⟩) (by first|exact zn (zl (by have:=zb _ _ hw251_0;first|rwa [za] at this|exact this) GW258.out)|(rw [za];exact zn (zl (by have:=zb _ _ hw251_0;first|rwa [za] at this|exact this) GW258.out))|(show (Addr.add _ _).block≠_;rw [za];exact zn (zl (by have:=zb _ _ hw251_0;first|rwa [za] at this|exact this) GW258.out))|(dsimp only;exact zn (zl (by have:=zb _ _ hw251_0;first|rwa [za] at this|exact this) GW258.out))) _).trans (((zr (p:=⟨gb258,_,none⟩) (by first|exact zn (zl (by have:=zb _ _ hw251_0;first|rwa [za] at this|exact this) GW258.out)|(rw [za];exact zn (zl (by have:=zb _ _ hw251_0;first|rwa [za] at this|exact this) GW258.out))|(show (Addr.add _ _).block≠_;rw [za];exact zn (zl (by have:=zb _ _ hw251_0;first|rwa [za] at this|exact this) GW258.out))|(dsimp only;exact zn (zl (by have:=zb _ _ hw251_0;first|rwa [za] at this|exact this) GW258.out))) _).trans (hHeld.2.2.2))))))⟩ (fun hHeld => ?_)
       clear hK K
       refine yp 13 16 HT_ ?_
       refine done_ (done_of HT_.out (by kernel_rfl)) ?_
       have:=NB258_238.out
       have:=NB238_258.out
       have:=NB258_239.out
       have:=NB239_258.out
       have:=NB258_246.out
       have:=NB246_258.out
       have:=NB258_249.out
       have:=NB249_258.out
       obtain ⟨_,_,_,_,_,_⟩:=yc3 BK258
       have:=NB249_238.out
       have:=NB238_249.out
       have:=NB249_239.out
       have:=NB239_249.out
       have:=NB249_246.out
       have:=NB246_249.out
       obtain ⟨_,_,_,_,_,_⟩:=yc3 BK249
       try go_wp2
       go_roundg kj35
       case measure=>exact yom3 HJ5 HK2 HJ35
       case rel=>exact ⟨(wrap64 (x36_2+1)),(x240000_2),(x240001_2),(t252),(t253),(t254),(.slice Ao51 t254.length co51),yq,H',⟨yom3 HJ5 HK2 HJ35⟩,⟨yV0 HO_239002⟩,⟨yR2 HO_247002 BK258 BK249⟩,⟨zy (Kd.R_V (ok:=fun k_=>w.heap.size≤k_∧some k_≠((.slice Ao16 t242.length co16) : Value).ownBlock∧k_≠gb238∧k_≠gb239∧k_≠gb246∧k_≠gb249) (by (with_reducible repeat (first|apply zo|apply zp|apply zq));exact zG (zH (p:=⟨gb249,2,none⟩) (zH (p:=⟨gb249,1,none⟩) (zH (p:=⟨gb249,0,none⟩) (zH (p:=⟨gb258,2,none⟩) (zH (p:=⟨gb258,1,none⟩) (zH (p:=⟨gb258,0,none⟩) (Kd.R_types (Kd.R_types (Kd.R_types (Kd.R_types (Kd.R_types (Kd.R_types HO256.out BK238.out (by decide)) BK239.out (by decide)) BK246.out (by decide)) BK249.out (by decide)) BK258.out (by decide)) BK249.out (by decide)) (fun _ hk=>hk.1.2) (.int .u64 t252)) (fun _ hk=>hk.1.2) (.int .u32 t253)) (fun _ hk=>hk.1.2) (.slice Ao51 t254.length co51)) (fun _ hk=>hk.2) (.int .u64 t252)) (fun _ hk=>hk.2) (.int .u32 t253)) (fun _ hk=>hk.2) (.slice Ao51 t254.length co51)) (fun _ hk=>⟨hk.1.1.1.1.1.1.1,⟨hk.1.1.1.1.1.1.2,⟨hk.1.1.1.1.1.2,⟨hk.1.1.1.1.2,⟨hk.1.1.1.2,hk.1.1.2⟩⟩⟩⟩⟩))) (fun k_ hk=>by first|exact ⟨(.inr (hk.1)),hk.2⟩|exact (.inr (hk)))⟩,⟨yk BK238⟩,⟨yk BK239⟩,⟨yk BK246⟩,⟨ykp BK249⟩,⟨yhb⟩⟩
      ·
       rw [if_neg c43] at H
       have c43b0 : (t257 == 0)=false:=beq_eq_false_iff_ne.mpr c43
       have c43b1 : (t257 != 0)=true:=bne_iff_ne.mpr c43
       simp only [Option.some.injEq,Prod.mk.injEq] at H
       obtain ⟨rfl,rfl,rfl,rfl⟩:=H
       obtain ⟨Ao62,co62,eo62⟩:=Kd.V_slice HO_250002.out
       subst eo62
       try go_wp2
       replace HO_239002:=zm (zC HO_239002.out)
       replace HO_247002:=zm (zq HO_247002.out)
       replace HO_250002:=zm (zC HO_250002.out)
       replace BK238:=zm (zj BK238.out)
       replace BK239:=zm (zj BK239.out)
       replace BK246:=zm (zj BK246.out)
       replace BK249:=zm (zj BK249.out)
       replace HB:=zm (zf HB.out)
       have p251 : 0≤(x36_2 : Int):=yt
       have q251 : x36_2 < (l1.length : Int):=yt
       obtain ⟨ad251,e251,hx251_0⟩:=Kd.at_int HR1.out x36_2 p251 q251
       have hw251_0:=hx251_0
       cases e251
       replace hx251_0:=yhx HB hx251_0
       replace p251:=eq_true p251
       replace q251:=eq_true q251
       refine yst (fun w' => w'.cell? ⟨gb249,0,none⟩=some (.int .u64 x250000_2)∧w'.cell? ⟨gb249,1,none⟩=some (.int .u32 x250001_2)∧w'.cell? ⟨gb249,2,none⟩=some (.slice Ao62 x250002_2.length co62)∧w'.cell? (ad251.add (x36_2).toNat)=some (.int .i64 (rd l1 x36_2))) [] 14 gain_Put.tab11 gain_Put.bits11 (fun hHeld HT_ HW_ => ?_)
       generalize wc.drew=w63 at HO_239002 HO_247002 HO_250002 BK238 BK239 BK246 BK249 HB hx251_0 hHeld ⊢
       refine yp 1 47 HT_ ?_
       refine yp 2 48 HT_ ?_
       refine yp 3 49 HT_ ?_
       refine yp 5 51 HT_ ?_
       refine yp 6 52 HT_ ?_
       refine yl 0 46 HT_ HW_ hHeld ?_
       refine yl 4 50 HT_ HW_ hHeld ?_
       refine join_ (σ:=Value × Nat) 2 #[true,true,true,true,true,true,true,true,true,true,true,true,false,false] (fun s_ => [(53, .tuple #[.agg #[.int .u64 t252, .int .u32 t253,s_.1], .int .i64 t257]),(15, .pointer (some ⟨s_.2,0,none⟩)),(45, .tuple #[.agg #[.int .u64 t252, .int .u32 t253,s_.1], .int .i64 t257]),(54, .agg #[.int .u64 t252, .int .u32 t253,s_.1]),(55, .int .i64 t257)]) (fun s_ w' => (w'.cell? ⟨gb249,0,none⟩=some (.int .u64 x250000_2)∧w'.cell? ⟨gb249,1,none⟩=some (.int .u32 x250001_2)∧w'.cell? ⟨gb249,2,none⟩=some (.slice Ao62 x250002_2.length co62)∧w'.cell? (ad251.add (x36_2).toNat)=some (.int .i64 (rd l1 x36_2)))∧(Kd.R (Kd.int .u8) 5 w' w.heap.size (fun k_=>(w.heap.size≤k_)∧some k_≠(.slice Ao16 t242.length co16 : Value).ownBlock) s_.1 t254)∧(Kd.V (Kd.int .u8) 5 w' w.heap.size (fun k_=>(P0_2_ k_∨w.heap.size≤k_)∧some k_≠(s_.1 : Value).ownBlock∧some k_≠(.slice Ao16 t242.length co16 : Value).ownBlock∧k_≠gb238∧k_≠gb239∧k_≠gb246∧k_≠gb249∧k_≠s_.2) (.slice A0_2 l0_2.length c0_2) l0_2)∧(Kd.R (Kd.int .u8) 5 w' w.heap.size (fun k_=>(w.heap.size≤k_)∧some k_≠(s_.1 : Value).ownBlock) (.slice Ao16 t242.length co16) t242)∧(Kd.V (Kd.int .u8) 5 w' w.heap.size (fun k_=>(P0_2_ k_∨w.heap.size≤k_)∧some k_≠(s_.1 : Value).ownBlock∧some k_≠(.slice Ao16 t242.length co16 : Value).ownBlock∧k_≠gb238∧k_≠gb239∧k_≠gb246∧k_≠gb249∧k_≠s_.2) (.slice Ao62 x250002_2.length co62) x250002_2)∧(w'.heap[gb238]? = some (.cells #[.int .u64 a0_0, .int .u32 a0_1, .slice A0_2 l0_2.length c0_2] 26 (0,0)))∧(w'.heap[gb239]? = some (.cells #[.int .u64 x240000_2, .int .u32 x240001_2, .slice none 0 0] 26 (0,0)))∧(w'.heap[gb246]? = some (.cells #[.int .u64 t240, .int .u32 t241, .slice Ao16 t242.length co16] 26 (0,0)))∧(w'.heap[gb249]? = some (.cells #[.int .u64 x250000_2, .int .u32 x250001_2, .slice Ao62 x250002_2.length co62] 26 (0,0)))∧(w'.heap[s_.2]? = some (.cells #[.int .u64 0, .int .u32 0, .slice none 0 0] 26 (0,0)))∧(w.heap.size≤s_.2)∧(w.heap.size≤s_.2)∧(gb238≠s_.2)∧(s_.2≠gb238)∧(gb239≠s_.2)∧(s_.2≠gb239)∧(gb246≠s_.2)∧(s_.2≠gb246)∧(gb249≠s_.2)∧(s_.2≠gb249)∧(Below w.heap.size w w')) ?_ ?_
       rotate_left
       ·
        intro hCont
        refine two_ (i:=7) (j:=11) (Ni:=some 53) (Nj:=some 15) #[true,true,true,true,true,true,true,true,false,false,false,false,false,false] #[true,true,true,true,true,true,true,false,false,false,false,true,false,false] rfl rfl rfl rfl (two_of HT_.out (by kernel_rfl)) (by decide) (by decide) (fun K hK => ?_) (fun K hK => ?_)
        ·
         skip
         refine ygs Try.func64 #[.agg #[.int .u64 x250000_2, .int .u32 x250001_2, .slice Ao62 x250002_2.length co62], .int .i64 (rd l1 x36_2), .int .i64 x14_35, .bool a3] ?_
         with_reducible refine (gain_put.calls kj35 x250000_2 x250001_2 _ _ x250002_2 (rd l1 x36_2) x14_35 a3 t252 t253 t254 t257 _ ?side1 ?side2 A42.out).mono ?_
         (case side1=>exact yce (Kd.V_reads' HO_250002.out).2.2)
         (case side2=>exact (Kd.V_reads' HO_250002.out).2.1)
         rintro e w64 ⟨v255,rfl,ho0,hb⟩
         refine ⟨_,rfl, ?_⟩
         replace HO_239002:=zm (Kd.V_elder' (yr HO_239002) (Kd.R_base ho0) hb)
         replace HO_250002:=zm (Kd.V_elder' (yr HO_250002) (Kd.R_base ho0) hb)
         have HO256:=zm (Kd.R_lower (Kd.R_new' (Kd.R_newM (M:=fun k_=>(w.heap.size≤k_)) ho0 (zE yhb) (fun k_ h_=>h_)) (Kd.R_lt (yr HO_247002))) (zE yhb))
         replace HO_247002:=zm (Kd.R_elder' (yr HO_247002) (Kd.R_base ho0) hb)
         replace BK238:=ybb BK238 hb
         replace BK239:=ybb BK239 hb
         replace BK246:=ybb BK246 hb
         replace BK249:=ybb BK249 hb
         replace HB:=ybs hb
         (try clear hb)
         (try clear ho0)
         refine hK.out _ _ yH (fun hHeld => ?_)
         clear hK K
         refine ym (some 53) ?_
         refine yp 8 45 HT_ ?_
         refine yp 9 54 HT_ ?_
         refine yp 10 55 HT_ ?_
         refine yw 11 15 HT_ (fun K hK => ?_)
         refine box_step ?hg (N:=15) ?hd (cs := #[.int .u64 0, .int .u32 0, .slice none 0 0]) (t:=26) ?hr ?_;(case hd=>rfl);(case hg=>rfl);(case hr=>first|(go_simp;done)|(go_simp;rfl))
         intro gb258 hg w65 hbox hb
         replace HO_239002:=yVe HO_239002 hg hb
         replace HO_247002:=yRb HO_247002 hb
         replace HO_250002:=yVe HO_250002 hg hb
         replace HO256:=yRb HO256 hb
         have BK258:=zm (hbox)
         have GW258:=ygw hg
         have GE258:=ygw hg
         replace HB:=ybs hb
         have NB238_258:=ynl BK238 hg
         have NB258_238:=yng BK238 hg
         replace BK238:=ybb BK238 hb
         have NB239_258:=ynl BK239 hg
         have NB258_239:=yng BK239 hg
         replace BK239:=ybb BK239 hb
         have NB246_258:=ynl BK246 hg
         have NB258_246:=yng BK246 hg
         replace BK246:=ybb BK246 hb
         have NB249_258:=ynl BK249 hg
         have NB258_249:=yng BK249 hg
         replace BK249:=ybb BK249 hb
         clear hb hbox hg
         refine hK.out _ _ yH (fun hHeld => ?_)
         clear hK K
         refine ym (some 15) ?_
         exact norm_ (by simp only [putAll,Act.put,List.setIfInBounds_toArray,List.set_cons_zero,List.set_cons_succ]) (hCont (v255,gb258) _ ⟨hHeld,(yR0 HO256),(yV0 HO_239002),(yr HO_247002),(yV0 HO_250002),(yk BK238),(yk BK239),(yk BK246),(yk BK249),(yk BK258),GW258.out,GE258.out,NB238_258.out,NB258_238.out,NB239_258.out,NB258_239.out,NB246_258.out,NB258_246.out,NB249_258.out,NB258_249.out,yhb⟩)
        ·
         skip
         refine box_step ?hg (N:=15) ?hd (cs := #[.int .u64 0, .int .u32 0, .slice none 0 0]) (t:=26) ?hr ?_;(case hd=>rfl);(case hg=>rfl);(case hr=>first|(go_simp;done)|(go_simp;rfl))
         intro gb258 hg w64 hbox hb
         replace HO_239002:=yVe HO_239002 hg hb
         replace HO_247002:=yRb HO_247002 hb
         replace HO_250002:=yVe HO_250002 hg hb
         have BK258:=zm (hbox)
         have GW258:=ygw hg
         have GE258:=ygw hg
         replace HB:=ybs hb
         have NB238_258:=ynl BK238 hg
         have NB258_238:=yng BK238 hg
         replace BK238:=ybb BK238 hb
         have NB239_258:=ynl BK239 hg
         have NB258_239:=yng BK239 hg
         replace BK239:=ybb BK239 hb
         have NB246_258:=ynl BK246 hg
         have NB258_246:=yng BK246 hg
         replace BK246:=ybb BK246 hb
         have NB249_258:=ynl BK249 hg
         have NB258_249:=yng BK249 hg
         replace BK249:=ybb BK249 hb
         clear hb hbox hg
         refine hK.out _ _ yH (fun hHeld => ?_)
         clear hK K
         refine ym (some 15) ?_
         refine yw 7 53 HT_ (fun K hK => ?_)
         refine ygs Try.func64 #[.agg #[.int .u64 x250000_2, .int .u32 x250001_2, .slice Ao62 x250002_2.length co62], .int .i64 (rd l1 x36_2), .int .i64 x14_35, .bool a3] ?_
         with_reducible refine (gain_put.calls kj35 x250000_2 x250001_2 _ _ x250002_2 (rd l1 x36_2) x14_35 a3 t252 t253 t254 t257 _ ?side1 ?side2 A42.out).mono ?_
         (case side1=>exact yce (Kd.V_reads' HO_250002.out).2.2)
         (case side2=>exact (Kd.V_reads' HO_250002.out).2.1)
         rintro e w65 ⟨v255,rfl,ho0,hb⟩
         refine ⟨_,rfl, ?_⟩
         replace HO_239002:=zm (Kd.V_elder' (yr HO_239002) (Kd.R_base ho0) hb)
         replace HO_250002:=zm (Kd.V_elder' (yr HO_250002) (Kd.R_base ho0) hb)
         have HO256:=zm (Kd.R_lower (Kd.R_new' (Kd.R_newM (M:=fun k_=>(w.heap.size≤k_)) ho0 (zE yhb) (fun k_ h_=>h_)) (Kd.R_lt (yr HO_247002))) (zE yhb))
         replace HO_247002:=zm (Kd.R_elder' (yr HO_247002) (Kd.R_base ho0) hb)
         replace BK238:=ybb BK238 hb
         replace BK239:=ybb BK239 hb
         replace BK246:=ybb BK246 hb
         replace BK249:=ybb BK249 hb
         replace BK258:=ybb BK258 hb
         replace HB:=ybs hb
         (try clear hb)
         (try clear ho0)
         refine hK.out _ _ yH (fun hHeld => ?_)
         clear hK K
         refine ym (some 53) ?_
         refine yp 8 45 HT_ ?_
         refine yp 9 54 HT_ ?_
         refine yp 10 55 HT_ ?_
         exact norm_ (by simp only [putAll,Act.put,List.setIfInBounds_toArray,List.set_cons_zero,List.set_cons_succ]) (hCont (v255,gb258) _ ⟨hHeld,(yR0 HO256),(yV0 HO_239002),(yr HO_247002),(yV0 HO_250002),(yk BK238),(yk BK239),(yk BK246),(yk BK249),(yk BK258),GW258.out,GE258.out,NB238_258.out,NB258_238.out,NB239_258.out,NB258_239.out,NB246_258.out,NB258_246.out,NB249_258.out,NB258_249.out,yhb⟩)
       rintro ⟨v255,gb258⟩ w66 ⟨hS_,h0_,h1_,h2_,h3_,h4_,h5_,h6_,h7_,h8_,h9_,h10_,h11_,h12_,h13_,h14_,h15_,h16_,h17_,h18_,h19_⟩
       have n0_ : Aside0 (Kd.R (Kd.int .u8) 5 w66 w.heap.size (fun k_=>(w.heap.size≤k_)∧some k_≠(.slice Ao16 t242.length co16 : Value).ownBlock) v255 t254):=⟨h0_⟩
       have n1_ : Aside0 (Kd.V (Kd.int .u8) 5 w66 w.heap.size (fun k_=>(P0_2_ k_∨w.heap.size≤k_)∧some k_≠(v255 : Value).ownBlock∧some k_≠(.slice Ao16 t242.length co16 : Value).ownBlock∧k_≠gb238∧k_≠gb239∧k_≠gb246∧k_≠gb249∧k_≠gb258) (.slice A0_2 l0_2.length c0_2) l0_2):=⟨h1_⟩
       have n2_ : Aside0 (Kd.R (Kd.int .u8) 5 w66 w.heap.size (fun k_=>(w.heap.size≤k_)∧some k_≠(v255 : Value).ownBlock) (.slice Ao16 t242.length co16) t242):=⟨h2_⟩
       have n3_ : Aside0 (Kd.V (Kd.int .u8) 5 w66 w.heap.size (fun k_=>(P0_2_ k_∨w.heap.size≤k_)∧some k_≠(v255 : Value).ownBlock∧some k_≠(.slice Ao16 t242.length co16 : Value).ownBlock∧k_≠gb238∧k_≠gb239∧k_≠gb246∧k_≠gb249∧k_≠gb258) (.slice Ao62 x250002_2.length co62) x250002_2):=⟨h3_⟩
       have n4_ : Aside0 (w66.heap[gb238]? = some (.cells #[.int .u64 a0_0, .int .u32 a0_1, .slice A0_2 l0_2.length c0_2] 26 (0,0))):=⟨h4_⟩
       have n5_ : Aside0 (w66.heap[gb239]? = some (.cells #[.int .u64 x240000_2, .int .u32 x240001_2, .slice none 0 0] 26 (0,0))):=⟨h5_⟩
       have n6_ : Aside0 (w66.heap[gb246]? = some (.cells #[.int .u64 t240, .int .u32 t241, .slice Ao16 t242.length co16] 26 (0,0))):=⟨h6_⟩
       have n7_ : Aside0 (w66.heap[gb249]? = some (.cells #[.int .u64 x250000_2, .int .u32 x250001_2, .slice Ao62 x250002_2.length co62] 26 (0,0))):=⟨h7_⟩
       have n8_ : Aside0 (w66.heap[gb258]? = some (.cells #[.int .u64 0, .int .u32 0, .slice none 0 0] 26 (0,0))):=⟨h8_⟩
       have n9_ : Aside0 (w.heap.size≤gb258):=⟨h9_⟩
       have n10_ : Aside0 (w.heap.size≤gb258):=⟨h10_⟩
       have n11_ : Aside0 (gb238≠gb258):=⟨h11_⟩
       have n12_ : Aside0 (gb258≠gb238):=⟨h12_⟩
       have n13_ : Aside0 (gb239≠gb258):=⟨h13_⟩
       have n14_ : Aside0 (gb258≠gb239):=⟨h14_⟩
       have n15_ : Aside0 (gb246≠gb258):=⟨h15_⟩
       have n16_ : Aside0 (gb258≠gb246):=⟨h16_⟩
       have n17_ : Aside0 (gb249≠gb258):=⟨h17_⟩
       have n18_ : Aside0 (gb258≠gb249):=⟨h18_⟩
       have n19_ : Aside0 (Below w.heap.size w w66):=⟨h19_⟩
       clear HO_239002;clear HO_247002;clear HO_250002;clear BK238;clear BK239;clear BK246;clear BK249;clear HB;clear h0_ h1_ h2_ h3_ h4_ h5_ h6_ h7_ h8_ h9_ h10_ h11_ h12_ h13_ h14_ h15_ h16_ h17_ h18_ h19_;have HO256:=n0_;have HO_239002:=n1_;have HO_247002:=n2_;have HO_250002:=n3_;have BK238:=n4_;have BK239:=n5_;have BK246:=n6_;have BK249:=n7_;have BK258:=n8_;have GW258:=n9_;have GE258:=n10_;have NB238_258:=n11_;have NB258_238:=n12_;have NB239_258:=n13_;have NB258_239:=n14_;have NB246_258:=n15_;have NB258_246:=n16_;have NB249_258:=n17_;have NB258_249:=n18_;have HB:=n19_;clear n0_ n1_ n2_ n3_ n4_ n5_ n6_ n7_ n8_ n9_ n10_ n11_ n12_ n13_ n14_ n15_ n16_ n17_ n18_ n19_
       have hHeld : w66.cell? ⟨gb249,0,none⟩=some (.int .u64 x250000_2)∧w66.cell? ⟨gb249,1,none⟩=some (.int .u32 x250001_2)∧w66.cell? ⟨gb249,2,none⟩=some (.slice Ao62 x250002_2.length co62)∧w66.cell? (ad251.add (x36_2).toNat)=some (.int .i64 (rd l1 x36_2)):=hS_
       obtain ⟨Ao69,co69,eo69⟩:=Kd.R_slice HO256.out
       (first|subst eo69|(injection eo69 with f1_ f2_ f3_;have f4_:=f1_.symm;have f5_:=f3_.symm;clear f1_ f2_ f3_;subst f4_;subst f5_))
       refine norm_ (a' := ?_) ?_ ?_
       rotate_left
       ·
        simp only [putAll,Act.put,List.setIfInBounds_toArray,List.set_cons_zero,List.set_cons_succ]
        rfl
       refine yv 12 HT_ (fun K hK => ?_)
       have hs67 : w66.cell? ⟨gb258,0,none⟩=some (.int .u64 0):=(zs BK258.out 0).trans rfl
       have hfs67:=zx BK258.out 0
       have:=NB238_258.out
       have:=NB239_258.out
       have:=NB246_258.out
       have:=NB249_258.out
       have:=NB258_238.out
       have:=NB258_239.out
       have:=NB258_246.out
       have:=NB258_249.out
       have hs68 : w66.cell? ⟨gb258,1,none⟩=some (.int .u32 0):=(zs BK258.out 1).trans rfl
       have hfs68:=zx BK258.out 1
       have:=NB238_258.out
       have:=NB239_258.out
       have:=NB246_258.out
       have:=NB249_258.out
       have:=NB258_238.out
       have:=NB258_239.out
       have:=NB258_246.out
       have:=NB258_249.out
       have hs70 : w66.cell? ⟨gb258,2,none⟩=some (.slice none 0 0):=(zs BK258.out 2).trans rfl
       have hfs70:=zx BK258.out 2
       have:=NB238_258.out
       have:=NB239_258.out
       have:=NB246_258.out
       have:=NB249_258.out
       have:=NB258_238.out
       have:=NB258_239.out
       have:=NB258_246.out
       have:=NB258_249.out
       refine skip_ (w1 := ?_) (by rfl) rfl ?_ ?_
       rotate_left
       ·
        go_simp
        rfl
       refine hK.out _ _ ⟨((zr (p:=⟨gb258,_,none⟩) NB249_258.out _).trans (((zr (p:=⟨gb258,_,none⟩) NB249_258.out _).trans (((zr (p:=⟨gb258,_,none⟩) NB249_258.out _).trans (hHeld.1)))))),((zr (p:=⟨gb258,_,none⟩) NB249_258.out _).trans (((zr (p:=⟨gb258,_,none⟩) NB249_258.out _).trans (((zr (p:=⟨gb258,_,none⟩) NB249_258.out _).trans (hHeld.2.1)))))),((zr (p:=⟨gb258,_,none⟩) NB249_258.out _).trans (((zr (p:=⟨gb258,_,none⟩) NB249_258.out _).trans (((zr (p:=⟨gb258,_,none⟩) NB249_258.out _).trans (hHeld.2.2.1)))))),((zr (p:=⟨gb258,_,none⟩) (by first|exact zn (zl (by have:=zb _ _ hw251_0;first|rwa [za] at this|exact this) GW258.out)|(rw [za];exact zn (zl (by have:=zb _ _ hw251_0;first|rwa [za] at this|exact this) GW258.out))|(show (Addr.add _ _).block≠_;rw [za];exact zn (zl (by have:=zb _ _ hw251_0;first|rwa [za] at this|exact this) GW258.out))|(dsimp only;exact zn (zl (by have:=zb _ _ hw251_0;first|rwa [za] at this|exact this) GW258.out))) _).trans (((zr (p:=⟨gb258,_,none⟩) (by first|exact zn (zl (by have:=zb _ _ hw251_0;first|rwa [za] at this|exact this) GW258.out)|(rw [za];exact zn (zl (by have:=zb _ _ hw251_0;first|rwa [za] at this|exact this) GW258.out))|(show (Addr.add _ _).block≠_;rw [za];exact zn (zl (by have:=zb _ _ hw251_0;first|rwa [za] at this|exact this) GW258.out))|(dsimp only;exact zn (zl (by have:=zb _ _ hw251_0;first|rwa [za] at this|exact this) GW258.out))) _).trans (((zr (p:=⟨gb258,_,none⟩) (by first|exact zn (zl (by have:=zb _ _ hw251_0;first|rwa [za] at this|exact this) GW258.out)|(rw [za];exact zn (zl (by have:=zb _ _ hw251_0;first|rwa [za] at this|exact this) GW258.out))|(show (Addr.add _ _).block≠_;rw [za];exact zn (zl (by have:=zb _ _ hw251_0;first|rwa [za] at this|exact this) GW258.out))|(dsimp only;exact zn (zl (by have:=zb _ _ hw251_0;first|rwa [za] at this|exact this) GW258.out))) _).trans (hHeld.2.2.2))))))⟩ (fun hHeld => ?_)
       clear hK K
       refine yp 13 16 HT_ ?_
       refine done_ (done_of HT_.out (by kernel_rfl)) ?_
       have:=NB246_238.out
       have:=NB238_246.out
       have:=NB246_239.out
       have:=NB239_246.out
       have:=NB246_249.out
       have:=NB249_246.out
       have:=NB246_258.out
       have:=NB258_246.out
       obtain ⟨_,_,_,_,_,_⟩:=yc3 BK246
       have:=NB239_238.out
       have:=NB238_239.out
       have:=NB239_249.out
       have:=NB249_239.out
       have:=NB239_258.out
       have:=NB258_239.out
       obtain ⟨_,_,_,_,_,_⟩:=yc3 BK239
       try go_wp2
       refine bodyPost_ret (results_ct rfl _ _ gb239 26 #[.int .u64 t240, .int .u32 t241, .slice Ao16 t242.length co16] (0,0) _ rfl (ykp BK239) Try.underlying26 rfl (by kernel_rfl)) rfl ?_
       exact ⟨_,ye,zy (Kd.R_V (by (with_reducible repeat (first|apply zo|apply zp|apply zq));exact zG (zH (p:=⟨gb239,2,none⟩) (zH (p:=⟨gb239,1,none⟩) (zH (p:=⟨gb239,0,none⟩) (zH (p:=⟨gb258,2,none⟩) (zH (p:=⟨gb258,1,none⟩) (zH (p:=⟨gb258,0,none⟩) (Kd.R_types (Kd.R_types HO_247002.out BK258.out (by decide)) BK239.out (by decide)) (fun _ hk=>hk.1.2) (.int .u64 t252)) (fun _ hk=>hk.1.2) (.int .u32 t253)) (fun _ hk=>hk.1.2) (.slice Ao69 t254.length co69)) (fun _ hk=>hk.2) (.int .u64 t240)) (fun _ hk=>hk.2) (.int .u32 t241)) (fun _ hk=>hk.2) (.slice Ao16 t242.length co16)) (fun _ hk=>hk.1.1.1))) (fun k_ hk=>by first|exact ⟨(.inr (hk.1)),hk.2⟩|exact (.inr (hk))),yhb⟩
    ·
     rw [if_neg c35] at H
     have c35b0 : decide (x36_2 < 5)=false:=decide_eq_false c35
     clear c35
     simp only [Option.some.injEq,Prod.mk.injEq] at H
     obtain ⟨rfl,rfl,rfl,rfl⟩:=H
     have:=NB249_238.out
     have:=NB238_249.out
     have:=NB249_239.out
     have:=NB239_249.out
     have:=NB249_246.out
     have:=NB246_249.out
     obtain ⟨_,_,_,_,_,_⟩:=yc3 BK249
     have:=NB239_238.out
     have:=NB238_239.out
     have:=NB239_246.out
     have:=NB246_239.out
     obtain ⟨_,_,_,_,_,_⟩:=yc3 BK239
     obtain ⟨Ao87,co87,eo87⟩:=Kd.V_slice HO_250002.out
     subst eo87
     go_wp2
     refine bodyPost_ret (results_ct rfl _ _ gb239 26 #[.int .u64 x250000_2, .int .u32 x250001_2, .slice Ao87 x250002_2.length co87] (0,0) _ rfl (ykp BK239) Try.underlying26 rfl (by kernel_rfl)) rfl ?_
     exact ⟨_,ye,yV0 HO_250002,yhb⟩
def coder_Finish.f (a0_0 : Int) (a0_1 : Int) (l0_2 : List Int) : Option (List Int):=(coder_own.f a0_0 a0_1 l0_2).bind fun bt153=>((some (([(bt153.1 / 16777216) % 256,(bt153.1 / 65536) % 256,(bt153.1 / 256) % 256,(bt153.1) % 256] : List Int) : List Int)).bind fun y158=>(if bt153.2.2.length+y158.length < 140737488355328 then (some (bt153.2.2 ++ y158)) else (none)))
set_option maxHeartbeats 8000000 in
set_option maxRecDepth 100000 in
theorem coder_Finish.calls (a0_0 : Int) (a0_1 : Int) (A0_2 : Option Addr) (c0_2 : Nat) (l0_2 : List Int) (r : List Int) (w : World) (hr0_2 : Kd.C (Kd.int .u8) w A0_2 l0_2.length l0_2) (hc0_2 : l0_2.length≤c0_2) (h : coder_Finish.f a0_0 a0_1 l0_2=some r) :
  Calls Try.prog 24 #[.agg #[.int .u64 a0_0, .int .u32 a0_1, .slice A0_2 l0_2.length c0_2]] w fun e w' => ∃ v0_ : Value,e=.returned (v0_)∧Kd.R (Kd.int .u8) 5 w' w.heap.size (fun _=>True) v0_ r∧Below w.heap.size w w' := by
 have hu26:=Try.underlying26;have HR0_2:=zm hr0_2;have HC0_2:=zm hc0_2;clear hr0_2 hc0_2;have HB:=zm (Below.refl w.heap.size w)
 have H : ((coder_own.f a0_0 a0_1 l0_2).bind fun bt153=>((some (([(bt153.1 / 16777216) % 256,(bt153.1 / 65536) % 256,(bt153.1 / 256) % 256,(bt153.1) % 256] : List Int) : List Int)).bind fun y158=>(if bt153.2.2.length+y158.length < 140737488355328 then (some (bt153.2.2 ++ y158)) else (none))))=some r:=h
 clear h
 replace H:=ybi H;obtain ⟨⟨t153,t154,t155⟩,A2,H⟩:=H
 try dsimp only at H
 obtain ⟨y158,hy158⟩ : ∃ y_ : List Int,y_=(([(t153 / 16777216) % 256,(t153 / 65536) % 256,(t153 / 256) % 256,(t153) % 256] : List Int)):=⟨_,rfl⟩
 replace H : (if t155.length+y158.length < 140737488355328 then (some (t155 ++ y158)) else (none))=some r:=yrw hy158 H
 have Ny158:=zm hy158;clear hy158
 replace H:=yif H;obtain ⟨c3,H⟩:=H
 have LMc3:=zm c3;clear c3
 obtain ⟨y161,hy161⟩ : ∃ y_ : List Int,y_=(t155 ++ y158):=⟨_,rfl⟩
 replace H : (some y161)=some r:=yrw hy161 H
 have Ny161:=zm hy161;clear hy161
 obtain rfl:=Option.some.inj H
 go_enter Try.func24,Try.ntmps24
 go_wp2_with (first|((with_reducible refine gate_dst (N:=1) rfl ?_);refine ybx 1 #[.int .u64 a0_0, .int .u32 a0_1, .slice A0_2 l0_2.length c0_2] 26 ?_;intro gb152 hg w4 hbox hb;have BK152:=zm (hbox);have GW152:=ygw hg;have GE152:=ygw hg;replace HB:=ybs hb;clear hb hbox hg;obtain ⟨_,_,_,_,_,_⟩:=yc3 BK152)|((with_reducible refine gate_callee (f:=51) rfl ?_);refine ygl 4 Try.func51 #[.agg #[.int .u64 a0_0, .int .u32 a0_1, .slice A0_2 l0_2.length c0_2]] ?_;(with_reducible refine (coder_own.calls a0_0 a0_1 _ _ l0_2 t153 t154 t155 _ ?side1 HC0_2.out A2.out).mono ?_);(case side1=>exact ycb HR0_2);rintro e w6 ⟨v156,rfl,ho0,hb⟩;refine ⟨_,rfl, ?_⟩;have HO157:=zm (Kd.R_lower ho0 (zE yhb));replace BK152:=ybb BK152 hb;replace HB:=ybs hb;(try clear hb);(try clear ho0);obtain ⟨_,_,_,_,_,_⟩:=yc3 BK152;obtain ⟨Ao8,co8,eo8⟩:=Kd.R_slice HO157.out;subst eo8)|((with_reducible refine gate_dst (N:=22) rfl ?_);refine Kd.R_lit (Kd.int .u8) _ 5 ?hg (N:=22) ?hd (xs:=([(t153 / 16777216) % 256,(t153 / 65536) % 256,(t153 / 256) % 256,(t153) % 256] : List Int)) (inner := [.int .u8 ((t153 / 16777216) % 256), .int .u8 ((t153 / 65536) % 256), .int .u8 ((t153 / 256) % 256), .int .u8 ((t153) % 256)]) (ok:=fun _=>True) (okp:=fun _=>True) ?hr ?hp (fun _ hk=>hk) trivial (Below.refl _ _) (Nat.le_refl _) (by simp) ?_;(case hd=>rfl);(case hg=>rfl);(case hr=>first|(go_simp;done)|(go_simp;rfl));(case hp=>exact (Reps.one (show Kd.M (Kd.int .u8) _ _ _ ((t153 / 16777216) % 256) [.int .u8 ((t153 / 16777216) % 256)] from rfl) (Reps.one (show Kd.M (Kd.int .u8) _ _ _ ((t153 / 65536) % 256) [.int .u8 ((t153 / 65536) % 256)] from rfl) (Reps.one (show Kd.M (Kd.int .u8) _ _ _ ((t153 / 256) % 256) [.int .u8 ((t153 / 256) % 256)] from rfl) (Reps.one (show Kd.M (Kd.int .u8) _ _ _ ((t153) % 256) [.int .u8 ((t153) % 256)] from rfl) (Reps.none _ _))))));intro v159 w9 ho10 hb hg_ hnew_;clear hg_ hnew_;(first|rw [← Ny158.out] at ho10|(simp only [Int.reduceToNat] at ho10;rw [← Ny158.out] at ho10));have HO160:=zm (Kd.R_lower (Kd.R_new' ho10 (Kd.R_lt (yR1 HO157 BK152))) (zE yhb));replace HO157:=zm (Kd.R_elder' (yR1 HO157 BK152) (Kd.R_base ho10) hb);replace BK152:=zm (zF (g:=gb152) (o:=.cells #[.int .u64 t153, .int .u32 t154, .slice Ao8 t155.length co8] 26 (0,0)) (ykp BK152) hb);replace HB:=ybs hb;clear hb ho10;obtain ⟨Ao12,co12,eo12⟩:=Kd.R_slice HO160.out;subst eo12)|((with_reducible refine gate_builtin (b:=.append) (xs := #[.tmp 6, .tmp 22]) rfl ?_);at_builtin;refine Kd.R_append_rows (Kd.int .u8) (w0:=w) w.heap.size rfl (.tmp 6) (.tmp 22) 24 5 (.int .u8 0) 1 rfl Try.underlying24 info5 rfl (by decide) (by omega) (.slice Ao8 t155.length co8) t155 y158 _ _ _ (fun k_=>some k_≠(.slice Ao12 y158.length co12 : Value).ownBlock) (fun _=>False) rfl rfl ?aO ?aR (fun _ _ h=>h) (fun _ h=>h.elim) ?aF ?aB ?aS ?aL ?_;(case aR=>exact yce (Kd.R_reads' HO160.out).2.2);(case aB=>exact yhb);(case aF=>exact (fun k_ hk=>Kd.fresh' (Kd.R_lt (yr HO160)) k_ hk));(case aO=>exact (yR0 HO157));(case aS=>exact (zE yhb));(case aL=>have:=LMc3.out;omega);intro v162 w11 ho hb hg hat;rw [← Ny161.out] at ho;replace BK152:=zm (blk_grown (yk BK152) hg (zu HO157.out BK152.out (by decide)));replace HO160:=zm (Kd.R_after (ok:=(fun _=>True)) (yr HO160) hg hat);replace HB:=zm (hb);have HO163:=zm (ho);clear HO157;clear ho hb hg hat))
 go_ret
 exact ⟨_,ye,yR0 HO163,yhb⟩
def coder_at.f (l0 : List Int) (a1 : Int) : Option (Int):=if a1 ≥ (l0.length : Int) then (some 0) else (if 0≤a1 then (if a1 < (l0.length : Int) then (some (IntKind.u64.wrap (rd l0 a1))) else (none)) else (none))
set_option maxHeartbeats 8000000 in
set_option maxRecDepth 100000 in
theorem coder_at.calls (A0 : Option Addr) (c0 : Nat) (l0 : List Int) (a1 : Int) (r : Int) (w : World) (hr0 : Kd.C (Kd.int .u8) w A0 l0.length l0) (hc0 : l0.length≤c0) (h : coder_at.f l0 a1=some r) :
  Calls Try.prog 58 #[.slice A0 l0.length c0, .int .i64 a1] w fun e w' => e=.returned (.int .u64 r)∧Drawn0 w w' := by
 have HR0:=zm hr0;have HC0:=zm hc0;clear hr0 hc0
 have H : (if a1 ≥ (l0.length : Int) then (some 0) else (if 0≤a1 then (if a1 < (l0.length : Int) then (some (IntKind.u64.wrap (rd l0 a1))) else (none)) else (none)))=some r:=h
 clear h
 by_cases c3 : a1 ≥ (l0.length : Int)
 ·
  rw [if_pos c3] at H
  have c3b0 : decide ((l0.length : Int)≤a1)=true:=decide_eq_true c3
  clear c3
  obtain rfl:=Option.some.inj H
  go_enter Try.func58,Try.ntmps58
  go_wp2
  go_ret
  exact ⟨yq,yd⟩
 ·
  rw [if_neg c3] at H
  have c3b0 : decide ((l0.length : Int)≤a1)=false:=decide_eq_false c3
  clear c3
  replace H:=yif H;obtain ⟨c4,H⟩:=H
  have c4b0 : decide (0≤a1)=true:=decide_eq_true c4
  clear c4
  replace H:=yif H;obtain ⟨c5,H⟩:=H
  have c5b0 : decide (a1 < (l0.length : Int))=true:=decide_eq_true c5
  clear c5
  obtain rfl:=Option.some.inj H
  obtain ⟨ad164,e164,hx164_0,p164,q164⟩:=yai HR0 a1
  cases e164
  go_enter Try.func58,Try.ntmps58
  go_wp2
  go_ret
  exact ⟨yq,yd⟩
def coder_Open.f (l0 : List Int) : Option (Int × Int × List Int × Int):=(coder_at.f l0 0).bind fun t166=>((coder_at.f l0 1).bind fun t167=>((coder_at.f l0 2).bind fun t168=>((coder_at.f l0 3).bind fun t169=>(some (Go.bits .or .u64 (Go.bits .or .u64 (Go.bits .or .u64 (IntKind.u64.wrap (t166 * 16777216)) (IntKind.u64.wrap (t167 * 65536))) (IntKind.u64.wrap (t168 * 256))) t169,4294967295,l0,4)))))
set_option maxHeartbeats 8000000 in
set_option maxRecDepth 100000 in
theorem coder_Open.calls (P0_ : Nat→Prop) (A0 : Option Addr) (c0 : Nat) (l0 : List Int) (r1 : Int) (r2 : Int) (r3 : List Int) (r4 : Int) (w : World) (hs0 : Kd.V (Kd.int .u8) 5 w w.heap.size (fun k_=>P0_ k_) (.slice A0 l0.length c0) l0) (h : coder_Open.f l0=some (r1,r2,r3,r4)) :
  Calls Try.prog 26 #[.slice A0 l0.length c0] w fun e w' => ∃ v2_ : Value,e=.returned (.agg #[.int .u64 r1, .int .u32 r2,v2_, .int .i64 r4])∧Kd.V (Kd.int .u8) 5 w' w.heap.size (fun k_=>(P0_ k_∨w.heap.size≤k_)) v2_ r3∧Below w.heap.size w w' := by
 have hu43:=Try.underlying43
 have HO0:=zm (show Kd.V (Kd.int .u8) 5 w w.heap.size (fun k_=>(P0_ k_∨w.heap.size≤k_)) (.slice A0 l0.length c0) l0 from zy hs0 (fun k_ hk => .inl hk))
 have HB:=zm (Below.refl w.heap.size w)
 have H : ((coder_at.f l0 0).bind fun t166=>((coder_at.f l0 1).bind fun t167=>((coder_at.f l0 2).bind fun t168=>((coder_at.f l0 3).bind fun t169=>(some (Go.bits .or .u64 (Go.bits .or .u64 (Go.bits .or .u64 (IntKind.u64.wrap (t166 * 16777216)) (IntKind.u64.wrap (t167 * 65536))) (IntKind.u64.wrap (t168 * 256))) t169,4294967295,l0,4))))))=some (r1,r2,r3,r4):=h
 clear h
 replace H:=ybi H;obtain ⟨t166,A2,H⟩:=H
 replace H:=ybi H;obtain ⟨t167,A3,H⟩:=H
 replace H:=ybi H;obtain ⟨t168,A4,H⟩:=H
 replace H:=ybi H;obtain ⟨t169,A5,H⟩:=H
 simp only [Option.some.injEq,Prod.mk.injEq] at H
 obtain ⟨rfl,rfl,rfl,rfl⟩:=H
 go_enter Try.func26,Try.ntmps26
 go_wp2_with (first|((with_reducible refine gate_dst (N:=2) rfl ?_);refine ybx 2 #[.int .u64 0, .int .u32 0, .slice none 0 0, .int .i64 0] 43 ?_;intro gb165 hg w6 hbox hb;replace HO0:=yVe HO0 hg hb;have BK165:=zm (hbox);have GW165:=ygw hg;have GE165:=ygw hg;replace HB:=ybs hb;clear hb hbox hg)|((with_reducible refine gate_callee (f:=58) rfl ?_);refine ygl 4 Try.func58 #[.slice A0 l0.length c0, .int .i64 0] ?_;(with_reducible refine (coder_at.calls _ _ l0 0 t166 _ ?side1 ?side2 A2.out).mono ?_);(case side1=>exact yce (Kd.V_reads' HO0.out).2.2);(case side2=>exact (Kd.V_reads' HO0.out).2.1);rintro e w' ⟨rfl,⟨nd,rfl⟩⟩;refine ⟨_,rfl, ?_⟩;(try (rw [drewN_self w6];generalize hq_ : World.drewN w6 _=w6;have n0_ : Aside0 (Kd.V (Kd.int .u8) 5 w6 w.heap.size (fun k_=>(P0_ k_∨w.heap.size≤k_)∧k_≠gb165) (.slice A0 l0.length c0) l0):=⟨by rw [← hq_];exact (yr HO0)⟩;have n1_ : Aside0 (w6.heap[gb165]? = some (.cells #[.int .u64 0, .int .u32 0, .slice none 0 0, .int .i64 0] 43 (0,0))):=⟨by rw [← hq_];exact (yk BK165)⟩;have n2_ : Aside0 (Below w.heap.size w w6):=⟨by rw [← hq_];exact yhb⟩;clear HO0 BK165 HB hq_;have HO0:=n0_;have BK165:=n1_;have HB:=n2_;clear n0_ n1_ n2_)))|((with_reducible refine gate_callee (f:=58) rfl ?_);refine ygl 7 Try.func58 #[.slice A0 l0.length c0, .int .i64 1] ?_;(with_reducible refine (coder_at.calls _ _ l0 1 t167 _ ?side1 ?side2 A3.out).mono ?_);(case side1=>exact yce (Kd.V_reads' HO0.out).2.2);(case side2=>exact (Kd.V_reads' HO0.out).2.1);rintro e w' ⟨rfl,⟨nd,rfl⟩⟩;refine ⟨_,rfl, ?_⟩;(try (rw [drewN_self w6];generalize hq_ : World.drewN w6 _=w6;have n0_ : Aside0 (Kd.V (Kd.int .u8) 5 w6 w.heap.size (fun k_=>(P0_ k_∨w.heap.size≤k_)∧k_≠gb165) (.slice A0 l0.length c0) l0):=⟨by rw [← hq_];exact (yr HO0)⟩;have n1_ : Aside0 (w6.heap[gb165]? = some (.cells #[.int .u64 0, .int .u32 0, .slice none 0 0, .int .i64 0] 43 (0,0))):=⟨by rw [← hq_];exact (yk BK165)⟩;have n2_ : Aside0 (Below w.heap.size w w6):=⟨by rw [← hq_];exact yhb⟩;clear HO0 BK165 HB hq_;have HO0:=n0_;have BK165:=n1_;have HB:=n2_;clear n0_ n1_ n2_)))|((with_reducible refine gate_callee (f:=58) rfl ?_);refine ygl 11 Try.func58 #[.slice A0 l0.length c0, .int .i64 2] ?_;(with_reducible refine (coder_at.calls _ _ l0 2 t168 _ ?side1 ?side2 A4.out).mono ?_);(case side1=>exact yce (Kd.V_reads' HO0.out).2.2);(case side2=>exact (Kd.V_reads' HO0.out).2.1);rintro e w' ⟨rfl,⟨nd,rfl⟩⟩;refine ⟨_,rfl, ?_⟩;(try (rw [drewN_self w6];generalize hq_ : World.drewN w6 _=w6;have n0_ : Aside0 (Kd.V (Kd.int .u8) 5 w6 w.heap.size (fun k_=>(P0_ k_∨w.heap.size≤k_)∧k_≠gb165) (.slice A0 l0.length c0) l0):=⟨by rw [← hq_];exact (yr HO0)⟩;have n1_ : Aside0 (w6.heap[gb165]? = some (.cells #[.int .u64 0, .int .u32 0, .slice none 0 0, .int .i64 0] 43 (0,0))):=⟨by rw [← hq_];exact (yk BK165)⟩;have n2_ : Aside0 (Below w.heap.size w w6):=⟨by rw [← hq_];exact yhb⟩;clear HO0 BK165 HB hq_;have HO0:=n0_;have BK165:=n1_;have HB:=n2_;clear n0_ n1_ n2_)))|((with_reducible refine gate_callee (f:=58) rfl ?_);refine ygl 15 Try.func58 #[.slice A0 l0.length c0, .int .i64 3] ?_;(with_reducible refine (coder_at.calls _ _ l0 3 t169 _ ?side1 ?side2 A5.out).mono ?_);(case side1=>exact yce (Kd.V_reads' HO0.out).2.2);(case side2=>exact (Kd.V_reads' HO0.out).2.1);rintro e w' ⟨rfl,⟨nd,rfl⟩⟩;refine ⟨_,rfl, ?_⟩;(try (rw [drewN_self w6];generalize hq_ : World.drewN w6 _=w6;have n0_ : Aside0 (Kd.V (Kd.int .u8) 5 w6 w.heap.size (fun k_=>(P0_ k_∨w.heap.size≤k_)∧k_≠gb165) (.slice A0 l0.length c0) l0):=⟨by rw [← hq_];exact (yr HO0)⟩;have n1_ : Aside0 (w6.heap[gb165]? = some (.cells #[.int .u64 0, .int .u32 0, .slice none 0 0, .int .i64 0] 43 (0,0))):=⟨by rw [← hq_];exact (yk BK165)⟩;have n2_ : Aside0 (Below w.heap.size w w6):=⟨by rw [← hq_];exact yhb⟩;clear HO0 BK165 HB hq_;have HO0:=n0_;have BK165:=n1_;have HB:=n2_;clear n0_ n1_ n2_));obtain ⟨_,_,_,_,_,_,_,_⟩:=yc4 BK165))
 refine bodyPost_ret (results_cell_row rfl _ _ gb165 43 #[.int .u64 (Go.bits .or .u64 (Go.bits .or .u64 (Go.bits .or .u64 (IntKind.u64.wrap (t166 * 16777216)) (IntKind.u64.wrap (t167 * 65536))) (IntKind.u64.wrap (t168 * 256))) t169), .int .u32 4294967295, .slice A0 l0.length c0, .int .i64 4] (0,0) _ rfl (ykp BK165) Try.underlying43 rfl (by kernel_rfl)) rfl ?_
 exact ⟨_,ye,yV0 HO0,yhb⟩
def coder_RightDec.f (a0_0 : Int) (a0_1 : Int) (l0_2 : List Int) (a0_3 : Int) : Option (Bool):=if a0_0≤4294967295 then (if a0_1 ≥ 16777216 then (some (decide (a0_3 ≥ 0))) else (some false)) else (some false)
set_option maxHeartbeats 8000000 in
set_option maxRecDepth 100000 in
theorem coder_RightDec.calls (a0_0 : Int) (a0_1 : Int) (A0_2 : Option Addr) (c0_2 : Nat) (l0_2 : List Int) (a0_3 : Int) (r : Bool) (w : World) (hr0_2 : Kd.C (Kd.int .u8) w A0_2 l0_2.length l0_2) (hc0_2 : l0_2.length≤c0_2) (h : coder_RightDec.f a0_0 a0_1 l0_2 a0_3=some r) :
  Calls Try.prog 28 #[.agg #[.int .u64 a0_0, .int .u32 a0_1, .slice A0_2 l0_2.length c0_2, .int .i64 a0_3]] w fun e w' => e=.returned (.bool r)∧Below w.heap.size w w' := by
 have hu43:=Try.underlying43;have HR0_2:=zm hr0_2;have HC0_2:=zm hc0_2;clear hr0_2 hc0_2;have HB:=zm (Below.refl w.heap.size w)
 have H : (if a0_0≤4294967295 then (if a0_1 ≥ 16777216 then (some (decide (a0_3 ≥ 0))) else (some false)) else (some false))=some r:=h
 clear h
 by_cases c2 : a0_0≤4294967295
 ·
  rw [if_pos c2] at H
  have c2b0 : decide (a0_0≤4294967295)=true:=decide_eq_true c2
  clear c2
  by_cases c3 : a0_1 ≥ 16777216
  ·
   rw [if_pos c3] at H
   have c3b0 : decide (16777216≤a0_1)=true:=decide_eq_true c3
   clear c3
   obtain rfl:=Option.some.inj H
   go_enter Try.func28,Try.ntmps28
   go_wp2_with (first|((with_reducible refine gate_dst (N:=1) rfl ?_);refine ybx 1 #[.int .u64 a0_0, .int .u32 a0_1, .slice A0_2 l0_2.length c0_2, .int .i64 a0_3] 43 ?_;intro gb170 hg w4 hbox hb;have BK170:=zm (hbox);have GW170:=ygw hg;have GE170:=ygw hg;replace HB:=ybs hb;clear hb hbox hg;obtain ⟨_,_,_,_,_,_,_,_⟩:=yc4 BK170))
   go_ret
   exact ⟨ye,yhb⟩
  ·
   rw [if_neg c3] at H
   have c3b0 : decide (16777216≤a0_1)=false:=decide_eq_false c3
   clear c3
   obtain rfl:=Option.some.inj H
   go_enter Try.func28,Try.ntmps28
   go_wp2_with (first|((with_reducible refine gate_dst (N:=1) rfl ?_);refine ybx 1 #[.int .u64 a0_0, .int .u32 a0_1, .slice A0_2 l0_2.length c0_2, .int .i64 a0_3] 43 ?_;intro gb170 hg w6 hbox hb;have BK170:=zm (hbox);have GW170:=ygw hg;have GE170:=ygw hg;replace HB:=ybs hb;clear hb hbox hg;obtain ⟨_,_,_,_,_,_,_,_⟩:=yc4 BK170))
   go_ret
   exact ⟨ye,yhb⟩
 ·
  rw [if_neg c2] at H
  have c2b0 : decide (a0_0≤4294967295)=false:=decide_eq_false c2
  clear c2
  obtain rfl:=Option.some.inj H
  go_enter Try.func28,Try.ntmps28
  go_wp2_with (first|((with_reducible refine gate_dst (N:=1) rfl ?_);refine ybx 1 #[.int .u64 a0_0, .int .u32 a0_1, .slice A0_2 l0_2.length c0_2, .int .i64 a0_3] 43 ?_;intro gb170 hg w8 hbox hb;have BK170:=zm (hbox);have GW170:=ygw hg;have GE170:=ygw hg;replace HB:=ybs hb;clear hb hbox hg;obtain ⟨_,_,_,_,_,_,_,_⟩:=yc4 BK170))
  go_ret
  exact ⟨ye,yhb⟩
def coder_good.f (a0_0 : Int) (a0_1 : Int) (l0_2 : List Int) (a0_3 : Int) : Option (Int × Int × List Int × Int):=(coder_RightDec.f a0_0 a0_1 l0_2 a0_3).bind fun t261=>(if t261=true then (some (a0_0,a0_1,l0_2,a0_3)) else ((coder_Open.f ([] : List Int)).bind fun bt262=>(some (bt262.1,bt262.2.1,bt262.2.2.1,bt262.2.2.2))))
set_option maxHeartbeats 8000000 in
set_option maxRecDepth 100000 in
theorem coder_good.calls (a0_0 : Int) (a0_1 : Int) (P0_2_ : Nat→Prop) (A0_2 : Option Addr) (c0_2 : Nat) (l0_2 : List Int) (a0_3 : Int) (r1 : Int) (r2 : Int) (r3 : List Int) (r4 : Int) (w : World) (hs0_2 : Kd.V (Kd.int .u8) 5 w w.heap.size (fun k_=>P0_2_ k_) (.slice A0_2 l0_2.length c0_2) l0_2) (h : coder_good.f a0_0 a0_1 l0_2 a0_3=some (r1,r2,r3,r4)) :
  Calls Try.prog 60 #[.agg #[.int .u64 a0_0, .int .u32 a0_1, .slice A0_2 l0_2.length c0_2, .int .i64 a0_3]] w fun e w' => ∃ v2_ : Value,e=.returned (.agg #[.int .u64 r1, .int .u32 r2,v2_, .int .i64 r4])∧Kd.V (Kd.int .u8) 5 w' w.heap.size (fun k_=>(P0_2_ k_∨w.heap.size≤k_)) v2_ r3∧Below w.heap.size w w' := by
 have hu43:=Try.underlying43
 have HO0_2:=zm (show Kd.V (Kd.int .u8) 5 w w.heap.size (fun k_=>(P0_2_ k_∨w.heap.size≤k_)) (.slice A0_2 l0_2.length c0_2) l0_2 from zy hs0_2 (fun k_ hk => .inl hk))
 have HB:=zm (Below.refl w.heap.size w)
 have H : ((coder_RightDec.f a0_0 a0_1 l0_2 a0_3).bind fun t261=>(if t261=true then (some (a0_0,a0_1,l0_2,a0_3)) else ((coder_Open.f ([] : List Int)).bind fun bt262=>(some (bt262.1,bt262.2.1,bt262.2.2.1,bt262.2.2.2)))))=some (r1,r2,r3,r4):=h
 clear h
 replace H:=ybi H;obtain ⟨t261,A2,H⟩:=H
 by_cases c3 : t261=true
 ·
  subst c3
  rw [if_pos rfl] at H
  simp only [Option.some.injEq,Prod.mk.injEq] at H
  obtain ⟨rfl,rfl,rfl,rfl⟩:=H
  go_enter Try.func60,Try.ntmps60
  go_wp2_with (first|((with_reducible refine gate_dst (N:=1) rfl ?_);refine ybx 1 #[.int .u64 a0_0, .int .u32 a0_1, .slice A0_2 l0_2.length c0_2, .int .i64 a0_3] 43 ?_;intro gb259 hg w4 hbox hb;replace HO0_2:=yVe HO0_2 hg hb;have BK259:=zm (hbox);have GW259:=ygw hg;have GE259:=ygw hg;replace HB:=ybs hb;clear hb hbox hg)|((with_reducible refine gate_dst (N:=2) rfl ?_);refine ybx 2 #[.int .u64 0, .int .u32 0, .slice none 0 0, .int .i64 0] 43 ?_;intro gb260 hg w5 hbox hb;replace HO0_2:=yVe HO0_2 hg hb;have BK260:=zm (hbox);have GW260:=ygw hg;have GE260:=ygw hg;replace HB:=ybs hb;have NB259_260:=ynl BK259 hg;have NB260_259:=yng BK259 hg;replace BK259:=ybb BK259 hb;clear hb hbox hg;have:=NB259_260.out;have:=NB260_259.out;obtain ⟨_,_,_,_,_,_,_,_⟩:=yc4 BK259)|((with_reducible refine gate_callee (f:=28) rfl ?_);refine ygl 4 Try.func28 #[.agg #[.int .u64 a0_0, .int .u32 a0_1, .slice A0_2 l0_2.length c0_2, .int .i64 a0_3]] ?_;(with_reducible refine (coder_RightDec.calls a0_0 a0_1 _ _ l0_2 a0_3 true _ ?side1 ?side2 A2.out).mono ?_);(case side1=>exact yce (Kd.V_reads' HO0_2.out).2.2);(case side2=>exact (Kd.V_reads' HO0_2.out).2.1);rintro e w8 ⟨rfl,hb⟩;refine ⟨_,rfl, ?_⟩;replace HO0_2:=yVb HO0_2 hb;replace BK259:=ybb BK259 hb;replace BK260:=ybb BK260 hb;replace HB:=ybs hb;(try clear hb);obtain ⟨_,_,_,_,_,_,_,_⟩:=yc4 BK259;obtain ⟨_,_,_,_,_,_,_,_⟩:=yc4 BK260))
  refine bodyPost_ret (results_cell_row rfl _ _ gb260 43 #[.int .u64 a0_0, .int .u32 a0_1, .slice A0_2 l0_2.length c0_2, .int .i64 a0_3] (0,0) _ rfl (ykp BK260) Try.underlying43 rfl (by kernel_rfl)) rfl ?_
  exact ⟨_,ye,yV0 HO0_2,yhb⟩
 ·
  replace c3:=Bool.eq_false_iff.mpr c3
  subst c3
  rw [ynf] at H
  replace H:=ybi H;obtain ⟨⟨t262,t263,t264,t267⟩,A11,H⟩:=H
  try dsimp only at H
  simp only [Option.some.injEq,Prod.mk.injEq] at H
  obtain ⟨rfl,rfl,rfl,rfl⟩:=H
  go_enter Try.func60,Try.ntmps60
  go_wp2_with (first|((with_reducible refine gate_dst (N:=1) rfl ?_);refine ybx 1 #[.int .u64 a0_0, .int .u32 a0_1, .slice A0_2 l0_2.length c0_2, .int .i64 a0_3] 43 ?_;intro gb259 hg w12 hbox hb;replace HO0_2:=yVe HO0_2 hg hb;have BK259:=zm (hbox);have GW259:=ygw hg;have GE259:=ygw hg;replace HB:=ybs hb;clear hb hbox hg)|((with_reducible refine gate_dst (N:=2) rfl ?_);refine ybx 2 #[.int .u64 0, .int .u32 0, .slice none 0 0, .int .i64 0] 43 ?_;intro gb260 hg w13 hbox hb;replace HO0_2:=yVe HO0_2 hg hb;have BK260:=zm (hbox);have GW260:=ygw hg;have GE260:=ygw hg;replace HB:=ybs hb;have NB259_260:=ynl BK259 hg;have NB260_259:=yng BK259 hg;replace BK259:=ybb BK259 hb;clear hb hbox hg;have:=NB259_260.out;have:=NB260_259.out;obtain ⟨_,_,_,_,_,_,_,_⟩:=yc4 BK259)|((with_reducible refine gate_callee (f:=28) rfl ?_);refine ygl 4 Try.func28 #[.agg #[.int .u64 a0_0, .int .u32 a0_1, .slice A0_2 l0_2.length c0_2, .int .i64 a0_3]] ?_;(with_reducible refine (coder_RightDec.calls a0_0 a0_1 _ _ l0_2 a0_3 false _ ?side1 ?side2 A2.out).mono ?_);(case side1=>exact yce (Kd.V_reads' HO0_2.out).2.2);(case side2=>exact (Kd.V_reads' HO0_2.out).2.1);rintro e w16 ⟨rfl,hb⟩;refine ⟨_,rfl, ?_⟩;replace HO0_2:=yVb HO0_2 hb;replace BK259:=ybb BK259 hb;replace BK260:=ybb BK260 hb;replace HB:=ybs hb;(try clear hb))|((with_reducible refine gate_callee (f:=26) rfl ?_);refine ygl 6 Try.func26 #[.slice none 0 0] ?_;(refine (coder_Open.calls (fun k_=>False) _ _ ([] : List Int) t262 t263 t264 t267 _ ?side1 A11.out).mono ?_);(case side1=>exact Kd.V_nil _ _ _ _ _);rintro e w17 ⟨v265,rfl,ho0,hb⟩;refine ⟨_,rfl, ?_⟩;replace HO0_2:=yVb HO0_2 hb;have HO266:=yho (fun k_=>(P0_2_ k_∨w.heap.size≤k_)∧k_≠gb259∧k_≠gb260) ho0 (fun k_ hk_=>⟨Or.elim hk_ (fun hs_=>(hs_).elim) (fun hn_=>(.inr (Nat.le_trans (zE yhb) hn_))),yoB BK259 hk_,yoB BK260 hk_⟩);replace BK259:=ybb BK259 hb;replace BK260:=ybb BK260 hb;replace HB:=ybs hb;(try clear hb);(try clear ho0);obtain ⟨_,_,_,_,_,_,_,_⟩:=yc4 BK260;obtain ⟨Ao19,co19,eo19⟩:=Kd.V_slice HO266.out;subst eo19))
  refine bodyPost_ret (results_cell_row rfl _ _ gb260 43 #[.int .u64 t262, .int .u32 t263, .slice Ao19 t264.length co19, .int .i64 t267] (0,0) _ rfl (ykp BK260) Try.underlying43 rfl (by kernel_rfl)) rfl ?_
  exact ⟨_,ye,yV0 HO266,yhb⟩
def coder_Take.l0 : Nat→Int→Int→Int→List Int→Int→Option (Int × Int × List Int × Int × Int)
 | 0,_,_,_,_,_=>none
 | k+1,x10,x269000,x269001,x269002,x269003=>if x10 < 16777216 then ((coder_at.f x269002 x269003).bind fun t279=>(if x269003 < (x269002.length : Int) then (coder_Take.l0 k ((x10 * 256) % 4294967296) (Go.bits .or .u64 (Go.bits .and .u64 (IntKind.u64.wrap (x269000 * 256)) 4294967295) t279) x269001 x269002 (wrap64 (x269003+1))) else (coder_Take.l0 k ((x10 * 256) % 4294967296) (Go.bits .or .u64 (Go.bits .and .u64 (IntKind.u64.wrap (x269000 * 256)) 4294967295) t279) x269001 x269002 x269003))) else (some (x269000,x10,x269002,x269003,0))
def coder_Take.f (k : Nat) (a0_0 : Int) (a0_1 : Int) (l0_2 : List Int) (a0_3 : Int) (a1 : Int) (a2 : Int) (a3 : Int) : Option (Int × Int × List Int × Int × Int):=(coder_good.f a0_0 a0_1 l0_2 a0_3).bind fun bt270=>((coder_fair.f a1 a2 a3).bind fun t276=>(if t276=true then ((coder_part.f bt270.2.1 a1 a2 a3).bind fun bt277=>(coder_Take.l0 k bt277.1 (IntKind.u64.wrap (bt270.1 - (mn bt270.1 bt277.2))) bt270.2.1 bt270.2.2.1 bt270.2.2.2)) else (some (bt270.1,bt270.2.1,bt270.2.2.1,bt270.2.2.2,1))))
theorem coder_Take.mono_l : ∀ k,(∀ y0 y1 y2 y3 y4,LeO (coder_Take.l0 k y0 y1 y2 y3 y4) (coder_Take.l0 (k+1) y0 y1 y2 y3 y4))
 | 0=>fun _ _ _ _ _ r h=>by simp [coder_Take.l0] at h
 | k+1=>by
  have ih0:=coder_Take.mono_l k
  ·
   intro y0 y1 y2 y3 y4
   unfold coder_Take.l0
   repeat' with_reducible first|apply ih0|apply yLr|apply yLn|apply yLi|apply yLb|intro _
theorem coder_Take.mono : ∀ a0 a1 a2 a3 a4 a5 a6 k,LeO (coder_Take.f k a0 a1 a2 a3 a4 a5 a6) (coder_Take.f (k+1) a0 a1 a2 a3 a4 a5 a6):=by
 intro a0 a1 a2 a3 a4 a5 a6 k
 have ih0:=coder_Take.mono_l k
 unfold coder_Take.f
 repeat' with_reducible first|apply ih0|apply yLr|apply yLn|apply yLi|apply yLb|intro _
def coder_Take.T7 : Bool × List (List Nat × List Nat):=(true, [([], []),([0], [0]),([1], [1]),([2], [2]),([], []),([4], [4]),([], []),([6], [6]),([5,7], [5,7]),([3,8], [3,8]),([0,1,2,3,4,5,6,7,8,9], []),([10,9,8,0,1,2,3,4,5,6,7,8,9], [9,10])])
def coder_Take.B7 : List Nat := [0,1,3,7,0,16,0,64,240,511,1023,2047]
theorem coder_Take.tab7 : rtab .any (opsOf Try.f34 7)=coder_Take.T7:=by kernel_rfl
theorem coder_Take.bits7 : waitsOk coder_Take.T7.2 coder_Take.B7=true:=by kernel_rfl
set_option maxHeartbeats 8000000 in
set_option maxRecDepth 100000 in
theorem coder_Take.calls (k : Nat) (a0_0 : Int) (a0_1 : Int) (P0_2_ : Nat→Prop) (A0_2 : Option Addr) (c0_2 : Nat) (l0_2 : List Int) (a0_3 : Int) (a1 : Int) (a2 : Int) (a3 : Int) (r1 : Int) (r2 : Int) (r3 : List Int) (r4 : Int) (r5 : Int) (w : World) (hs0_2 : Kd.V (Kd.int .u8) 5 w w.heap.size (fun k_=>P0_2_ k_) (.slice A0_2 l0_2.length c0_2) l0_2) (h : coder_Take.f k a0_0 a0_1 l0_2 a0_3 a1 a2 a3=some (r1,r2,r3,r4,r5)) :
  Calls Try.prog 34 #[.agg #[.int .u64 a0_0, .int .u32 a0_1, .slice A0_2 l0_2.length c0_2, .int .i64 a0_3], .int .i64 a1, .int .i64 a2, .int .i64 a3] w fun e w' => ∃ v2_ : Value,e=.returned (.tuple #[.agg #[.int .u64 r1, .int .u32 r2,v2_, .int .i64 r4], .int .i64 r5])∧Kd.V (Kd.int .u8) 5 w' w.heap.size (fun k_=>(P0_2_ k_∨w.heap.size≤k_)) v2_ r3∧Below w.heap.size w w' := by
 have hu43:=Try.underlying43
 have HO0_2:=zm (show Kd.V (Kd.int .u8) 5 w w.heap.size (fun k_=>(P0_2_ k_∨w.heap.size≤k_)) (.slice A0_2 l0_2.length c0_2) l0_2 from zy hs0_2 (fun k_ hk => .inl hk))
 have HB:=zm (Below.refl w.heap.size w)
 have H : ((coder_good.f a0_0 a0_1 l0_2 a0_3).bind fun bt270=>((coder_fair.f a1 a2 a3).bind fun t276=>(if t276=true then ((coder_part.f bt270.2.1 a1 a2 a3).bind fun bt277=>(coder_Take.l0 k bt277.1 (IntKind.u64.wrap (bt270.1 - (mn bt270.1 bt277.2))) bt270.2.1 bt270.2.2.1 bt270.2.2.2)) else (some (bt270.1,bt270.2.1,bt270.2.2.1,bt270.2.2.2,1)))))=some (r1,r2,r3,r4,r5):=h
 clear h
 replace H:=ybi H;obtain ⟨⟨t270,t271,t272,t275⟩,A5,H⟩:=H
 try dsimp only at H
 replace H:=ybi H;obtain ⟨t276,A6,H⟩:=H
 by_cases c7 : t276=true
 ·
  subst c7
  rw [if_pos rfl] at H
  replace H:=ybi H;obtain ⟨⟨t277,t278⟩,A8,H⟩:=H
  try dsimp only at H
  obtain ⟨ji9,hji9⟩ : ∃ j_ : Int,(mn t270 t278)=j_:=⟨_,rfl⟩
  replace H : (coder_Take.l0 k t277 (IntKind.u64.wrap (t270 - (ji9))) t271 t272 t275)=some (r1,r2,r3,r4,r5):=by first|(rw [hji9] at H;exact H)|(simp only [hji9] at H ⊢; exact H)
  (try rw [hji9] at A5)
  (try rw [hji9] at A6)
  (try rw [hji9] at A8)
  have hji9_ : (if t278 < t270 then t278 else t270)=ji9:=hji9
  have H' := zm H
  clear H
  go_enter Try.func34,Try.ntmps34
  go_wp2_with (first|((with_reducible refine gate_dst (N:=4) rfl ?_);refine ybx 4 #[.int .u64 a0_0, .int .u32 a0_1, .slice A0_2 l0_2.length c0_2, .int .i64 a0_3] 43 ?_;intro gb268 hg w10 hbox hb;replace HO0_2:=yVe HO0_2 hg hb;have BK268:=zm (hbox);have GW268:=ygw hg;have GE268:=ygw hg;replace HB:=ybs hb;clear hb hbox hg)|((with_reducible refine gate_dst (N:=8) rfl ?_);refine ybx 8 #[.int .u64 0, .int .u32 0, .slice none 0 0, .int .i64 0] 43 ?_;intro gb269 hg w11 hbox hb;replace HO0_2:=yVe HO0_2 hg hb;have BK269:=zm (hbox);have GW269:=ygw hg;have GE269:=ygw hg;replace HB:=ybs hb;have NB268_269:=ynl BK268 hg;have NB269_268:=yng BK268 hg;replace BK268:=ybb BK268 hb;clear hb hbox hg;have:=NB268_269.out;have:=NB269_268.out;obtain ⟨hcz13_0,hcz13_1,hcz13_2,hcz13_3,hfz13_0,hfz13_1,hfz13_2,hfz13_3⟩:=yc4 BK268)|((with_reducible refine gate_callee (f:=60) rfl ?_);refine ygl 13 Try.func60 #[.agg #[.int .u64 a0_0, .int .u32 a0_1, .slice A0_2 l0_2.length c0_2, .int .i64 a0_3]] ?_;(with_reducible refine (coder_good.calls a0_0 a0_1 (fun k_=>(((P0_2_ k_∨w.heap.size≤k_)∧k_≠gb268)∧k_≠gb269)) _ _ l0_2 a0_3 t270 t271 t272 t275 _ HO0_2.out A5.out).mono ?_);rintro e w14 ⟨v273,rfl,ho0,hb⟩;refine ⟨_,rfl, ?_⟩;replace HO0_2:=yVb HO0_2 hb;have HO274:=yho (fun k_=>(P0_2_ k_∨w.heap.size≤k_)∧k_≠gb268∧k_≠gb269) ho0 (fun k_ hk_=>⟨Or.elim hk_ (fun hs_=>hs_.1.1) (fun hn_=>(.inr (Nat.le_trans (zE yhb) hn_))),yoB BK268 hk_,yoB BK269 hk_⟩);replace BK268:=ybb BK268 hb;replace BK269:=ybb BK269 hb;replace HB:=ybs hb;(try clear hb);(try clear ho0);obtain ⟨hcz15_0,hcz15_1,hcz15_2,hcz15_3,hfz15_0,hfz15_1,hfz15_2,hfz15_3⟩:=yc4 BK268;obtain ⟨Ao16,co16,eo16⟩:=Kd.V_slice HO274.out;subst eo16)|((with_reducible refine gate_store (t:=43) (p:=4) rfl ?_);refine store_event (t:=43) (p:=4) (v := ?vo_w17) (w1:=((((w14.setCell ⟨gb268,0,none⟩ (.int .u64 t270)).setCell ⟨gb268,1,none⟩ (.int .u32 t271)).setCell ⟨gb268,2,none⟩ (.slice Ao16 t272.length co16)).setCell ⟨gb268,3,none⟩ (.int .i64 t275))) ?hg ?ho ?hn ?hr ?_;(case ho=>rfl);(case hg=>rfl);(case hn=>rfl);(case hr=>first|(go_simp;done)|(go_simp;rfl));intro w17 hw;replace HO0_2 : Aside0 (Kd.V (Kd.int .u8) 5 w17 w.heap.size (fun k_=>(P0_2_ k_∨w.heap.size≤k_)∧k_≠gb268∧k_≠gb269) (.slice A0_2 l0_2.length c0_2) l0_2):=⟨(by rw [hw];exact (yV0 HO0_2))⟩;replace HO274 : Aside0 (Kd.V (Kd.int .u8) 5 w17 w.heap.size (fun k_=>(P0_2_ k_∨w.heap.size≤k_)∧k_≠gb268∧k_≠gb269) (.slice Ao16 t272.length co16) t272):=⟨(by rw [hw];exact (yV0 HO274))⟩;replace BK268 : Aside0 (w17.heap[gb268]? = some (.cells #[.int .u64 t270, .int .u32 t271, .slice Ao16 t272.length co16, .int .i64 t275] 43 (0,0))):=⟨(by rw [hw];exact (ykp BK268))⟩;replace BK269 : Aside0 (w17.heap[gb269]? = some (.cells #[.int .u64 0, .int .u32 0, .slice none 0 0, .int .i64 0] 43 (0,0))):=⟨(by rw [hw];exact (yk BK269))⟩;replace HB : Aside0 (Below w.heap.size w w17):=⟨(by rw [hw];exact yhb)⟩;clear hw)|((with_reducible refine gate_callee (f:=52) rfl ?_);refine ygl 17 Try.func52 #[.int .i64 a1, .int .i64 a2, .int .i64 a3] ?_;(with_reducible refine (coder_fair.calls a1 a2 a3 true _ A6.out).mono ?_);rintro e w' ⟨rfl,⟨nd,rfl⟩⟩;refine ⟨_,rfl, ?_⟩;(try (rw [drewN_self w17];generalize hq_ : World.drewN w17 _=w17;have n0_ : Aside0 (Kd.V (Kd.int .u8) 5 w17 w.heap.size (fun k_=>(P0_2_ k_∨w.heap.size≤k_)∧k_≠gb268∧k_≠gb269) (.slice A0_2 l0_2.length c0_2) l0_2):=⟨by rw [← hq_];exact (yr HO0_2)⟩;have n1_ : Aside0 (Kd.V (Kd.int .u8) 5 w17 w.heap.size (fun k_=>(P0_2_ k_∨w.heap.size≤k_)∧k_≠gb268∧k_≠gb269) (.slice Ao16 t272.length co16) t272):=⟨by rw [← hq_];exact (yr HO274)⟩;have n2_ : Aside0 (w17.heap[gb268]? = some (.cells #[.int .u64 t270, .int .u32 t271, .slice Ao16 t272.length co16, .int .i64 t275] 43 (0,0))):=⟨by rw [← hq_];exact (yk BK268)⟩;have n3_ : Aside0 (w17.heap[gb269]? = some (.cells #[.int .u64 0, .int .u32 0, .slice none 0 0, .int .i64 0] 43 (0,0))):=⟨by rw [← hq_];exact (yk BK269)⟩;have n4_ : Aside0 (Below w.heap.size w w17):=⟨by rw [← hq_];exact yhb⟩;clear HO0_2 HO274 BK268 BK269 HB hq_;have HO0_2:=n0_;have HO274:=n1_;have BK268:=n2_;have BK269:=n3_;have HB:=n4_;clear n0_ n1_ n2_ n3_ n4_));obtain ⟨hcz18_0,hcz18_1,hcz18_2,hcz18_3,hfz18_0,hfz18_1,hfz18_2,hfz18_3⟩:=yc4 BK268)|((with_reducible refine gate_callee (f:=53) rfl ?_);refine ygl 26 Try.func53 #[.int .u32 t271, .int .i64 a1, .int .i64 a2, .int .i64 a3] ?_;(with_reducible refine (coder_part.calls t271 a1 a2 a3 t277 t278 _ A8.out).mono ?_);rintro e w' ⟨rfl,⟨nd,rfl⟩⟩;refine ⟨_,rfl, ?_⟩;(try (rw [drewN_self w17];generalize hq_ : World.drewN w17 _=w17;have n0_ : Aside0 (Kd.V (Kd.int .u8) 5 w17 w.heap.size (fun k_=>(P0_2_ k_∨w.heap.size≤k_)∧k_≠gb268∧k_≠gb269) (.slice A0_2 l0_2.length c0_2) l0_2):=⟨by rw [← hq_];exact (yr HO0_2)⟩;have n1_ : Aside0 (Kd.V (Kd.int .u8) 5 w17 w.heap.size (fun k_=>(P0_2_ k_∨w.heap.size≤k_)∧k_≠gb268∧k_≠gb269) (.slice Ao16 t272.length co16) t272):=⟨by rw [← hq_];exact (yr HO274)⟩;have n2_ : Aside0 (w17.heap[gb268]? = some (.cells #[.int .u64 t270, .int .u32 t271, .slice Ao16 t272.length co16, .int .i64 t275] 43 (0,0))):=⟨by rw [← hq_];exact (yk BK268)⟩;have n3_ : Aside0 (w17.heap[gb269]? = some (.cells #[.int .u64 0, .int .u32 0, .slice none 0 0, .int .i64 0] 43 (0,0))):=⟨by rw [← hq_];exact (yk BK269)⟩;have n4_ : Aside0 (Below w.heap.size w w17):=⟨by rw [← hq_];exact yhb⟩;clear HO0_2 HO274 BK268 BK269 HB hq_;have HO0_2:=n0_;have HO274:=n1_;have BK268:=n2_;have BK269:=n3_;have HB:=n4_;clear n0_ n1_ n2_ n3_ n4_));obtain ⟨hcz19_0,hcz19_1,hcz19_2,hcz19_3,hfz19_0,hfz19_1,hfz19_2,hfz19_3⟩:=yc4 BK268))
  go_loopg [10] k (fun kq v10 w' => ∃ (x10_1 : Int) (x269000_1 : Int) (x269003_1 : Int),v10=.int .u32 x10_1∧Aside0 (coder_Take.l0 kq x10_1 x269000_1 t271 t272 x269003_1=some (r1,r2,r3,r4,r5))∧Aside0 (kq≤k)∧Aside0 (Kd.V (Kd.int .u8) 5 w' w.heap.size (fun k_=>(P0_2_ k_∨w.heap.size≤k_)∧k_≠gb268∧k_≠gb269) (.slice Ao16 t272.length co16) t272)∧Aside0 (w'.heap[gb268]? = some (.cells #[.int .u64 x269000_1, .int .u32 t271,(.slice Ao16 t272.length co16), .int .i64 x269003_1] 43 (0,0)))∧Aside0 (w'.heap[gb269]? = some (.cells #[.int .u64 0, .int .u32 0,(.slice none 0 0), .int .i64 0] 43 (0,0)))∧Aside0 (Below w.heap.size w w'))
  case atStart=>exact ⟨(t277),(IntKind.u64.wrap (t270 - (ji9))),(t275),yq,H',⟨Nat.le_refl _⟩,⟨yV0 HO274⟩,⟨ykp BK268⟩,⟨yk BK269⟩,⟨yhb⟩⟩
  case round =>
   clear H'
   try clear hcz13_0
   try clear hcz13_1
   try clear hcz13_2
   try clear hcz13_3
   try clear hcz15_0
   try clear hcz15_1
   try clear hcz15_2
   try clear hcz15_3
   try clear hcz18_0
   try clear hcz18_1
   try clear hcz18_2
   try clear hcz18_3
   try clear hcz19_0
   try clear hcz19_1
   try clear hcz19_2
   try clear hcz19_3
   try clear hfz13_0
   try clear hfz13_1
   try clear hfz13_2
   try clear hfz13_3
   try clear hfz15_0
   try clear hfz15_1
   try clear hfz15_2
   try clear hfz15_3
   try clear hfz18_0
   try clear hfz18_1
   try clear hfz18_2
   try clear hfz18_3
   try clear hfz19_0
   try clear hfz19_1
   try clear hfz19_2
   try clear hfz19_3
   obtain ⟨x10_1,x269000_1,x269003_1,rfl,HA,HK1,HO_269002,BK268,BK269,HB⟩:=hrel
   obtain ⟨k1,rfl⟩:=ysu gk (fun h=>by subst h;exact absurd HA.out (by simp [coder_Take.l0]))
   have H:=HA.out;clear HA
   simp only [coder_Take.l0] at H
   by_cases c20 : x10_1 < 16777216
   ·
    rw [if_pos c20] at H
    have c20b0 : decide (x10_1 < 16777216)=true:=decide_eq_true c20
    clear c20
    replace H:=ybi H;obtain ⟨t279,A21,H⟩:=H
    by_cases c22 : x269003_1 < (t272.length : Int)
    ·
     rw [if_pos c22] at H
     have c22b0 : decide (x269003_1 < (t272.length : Int))=true:=decide_eq_true c22
     clear c22
     have H' := zm H
     clear H
     try go_wp2
     replace HO_269002:=zm (zC HO_269002.out)
     replace BK268:=zm (zj BK268.out)
     replace BK269:=zm (zj BK269.out)
     replace HB:=zm (zf HB.out)
     refine yst (fun w' => w'.cell? ⟨gb268,0,none⟩=some (.int .u64 x269000_1)∧w'.cell? ⟨gb268,1,none⟩=some (.int .u32 t271)∧w'.cell? ⟨gb268,2,none⟩=some (.slice Ao16 t272.length co16)∧w'.cell? ⟨gb268,3,none⟩=some (.int .i64 x269003_1)) [11] 12 coder_Take.tab7 coder_Take.bits7 (fun hHeld HT_ HW_ => ?_)
     generalize wr.drew=w23 at HO_269002 BK268 BK269 HB hHeld ⊢
     refine yp 0 39 HT_ ?_
     refine yp 4 43 HT_ ?_
     refine yp 6 45 HT_ ?_
     refine yl 1 40 HT_ HW_ hHeld ?_
     refine yp 2 41 HT_ ?_
     refine yp 3 42 HT_ ?_
     refine yl 5 44 HT_ HW_ hHeld ?_
     refine yl 7 46 HT_ HW_ hHeld ?_
     refine yw 8 47 HT_ (fun K hK => ?_)
     refine ygs Try.func58 #[.slice Ao16 t272.length co16, .int .i64 x269003_1] ?_
     with_reducible refine (coder_at.calls _ _ t272 x269003_1 t279 _ ?side1 ?side2 A21.out).mono ?_
     (case side1=>exact yce (Kd.V_reads' HO_269002.out).2.2)
     (case side2=>exact (Kd.V_reads' HO_269002.out).2.1)
     rintro e w' ⟨rfl,⟨nd,rfl⟩⟩
     refine ⟨_,rfl, ?_⟩
     refine hK.out _ _ yH (fun hHeld => ?_)
     clear hK K
     refine ym (some 47) ?_
     refine yp 9 48 HT_ ?_
     refine yp 10 49 HT_ ?_
     refine last_ (i:=11) (N:=none) #[true,true,true,true,true,true,true,true,true,true,true,true] rfl rfl (one_of HT_.out (by kernel_rfl)) (by decide) (fun K hK => ?_)
     have hs24 : w23.cell? ⟨gb268,0,none⟩=some (.int .u64 x269000_1):=(zs BK268.out 0).trans rfl
     have hfs24:=zx BK268.out 0
     have:=NB269_268.out
     have:=NB268_269.out
     refine skip_ (w1 := ?_) (by rfl) rfl ?_ ?_
     rotate_left
     ·
      go_simp
      rfl
     refine hK.out _ _ ?_
     clear hK K
     refine done_ (done_of HT_.out (by kernel_rfl)) ?_
     have:=NB268_269.out
     have:=NB269_268.out
     obtain ⟨_,_,_,_,_,_,_,_⟩:=yc4 BK268
     try go_wp2
     go_roundg k1
     case measure=>exact yom1 HK1
     case rel=>exact ⟨((x10_1 * 256) % 4294967296),(Go.bits .or .u64 (Go.bits .and .u64 (IntKind.u64.wrap (x269000_1 * 256)) 4294967295) t279),(wrap64 (x269003_1+1)),yq,H',⟨yom1 HK1⟩,⟨yV0 HO_269002⟩,⟨ykp BK268⟩,⟨yk BK269⟩,⟨yhb⟩⟩
    ·
     rw [if_neg c22] at H
     have c22b0 : decide (x269003_1 < (t272.length : Int))=false:=decide_eq_false c22
     clear c22
     have H' := zm H
     clear H
     try go_wp2
     replace HO_269002:=zm (zC HO_269002.out)
     replace BK268:=zm (zj BK268.out)
     replace BK269:=zm (zj BK269.out)
     replace HB:=zm (zf HB.out)
     refine yst (fun w' => w'.cell? ⟨gb268,0,none⟩=some (.int .u64 x269000_1)∧w'.cell? ⟨gb268,1,none⟩=some (.int .u32 t271)∧w'.cell? ⟨gb268,2,none⟩=some (.slice Ao16 t272.length co16)∧w'.cell? ⟨gb268,3,none⟩=some (.int .i64 x269003_1)) [11] 12 coder_Take.tab7 coder_Take.bits7 (fun hHeld HT_ HW_ => ?_)
     generalize wr.drew=w27 at HO_269002 BK268 BK269 HB hHeld ⊢
     refine yp 0 39 HT_ ?_
     refine yp 4 43 HT_ ?_
     refine yp 6 45 HT_ ?_
     refine yl 1 40 HT_ HW_ hHeld ?_
     refine yp 2 41 HT_ ?_
     refine yp 3 42 HT_ ?_
     refine yl 5 44 HT_ HW_ hHeld ?_
     refine yl 7 46 HT_ HW_ hHeld ?_
     refine yw 8 47 HT_ (fun K hK => ?_)
     refine ygs Try.func58 #[.slice Ao16 t272.length co16, .int .i64 x269003_1] ?_
     with_reducible refine (coder_at.calls _ _ t272 x269003_1 t279 _ ?side1 ?side2 A21.out).mono ?_
     (case side1=>exact yce (Kd.V_reads' HO_269002.out).2.2)
     (case side2=>exact (Kd.V_reads' HO_269002.out).2.1)
     rintro e w' ⟨rfl,⟨nd,rfl⟩⟩
     refine ⟨_,rfl, ?_⟩
     refine hK.out _ _ yH (fun hHeld => ?_)
     clear hK K
     refine ym (some 47) ?_
     refine yp 9 48 HT_ ?_
     refine yp 10 49 HT_ ?_
     refine last_ (i:=11) (N:=none) #[true,true,true,true,true,true,true,true,true,true,true,true] rfl rfl (one_of HT_.out (by kernel_rfl)) (by decide) (fun K hK => ?_)
     have hs28 : w27.cell? ⟨gb268,0,none⟩=some (.int .u64 x269000_1):=(zs BK268.out 0).trans rfl
     have hfs28:=zx BK268.out 0
     have:=NB269_268.out
     have:=NB268_269.out
     refine skip_ (w1 := ?_) (by rfl) rfl ?_ ?_
     rotate_left
     ·
      go_simp
      rfl
     refine hK.out _ _ ?_
     clear hK K
     refine done_ (done_of HT_.out (by kernel_rfl)) ?_
     have:=NB268_269.out
     have:=NB269_268.out
     obtain ⟨_,_,_,_,_,_,_,_⟩:=yc4 BK268
     try go_wp2
     go_roundg k1
     case measure=>exact yom1 HK1
     case rel=>exact ⟨((x10_1 * 256) % 4294967296),(Go.bits .or .u64 (Go.bits .and .u64 (IntKind.u64.wrap (x269000_1 * 256)) 4294967295) t279),(x269003_1),yq,H',⟨yom1 HK1⟩,⟨yV0 HO_269002⟩,⟨ykp BK268⟩,⟨yk BK269⟩,⟨yhb⟩⟩
   ·
    rw [if_neg c20] at H
    have c20b0 : decide (x10_1 < 16777216)=false:=decide_eq_false c20
    clear c20
    simp only [Option.some.injEq,Prod.mk.injEq] at H
    obtain ⟨rfl,rfl,rfl,rfl,rfl⟩:=H
    have:=NB268_269.out
    have:=NB269_268.out
    obtain ⟨_,_,_,_,_,_,_,_⟩:=yc4 BK268
    obtain ⟨_,_,_,_,_,_,_,_⟩:=yc4 BK269
    go_wp2
    refine bodyPost_ret (results_ct rfl _ _ gb269 43 #[.int .u64 x269000_1, .int .u32 x10_1, .slice Ao16 t272.length co16, .int .i64 x269003_1] (0,0) _ rfl (ykp BK269) Try.underlying43 rfl (by kernel_rfl)) rfl ?_
    exact ⟨_,by first|rfl|(simp [errW_none,errW_some] <;> rfl)|(simp only [← hji9];first|rfl|(simp [errW_none,errW_some] <;> rfl))|(simp [*,errW_none,errW_some] <;> rfl),yV0 HO_269002,yhb⟩
 ·
  replace c7:=Bool.eq_false_iff.mpr c7
  subst c7
  rw [ynf] at H
  simp only [Option.some.injEq,Prod.mk.injEq] at H
  obtain ⟨rfl,rfl,rfl,rfl,rfl⟩:=H
  go_enter Try.func34,Try.ntmps34
  go_wp2_with (first|((with_reducible refine gate_dst (N:=4) rfl ?_);refine ybx 4 #[.int .u64 a0_0, .int .u32 a0_1, .slice A0_2 l0_2.length c0_2, .int .i64 a0_3] 43 ?_;intro gb268 hg w34 hbox hb;replace HO0_2:=yVe HO0_2 hg hb;have BK268:=zm (hbox);have GW268:=ygw hg;have GE268:=ygw hg;replace HB:=ybs hb;clear hb hbox hg)|((with_reducible refine gate_dst (N:=8) rfl ?_);refine ybx 8 #[.int .u64 0, .int .u32 0, .slice none 0 0, .int .i64 0] 43 ?_;intro gb269 hg w35 hbox hb;replace HO0_2:=yVe HO0_2 hg hb;have BK269:=zm (hbox);have GW269:=ygw hg;have GE269:=ygw hg;replace HB:=ybs hb;have NB268_269:=ynl BK268 hg;have NB269_268:=yng BK268 hg;replace BK268:=ybb BK268 hb;clear hb hbox hg;have:=NB268_269.out;have:=NB269_268.out;obtain ⟨_,_,_,_,_,_,_,_⟩:=yc4 BK268)|((with_reducible refine gate_callee (f:=60) rfl ?_);refine ygl 13 Try.func60 #[.agg #[.int .u64 a0_0, .int .u32 a0_1, .slice A0_2 l0_2.length c0_2, .int .i64 a0_3]] ?_;(with_reducible refine (coder_good.calls a0_0 a0_1 (fun k_=>(((P0_2_ k_∨w.heap.size≤k_)∧k_≠gb268)∧k_≠gb269)) _ _ l0_2 a0_3 t270 t271 t272 t275 _ HO0_2.out A5.out).mono ?_);rintro e w38 ⟨v273,rfl,ho0,hb⟩;refine ⟨_,rfl, ?_⟩;replace HO0_2:=yVb HO0_2 hb;have HO274:=yho (fun k_=>(P0_2_ k_∨w.heap.size≤k_)∧k_≠gb268∧k_≠gb269) ho0 (fun k_ hk_=>⟨Or.elim hk_ (fun hs_=>hs_.1.1) (fun hn_=>(.inr (Nat.le_trans (zE yhb) hn_))),yoB BK268 hk_,yoB BK269 hk_⟩);replace BK268:=ybb BK268 hb;replace BK269:=ybb BK269 hb;replace HB:=ybs hb;(try clear hb);(try clear ho0);obtain ⟨_,_,_,_,_,_,_,_⟩:=yc4 BK268;obtain ⟨Ao40,co40,eo40⟩:=Kd.V_slice HO274.out;subst eo40)|((with_reducible refine gate_store (t:=43) (p:=4) rfl ?_);refine store_event (t:=43) (p:=4) (v := ?vo_w41) (w1:=((((w38.setCell ⟨gb268,0,none⟩ (.int .u64 t270)).setCell ⟨gb268,1,none⟩ (.int .u32 t271)).setCell ⟨gb268,2,none⟩ (.slice Ao40 t272.length co40)).setCell ⟨gb268,3,none⟩ (.int .i64 t275))) ?hg ?ho ?hn ?hr ?_;(case ho=>rfl);(case hg=>rfl);(case hn=>rfl);(case hr=>first|(go_simp;done)|(go_simp;rfl));intro w41 hw;replace HO0_2 : Aside0 (Kd.V (Kd.int .u8) 5 w41 w.heap.size (fun k_=>(P0_2_ k_∨w.heap.size≤k_)∧k_≠gb268∧k_≠gb269) (.slice A0_2 l0_2.length c0_2) l0_2):=⟨(by rw [hw];exact (yV0 HO0_2))⟩;replace HO274 : Aside0 (Kd.V (Kd.int .u8) 5 w41 w.heap.size (fun k_=>(P0_2_ k_∨w.heap.size≤k_)∧k_≠gb268∧k_≠gb269) (.slice Ao40 t272.length co40) t272):=⟨(by rw [hw];exact (yV0 HO274))⟩;replace BK268 : Aside0 (w41.heap[gb268]? = some (.cells #[.int .u64 t270, .int .u32 t271, .slice Ao40 t272.length co40, .int .i64 t275] 43 (0,0))):=⟨(by rw [hw];exact (ykp BK268))⟩;replace BK269 : Aside0 (w41.heap[gb269]? = some (.cells #[.int .u64 0, .int .u32 0, .slice none 0 0, .int .i64 0] 43 (0,0))):=⟨(by rw [hw];exact (yk BK269))⟩;replace HB : Aside0 (Below w.heap.size w w41):=⟨(by rw [hw];exact yhb)⟩;clear hw)|((with_reducible refine gate_callee (f:=52) rfl ?_);refine ygl 17 Try.func52 #[.int .i64 a1, .int .i64 a2, .int .i64 a3] ?_;(with_reducible refine (coder_fair.calls a1 a2 a3 false _ A6.out).mono ?_);rintro e w' ⟨rfl,⟨nd,rfl⟩⟩;refine ⟨_,rfl, ?_⟩;(try (rw [drewN_self w41];generalize hq_ : World.drewN w41 _=w41;have n0_ : Aside0 (Kd.V (Kd.int .u8) 5 w41 w.heap.size (fun k_=>(P0_2_ k_∨w.heap.size≤k_)∧k_≠gb268∧k_≠gb269) (.slice A0_2 l0_2.length c0_2) l0_2):=⟨by rw [← hq_];exact (yr HO0_2)⟩;have n1_ : Aside0 (Kd.V (Kd.int .u8) 5 w41 w.heap.size (fun k_=>(P0_2_ k_∨w.heap.size≤k_)∧k_≠gb268∧k_≠gb269) (.slice Ao40 t272.length co40) t272):=⟨by rw [← hq_];exact (yr HO274)⟩;have n2_ : Aside0 (w41.heap[gb268]? = some (.cells #[.int .u64 t270, .int .u32 t271, .slice Ao40 t272.length co40, .int .i64 t275] 43 (0,0))):=⟨by rw [← hq_];exact (yk BK268)⟩;have n3_ : Aside0 (w41.heap[gb269]? = some (.cells #[.int .u64 0, .int .u32 0, .slice none 0 0, .int .i64 0] 43 (0,0))):=⟨by rw [← hq_];exact (yk BK269)⟩;have n4_ : Aside0 (Below w.heap.size w w41):=⟨by rw [← hq_];exact yhb⟩;clear HO0_2 HO274 BK268 BK269 HB hq_;have HO0_2:=n0_;have HO274:=n1_;have BK268:=n2_;have BK269:=n3_;have HB:=n4_;clear n0_ n1_ n2_ n3_ n4_));obtain ⟨_,_,_,_,_,_,_,_⟩:=yc4 BK268;obtain ⟨_,_,_,_,_,_,_,_⟩:=yc4 BK269))
  refine bodyPost_ret (results_ct rfl _ _ gb269 43 #[.int .u64 t270, .int .u32 t271, .slice Ao40 t272.length co40, .int .i64 t275] (0,0) _ rfl (ykp BK269) Try.underlying43 rfl (by kernel_rfl)) rfl ?_
  exact ⟨_,ye,yV0 HO274,yhb⟩
def num_Clamp.f (a0 : Int) (a1 : Int) (a2 : Int) : Option (Int):=if a0 < a1 then (some a1) else (if a0 > a2 then (some a2) else (some a0))
set_option maxHeartbeats 8000000 in
set_option maxRecDepth 100000 in
theorem num_Clamp.calls (a0 : Int) (a1 : Int) (a2 : Int) (r : Int) (w : World) (h : num_Clamp.f a0 a1 a2=some r) :
  Calls Try.prog 61 #[.int .i64 a0, .int .i64 a1, .int .i64 a2] w fun e w' => e=.returned (.int .i64 r)∧Drawn0 w w' := by
 have H : (if a0 < a1 then (some a1) else (if a0 > a2 then (some a2) else (some a0)))=some r:=h
 clear h
 by_cases c4 : a0 < a1
 ·
  rw [if_pos c4] at H
  have c4b0 : decide (a0 < a1)=true:=decide_eq_true c4
  clear c4
  obtain rfl:=Option.some.inj H
  go_enter Try.func61,Try.ntmps61
  go_wp2
  go_ret
  exact ⟨yq,yd⟩
 ·
  rw [if_neg c4] at H
  have c4b0 : decide (a0 < a1)=false:=decide_eq_false c4
  clear c4
  by_cases c5 : a0 > a2
  ·
   rw [if_pos c5] at H
   have c5b0 : decide (a2 < a0)=true:=decide_eq_true c5
   clear c5
   obtain rfl:=Option.some.inj H
   go_enter Try.func61,Try.ntmps61
   go_wp2
   go_ret
   exact ⟨yq,yd⟩
  ·
   rw [if_neg c5] at H
   have c5b0 : decide (a2 < a0)=false:=decide_eq_false c5
   clear c5
   obtain rfl:=Option.some.inj H
   go_enter Try.func61,Try.ntmps61
   go_wp2
   go_ret
   exact ⟨yq,yd⟩
def coder_Get.f (a0_0 : Int) (a0_1 : Int) (l0_2 : List Int) (a0_3 : Int) (a1 : Int) : Option (Int × Int):=(coder_good.f a0_0 a0_1 l0_2 a0_3).bind fun bt281=>(if a1 < 1 then (some (0,1)) else (if a1 > 65536 then (some (0,1)) else (if ((a1) % 4294967296)=0 then (none) else (if ((Int.tdiv bt281.2.1 ((a1) % 4294967296)) % 4294967296)=0 then (none) else ((num_Clamp.f (wrap64 (IntKind.u64.wrap (Int.tdiv bt281.1 ((Int.tdiv bt281.2.1 ((a1) % 4294967296)) % 4294967296)))) 0 (wrap64 (a1 - 1))).bind fun t287=>(some (t287,0)))))))
set_option maxHeartbeats 8000000 in
set_option maxRecDepth 100000 in
theorem coder_Get.calls (a0_0 : Int) (a0_1 : Int) (A0_2 : Option Addr) (c0_2 : Nat) (l0_2 : List Int) (a0_3 : Int) (a1 : Int) (r1 : Int) (r2 : Int) (w : World) (hr0_2 : Kd.C (Kd.int .u8) w A0_2 l0_2.length l0_2) (hc0_2 : l0_2.length≤c0_2) (h : coder_Get.f a0_0 a0_1 l0_2 a0_3 a1=some (r1,r2)) :
  Calls Try.prog 32 #[.agg #[.int .u64 a0_0, .int .u32 a0_1, .slice A0_2 l0_2.length c0_2, .int .i64 a0_3], .int .i64 a1] w fun e w' => e=.returned (.tuple #[.int .i64 r1, .int .i64 r2])∧Below w.heap.size w w' := by
 have hu43:=Try.underlying43;have HR0_2:=zm hr0_2;have HC0_2:=zm hc0_2;clear hr0_2 hc0_2;have HB:=zm (Below.refl w.heap.size w)
 have H : ((coder_good.f a0_0 a0_1 l0_2 a0_3).bind fun bt281=>(if a1 < 1 then (some (0,1)) else (if a1 > 65536 then (some (0,1)) else (if ((a1) % 4294967296)=0 then (none) else (if ((Int.tdiv bt281.2.1 ((a1) % 4294967296)) % 4294967296)=0 then (none) else ((num_Clamp.f (wrap64 (IntKind.u64.wrap (Int.tdiv bt281.1 ((Int.tdiv bt281.2.1 ((a1) % 4294967296)) % 4294967296)))) 0 (wrap64 (a1 - 1))).bind fun t287=>(some (t287,0))))))))=some (r1,r2):=h
 clear h
 replace H:=ybi H;obtain ⟨⟨t281,t282,t283,t286⟩,A3,H⟩:=H
 try dsimp only at H
 by_cases c4 : a1 < 1
 ·
  rw [if_pos c4] at H
  have c4b0 : decide (a1 < 1)=true:=decide_eq_true c4
  clear c4
  simp only [Option.some.injEq,Prod.mk.injEq] at H
  obtain ⟨rfl,rfl⟩:=H
  go_enter Try.func32,Try.ntmps32
  go_wp2_with (first|((with_reducible refine gate_dst (N:=2) rfl ?_);refine ybx 2 #[.int .u64 a0_0, .int .u32 a0_1, .slice A0_2 l0_2.length c0_2, .int .i64 a0_3] 43 ?_;intro gb280 hg w5 hbox hb;have BK280:=zm (hbox);have GW280:=ygw hg;have GE280:=ygw hg;replace HB:=ybs hb;clear hb hbox hg;obtain ⟨_,_,_,_,_,_,_,_⟩:=yc4 BK280)|(go_at_call 60;(with_reducible refine (coder_good.calls a0_0 a0_1 (fun k_=>k_ < w.heap.size) _ _ l0_2 a0_3 t281 t282 t283 t286 _ ?side1 A3.out).mono ?_);(case side1=>exact Kd.V_mk HC0_2.out (Kd.F_below (Kd.C_F (Kd.heap_int .u8) HR0_2.out) yhb));rintro e w7 ⟨v284,rfl,ho0,hb⟩;have HO285:=yho (fun k_=>k_≠gb280) ho0 (fun k_ hk_=>yoB BK280 hk_);replace BK280:=ybb BK280 hb;replace HB:=ybs hb;(try clear hb);(try clear ho0);obtain ⟨_,_,_,_,_,_,_,_⟩:=yc4 BK280;obtain ⟨Ao9,co9,eo9⟩:=Kd.V_slice HO285.out;subst eo9))
  repeat (go_quiet (first|((with_reducible refine gate_dst (N:=2) rfl ?_);refine ybx 2 #[.int .u64 a0_0, .int .u32 a0_1, .slice A0_2 l0_2.length c0_2, .int .i64 a0_3] 43 ?_;intro gb280 hg w5 hbox hb;have BK280:=zm (hbox);have GW280:=ygw hg;have GE280:=ygw hg;replace HB:=ybs hb;clear hb hbox hg;obtain ⟨_,_,_,_,_,_,_,_⟩:=yc4 BK280)|(go_at_call 60;(with_reducible refine (coder_good.calls a0_0 a0_1 (fun k_=>k_ < w.heap.size) _ _ l0_2 a0_3 t281 t282 t283 t286 _ ?side1 A3.out).mono ?_);(case side1=>exact Kd.V_mk HC0_2.out (Kd.F_below (Kd.C_F (Kd.heap_int .u8) HR0_2.out) yhb));rintro e w7 ⟨v284,rfl,ho0,hb⟩;have HO285:=yho (fun k_=>k_≠gb280) ho0 (fun k_ hk_=>yoB BK280 hk_);replace BK280:=ybb BK280 hb;replace HB:=ybs hb;(try clear hb);(try clear ho0);obtain ⟨_,_,_,_,_,_,_,_⟩:=yc4 BK280;obtain ⟨Ao9,co9,eo9⟩:=Kd.V_slice HO285.out;subst eo9));try go_wp2_with (first|((with_reducible refine gate_dst (N:=2) rfl ?_);refine ybx 2 #[.int .u64 a0_0, .int .u32 a0_1, .slice A0_2 l0_2.length c0_2, .int .i64 a0_3] 43 ?_;intro gb280 hg w5 hbox hb;have BK280:=zm (hbox);have GW280:=ygw hg;have GE280:=ygw hg;replace HB:=ybs hb;clear hb hbox hg;obtain ⟨_,_,_,_,_,_,_,_⟩:=yc4 BK280)|(go_at_call 60;(with_reducible refine (coder_good.calls a0_0 a0_1 (fun k_=>k_ < w.heap.size) _ _ l0_2 a0_3 t281 t282 t283 t286 _ ?side1 A3.out).mono ?_);(case side1=>exact Kd.V_mk HC0_2.out (Kd.F_below (Kd.C_F (Kd.heap_int .u8) HR0_2.out) yhb));rintro e w7 ⟨v284,rfl,ho0,hb⟩;have HO285:=yho (fun k_=>k_≠gb280) ho0 (fun k_ hk_=>yoB BK280 hk_);replace BK280:=ybb BK280 hb;replace HB:=ybs hb;(try clear hb);(try clear ho0);obtain ⟨_,_,_,_,_,_,_,_⟩:=yc4 BK280;obtain ⟨Ao9,co9,eo9⟩:=Kd.V_slice HO285.out;subst eo9)))
  go_ret2
  exact ⟨ye,yhb⟩
 ·
  rw [if_neg c4] at H
  have c4b0 : decide (a1 < 1)=false:=decide_eq_false c4
  clear c4
  by_cases c10 : a1 > 65536
  ·
   rw [if_pos c10] at H
   have c10b0 : decide (65536 < a1)=true:=decide_eq_true c10
   clear c10
   simp only [Option.some.injEq,Prod.mk.injEq] at H
   obtain ⟨rfl,rfl⟩:=H
   go_enter Try.func32,Try.ntmps32
   go_wp2_with (first|((with_reducible refine gate_dst (N:=2) rfl ?_);refine ybx 2 #[.int .u64 a0_0, .int .u32 a0_1, .slice A0_2 l0_2.length c0_2, .int .i64 a0_3] 43 ?_;intro gb280 hg w11 hbox hb;have BK280:=zm (hbox);have GW280:=ygw hg;have GE280:=ygw hg;replace HB:=ybs hb;clear hb hbox hg;obtain ⟨_,_,_,_,_,_,_,_⟩:=yc4 BK280)|(go_at_call 60;(with_reducible refine (coder_good.calls a0_0 a0_1 (fun k_=>k_ < w.heap.size) _ _ l0_2 a0_3 t281 t282 t283 t286 _ ?side1 A3.out).mono ?_);(case side1=>exact Kd.V_mk HC0_2.out (Kd.F_below (Kd.C_F (Kd.heap_int .u8) HR0_2.out) yhb));rintro e w13 ⟨v284,rfl,ho0,hb⟩;have HO285:=yho (fun k_=>k_≠gb280) ho0 (fun k_ hk_=>yoB BK280 hk_);replace BK280:=ybb BK280 hb;replace HB:=ybs hb;(try clear hb);(try clear ho0);obtain ⟨_,_,_,_,_,_,_,_⟩:=yc4 BK280;obtain ⟨Ao15,co15,eo15⟩:=Kd.V_slice HO285.out;subst eo15))
   repeat (go_quiet (first|((with_reducible refine gate_dst (N:=2) rfl ?_);refine ybx 2 #[.int .u64 a0_0, .int .u32 a0_1, .slice A0_2 l0_2.length c0_2, .int .i64 a0_3] 43 ?_;intro gb280 hg w11 hbox hb;have BK280:=zm (hbox);have GW280:=ygw hg;have GE280:=ygw hg;replace HB:=ybs hb;clear hb hbox hg;obtain ⟨_,_,_,_,_,_,_,_⟩:=yc4 BK280)|(go_at_call 60;(with_reducible refine (coder_good.calls a0_0 a0_1 (fun k_=>k_ < w.heap.size) _ _ l0_2 a0_3 t281 t282 t283 t286 _ ?side1 A3.out).mono ?_);(case side1=>exact Kd.V_mk HC0_2.out (Kd.F_below (Kd.C_F (Kd.heap_int .u8) HR0_2.out) yhb));rintro e w13 ⟨v284,rfl,ho0,hb⟩;have HO285:=yho (fun k_=>k_≠gb280) ho0 (fun k_ hk_=>yoB BK280 hk_);replace BK280:=ybb BK280 hb;replace HB:=ybs hb;(try clear hb);(try clear ho0);obtain ⟨_,_,_,_,_,_,_,_⟩:=yc4 BK280;obtain ⟨Ao15,co15,eo15⟩:=Kd.V_slice HO285.out;subst eo15));try go_wp2_with (first|((with_reducible refine gate_dst (N:=2) rfl ?_);refine ybx 2 #[.int .u64 a0_0, .int .u32 a0_1, .slice A0_2 l0_2.length c0_2, .int .i64 a0_3] 43 ?_;intro gb280 hg w11 hbox hb;have BK280:=zm (hbox);have GW280:=ygw hg;have GE280:=ygw hg;replace HB:=ybs hb;clear hb hbox hg;obtain ⟨_,_,_,_,_,_,_,_⟩:=yc4 BK280)|(go_at_call 60;(with_reducible refine (coder_good.calls a0_0 a0_1 (fun k_=>k_ < w.heap.size) _ _ l0_2 a0_3 t281 t282 t283 t286 _ ?side1 A3.out).mono ?_);(case side1=>exact Kd.V_mk HC0_2.out (Kd.F_below (Kd.C_F (Kd.heap_int .u8) HR0_2.out) yhb));rintro e w13 ⟨v284,rfl,ho0,hb⟩;have HO285:=yho (fun k_=>k_≠gb280) ho0 (fun k_ hk_=>yoB BK280 hk_);replace BK280:=ybb BK280 hb;replace HB:=ybs hb;(try clear hb);(try clear ho0);obtain ⟨_,_,_,_,_,_,_,_⟩:=yc4 BK280;obtain ⟨Ao15,co15,eo15⟩:=Kd.V_slice HO285.out;subst eo15)))
   go_ret2
   exact ⟨ye,yhb⟩
  ·
   rw [if_neg c10] at H
   have c10b0 : decide (65536 < a1)=false:=decide_eq_false c10
   clear c10
   replace H:=yie H;obtain ⟨c16,H⟩:=H
   have c16b0 : (((a1) % 4294967296) == 0)=false:=beq_eq_false_iff_ne.mpr c16
   have c16b1 : (((a1) % 4294967296) != 0)=true:=bne_iff_ne.mpr c16
   replace H:=yie H;obtain ⟨c17,H⟩:=H
   have c17b0 : (((Int.tdiv t282 ((a1) % 4294967296)) % 4294967296) == 0)=false:=beq_eq_false_iff_ne.mpr c17
   have c17b1 : (((Int.tdiv t282 ((a1) % 4294967296)) % 4294967296) != 0)=true:=bne_iff_ne.mpr c17
   replace H:=ybi H;obtain ⟨t287,A18,H⟩:=H
   simp only [Option.some.injEq,Prod.mk.injEq] at H
   obtain ⟨rfl,rfl⟩:=H
   go_enter Try.func32,Try.ntmps32
   go_wp2_with (first|((with_reducible refine gate_dst (N:=2) rfl ?_);refine ybx 2 #[.int .u64 a0_0, .int .u32 a0_1, .slice A0_2 l0_2.length c0_2, .int .i64 a0_3] 43 ?_;intro gb280 hg w19 hbox hb;have BK280:=zm (hbox);have GW280:=ygw hg;have GE280:=ygw hg;replace HB:=ybs hb;clear hb hbox hg;obtain ⟨_,_,_,_,_,_,_,_⟩:=yc4 BK280)|(go_at_call 60;(with_reducible refine (coder_good.calls a0_0 a0_1 (fun k_=>k_ < w.heap.size) _ _ l0_2 a0_3 t281 t282 t283 t286 _ ?side1 A3.out).mono ?_);(case side1=>exact Kd.V_mk HC0_2.out (Kd.F_below (Kd.C_F (Kd.heap_int .u8) HR0_2.out) yhb));rintro e w21 ⟨v284,rfl,ho0,hb⟩;have HO285:=yho (fun k_=>k_≠gb280) ho0 (fun k_ hk_=>yoB BK280 hk_);replace BK280:=ybb BK280 hb;replace HB:=ybs hb;(try clear hb);(try clear ho0);obtain ⟨_,_,_,_,_,_,_,_⟩:=yc4 BK280;obtain ⟨Ao23,co23,eo23⟩:=Kd.V_slice HO285.out;subst eo23)|(go_at_call 61;(with_reducible refine (num_Clamp.calls (wrap64 (IntKind.u64.wrap (Int.tdiv t281 ((Int.tdiv t282 ((a1) % 4294967296)) % 4294967296)))) 0 (wrap64 (a1 - 1)) t287 _ A18.out).mono ?_);rintro e w' ⟨rfl,⟨nd,rfl⟩⟩;(try exact yww)))
   repeat (go_quiet (first|((with_reducible refine gate_dst (N:=2) rfl ?_);refine ybx 2 #[.int .u64 a0_0, .int .u32 a0_1, .slice A0_2 l0_2.length c0_2, .int .i64 a0_3] 43 ?_;intro gb280 hg w19 hbox hb;have BK280:=zm (hbox);have GW280:=ygw hg;have GE280:=ygw hg;replace HB:=ybs hb;clear hb hbox hg;obtain ⟨_,_,_,_,_,_,_,_⟩:=yc4 BK280)|(go_at_call 60;(with_reducible refine (coder_good.calls a0_0 a0_1 (fun k_=>k_ < w.heap.size) _ _ l0_2 a0_3 t281 t282 t283 t286 _ ?side1 A3.out).mono ?_);(case side1=>exact Kd.V_mk HC0_2.out (Kd.F_below (Kd.C_F (Kd.heap_int .u8) HR0_2.out) yhb));rintro e w21 ⟨v284,rfl,ho0,hb⟩;have HO285:=yho (fun k_=>k_≠gb280) ho0 (fun k_ hk_=>yoB BK280 hk_);replace BK280:=ybb BK280 hb;replace HB:=ybs hb;(try clear hb);(try clear ho0);obtain ⟨_,_,_,_,_,_,_,_⟩:=yc4 BK280;obtain ⟨Ao23,co23,eo23⟩:=Kd.V_slice HO285.out;subst eo23)|(go_at_call 61;(with_reducible refine (num_Clamp.calls (wrap64 (IntKind.u64.wrap (Int.tdiv t281 ((Int.tdiv t282 ((a1) % 4294967296)) % 4294967296)))) 0 (wrap64 (a1 - 1)) t287 _ A18.out).mono ?_);rintro e w' ⟨rfl,⟨nd,rfl⟩⟩;(try exact yww)));try go_wp2_with (first|((with_reducible refine gate_dst (N:=2) rfl ?_);refine ybx 2 #[.int .u64 a0_0, .int .u32 a0_1, .slice A0_2 l0_2.length c0_2, .int .i64 a0_3] 43 ?_;intro gb280 hg w19 hbox hb;have BK280:=zm (hbox);have GW280:=ygw hg;have GE280:=ygw hg;replace HB:=ybs hb;clear hb hbox hg;obtain ⟨_,_,_,_,_,_,_,_⟩:=yc4 BK280)|(go_at_call 60;(with_reducible refine (coder_good.calls a0_0 a0_1 (fun k_=>k_ < w.heap.size) _ _ l0_2 a0_3 t281 t282 t283 t286 _ ?side1 A3.out).mono ?_);(case side1=>exact Kd.V_mk HC0_2.out (Kd.F_below (Kd.C_F (Kd.heap_int .u8) HR0_2.out) yhb));rintro e w21 ⟨v284,rfl,ho0,hb⟩;have HO285:=yho (fun k_=>k_≠gb280) ho0 (fun k_ hk_=>yoB BK280 hk_);replace BK280:=ybb BK280 hb;replace HB:=ybs hb;(try clear hb);(try clear ho0);obtain ⟨_,_,_,_,_,_,_,_⟩:=yc4 BK280;obtain ⟨Ao23,co23,eo23⟩:=Kd.V_slice HO285.out;subst eo23)|(go_at_call 61;(with_reducible refine (num_Clamp.calls (wrap64 (IntKind.u64.wrap (Int.tdiv t281 ((Int.tdiv t282 ((a1) % 4294967296)) % 4294967296)))) 0 (wrap64 (a1 - 1)) t287 _ A18.out).mono ?_);rintro e w' ⟨rfl,⟨nd,rfl⟩⟩;(try exact yww))))
   go_ret2
   exact ⟨ye,yhb⟩
def coder_TakeNum.j0 : Nat→Int→Bool→Int→Int→List Int→Int→Option (Int × Int × List Int × Int × Int × Int)
 | 0,_,_,_,_,_,_=>none
 | k+1,x1,x21,x289000,x289001,x289002,x289003=>if x21=true then (some (x289000,x289001,x289002,x289003,0,1)) else ((coder_halves.f x1).bind fun bt296=>((coder_Get.f x289000 x289001 x289002 x289003 bt296.1).bind fun bt298=>((coder_Take.f k x289000 x289001 x289002 x289003 bt298.1 (wrap64 (bt298.1+1)) bt296.1).bind fun bt300=>(if bt296.2 > 1 then ((coder_Get.f bt300.1 bt300.2.1 bt300.2.2.1 bt300.2.2.2.1 bt296.2).bind fun bt307=>((coder_Take.f k bt300.1 bt300.2.1 bt300.2.2.1 bt300.2.2.2.1 bt307.1 (wrap64 (bt307.1+1)) bt296.2).bind fun bt309=>(some (bt309.1,bt309.2.1,bt309.2.2.1,bt309.2.2.2.1,mn (IntKind.u64.wrap ((IntKind.u64.wrap ((IntKind.u64.wrap (bt298.1)) * (IntKind.u64.wrap (bt296.2))))+(IntKind.u64.wrap (bt307.1)))) (IntKind.u64.wrap (x1 - 1)),0)))) else (some (bt300.1,bt300.2.1,bt300.2.2.1,bt300.2.2.2.1,mn (IntKind.u64.wrap (bt298.1)) (IntKind.u64.wrap (x1 - 1)),0))))))
def coder_TakeNum.f (k : Nat) (a0_0 : Int) (a0_1 : Int) (l0_2 : List Int) (a0_3 : Int) (a1 : Int) : Option (Int × Int × List Int × Int × Int × Int):=(coder_good.f a0_0 a0_1 l0_2 a0_3).bind fun bt290=>(if a1 < 1 then (coder_TakeNum.j0 k a1 true bt290.1 bt290.2.1 bt290.2.2.1 bt290.2.2.2) else (coder_TakeNum.j0 k a1 (decide (a1 > 4294967296)) bt290.1 bt290.2.1 bt290.2.2.1 bt290.2.2.2))
theorem coder_TakeNum.mono_l : ∀ k,(∀ y0 y1 y2 y3 y4 y5,LeO (coder_TakeNum.j0 k y0 y1 y2 y3 y4 y5) (coder_TakeNum.j0 (k+1) y0 y1 y2 y3 y4 y5))
 | 0=>fun _ _ _ _ _ _ r h=>by simp [coder_TakeNum.j0] at h
 | k+1=>by
  have ih0:=coder_TakeNum.mono_l k
  ·
   intro y0 y1 y2 y3 y4 y5
   unfold coder_TakeNum.j0
   repeat' with_reducible first|apply ih0|apply coder_Take.mono|apply yLr|apply yLn|apply yLi|apply yLb|intro _
theorem coder_TakeNum.mono : ∀ a0 a1 a2 a3 a4 k,LeO (coder_TakeNum.f k a0 a1 a2 a3 a4) (coder_TakeNum.f (k+1) a0 a1 a2 a3 a4):=by
 intro a0 a1 a2 a3 a4 k
 have ih0:=coder_TakeNum.mono_l k
 unfold coder_TakeNum.f
 repeat' with_reducible first|apply ih0|apply coder_Take.mono|apply yLr|apply yLn|apply yLi|apply yLb|intro _
set_option maxHeartbeats 8000000 in
set_option maxRecDepth 100000 in
theorem coder_TakeNum.calls (k : Nat) (a0_0 : Int) (a0_1 : Int) (P0_2_ : Nat→Prop) (A0_2 : Option Addr) (c0_2 : Nat) (l0_2 : List Int) (a0_3 : Int) (a1 : Int) (r1 : Int) (r2 : Int) (r3 : List Int) (r4 : Int) (r5 : Int) (r6 : Int) (w : World) (hs0_2 : Kd.V (Kd.int .u8) 5 w w.heap.size (fun k_=>P0_2_ k_) (.slice A0_2 l0_2.length c0_2) l0_2) (h : coder_TakeNum.f k a0_0 a0_1 l0_2 a0_3 a1=some (r1,r2,r3,r4,r5,r6)) :
  Calls Try.prog 39 #[.agg #[.int .u64 a0_0, .int .u32 a0_1, .slice A0_2 l0_2.length c0_2, .int .i64 a0_3], .int .u64 a1] w fun e w' => ∃ v2_ : Value,e=.returned (.tuple #[.agg #[.int .u64 r1, .int .u32 r2,v2_, .int .i64 r4], .int .u64 r5, .int .i64 r6])∧Kd.V (Kd.int .u8) 5 w' w.heap.size (fun k_=>(P0_2_ k_∨w.heap.size≤k_)) v2_ r3∧Below w.heap.size w w' := by
 have hu43:=Try.underlying43
 have HO0_2:=zm (show Kd.V (Kd.int .u8) 5 w w.heap.size (fun k_=>(P0_2_ k_∨w.heap.size≤k_)) (.slice A0_2 l0_2.length c0_2) l0_2 from zy hs0_2 (fun k_ hk => .inl hk))
 have HB:=zm (Below.refl w.heap.size w)
 have H : ((coder_good.f a0_0 a0_1 l0_2 a0_3).bind fun bt290=>(if a1 < 1 then (coder_TakeNum.j0 k a1 true bt290.1 bt290.2.1 bt290.2.2.1 bt290.2.2.2) else (coder_TakeNum.j0 k a1 (decide (a1 > 4294967296)) bt290.1 bt290.2.1 bt290.2.2.1 bt290.2.2.2)))=some (r1,r2,r3,r4,r5,r6):=h
 clear h
 replace H:=ybi H;obtain ⟨⟨t290,t291,t292,t295⟩,A3,H⟩:=H
 try dsimp only at H
 have HC4:=zm H;clear H
 go_enter Try.func39,Try.ntmps39
 go_upto_region 2 with (first|((with_reducible refine gate_dst (N:=2) rfl ?_);refine ybx 2 #[.int .u64 a0_0, .int .u32 a0_1, .slice A0_2 l0_2.length c0_2, .int .i64 a0_3] 43 ?_;intro gb288 hg w5 hbox hb;replace HO0_2:=yVe HO0_2 hg hb;have BK288:=zm (hbox);have GW288:=ygw hg;have GE288:=ygw hg;replace HB:=ybs hb;clear hb hbox hg)|((with_reducible refine gate_dst (N:=4) rfl ?_);refine ybx 4 #[.int .u64 0, .int .u32 0, .slice none 0 0, .int .i64 0] 43 ?_;intro gb289 hg w6 hbox hb;replace HO0_2:=yVe HO0_2 hg hb;have BK289:=zm (hbox);have GW289:=ygw hg;have GE289:=ygw hg;replace HB:=ybs hb;have NB288_289:=ynl BK288 hg;have NB289_288:=yng BK288 hg;replace BK288:=ybb BK288 hb;clear hb hbox hg;have:=NB288_289.out;have:=NB289_288.out;obtain ⟨hcz8_0,hcz8_1,hcz8_2,hcz8_3,hfz8_0,hfz8_1,hfz8_2,hfz8_3⟩:=yc4 BK288)|((with_reducible refine gate_callee (f:=60) rfl ?_);refine ygl 15 Try.func60 #[.agg #[.int .u64 a0_0, .int .u32 a0_1, .slice A0_2 l0_2.length c0_2, .int .i64 a0_3]] ?_;(with_reducible refine (coder_good.calls a0_0 a0_1 (fun k_=>(((P0_2_ k_∨w.heap.size≤k_)∧k_≠gb288)∧k_≠gb289)) _ _ l0_2 a0_3 t290 t291 t292 t295 _ HO0_2.out A3.out).mono ?_);rintro e w9 ⟨v293,rfl,ho0,hb⟩;refine ⟨_,rfl, ?_⟩;replace HO0_2:=yVb HO0_2 hb;have HO294:=yho (fun k_=>(P0_2_ k_∨w.heap.size≤k_)∧k_≠gb288∧k_≠gb289) ho0 (fun k_ hk_=>⟨Or.elim hk_ (fun hs_=>hs_.1.1) (fun hn_=>(.inr (Nat.le_trans (zE yhb) hn_))),yoB BK288 hk_,yoB BK289 hk_⟩);replace BK288:=ybb BK288 hb;replace BK289:=ybb BK289 hb;replace HB:=ybs hb;(try clear hb);(try clear ho0);obtain ⟨hcz10_0,hcz10_1,hcz10_2,hcz10_3,hfz10_0,hfz10_1,hfz10_2,hfz10_3⟩:=yc4 BK288;obtain ⟨Ao11,co11,eo11⟩:=Kd.V_slice HO294.out;subst eo11))
 (try simp only [Act.put,List.setIfInBounds_toArray,List.set_cons_zero,List.set_cons_succ])
 go_cut [21] (fun v21 wc => ∃ (kq : Nat) (x21_3 : Bool),v21=.bool x21_3∧Aside0 (coder_TakeNum.j0 kq a1 x21_3 t290 t291 t292 t295=some (r1,r2,r3,r4,r5,r6))∧Aside0 (kq≤k)∧Aside0 (Kd.V (Kd.int .u8) 5 wc w.heap.size (fun k_=>(P0_2_ k_∨w.heap.size≤k_)∧k_≠gb288∧k_≠gb289) (.slice Ao11 t292.length co11) t292)∧Aside0 (wc.heap[gb288]? = some (.cells #[.int .u64 t290, .int .u32 t291,(.slice Ao11 t292.length co11), .int .i64 t295] 43 (0,0)))∧Aside0 (wc.heap[gb289]? = some (.cells #[.int .u64 0, .int .u32 0,(.slice none 0 0), .int .i64 0] 43 (0,0)))∧Aside0 (Below w.heap.size w wc))
 case first =>
  have H:=HC4.out;clear HC4
  by_cases c12 : a1 < 1
  ·
   rw [if_pos c12] at H
   have c12b0 : decide (a1 < 1)=true:=decide_eq_true c12
   clear c12
   (first|rw [c12b0]|(simp only [i64_w,i32_w];rw [c12b0])|skip)
   have H' := zm H
   clear H
   go_wp2
   go_meet
   case rel=>exact ⟨_,(true),yq,H',⟨yo⟩,⟨yV0 HO294⟩,⟨ykp BK288⟩,⟨yk BK289⟩,⟨yhb⟩⟩
  ·
   rw [if_neg c12] at H
   have c12b0 : decide (a1 < 1)=false:=decide_eq_false c12
   clear c12
   (first|rw [c12b0]|(simp only [i64_w,i32_w];rw [c12b0])|skip)
   have H' := zm H
   clear H
   go_wp2
   go_meet
   case rel=>exact ⟨_,(decide (a1 > 4294967296)),yq,H',⟨yo⟩,⟨yV0 HO294⟩,⟨ykp BK288⟩,⟨yk BK289⟩,⟨yhb⟩⟩
 case rest =>
  clear HC4
  try clear hcz10_0
  try clear hcz10_1
  try clear hcz10_2
  try clear hcz10_3
  try clear hcz8_0
  try clear hcz8_1
  try clear hcz8_2
  try clear hcz8_3
  try clear hfz10_0
  try clear hfz10_1
  try clear hfz10_2
  try clear hfz10_3
  try clear hfz8_0
  try clear hfz8_1
  try clear hfz8_2
  try clear hfz8_3
  obtain ⟨kq,x21_3,rfl,HA,HJ3,HO_289002,BK288,BK289,HB⟩:=hcut
  obtain ⟨kj3,rfl⟩:=ysu kq (fun h=>by subst h;exact absurd HA.out (by simp [coder_TakeNum.j0]))
  have H:=HA.out;clear HA
  simp only [coder_TakeNum.j0] at H
  by_cases c13 : x21_3=true
  ·
   subst c13
   rw [if_pos rfl] at H
   simp only [Option.some.injEq,Prod.mk.injEq] at H
   obtain ⟨rfl,rfl,rfl,rfl,rfl,rfl⟩:=H
   have:=NB288_289.out
   have:=NB289_288.out
   obtain ⟨_,_,_,_,_,_,_,_⟩:=yc4 BK288
   obtain ⟨_,_,_,_,_,_,_,_⟩:=yc4 BK289
   go_wp2
   refine bodyPost_ret (results_ctt rfl _ _ gb289 43 #[.int .u64 t290, .int .u32 t291, .slice Ao11 t292.length co11, .int .i64 t295] (0,0) _ rfl (ykp BK289) Try.underlying43 rfl (by kernel_rfl)) rfl ?_
   exact ⟨_,ye,yV0 HO_289002,yhb⟩
  ·
   replace c13:=Bool.eq_false_iff.mpr c13
   subst c13
   rw [ynf] at H
   replace H:=ybi H;obtain ⟨⟨t296,t297⟩,A17,H⟩:=H
   try dsimp only at H
   replace H:=ybi H;obtain ⟨⟨t298,t299⟩,A18,H⟩:=H
   try dsimp only at H
   replace H:=ybi H;obtain ⟨⟨t300,t301,t302,t305,t306⟩,A19,H⟩:=H
   try dsimp only at H
   by_cases c20 : t297 > 1
   ·
    rw [if_pos c20] at H
    have c20b0 : decide (1 < t297)=true:=decide_eq_true c20
    clear c20
    replace H:=ybi H;obtain ⟨⟨t307,t308⟩,A21,H⟩:=H
    try dsimp only at H
    replace H:=ybi H;obtain ⟨⟨t309,t310,t311,t314,t315⟩,A22,H⟩:=H
    try dsimp only at H
    obtain ⟨ji23,hji23⟩ : ∃ j_ : Int,(mn (IntKind.u64.wrap ((IntKind.u64.wrap ((IntKind.u64.wrap (t298)) * (IntKind.u64.wrap (t297))))+(IntKind.u64.wrap (t307)))) (IntKind.u64.wrap (a1 - 1)))=j_:=⟨_,rfl⟩
    replace H : (some (t309,t310,t311,t314,ji23,0))=some (r1,r2,r3,r4,r5,r6):=by first|(rw [hji23] at H;exact H)|(simp only [hji23] at H ⊢; exact H)
    (try rw [hji23] at A17)
    (try rw [hji23] at A18)
    (try rw [hji23] at A19)
    (try rw [hji23] at A21)
    (try rw [hji23] at A22)
    have hji23_ : (if (IntKind.u64.wrap (a1 - 1)) < (IntKind.u64.wrap ((IntKind.u64.wrap ((IntKind.u64.wrap (t298)) * (IntKind.u64.wrap (t297))))+(IntKind.u64.wrap (t307)))) then (IntKind.u64.wrap (a1 - 1)) else (IntKind.u64.wrap ((IntKind.u64.wrap ((IntKind.u64.wrap (t298)) * (IntKind.u64.wrap (t297))))+(IntKind.u64.wrap (t307)))))=ji23:=hji23
    simp only [Option.some.injEq,Prod.mk.injEq] at H
    obtain ⟨rfl,rfl,rfl,rfl,rfl,rfl⟩:=H
    go_wp2_with (first|((with_reducible refine gate_callee (f:=63) rfl ?_);refine ygl 25 Try.func63 #[.int .u64 a1] ?_;(with_reducible refine (coder_halves.calls a1 t296 t297 _ A17.out).mono ?_);rintro e w' ⟨rfl,⟨nd,rfl⟩⟩;refine ⟨_,rfl, ?_⟩;(try (rw [drewN_self wc];generalize hq_ : World.drewN wc _=wc;have n0_ : Aside0 (Kd.V (Kd.int .u8) 5 wc w.heap.size (fun k_=>(P0_2_ k_∨w.heap.size≤k_)∧k_≠gb288∧k_≠gb289) (.slice Ao11 t292.length co11) t292):=⟨by rw [← hq_];exact (yr HO_289002)⟩;have n1_ : Aside0 (wc.heap[gb288]? = some (.cells #[.int .u64 t290, .int .u32 t291, .slice Ao11 t292.length co11, .int .i64 t295] 43 (0,0))):=⟨by rw [← hq_];exact (yk BK288)⟩;have n2_ : Aside0 (wc.heap[gb289]? = some (.cells #[.int .u64 0, .int .u32 0, .slice none 0 0, .int .i64 0] 43 (0,0))):=⟨by rw [← hq_];exact (yk BK289)⟩;have n3_ : Aside0 (Below w.heap.size w wc):=⟨by rw [← hq_];exact yhb⟩;clear HO_289002 BK288 BK289 HB hq_;have HO_289002:=n0_;have BK288:=n1_;have BK289:=n2_;have HB:=n3_;clear n0_ n1_ n2_ n3_));have:=NB288_289.out;have:=NB289_288.out;obtain ⟨_,_,_,_,_,_,_,_⟩:=yc4 BK288)|((with_reducible refine gate_callee (f:=32) rfl ?_);refine ygl 31 Try.func32 #[.agg #[.int .u64 t290, .int .u32 t291, .slice Ao11 t292.length co11, .int .i64 t295], .int .i64 t296] ?_;(with_reducible refine (coder_Get.calls t290 t291 _ _ t292 t295 t296 t298 t299 _ ?side1 ?side2 A18.out).mono ?_);(case side1=>exact yce (Kd.V_reads' HO_289002.out).2.2);(case side2=>exact (Kd.V_reads' HO_289002.out).2.1);rintro e w26 ⟨rfl,hb⟩;refine ⟨_,rfl, ?_⟩;replace HO_289002:=yVb HO_289002 hb;replace BK288:=ybb BK288 hb;replace BK289:=ybb BK289 hb;replace HB:=ybs hb;(try clear hb);obtain ⟨_,_,_,_,_,_,_,_⟩:=yc4 BK288)|((with_reducible refine gate_callee (f:=34) rfl ?_);refine ygl 40 Try.func34 #[.agg #[.int .u64 t290, .int .u32 t291, .slice Ao11 t292.length co11, .int .i64 t295], .int .i64 t298, .int .i64 (wrap64 (t298+1)), .int .i64 t296] ?_;(with_reducible refine (coder_Take.calls kj3 t290 t291 (fun k_=>((P0_2_ k_∨w.heap.size≤k_)∧(k_≠gb288∧k_≠gb289))) _ _ t292 t295 t298 (wrap64 (t298+1)) t296 t300 t301 t302 t305 t306 _ HO_289002.out A19.out).mono ?_);rintro e w28 ⟨v303,rfl,ho0,hb⟩;refine ⟨_,rfl, ?_⟩;replace HO_289002:=yVb HO_289002 hb;have HO304:=yho (fun k_=>(P0_2_ k_∨w.heap.size≤k_)∧k_≠gb288∧k_≠gb289) ho0 (fun k_ hk_=>⟨Or.elim hk_ (fun hs_=>hs_.1) (fun hn_=>(.inr (Nat.le_trans (zE yhb) hn_))),yoB BK288 hk_,yoB BK289 hk_⟩);replace BK288:=ybb BK288 hb;replace BK289:=ybb BK289 hb;replace HB:=ybs hb;(try clear hb);(try clear ho0);obtain ⟨_,_,_,_,_,_,_,_⟩:=yc4 BK288;obtain ⟨Ao30,co30,eo30⟩:=Kd.V_slice HO304.out;subst eo30)|((with_reducible refine gate_callee (f:=32) rfl ?_);refine ygl 50 Try.func32 #[.agg #[.int .u64 t300, .int .u32 t301, .slice Ao30 t302.length co30, .int .i64 t305], .int .i64 t297] ?_;(with_reducible refine (coder_Get.calls t300 t301 _ _ t302 t305 t297 t307 t308 _ ?side1 ?side2 A21.out).mono ?_);(case side1=>refine (Kd.V_reads' (e:=5) (base:=w.heap.size) (ok:=fun k_=>((P0_2_ k_∨w.heap.size≤k_)∧(k_≠gb288∧k_≠gb289))) (n:=t302.length) (c:=co30) ?_).2.2;exact (yV0 HO304));(case side2=>exact (Kd.V_reads' HO304.out).2.1);rintro e w31 ⟨rfl,hb⟩;refine ⟨_,rfl, ?_⟩;replace HO_289002:=zm (Kd.V_below (yV0 HO_289002) hb);replace HO304:=zm (Kd.V_below (yV0 HO304) hb);replace BK288:=zm (zF (g:=gb288) (o:=.cells #[.int .u64 t300, .int .u32 t301, .slice Ao30 t302.length co30, .int .i64 t305] 43 (0,0)) (ykp BK288) hb);replace BK289:=ybb BK289 hb;replace HB:=ybs hb;(try clear hb);obtain ⟨_,_,_,_,_,_,_,_⟩:=yc4 BK288)|((with_reducible refine gate_callee (f:=34) rfl ?_);refine ygl 59 Try.func34 #[.agg #[.int .u64 t300, .int .u32 t301, .slice Ao30 t302.length co30, .int .i64 t305], .int .i64 t307, .int .i64 (wrap64 (t307+1)), .int .i64 t297] ?_;(with_reducible refine (coder_Take.calls kj3 t300 t301 (fun k_=>((P0_2_ k_∨w.heap.size≤k_)∧(k_≠gb288∧k_≠gb289))) _ _ t302 t305 t307 (wrap64 (t307+1)) t297 t309 t310 t311 t314 t315 _ HO304.out A22.out).mono ?_);rintro e w33 ⟨v312,rfl,ho0,hb⟩;refine ⟨_,rfl, ?_⟩;replace HO_289002:=yVb HO_289002 hb;replace HO304:=yVb HO304 hb;have HO313:=yho (fun k_=>(P0_2_ k_∨w.heap.size≤k_)∧k_≠gb288∧k_≠gb289) ho0 (fun k_ hk_=>⟨Or.elim hk_ (fun hs_=>hs_.1) (fun hn_=>(.inr (Nat.le_trans (zE yhb) hn_))),yoB BK288 hk_,yoB BK289 hk_⟩);replace BK288:=ybb BK288 hb;replace BK289:=ybb BK289 hb;replace HB:=ybs hb;(try clear hb);(try clear ho0);obtain ⟨_,_,_,_,_,_,_,_⟩:=yc4 BK288;obtain ⟨Ao35,co35,eo35⟩:=Kd.V_slice HO313.out;subst eo35;obtain ⟨_,_,_,_,_,_,_,_⟩:=yc4 BK289))
    refine bodyPost_ret (results_ctt rfl _ _ gb289 43 #[.int .u64 t309, .int .u32 t310, .slice Ao35 t311.length co35, .int .i64 t314] (0,0) _ rfl (ykp BK289) Try.underlying43 rfl (by kernel_rfl)) rfl ?_
    exact ⟨_,by first|rfl|(simp [errW_none,errW_some] <;> rfl)|(simp only [← hji23];first|rfl|(simp [errW_none,errW_some] <;> rfl))|(simp [*,errW_none,errW_some] <;> rfl),yV0 HO313,yhb⟩
   ·
    rw [if_neg c20] at H
    have c20b0 : decide (1 < t297)=false:=decide_eq_false c20
    clear c20
    obtain ⟨ji37,hji37⟩ : ∃ j_ : Int,(mn (IntKind.u64.wrap (t298)) (IntKind.u64.wrap (a1 - 1)))=j_:=⟨_,rfl⟩
    replace H : (some (t300,t301,t302,t305,ji37,0))=some (r1,r2,r3,r4,r5,r6):=by first|(rw [hji37] at H;exact H)|(simp only [hji37] at H ⊢; exact H)
    (try rw [hji37] at A17)
    (try rw [hji37] at A18)
    (try rw [hji37] at A19)
    have hji37_ : (if (IntKind.u64.wrap (a1 - 1)) < (IntKind.u64.wrap (t298)) then (IntKind.u64.wrap (a1 - 1)) else (IntKind.u64.wrap (t298)))=ji37:=hji37
    simp only [Option.some.injEq,Prod.mk.injEq] at H
    obtain ⟨rfl,rfl,rfl,rfl,rfl,rfl⟩:=H
    go_wp2_with (first|((with_reducible refine gate_callee (f:=63) rfl ?_);refine ygl 25 Try.func63 #[.int .u64 a1] ?_;(with_reducible refine (coder_halves.calls a1 t296 t297 _ A17.out).mono ?_);rintro e w' ⟨rfl,⟨nd,rfl⟩⟩;refine ⟨_,rfl, ?_⟩;(try (rw [drewN_self wc];generalize hq_ : World.drewN wc _=wc;have n0_ : Aside0 (Kd.V (Kd.int .u8) 5 wc w.heap.size (fun k_=>(P0_2_ k_∨w.heap.size≤k_)∧k_≠gb288∧k_≠gb289) (.slice Ao11 t292.length co11) t292):=⟨by rw [← hq_];exact (yr HO_289002)⟩;have n1_ : Aside0 (wc.heap[gb288]? = some (.cells #[.int .u64 t290, .int .u32 t291, .slice Ao11 t292.length co11, .int .i64 t295] 43 (0,0))):=⟨by rw [← hq_];exact (yk BK288)⟩;have n2_ : Aside0 (wc.heap[gb289]? = some (.cells #[.int .u64 0, .int .u32 0, .slice none 0 0, .int .i64 0] 43 (0,0))):=⟨by rw [← hq_];exact (yk BK289)⟩;have n3_ : Aside0 (Below w.heap.size w wc):=⟨by rw [← hq_];exact yhb⟩;clear HO_289002 BK288 BK289 HB hq_;have HO_289002:=n0_;have BK288:=n1_;have BK289:=n2_;have HB:=n3_;clear n0_ n1_ n2_ n3_));have:=NB288_289.out;have:=NB289_288.out;obtain ⟨_,_,_,_,_,_,_,_⟩:=yc4 BK288)|((with_reducible refine gate_callee (f:=32) rfl ?_);refine ygl 31 Try.func32 #[.agg #[.int .u64 t290, .int .u32 t291, .slice Ao11 t292.length co11, .int .i64 t295], .int .i64 t296] ?_;(with_reducible refine (coder_Get.calls t290 t291 _ _ t292 t295 t296 t298 t299 _ ?side1 ?side2 A18.out).mono ?_);(case side1=>exact yce (Kd.V_reads' HO_289002.out).2.2);(case side2=>exact (Kd.V_reads' HO_289002.out).2.1);rintro e w40 ⟨rfl,hb⟩;refine ⟨_,rfl, ?_⟩;replace HO_289002:=yVb HO_289002 hb;replace BK288:=ybb BK288 hb;replace BK289:=ybb BK289 hb;replace HB:=ybs hb;(try clear hb);obtain ⟨_,_,_,_,_,_,_,_⟩:=yc4 BK288)|((with_reducible refine gate_callee (f:=34) rfl ?_);refine ygl 40 Try.func34 #[.agg #[.int .u64 t290, .int .u32 t291, .slice Ao11 t292.length co11, .int .i64 t295], .int .i64 t298, .int .i64 (wrap64 (t298+1)), .int .i64 t296] ?_;(with_reducible refine (coder_Take.calls kj3 t290 t291 (fun k_=>((P0_2_ k_∨w.heap.size≤k_)∧(k_≠gb288∧k_≠gb289))) _ _ t292 t295 t298 (wrap64 (t298+1)) t296 t300 t301 t302 t305 t306 _ HO_289002.out A19.out).mono ?_);rintro e w42 ⟨v303,rfl,ho0,hb⟩;refine ⟨_,rfl, ?_⟩;replace HO_289002:=yVb HO_289002 hb;have HO304:=yho (fun k_=>(P0_2_ k_∨w.heap.size≤k_)∧k_≠gb288∧k_≠gb289) ho0 (fun k_ hk_=>⟨Or.elim hk_ (fun hs_=>hs_.1) (fun hn_=>(.inr (Nat.le_trans (zE yhb) hn_))),yoB BK288 hk_,yoB BK289 hk_⟩);replace BK288:=ybb BK288 hb;replace BK289:=ybb BK289 hb;replace HB:=ybs hb;(try clear hb);(try clear ho0);obtain ⟨_,_,_,_,_,_,_,_⟩:=yc4 BK288;obtain ⟨Ao44,co44,eo44⟩:=Kd.V_slice HO304.out;subst eo44;obtain ⟨_,_,_,_,_,_,_,_⟩:=yc4 BK289))
    refine bodyPost_ret (results_ctt rfl _ _ gb289 43 #[.int .u64 t300, .int .u32 t301, .slice Ao44 t302.length co44, .int .i64 t305] (0,0) _ rfl (ykp BK289) Try.underlying43 rfl (by kernel_rfl)) rfl ?_
    exact ⟨_,by first|rfl|(simp [errW_none,errW_some] <;> rfl)|(simp only [← hji37];first|rfl|(simp [errW_none,errW_some] <;> rfl))|(simp [*,errW_none,errW_some] <;> rfl),yV0 HO304,yhb⟩
def gain_take.f (k : Nat) (a0_0 : Int) (a0_1 : Int) (l0_2 : List Int) (a0_3 : Int) (a1 : Int) (a2 : Bool) : Option (Int × Int × List Int × Int × Int):=if a2=true then ((coder_TakeNum.f k a0_0 a0_1 l0_2 a0_3 45).bind fun bt318=>(some (bt318.1,bt318.2.1,bt318.2.2.1,bt318.2.2.2.1,wrap64 (bt318.2.2.2.2.1)))) else ((coder_Get.f a0_0 a0_1 l0_2 a0_3 8).bind fun bt327=>((coder_Take.f k a0_0 a0_1 l0_2 a0_3 bt327.1 (wrap64 (bt327.1+1)) 8).bind fun bt329=>(if bt327.1=7 then ((coder_TakeNum.f k bt329.1 bt329.2.1 bt329.2.2.1 bt329.2.2.2.1 45).bind fun bt336=>(some (bt336.1,bt336.2.1,bt336.2.2.1,bt336.2.2.2.1,wrap64 (bt336.2.2.2.2.1)))) else (some (bt329.1,bt329.2.1,bt329.2.2.1,bt329.2.2.2.1,mx 0 (mn (wrap64 ((wrap64 (a1+bt327.1)) - 3)) 44))))))
theorem gain_take.mono : ∀ a0 a1 a2 a3 a4 a5 k,LeO (gain_take.f k a0 a1 a2 a3 a4 a5) (gain_take.f (k+1) a0 a1 a2 a3 a4 a5):=by
 intro a0 a1 a2 a3 a4 a5 k
 unfold gain_take.f
 repeat' with_reducible first|apply coder_Take.mono|apply coder_TakeNum.mono|apply yLr|apply yLn|apply yLi|apply yLb|intro _
set_option maxHeartbeats 8000000 in
set_option maxRecDepth 100000 in
theorem gain_take.calls (k : Nat) (a0_0 : Int) (a0_1 : Int) (P0_2_ : Nat→Prop) (A0_2 : Option Addr) (c0_2 : Nat) (l0_2 : List Int) (a0_3 : Int) (a1 : Int) (a2 : Bool) (r1 : Int) (r2 : Int) (r3 : List Int) (r4 : Int) (r5 : Int) (w : World) (hs0_2 : Kd.V (Kd.int .u8) 5 w w.heap.size (fun k_=>P0_2_ k_) (.slice A0_2 l0_2.length c0_2) l0_2) (h : gain_take.f k a0_0 a0_1 l0_2 a0_3 a1 a2=some (r1,r2,r3,r4,r5)) :
  Calls Try.prog 65 #[.agg #[.int .u64 a0_0, .int .u32 a0_1, .slice A0_2 l0_2.length c0_2, .int .i64 a0_3], .int .i64 a1, .bool a2] w fun e w' => ∃ v2_ : Value,e=.returned (.tuple #[.agg #[.int .u64 r1, .int .u32 r2,v2_, .int .i64 r4], .int .i64 r5])∧Kd.V (Kd.int .u8) 5 w' w.heap.size (fun k_=>(P0_2_ k_∨w.heap.size≤k_)) v2_ r3∧Below w.heap.size w w' := by
 have hu43:=Try.underlying43
 have HO0_2:=zm (show Kd.V (Kd.int .u8) 5 w w.heap.size (fun k_=>(P0_2_ k_∨w.heap.size≤k_)) (.slice A0_2 l0_2.length c0_2) l0_2 from zy hs0_2 (fun k_ hk => .inl hk))
 have HB:=zm (Below.refl w.heap.size w)
 have H : (if a2=true then ((coder_TakeNum.f k a0_0 a0_1 l0_2 a0_3 45).bind fun bt318=>(some (bt318.1,bt318.2.1,bt318.2.2.1,bt318.2.2.2.1,wrap64 (bt318.2.2.2.2.1)))) else ((coder_Get.f a0_0 a0_1 l0_2 a0_3 8).bind fun bt327=>((coder_Take.f k a0_0 a0_1 l0_2 a0_3 bt327.1 (wrap64 (bt327.1+1)) 8).bind fun bt329=>(if bt327.1=7 then ((coder_TakeNum.f k bt329.1 bt329.2.1 bt329.2.2.1 bt329.2.2.2.1 45).bind fun bt336=>(some (bt336.1,bt336.2.1,bt336.2.2.1,bt336.2.2.2.1,wrap64 (bt336.2.2.2.2.1)))) else (some (bt329.1,bt329.2.1,bt329.2.2.1,bt329.2.2.2.1,mx 0 (mn (wrap64 ((wrap64 (a1+bt327.1)) - 3)) 44)))))))=some (r1,r2,r3,r4,r5):=h
 clear h
 by_cases c4 : a2=true
 ·
  subst c4
  rw [if_pos rfl] at H
  replace H:=ybi H;obtain ⟨⟨t318,t319,t320,t323,t324,t325⟩,A5,H⟩:=H
  try dsimp only at H
  simp only [Option.some.injEq,Prod.mk.injEq] at H
  obtain ⟨rfl,rfl,rfl,rfl,rfl⟩:=H
  go_enter Try.func65,Try.ntmps65
  go_wp2_with (first|((with_reducible refine gate_dst (N:=3) rfl ?_);refine ybx 3 #[.int .u64 a0_0, .int .u32 a0_1, .slice A0_2 l0_2.length c0_2, .int .i64 a0_3] 43 ?_;intro gb316 hg w6 hbox hb;replace HO0_2:=yVe HO0_2 hg hb;have BK316:=zm (hbox);have GW316:=ygw hg;have GE316:=ygw hg;replace HB:=ybs hb;clear hb hbox hg)|((with_reducible refine gate_dst (N:=6) rfl ?_);refine ybx 6 #[.int .u64 0, .int .u32 0, .slice none 0 0, .int .i64 0] 43 ?_;intro gb317 hg w7 hbox hb;replace HO0_2:=yVe HO0_2 hg hb;have BK317:=zm (hbox);have GW317:=ygw hg;have GE317:=ygw hg;replace HB:=ybs hb;have NB316_317:=ynl BK316 hg;have NB317_316:=yng BK316 hg;replace BK316:=ybb BK316 hb;clear hb hbox hg;have:=NB316_317.out;have:=NB317_316.out;obtain ⟨_,_,_,_,_,_,_,_⟩:=yc4 BK316)|((with_reducible refine gate_callee (f:=39) rfl ?_);refine ygl 39 Try.func39 #[.agg #[.int .u64 a0_0, .int .u32 a0_1, .slice A0_2 l0_2.length c0_2, .int .i64 a0_3], .int .u64 45] ?_;(with_reducible refine (coder_TakeNum.calls k a0_0 a0_1 (fun k_=>(((P0_2_ k_∨w.heap.size≤k_)∧k_≠gb316)∧k_≠gb317)) _ _ l0_2 a0_3 45 t318 t319 t320 t323 t324 t325 _ HO0_2.out A5.out).mono ?_);rintro e w10 ⟨v321,rfl,ho0,hb⟩;refine ⟨_,rfl, ?_⟩;replace HO0_2:=yVb HO0_2 hb;have HO322:=yho (fun k_=>(P0_2_ k_∨w.heap.size≤k_)∧k_≠gb316∧k_≠gb317) ho0 (fun k_ hk_=>⟨Or.elim hk_ (fun hs_=>hs_.1.1) (fun hn_=>(.inr (Nat.le_trans (zE yhb) hn_))),yoB BK316 hk_,yoB BK317 hk_⟩);replace BK316:=ybb BK316 hb;replace BK317:=ybb BK317 hb;replace HB:=ybs hb;(try clear hb);(try clear ho0))|((with_reducible refine gate_dst (N:=10) rfl ?_);refine ybx 10 #[.int .u64 0, .int .u32 0, .slice none 0 0, .int .i64 0] 43 ?_;intro gb326 hg w11 hbox hb;replace HO0_2:=yVe HO0_2 hg hb;replace HO322:=yVe HO322 hg hb;have BK326:=zm (hbox);have GW326:=ygw hg;have GE326:=ygw hg;replace HB:=ybs hb;have NB316_326:=ynl BK316 hg;have NB326_316:=yng BK316 hg;replace BK316:=ybb BK316 hb;have NB317_326:=ynl BK317 hg;have NB326_317:=yng BK317 hg;replace BK317:=ybb BK317 hb;clear hb hbox hg;have:=NB326_316.out;have:=NB316_326.out;have:=NB326_317.out;have:=NB317_326.out;obtain ⟨_,_,_,_,_,_,_,_⟩:=yc4 BK326;obtain ⟨Ao15,co15,eo15⟩:=Kd.V_slice HO322.out;subst eo15;obtain ⟨_,_,_,_,_,_,_,_⟩:=yc4 BK317))
  refine bodyPost_ret (results_ct rfl _ _ gb317 43 #[.int .u64 t318, .int .u32 t319, .slice Ao15 t320.length co15, .int .i64 t323] (0,0) _ rfl (ykp BK317) Try.underlying43 rfl (by kernel_rfl)) rfl ?_
  exact ⟨_,ye,yV0 HO322,yhb⟩
 ·
  replace c4:=Bool.eq_false_iff.mpr c4
  subst c4
  rw [ynf] at H
  replace H:=ybi H;obtain ⟨⟨t327,t328⟩,A17,H⟩:=H
  try dsimp only at H
  replace H:=ybi H;obtain ⟨⟨t329,t330,t331,t334,t335⟩,A18,H⟩:=H
  try dsimp only at H
  by_cases c19 : t327=7
  ·
   rw [if_pos c19] at H
   have c19b0 : (t327 == 7)=true:=beq_iff_eq.mpr c19
   have c19b1 : (t327 != 7)=false:=bne_eq_false_iff_eq.mpr c19
   clear c19
   replace H:=ybi H;obtain ⟨⟨t336,t337,t338,t341,t342,t343⟩,A20,H⟩:=H
   try dsimp only at H
   simp only [Option.some.injEq,Prod.mk.injEq] at H
   obtain ⟨rfl,rfl,rfl,rfl,rfl⟩:=H
   go_enter Try.func65,Try.ntmps65
   go_wp2_with (first|((with_reducible refine gate_dst (N:=3) rfl ?_);refine ybx 3 #[.int .u64 a0_0, .int .u32 a0_1, .slice A0_2 l0_2.length c0_2, .int .i64 a0_3] 43 ?_;intro gb316 hg w21 hbox hb;replace HO0_2:=yVe HO0_2 hg hb;have BK316:=zm (hbox);have GW316:=ygw hg;have GE316:=ygw hg;replace HB:=ybs hb;clear hb hbox hg)|((with_reducible refine gate_dst (N:=6) rfl ?_);refine ybx 6 #[.int .u64 0, .int .u32 0, .slice none 0 0, .int .i64 0] 43 ?_;intro gb317 hg w22 hbox hb;replace HO0_2:=yVe HO0_2 hg hb;have BK317:=zm (hbox);have GW317:=ygw hg;have GE317:=ygw hg;replace HB:=ybs hb;have NB316_317:=ynl BK316 hg;have NB317_316:=yng BK316 hg;replace BK316:=ybb BK316 hb;clear hb hbox hg;have:=NB316_317.out;have:=NB317_316.out;obtain ⟨_,_,_,_,_,_,_,_⟩:=yc4 BK316)|((with_reducible refine gate_callee (f:=32) rfl ?_);refine ygl 17 Try.func32 #[.agg #[.int .u64 a0_0, .int .u32 a0_1, .slice A0_2 l0_2.length c0_2, .int .i64 a0_3], .int .i64 8] ?_;(with_reducible refine (coder_Get.calls a0_0 a0_1 _ _ l0_2 a0_3 8 t327 t328 _ ?side1 ?side2 A17.out).mono ?_);(case side1=>exact yce (Kd.V_reads' HO0_2.out).2.2);(case side2=>exact (Kd.V_reads' HO0_2.out).2.1);rintro e w25 ⟨rfl,hb⟩;refine ⟨_,rfl, ?_⟩;replace HO0_2:=yVb HO0_2 hb;replace BK316:=ybb BK316 hb;replace BK317:=ybb BK317 hb;replace HB:=ybs hb;(try clear hb);obtain ⟨_,_,_,_,_,_,_,_⟩:=yc4 BK316)|((with_reducible refine gate_callee (f:=34) rfl ?_);refine ygl 25 Try.func34 #[.agg #[.int .u64 a0_0, .int .u32 a0_1, .slice A0_2 l0_2.length c0_2, .int .i64 a0_3], .int .i64 t327, .int .i64 (wrap64 (t327+1)), .int .i64 8] ?_;(with_reducible refine (coder_Take.calls k a0_0 a0_1 (fun k_=>(((P0_2_ k_∨w.heap.size≤k_)∧k_≠gb316)∧k_≠gb317)) _ _ l0_2 a0_3 t327 (wrap64 (t327+1)) 8 t329 t330 t331 t334 t335 _ HO0_2.out A18.out).mono ?_);rintro e w27 ⟨v332,rfl,ho0,hb⟩;refine ⟨_,rfl, ?_⟩;replace HO0_2:=yVb HO0_2 hb;have HO333:=yho (fun k_=>(P0_2_ k_∨w.heap.size≤k_)∧k_≠gb316∧k_≠gb317) ho0 (fun k_ hk_=>⟨Or.elim hk_ (fun hs_=>hs_.1.1) (fun hn_=>(.inr (Nat.le_trans (zE yhb) hn_))),yoB BK316 hk_,yoB BK317 hk_⟩);replace BK316:=ybb BK316 hb;replace BK317:=ybb BK317 hb;replace HB:=ybs hb;(try clear hb);(try clear ho0);obtain ⟨_,_,_,_,_,_,_,_⟩:=yc4 BK316;obtain ⟨Ao29,co29,eo29⟩:=Kd.V_slice HO333.out;subst eo29)|((with_reducible refine gate_store (t:=43) (p:=3) rfl ?_);refine store_event (t:=43) (p:=3) (v := ?vo_w30) (w1:=((((w27.setCell ⟨gb316,0,none⟩ (.int .u64 t329)).setCell ⟨gb316,1,none⟩ (.int .u32 t330)).setCell ⟨gb316,2,none⟩ (.slice Ao29 t331.length co29)).setCell ⟨gb316,3,none⟩ (.int .i64 t334))) ?hg ?ho ?hn ?hr ?_;(case ho=>rfl);(case hg=>rfl);(case hn=>rfl);(case hr=>first|(go_simp;done)|(go_simp;rfl));intro w30 hw;replace HO0_2 : Aside0 (Kd.V (Kd.int .u8) 5 w30 w.heap.size (fun k_=>(P0_2_ k_∨w.heap.size≤k_)∧k_≠gb316∧k_≠gb317) (.slice A0_2 l0_2.length c0_2) l0_2):=⟨(by rw [hw];exact (yV0 HO0_2))⟩;replace HO333 : Aside0 (Kd.V (Kd.int .u8) 5 w30 w.heap.size (fun k_=>(P0_2_ k_∨w.heap.size≤k_)∧k_≠gb316∧k_≠gb317) (.slice Ao29 t331.length co29) t331):=⟨(by rw [hw];exact (yV0 HO333))⟩;replace BK316 : Aside0 (w30.heap[gb316]? = some (.cells #[.int .u64 t329, .int .u32 t330, .slice Ao29 t331.length co29, .int .i64 t334] 43 (0,0))):=⟨(by rw [hw];exact (ykp BK316))⟩;replace BK317 : Aside0 (w30.heap[gb317]? = some (.cells #[.int .u64 0, .int .u32 0, .slice none 0 0, .int .i64 0] 43 (0,0))):=⟨(by rw [hw];exact (yk BK317))⟩;replace HB : Aside0 (Below w.heap.size w w30):=⟨(by rw [hw];exact yhb)⟩;clear hw;obtain ⟨_,_,_,_,_,_,_,_⟩:=yc4 BK316)|((with_reducible refine gate_callee (f:=39) rfl ?_);refine ygl 39 Try.func39 #[.agg #[.int .u64 t329, .int .u32 t330, .slice Ao29 t331.length co29, .int .i64 t334], .int .u64 45] ?_;(with_reducible refine (coder_TakeNum.calls k t329 t330 (fun k_=>((P0_2_ k_∨w.heap.size≤k_)∧(k_≠gb316∧k_≠gb317))) _ _ t331 t334 45 t336 t337 t338 t341 t342 t343 _ HO333.out A20.out).mono ?_);rintro e w32 ⟨v339,rfl,ho0,hb⟩;refine ⟨_,rfl, ?_⟩;replace HO0_2:=yVb HO0_2 hb;replace HO333:=yVb HO333 hb;have HO340:=yho (fun k_=>(P0_2_ k_∨w.heap.size≤k_)∧k_≠gb316∧k_≠gb317) ho0 (fun k_ hk_=>⟨Or.elim hk_ (fun hs_=>hs_.1) (fun hn_=>(.inr (Nat.le_trans (zE yhb) hn_))),yoB BK316 hk_,yoB BK317 hk_⟩);replace BK316:=ybb BK316 hb;replace BK317:=ybb BK317 hb;replace HB:=ybs hb;(try clear hb);(try clear ho0))|((with_reducible refine gate_dst (N:=10) rfl ?_);refine ybx 10 #[.int .u64 0, .int .u32 0, .slice none 0 0, .int .i64 0] 43 ?_;intro gb344 hg w33 hbox hb;replace HO0_2:=yVe HO0_2 hg hb;replace HO333:=yVe HO333 hg hb;replace HO340:=yVe HO340 hg hb;have BK344:=zm (hbox);have GW344:=ygw hg;have GE344:=ygw hg;replace HB:=ybs hb;have NB316_344:=ynl BK316 hg;have NB344_316:=yng BK316 hg;replace BK316:=ybb BK316 hb;have NB317_344:=ynl BK317 hg;have NB344_317:=yng BK317 hg;replace BK317:=ybb BK317 hb;clear hb hbox hg;have:=NB344_316.out;have:=NB316_344.out;have:=NB344_317.out;have:=NB317_344.out;obtain ⟨_,_,_,_,_,_,_,_⟩:=yc4 BK344;obtain ⟨Ao37,co37,eo37⟩:=Kd.V_slice HO340.out;subst eo37;obtain ⟨_,_,_,_,_,_,_,_⟩:=yc4 BK317))
   refine bodyPost_ret (results_ct rfl _ _ gb317 43 #[.int .u64 t336, .int .u32 t337, .slice Ao37 t338.length co37, .int .i64 t341] (0,0) _ rfl (ykp BK317) Try.underlying43 rfl (by kernel_rfl)) rfl ?_
   exact ⟨_,ye,yV0 HO340,yhb⟩
  ·
   rw [if_neg c19] at H
   have c19b0 : (t327 == 7)=false:=beq_eq_false_iff_ne.mpr c19
   have c19b1 : (t327 != 7)=true:=bne_iff_ne.mpr c19
   obtain ⟨ji39,hji39⟩ : ∃ j_ : Int,(mn (wrap64 ((wrap64 (a1+t327)) - 3)) 44)=j_:=⟨_,rfl⟩
   replace H : (some (t329,t330,t331,t334,mx 0 (ji39)))=some (r1,r2,r3,r4,r5):=by first|(rw [hji39] at H;exact H)|(simp only [hji39] at H ⊢; exact H)
   (try rw [hji39] at A17)
   (try rw [hji39] at A18)
   (try (have hji39h : ji39≤44:=by (rw [← hji39];unfold mn;(repeat' split) <;> omega)))
   (try (have hji39g : ji39≤64:=by omega))
   have hji39_ : (if 44 < (wrap64 ((wrap64 (a1+t327)) - 3)) then 44 else (wrap64 ((wrap64 (a1+t327)) - 3)))=ji39:=hji39
   obtain ⟨ji40,hji40⟩ : ∃ j_ : Int,(mx 0 (ji39))=j_:=⟨_,rfl⟩
   replace H : (some (t329,t330,t331,t334,ji40))=some (r1,r2,r3,r4,r5):=by first|(rw [hji40] at H;exact H)|(simp only [hji40] at H ⊢; exact H)
   (try rw [hji40] at A17)
   (try rw [hji40] at A18)
   have hji40_ : (if 0 < (ji39) then (ji39) else 0)=ji40:=hji40
   simp only [Option.some.injEq,Prod.mk.injEq] at H
   obtain ⟨rfl,rfl,rfl,rfl,rfl⟩:=H
   go_enter Try.func65,Try.ntmps65
   go_wp2_with (first|((with_reducible refine gate_dst (N:=3) rfl ?_);refine ybx 3 #[.int .u64 a0_0, .int .u32 a0_1, .slice A0_2 l0_2.length c0_2, .int .i64 a0_3] 43 ?_;intro gb316 hg w41 hbox hb;replace HO0_2:=yVe HO0_2 hg hb;have BK316:=zm (hbox);have GW316:=ygw hg;have GE316:=ygw hg;replace HB:=ybs hb;clear hb hbox hg)|((with_reducible refine gate_dst (N:=6) rfl ?_);refine ybx 6 #[.int .u64 0, .int .u32 0, .slice none 0 0, .int .i64 0] 43 ?_;intro gb317 hg w42 hbox hb;replace HO0_2:=yVe HO0_2 hg hb;have BK317:=zm (hbox);have GW317:=ygw hg;have GE317:=ygw hg;replace HB:=ybs hb;have NB316_317:=ynl BK316 hg;have NB317_316:=yng BK316 hg;replace BK316:=ybb BK316 hb;clear hb hbox hg;have:=NB316_317.out;have:=NB317_316.out;obtain ⟨_,_,_,_,_,_,_,_⟩:=yc4 BK316)|((with_reducible refine gate_callee (f:=32) rfl ?_);refine ygl 17 Try.func32 #[.agg #[.int .u64 a0_0, .int .u32 a0_1, .slice A0_2 l0_2.length c0_2, .int .i64 a0_3], .int .i64 8] ?_;(with_reducible refine (coder_Get.calls a0_0 a0_1 _ _ l0_2 a0_3 8 t327 t328 _ ?side1 ?side2 A17.out).mono ?_);(case side1=>exact yce (Kd.V_reads' HO0_2.out).2.2);(case side2=>exact (Kd.V_reads' HO0_2.out).2.1);rintro e w45 ⟨rfl,hb⟩;refine ⟨_,rfl, ?_⟩;replace HO0_2:=yVb HO0_2 hb;replace BK316:=ybb BK316 hb;replace BK317:=ybb BK317 hb;replace HB:=ybs hb;(try clear hb);obtain ⟨_,_,_,_,_,_,_,_⟩:=yc4 BK316)|((with_reducible refine gate_callee (f:=34) rfl ?_);refine ygl 25 Try.func34 #[.agg #[.int .u64 a0_0, .int .u32 a0_1, .slice A0_2 l0_2.length c0_2, .int .i64 a0_3], .int .i64 t327, .int .i64 (wrap64 (t327+1)), .int .i64 8] ?_;(with_reducible refine (coder_Take.calls k a0_0 a0_1 (fun k_=>(((P0_2_ k_∨w.heap.size≤k_)∧k_≠gb316)∧k_≠gb317)) _ _ l0_2 a0_3 t327 (wrap64 (t327+1)) 8 t329 t330 t331 t334 t335 _ HO0_2.out A18.out).mono ?_);rintro e w47 ⟨v332,rfl,ho0,hb⟩;refine ⟨_,rfl, ?_⟩;replace HO0_2:=yVb HO0_2 hb;have HO333:=yho (fun k_=>(P0_2_ k_∨w.heap.size≤k_)∧k_≠gb316∧k_≠gb317) ho0 (fun k_ hk_=>⟨Or.elim hk_ (fun hs_=>hs_.1.1) (fun hn_=>(.inr (Nat.le_trans (zE yhb) hn_))),yoB BK316 hk_,yoB BK317 hk_⟩);replace BK316:=ybb BK316 hb;replace BK317:=ybb BK317 hb;replace HB:=ybs hb;(try clear hb);(try clear ho0);obtain ⟨_,_,_,_,_,_,_,_⟩:=yc4 BK316;obtain ⟨Ao49,co49,eo49⟩:=Kd.V_slice HO333.out;subst eo49;obtain ⟨_,_,_,_,_,_,_,_⟩:=yc4 BK317))
   refine bodyPost_ret (results_ct rfl _ _ gb317 43 #[.int .u64 t329, .int .u32 t330, .slice Ao49 t331.length co49, .int .i64 t334] (0,0) _ rfl (ykp BK317) Try.underlying43 rfl (by kernel_rfl)) rfl ?_
   exact ⟨_,by first|rfl|(simp [errW_none,errW_some] <;> rfl)|(simp only [← hji39, ← hji40];first|rfl|(simp [errW_none,errW_some] <;> rfl))|(simp [*,errW_none,errW_some] <;> rfl),yV0 HO333,yhb⟩
end Go.Proofs.Ytkaoiblgfpphoaa.Prt
