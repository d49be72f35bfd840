-- Functions of the program and of the document as plain Lean, each with the proof that the code comes to it. Written by a program of this session (wip/tools/myprint.py, pack.py) over the kit's printer; Lean checks it.
import Derived.Test.YtnmbndkojpjkmaaZPackWritesPrt0
import Derived.Test.YtnmbndkojpjkmaaZPackWritesSh
import Derived.Test.YtnmbndkojpjkmaaZPackWritesWMore
import Derived.Laws.Rows
import Derived.Laws.Tables
import Derived.Deep.WholeRow
namespace Go.Proofs.Ytnmbndkojpjkmaa.Prt
open Go.RowKit Go.Proofs.YtnmbndkojpjkmaaW.PrintWords Go.Proofs.YtnmbndkojpjkmaaW.PrintLast Go.Proofs.YtnmbndkojpjkmaaW.PrintMore
attribute [local go_sem] max2_int min2_int max_two min_two max_three min_three max_four min_four   -- for this text's walks alone
set_option linter.unusedVariables false
set_option linter.unusedSimpArgs false


def alloc_Right.f (a0 : Int) (a1 : Int) : Option (Bool):=if a1=1 then (if a0 ≥ 11 then (some (decide (a0≤60))) else (some false)) else (if a1=2 then (if a0 ≥ 17 then (some (decide (a0≤60))) else (some false)) else (some false))
set_option maxHeartbeats 8000000 in
set_option maxRecDepth 100000 in
theorem alloc_Right.calls (a0 : Int) (a1 : Int) (r : Bool) (w : World) (h : alloc_Right.f a0 a1=some r) :
  Calls Try.prog 48 #[.int .i64 a0, .int .i64 a1] w fun e w' => e=.returned (.bool r)∧Drawn0 w w' := by
 have H : (if a1=1 then (if a0 ≥ 11 then (some (decide (a0≤60))) else (some false)) else (if a1=2 then (if a0 ≥ 17 then (some (decide (a0≤60))) else (some false)) else (some false)))=some r:=h
 clear h
 by_cases c3 : a1=1
 ·
  rw [if_pos c3] at H
  have c3b0 : (a1 == 1)=true:=beq_iff_eq.mpr c3
  have c3b1 : (a1 != 1)=false:=bne_eq_false_iff_eq.mpr c3
  clear c3
  by_cases c4 : a0 ≥ 11
  ·
   rw [if_pos c4] at H
   have c4b0 : decide (11≤a0)=true:=decide_eq_true c4
   clear c4
   obtain rfl:=Option.some.inj H
   go_enter Try.func48,Try.ntmps48
   go_wp2
   go_ret
   exact ⟨yq,yd⟩
  ·
   rw [if_neg c4] at H
   have c4b0 : decide (11≤a0)=false:=decide_eq_false c4
   clear c4
   obtain rfl:=Option.some.inj H
   go_enter Try.func48,Try.ntmps48
   go_wp2
   go_ret
   exact ⟨yq,yd⟩
 ·
  rw [if_neg c3] at H
  have c3b0 : (a1 == 1)=false:=beq_eq_false_iff_ne.mpr c3
  have c3b1 : (a1 != 1)=true:=bne_iff_ne.mpr c3
  by_cases c5 : a1=2
  ·
   rw [if_pos c5] at H
   have c5b0 : (a1 == 2)=true:=beq_iff_eq.mpr c5
   have c5b1 : (a1 != 2)=false:=bne_eq_false_iff_eq.mpr c5
   clear c5
   by_cases c6 : a0 ≥ 17
   ·
    rw [if_pos c6] at H
    have c6b0 : decide (17≤a0)=true:=decide_eq_true c6
    clear c6
    obtain rfl:=Option.some.inj H
    go_enter Try.func48,Try.ntmps48
    go_wp2
    go_ret
    exact ⟨yq,yd⟩
   ·
    rw [if_neg c6] at H
    have c6b0 : decide (17≤a0)=false:=decide_eq_false c6
    clear c6
    obtain rfl:=Option.some.inj H
    go_enter Try.func48,Try.ntmps48
    go_wp2
    go_ret
    exact ⟨yq,yd⟩
  ·
   rw [if_neg c5] at H
   have c5b0 : (a1 == 2)=false:=beq_eq_false_iff_ne.mpr c5
   have c5b1 : (a1 != 2)=true:=bne_iff_ne.mpr c5
   obtain rfl:=Option.some.inj H
   go_enter Try.func48,Try.ntmps48
   go_wp2
   go_ret
   exact ⟨yq,yd⟩
def gain_Most.f (a0 : Bool) : Option (Int):=if a0=true then (some 30) else (some 45)
set_option maxHeartbeats 8000000 in
set_option maxRecDepth 100000 in
theorem gain_Most.calls (a0 : Bool) (r : Int) (w : World) (h : gain_Most.f a0=some r) :
  Calls Try.prog 92 #[.bool a0] w fun e w' => e=.returned (.int .i64 r)∧Drawn0 w w' := by
 have H : (if a0=true then (some 30) else (some 45))=some r:=h
 clear h
 by_cases c2 : a0=true
 ·
  subst c2
  rw [if_pos rfl] at H
  obtain rfl:=Option.some.inj H
  go_enter Try.func92,Try.ntmps92
  go_wp2
  go_ret
  exact ⟨yq,yd⟩
 ·
  replace c2:=Bool.eq_false_iff.mpr c2
  subst c2
  rw [ynf] at H
  obtain rfl:=Option.some.inj H
  go_enter Try.func92,Try.ntmps92
  go_wp2
  go_ret
  exact ⟨yq,yd⟩
def alloc_Room.f (a0 : Int) (a1 : Int) : Option (Int):=(alloc_Right.f a0 a1).bind fun t108=>(if t108=true then ((gain_Most.f false).bind fun t109=>(if a1=0 then (none) else (some (wrap64 (Int.tdiv (wrap64 ((wrap64 ((wrap64 (8 * a0)) - 41)) - (wrap64 (t109 * a1)))) a1))))) else (some 0))
set_option maxHeartbeats 8000000 in
set_option maxRecDepth 100000 in
theorem alloc_Room.calls (a0 : Int) (a1 : Int) (r : Int) (w : World) (h : alloc_Room.f a0 a1=some r) :
  Calls Try.prog 68 #[.int .i64 a0, .int .i64 a1] w fun e w' => e=.returned (.int .i64 r)∧Drawn0 w w' := by
 have H : ((alloc_Right.f a0 a1).bind fun t108=>(if t108=true then ((gain_Most.f false).bind fun t109=>(if a1=0 then (none) else (some (wrap64 (Int.tdiv (wrap64 ((wrap64 ((wrap64 (8 * a0)) - 41)) - (wrap64 (t109 * a1)))) a1))))) else (some 0)))=some r:=h
 clear h
 obtain ⟨t108,A3,H⟩:=ybi H
 by_cases c4 : t108=true
 ·
  subst c4
  rw [if_pos rfl] at H
  obtain ⟨t109,A5,H⟩:=ybi H
  obtain ⟨c6,H⟩:=yie H
  have c6b0 : (a1 == 0)=false:=beq_eq_false_iff_ne.mpr c6
  have c6b1 : (a1 != 0)=true:=bne_iff_ne.mpr c6
  obtain rfl:=Option.some.inj H
  go_enter Try.func68,Try.ntmps68
  go_wp2_with (first|((with_reducible refine gate_callee (f:=48) rfl ?_);refine ygl 7 Try.func48 #[.int .i64 a0, .int .i64 a1] ?_;(with_reducible refine (alloc_Right.calls a0 a1 true _ A3.out).mono ?_);rintro e w' ⟨rfl,⟨nd,rfl⟩⟩;refine ⟨_,rfl, ?_⟩)|((with_reducible refine gate_callee (f:=92) rfl ?_);refine ygl 12 Try.func92 #[.bool false] ?_;(with_reducible refine (gain_Most.calls false t109 _ A5.out).mono ?_);rintro e w' ⟨rfl,⟨nd,rfl⟩⟩;refine ⟨_,rfl, ?_⟩))
  go_ret
  exact ⟨yq,yd⟩
 ·
  replace c4:=Bool.eq_false_iff.mpr c4
  subst c4
  rw [ynf] at H
  obtain rfl:=Option.some.inj H
  go_enter Try.func68,Try.ntmps68
  go_wp2_with (first|((with_reducible refine gate_callee (f:=48) rfl ?_);refine ygl 7 Try.func48 #[.int .i64 a0, .int .i64 a1] ?_;(with_reducible refine (alloc_Right.calls a0 a1 false _ A3.out).mono ?_);rintro e w' ⟨rfl,⟨nd,rfl⟩⟩;refine ⟨_,rfl, ?_⟩))
  go_ret
  exact ⟨yq,yd⟩
def band_there.f (a0 : Int) : Option (Bool):=if a0 ≥ 0 then (some (decide (a0 < 5))) else (some false)
set_option maxHeartbeats 8000000 in
set_option maxRecDepth 100000 in
theorem band_there.calls (a0 : Int) (r : Bool) (w : World) (h : band_there.f a0=some r) :
  Calls Try.prog 73 #[.int .i64 a0] w fun e w' => e=.returned (.bool r)∧Drawn0 w w' := by
 have H : (if a0 ≥ 0 then (some (decide (a0 < 5))) else (some false))=some r:=h
 clear h
 by_cases c2 : a0 ≥ 0
 ·
  rw [if_pos c2] at H
  have c2b0 : decide (0≤a0)=true:=decide_eq_true c2
  clear c2
  obtain rfl:=Option.some.inj H
  go_enter Try.func73,Try.ntmps73
  go_wp2
  go_ret
  exact ⟨yq,yd⟩
 ·
  rw [if_neg c2] at H
  have c2b0 : decide (0≤a0)=false:=decide_eq_false c2
  clear c2
  obtain rfl:=Option.some.inj H
  go_enter Try.func73,Try.ntmps73
  go_wp2
  go_ret
  exact ⟨yq,yd⟩
def band_From.f (a0 : Int) : Option (Int):=(band_there.f a0).bind fun t110=>(if t110=true then (if a0=0 then (some 0) else (if 0≤(wrap64 (a0 - 1)) then (some (shl .i64 1 (wrap64 (a0 - 1)))) else (none))) else (some 0))
set_option maxHeartbeats 8000000 in
set_option maxRecDepth 100000 in
theorem band_From.calls (a0 : Int) (r : Int) (w : World) (h : band_From.f a0=some r) :
  Calls Try.prog 74 #[.int .i64 a0] w fun e w' => e=.returned (.int .i64 r)∧Drawn0 w w' := by
 have H : ((band_there.f a0).bind fun t110=>(if t110=true then (if a0=0 then (some 0) else (if 0≤(wrap64 (a0 - 1)) then (some (shl .i64 1 (wrap64 (a0 - 1)))) else (none))) else (some 0)))=some r:=h
 clear h
 obtain ⟨t110,A2,H⟩:=ybi H
 by_cases c3 : t110=true
 ·
  subst c3
  rw [if_pos rfl] at H
  by_cases c4 : a0=0
  ·
   rw [if_pos c4] at H
   have c4b0 : (a0 == 0)=true:=beq_iff_eq.mpr c4
   have c4b1 : (a0 != 0)=false:=bne_eq_false_iff_eq.mpr c4
   clear c4
   obtain rfl:=Option.some.inj H
   go_enter Try.func74,Try.ntmps74
   go_wp2_with (first|((with_reducible refine gate_callee (f:=73) rfl ?_);refine ygl 4 Try.func73 #[.int .i64 a0] ?_;(with_reducible refine (band_there.calls a0 true _ A2.out).mono ?_);rintro e w' ⟨rfl,⟨nd,rfl⟩⟩;refine ⟨_,rfl, ?_⟩))
   go_ret
   exact ⟨yq,yd⟩
  ·
   rw [if_neg c4] at H
   have c4b0 : (a0 == 0)=false:=beq_eq_false_iff_ne.mpr c4
   have c4b1 : (a0 != 0)=true:=bne_iff_ne.mpr c4
   obtain ⟨ji5,hji5⟩ : ∃ j_ : Int,(wrap64 (a0 - 1))=j_:=⟨_,rfl⟩
   replace H : (if 0≤(ji5) then (some (shl .i64 1 (ji5))) else (none))=some r:=by first|(rw [hji5] at H;exact H)|(simp only [hji5] at H ⊢; exact H)
   (try rw [hji5] at A2)
   have hji5w : (IntKind.i64.wrap (a0 - 1))=ji5:=(i64_w _).trans hji5
   obtain ⟨c6,H⟩:=yif H
   have c6b0:=eq_true c6
   have c6b1 : decide (0≤(ji5))=true:=decide_eq_true c6
   clear c6
   obtain ⟨ji7,hji7⟩ : ∃ j_ : Int,(shl .i64 1 (ji5))=j_:=⟨_,rfl⟩
   replace H : (some ji7)=some r:=by first|(rw [hji7] at H;exact H)|(simp only [hji7] at H ⊢; exact H)
   (try rw [hji7] at A2)
   have hji7_ : (IntKind.i64.wrap (1 * 2 ^ min (ji5).toNat 64))=ji7:=hji7
   have hji7z : (ji5)≤64→(IntKind.i64.wrap (1 * 2 ^ (ji5).toNat))=ji7:=shl_small hji7
   have hji7u : (IntKind.i64.wrap (2 ^ min (ji5).toNat 64))=ji7:=by have h_:=hji7_;rw [Int.one_mul] at h_;exact h_
   have hji7v : (ji5)≤64→(IntKind.i64.wrap (2 ^ (ji5).toNat))=ji7:=fun hle_=>by have h_:=hji7z hle_;rw [Int.one_mul] at h_;exact h_
   have hji7y : (wrap64 (1 * 2 ^ min (ji5).toNat 64))=ji7:=(i64_w _).symm.trans hji7_
   have hji7x : (ji5)≤64→(wrap64 (1 * 2 ^ (ji5).toNat))=ji7:=fun h_=>(i64_w _).symm.trans (hji7z h_)
   obtain rfl:=Option.some.inj H
   go_enter Try.func74,Try.ntmps74
   go_wp2_with (first|((with_reducible refine gate_callee (f:=73) rfl ?_);refine ygl 4 Try.func73 #[.int .i64 a0] ?_;(with_reducible refine (band_there.calls a0 true _ A2.out).mono ?_);rintro e w' ⟨rfl,⟨nd,rfl⟩⟩;refine ⟨_,rfl, ?_⟩))
   go_ret
   exact ⟨by first|rfl|(simp;done)|(simp only [← hji5, ← hji7] <;> (first|rfl|simp))|(simp [*];done),yd⟩
 ·
  replace c3:=Bool.eq_false_iff.mpr c3
  subst c3
  rw [ynf] at H
  obtain rfl:=Option.some.inj H
  go_enter Try.func74,Try.ntmps74
  go_wp2_with (first|((with_reducible refine gate_callee (f:=73) rfl ?_);refine ygl 4 Try.func73 #[.int .i64 a0] ?_;(with_reducible refine (band_there.calls a0 false _ A2.out).mono ?_);rintro e w' ⟨rfl,⟨nd,rfl⟩⟩;refine ⟨_,rfl, ?_⟩))
  go_ret
  exact ⟨yq,yd⟩
def band_Width.f (a0 : Int) : Option (Int):=(band_there.f a0).bind fun t111=>(if t111=true then ((band_From.f a0).bind fun t112=>(some (mx 1 t112))) else (some 0))
set_option maxHeartbeats 8000000 in
set_option maxRecDepth 100000 in
theorem band_Width.calls (a0 : Int) (r : Int) (w : World) (h : band_Width.f a0=some r) :
  Calls Try.prog 32 #[.int .i64 a0] w fun e w' => e=.returned (.int .i64 r)∧Below w.heap.size w w' := by
 have HB:=zm (Below.refl w.heap.size w)
 have H : ((band_there.f a0).bind fun t111=>(if t111=true then ((band_From.f a0).bind fun t112=>(some (mx 1 t112))) else (some 0)))=some r:=h
 clear h
 obtain ⟨t111,A2,H⟩:=ybi H
 by_cases c3 : t111=true
 ·
  subst c3
  rw [if_pos rfl] at H
  obtain ⟨t112,A4,H⟩:=ybi H
  obtain ⟨ji5,hji5⟩ : ∃ j_ : Int,(mx 1 t112)=j_:=⟨_,rfl⟩
  replace H : (some ji5)=some r:=by first|(rw [hji5] at H;exact H)|(simp only [hji5] at H ⊢; exact H)
  (try rw [hji5] at A2)
  (try rw [hji5] at A4)
  (try (have hji5l : 1≤ji5:=by (rw [← hji5];unfold mx;(repeat' split) <;> omega)))
  (try (have hji5m : 0≤ji5:=by omega))
  have hji5_ : (if 1 < t112 then t112 else 1)=ji5:=hji5
  obtain rfl:=Option.some.inj H
  go_enter Try.func32,Try.ntmps32
  go_wp2_with (first|((with_reducible refine gate_callee (f:=73) rfl ?_);refine ygl 4 Try.func73 #[.int .i64 a0] ?_;(with_reducible refine (band_there.calls a0 true _ A2.out).mono ?_);rintro e w' ⟨rfl,⟨nd,rfl⟩⟩;refine ⟨_,rfl, ?_⟩)|((with_reducible refine gate_callee (f:=74) rfl ?_);refine ygl 7 Try.func74 #[.int .i64 a0] ?_;(with_reducible refine (band_From.calls a0 t112 _ A4.out).mono ?_);rintro e w' ⟨rfl,⟨nd,rfl⟩⟩;refine ⟨_,rfl, ?_⟩))
  go_ret
  exact ⟨by first|rfl|(simp [errW_none,errW_some] <;> rfl)|(simp only [← hji5];first|rfl|(simp [errW_none,errW_some] <;> rfl))|(simp [*,errW_none,errW_some] <;> rfl),yhb⟩
 ·
  replace c3:=Bool.eq_false_iff.mpr c3
  subst c3
  rw [ynf] at H
  obtain rfl:=Option.some.inj H
  go_enter Try.func32,Try.ntmps32
  go_wp2_with (first|((with_reducible refine gate_callee (f:=73) rfl ?_);refine ygl 4 Try.func73 #[.int .i64 a0] ?_;(with_reducible refine (band_there.calls a0 false _ A2.out).mono ?_);rintro e w' ⟨rfl,⟨nd,rfl⟩⟩;refine ⟨_,rfl, ?_⟩))
  go_ret
  exact ⟨ye,yhb⟩
def alloc_most.f (a0 : Int) : Option (Int):=(band_Width.f a0).bind fun t113=>(if t113=1 then (some 1) else (some 12))
set_option maxHeartbeats 8000000 in
set_option maxRecDepth 100000 in
theorem alloc_most.calls (a0 : Int) (r : Int) (w : World) (h : alloc_most.f a0=some r) :
  Calls Try.prog 69 #[.int .i64 a0] w fun e w' => e=.returned (.int .i64 r)∧Below w.heap.size w w' := by
 have HB:=zm (Below.refl w.heap.size w)
 have H : ((band_Width.f a0).bind fun t113=>(if t113=1 then (some 1) else (some 12)))=some r:=h
 clear h
 obtain ⟨t113,A2,H⟩:=ybi H
 by_cases c3 : t113=1
 ·
  rw [if_pos c3] at H
  have c3b0 : (t113 == 1)=true:=beq_iff_eq.mpr c3
  have c3b1 : (t113 != 1)=false:=bne_eq_false_iff_eq.mpr c3
  clear c3
  obtain rfl:=Option.some.inj H
  go_enter Try.func69,Try.ntmps69
  go_wp2_with (first|((with_reducible refine gate_callee (f:=32) rfl ?_);refine ygl 4 Try.func32 #[.int .i64 a0] ?_;(with_reducible refine (band_Width.calls a0 t113 _ A2.out).mono ?_);rintro e w4 ⟨rfl,hb⟩;refine ⟨_,rfl, ?_⟩;replace HB:=ybs hb;(try clear hb)))
  go_ret
  exact ⟨ye,yhb⟩
 ·
  rw [if_neg c3] at H
  have c3b0 : (t113 == 1)=false:=beq_eq_false_iff_ne.mpr c3
  have c3b1 : (t113 != 1)=true:=bne_iff_ne.mpr c3
  obtain rfl:=Option.some.inj H
  go_enter Try.func69,Try.ntmps69
  go_wp2_with (first|((with_reducible refine gate_callee (f:=32) rfl ?_);refine ygl 4 Try.func32 #[.int .i64 a0] ?_;(with_reducible refine (band_Width.calls a0 t113 _ A2.out).mono ?_);rintro e w5 ⟨rfl,hb⟩;refine ⟨_,rfl, ?_⟩;replace HB:=ybs hb;(try clear hb)))
  go_ret
  exact ⟨ye,yhb⟩
def comb_fair.f (a0 : Int) (a1 : Int) : Option (Bool):=if a0 ≥ 1 then (if a0≤16 then (if a1 ≥ 0 then (some (decide (a1≤12))) else (some false)) else (some false)) else (some false)
set_option maxHeartbeats 8000000 in
set_option maxRecDepth 100000 in
theorem comb_fair.calls (a0 : Int) (a1 : Int) (r : Bool) (w : World) (h : comb_fair.f a0 a1=some r) :
  Calls Try.prog 71 #[.int .i64 a0, .int .i64 a1] w fun e w' => e=.returned (.bool r)∧Drawn0 w w' := by
 have H : (if a0 ≥ 1 then (if a0≤16 then (if a1 ≥ 0 then (some (decide (a1≤12))) else (some false)) else (some false)) else (some false))=some r:=h
 clear h
 by_cases c3 : a0 ≥ 1
 ·
  rw [if_pos c3] at H
  have c3b0 : decide (1≤a0)=true:=decide_eq_true c3
  clear c3
  by_cases c4 : a0≤16
  ·
   rw [if_pos c4] at H
   have c4b0 : decide (a0≤16)=true:=decide_eq_true c4
   clear c4
   by_cases c5 : a1 ≥ 0
   ·
    rw [if_pos c5] at H
    have c5b0 : decide (0≤a1)=true:=decide_eq_true c5
    clear c5
    obtain rfl:=Option.some.inj H
    go_enter Try.func71,Try.ntmps71
    go_wp2
    go_ret
    exact ⟨yq,yd⟩
   ·
    rw [if_neg c5] at H
    have c5b0 : decide (0≤a1)=false:=decide_eq_false c5
    clear c5
    obtain rfl:=Option.some.inj H
    go_enter Try.func71,Try.ntmps71
    go_wp2
    go_ret
    exact ⟨yq,yd⟩
  ·
   rw [if_neg c4] at H
   have c4b0 : decide (a0≤16)=false:=decide_eq_false c4
   clear c4
   obtain rfl:=Option.some.inj H
   go_enter Try.func71,Try.ntmps71
   go_wp2
   go_ret
   exact ⟨yq,yd⟩
 ·
  rw [if_neg c3] at H
  have c3b0 : decide (1≤a0)=false:=decide_eq_false c3
  clear c3
  obtain rfl:=Option.some.inj H
  go_enter Try.func71,Try.ntmps71
  go_wp2
  go_ret
  exact ⟨yq,yd⟩
end Go.Proofs.Ytnmbndkojpjkmaa.Prt

namespace Go.Proofs.Ytnmbndkojpjkmaa.Prt
open Go Go.RowKit Go.Proofs.YtnmbndkojpjkmaaW.PrintWords Go.Proofs.YtnmbndkojpjkmaaW.PrintLast Go.Proofs.YtnmbndkojpjkmaaW.PrintMore
set_option linter.unusedVariables false
set_option linter.unusedSimpArgs false


set_option maxRecDepth 20000 in
theorem comb_table.zeroes : ∃ Z : Array Value,(∀ W,(zeroValue 118).run Try.prog W=.ok (.agg Z) W)∧Z.toList=encs (Value.int .u64) (List.replicate 221 0):=⟨_,fun _=>rfl,by rfl⟩
/-- A block of numbers, as its cells. -/
def ABl (xs : List Int) : Array Value:=(encs (Value.int .u64) xs).toArray
theorem ABl_get {xs : List Int} {i : Nat} (h : i < xs.length) : (ABl xs)[i]? = some (.int .u64 (xs.getD i 0)):=by
 unfold ABl
 rw [List.getElem?_toArray]
 exact encs_get xs i h
theorem ABl_set (xs : List Int) (i : Nat) (v : Int) : (ABl xs).setIfInBounds i (.int .u64 v)=ABl (xs.set i v):=by
 unfold ABl encs
 rw [List.setIfInBounds_toArray,List.map_set]
theorem ABl_size (xs : List Int) : (ABl xs).size=xs.length:=by
 unfold ABl
 rw [List.size_toArray,encs_length]
theorem ABl_one (xs : List Int) : (ABl xs).all (·.oneCell')=true:=by
 rw [Array.all_eq_true_iff_forall_mem]
 intro v hv
 unfold ABl encs at hv
 rw [List.mem_toArray,List.mem_map] at hv
 obtain ⟨n,_,rfl⟩:=hv
 rfl
section
variable {P : Program}
/-- A whole array is stored, cell by cell. -/
theorem storeCells_row (w : World) (g : Nat) (t ty : TypeId) (old cells : Array Value) (hg : w.heap[g]? = some (.cells old t (0,0))) (hi : (P.info? ty).map (·.size)=some cells.size) (ho : old.size=cells.size) (h1 : cells.all (·.oneCell')=true) :
  (storeCells ⟨g,0,none⟩ cells.toList 0).run P w=.ok () (w.setRow g cells):=by
 have h:=run_storeVar_row (P:=P) w g t ty old cells hg hi ho h1
 cases hq : P.info? ty with
 | none=>simp [hq] at hi
 | some i =>
  have hs : cells.size=i.size:=by
   simp [hq] at hi
   omega
  simpa [storeVar,sizeOf,typeInfo,hq,Value.cells,hs] using h
end
theorem below_row {w0 w : World} {B g : Nat} (h : Below B w0 w) (hg : B≤g) (cs : Array Value) : Below B w0 (w.setRow g cs):=⟨h.os,h.tape,h.output,by rw [setRow_size];exact h.size,fun k hk=>(setRow_other _ _ _ _ (by omega)).trans (h.block k hk)⟩
namespace comb_table
def new (xs : List Int) (n k : Nat) : Int:=IntKind.u64.wrap (IntKind.u64.wrap (xs.getD ((n-1)*13+k) 0+xs.getD (n*13+(k-1)) 0)+xs.getD ((n-1)*13+(k-1)) 0)
/-- Row n made up to place k. -/
def U (xs : List Int) (n : Nat) : Nat→List Int
 | 0=>xs.set (n*13) 1
 | k+1=>(U xs n k).set (n*13+(k+1)) (new (U xs n k) n (k+1))
/-- The rows up to n made. -/
def T : Nat→List Int
 | 0=>(List.replicate 221 0).set 0 1
 | n+1=>U (T n) (n+1) 12
theorem U_len (xs : List Int) (n : Nat) : ∀ k,(U xs n k).length=xs.length
 | 0=>by rw [U,List.length_set]
 | k+1=>by rw [U,List.length_set,U_len xs n k]
theorem T_len : ∀ n,(T n).length=221
 | 0=>by rw [T,List.length_set,List.length_replicate]
 | n+1=>by rw [T,U_len,T_len n]
theorem size16 : (Try.prog.info? 118).map (·.size)=some (ABl (T 16)).size:=by
 rw [ABl_size,T_len]
 kernel_rfl
def T10 : Bool × List (List Nat × List Nat):=(true, [([], []),([], []),([], []),([2], [2]),([], []),([3], [3]),([5,4], [4,5]),([6], [6]),([], []),([], []),([9], [9]),([8], [8]),([11,10], [10,11]),([12], [12]),([7,13], [7,13]),([], []),([15], [15]),([], []),([17], [17]),([16], [16]),([19,18], [18,19]),([20], [20]),([14,21], [14,21]),([0], [0]),([23,1,0,1,2,3,4,5,6,7,8,9,10,11,12,13,14,15,16,17,18,19,20,21,22], [1,23]),([24,22,0,1,2,3,4,5,6,7,8,9,10,11,12,13,14,15,16,17,18,19,20,21,22], [22,24])])
def B10 : List Nat := [0,0,0,4,0,12,60,124,0,0,512,256,3840,7936,16380,0,32768,0,131072,98304,1015808,2064384,4194300,1,16777215,33554431]
theorem tab10 : rtab .any (opsOf Try.f72 10)=T10:=by kernel_rfl
theorem bits10 : waitsOk T10.2 B10=true:=by kernel_rfl
end comb_table
set_option maxHeartbeats 8000000 in
set_option maxRecDepth 100000 in
theorem comb_table.made (w : World) : Calls Try.prog 72 #[] w fun e w' => e=.returned (.agg (ABl (comb_table.T 16)))∧Below w.heap.size w w' := by
 obtain ⟨Z,hz,hZ⟩:=comb_table.zeroes
 have hZ' : Aside0 (Z=ABl (List.replicate 221 0)):=⟨by
  unfold ABl
  rw [← hZ]⟩
 clear hZ
 have hb2 : ((w.alloc (.cells Z 118)).alloc (.cells Z 118)).heap[w.heap.size+1]? = some (.cells Z 118 (0,0)):=by
  have:=blk_new (w.alloc (.cells Z 118)) (.cells Z 118)
  simpa using this
 have hc1 : ((w.alloc (.cells Z 118)).alloc (.cells Z 118)).cell? ⟨w.heap.size+1,0,none⟩=some (.int .u64 0):=by
  rw [zs hb2 0,hZ'.out,ABl_get (by rw [List.length_replicate];decide)]
  rfl
 have hf1 : ((w.alloc (.cells Z 118)).alloc (.cells Z 118)).frozen? ⟨w.heap.size+1,0,none⟩=false:=zx hb2 0
 have hb1 : (((w.alloc (.cells Z 118)).alloc (.cells (Z.setIfInBounds 0 (.int .u64 1)) 118))).heap[w.heap.size+1]? = some (.cells (ABl (comb_table.T 0)) 118 (0,0)):=by
  have h0 : Z.setIfInBounds 0 (.int .u64 1)=ABl (comb_table.T 0):=by
   rw [hZ'.out,ABl_set]
   rfl
  have e1 : (w.alloc (.cells Z 118)).heap.size=w.heap.size+1:=by simp
  have h1:=blk_new (w.alloc (.cells Z 118)) (.cells (ABl (comb_table.T 0)) 118)
  rw [e1] at h1
  rw [h0]
  exact h1
 have hb0 : (((w.alloc (.cells Z 118)).alloc (.cells (Z.setIfInBounds 0 (.int .u64 1)) 118))).heap[w.heap.size]? = some (.cells Z 118 (0,0)):=zi (blk_new w _) _
 have HB : Aside0 (Below w.heap.size w ((w.alloc (.cells Z 118)).alloc (.cells (Z.setIfInBounds 0 (.int .u64 1)) 118))):=⟨ze (ze (Below.refl _ _) _) _⟩
 clear hb2
 go_enter Try.func72,Try.ntmps72
 go_wp2
 clear hc1 hf1
 generalize ((w.alloc (.cells Z 118)).alloc (.cells (Z.setIfInBounds 0 (.int .u64 1)) 118))=W1 at hb1 hb0 HB ⊢
 have HC:=zm hb1;have HZ0:=zm hb0;clear hb1 hb0
 go_loopg [2] 16 (fun kq v2 w' => ∃ (n : Nat) (x : Int),v2=.int .i64 x∧Aside0 (x=((n+1 : Nat) : Int))∧Aside0 (n+kq=16)∧Aside0 (w'.heap[w.heap.size+1]? = some (.cells (ABl (comb_table.T n)) 118 (0,0)))∧Aside0 (w'.heap[w.heap.size]? = some (.cells Z 118 (0,0)))∧Aside0 (Below w.heap.size w w'))
 case atStart=>exact ⟨0,1,rfl,⟨rfl⟩,⟨rfl⟩,HC,HZ0,HB⟩
 case round =>
  clear HC HZ0 HB
  obtain ⟨n,x,rfl,HX,HN,HC,HZ0,HB⟩:=hrel
  by_cases c9 : x≤16
  ·
   have c9b0 : decide (x≤16)=true:=decide_eq_true c9
   have hx0 : (0≤x)=True:=eq_true (by have:=HX.out;omega)
   have hx1 : (x < 17)=True:=eq_true (by omega)
   have hxn : x.toNat=n+1:=by have:=HX.out;omega
   obtain ⟨n',rfl⟩ : ∃ q,gk=q+1:=⟨gk - 1,by have:=HN.out;have:=HX.out;omega⟩
   have hn15 : n < 16:=by have:=HX.out;omega
   have hcl : wr.cell? ⟨w.heap.size+1,x.toNat * 13,none⟩=some (.int .u64 ((comb_table.T n).getD (x.toNat * 13) 0)):=by
    rw [zs HC.out,ABl_get (by rw [comb_table.T_len];omega)]
   have hfr : wr.frozen? ⟨w.heap.size+1,x.toNat * 13,none⟩=false:=zx HC.out _
   have HXN:=zm hxn;have HN15:=zm hn15;clear c9 hxn hn15
   go_wp2
   have n1_ : Aside0 ((wr.setCell ⟨w.heap.size+1,x.toNat * 13,none⟩ (.int .u64 1)).heap[w.heap.size+1]? = some (.cells (ABl (comb_table.U (comb_table.T n) (n+1) 0)) 118 (0,0))):=⟨by
    have h1:=blk_set HC.out (x.toNat * 13) (.int .u64 1)
    rw [ABl_set,HXN.out] at h1
    rw [HXN.out]
    exact h1⟩
   have n2_ : Aside0 ((wr.setCell ⟨w.heap.size+1,x.toNat * 13,none⟩ (.int .u64 1)).heap[w.heap.size]? = some (.cells Z 118 (0,0))):=⟨zv HZ0.out (by simp) _⟩
   have n3_ : Aside0 (Below w.heap.size w (wr.setCell ⟨w.heap.size+1,x.toNat * 13,none⟩ (.int .u64 1))):=⟨zk HB.out (by omega)⟩
   clear HC HZ0 HB hcl hfr
   generalize (wr.setCell ⟨w.heap.size+1,x.toNat * 13,none⟩ (.int .u64 1))=W2 at n1_ n2_ n3_ ⊢
   go_loopg [3] 12 (fun kq v3 w' => ∃ (j : Nat) (y : Int),v3=.int .i64 y∧Aside0 (y=((j+1 : Nat) : Int))∧Aside0 (j+kq=12)∧Aside0 (w'.heap[w.heap.size+1]? = some (.cells (ABl (comb_table.U (comb_table.T n) (n+1) j)) 118 (0,0)))∧Aside0 (w'.heap[w.heap.size]? = some (.cells Z 118 (0,0)))∧Aside0 (Below w.heap.size w w'))
   case atStart=>exact ⟨0,1,rfl,⟨rfl⟩,⟨rfl⟩,n1_,n2_,n3_⟩
   case round =>
    clear n1_ n2_ n3_
    obtain ⟨j,y,rfl,HY,HJ,HC,HZ0,HB⟩:=hrel
    by_cases c16 : y≤12
    ·
     have c16b0 : decide (y≤12)=true:=decide_eq_true c16
     have hy0 : (0≤y)=True:=eq_true (by have:=HY.out;omega)
     have hy1 : (y < 13)=True:=eq_true (by omega)
     have hyn : y.toNat=j+1:=by have:=HY.out;omega
     have hj11 : j < 12:=by have:=HY.out;omega
     obtain ⟨j',rfl⟩ : ∃ q,gk=q+1:=⟨gk - 1,by have:=HJ.out;omega⟩
     obtain ⟨xm,hxm⟩ : ∃ j_ : Int,wrap64 (x - 1)=j_:=⟨_,rfl⟩
     have hxmw : (IntKind.i64.wrap (x - 1))=xm:=(i64_w _).trans hxm
     obtain ⟨ym,hym⟩ : ∃ j_ : Int,wrap64 (y - 1)=j_:=⟨_,rfl⟩
     have hymw : (IntKind.i64.wrap (y - 1))=ym:=(i64_w _).trans hym
     have hxe : xm=(n : Int):=by rw [← hxm];have:=HX.out;have:=HN15.out;unfold wrap64;omega
     have hye : ym=(j : Int):=by rw [← hym];have:=HY.out;unfold wrap64;omega
     have hxm0 : (0≤xm)=True:=eq_true (by omega)
     have hxm1 : (xm < 17)=True:=eq_true (by have:=HN15.out;omega)
     have hym0 : (0≤ym)=True:=eq_true (by omega)
     have hym1 : (ym < 13)=True:=eq_true (by omega)
     have hxmn : xm.toNat=n:=by omega
     have hymn : ym.toNat=j:=by omega
     have HJ11:=zm hj11;have HYN:=zm hyn;have HXM:=zm hxmn;have HYM:=zm hymn
     obtain ⟨X,hXd⟩ : ∃ X,X=comb_table.U (comb_table.T n) (n+1) j:=⟨_,rfl⟩
     have hXl : X.length=221:=by rw [hXd,comb_table.U_len,comb_table.T_len]
     rw [← hXd] at HC
     have HXD:=zm hXd;have HXL:=zm hXl;clear hXd hXl c16 hyn hj11 hxmn hymn hxe hye hxm hym
     try go_wp2
     have n1_:=zm (zj HC.out);have n2_:=zm (zj HZ0.out);have n3_:=zm (zf HB.out);clear HC HZ0 HB;have HC:=n1_;have HZ0:=n2_;have HB:=n3_;clear n1_ n2_ n3_
     obtain ⟨va,hva⟩ : ∃ v_,v_=X.getD (xm.toNat * 13+y.toNat) 0:=⟨_,rfl⟩
     obtain ⟨vb,hvb⟩ : ∃ v_,v_=X.getD (x.toNat * 13+ym.toNat) 0:=⟨_,rfl⟩
     obtain ⟨vc,hvc⟩ : ∃ v_,v_=X.getD (xm.toNat * 13+ym.toNat) 0:=⟨_,rfl⟩
     have HVA:=zm hva;have HVB:=zm hvb;have HVC:=zm hvc;clear hva hvb hvc
     have hx1 : wr.drew.cell? ⟨w.heap.size+1,xm.toNat * 13+y.toNat,none⟩=some (.int .u64 va):=by
      rw [zs HC.out,HVA.out,ABl_get (by have:=HXL.out;have:=HXM.out;have:=HYN.out;have:=HN15.out;have:=HJ11.out;omega)]
     have hx2 : wr.drew.cell? ⟨w.heap.size+1,x.toNat * 13+ym.toNat,none⟩=some (.int .u64 vb):=by
      rw [zs HC.out,HVB.out,ABl_get (by have:=HXL.out;have:=HXN.out;have:=HYM.out;have:=HN15.out;have:=HJ11.out;omega)]
     have hx3 : wr.drew.cell? ⟨w.heap.size+1,xm.toNat * 13+ym.toNat,none⟩=some (.int .u64 vc):=by
      rw [zs HC.out,HVC.out,ABl_get (by have:=HXL.out;have:=HXM.out;have:=HYM.out;have:=HN15.out;have:=HJ11.out;omega)]
     have hx4 : wr.drew.cell? ⟨w.heap.size+1,x.toNat * 13+y.toNat,none⟩=some (.int .u64 (X.getD (x.toNat * 13+y.toNat) 0)):=by
      rw [zs HC.out,ABl_get (by have:=HXL.out;have:=HXN.out;have:=HYN.out;have:=HN15.out;have:=HJ11.out;omega)]
     have hf4 : wr.drew.frozen? ⟨w.heap.size+1,x.toNat * 13+y.toNat,none⟩=false:=zx HC.out _
     refine yst (fun w' => w'.cell? ⟨w.heap.size+1,xm.toNat * 13+y.toNat,none⟩=some (.int .u64 va)∧w'.cell? ⟨w.heap.size+1,x.toNat * 13+ym.toNat,none⟩=some (.int .u64 vb)∧w'.cell? ⟨w.heap.size+1,xm.toNat * 13+ym.toNat,none⟩=some (.int .u64 vc)) [25] 26 comb_table.tab10 comb_table.bits10 (fun hHeld HT_ HW_ => ?_) (hS:=⟨hx1,hx2,hx3⟩)
     generalize wr.drew=w30 at HC HZ0 HB hx1 hx2 hx3 hx4 hf4 hHeld ⊢
     refine yp 0 17 HT_ ?_
     refine yp 1 18 HT_ ?_
     refine yp 2 19 HT_ ?_
     refine yp 3 20 HT_ ?_
     refine yp 4 21 HT_ ?_
     refine yp 5 22 HT_ ?_
     refine yp 6 23 HT_ ?_
     refine yp 8 25 HT_ ?_
     refine yp 9 26 HT_ ?_
     refine yp 10 27 HT_ ?_
     refine yp 11 28 HT_ ?_
     refine yp 12 29 HT_ ?_
     refine yp 15 32 HT_ ?_
     refine yp 16 33 HT_ ?_
     refine yp 17 34 HT_ ?_
     refine yp 18 35 HT_ ?_
     refine yp 19 36 HT_ ?_
     refine yp 20 37 HT_ ?_
     refine yp 23 40 HT_ ?_
     refine yl 7 24 HT_ HW_ hHeld ?_
     refine yl 13 30 HT_ HW_ hHeld ?_
     refine yp 14 31 HT_ ?_
     refine yl 21 38 HT_ HW_ hHeld ?_
     refine yp 22 39 HT_ ?_
     refine yp 24 41 HT_ ?_
     refine last_ (i:=25) (N:=none) #[true,true,true,true,true,true,true,true,true,true,true,true,true,true,true,true,true,true,true,true,true,true,true,true,true,true] rfl rfl (one_of HT_.out (by kernel_rfl)) (by decide) (fun K hK => ?_)
     refine skip_ (w1 := ?_) (by rfl) rfl ?_ ?_
     rotate_left
     ·
      go_simp
      rfl
     refine hK.out _ _ ?_
     clear hK K
     refine done_ (done_of HT_.out (by kernel_rfl)) ?_
     try go_wp2
     go_roundg j'
     case measure=>omega
     case rel=>exact ⟨j+1,_,rfl,⟨by have:=HY.out;have:=HJ11.out;unfold wrap64;omega⟩,⟨yom1 HJ⟩,⟨by
      have h1:=blk_set HC.out (x.toNat * 13+y.toNat) (.int .u64 (comb_table.new X (n+1) (j+1)))
      rw [ABl_set] at h1
      have h2 : X.set (x.toNat * 13+y.toNat) (comb_table.new X (n+1) (j+1))=comb_table.U (comb_table.T n) (n+1) (j+1):=by
       rw [HXN.out,HYN.out,HXD.out]
       rfl
      have h3 : comb_table.new X (n+1) (j+1)=IntKind.u64.wrap (IntKind.u64.wrap (va+vb)+vc):=by
       rw [HVA.out,HVB.out,HVC.out,HXN.out,HYN.out,HXM.out,HYM.out]
       rfl
      rw [h2,h3] at h1
      exact h1⟩,⟨zv HZ0.out (by simp) _⟩,⟨zk HB.out (by omega)⟩⟩
    ·
     have c16b0 : decide (y≤12)=false:=decide_eq_false c16
     have hj12 : j=12:=by have:=HY.out;have:=HJ.out;omega
     have HJ12:=zm hj12;clear c16 hj12
     go_wp2
     go_roundg n'
     case measure=>omega
     case rel=>exact ⟨n+1,_,rfl,⟨by have:=HX.out;have:=HN15.out;unfold wrap64;omega⟩,⟨yom1 HN⟩,⟨by rw [HC.out,HJ12.out];rfl⟩,HZ0,HB⟩
  ·
   have c9b0 : decide (x≤16)=false:=decide_eq_false c9
   have hn16 : n=16:=by have:=HX.out;have:=HN.out;omega
   have HN16:=zm hn16;clear c9 hn16
   have HC16 : wr.heap[w.heap.size+1]? = some (.cells (ABl (comb_table.T 16)) 118 (0,0)):=by
    rw [← HN16.out]
    exact HC.out
   have HF:=zm HC16;clear HC16 HC
   go_wp2
   refine wp_load_row 118 (.tmp 1) rfl (w.heap.size+1) rfl 118 _ (0,0) (.array 17 116) HF.out Try.underlying118 rfl comb_table.size16 ?_
   have hst:=storeCells_row (P:=Try.prog) wr w.heap.size 118 118 Z (ABl (comb_table.T 16)) HZ0.out comb_table.size16 (by rw [hZ'.out,ABl_size,ABl_size,comb_table.T_len,List.length_replicate]) (ABl_one _)
   go_wp2
   (try simp only [Exit.inBlock,Exit.then])
   refine bodyPost_ret (results_cell_row rfl _ _ w.heap.size 118 (ABl (comb_table.T 16)) (0,0) (.array 17 116) rfl (setRow_heap _ _ _ _ _ _ HZ0.out) Try.underlying118 rfl comb_table.size16) rfl ?_
   exact ⟨rfl,below_row HB.out (Nat.le_refl _) _⟩

/-- What place k of row n holds. -/
def comb_table.f (a0 a1 : Int) : Option Int:=if 0≤a0 then (if a0 < 17 then (if 0≤a1 then (if a1 < 13 then some ((comb_table.T 16).getD (a0.toNat * 13+a1.toNat) 0) else none) else none) else none) else none
theorem comb_table.parts {n k t : Int} (h : comb_table.f n k=some t) : 0≤n∧n < 17∧0≤k∧k < 13∧t=(comb_table.T 16).getD (n.toNat * 13+k.toNat) 0:=by
 unfold comb_table.f at h
 split at h
 ·
  split at h
  ·
   split at h
   ·
    split at h
    ·
     exact ⟨by assumption,by assumption,by assumption,by assumption,(Option.some.inj h).symm⟩
    ·
     exact absurd h (by simp)
   ·
    exact absurd h (by simp)
  ·
   exact absurd h (by simp)
 ·
  exact absurd h (by simp)
theorem comb_table.inn {n k t : Int} (h : comb_table.f n k=some t) : ((0≤n)=True)∧((n < 17)=True)∧((0≤k)=True)∧((k < 13)=True):=by
 obtain ⟨h0,h1,h2,h3,_⟩:=comb_table.parts h
 exact ⟨eq_true h0,eq_true h1,eq_true h2,eq_true h3⟩
theorem comb_table.look {W : World} {g : Nat} (hg : W.heap[g]? = some (.cells (ABl (comb_table.T 16)) 118 (0,0))) {n k t : Int} (h : comb_table.f n k=some t) : W.cell? ⟨g,n.toNat * 13+k.toNat,none⟩=some (.int .u64 t):=by
 obtain ⟨h0,h1,h2,h3,ht⟩:=comb_table.parts h
 rw [ht,zs hg,ABl_get (by rw [comb_table.T_len];omega)]
set_option maxRecDepth 100000 in
theorem comb_table.zsize : ∃ Z : Array Value,(∀ W,(zeroValue 118).run Try.prog W=.ok (.agg Z) W)∧Aside0 (Z.size=(ABl (comb_table.T 16)).size):=by
 obtain ⟨Z,hz,hZ⟩:=comb_table.zeroes
 refine ⟨Z,hz,⟨?_⟩⟩
 have h:=congrArg List.length hZ
 rw [Array.length_toList,encs_length,List.length_replicate] at h
 exact h.trans (by rw [ABl_size,comb_table.T_len])
end Go.Proofs.Ytnmbndkojpjkmaa.Prt

namespace Go.Proofs.Ytnmbndkojpjkmaa.Prt
open Go.RowKit Go.Proofs.YtnmbndkojpjkmaaW.PrintWords Go.Proofs.YtnmbndkojpjkmaaW.PrintLast Go.Proofs.YtnmbndkojpjkmaaW.PrintMore
attribute [local go_sem] max2_int min2_int max_two min_two max_three min_three max_four min_four   -- for this text's walks alone
set_option linter.unusedVariables false
set_option linter.unusedSimpArgs false


def comb_Count.f (a0 : Int) (a1 : Int) : Option (Int × Int):=(comb_fair.f a0 a1).bind fun t114=>(if t114=true then ((comb_table.f a0 a1).bind fun t118=>(some (t118,0))) else (some (0,1)))
set_option maxHeartbeats 8000000 in
set_option maxRecDepth 100000 in
theorem comb_Count.calls (a0 : Int) (a1 : Int) (r1 : Int) (r2 : Int) (w : World) (h : comb_Count.f a0 a1=some (r1,r2)) :
  Calls Try.prog 31 #[.int .i64 a0, .int .i64 a1] w fun e w' => e=.returned (.tuple #[.int .u64 r1, .int .i64 r2])∧Below w.heap.size w w' := by
 have HB:=zm (Below.refl w.heap.size w)
 have H : ((comb_fair.f a0 a1).bind fun t114=>(if t114=true then ((comb_table.f a0 a1).bind fun t118=>(some (t118,0))) else (some (0,1))))=some (r1,r2):=h
 clear h
 obtain ⟨t114,A3,H⟩:=ybi H
 by_cases c4 : t114=true
 ·
  subst c4
  rw [if_pos rfl] at H
  obtain ⟨y115,hy115⟩ : ∃ y_ : List Int,y_=(([0] : List Int)):=⟨_,rfl⟩
  replace H : ((comb_table.f a0 a1).bind fun t118=>(some (t118,0)))=some (r1,r2):=yrw hy115 H
  have Ny115:=zm hy115;clear hy115
  obtain ⟨t118,A5,H⟩:=ybi H
  simp only [Option.some.injEq,Prod.mk.injEq] at H
  obtain ⟨rfl,rfl⟩:=H
  go_enter Try.func31,Try.ntmps31
  obtain ⟨Z,hz,HZs⟩:=comb_table.zsize
  obtain ⟨ia0,ib0,ic0,id0⟩:=comb_table.inn A5.out
  go_wp2_with (first|((with_reducible refine gate_callee (f:=71) rfl ?_);refine ygl 9 Try.func71 #[.int .i64 a0, .int .i64 a1] ?_;(with_reducible refine (comb_fair.calls a0 a1 true _ A3.out).mono ?_);rintro e w' ⟨rfl,⟨nd,rfl⟩⟩;refine ⟨_,rfl, ?_⟩)|((with_reducible refine gate_callee (f:=72) rfl ?_);refine goesL_ (some 11) rfl rfl Try.func72 (by kernel_rfl) rfl #[] rfl (by first|rfl|simp) ?_;(with_reducible refine (comb_table.made _).mono ?_);rintro e w5 ⟨rfl,hb5⟩;refine ⟨_,rfl, ?_⟩;have hst:=run_storeCells_new (P:=Try.prog) w5 118 Z (ABl (comb_table.T 16)) comb_table.size16 HZs.out (ABl_one _);have n1_:=zm (ze (zJ yhb hb5) (.cells (ABl (comb_table.T 16)) 118));clear HB;have HB:=n1_;clear n1_;have hbn:=zm (blk_new w5 (.cells (ABl (comb_table.T 16)) 118));have hcl0:=comb_table.look hbn.out A5.out))
  go_ret2
  exact ⟨ye,yhb⟩
 ·
  replace c4:=Bool.eq_false_iff.mpr c4
  subst c4
  rw [ynf] at H
  simp only [Option.some.injEq,Prod.mk.injEq] at H
  obtain ⟨rfl,rfl⟩:=H
  go_enter Try.func31,Try.ntmps31
  go_wp2_with (first|((with_reducible refine gate_callee (f:=71) rfl ?_);refine ygl 9 Try.func71 #[.int .i64 a0, .int .i64 a1] ?_;(with_reducible refine (comb_fair.calls a0 a1 false _ A3.out).mono ?_);rintro e w' ⟨rfl,⟨nd,rfl⟩⟩;refine ⟨_,rfl, ?_⟩))
  go_ret2
  exact ⟨ye,yhb⟩
def comb_width.l0 : Nat→Int→Int→Option (Int)
 | 0,_,_=>none
 | k+1,x0,x3=>if x0 > 0 then (comb_width.l0 k (x0 / 2) (wrap64 (x3+1))) else (some x3)
def comb_width.f (k : Nat) (a0 : Int) : Option (Int):=comb_width.l0 k a0 0
theorem comb_width.mono_l : ∀ k,(∀ y0 y1,LeO (comb_width.l0 k y0 y1) (comb_width.l0 (k+1) y0 y1))
 | 0=>fun _ _ r h=>by simp [comb_width.l0] at h
 | k+1=>by
  have ih0:=comb_width.mono_l k
  ·
   intro y0 y1
   unfold comb_width.l0
   repeat' with_reducible first|apply ih0|apply yLr|apply yLn|apply yLi|apply yLb|intro _
theorem comb_width.mono : ∀ a0 k,LeO (comb_width.f k a0) (comb_width.f (k+1) a0):=by
 intro a0 k
 have ih0:=comb_width.mono_l k
 unfold comb_width.f
 repeat' with_reducible first|apply ih0|apply yLr|apply yLn|apply yLi|apply yLb|intro _
set_option maxHeartbeats 8000000 in
set_option maxRecDepth 100000 in
theorem comb_width.calls (k : Nat) (a0 : Int) (r : Int) (w : World) (h : comb_width.f k a0=some r) :
  Calls Try.prog 100 #[.int .u64 a0] w fun e w' => e=.returned (.int .i64 r)∧Drawn0 w w' := by
 have H : (comb_width.l0 k a0 0)=some r:=h
 clear h
 have H' := zm H
 clear H
 go_enter Try.func100,Try.ntmps100
 go_wp2
 go_loopg [0,3] k (fun kq v0 v3 w' => ∃ (x0_1 : Int) (x3_1 : Int),v0=.int .u64 x0_1∧v3=.int .i64 x3_1∧Aside0 (comb_width.l0 kq x0_1 x3_1=some r)∧Aside0 (kq≤k)∧Drawn0 w w')
 case atStart=>exact ⟨(a0),(0),yq,yq,H',⟨Nat.le_refl _⟩,yd⟩
 case round =>
  clear H'
  obtain ⟨x0_1,x3_1,rfl,rfl,HA,HK1,⟨m1,rfl⟩⟩:=hrel
  obtain ⟨k1,rfl⟩:=ysu gk (fun h=>by subst h;exact absurd HA.out (by simp [comb_width.l0]))
  have H:=HA.out;clear HA
  simp only [comb_width.l0] at H
  by_cases c2 : x0_1 > 0
  ·
   rw [if_pos c2] at H
   have c2b0 : decide (0 < x0_1)=true:=decide_eq_true c2
   clear c2
   have H' := zm H
   clear H
   go_wp2
   go_roundg k1
   case measure=>exact yom1 HK1
   case rel=>exact ⟨(x0_1 / 2),(wrap64 (x3_1+1)),yq,yq,H',⟨yom1 HK1⟩,yd⟩
  ·
   rw [if_neg c2] at H
   have c2b0 : decide (0 < x0_1)=false:=decide_eq_false c2
   clear c2
   obtain rfl:=Option.some.inj H
   go_wp2
   go_ret
   exact ⟨yq,yd⟩
def comb_Cost.f (k : Nat) (a0 : Int) (a1 : Int) : Option (Int × Int):=(comb_Count.f a0 a1).bind fun bt119=>(if bt119.2=0 then (if (IntKind.u64.wrap (bt119.1 - 1)) < 65536 then ((comb_width.f k (IntKind.u64.wrap (bt119.1 - 1))).bind fun t121=>(some (t121,0))) else ((comb_width.f k ((IntKind.u64.wrap (bt119.1 - 1)) / 65536)).bind fun t122=>(some (wrap64 (t122+16),0)))) else (some (0,bt119.2)))
theorem comb_Cost.mono : ∀ a0 a1 k,LeO (comb_Cost.f k a0 a1) (comb_Cost.f (k+1) a0 a1):=by
 intro a0 a1 k
 unfold comb_Cost.f
 repeat' with_reducible first|apply comb_width.mono|apply yLr|apply yLn|apply yLi|apply yLb|intro _
set_option maxHeartbeats 8000000 in
set_option maxRecDepth 100000 in
theorem comb_Cost.calls (k : Nat) (a0 : Int) (a1 : Int) (r1 : Int) (r2 : Int) (w : World) (h : comb_Cost.f k a0 a1=some (r1,r2)) :
  Calls Try.prog 98 #[.int .i64 a0, .int .i64 a1] w fun e w' => e=.returned (.tuple #[.int .i64 r1, .int .i64 r2])∧Below w.heap.size w w' := by
 have HB:=zm (Below.refl w.heap.size w)
 have H : ((comb_Count.f a0 a1).bind fun bt119=>(if bt119.2=0 then (if (IntKind.u64.wrap (bt119.1 - 1)) < 65536 then ((comb_width.f k (IntKind.u64.wrap (bt119.1 - 1))).bind fun t121=>(some (t121,0))) else ((comb_width.f k ((IntKind.u64.wrap (bt119.1 - 1)) / 65536)).bind fun t122=>(some (wrap64 (t122+16),0)))) else (some (0,bt119.2))))=some (r1,r2):=h
 clear h
 obtain ⟨⟨t119,t120⟩,A3,H⟩:=ybi H
 try dsimp only at H
 by_cases c4 : t120=0
 ·
  rw [if_pos c4] at H
  have c4b0 : (t120 == 0)=true:=beq_iff_eq.mpr c4
  have c4b1 : (t120 != 0)=false:=bne_eq_false_iff_eq.mpr c4
  clear c4
  by_cases c5 : (IntKind.u64.wrap (t119 - 1)) < 65536
  ·
   rw [if_pos c5] at H
   have c5b0 : decide ((IntKind.u64.wrap (t119 - 1)) < 65536)=true:=decide_eq_true c5
   clear c5
   obtain ⟨t121,A6,H⟩:=ybi H
   simp only [Option.some.injEq,Prod.mk.injEq] at H
   obtain ⟨rfl,rfl⟩:=H
   go_enter Try.func98,Try.ntmps98
   go_wp2_with (first|((with_reducible refine gate_callee (f:=31) rfl ?_);refine ygl 11 Try.func31 #[.int .i64 a0, .int .i64 a1] ?_;(with_reducible refine (comb_Count.calls a0 a1 t119 t120 _ A3.out).mono ?_);rintro e w7 ⟨rfl,hb⟩;refine ⟨_,rfl, ?_⟩;replace HB:=ybs hb;(try clear hb))|((with_reducible refine gate_callee (f:=100) rfl ?_);refine ygl 22 Try.func100 #[.int .u64 (IntKind.u64.wrap (t119 - 1))] ?_;(with_reducible refine (comb_width.calls k (IntKind.u64.wrap (t119 - 1)) t121 _ A6.out).mono ?_);rintro e w' ⟨rfl,⟨nd,rfl⟩⟩;refine ⟨_,rfl, ?_⟩))
   go_ret2
   exact ⟨ye,yhb⟩
  ·
   rw [if_neg c5] at H
   have c5b0 : decide ((IntKind.u64.wrap (t119 - 1)) < 65536)=false:=decide_eq_false c5
   clear c5
   obtain ⟨t122,A8,H⟩:=ybi H
   simp only [Option.some.injEq,Prod.mk.injEq] at H
   obtain ⟨rfl,rfl⟩:=H
   go_enter Try.func98,Try.ntmps98
   go_wp2_with (first|((with_reducible refine gate_callee (f:=31) rfl ?_);refine ygl 11 Try.func31 #[.int .i64 a0, .int .i64 a1] ?_;(with_reducible refine (comb_Count.calls a0 a1 t119 t120 _ A3.out).mono ?_);rintro e w9 ⟨rfl,hb⟩;refine ⟨_,rfl, ?_⟩;replace HB:=ybs hb;(try clear hb))|((with_reducible refine gate_callee (f:=100) rfl ?_);refine ygl 25 Try.func100 #[.int .u64 ((IntKind.u64.wrap (t119 - 1)) / 65536)] ?_;(with_reducible refine (comb_width.calls k ((IntKind.u64.wrap (t119 - 1)) / 65536) t122 _ A8.out).mono ?_);rintro e w' ⟨rfl,⟨nd,rfl⟩⟩;refine ⟨_,rfl, ?_⟩))
   go_ret2
   exact ⟨ye,yhb⟩
 ·
  rw [if_neg c4] at H
  have c4b0 : (t120 == 0)=false:=beq_eq_false_iff_ne.mpr c4
  have c4b1 : (t120 != 0)=true:=bne_iff_ne.mpr c4
  simp only [Option.some.injEq,Prod.mk.injEq] at H
  obtain ⟨rfl,rfl⟩:=H
  go_enter Try.func98,Try.ntmps98
  go_wp2_with (first|((with_reducible refine gate_callee (f:=31) rfl ?_);refine ygl 11 Try.func31 #[.int .i64 a0, .int .i64 a1] ?_;(with_reducible refine (comb_Count.calls a0 a1 t119 t120 _ A3.out).mono ?_);rintro e w10 ⟨rfl,hb⟩;refine ⟨_,rfl, ?_⟩;replace HB:=ybs hb;(try clear hb)))
  go_ret2
  exact ⟨ye,yhb⟩
def alloc_cost.j0 : Nat→Int→List Int→Int→Bool→Option (Int × Bool)
 | 0,_,_,_,_=>none
 | k+1,x1,x2,x3,x33=>if x33=true then (some (0,false)) else ((band_Width.f x1).bind fun t126=>(if 0≤x1 then (if x1 < (x2.length : Int) then ((comb_Cost.f k t126 (rd x2 x1)).bind fun bt128=>((band_Width.f x1).bind fun t130=>((comb_Cost.f k t130 (wrap64 ((rd x2 x1)+1))).bind fun bt132=>(some (wrap64 (bt132.1 - bt128.1),decide ((wrap64 (bt132.1 - bt128.1))≤x3)))))) else (none)) else (none)))
def alloc_cost.f (k : Nat) (l0 : List Int) (a1 : Int) (l2 : List Int) (a3 : Int) : Option (Int × Bool):=if 0≤a1 then (if a1 < (l0.length : Int) then (if (rd l0 a1)=0 then (alloc_cost.j0 k a1 l2 a3 true) else (if a1 < (l2.length : Int) then ((alloc_most.f a1).bind fun t125=>(alloc_cost.j0 k a1 l2 a3 (decide ((rd l2 a1) ≥ t125)))) else (none))) else (none)) else (none)
theorem alloc_cost.mono_l : ∀ k,(∀ y0 y1 y2 y3,LeO (alloc_cost.j0 k y0 y1 y2 y3) (alloc_cost.j0 (k+1) y0 y1 y2 y3))
 | 0=>fun _ _ _ _ r h=>by simp [alloc_cost.j0] at h
 | k+1=>by
  have ih0:=alloc_cost.mono_l k
  ·
   intro y0 y1 y2 y3
   unfold alloc_cost.j0
   repeat' with_reducible first|apply ih0|apply comb_Cost.mono|apply yLr|apply yLn|apply yLi|apply yLb|intro _
theorem alloc_cost.mono : ∀ a0 a1 a2 a3 k,LeO (alloc_cost.f k a0 a1 a2 a3) (alloc_cost.f (k+1) a0 a1 a2 a3):=by
 intro a0 a1 a2 a3 k
 have ih0:=alloc_cost.mono_l k
 unfold alloc_cost.f
 repeat' with_reducible first|apply ih0|apply comb_Cost.mono|apply yLr|apply yLn|apply yLi|apply yLb|intro _
def alloc_cost.T1 : Bool × List (List Nat × List Nat):=(true, [([], []),([0], [0]),([1], [1]),([2], [2]),([], []),([3,4], [3,4]),([5], [5]),([6], [6]),([7], [7]),([8], [8]),([9,8], [8,9]),([10,8], [8,10]),([11,8], [8,11]),([8], [8]),([12,13,8], [8,12,13]),([14,8], [8,14]),([8], [8]),([16,8], [8,16]),([17,8], [8,17]),([18,8], [8,18]),([8], [8]),([19,20,8,8], [8,19,20]),([15,21,8], [8,15,21]),([8,22], [8,22])])
def alloc_cost.B1 : List Nat := [0,1,3,7,0,31,63,127,255,511,1023,2047,4095,511,16383,32767,511,66047,197119,459263,511,2032127,4194303,8388607]
theorem alloc_cost.tab1 : rtab .any (opsOf Try.f93 1)=alloc_cost.T1:=by kernel_rfl
theorem alloc_cost.bits1 : waitsOk alloc_cost.T1.2 alloc_cost.B1=true:=by kernel_rfl
def alloc_cost.T3 : Bool × List (List Nat × List Nat):=(true, [([], []),([0], [0]),([], []),([2], [2]),([3], [3]),([4], [4]),([], []),([5,6], [5,6]),([7], [7]),([1,8,1], [1,8]),([9], [9]),([10], [10]),([10], [10]),([11,9,0,1,2,3,4,5,6,7,8,9,10,11], [11]),([12,13,0,1,2,3,4,5,6,7,8,9,10,11,12,13], [12])])
def alloc_cost.B3 : List Nat := [0,1,0,4,12,28,0,124,252,511,1023,2047,2047,4095,16383]
theorem alloc_cost.tab3 : rtab .any (opsOf Try.f93 3)=alloc_cost.T3:=by kernel_rfl
theorem alloc_cost.bits3 : waitsOk alloc_cost.T3.2 alloc_cost.B3=true:=by kernel_rfl
def alloc_cost.T4 : Bool × List (List Nat × List Nat):=(true, [([], []),([0], [0]),([], []),([2], [2]),([3], [3]),([4], [4]),([], []),([5,6], [5,6]),([7], [7]),([8], [8]),([1,9,1], [1,9]),([10], [10]),([11], [11]),([11], [11]),([12,10,0,1,2,3,4,5,6,7,8,9,10,11,12], [12]),([13,14,0,1,2,3,4,5,6,7,8,9,10,11,12,13,14], [13])])
def alloc_cost.B4 : List Nat := [0,1,0,4,12,28,0,124,252,508,1023,2047,4095,4095,8191,32767]
theorem alloc_cost.tab4 : rtab .any (opsOf Try.f93 4)=alloc_cost.T4:=by kernel_rfl
theorem alloc_cost.bits4 : waitsOk alloc_cost.T4.2 alloc_cost.B4=true:=by kernel_rfl
def alloc_cost.T5 : Bool × List (List Nat × List Nat):=(true, [([], []),([], []),([0,1], [0,1]),([], []),([], []),([3,4], [3,4]),([], []),([6], [6]),([7], [7]),([8], [8]),([5,9], [5,9]),([2,0,1,2], [2]),([10,11,0,1,2,3,4,5,6,7,8,9,10,11], [10])])
def alloc_cost.B5 : List Nat := [0,0,3,0,0,24,0,64,192,448,1016,7,4095]
theorem alloc_cost.tab5 : rtab .any (opsOf Try.f93 5)=alloc_cost.T5:=by kernel_rfl
theorem alloc_cost.bits5 : waitsOk alloc_cost.T5.2 alloc_cost.B5=true:=by kernel_rfl
set_option maxHeartbeats 8000000 in
set_option maxRecDepth 100000 in
theorem alloc_cost.calls (k : Nat) (B : Nat) (A0 : Option Addr) (c0 : Nat) (l0 : List Int) (a1 : Int) (A2 : Option Addr) (c2 : Nat) (l2 : List Int) (a3 : Int) (r1 : Int) (r2 : Bool) (w : World) (hr0 : Kd.C (Kd.int .i64) w A0 l0.length l0) (hc0 : l0.length≤c0) (hr2 : Kd.C (Kd.int .i64) w A2 l2.length l2) (hc2 : l2.length≤c2) (hs : w.heap[B]? = some (.cells #[.slice A0 l0.length c0, .slice A2 l2.length c2, .int .i64 a3, .func (.func 69) #[] #[]] 115 (0,0))) (h : alloc_cost.f k l0 a1 l2 a3=some (r1,r2)) :
  Calls Try.prog 93 #[.pointer (some ⟨B,0,none⟩), .int .i64 a1] w fun e w' => e=.returned (.tuple #[.int .i64 r1, .bool r2])∧Below w.heap.size w w' := by
 have HR0:=zm hr0;have HC0:=zm hc0;clear hr0 hc0;have HR2:=zm hr2;have HC2:=zm hc2;clear hr2 hc2
 have hSt : ∀ W,Below w.heap.size w W→(W.cell? ⟨B,0,none⟩=some (.slice A0 l0.length c0)∧W.cell? ⟨B,1,none⟩=some (.slice A2 l2.length c2)∧W.cell? ⟨B,2,none⟩=some (.int .i64 a3)∧W.cell? ⟨B,3,none⟩=some (.func (.func 69) #[] #[])):=fun W hb=>by
  have h9:=zF hs hb
  exact ⟨(zs h9 0).trans rfl,(zs h9 1).trans rfl,(zs h9 2).trans rfl,(zs h9 3).trans rfl⟩
 have HST:=zm hSt;clear hSt hs;have HB:=zm (Below.refl w.heap.size w)
 have H : (if 0≤a1 then (if a1 < (l0.length : Int) then (if (rd l0 a1)=0 then (alloc_cost.j0 k a1 l2 a3 true) else (if a1 < (l2.length : Int) then ((alloc_most.f a1).bind fun t125=>(alloc_cost.j0 k a1 l2 a3 (decide ((rd l2 a1) ≥ t125)))) else (none))) else (none)) else (none))=some (r1,r2):=h
 clear h;have HC5:=zm H;clear H
 go_enter Try.func93,Try.ntmps93
 go_upto_region 1 with (fail)
 go_cut [33] (fun v33 wc => ∃ (kq : Nat) (x33_4 : Bool),v33=.bool x33_4∧Aside0 (alloc_cost.j0 kq a1 l2 a3 x33_4=some (r1,r2))∧Aside0 (kq≤k)∧Aside0 (Below w.heap.size w wc))
 case first =>
  have H:=HC5.out;clear HC5
  obtain ⟨c6,H⟩:=yif H
  have c6b0 : decide (0≤a1)=true:=decide_eq_true c6
  clear c6
  (first|rw [c6b0]|(simp only [i64_w,i32_w];rw [c6b0])|skip)
  obtain ⟨c7,H⟩:=yif H
  have c7b0 : decide (a1 < (l0.length : Int))=true:=decide_eq_true c7
  clear c7
  by_cases c8 : (rd l0 a1)=0
  ·
   rw [if_pos c8] at H
   have c8b0 : ((rd l0 a1) == 0)=true:=beq_iff_eq.mpr c8
   have c8b1 : ((rd l0 a1) != 0)=false:=bne_eq_false_iff_eq.mpr c8
   clear c8
   have H' := zm H
   clear H
   try go_wp2
   replace HB:=zm (zf HB.out)
   have p123 : 0≤(a1 : Int):=yt
   have q123 : a1 < (l0.length : Int):=yt
   obtain ⟨ad123,e123,hx123_0⟩:=Kd.at_int HR0.out a1 p123 q123
   have hw123_0:=hx123_0
   cases e123
   replace hx123_0:=yhx HB hx123_0
   replace p123:=eq_true p123
   replace q123:=eq_true q123
   refine yst (fun w' => (w'.cell? ⟨B,0,none⟩=some (.slice (some ad123) l0.length c0)∧w'.cell? ⟨B,1,none⟩=some (.slice A2 l2.length c2)∧w'.cell? ⟨B,2,none⟩=some (.int .i64 a3)∧w'.cell? ⟨B,3,none⟩=some (.func (.func 69) #[] #[]))∧(w'.cell? (ad123.add (a1).toNat)=some (.int .i64 (rd l0 a1)))) [] 24 alloc_cost.tab1 alloc_cost.bits1 (fun hHeld HT_ HW_ => ?_) (hS:=⟨HST.out _ HB.out,((yhx HB hw123_0 :))⟩)
   generalize w.drew=w9 at HB hx123_0 hHeld ⊢
   refine yp 0 10 HT_ ?_
   refine yp 1 11 HT_ ?_
   refine yp 2 12 HT_ ?_
   refine yl 3 13 HT_ HW_ hHeld ?_
   refine yp 4 14 HT_ ?_
   refine yp 5 15 HT_ ?_
   refine yl 6 16 HT_ HW_ hHeld ?_
   refine yp 7 17 HT_ ?_
   refine yp 8 18 HT_ ?_
   refine yu 9 19 HT_ ?_
   refine yu 10 20 HT_ ?_
   refine yu 11 21 HT_ ?_
   refine yu 12 22 HT_ ?_
   refine yu 13 23 HT_ ?_
   refine yu 14 24 HT_ ?_
   refine yu 15 25 HT_ ?_
   refine yu 16 26 HT_ ?_
   refine yu 17 27 HT_ ?_
   refine yu 18 28 HT_ ?_
   refine yu 19 29 HT_ ?_
   refine yu 20 30 HT_ ?_
   refine yu 21 31 HT_ ?_
   refine yu 22 32 HT_ ?_
   refine yp 23 33 HT_ ?_
   refine done_ (done_of HT_.out (by kernel_rfl)) ?_
   try go_wp2
   go_meet
   case rel=>exact ⟨_,(true),yq,H',⟨yo⟩,⟨yhb⟩⟩
  ·
   rw [if_neg c8] at H
   have c8b0 : ((rd l0 a1) == 0)=false:=beq_eq_false_iff_ne.mpr c8
   have c8b1 : ((rd l0 a1) != 0)=true:=bne_iff_ne.mpr c8
   obtain ⟨c10,H⟩:=yif H
   have c10b0 : decide (a1 < (l2.length : Int))=true:=decide_eq_true c10
   clear c10
   obtain ⟨t125,A11,H⟩:=ybi H
   have H' := zm H
   clear H
   try go_wp2
   replace HB:=zm (zf HB.out)
   have p123 : 0≤(a1 : Int):=yt
   have q123 : a1 < (l0.length : Int):=yt
   obtain ⟨ad123,e123,hx123_0⟩:=Kd.at_int HR0.out a1 p123 q123
   have hw123_0:=hx123_0
   cases e123
   replace hx123_0:=yhx HB hx123_0
   replace p123:=eq_true p123
   replace q123:=eq_true q123
   have p124 : 0≤(a1 : Int):=yt
   have q124 : a1 < (l2.length : Int):=yt
   obtain ⟨ad124,e124,hx124_0⟩:=Kd.at_int HR2.out a1 p124 q124
   have hw124_0:=hx124_0
   cases e124
   replace hx124_0:=yhx HB hx124_0
   replace p124:=eq_true p124
   replace q124:=eq_true q124
   refine yst (fun w' => (w'.cell? ⟨B,0,none⟩=some (.slice (some ad123) l0.length c0)∧w'.cell? ⟨B,1,none⟩=some (.slice (some ad124) l2.length c2)∧w'.cell? ⟨B,2,none⟩=some (.int .i64 a3)∧w'.cell? ⟨B,3,none⟩=some (.func (.func 69) #[] #[]))∧(w'.cell? (ad123.add (a1).toNat)=some (.int .i64 (rd l0 a1))∧w'.cell? (ad124.add (a1).toNat)=some (.int .i64 (rd l2 a1)))) [] 24 alloc_cost.tab1 alloc_cost.bits1 (fun hHeld HT_ HW_ => ?_) (hS:=⟨HST.out _ HB.out,⟨(yhx HB hw123_0 :),(yhx HB hw124_0 :)⟩⟩)
   generalize w.drew=w12 at HB hx123_0 hx124_0 hHeld ⊢
   refine yp 0 10 HT_ ?_
   refine yp 1 11 HT_ ?_
   refine yp 2 12 HT_ ?_
   refine yl 3 13 HT_ HW_ hHeld ?_
   refine yp 4 14 HT_ ?_
   refine yp 5 15 HT_ ?_
   refine yl 6 16 HT_ HW_ hHeld ?_
   refine yp 7 17 HT_ ?_
   refine yp 8 18 HT_ ?_
   refine yp 9 19 HT_ ?_
   refine yp 10 20 HT_ ?_
   refine yp 11 21 HT_ ?_
   refine yl 12 22 HT_ HW_ hHeld ?_
   refine yp 13 23 HT_ ?_
   refine yp 14 24 HT_ ?_
   refine yp 16 26 HT_ ?_
   refine yp 17 27 HT_ ?_
   refine yp 18 28 HT_ ?_
   refine yl 19 29 HT_ HW_ hHeld ?_
   refine yp 20 30 HT_ ?_
   refine yl 15 25 HT_ HW_ hHeld ?_
   refine yw 21 31 HT_ (fun K hK => ?_)
   refine call_ 69 #[.int .i64 a1] (by rfl) rfl ?hrun ?_
   (case hrun =>
    have he:=fun W=>enters_ Try.func69 (by kernel_rfl) rfl #[.int .i64 a1] W
    unfold execOp
    simp [resolve,Deferred.ofValue,invoke,Act.eval,he])
   with_reducible refine (alloc_most.calls a1 t125 _ A11.out).mono ?_
   rintro e w13 ⟨rfl,hb⟩
   refine ⟨_,rfl, ?_⟩
   replace HB:=ybs hb
   (try clear hb)
   refine hK.out _ _ ⟨HST.out _ HB.out,⟨(yhx HB hw123_0 :),(yhx HB hw124_0 :)⟩⟩ (fun hHeld => ?_)
   clear hK K
   refine ym (some 31) ?_
   refine yp 22 32 HT_ ?_
   refine yp 23 33 HT_ ?_
   refine done_ (done_of HT_.out (by kernel_rfl)) ?_
   try go_wp2
   go_meet
   case rel=>exact ⟨_,(decide ((rd l2 a1) ≥ t125)),yq,H',⟨yo⟩,⟨yhb⟩⟩
 case rest =>
  clear HC5
  try clear c2
  obtain ⟨kq,x33_4,rfl,HA,HJ4,HB⟩:=hcut
  obtain ⟨kj4,rfl⟩:=ysu kq (fun h=>by subst h;exact absurd HA.out (by simp [alloc_cost.j0]))
  have H:=HA.out;clear HA
  simp only [alloc_cost.j0] at H
  by_cases c14 : x33_4=true
  ·
   subst c14
   rw [if_pos rfl] at H
   simp only [Option.some.injEq,Prod.mk.injEq] at H
   obtain ⟨rfl,rfl⟩:=H
   go_wp2
   go_ret2
   exact ⟨ye,yhb⟩
  ·
   replace c14:=Bool.eq_false_iff.mpr c14
   subst c14
   rw [ynf] at H
   obtain ⟨t126,A15,H⟩:=ybi H
   obtain ⟨c16,H⟩:=yif H
   have c16b0 : decide (0≤a1)=true:=decide_eq_true c16
   clear c16
   obtain ⟨c17,H⟩:=yif H
   have c17b0 : decide (a1 < (l2.length : Int))=true:=decide_eq_true c17
   clear c17
   obtain ⟨⟨t128,t129⟩,A18,H⟩:=ybi H
   try dsimp only at H
   obtain ⟨t130,A19,H⟩:=ybi H
   obtain ⟨⟨t132,t133⟩,A20,H⟩:=ybi H
   try dsimp only at H
   simp only [Option.some.injEq,Prod.mk.injEq] at H
   obtain ⟨rfl,rfl⟩:=H
   try go_wp2
   replace HB:=zm (zf HB.out)
   have p127 : 0≤(a1 : Int):=yt
   have q127 : a1 < (l2.length : Int):=yt
   obtain ⟨ad127,e127,hx127_0⟩:=Kd.at_int HR2.out a1 p127 q127
   have hw127_0:=hx127_0
   cases e127
   replace hx127_0:=yhx HB hx127_0
   replace p127:=eq_true p127
   replace q127:=eq_true q127
   refine yst (fun w' => (w'.cell? ⟨B,0,none⟩=some (.slice A0 l0.length c0)∧w'.cell? ⟨B,1,none⟩=some (.slice (some ad127) l2.length c2)∧w'.cell? ⟨B,2,none⟩=some (.int .i64 a3)∧w'.cell? ⟨B,3,none⟩=some (.func (.func 69) #[] #[]))∧(w'.cell? (ad127.add (a1).toNat)=some (.int .i64 (rd l2 a1)))) [] 15 alloc_cost.tab3 alloc_cost.bits3 (fun hHeld HT_ HW_ => ?_) (hS:=⟨HST.out _ HB.out,((yhx HB hw127_0 :))⟩)
   generalize wc.drew=w21 at HB hx127_0 hHeld ⊢
   refine yp 0 35 HT_ ?_
   refine yp 2 37 HT_ ?_
   refine yp 3 38 HT_ ?_
   refine yp 4 39 HT_ ?_
   refine yl 5 40 HT_ HW_ hHeld ?_
   refine yp 6 41 HT_ ?_
   refine yp 7 42 HT_ ?_
   refine yl 8 43 HT_ HW_ hHeld ?_
   refine yw 1 36 HT_ (fun K hK => ?_)
   refine ygs Try.func32 #[.int .i64 a1] ?_
   with_reducible refine (band_Width.calls a1 t126 _ A15.out).mono ?_
   rintro e w22 ⟨rfl,hb⟩
   refine ⟨_,rfl, ?_⟩
   replace HB:=ybs hb
   (try clear hb)
   refine hK.out _ _ ⟨HST.out _ HB.out,((yhx HB hw127_0 :))⟩ (fun hHeld => ?_)
   clear hK K
   refine ym (some 36) ?_
   refine yw 9 44 HT_ (fun K hK => ?_)
   refine ygs Try.func98 #[.int .i64 t126, .int .i64 (rd l2 a1)] ?_
   with_reducible refine (comb_Cost.calls kj4 t126 (rd l2 a1) t128 t129 _ A18.out).mono ?_
   rintro e w23 ⟨rfl,hb⟩
   refine ⟨_,rfl, ?_⟩
   replace HB:=ybs hb
   (try clear hb)
   refine hK.out _ _ ⟨HST.out _ HB.out,((yhx HB hw127_0 :))⟩ (fun hHeld => ?_)
   clear hK K
   refine ym (some 44) ?_
   refine yp 10 34 HT_ ?_
   refine yp 11 45 HT_ ?_
   refine yp 12 46 HT_ ?_
   refine yp 13 6 HT_ ?_
   refine yp 14 7 HT_ ?_
   refine done_ (done_of HT_.out (by kernel_rfl)) ?_
   try go_wp2
   replace HB:=zm (zf HB.out)
   have p131 : 0≤(a1 : Int):=yt
   have q131 : a1 < (l2.length : Int):=yt
   obtain ⟨ad131,e131,hx131_0⟩:=Kd.at_int HR2.out a1 p131 q131
   have hw131_0:=hx131_0
   obtain rfl : ad127=ad131:=(by injection e131)
   replace hx131_0:=yhx HB hx131_0
   replace p131:=eq_true p131
   replace q131:=eq_true q131
   refine yst (fun w' => (w'.cell? ⟨B,0,none⟩=some (.slice A0 l0.length c0)∧w'.cell? ⟨B,1,none⟩=some (.slice (some ad127) l2.length c2)∧w'.cell? ⟨B,2,none⟩=some (.int .i64 a3)∧w'.cell? ⟨B,3,none⟩=some (.func (.func 69) #[] #[]))∧(w'.cell? (ad127.add (a1).toNat)=some (.int .i64 (rd l2 a1)))) [] 16 alloc_cost.tab4 alloc_cost.bits4 (fun hHeld HT_ HW_ => ?_) (hS:=⟨HST.out _ HB.out,((yhx HB hw131_0 :))⟩)
   generalize w23.drew=w24 at HB hx131_0 hHeld ⊢
   refine yp 0 48 HT_ ?_
   refine yp 2 50 HT_ ?_
   refine yp 3 51 HT_ ?_
   refine yp 4 52 HT_ ?_
   refine yl 5 53 HT_ HW_ hHeld ?_
   refine yp 6 54 HT_ ?_
   refine yp 7 55 HT_ ?_
   refine yl 8 56 HT_ HW_ hHeld ?_
   refine yp 9 57 HT_ ?_
   refine yw 1 49 HT_ (fun K hK => ?_)
   refine ygs Try.func32 #[.int .i64 a1] ?_
   with_reducible refine (band_Width.calls a1 t130 _ A19.out).mono ?_
   rintro e w25 ⟨rfl,hb⟩
   refine ⟨_,rfl, ?_⟩
   replace HB:=ybs hb
   (try clear hb)
   refine hK.out _ _ ⟨HST.out _ HB.out,((yhx HB hw131_0 :))⟩ (fun hHeld => ?_)
   clear hK K
   refine ym (some 49) ?_
   refine yw 10 58 HT_ (fun K hK => ?_)
   refine ygs Try.func98 #[.int .i64 t130, .int .i64 (wrap64 ((rd l2 a1)+1))] ?_
   with_reducible refine (comb_Cost.calls kj4 t130 (wrap64 ((rd l2 a1)+1)) t132 t133 _ A20.out).mono ?_
   rintro e w26 ⟨rfl,hb⟩
   refine ⟨_,rfl, ?_⟩
   replace HB:=ybs hb
   (try clear hb)
   refine hK.out _ _ ⟨HST.out _ HB.out,((yhx HB hw131_0 :))⟩ (fun hHeld => ?_)
   clear hK K
   refine ym (some 58) ?_
   refine yp 11 47 HT_ ?_
   refine yp 12 59 HT_ ?_
   refine yp 13 60 HT_ ?_
   refine yp 14 8 HT_ ?_
   refine yp 15 9 HT_ ?_
   refine done_ (done_of HT_.out (by kernel_rfl)) ?_
   try go_wp2
   replace HB:=zm (zf HB.out)
   refine yst (fun w' => (w'.cell? ⟨B,0,none⟩=some (.slice A0 l0.length c0)∧w'.cell? ⟨B,1,none⟩=some (.slice (some ad127) l2.length c2)∧w'.cell? ⟨B,2,none⟩=some (.int .i64 a3)∧w'.cell? ⟨B,3,none⟩=some (.func (.func 69) #[] #[]))∧(True)) [] 13 alloc_cost.tab5 alloc_cost.bits5 (fun hHeld HT_ HW_ => ?_) (hS:=⟨HST.out _ HB.out,trivial⟩)
   generalize w26.drew=w27 at HB hHeld ⊢
   refine yp 0 61 HT_ ?_
   refine yp 1 62 HT_ ?_
   refine yp 2 63 HT_ ?_
   refine yp 3 64 HT_ ?_
   refine yp 4 65 HT_ ?_
   refine yp 5 66 HT_ ?_
   refine yp 6 67 HT_ ?_
   refine yp 7 68 HT_ ?_
   refine yp 8 69 HT_ ?_
   refine yl 9 70 HT_ HW_ hHeld ?_
   refine yp 10 71 HT_ ?_
   refine yp 11 4 HT_ ?_
   refine yp 12 5 HT_ ?_
   refine done_ (done_of HT_.out (by kernel_rfl)) ?_
   try go_wp2
   go_ret2
   exact ⟨ye,yhb⟩
def alloc_worth.f (l0 : List Int) (a1 : Int) (l2 : List Int) (a3 : Int) : Option (Int):=if 0≤a1 then (if a1 < (l0.length : Int) then (if a1 < (l2.length : Int) then ((band_Width.f a1).bind fun t136=>(if t136=0 then (none) else (some (wrap64 ((wrap64 (8 * (rd l0 a1))) - (wrap64 (Int.tdiv (wrap64 (16 * (rd l2 a1))) t136))))))) else (none)) else (none)) else (none)
def alloc_worth.T1 : Bool × List (List Nat × List Nat):=(true, [([], []),([0], [0]),([1], [1]),([2], [2]),([], []),([3,4], [3,4]),([5], [5]),([6], [6]),([], []),([8], [8]),([9], [9]),([10], [10]),([], []),([11,12], [11,12]),([13], [13]),([14], [14]),([], []),([16], [16]),([15,17], [15,17]),([7,18], [7,18]),([19,17,0,1,2,3,4,5,6,7,8,9,10,11,12,13,14,15,16,17,18,19], [19])])
def alloc_worth.B1 : List Nat := [0,1,3,7,0,31,63,127,0,256,768,1792,0,7936,16128,32512,0,65536,261888,524287,1048575]
theorem alloc_worth.tab1 : rtab .any (opsOf Try.f94 1)=alloc_worth.T1:=by kernel_rfl
theorem alloc_worth.bits1 : waitsOk alloc_worth.T1.2 alloc_worth.B1=true:=by kernel_rfl
set_option maxHeartbeats 8000000 in
set_option maxRecDepth 100000 in
theorem alloc_worth.calls (B : Nat) (A0 : Option Addr) (c0 : Nat) (l0 : List Int) (a1 : Int) (A2 : Option Addr) (c2 : Nat) (l2 : List Int) (a3 : Int) (r : Int) (w : World) (hr0 : Kd.C (Kd.int .i64) w A0 l0.length l0) (hc0 : l0.length≤c0) (hr2 : Kd.C (Kd.int .i64) w A2 l2.length l2) (hc2 : l2.length≤c2) (hs : w.heap[B]? = some (.cells #[.slice A0 l0.length c0, .slice A2 l2.length c2, .int .i64 a3, .func (.func 69) #[] #[]] 115 (0,0))) (h : alloc_worth.f l0 a1 l2 a3=some r) :
  Calls Try.prog 94 #[.pointer (some ⟨B,0,none⟩), .int .i64 a1] w fun e w' => e=.returned (.int .i64 r)∧Below w.heap.size w w' := by
 have HR0:=zm hr0;have HC0:=zm hc0;clear hr0 hc0;have HR2:=zm hr2;have HC2:=zm hc2;clear hr2 hc2
 have hSt : ∀ W,Below w.heap.size w W→(W.cell? ⟨B,0,none⟩=some (.slice A0 l0.length c0)∧W.cell? ⟨B,1,none⟩=some (.slice A2 l2.length c2)∧W.cell? ⟨B,2,none⟩=some (.int .i64 a3)∧W.cell? ⟨B,3,none⟩=some (.func (.func 69) #[] #[])):=fun W hb=>by
  have h9:=zF hs hb
  exact ⟨(zs h9 0).trans rfl,(zs h9 1).trans rfl,(zs h9 2).trans rfl,(zs h9 3).trans rfl⟩
 have HST:=zm hSt;clear hSt hs;have HB:=zm (Below.refl w.heap.size w)
 have H : (if 0≤a1 then (if a1 < (l0.length : Int) then (if a1 < (l2.length : Int) then ((band_Width.f a1).bind fun t136=>(if t136=0 then (none) else (some (wrap64 ((wrap64 (8 * (rd l0 a1))) - (wrap64 (Int.tdiv (wrap64 (16 * (rd l2 a1))) t136))))))) else (none)) else (none)) else (none))=some r:=h
 clear h
 obtain ⟨c5,H⟩:=yif H
 have c5b0 : decide (0≤a1)=true:=decide_eq_true c5
 clear c5
 obtain ⟨c6,H⟩:=yif H
 have c6b0 : decide (a1 < (l0.length : Int))=true:=decide_eq_true c6
 clear c6
 obtain ⟨c7,H⟩:=yif H
 have c7b0 : decide (a1 < (l2.length : Int))=true:=decide_eq_true c7
 clear c7
 obtain ⟨t136,A8,H⟩:=ybi H
 obtain ⟨c9,H⟩:=yie H
 have c9b0 : (t136 == 0)=false:=beq_eq_false_iff_ne.mpr c9
 have c9b1 : (t136 != 0)=true:=bne_iff_ne.mpr c9
 obtain rfl:=Option.some.inj H
 go_enter Try.func94,Try.ntmps94
 try go_wp2
 replace HB:=zm (zf HB.out)
 have p134 : 0≤(a1 : Int):=yt
 have q134 : a1 < (l0.length : Int):=yt
 obtain ⟨ad134,e134,hx134_0⟩:=Kd.at_int HR0.out a1 p134 q134
 have hw134_0:=hx134_0
 cases e134
 replace hx134_0:=yhx HB hx134_0
 replace p134:=eq_true p134
 replace q134:=eq_true q134
 have p135 : 0≤(a1 : Int):=yt
 have q135 : a1 < (l2.length : Int):=yt
 obtain ⟨ad135,e135,hx135_0⟩:=Kd.at_int HR2.out a1 p135 q135
 have hw135_0:=hx135_0
 cases e135
 replace hx135_0:=yhx HB hx135_0
 replace p135:=eq_true p135
 replace q135:=eq_true q135
 refine yst (fun w' => (w'.cell? ⟨B,0,none⟩=some (.slice (some ad134) l0.length c0)∧w'.cell? ⟨B,1,none⟩=some (.slice (some ad135) l2.length c2)∧w'.cell? ⟨B,2,none⟩=some (.int .i64 a3)∧w'.cell? ⟨B,3,none⟩=some (.func (.func 69) #[] #[]))∧(w'.cell? (ad134.add (a1).toNat)=some (.int .i64 (rd l0 a1))∧w'.cell? (ad135.add (a1).toNat)=some (.int .i64 (rd l2 a1)))) [] 21 alloc_worth.tab1 alloc_worth.bits1 (fun hHeld HT_ HW_ => ?_) (hS:=⟨HST.out _ HB.out,⟨(yhx HB hw134_0 :),(yhx HB hw135_0 :)⟩⟩)
 generalize w.drew=w10 at HB hx134_0 hx135_0 hHeld ⊢
 refine yp 0 5 HT_ ?_
 refine yp 1 6 HT_ ?_
 refine yp 2 7 HT_ ?_
 refine yl 3 8 HT_ HW_ hHeld ?_
 refine yp 4 9 HT_ ?_
 refine yp 5 10 HT_ ?_
 refine yp 8 13 HT_ ?_
 refine yp 9 14 HT_ ?_
 refine yp 10 15 HT_ ?_
 refine yl 11 16 HT_ HW_ hHeld ?_
 refine yp 12 17 HT_ ?_
 refine yp 13 18 HT_ ?_
 refine yp 16 21 HT_ ?_
 refine yl 6 11 HT_ HW_ hHeld ?_
 refine yp 7 12 HT_ ?_
 refine yl 14 19 HT_ HW_ hHeld ?_
 refine yp 15 20 HT_ ?_
 refine yw 17 22 HT_ (fun K hK => ?_)
 refine ygs Try.func32 #[.int .i64 a1] ?_
 with_reducible refine (band_Width.calls a1 t136 _ A8.out).mono ?_
 rintro e w11 ⟨rfl,hb⟩
 refine ⟨_,rfl, ?_⟩
 replace HB:=ybs hb
 (try clear hb)
 refine hK.out _ _ ⟨HST.out _ HB.out,⟨(yhx HB hw134_0 :),(yhx HB hw135_0 :)⟩⟩ (fun hHeld => ?_)
 clear hK K
 refine ym (some 22) ?_
 refine yp 18 23 HT_ ?_
 refine yp 19 24 HT_ ?_
 refine yp 20 4 HT_ ?_
 refine done_ (done_of HT_.out (by kernel_rfl)) ?_
 try go_wp2
 go_ret
 exact ⟨ye,yhb⟩
def alloc_give.l0 : Nat→List Int→List Int→Int→Int→Int→Option (Int × Bool × List Int)
 | 0,_,_,_,_,_=>none
 | k+1,x0,x1,x2,x3,x9=>if x9 < 5 then ((alloc_cost.f k x0 x9 x1 x2).bind fun bt141=>(if bt141.2=true then (if x3 < 0 then (alloc_give.l0 k x0 x1 x2 x9 (wrap64 (x9+1))) else ((alloc_worth.f x0 x9 x1 x2).bind fun t143=>((alloc_worth.f x0 x3 x1 x2).bind fun t144=>(if t143 > t144 then (alloc_give.l0 k x0 x1 x2 x9 (wrap64 (x9+1))) else (alloc_give.l0 k x0 x1 x2 x3 (wrap64 (x9+1))))))) else (alloc_give.l0 k x0 x1 x2 x3 (wrap64 (x9+1))))) else (if x3 < 0 then (some (x2,false,x1)) else ((alloc_cost.f k x0 x3 x1 x2).bind fun bt137=>(if 0≤x3 then (if x3 < (x1.length : Int) then (some (wrap64 (x2 - bt137.1),true,(x1.set (x3 : Int).toNat (wrap64 ((rd x1 x3)+1))))) else (none)) else (none))))
def alloc_give.f (k : Nat) (l0 : List Int) (l1 : List Int) (a2 : Int) : Option (Int × Bool × List Int):=alloc_give.l0 k l0 l1 a2 (-1) 0
theorem alloc_give.mono_l : ∀ k,(∀ y0 y1 y2 y3 y4,LeO (alloc_give.l0 k y0 y1 y2 y3 y4) (alloc_give.l0 (k+1) y0 y1 y2 y3 y4))
 | 0=>fun _ _ _ _ _ r h=>by simp [alloc_give.l0] at h
 | k+1=>by
  have ih0:=alloc_give.mono_l k
  ·
   intro y0 y1 y2 y3 y4
   unfold alloc_give.l0
   repeat' with_reducible first|apply ih0|apply alloc_cost.mono|apply yLr|apply yLn|apply yLi|apply yLb|intro _
theorem alloc_give.mono : ∀ a0 a1 a2 k,LeO (alloc_give.f k a0 a1 a2) (alloc_give.f (k+1) a0 a1 a2):=by
 intro a0 a1 a2 k
 have ih0:=alloc_give.mono_l k
 unfold alloc_give.f
 repeat' with_reducible first|apply ih0|apply alloc_cost.mono|apply yLr|apply yLn|apply yLi|apply yLb|intro _
set_option maxHeartbeats 8000000 in
set_option maxRecDepth 100000 in
theorem alloc_give.calls (k : Nat) (B : Nat) (A0 : Option Addr) (c0 : Nat) (l0 : List Int) (P1_ : Nat→Prop) (u9000_ : Value) (l1 : List Int) (a2 : Int) (r1 : Int) (r2 : Bool) (r3 : List Int) (w0 w : World) (hB : Below w0.heap.size w0 w) (hr0 : ∀ W_,Kept w W_ (fun k_=>P1_ k_)→Kd.C (Kd.int .i64) W_ A0 l0.length l0) (hc0 : l0.length≤c0) (ho1 : Kd.R (Kd.int .i64) 3 w w0.heap.size P1_ u9000_ l1) (hPB : ¬ P1_ B) (hB0 : w0.heap.size≤B) (hs : w.heap[B]? = some (.cells #[.slice A0 l0.length c0,u9000_, .int .i64 a2, .func (.func 69) #[] #[]] 115 (0,0))) (h : alloc_give.f k l0 l1 a2=some (r1,r2,r3)) :
  Calls Try.prog 70 #[.pointer (some ⟨B,0,none⟩)] w fun e w' => e=.returned (.bool r2)∧Kd.R (Kd.int .i64) 3 w' w0.heap.size (fun k_=>(P1_ k_∨w.heap.size≤k_)) u9000_ r3∧Below w0.heap.size w0 w'∧Kept w w' (fun k_=>P1_ k_∨k_=B)∧w'.heap[B]? = some (.cells #[.slice A0 l0.length c0,u9000_, .int .i64 r1, .func (.func 69) #[] #[]] 115 (0,0)):=by
 have HR0:=zm hr0;have HC0:=zm hc0;have HPB:=zm hPB;have HB0:=zm hB0;have HBL:=zm (zD hs);have HS:=zm hs
 have HNE : Aside0 (∀ k_,(P1_ k_∨w.heap.size≤k_)→k_≠B):=⟨fun k_ hk e_=>by
  subst e_
  exact hk.elim hPB (fun h_=>Nat.lt_irrefl _ (zl (zD hs) h_))⟩
 clear hr0 hc0 hPB hB0 hs
 have HO1:=zm (show Kd.R (Kd.int .i64) 3 w w0.heap.size (fun k_=>(P1_ k_∨w.heap.size≤k_)) u9000_ l1 from zG ho1 (fun k_ hk=>(.inl hk)))
 have HK:=zm (Kept.refl w (fun k_=>P1_ k_))
 have HW0:=zm hB.size;have HB:=zm hB;clear hB
 have H : (alloc_give.l0 k l0 l1 a2 (-1) 0)=some (r1,r2,r3):=h
 clear h
 have H' := zm H
 clear H
 go_enter Try.func70,Try.ntmps70
 go_wp2
 go_loopg [3,9] k (fun kq v3 v9 w' => ∃ (x3_1 : Int) (x9_1 : Int),v3=.int .i64 x3_1∧v9=.int .i64 x9_1∧Aside0 (alloc_give.l0 kq l0 l1 a2 x3_1 x9_1=some (r1,r2,r3))∧Aside0 (kq≤k)∧Aside0 (Kd.R (Kd.int .i64) 3 w' w0.heap.size (fun k_=>(P1_ k_∨w.heap.size≤k_)) u9000_ l1)∧Aside0 (Kept w w' (fun k_=>P1_ k_))∧Aside0 (Below w0.heap.size w0 w')∧Aside0 (w'.heap[B]? = some (.cells #[.slice A0 l0.length c0,u9000_, .int .i64 a2, .func (.func 69) #[] #[]] 115 (0,0))))
 case atStart=>exact ⟨((-1)),(0),yq,yq,H',⟨Nat.le_refl _⟩,⟨yr HO1⟩,⟨by repeat (first|(with_reducible first|exact HK.out|apply Kept.alloc|apply Kept.drewN|apply Kept.drew)|exact HK.out)⟩,⟨yhb⟩,⟨(yk HS)⟩⟩
 case round =>
  clear H'
  obtain ⟨x3_1,x9_1,rfl,rfl,HA,HK1,HO_1,HK,HB,HS⟩:=hrel
  obtain ⟨k1,rfl⟩:=ysu gk (fun h=>by subst h;exact absurd HA.out (by simp [alloc_give.l0]))
  have H:=HA.out;clear HA
  simp only [alloc_give.l0] at H
  by_cases c4 : x9_1 < 5
  ·
   rw [if_pos c4] at H
   have c4b0 : decide (x9_1 < 5)=true:=decide_eq_true c4
   clear c4
   obtain ⟨⟨t141,t142⟩,A5,H⟩:=ybi H
   try dsimp only at H
   by_cases c6 : t142=true
   ·
    subst c6
    rw [if_pos rfl] at H
    by_cases c7 : x3_1 < 0
    ·
     rw [if_pos c7] at H
     have c7b0 : decide (x3_1 < 0)=true:=decide_eq_true c7
     clear c7
     have H' := zm H
     clear H
     obtain ⟨Ao8,co8,eo8⟩:=Kd.R_slice HO_1.out
     subst eo8
     go_wp2_with (first|((with_reducible refine gate_callee (f:=93) rfl ?_);refine ygl 15 Try.func93 #[.pointer (some ⟨B,0,none⟩), .int .i64 x9_1] ?_;(with_reducible refine (alloc_cost.calls k1 B A0 c0 l0 x9_1 Ao8 co8 l1 a2 t141 true _ ?side1 HC0.out ?side3 ?side4 ?side5 A5.out).mono ?_);(case side1=>exact Kd.C_kept_now HR0.out (by repeat (first|(with_reducible first|exact HK.out|apply Kept.alloc|apply Kept.drewN|apply Kept.drew)|exact HK.out)));(case side3=>exact yce (Kd.R_reads' HO_1.out).2.2);(case side4=>exact (Kd.R_reads' HO_1.out).2.1);(case side5=>exact (yk HS));rintro e w9 ⟨rfl,hb⟩;refine ⟨_,rfl, ?_⟩;have n9_:=ybb HS hb;have n0_:=yRb HO_1 hb;have n1_:=zm (Kept.below (S:=(fun k_=>P1_ k_)) (by repeat (first|(with_reducible first|exact HK.out|apply Kept.alloc|apply Kept.drewN|apply Kept.drew)|exact HK.out)) hb);have n2_:=ybs hb;clear HO_1;clear HK;clear HB;clear HS;have HS:=n9_;have HO_1:=n0_;have HK:=n1_;have HB:=n2_;clear n0_ n1_ n2_ n9_;(try clear hb)))
     go_roundg k1
     case measure=>exact yom1 HK1
     case rel=>exact ⟨(x9_1),(wrap64 (x9_1+1)),yq,yq,H',⟨yom1 HK1⟩,⟨yr HO_1⟩,⟨by repeat (first|(with_reducible first|exact HK.out|apply Kept.alloc|apply Kept.drewN|apply Kept.drew)|exact HK.out)⟩,⟨yhb⟩,⟨(yk HS)⟩⟩
    ·
     rw [if_neg c7] at H
     have c7b0 : decide (x3_1 < 0)=false:=decide_eq_false c7
     clear c7
     obtain ⟨t143,A10,H⟩:=ybi H
     obtain ⟨t144,A11,H⟩:=ybi H
     by_cases c12 : t143 > t144
     ·
      rw [if_pos c12] at H
      have c12b0 : decide (t144 < t143)=true:=decide_eq_true c12
      clear c12
      have H' := zm H
      clear H
      obtain ⟨Ao13,co13,eo13⟩:=Kd.R_slice HO_1.out
      subst eo13
      go_wp2_with (first|((with_reducible refine gate_callee (f:=93) rfl ?_);refine ygl 15 Try.func93 #[.pointer (some ⟨B,0,none⟩), .int .i64 x9_1] ?_;(with_reducible refine (alloc_cost.calls k1 B A0 c0 l0 x9_1 Ao13 co13 l1 a2 t141 true _ ?side1 HC0.out ?side3 ?side4 ?side5 A5.out).mono ?_);(case side1=>exact Kd.C_kept_now HR0.out (by repeat (first|(with_reducible first|exact HK.out|apply Kept.alloc|apply Kept.drewN|apply Kept.drew)|exact HK.out)));(case side3=>exact yce (Kd.R_reads' HO_1.out).2.2);(case side4=>exact (Kd.R_reads' HO_1.out).2.1);(case side5=>exact (yk HS));rintro e w14 ⟨rfl,hb⟩;refine ⟨_,rfl, ?_⟩;have n9_:=ybb HS hb;have n0_:=yRb HO_1 hb;have n1_:=zm (Kept.below (S:=(fun k_=>P1_ k_)) (by repeat (first|(with_reducible first|exact HK.out|apply Kept.alloc|apply Kept.drewN|apply Kept.drew)|exact HK.out)) hb);have n2_:=ybs hb;clear HO_1;clear HK;clear HB;clear HS;have HS:=n9_;have HO_1:=n0_;have HK:=n1_;have HB:=n2_;clear n0_ n1_ n2_ n9_;(try clear hb))|(go_at_call 94;(with_reducible refine (alloc_worth.calls B A0 c0 l0 x9_1 Ao13 co13 l1 a2 t143 _ ?side1 HC0.out ?side3 ?side4 ?side5 A10.out).mono ?_);(case side1=>exact Kd.C_kept_now HR0.out (by repeat (first|(with_reducible first|exact HK.out|apply Kept.alloc|apply Kept.drewN|apply Kept.drew)|exact HK.out)));(case side3=>exact yce (Kd.R_reads' HO_1.out).2.2);(case side4=>exact (Kd.R_reads' HO_1.out).2.1);(case side5=>exact (yk HS));rintro e w15 ⟨rfl,hb⟩;have n9_:=ybb HS hb;have n0_:=yRb HO_1 hb;have n1_:=zm (Kept.below (S:=(fun k_=>P1_ k_)) (by repeat (first|(with_reducible first|exact HK.out|apply Kept.alloc|apply Kept.drewN|apply Kept.drew)|exact HK.out)) hb);have n2_:=ybs hb;clear HO_1;clear HK;clear HB;clear HS;have HS:=n9_;have HO_1:=n0_;have HK:=n1_;have HB:=n2_;clear n0_ n1_ n2_ n9_;(try clear hb))|(go_at_call 94;(with_reducible refine (alloc_worth.calls B A0 c0 l0 x3_1 Ao13 co13 l1 a2 t144 _ ?side1 HC0.out ?side3 ?side4 ?side5 A11.out).mono ?_);(case side1=>exact Kd.C_kept_now HR0.out (by repeat (first|(with_reducible first|exact HK.out|apply Kept.alloc|apply Kept.drewN|apply Kept.drew)|exact HK.out)));(case side3=>exact yce (Kd.R_reads' HO_1.out).2.2);(case side4=>exact (Kd.R_reads' HO_1.out).2.1);(case side5=>exact (yk HS));rintro e w16 ⟨rfl,hb⟩;have n9_:=ybb HS hb;have n0_:=yRb HO_1 hb;have n1_:=zm (Kept.below (S:=(fun k_=>P1_ k_)) (by repeat (first|(with_reducible first|exact HK.out|apply Kept.alloc|apply Kept.drewN|apply Kept.drew)|exact HK.out)) hb);have n2_:=ybs hb;clear HO_1;clear HK;clear HB;clear HS;have HS:=n9_;have HO_1:=n0_;have HK:=n1_;have HB:=n2_;clear n0_ n1_ n2_ n9_;(try clear hb)))
      go_roundg k1
      case measure=>exact yom1 HK1
      case rel=>exact ⟨(x9_1),(wrap64 (x9_1+1)),yq,yq,H',⟨yom1 HK1⟩,⟨yr HO_1⟩,⟨by repeat (first|(with_reducible first|exact HK.out|apply Kept.alloc|apply Kept.drewN|apply Kept.drew)|exact HK.out)⟩,⟨yhb⟩,⟨(yk HS)⟩⟩
     ·
      rw [if_neg c12] at H
      have c12b0 : decide (t144 < t143)=false:=decide_eq_false c12
      clear c12
      have H' := zm H
      clear H
      obtain ⟨Ao17,co17,eo17⟩:=Kd.R_slice HO_1.out
      subst eo17
      go_wp2_with (first|((with_reducible refine gate_callee (f:=93) rfl ?_);refine ygl 15 Try.func93 #[.pointer (some ⟨B,0,none⟩), .int .i64 x9_1] ?_;(with_reducible refine (alloc_cost.calls k1 B A0 c0 l0 x9_1 Ao17 co17 l1 a2 t141 true _ ?side1 HC0.out ?side3 ?side4 ?side5 A5.out).mono ?_);(case side1=>exact Kd.C_kept_now HR0.out (by repeat (first|(with_reducible first|exact HK.out|apply Kept.alloc|apply Kept.drewN|apply Kept.drew)|exact HK.out)));(case side3=>exact yce (Kd.R_reads' HO_1.out).2.2);(case side4=>exact (Kd.R_reads' HO_1.out).2.1);(case side5=>exact (yk HS));rintro e w18 ⟨rfl,hb⟩;refine ⟨_,rfl, ?_⟩;have n9_:=ybb HS hb;have n0_:=yRb HO_1 hb;have n1_:=zm (Kept.below (S:=(fun k_=>P1_ k_)) (by repeat (first|(with_reducible first|exact HK.out|apply Kept.alloc|apply Kept.drewN|apply Kept.drew)|exact HK.out)) hb);have n2_:=ybs hb;clear HO_1;clear HK;clear HB;clear HS;have HS:=n9_;have HO_1:=n0_;have HK:=n1_;have HB:=n2_;clear n0_ n1_ n2_ n9_;(try clear hb))|(go_at_call 94;(with_reducible refine (alloc_worth.calls B A0 c0 l0 x9_1 Ao17 co17 l1 a2 t143 _ ?side1 HC0.out ?side3 ?side4 ?side5 A10.out).mono ?_);(case side1=>exact Kd.C_kept_now HR0.out (by repeat (first|(with_reducible first|exact HK.out|apply Kept.alloc|apply Kept.drewN|apply Kept.drew)|exact HK.out)));(case side3=>exact yce (Kd.R_reads' HO_1.out).2.2);(case side4=>exact (Kd.R_reads' HO_1.out).2.1);(case side5=>exact (yk HS));rintro e w19 ⟨rfl,hb⟩;have n9_:=ybb HS hb;have n0_:=yRb HO_1 hb;have n1_:=zm (Kept.below (S:=(fun k_=>P1_ k_)) (by repeat (first|(with_reducible first|exact HK.out|apply Kept.alloc|apply Kept.drewN|apply Kept.drew)|exact HK.out)) hb);have n2_:=ybs hb;clear HO_1;clear HK;clear HB;clear HS;have HS:=n9_;have HO_1:=n0_;have HK:=n1_;have HB:=n2_;clear n0_ n1_ n2_ n9_;(try clear hb))|(go_at_call 94;(with_reducible refine (alloc_worth.calls B A0 c0 l0 x3_1 Ao17 co17 l1 a2 t144 _ ?side1 HC0.out ?side3 ?side4 ?side5 A11.out).mono ?_);(case side1=>exact Kd.C_kept_now HR0.out (by repeat (first|(with_reducible first|exact HK.out|apply Kept.alloc|apply Kept.drewN|apply Kept.drew)|exact HK.out)));(case side3=>exact yce (Kd.R_reads' HO_1.out).2.2);(case side4=>exact (Kd.R_reads' HO_1.out).2.1);(case side5=>exact (yk HS));rintro e w20 ⟨rfl,hb⟩;have n9_:=ybb HS hb;have n0_:=yRb HO_1 hb;have n1_:=zm (Kept.below (S:=(fun k_=>P1_ k_)) (by repeat (first|(with_reducible first|exact HK.out|apply Kept.alloc|apply Kept.drewN|apply Kept.drew)|exact HK.out)) hb);have n2_:=ybs hb;clear HO_1;clear HK;clear HB;clear HS;have HS:=n9_;have HO_1:=n0_;have HK:=n1_;have HB:=n2_;clear n0_ n1_ n2_ n9_;(try clear hb)))
      go_roundg k1
      case measure=>exact yom1 HK1
      case rel=>exact ⟨(x3_1),(wrap64 (x9_1+1)),yq,yq,H',⟨yom1 HK1⟩,⟨yr HO_1⟩,⟨by repeat (first|(with_reducible first|exact HK.out|apply Kept.alloc|apply Kept.drewN|apply Kept.drew)|exact HK.out)⟩,⟨yhb⟩,⟨(yk HS)⟩⟩
   ·
    replace c6:=Bool.eq_false_iff.mpr c6
    subst c6
    rw [ynf] at H
    have H' := zm H
    clear H
    obtain ⟨Ao21,co21,eo21⟩:=Kd.R_slice HO_1.out
    subst eo21
    go_wp2_with (first|((with_reducible refine gate_callee (f:=93) rfl ?_);refine ygl 15 Try.func93 #[.pointer (some ⟨B,0,none⟩), .int .i64 x9_1] ?_;(with_reducible refine (alloc_cost.calls k1 B A0 c0 l0 x9_1 Ao21 co21 l1 a2 t141 false _ ?side1 HC0.out ?side3 ?side4 ?side5 A5.out).mono ?_);(case side1=>exact Kd.C_kept_now HR0.out (by repeat (first|(with_reducible first|exact HK.out|apply Kept.alloc|apply Kept.drewN|apply Kept.drew)|exact HK.out)));(case side3=>exact yce (Kd.R_reads' HO_1.out).2.2);(case side4=>exact (Kd.R_reads' HO_1.out).2.1);(case side5=>exact (yk HS));rintro e w22 ⟨rfl,hb⟩;refine ⟨_,rfl, ?_⟩;have n9_:=ybb HS hb;have n0_:=yRb HO_1 hb;have n1_:=zm (Kept.below (S:=(fun k_=>P1_ k_)) (by repeat (first|(with_reducible first|exact HK.out|apply Kept.alloc|apply Kept.drewN|apply Kept.drew)|exact HK.out)) hb);have n2_:=ybs hb;clear HO_1;clear HK;clear HB;clear HS;have HS:=n9_;have HO_1:=n0_;have HK:=n1_;have HB:=n2_;clear n0_ n1_ n2_ n9_;(try clear hb)))
    go_roundg k1
    case measure=>exact yom1 HK1
    case rel=>exact ⟨(x3_1),(wrap64 (x9_1+1)),yq,yq,H',⟨yom1 HK1⟩,⟨yr HO_1⟩,⟨by repeat (first|(with_reducible first|exact HK.out|apply Kept.alloc|apply Kept.drewN|apply Kept.drew)|exact HK.out)⟩,⟨yhb⟩,⟨(yk HS)⟩⟩
  ·
   rw [if_neg c4] at H
   have c4b0 : decide (x9_1 < 5)=false:=decide_eq_false c4
   clear c4
   by_cases c23 : x3_1 < 0
   ·
    rw [if_pos c23] at H
    have c23b0 : decide (x3_1 < 0)=true:=decide_eq_true c23
    clear c23
    simp only [Option.some.injEq,Prod.mk.injEq] at H
    obtain ⟨rfl,rfl,rfl⟩:=H
    go_wp2
    go_ret
    exact ⟨ye,yr HO_1,yhb,Kept.mono (S:=(fun k_=>P1_ k_)) (by repeat (first|(with_reducible first|exact HK.out|apply Kept.alloc|apply Kept.drewN|apply Kept.drew)|exact HK.out)) (fun _ h_ => .inl h_),(yk HS)⟩
   ·
    rw [if_neg c23] at H
    have c23b0 : decide (x3_1 < 0)=false:=decide_eq_false c23
    clear c23
    obtain ⟨⟨t137,t138⟩,A24,H⟩:=ybi H
    try dsimp only at H
    obtain ⟨c25,H⟩:=yif H
    have c25b0 : decide (0≤x3_1)=true:=decide_eq_true c25
    clear c25
    obtain ⟨c26,H⟩:=yif H
    have c26b0 : decide (x3_1 < (l1.length : Int))=true:=decide_eq_true c26
    clear c26
    obtain ⟨y140,hy140⟩ : ∃ y_ : List Int,y_=(l1.set (x3_1 : Int).toNat (wrap64 ((rd l1 x3_1)+1))):=⟨_,rfl⟩
    replace H : (some (wrap64 (a2 - t137),true,y140))=some (r1,r2,r3):=yrw hy140 H
    have Ny140:=zm hy140;clear hy140
    simp only [Option.some.injEq,Prod.mk.injEq] at H
    obtain ⟨rfl,rfl,rfl⟩:=H
    obtain ⟨Ao28,co28,eo28⟩:=Kd.R_slice HO_1.out
    subst eo28
    go_wp2_with (first|((with_reducible refine gate_callee (f:=93) rfl ?_);refine ygl 39 Try.func93 #[.pointer (some ⟨B,0,none⟩), .int .i64 x3_1] ?_;(with_reducible refine (alloc_cost.calls k1 B A0 c0 l0 x3_1 Ao28 co28 l1 a2 t137 t138 _ ?side1 HC0.out ?side3 ?side4 ?side5 A24.out).mono ?_);(case side1=>exact Kd.C_kept_now HR0.out (by repeat (first|(with_reducible first|exact HK.out|apply Kept.alloc|apply Kept.drewN|apply Kept.drew)|exact HK.out)));(case side3=>exact yce (Kd.R_reads' HO_1.out).2.2);(case side4=>exact (Kd.R_reads' HO_1.out).2.1);(case side5=>exact (yk HS));rintro e w29 ⟨rfl,hb⟩;refine ⟨_,rfl, ?_⟩;have n9_:=ybb HS hb;have n0_:=yRb HO_1 hb;have n1_:=zm (Kept.below (S:=(fun k_=>P1_ k_)) (by repeat (first|(with_reducible first|exact HK.out|apply Kept.alloc|apply Kept.drewN|apply Kept.drew)|exact HK.out)) hb);have n2_:=ybs hb;clear HO_1;clear HK;clear HB;clear HS;have HS:=n9_;have HO_1:=n0_;have HK:=n1_;have HB:=n2_;clear n0_ n1_ n2_ n9_;(try clear hb);have hs2 : w29.cell? ⟨B,2,none⟩=some (.int .i64 a2):=(zs HS.out 2).trans rfl;have hsf : w29.frozen? ⟨B,2,none⟩=false:=zx HS.out 2)|((with_reducible refine gate_store (t:=3) (p:=49) rfl ?_);refine store_event (t:=3) (p:=49) (v := ?vo_w12) (w1:=(w29.setCell ⟨B,2,none⟩ (.int .i64 (wrap64 (a2 - t137))))) ?hg ?ho ?hn ?hr ?_;(case ho=>rfl);(case hg=>rfl);(case hn=>rfl);(case hr=>first|(go_simp;done)|(go_simp;rfl));intro w12 hw;have hS12 : w12.heap[B]? = some (.cells #[.slice A0 l0.length c0, .slice Ao28 l1.length co28, .int .i64 (wrap64 (a2 - t137)), .func (.func 69) #[] #[]] 115 (0,0)):=(by rw [hw];exact blk_set HS.out 2 _);have n0_ : Aside0 (Kd.R (Kd.int .i64) 3 w12 w0.heap.size (fun k_=>(P1_ k_∨w.heap.size≤k_)) (.slice Ao28 l1.length co28) l1):=⟨by rw [hw];exact zH HO_1.out HNE.out _⟩;have n1_ : Aside0 (Below w0.heap.size w0 w12):=⟨by rw [hw];exact Below.setCell HB.out HB0.out _⟩;have n2_ : Aside0 (Kept w w12 (fun k_=>P1_ k_∨k_=B)):=⟨by rw [hw];exact Kept.setCell (Kept.mono HK.out (fun _ h_ => .inl h_)) (.inl (.inr rfl)) _⟩;clear HO_1;clear HK;clear HB;clear HS;clear hs2;clear hsf;have HO_1:=n0_;have HB:=n1_;have HK:=n2_;have HS:=zm hS12;have hs1 : w12.cell? ⟨B,1,none⟩=some (.slice Ao28 l1.length co28):=(zs hS12 1).trans rfl;clear hS12 hw n0_ n1_ n2_;have p139 : 0≤(x3_1 : Int):=yt;have q139 : x3_1 < (l1.length : Int):=yt;obtain ⟨ad139,e139,hx139_0⟩:=Kd.at_int (Kd.R_reads' HO_1.out).2.2 x3_1 p139 q139;cases e139;replace p139:=eq_true p139;replace q139:=eq_true q139;have p27 : 0≤(x3_1 : Int):=yt;have q27 : (x3_1 : Int) < ((l1.length : Int) : Int):=yt;obtain ⟨go27,co27,eo27,gb27,gl27,cl27,HG27⟩:=Kd.R_form HO_1.out (by omega);(first|cases eo27|(injection eo27 with ea_ en_ ec_;(first|subst ea_|(injection ea_ with ea_;subst ea_));subst ec_;clear en_));have GB27:=zm gb27;have GG27:=zm HG27;clear gb27 gl27 HG27;have HMgo27:=zm (show (P1_ go27∨w.heap.size≤go27) from (HO_1.out.1 _ rfl));(first|simp only [add_plain] at hx139_0|skip);obtain ⟨hx27_0,hf27_0⟩:=Kd.R_celln 0 HO_1.out (x3_1 : Int) p27 q27;replace p27:=eq_true p27;replace q27:=eq_true q27;obtain ⟨hy30_,hz30_⟩:=Kd.R_celln 0 HO_1.out (x3_1 : Int) (yt) (yt);have HP30:=Kd.R_putg HO_1.out (x3_1 : Int) (wrap64 ((rd l1 x3_1)+1)))|((with_reducible refine gate_store (t:=3) (p:=58) rfl ?_);refine store_event (t:=3) (p:=58) (v := ?vo_w31) (w1:=(w12.setCell ⟨go27,(x3_1 : Int).toNat,none⟩ (.int .i64 (wrap64 ((rd l1 x3_1)+1))))) ?hg ?ho ?hn ?hr ?_;(case ho=>rfl);(case hg=>rfl);(case hn=>rfl);(case hr=>first|(go_simp;done)|(go_simp;rfl));intro w31 hw;have hg : w12.grownBy w31 (some go27):=(by rw [hw];exact HP30.2);have hp_ : Kd.R (Kd.int .i64) 3 w31 w0.heap.size (fun k_=>(P1_ k_∨w.heap.size≤k_)) (.slice (some ⟨go27,0,none⟩) l1.length co28) y140:=(by rw [hw,Ny140.out];exact HP30.1);clear HP30;have n0_:=zm (hp_);have n1_:=zm ((by rw [hw];exact zk (HB.out) GB27.out : Below w0.heap.size w0 w31));have n2_:=zm (Kept.of_grown (S:=(fun k_=>P1_ k_∨k_=B)) hg (by repeat (first|(with_reducible first|exact HK.out|apply Kept.alloc|apply Kept.drewN|apply Kept.drew)|exact HK.out)) (fun k_ e_=>(HO_1.out.1 k_ e_).imp .inl id));have n8_ : Aside0 (w31.heap[B]? = some (.cells #[.slice A0 l0.length c0, .slice (some ⟨go27,0,none⟩) l1.length co28, .int .i64 (wrap64 (a2 - t137)), .func (.func 69) #[] #[]] 115 (0,0))):=⟨by rw [hw];exact zv HS.out (fun e_=>HNE.out _ (HO_1.out.1 go27 rfl) e_.symm) _⟩;clear HS;have HS:=n8_;clear n8_;clear HO_1;clear HB;clear HK;have HO_1:=n0_;have HB:=n1_;have HK:=n2_;clear n0_ n1_ n2_;clear hg hw hp_))
    go_ret
    exact ⟨ye,yr HO_1,yhb,by repeat (first|(with_reducible first|exact HK.out|apply Kept.alloc|apply Kept.drewN|apply Kept.drew)|exact HK.out),(yk HS)⟩
def gain_Right.l0 : Nat→List Int→List Int→Int→Int→Option (Bool)
 | 0,_,_,_,_=>none
 | k+1,x0,x5,x6,x7=>if x7 < x6 then (if 0≤x7 then (if x7 < (x5.length : Int) then (if (rd x5 x7) < 0 then (some false) else (if (rd x5 x7) > 44 then (some false) else (gain_Right.l0 k x0 x5 x6 (wrap64 (x7+1))))) else (none)) else (none)) else (some ((x0.length : Int) == 5))
def gain_Right.f (k : Nat) (l0 : List Int) : Option (Bool):=gain_Right.l0 k l0 l0 (l0.length : Int) 0
theorem gain_Right.mono_l : ∀ k,(∀ y0 y1 y2 y3,LeO (gain_Right.l0 k y0 y1 y2 y3) (gain_Right.l0 (k+1) y0 y1 y2 y3))
 | 0=>fun _ _ _ _ r h=>by simp [gain_Right.l0] at h
 | k+1=>by
  have ih0:=gain_Right.mono_l k
  ·
   intro y0 y1 y2 y3
   unfold gain_Right.l0
   repeat' with_reducible first|apply ih0|apply yLr|apply yLn|apply yLi|apply yLb|intro _
theorem gain_Right.mono : ∀ a0 k,LeO (gain_Right.f k a0) (gain_Right.f (k+1) a0):=by
 intro a0 k
 have ih0:=gain_Right.mono_l k
 unfold gain_Right.f
 repeat' with_reducible first|apply ih0|apply yLr|apply yLn|apply yLi|apply yLb|intro _
set_option maxHeartbeats 8000000 in
set_option maxRecDepth 100000 in
theorem gain_Right.calls (k : Nat) (A0 : Option Addr) (c0 : Nat) (l0 : List Int) (r : Bool) (w : World) (hr0 : Kd.C (Kd.int .i64) w A0 l0.length l0) (hc0 : l0.length≤c0) (h : gain_Right.f k l0=some r) :
  Calls Try.prog 62 #[.slice A0 l0.length c0] w fun e w' => e=.returned (.bool r)∧Drawn0 w w' := by
 have HR0:=zm hr0;have HC0:=zm hc0;clear hr0 hc0
 have H : (gain_Right.l0 k l0 l0 (l0.length : Int) 0)=some r:=h
 clear h
 have H' := zm H
 clear H
 go_enter Try.func62,Try.ntmps62
 go_wp2
 go_loopg [7] k (fun kq v7 w' => ∃ (x7_1 : Int),v7=.int .i64 x7_1∧Aside0 (gain_Right.l0 kq l0 l0 (l0.length : Int) x7_1=some r)∧Aside0 (kq≤k)∧Drawn0 w w')
 case atStart=>exact ⟨(0),yq,H',⟨Nat.le_refl _⟩,yd⟩
 case round =>
  clear H'
  obtain ⟨x7_1,rfl,HA,HK1,⟨m1,rfl⟩⟩:=hrel
  obtain ⟨k1,rfl⟩:=ysu gk (fun h=>by subst h;exact absurd HA.out (by simp [gain_Right.l0]))
  have H:=HA.out;clear HA
  simp only [gain_Right.l0] at H
  by_cases c2 : x7_1 < (l0.length : Int)
  ·
   rw [if_pos c2] at H
   have c2b0 : decide (x7_1 < (l0.length : Int))=true:=decide_eq_true c2
   clear c2
   obtain ⟨c3,H⟩:=yif H
   have c3b0 : decide (0≤x7_1)=true:=decide_eq_true c3
   clear c3
   obtain ⟨c4,H⟩:=yif H
   have c4b0 : decide (x7_1 < (l0.length : Int))=true:=decide_eq_true c4
   clear c4
   by_cases c5 : (rd l0 x7_1) < 0
   ·
    rw [if_pos c5] at H
    have c5b0 : decide ((rd l0 x7_1) < 0)=true:=decide_eq_true c5
    clear c5
    obtain rfl:=Option.some.inj H
    obtain ⟨ad107,e107,hx107_0,p107,q107⟩:=yai HR0 x7_1
    cases e107
    go_wp2
    go_ret
    exact ⟨yq,yd⟩
   ·
    rw [if_neg c5] at H
    have c5b0 : decide ((rd l0 x7_1) < 0)=false:=decide_eq_false c5
    clear c5
    by_cases c6 : (rd l0 x7_1) > 44
    ·
     rw [if_pos c6] at H
     have c6b0 : decide (44 < (rd l0 x7_1))=true:=decide_eq_true c6
     clear c6
     obtain rfl:=Option.some.inj H
     obtain ⟨ad107,e107,hx107_0,p107,q107⟩:=yai HR0 x7_1
     cases e107
     go_wp2
     go_ret
     exact ⟨yq,yd⟩
    ·
     rw [if_neg c6] at H
     have c6b0 : decide (44 < (rd l0 x7_1))=false:=decide_eq_false c6
     clear c6
     have H' := zm H
     clear H
     obtain ⟨ad107,e107,hx107_0,p107,q107⟩:=yai HR0 x7_1
     cases e107
     go_wp2
     go_roundg k1
     case measure=>exact yom1 HK1
     case rel=>exact ⟨(wrap64 (x7_1+1)),yq,H',⟨yom1 HK1⟩,yd⟩
  ·
   rw [if_neg c2] at H
   have c2b0 : decide (x7_1 < (l0.length : Int))=false:=decide_eq_false c2
   clear c2
   obtain rfl:=Option.some.inj H
   go_wp2
   go_ret
   exact ⟨yq,yd⟩
mutual
def alloc_Pulses.j0 : Nat→Int→Int→List (List Int)→Bool→Option ((List (List Int)) × Int)
 | 0,_,_,_,_=>none
 | k+1,x0,x1,x2,x21=>if x21=true then (some (([] : List (List Int)),1)) else (alloc_Pulses.l0 k x0 x1 ([] : List (List Int)) x2 (x2.length : Int) 0)
def alloc_Pulses.l0 : Nat→Int→Int→List (List Int)→List (List Int)→Int→Int→Option ((List (List Int)) × Int)
 | 0,_,_,_,_,_,_=>none
 | k+1,x0,x1,x8,x22,x23,x24=>if x24 < x23 then (if 0≤x24 then (if x24 < (x22.length : Int) then ((gain_Right.f k (rd_L1 x22 x24)).bind fun t147=>(if t147=true then ((alloc_Room.f x0 x1).bind fun t151=>(alloc_Pulses.l1 k x0 x1 x8 (rd_L1 x22 x24) (List.replicate 5 0) x22 x23 x24 t151)) else (some (([] : List (List Int)),1)))) else (none)) else (none)) else (some (x8,0))
def alloc_Pulses.l1 : Nat→Int→Int→List (List Int)→List Int→List Int→List (List Int)→Int→Int→Int→Option ((List (List Int)) × Int)
 | 0,_,_,_,_,_,_,_,_,_=>none
 | k+1,x0,x1,x8,x10,x11,x22,x23,x24,x49=>(alloc_give.f k x10 x11 x49).bind fun bt152=>(if bt152.2.1=true then (alloc_Pulses.l1 k x0 x1 x8 x10 bt152.2.2 x22 x23 x24 bt152.1) else (if x8.length < 5864062014805 then (alloc_Pulses.l0 k x0 x1 (x8 ++ [bt152.2.2]) x22 x23 (wrap64 (x24+1))) else (none)))
end
def alloc_Pulses.f (k : Nat) (a0 : Int) (a1 : Int) (l2 : List (List Int)) : Option ((List (List Int)) × Int):=(alloc_Right.f a0 a1).bind fun t145=>(if t145=true then (alloc_Pulses.j0 k a0 a1 l2 ((l2.length : Int) != a1)) else (alloc_Pulses.j0 k a0 a1 l2 true))
theorem alloc_Pulses.mono_l : ∀ k,(∀ y0 y1 y2 y3,LeO (alloc_Pulses.j0 k y0 y1 y2 y3) (alloc_Pulses.j0 (k+1) y0 y1 y2 y3))∧(∀ y0 y1 y2 y3 y4 y5,LeO (alloc_Pulses.l0 k y0 y1 y2 y3 y4 y5) (alloc_Pulses.l0 (k+1) y0 y1 y2 y3 y4 y5))∧(∀ y0 y1 y2 y3 y4 y5 y6 y7 y8,LeO (alloc_Pulses.l1 k y0 y1 y2 y3 y4 y5 y6 y7 y8) (alloc_Pulses.l1 (k+1) y0 y1 y2 y3 y4 y5 y6 y7 y8))
 | 0=>⟨fun _ _ _ _ r h=>by simp [alloc_Pulses.j0] at h,fun _ _ _ _ _ _ r h=>by simp [alloc_Pulses.l0] at h,fun _ _ _ _ _ _ _ _ _ r h=>by simp [alloc_Pulses.l1] at h⟩
 | k+1=>by
  obtain ⟨ih0,ih1,ih2⟩:=alloc_Pulses.mono_l k
  refine ⟨?_, ?_, ?_⟩
  ·
   intro y0 y1 y2 y3
   unfold alloc_Pulses.j0
   repeat' with_reducible first|apply ih0|apply ih1|apply ih2|apply alloc_give.mono|apply gain_Right.mono|apply yLr|apply yLn|apply yLi|apply yLb|intro _
  ·
   intro y0 y1 y2 y3 y4 y5
   unfold alloc_Pulses.l0
   repeat' with_reducible first|apply ih0|apply ih1|apply ih2|apply alloc_give.mono|apply gain_Right.mono|apply yLr|apply yLn|apply yLi|apply yLb|intro _
  ·
   intro y0 y1 y2 y3 y4 y5 y6 y7 y8
   unfold alloc_Pulses.l1
   repeat' with_reducible first|apply ih0|apply ih1|apply ih2|apply alloc_give.mono|apply gain_Right.mono|apply yLr|apply yLn|apply yLi|apply yLb|intro _
theorem alloc_Pulses.mono : ∀ a0 a1 a2 k,LeO (alloc_Pulses.f k a0 a1 a2) (alloc_Pulses.f (k+1) a0 a1 a2):=by
 intro a0 a1 a2 k
 obtain ⟨ih0,ih1,ih2⟩:=alloc_Pulses.mono_l k
 unfold alloc_Pulses.f
 repeat' with_reducible first|apply ih0|apply ih1|apply ih2|apply alloc_give.mono|apply gain_Right.mono|apply yLr|apply yLn|apply yLi|apply yLb|intro _
def alloc_Pulses.T9 : Bool × List (List Nat × List Nat):=(true, [([], []),([], []),([], []),([], []),([2,3], [2,3]),([0,1,4], [0,1,4]),([5], [5]),([6,4,0,1,2,3,4,5,6], [6])])
def alloc_Pulses.B9 : List Nat := [0,0,0,0,12,31,63,127]
theorem alloc_Pulses.tab9 : rtab .any (opsOf Try.f30 9)=alloc_Pulses.T9:=by kernel_rfl
theorem alloc_Pulses.bits9 : waitsOk alloc_Pulses.T9.2 alloc_Pulses.B9=true:=by kernel_rfl
set_option maxHeartbeats 8000000 in
set_option maxRecDepth 100000 in
theorem alloc_Pulses.calls (k : Nat) (a0 : Int) (a1 : Int) (A2 : Option Addr) (c2 : Nat) (l2 : List (List Int)) (r1 : List (List Int)) (r2 : Int) (w : World) (hr2 : Kd.C (Kd.slice 3 (Kd.int .i64)) w A2 l2.length l2) (hc2 : l2.length≤c2) (h : alloc_Pulses.f k a0 a1 l2=some (r1,r2)) :
  Calls Try.prog 30 #[.int .i64 a0, .int .i64 a1, .slice A2 l2.length c2] w fun e w' => ∃ v0_ : Value,e=.returned (.tuple #[v0_, .int .i64 r2])∧Kd.S (Kd.slice 3 (Kd.int .i64)) 49 w' w.heap.size (fun _=>True) v0_ r1∧Below w.heap.size w w' := by
 have HR2:=zm hr2;have HC2:=zm hc2;clear hr2 hc2;have HB:=zm (Below.refl w.heap.size w)
 have H : ((alloc_Right.f a0 a1).bind fun t145=>(if t145=true then (alloc_Pulses.j0 k a0 a1 l2 ((l2.length : Int) != a1)) else (alloc_Pulses.j0 k a0 a1 l2 true)))=some (r1,r2):=h
 clear h;have HC4:=zm H;clear H
 go_enter Try.func30,Try.ntmps30
 go_upto_region 1 with (fail)
 go_cut [21] (fun v21 wc => ∃ (kq : Nat) (x21_3 : Bool),v21=.bool x21_3∧Aside0 (alloc_Pulses.j0 kq a0 a1 l2 x21_3=some (r1,r2))∧Aside0 (kq≤k)∧Aside0 (Below w.heap.size w wc))
 case first =>
  have H:=HC4.out;clear HC4
  obtain ⟨t145,A5,H⟩:=ybi H
  by_cases c6 : t145=true
  ·
   subst c6
   rw [if_pos rfl] at H
   have H' := zm H
   clear H
   go_wp2_with (first|((with_reducible refine gate_callee (f:=48) rfl ?_);refine ygl 14 Try.func48 #[.int .i64 a0, .int .i64 a1] ?_;(with_reducible refine (alloc_Right.calls a0 a1 true _ A5.out).mono ?_);rintro e w' ⟨rfl,⟨nd,rfl⟩⟩;refine ⟨_,rfl, ?_⟩))
   go_meet
   case rel=>exact ⟨_,(((l2.length : Int) != a1)),yq,H',⟨yo⟩,⟨yhb⟩⟩
  ·
   replace c6:=Bool.eq_false_iff.mpr c6
   subst c6
   rw [ynf] at H
   have H' := zm H
   clear H
   go_wp2_with (first|((with_reducible refine gate_callee (f:=48) rfl ?_);refine ygl 14 Try.func48 #[.int .i64 a0, .int .i64 a1] ?_;(with_reducible refine (alloc_Right.calls a0 a1 false _ A5.out).mono ?_);rintro e w' ⟨rfl,⟨nd,rfl⟩⟩;refine ⟨_,rfl, ?_⟩))
   go_meet
   case rel=>exact ⟨_,(true),yq,H',⟨yo⟩,⟨yhb⟩⟩
 case rest =>
  clear HC4
  try clear c2
  obtain ⟨kq,x21_3,rfl,HA,HJ3,HB⟩:=hcut
  obtain ⟨kj3,rfl⟩:=ysu kq (fun h=>by subst h;exact absurd HA.out (by simp [alloc_Pulses.j0]))
  have H:=HA.out;clear HA
  simp only [alloc_Pulses.j0] at H
  by_cases c7 : x21_3=true
  ·
   subst c7
   rw [if_pos rfl] at H
   simp only [Option.some.injEq,Prod.mk.injEq] at H
   obtain ⟨rfl,rfl⟩:=H
   go_wp2
   go_ret2
   exact ⟨_,ye,yn,yhb⟩
  ·
   replace c7:=Bool.eq_false_iff.mpr c7
   subst c7
   rw [ynf] at H
   have H' := zm H
   clear H
   go_wp2
   go_loopg [8,24] kj3 (fun kq v8 v24 w' => ∃ (x8_2 : List (List Int)) (x24_2 : Int),v24=.int .i64 x24_2∧Aside0 (alloc_Pulses.l0 kq a0 a1 x8_2 l2 (l2.length : Int) x24_2=some (r1,r2))∧Aside0 (kq≤kj3)∧Aside0 (Kd.S (Kd.slice 3 (Kd.int .i64)) 49 w' w.heap.size (fun _=>True) v8 x8_2)∧Aside0 (Below w.heap.size w w'))
   case atStart=>exact ⟨(([] : List (List Int))),(0),yq,H',⟨Nat.le_refl _⟩,⟨yn⟩,⟨yhb⟩⟩
   case round =>
    clear H'
    obtain ⟨x8_2,x24_2,rfl,HA,HK2,HO_8,HB⟩:=hrel
    obtain ⟨k2,rfl⟩:=ysu gk (fun h=>by subst h;exact absurd HA.out (by simp [alloc_Pulses.l0]))
    have H:=HA.out;clear HA
    simp only [alloc_Pulses.l0] at H
    by_cases c8 : x24_2 < (l2.length : Int)
    ·
     rw [if_pos c8] at H
     have c8b0 : decide (x24_2 < (l2.length : Int))=true:=decide_eq_true c8
     clear c8
     obtain ⟨c9,H⟩:=yif H
     have c9b0 : decide (0≤x24_2)=true:=decide_eq_true c9
     clear c9
     obtain ⟨c10,H⟩:=yif H
     have c10b0 : decide (x24_2 < (l2.length : Int))=true:=decide_eq_true c10
     clear c10
     obtain ⟨t147,A11,H⟩:=ybi H
     by_cases c12 : t147=true
     ·
      subst c12
      rw [if_pos rfl] at H
      obtain ⟨y148,hy148⟩ : ∃ y_ : List Int,y_=(List.replicate 5 0):=⟨_,rfl⟩
      replace H : ((alloc_Room.f a0 a1).bind fun t151=>(alloc_Pulses.l1 k2 a0 a1 x8_2 (rd_L1 l2 x24_2) y148 l2 (l2.length : Int) x24_2 t151))=some (r1,r2):=yrw hy148 H
      have Ny148:=zm hy148;clear hy148
      obtain ⟨t151,A13,H⟩:=ybi H
      have H' := zm H
      clear H
      have p146 : 0≤(x24_2 : Int):=yt
      have q146 : x24_2 < (l2.length : Int):=yt
      obtain ⟨ad146,A146_0,c146_0,e146,hx146_0,hl146_0,hi146_0⟩:=at_L1 HR2.out x24_2 p146 q146
      cases e146
      replace hx146_0:=yhx HB hx146_0
      have HR146_0:=zm hi146_0;have HC146_0:=zm hl146_0;clear hi146_0 hl146_0
      replace p146:=eq_true p146
      replace q146:=eq_true q146
      try go_wp2_with (first|((with_reducible refine gate_callee (f:=62) rfl ?_);refine ygl 29 Try.func62 #[.slice A146_0 (rd_L1 l2 x24_2).length c146_0] ?_;(with_reducible refine (gain_Right.calls k2 _ _ (rd_L1 l2 x24_2) true _ ?side1 HC146_0.out A11.out).mono ?_);(case side1=>exact ycb HR146_0);rintro e w' ⟨rfl,⟨nd,rfl⟩⟩;refine ⟨_,rfl, ?_⟩))
      (try (rw [drewN_self wr];generalize hq_ : World.drewN wr _=wr;have n0_ : Aside0 (Kd.S (Kd.slice 3 (Kd.int .i64)) 49 wr w.heap.size (fun _=>True) u8 x8_2):=⟨by rw [← hq_];exact (yr HO_8)⟩;have n1_ : Aside0 (Below w.heap.size w wr):=⟨by rw [← hq_];exact yhb⟩;clear HO_8 HB hq_;have HO_8:=n0_;have HB:=n1_;clear n0_ n1_))
      replace HO_8:=zm (Kd.S_drew HO_8.out)
      replace HB:=zm (zf HB.out)
      refine yst (fun w' => True) [] 8 alloc_Pulses.tab9 alloc_Pulses.bits9 (fun hHeld HT_ HW_ => ?_) (hS:=trivial)
      generalize wr.drew=w14 at HO_8 HB hHeld ⊢
      refine yp 0 31 HT_ ?_
      refine yp 2 33 HT_ ?_
      refine yp 3 34 HT_ ?_
      refine join_ (σ:=Value) 3 #[true,true,true,true,true,false,false,false] (fun s_ => [(32,s_),(35, .int .i64 t151)]) (fun s_ w' => (Kd.R (Kd.int .i64) 3 w' w.heap.size (fun _=>True) s_ y148)∧(Kd.S (Kd.slice 3 (Kd.int .i64)) 49 w' w.heap.size (fun k_=>some k_≠(s_ : Value).ownBlock) u8 x8_2)∧(Below w.heap.size w w')) ?_ ?_
      rotate_left
      ·
       intro hCont
       refine two_ (i:=1) (j:=4) (Ni:=some 32) (Nj:=some 35) #[true,true,true,true,false,false,false,false] #[true,false,true,true,true,false,false,false] rfl rfl rfl rfl (two_of HT_.out (by kernel_rfl)) (by decide) (by decide) (fun K hK => ?_) (fun K hK => ?_)
       ·
        skip
        refine Kd.R_make_step (Kd.int .i64) _ 3 (by rfl) (N:=32) rfl 49 _ _ rfl 5 rfl rfl Try.underlying49 (.int .i64 0) 8 info3 rfl (by decide) (by omega) 0 (ok:=fun _=>True) (okp:=fun _=>True) rfl (fun _ hk=>hk) trivial (by omega) (by omega) (Below.refl _ _) (Nat.le_refl _) ?_
        intro v149 w15 ho16 hb hg_ hnew_
        clear hg_ hnew_
        (first|rw [← Ny148.out] at ho16|(simp only [Int.reduceToNat] at ho16;rw [← Ny148.out] at ho16))
        replace HO_8:=zm (Kd.S_elder' (yr HO_8) (Kd.R_base ho16) hb)
        have HO150:=zm (Kd.R_lower ho16 (zE yhb))
        replace HB:=ybs hb
        clear hb ho16
        refine hK.out _ _ trivial (fun hHeld => ?_)
        clear hK K
        refine ym (some 32) ?_
        refine yw 4 35 HT_ (fun K hK => ?_)
        refine ygs Try.func68 #[.int .i64 a0, .int .i64 a1] ?_
        with_reducible refine (alloc_Room.calls a0 a1 t151 _ A13.out).mono ?_
        rintro e w' ⟨rfl,⟨nd,rfl⟩⟩
        refine ⟨_,rfl, ?_⟩
        refine hK.out _ _ trivial (fun hHeld => ?_)
        clear hK K
        refine ym (some 35) ?_
        exact norm_ (by simp only [putAll,Act.put,List.setIfInBounds_toArray,List.set_cons_zero,List.set_cons_succ]) (hCont (v149) _ ⟨(yr HO150),(yS0 HO_8),yhb⟩)
       ·
        skip
        refine ygs Try.func68 #[.int .i64 a0, .int .i64 a1] ?_
        with_reducible refine (alloc_Room.calls a0 a1 t151 _ A13.out).mono ?_
        rintro e w' ⟨rfl,⟨nd,rfl⟩⟩
        refine ⟨_,rfl, ?_⟩
        refine hK.out _ _ trivial (fun hHeld => ?_)
        clear hK K
        refine ym (some 35) ?_
        refine yw 1 32 HT_ (fun K hK => ?_)
        refine Kd.R_make_step (Kd.int .i64) _ 3 (by rfl) (N:=32) rfl 49 _ _ rfl 5 rfl rfl Try.underlying49 (.int .i64 0) 8 info3 rfl (by decide) (by omega) 0 (ok:=fun _=>True) (okp:=fun _=>True) rfl (fun _ hk=>hk) trivial (by omega) (by omega) (Below.refl _ _) (Nat.le_refl _) ?_
        intro v149 w15 ho16 hb hg_ hnew_
        clear hg_ hnew_
        (first|rw [← Ny148.out] at ho16|(simp only [Int.reduceToNat] at ho16;rw [← Ny148.out] at ho16))
        replace HO_8:=zm (Kd.S_elder' (yr HO_8) (Kd.R_base ho16) hb)
        have HO150:=zm (Kd.R_lower ho16 (zE yhb))
        replace HB:=ybs hb
        clear hb ho16
        refine hK.out _ _ trivial (fun hHeld => ?_)
        clear hK K
        refine ym (some 32) ?_
        exact norm_ (by simp only [putAll,Act.put,List.setIfInBounds_toArray,List.set_cons_zero,List.set_cons_succ]) (hCont (v149) _ ⟨(yr HO150),(yS0 HO_8),yhb⟩)
      rintro v149 w17 ⟨h0_,h1_,h2_⟩
      have n0_ : Aside0 (Kd.R (Kd.int .i64) 3 w17 w.heap.size (fun _=>True) v149 y148):=⟨h0_⟩
      have n1_ : Aside0 (Kd.S (Kd.slice 3 (Kd.int .i64)) 49 w17 w.heap.size (fun k_=>some k_≠(v149 : Value).ownBlock) u8 x8_2):=⟨h1_⟩
      have n2_ : Aside0 (Below w.heap.size w w17):=⟨h2_⟩
      clear HO_8;clear HB;clear h0_ h1_ h2_;have HO150:=n0_;have HO_8:=n1_;have HB:=n2_;clear n0_ n1_ n2_;have hHeld:=trivial
      refine norm_ (a' := ?_) ?_ ?_
      rotate_left
      ·
       simp only [putAll,Act.put,List.setIfInBounds_toArray,List.set_cons_zero,List.set_cons_succ]
       rfl
      obtain ⟨Av9,cv9,ev9⟩:=Kd.R_slice HO150.out
      refine pure_ (i:=5) (N:=some 36) (v:=.agg #[.slice A146_0 (rd_L1 l2 x24_2).length c146_0,v149, .int .i64 t151, .func (.func 69) #[] #[]]) (a' := ?_) #[true,true,true,true,true,true,false,false] rfl rfl (any_of HT_.out (by kernel_rfl)) (fun _ _ _ h=>h) (Or.inl ⟨by rfl, ?_⟩) ?_ ?_

      ·
       intro w'
       rw [ev9]
       first|(go_simp;done)|(go_simp;with_reducible rfl)|(go_simp;rfl)

      rotate_left
      ·
       simp only [Act.put,List.setIfInBounds_toArray,List.set_cons_zero,List.set_cons_succ,i64_w,i32_w]
       rfl
      refine yw 6 37 HT_ (fun K hK => ?_)
      refine event_step (v:=.pointer (some ⟨w17.heap.size,0,none⟩)) (w1:=w17.alloc (.cells #[.slice A146_0 (rd_L1 l2 x24_2).length c146_0,v149, .int .i64 t151, .func (.func 69) #[] #[]] 115 (0,0))) (by rfl) ?hrun ?_
      (case hrun=>(rw [ev9];first|(go_simp;done)|(go_simp;rfl)))
      clear ev9
      have n0_ : Aside0 (Kd.R (Kd.int .i64) 3 (w17.alloc (.cells #[.slice A146_0 (rd_L1 l2 x24_2).length c146_0,v149, .int .i64 t151, .func (.func 69) #[] #[]] 115 (0,0))) w.heap.size (fun _=>True) v149 y148):=⟨zo HO150.out _⟩
      have n1_ : Aside0 (Kd.S (Kd.slice 3 (Kd.int .i64)) 49 (w17.alloc (.cells #[.slice A146_0 (rd_L1 l2 x24_2).length c146_0,v149, .int .i64 t151, .func (.func 69) #[] #[]] 115 (0,0))) w.heap.size (fun k_=>some k_≠(v149 : Value).ownBlock∧k_≠w17.heap.size) u8 x8_2):=⟨Kd.S_alloc (Kd.S_mono (Kd.S_bound HO_8.out) (fun k_ hk=>⟨hk.1,fun e_=>by have:=hk.2.2.1;omega⟩)) _⟩
      have n2_ : Aside0 (Below w.heap.size w (w17.alloc (.cells #[.slice A146_0 (rd_L1 l2 x24_2).length c146_0,v149, .int .i64 t151, .func (.func 69) #[] #[]] 115 (0,0)))):=⟨ze HB.out _⟩
      have n3_ : Aside0 ((w17.alloc (.cells #[.slice A146_0 (rd_L1 l2 x24_2).length c146_0,v149, .int .i64 t151, .func (.func 69) #[] #[]] 115 (0,0))).heap[w17.heap.size]? = some (.cells #[.slice A146_0 (rd_L1 l2 x24_2).length c146_0,v149, .int .i64 t151, .func (.func 69) #[] #[]] 115 (0,0))):=⟨blk_new _ _⟩
      have HBW:=zm (show w.heap.size≤w17.heap.size from zE HB.out)
      have HKB:=zm (show some w17.heap.size≠(v149 : Value).ownBlock from fun e_=>Nat.lt_irrefl _ (Kd.R_lt HO150.out _ e_.symm))
      clear HO150 HO_8 HB hHeld
      generalize w17.alloc (.cells #[.slice A146_0 (rd_L1 l2 x24_2).length c146_0,v149, .int .i64 t151, .func (.func 69) #[] #[]] 115 (0,0))=w18 at n0_ n1_ n2_ n3_ ⊢
      generalize w17.heap.size=B at n1_ n3_ HBW HKB ⊢
      have HO150:=n0_;have HO_8:=n1_;have HB:=n2_;have HS:=n3_;clear n0_ n1_ n2_ n3_
      refine hK.out _ _ trivial (fun hHeld => ?_)
      clear hK K
      refine ym (some 37) ?_
      refine yp 7 11 HT_ ?_
      refine done_ (done_of HT_.out (by kernel_rfl)) ?_
      try go_wp2
      go_loopg [39] k2 (fun kq v_ w' => ∃ (x11_3 : List Int) (x49_3 : Int),Aside0 (alloc_Pulses.l1 kq a0 a1 x8_2 (rd_L1 l2 x24_2) x11_3 l2 (l2.length : Int) x24_2 x49_3=some (r1,r2))∧Aside0 (kq≤k2)∧Aside0 (Kd.S (Kd.slice 3 (Kd.int .i64)) 49 w' w.heap.size (fun k_=>some k_≠(v149 : Value).ownBlock∧k_≠B) u8 x8_2)∧Aside0 (Kd.R (Kd.int .i64) 3 w' w.heap.size (fun _=>True) v149 x11_3)∧Aside0 (Below w.heap.size w w')∧Aside0 (w'.heap[B]? = some (.cells #[.slice A146_0 (rd_L1 l2 x24_2).length c146_0,v149, .int .i64 x49_3, .func (.func 69) #[] #[]] 115 (0,0))))
      case atStart=>exact ⟨(y148),(t151),H',⟨Nat.le_refl _⟩,⟨yr HO_8⟩,⟨yr HO150⟩,⟨yhb⟩,⟨(yk HS)⟩⟩
      case round =>
       clear H'
       try clear c8b0
       try clear c9b0
       try clear c10b0
       try clear hx146_0
       try clear p146
       try clear q146
       obtain ⟨x11_3,x49_3,HA,HK3,HO_8,HO_11,HB,HS⟩:=hrel
       obtain ⟨k3,rfl⟩:=ysu gk (fun h=>by subst h;exact absurd HA.out (by simp [alloc_Pulses.l1]))
       have H:=HA.out;clear HA
       simp only [alloc_Pulses.l1] at H
       obtain ⟨⟨t152,t153,t154⟩,A18,H⟩:=ybi H
       try dsimp only at H
       by_cases c19 : t153=true
       ·
        subst c19
        rw [if_pos rfl] at H
        have H' := zm H
        clear H
        obtain ⟨Ao20,co20,eo20⟩:=Kd.R_slice HO_11.out
        subst eo20
        go_wp2_with (first|((with_reducible refine gate_callee (f:=70) rfl ?_);refine ygl 39 Try.func70 #[.pointer (some ⟨B,0,none⟩)] ?_;(with_reducible refine (alloc_give.calls k3 B A146_0 c146_0 (rd_L1 l2 x24_2) (fun k_=>some k_=(.slice Ao20 x11_3.length co20 : Value).ownBlock) (.slice Ao20 x11_3.length co20) x11_3 x49_3 t152 true t154 w _ ?side1 ?side2 HC146_0.out ?side4 ?side5 HBW.out ?side7 A18.out).mono ?_);(case side1=>exact yhb);(case side2=>exact Kd.C_kept_came (Kd.heap_int .i64) HR146_0.out yhb (fun k_ hs_=>(fun e_=>Kd.R_base HO_11.out k_ e_.symm) hs_));(case side4=>exact Kd.R_tight rfl HO_11.out);(case side5=>exact fun e_=>HKB.out e_);(case side7=>exact (yk HS));rintro e w21 ⟨rfl,hy0,hb,hkp,hs9⟩;refine ⟨_,rfl, ?_⟩;have hs1 : w21.cell? ⟨B,1,none⟩=some (.slice Ao20 x11_3.length co20):=(zs hs9 1).trans rfl;have n0_:=zm (Kd.S_mono (ok' := fun k_=>some k_≠(.slice Ao20 x11_3.length co20 : Value).ownBlock∧k_≠B) (Kd.S_keptB (HO_8.out) hkp (fun k_ hk_ hs_=>hs_.elim hk_.1 hk_.2)) (fun k_ hk_=>hk_.1));have n1_:=zm (Kd.R_reok rfl hy0 (fun k_ e_=>HO_11.out.1 k_ e_));have n2_:=zm (hb);clear HO_8;clear HO_11;clear HB;clear HS;have HS:=zm hs9;clear hs9;have HO_8:=n0_;have HO_11:=n1_;have HB:=n2_;clear n0_ n1_ n2_;(try clear hb);(try clear hkp);(try clear hy0)))
        go_roundg k3
        case measure=>exact yom3 HJ3 HK2 HK3
        case rel=>exact ⟨(t154),(t152),H',⟨yom3 HJ3 HK2 HK3⟩,⟨yr HO_8⟩,⟨yr HO_11⟩,⟨yhb⟩,⟨(yk HS)⟩⟩
       ·
        replace c19:=Bool.eq_false_iff.mpr c19
        subst c19
        rw [ynf] at H
        obtain ⟨c22,H⟩:=yif H
        have LMc22:=zm c22;clear c22
        obtain ⟨y155,hy155⟩ : ∃ y_ : List (List Int),y_=(x8_2 ++ [t154]):=⟨_,rfl⟩
        replace H : (alloc_Pulses.l0 k3 a0 a1 y155 l2 (l2.length : Int) (wrap64 (x24_2+1)))=some (r1,r2):=yrw hy155 H
        have Ny155:=zm hy155;clear hy155
        have H' := zm H
        clear H
        obtain ⟨Ao23,co23,eo23⟩:=Kd.R_slice HO_11.out
        subst eo23
        go_wp2_with (first|((with_reducible refine gate_callee (f:=70) rfl ?_);refine ygl 39 Try.func70 #[.pointer (some ⟨B,0,none⟩)] ?_;(with_reducible refine (alloc_give.calls k3 B A146_0 c146_0 (rd_L1 l2 x24_2) (fun k_=>some k_=(.slice Ao23 x11_3.length co23 : Value).ownBlock) (.slice Ao23 x11_3.length co23) x11_3 x49_3 t152 false t154 w _ ?side1 ?side2 HC146_0.out ?side4 ?side5 HBW.out ?side7 A18.out).mono ?_);(case side1=>exact yhb);(case side2=>exact Kd.C_kept_came (Kd.heap_int .i64) HR146_0.out yhb (fun k_ hs_=>(fun e_=>Kd.R_base HO_11.out k_ e_.symm) hs_));(case side4=>exact Kd.R_tight rfl HO_11.out);(case side5=>exact fun e_=>HKB.out e_);(case side7=>exact (yk HS));rintro e w24 ⟨rfl,hy0,hb,hkp,hs9⟩;refine ⟨_,rfl, ?_⟩;have hs1 : w24.cell? ⟨B,1,none⟩=some (.slice Ao23 x11_3.length co23):=(zs hs9 1).trans rfl;have n0_:=zm (Kd.S_mono (ok' := fun k_=>some k_≠(.slice Ao23 x11_3.length co23 : Value).ownBlock∧k_≠B) (Kd.S_keptB (HO_8.out) hkp (fun k_ hk_ hs_=>hs_.elim hk_.1 hk_.2)) (fun k_ hk_=>hk_.1));have n1_:=zm (Kd.R_reok rfl hy0 (fun k_ e_=>HO_11.out.1 k_ e_));have n2_:=zm (hb);clear HO_8;clear HO_11;clear HB;clear HS;have HS:=zm hs9;clear hs9;have HO_8:=n0_;have HO_11:=n1_;have HB:=n2_;clear n0_ n1_ n2_;(try clear hb);(try clear hkp);(try clear hy0))|((with_reducible refine gate_builtin (b:=.append) (xs := #[.tmp 40, .tmp 45]) rfl ?_);(try (refine gate_guard (by rfl) ?_;dsimp only));at_builtin;refine Kd.S_append (Kd.slice 3 (Kd.int .i64)) (w0:=w) w.heap.size rfl (.tmp 40) (.tmp 45) 22 49 (.slice none 0 0) 24 rfl Try.underlying22 info49 rfl (by decide) (by omega) u8 x8_2 t154 [.slice Ao23 x11_3.length co23] (fun _=>True) (fun k_=>some k_=(.slice Ao23 x11_3.length co23 : Value).ownBlock) rfl rfl ?aP (fun k_ hk_=>((zG (ok' := fun k_=>((fun _=>True)) k_∧some k_≠(u8 : Value).ownBlock) (Kd.R_apart' (HO_11.out) (Kd.S_typed HO_8.out) (by decide)) (fun k_ hk=>⟨trivial,hk.2⟩))).1 k_ hk_.symm) ?aF ?aO ?aB ?aS ?aL ?_;(case aP=>exact Kd.M_row (zG (Kd.R_tight rfl (zG (ok' := fun k_=>((fun _=>True)) k_∧some k_≠(u8 : Value).ownBlock) (Kd.R_apart' (HO_11.out) (Kd.S_typed HO_8.out) (by decide)) (fun k_ hk=>⟨trivial,hk.2⟩))) (fun _ h_=>h_)));(case aB=>exact yhb);(case aF=>exact (fun _ _=>trivial));(case aO=>exact (yS0 HO_8));(case aS=>exact (zE yhb));(case aL=>have:=LMc22.out;omega);intro v156 w25 ho hb hg hat;rw [← Ny155.out] at ho;replace HB:=zm (hb);have HO157:=zm (ho);clear HO_8;clear HO_11;clear ho hb hg hat))
        go_roundg k3
        case measure=>exact yom3 HJ3 HK2 HK3
        case rel=>exact ⟨(y155),(wrap64 (x24_2+1)),yq,H',⟨yom3 HJ3 HK2 HK3⟩,⟨yr HO157⟩,⟨yhb⟩⟩
     ·
      replace c12:=Bool.eq_false_iff.mpr c12
      subst c12
      rw [ynf] at H
      simp only [Option.some.injEq,Prod.mk.injEq] at H
      obtain ⟨rfl,rfl⟩:=H
      have p146 : 0≤(x24_2 : Int):=yt
      have q146 : x24_2 < (l2.length : Int):=yt
      obtain ⟨ad146,A146_0,c146_0,e146,hx146_0,hl146_0,hi146_0⟩:=at_L1 HR2.out x24_2 p146 q146
      cases e146
      replace hx146_0:=yhx HB hx146_0
      have HR146_0:=zm hi146_0;have HC146_0:=zm hl146_0;clear hi146_0 hl146_0
      replace p146:=eq_true p146
      replace q146:=eq_true q146
      go_wp2_with (first|((with_reducible refine gate_callee (f:=62) rfl ?_);refine ygl 29 Try.func62 #[.slice A146_0 (rd_L1 l2 x24_2).length c146_0] ?_;(with_reducible refine (gain_Right.calls k2 _ _ (rd_L1 l2 x24_2) false _ ?side1 HC146_0.out A11.out).mono ?_);(case side1=>exact ycb HR146_0);rintro e w' ⟨rfl,⟨nd,rfl⟩⟩;refine ⟨_,rfl, ?_⟩))
      go_ret2
      exact ⟨_,ye,yn,yhb⟩
    ·
     rw [if_neg c8] at H
     have c8b0 : decide (x24_2 < (l2.length : Int))=false:=decide_eq_false c8
     clear c8
     simp only [Option.some.injEq,Prod.mk.injEq] at H
     obtain ⟨rfl,rfl⟩:=H
     go_wp2
     go_ret2
     exact ⟨_,ye,yr HO_8,yhb⟩
def coder_New.f  : Option (Int × Int × List Int):=some (0,4294967295,([] : List Int))
set_option maxHeartbeats 8000000 in
set_option maxRecDepth 100000 in
theorem coder_New.calls  (r1 : Int) (r2 : Int) (r3 : List Int) (w : World) (h : coder_New.f  = some (r1,r2,r3)) :
  Calls Try.prog 27 #[] w fun e w' => ∃ v2_ : Value,e=.returned (.agg #[.int .u64 r1, .int .u32 r2,v2_])∧Kd.R (Kd.int .u8) 5 w' w.heap.size (fun _=>True) v2_ r3∧Below w.heap.size w w' := by
 have hu54:=Try.underlying54;have HB:=zm (Below.refl w.heap.size w)
 have H : (some (0,4294967295,([] : List Int)))=some (r1,r2,r3):=h
 clear h
 simp only [Option.some.injEq,Prod.mk.injEq] at H
 obtain ⟨rfl,rfl,rfl⟩:=H
 go_enter Try.func27,Try.ntmps27
 go_wp2_with (first|((with_reducible refine gate_dst (N:=0) rfl ?_);refine ybx 0 #[.int .u64 0, .int .u32 0, .slice none 0 0] 54 ?_;intro gb184 hg w1 hbox hb;have BK184:=zm (hbox);have GW184:=ygw hg;have GE184:=ygw hg;replace HB:=ybs hb;clear hb hbox hg;obtain ⟨_,_,_,_,_,_⟩:=yc3 BK184))
 refine bodyPost_ret (results_cell_row rfl _ _ gb184 54 #[.int .u64 0, .int .u32 4294967295, .slice none 0 0] (0,0) _ rfl (ykp BK184) Try.underlying54 rfl (by kernel_rfl)) rfl ?_
 exact ⟨_,ye,yn,yhb⟩
def coder_RightEnc.f (a0_0 : Int) (a0_1 : Int) (l0_2 : List Int) : Option (Bool):=if a0_0≤4294967295 then (if a0_1 ≥ 16777216 then (some (decide ((l0_2.length : Int)≤4000))) else (some false)) else (some false)
set_option maxHeartbeats 8000000 in
set_option maxRecDepth 100000 in
theorem coder_RightEnc.calls (a0_0 : Int) (a0_1 : Int) (A0_2 : Option Addr) (c0_2 : Nat) (l0_2 : List Int) (r : Bool) (w : World) (hr0_2 : Kd.C (Kd.int .u8) w A0_2 l0_2.length l0_2) (hc0_2 : l0_2.length≤c0_2) (h : coder_RightEnc.f a0_0 a0_1 l0_2=some r) :
  Calls Try.prog 91 #[.agg #[.int .u64 a0_0, .int .u32 a0_1, .slice A0_2 l0_2.length c0_2]] w fun e w' => e=.returned (.bool r)∧Below w.heap.size w w' := by
 have hu54:=Try.underlying54;have HR0_2:=zm hr0_2;have HC0_2:=zm hc0_2;clear hr0_2 hc0_2;have HB:=zm (Below.refl w.heap.size w)
 have H : (if a0_0≤4294967295 then (if a0_1 ≥ 16777216 then (some (decide ((l0_2.length : Int)≤4000))) else (some false)) else (some false))=some r:=h
 clear h
 by_cases c2 : a0_0≤4294967295
 ·
  rw [if_pos c2] at H
  have c2b0 : decide (a0_0≤4294967295)=true:=decide_eq_true c2
  clear c2
  by_cases c3 : a0_1 ≥ 16777216
  ·
   rw [if_pos c3] at H
   have c3b0 : decide (16777216≤a0_1)=true:=decide_eq_true c3
   clear c3
   obtain rfl:=Option.some.inj H
   go_enter Try.func91,Try.ntmps91
   go_wp2_with (first|((with_reducible refine gate_dst (N:=1) rfl ?_);(try (refine gate_guard (by rfl) ?_;dsimp only));refine ybx 1 #[.int .u64 a0_0, .int .u32 a0_1, .slice A0_2 l0_2.length c0_2] 54 ?_;intro gb185 hg w4 hbox hb;have BK185:=zm (hbox);have GW185:=ygw hg;have GE185:=ygw hg;replace HB:=ybs hb;clear hb hbox hg;obtain ⟨_,_,_,_,_,_⟩:=yc3 BK185))
   go_ret
   exact ⟨ye,yhb⟩
  ·
   rw [if_neg c3] at H
   have c3b0 : decide (16777216≤a0_1)=false:=decide_eq_false c3
   clear c3
   obtain rfl:=Option.some.inj H
   go_enter Try.func91,Try.ntmps91
   go_wp2_with (first|((with_reducible refine gate_dst (N:=1) rfl ?_);(try (refine gate_guard (by rfl) ?_;dsimp only));refine ybx 1 #[.int .u64 a0_0, .int .u32 a0_1, .slice A0_2 l0_2.length c0_2] 54 ?_;intro gb185 hg w6 hbox hb;have BK185:=zm (hbox);have GW185:=ygw hg;have GE185:=ygw hg;replace HB:=ybs hb;clear hb hbox hg;obtain ⟨_,_,_,_,_,_⟩:=yc3 BK185))
   go_ret
   exact ⟨ye,yhb⟩
 ·
  rw [if_neg c2] at H
  have c2b0 : decide (a0_0≤4294967295)=false:=decide_eq_false c2
  clear c2
  obtain rfl:=Option.some.inj H
  go_enter Try.func91,Try.ntmps91
  go_wp2_with (first|((with_reducible refine gate_dst (N:=1) rfl ?_);(try (refine gate_guard (by rfl) ?_;dsimp only));refine ybx 1 #[.int .u64 a0_0, .int .u32 a0_1, .slice A0_2 l0_2.length c0_2] 54 ?_;intro gb185 hg w8 hbox hb;have BK185:=zm (hbox);have GW185:=ygw hg;have GE185:=ygw hg;replace HB:=ybs hb;clear hb hbox hg;obtain ⟨_,_,_,_,_,_⟩:=yc3 BK185))
  go_ret
  exact ⟨ye,yhb⟩
def coder_own.f (a0_0 : Int) (a0_1 : Int) (l0_2 : List Int) : Option (Int × Int × List Int):=(coder_RightEnc.f a0_0 a0_1 l0_2).bind fun t188=>(if t188=true then ((some (([] : List Int) : List Int)).bind fun y189=>(if y189.length+l0_2.length < 140737488355328 then (some (a0_0,a0_1,(y189 ++ l0_2))) else (none))) else ((coder_New.f).bind fun bt195=>(some (bt195.1,bt195.2.1,bt195.2.2))))
set_option maxHeartbeats 8000000 in
set_option maxRecDepth 100000 in
theorem coder_own.calls (a0_0 : Int) (a0_1 : Int) (A0_2 : Option Addr) (c0_2 : Nat) (l0_2 : List Int) (r1 : Int) (r2 : Int) (r3 : List Int) (w : World) (hr0_2 : Kd.C (Kd.int .u8) w A0_2 l0_2.length l0_2) (hc0_2 : l0_2.length≤c0_2) (h : coder_own.f a0_0 a0_1 l0_2=some (r1,r2,r3)) :
  Calls Try.prog 63 #[.agg #[.int .u64 a0_0, .int .u32 a0_1, .slice A0_2 l0_2.length c0_2]] w fun e w' => ∃ v2_ : Value,e=.returned (.agg #[.int .u64 r1, .int .u32 r2,v2_])∧Kd.R (Kd.int .u8) 5 w' w.heap.size (fun _=>True) v2_ r3∧Below w.heap.size w w' := by
 have hu54:=Try.underlying54;have HR0_2:=zm hr0_2;have HC0_2:=zm hc0_2;clear hr0_2 hc0_2;have HB:=zm (Below.refl w.heap.size w)
 have H : ((coder_RightEnc.f a0_0 a0_1 l0_2).bind fun t188=>(if t188=true then ((some (([] : List Int) : List Int)).bind fun y189=>(if y189.length+l0_2.length < 140737488355328 then (some (a0_0,a0_1,(y189 ++ l0_2))) else (none))) else ((coder_New.f).bind fun bt195=>(some (bt195.1,bt195.2.1,bt195.2.2)))))=some (r1,r2,r3):=h
 clear h
 obtain ⟨t188,A2,H⟩:=ybi H
 by_cases c3 : t188=true
 ·
  subst c3
  rw [if_pos rfl] at H
  obtain ⟨y189,hy189⟩ : ∃ y_ : List Int,y_=(([] : List Int)):=⟨_,rfl⟩
  replace H : (if y189.length+l0_2.length < 140737488355328 then (some (a0_0,a0_1,(y189 ++ l0_2))) else (none))=some (r1,r2,r3):=yrw hy189 H
  have Ny189:=zm hy189;clear hy189
  obtain ⟨c4,H⟩:=yif H
  have LMc4:=zm c4;clear c4
  obtain ⟨y192,hy192⟩ : ∃ y_ : List Int,y_=(y189 ++ l0_2):=⟨_,rfl⟩
  replace H : (some (a0_0,a0_1,y192))=some (r1,r2,r3):=yrw hy192 H
  have Ny192:=zm hy192;clear hy192
  simp only [Option.some.injEq,Prod.mk.injEq] at H
  obtain ⟨rfl,rfl,rfl⟩:=H
  go_enter Try.func63,Try.ntmps63
  go_wp2_with (first|((with_reducible refine gate_dst (N:=1) rfl ?_);refine ybx 1 #[.int .u64 a0_0, .int .u32 a0_1, .slice A0_2 l0_2.length c0_2] 54 ?_;intro gb186 hg w5 hbox hb;have BK186:=zm (hbox);have GW186:=ygw hg;have GE186:=ygw hg;replace HB:=ybs hb;clear hb hbox hg)|((with_reducible refine gate_dst (N:=2) rfl ?_);refine ybx 2 #[.int .u64 0, .int .u32 0, .slice none 0 0] 54 ?_;intro gb187 hg w6 hbox hb;have BK187:=zm (hbox);have GW187:=ygw hg;have GE187:=ygw hg;replace HB:=ybs hb;have NB186_187:=ynl BK186 hg;have NB187_186:=yng BK186 hg;replace BK186:=ybb BK186 hb;clear hb hbox hg;have:=NB186_187.out;have:=NB187_186.out;obtain ⟨_,_,_,_,_,_⟩:=yc3 BK186)|((with_reducible refine gate_callee (f:=91) rfl ?_);refine ygl 4 Try.func91 #[.agg #[.int .u64 a0_0, .int .u32 a0_1, .slice A0_2 l0_2.length c0_2]] ?_;(with_reducible refine (coder_RightEnc.calls a0_0 a0_1 _ _ l0_2 true _ ?side1 HC0_2.out A2.out).mono ?_);(case side1=>exact ycb HR0_2);rintro e w9 ⟨rfl,hb⟩;refine ⟨_,rfl, ?_⟩;replace BK186:=ybb BK186 hb;replace BK187:=ybb BK187 hb;replace HB:=ybs hb;(try clear hb))|((with_reducible refine gate_dst (N:=7) rfl ?_);refine Kd.R_lit (Kd.int .u8) _ 5 ?hg (N:=7) ?hd (xs:=([] : List Int)) (inner := []) (ok:=fun _=>True) (okp:=fun _=>True) ?hr ?hp (fun _ hk=>hk) trivial (Below.refl _ _) (Nat.le_refl _) (by simp) ?_;(case hd=>rfl);(case hg=>rfl);(case hr=>first|(go_simp;done)|(go_simp;rfl));(case hp=>exact (Reps.none _ _));intro v190 w10 ho11 hb hg_ hnew_;clear hg_ hnew_;(first|rw [← Ny189.out] at ho11|(simp only [Int.reduceToNat] at ho11;rw [← Ny189.out] at ho11));have HO191:=zm (Kd.R_lower ho11 (zE yhb));replace BK186:=ybb BK186 hb;replace BK187:=ybb BK187 hb;replace HB:=ybs hb;clear hb ho11;obtain ⟨_,_,_,_,_,_⟩:=yc3 BK186)|((with_reducible refine gate_builtin (b:=.append) (xs := #[.tmp 7, .tmp 9]) rfl ?_);at_builtin;refine Kd.R_append_rows (Kd.int .u8) (w0:=w) w.heap.size rfl (.tmp 7) (.tmp 9) 28 5 (.int .u8 0) 1 rfl Try.underlying28 info5 rfl (by decide) (by omega) v190 y189 l0_2 _ _ _ (fun _=>True) (fun _=>False) rfl rfl ?aO ?aR (fun _ _ h=>h) (fun _ h=>h.elim) ?aF ?aB ?aS ?aL ?_;(case aR=>exact ycb HR0_2);(case aB=>exact yhb);(case aF=>exact (fun _ _=>trivial));(case aO=>exact (yr HO191));(case aS=>exact (zE yhb));(case aL=>have:=LMc4.out;omega);intro v193 w13 ho hb hg hat;rw [← Ny192.out] at ho;replace BK186:=zm (blk_grown (yk BK186) hg (zu HO191.out BK186.out (by decide)));replace BK187:=zm (blk_grown (yk BK187) hg (zu HO191.out BK187.out (by decide)));replace HB:=zm (hb);have HO194:=zm (ho);clear HO191;clear ho hb hg hat;obtain ⟨Ao14,co14,eo14⟩:=Kd.R_slice HO194.out;subst eo14;obtain ⟨_,_,_,_,_,_⟩:=yc3 BK186;obtain ⟨_,_,_,_,_,_⟩:=yc3 BK187))
  refine bodyPost_ret (results_cell_row rfl _ _ gb187 54 #[.int .u64 a0_0, .int .u32 a0_1, .slice Ao14 y192.length co14] (0,0) _ rfl (ykp BK187) Try.underlying54 rfl (by kernel_rfl)) rfl ?_
  exact ⟨_,ye,yR2 HO194 BK186 BK187,yhb⟩
 ·
  replace c3:=Bool.eq_false_iff.mpr c3
  subst c3
  rw [ynf] at H
  obtain ⟨⟨t195,t196,t197⟩,A17,H⟩:=ybi H
  try dsimp only at H
  simp only [Option.some.injEq,Prod.mk.injEq] at H
  obtain ⟨rfl,rfl,rfl⟩:=H
  go_enter Try.func63,Try.ntmps63
  go_wp2_with (first|((with_reducible refine gate_dst (N:=1) rfl ?_);refine ybx 1 #[.int .u64 a0_0, .int .u32 a0_1, .slice A0_2 l0_2.length c0_2] 54 ?_;intro gb186 hg w18 hbox hb;have BK186:=zm (hbox);have GW186:=ygw hg;have GE186:=ygw hg;replace HB:=ybs hb;clear hb hbox hg)|((with_reducible refine gate_dst (N:=2) rfl ?_);refine ybx 2 #[.int .u64 0, .int .u32 0, .slice none 0 0] 54 ?_;intro gb187 hg w19 hbox hb;have BK187:=zm (hbox);have GW187:=ygw hg;have GE187:=ygw hg;replace HB:=ybs hb;have NB186_187:=ynl BK186 hg;have NB187_186:=yng BK186 hg;replace BK186:=ybb BK186 hb;clear hb hbox hg;have:=NB186_187.out;have:=NB187_186.out;obtain ⟨_,_,_,_,_,_⟩:=yc3 BK186)|((with_reducible refine gate_callee (f:=91) rfl ?_);refine ygl 4 Try.func91 #[.agg #[.int .u64 a0_0, .int .u32 a0_1, .slice A0_2 l0_2.length c0_2]] ?_;(with_reducible refine (coder_RightEnc.calls a0_0 a0_1 _ _ l0_2 false _ ?side1 HC0_2.out A2.out).mono ?_);(case side1=>exact ycb HR0_2);rintro e w22 ⟨rfl,hb⟩;refine ⟨_,rfl, ?_⟩;replace BK186:=ybb BK186 hb;replace BK187:=ybb BK187 hb;replace HB:=ybs hb;(try clear hb))|((with_reducible refine gate_callee (f:=27) rfl ?_);refine ygl 6 Try.func27 #[] ?_;(with_reducible refine (coder_New.calls  t195 t196 t197 _ A17.out).mono ?_);rintro e w23 ⟨v198,rfl,ho0,hb⟩;refine ⟨_,rfl, ?_⟩;have HO199:=zm (Kd.R_lower ho0 (zE yhb));replace BK186:=ybb BK186 hb;replace BK187:=ybb BK187 hb;replace HB:=ybs hb;(try clear hb);(try clear ho0);obtain ⟨_,_,_,_,_,_⟩:=yc3 BK187;obtain ⟨Ao25,co25,eo25⟩:=Kd.R_slice HO199.out;subst eo25))
  refine bodyPost_ret (results_cell_row rfl _ _ gb187 54 #[.int .u64 t195, .int .u32 t196, .slice Ao25 t197.length co25] (0,0) _ rfl (ykp BK187) Try.underlying54 rfl (by kernel_rfl)) rfl ?_
  exact ⟨_,ye,yR1 HO199 BK187,yhb⟩
def coder_Finish.f (a0_0 : Int) (a0_1 : Int) (l0_2 : List Int) : Option (List Int):=(coder_own.f a0_0 a0_1 l0_2).bind fun bt289=>((some (([(bt289.1 / 16777216) % 256,(bt289.1 / 65536) % 256,(bt289.1 / 256) % 256,(bt289.1) % 256] : List Int) : List Int)).bind fun y294=>(if bt289.2.2.length+y294.length < 140737488355328 then (some (bt289.2.2 ++ y294)) else (none)))
set_option maxHeartbeats 8000000 in
set_option maxRecDepth 100000 in
theorem coder_Finish.calls (a0_0 : Int) (a0_1 : Int) (A0_2 : Option Addr) (c0_2 : Nat) (l0_2 : List Int) (r : List Int) (w : World) (hr0_2 : Kd.C (Kd.int .u8) w A0_2 l0_2.length l0_2) (hc0_2 : l0_2.length≤c0_2) (h : coder_Finish.f a0_0 a0_1 l0_2=some r) :
  Calls Try.prog 35 #[.agg #[.int .u64 a0_0, .int .u32 a0_1, .slice A0_2 l0_2.length c0_2]] w fun e w' => ∃ v0_ : Value,e=.returned (v0_)∧Kd.R (Kd.int .u8) 5 w' w.heap.size (fun _=>True) v0_ r∧Below w.heap.size w w' := by
 have hu54:=Try.underlying54;have HR0_2:=zm hr0_2;have HC0_2:=zm hc0_2;clear hr0_2 hc0_2;have HB:=zm (Below.refl w.heap.size w)
 have H : ((coder_own.f a0_0 a0_1 l0_2).bind fun bt289=>((some (([(bt289.1 / 16777216) % 256,(bt289.1 / 65536) % 256,(bt289.1 / 256) % 256,(bt289.1) % 256] : List Int) : List Int)).bind fun y294=>(if bt289.2.2.length+y294.length < 140737488355328 then (some (bt289.2.2 ++ y294)) else (none))))=some r:=h
 clear h
 obtain ⟨⟨t289,t290,t291⟩,A2,H⟩:=ybi H
 try dsimp only at H
 obtain ⟨y294,hy294⟩ : ∃ y_ : List Int,y_=(([(t289 / 16777216) % 256,(t289 / 65536) % 256,(t289 / 256) % 256,(t289) % 256] : List Int)):=⟨_,rfl⟩
 replace H : (if t291.length+y294.length < 140737488355328 then (some (t291 ++ y294)) else (none))=some r:=yrw hy294 H
 have Ny294:=zm hy294;clear hy294
 obtain ⟨c3,H⟩:=yif H
 have LMc3:=zm c3;clear c3
 obtain ⟨y297,hy297⟩ : ∃ y_ : List Int,y_=(t291 ++ y294):=⟨_,rfl⟩
 replace H : (some y297)=some r:=yrw hy297 H
 have Ny297:=zm hy297;clear hy297
 obtain rfl:=Option.some.inj H
 go_enter Try.func35,Try.ntmps35
 go_wp2_with (first|((with_reducible refine gate_dst (N:=1) rfl ?_);refine ybx 1 #[.int .u64 a0_0, .int .u32 a0_1, .slice A0_2 l0_2.length c0_2] 54 ?_;intro gb288 hg w4 hbox hb;have BK288:=zm (hbox);have GW288:=ygw hg;have GE288:=ygw hg;replace HB:=ybs hb;clear hb hbox hg;obtain ⟨_,_,_,_,_,_⟩:=yc3 BK288)|((with_reducible refine gate_callee (f:=63) rfl ?_);refine ygl 4 Try.func63 #[.agg #[.int .u64 a0_0, .int .u32 a0_1, .slice A0_2 l0_2.length c0_2]] ?_;(with_reducible refine (coder_own.calls a0_0 a0_1 _ _ l0_2 t289 t290 t291 _ ?side1 HC0_2.out A2.out).mono ?_);(case side1=>exact ycb HR0_2);rintro e w6 ⟨v292,rfl,ho0,hb⟩;refine ⟨_,rfl, ?_⟩;have HO293:=zm (Kd.R_lower ho0 (zE yhb));replace BK288:=ybb BK288 hb;replace HB:=ybs hb;(try clear hb);(try clear ho0);obtain ⟨_,_,_,_,_,_⟩:=yc3 BK288;obtain ⟨Ao8,co8,eo8⟩:=Kd.R_slice HO293.out;subst eo8)|((with_reducible refine gate_dst (N:=22) rfl ?_);refine Kd.R_lit (Kd.int .u8) _ 5 ?hg (N:=22) ?hd (xs:=([(t289 / 16777216) % 256,(t289 / 65536) % 256,(t289 / 256) % 256,(t289) % 256] : List Int)) (inner := [.int .u8 ((t289 / 16777216) % 256), .int .u8 ((t289 / 65536) % 256), .int .u8 ((t289 / 256) % 256), .int .u8 ((t289) % 256)]) (ok:=fun _=>True) (okp:=fun _=>True) ?hr ?hp (fun _ hk=>hk) trivial (Below.refl _ _) (Nat.le_refl _) (by simp) ?_;(case hd=>rfl);(case hg=>rfl);(case hr=>first|(go_simp;done)|(go_simp;rfl));(case hp=>exact (Reps.one (show Kd.M (Kd.int .u8) _ _ _ ((t289 / 16777216) % 256) [.int .u8 ((t289 / 16777216) % 256)] from rfl) (Reps.one (show Kd.M (Kd.int .u8) _ _ _ ((t289 / 65536) % 256) [.int .u8 ((t289 / 65536) % 256)] from rfl) (Reps.one (show Kd.M (Kd.int .u8) _ _ _ ((t289 / 256) % 256) [.int .u8 ((t289 / 256) % 256)] from rfl) (Reps.one (show Kd.M (Kd.int .u8) _ _ _ ((t289) % 256) [.int .u8 ((t289) % 256)] from rfl) (Reps.none _ _))))));intro v295 w9 ho10 hb hg_ hnew_;clear hg_ hnew_;(first|rw [← Ny294.out] at ho10|(simp only [Int.reduceToNat] at ho10;rw [← Ny294.out] at ho10));have HO296:=zm (Kd.R_lower (Kd.R_new' ho10 (Kd.R_lt (yR1 HO293 BK288))) (zE yhb));replace HO293:=zm (Kd.R_elder' (yR1 HO293 BK288) (Kd.R_base ho10) hb);replace BK288:=zm (zF (g:=gb288) (o:=.cells #[.int .u64 t289, .int .u32 t290, .slice Ao8 t291.length co8] 54 (0,0)) (ykp BK288) hb);replace HB:=ybs hb;clear hb ho10;obtain ⟨Ao12,co12,eo12⟩:=Kd.R_slice HO296.out;subst eo12)|((with_reducible refine gate_builtin (b:=.append) (xs := #[.tmp 6, .tmp 22]) rfl ?_);at_builtin;refine Kd.R_append_rows (Kd.int .u8) (w0:=w) w.heap.size rfl (.tmp 6) (.tmp 22) 28 5 (.int .u8 0) 1 rfl Try.underlying28 info5 rfl (by decide) (by omega) (.slice Ao8 t291.length co8) t291 y294 _ _ _ (fun k_=>some k_≠(.slice Ao12 y294.length co12 : Value).ownBlock) (fun _=>False) rfl rfl ?aO ?aR (fun _ _ h=>h) (fun _ h=>h.elim) ?aF ?aB ?aS ?aL ?_;(case aR=>exact yce (Kd.R_reads' HO296.out).2.2);(case aB=>exact yhb);(case aF=>exact (fun k_ hk=>Kd.fresh' (Kd.R_lt (yr HO296)) k_ hk));(case aO=>exact (yR0 HO293));(case aS=>exact (zE yhb));(case aL=>have:=LMc3.out;omega);intro v298 w11 ho hb hg hat;rw [← Ny297.out] at ho;replace BK288:=zm (blk_grown (yk BK288) hg (zu HO293.out BK288.out (by decide)));replace HO296:=zm (Kd.R_after (ok:=(fun _=>True)) (yr HO296) hg hat);replace HB:=zm (hb);have HO299:=zm (ho);clear HO293;clear ho hb hg hat))
 go_ret
 exact ⟨_,ye,yR0 HO299,yhb⟩
def coder_carry.l0 : Nat→List Int→Int→Option (List Int)
 | 0,_,_=>none
 | k+1,x0,x2=>if x2 ≥ 0 then (if 0≤x2 then (if x2 < (x0.length : Int) then ((some (x0.set (x2 : Int).toNat (((rd x0 x2)+1) % 256) : List Int)).bind fun y201=>(if (rd y201 x2)=0 then (coder_carry.l0 k y201 (wrap64 (x2 - 1))) else (some y201))) else (none)) else (none)) else (some x0)
def coder_carry.f (k : Nat) (l0 : List Int) : Option (List Int):=coder_carry.l0 k l0 (wrap64 ((l0.length : Int) - 1))
theorem coder_carry.mono_l : ∀ k,(∀ y0 y1,LeO (coder_carry.l0 k y0 y1) (coder_carry.l0 (k+1) y0 y1))
 | 0=>fun _ _ r h=>by simp [coder_carry.l0] at h
 | k+1=>by
  have ih0:=coder_carry.mono_l k
  ·
   intro y0 y1
   unfold coder_carry.l0
   repeat' with_reducible first|apply ih0|apply yLr|apply yLn|apply yLi|apply yLb|intro _
theorem coder_carry.mono : ∀ a0 k,LeO (coder_carry.f k a0) (coder_carry.f (k+1) a0):=by
 intro a0 k
 have ih0:=coder_carry.mono_l k
 unfold coder_carry.f
 repeat' with_reducible first|apply ih0|apply yLr|apply yLn|apply yLi|apply yLb|intro _
set_option maxHeartbeats 8000000 in
set_option maxRecDepth 100000 in
theorem coder_carry.calls (k : Nat) (P0_ : Nat→Prop) (u9000_ : Value) (l0 : List Int) (r : List Int) (w0 w : World) (hB : Below w0.heap.size w0 w) (ho0 : Kd.R (Kd.int .u8) 5 w w0.heap.size P0_ u9000_ l0) (h : coder_carry.f k l0=some r) :
  Calls Try.prog 66 #[u9000_] w fun e w' => e=.returned (.tuple #[])∧Kd.R (Kd.int .u8) 5 w' w0.heap.size (fun k_=>(P0_ k_∨w.heap.size≤k_)) u9000_ r∧Below w0.heap.size w0 w'∧Kept w w' (fun k_=>P0_ k_):=by
 have HO0:=zm (show Kd.R (Kd.int .u8) 5 w w0.heap.size (fun k_=>(P0_ k_∨w.heap.size≤k_)) u9000_ l0 from zG ho0 (fun k_ hk=>(.inl hk)))
 have HK:=zm (Kept.refl w (fun k_=>P0_ k_))
 have HW0:=zm hB.size;have HB:=zm hB;clear hB
 have H : (coder_carry.l0 k l0 (wrap64 ((l0.length : Int) - 1)))=some r:=h
 clear h
 have H' := zm H
 clear H
 obtain ⟨Ao2,co2,eo2⟩:=Kd.R_slice HO0.out
 subst eo2
 go_enter Try.func66,Try.ntmps66
 go_wp2
 go_step3
 go_wp2
 go_step3
 go_wp2
 go_loopg [2] k (fun kq v2 w' => ∃ (x0_1 : List Int) (x2_1 : Int),v2=.int .i64 x2_1∧Aside0 (coder_carry.l0 kq x0_1 x2_1=some r)∧Aside0 (kq≤k)∧Aside0 (Kd.R (Kd.int .u8) 5 w' w0.heap.size (fun k_=>(P0_ k_∨w.heap.size≤k_)) (.slice Ao2 l0.length co2) x0_1)∧Aside0 (Kept w w' (fun k_=>P0_ k_))∧Aside0 (Below w0.heap.size w0 w'))
 case atStart=>exact ⟨(l0),(wrap64 ((l0.length : Int) - 1)),yq,H',⟨Nat.le_refl _⟩,⟨yr HO0⟩,⟨by repeat (first|(with_reducible first|exact HK.out|apply Kept.alloc|apply Kept.drewN|apply Kept.drew)|exact HK.out)⟩,⟨yhb⟩⟩
 case round =>
  clear H'
  obtain ⟨x0_1,x2_1,rfl,HA,HK1,HO_0,HK,HB⟩:=hrel
  have hl0_1:=(Kd.R_reads' HO_0.out).1
  rw [hl0_1] at HO_0
  (try simp only [hl0_1])
  obtain ⟨k1,rfl⟩:=ysu gk (fun h=>by subst h;exact absurd HA.out (by simp [coder_carry.l0]))
  have H:=HA.out;clear HA
  simp only [coder_carry.l0] at H
  by_cases c3 : x2_1 ≥ 0
  ·
   rw [if_pos c3] at H
   have c3b0 : decide (0≤x2_1)=true:=decide_eq_true c3
   clear c3
   obtain ⟨c4,H⟩:=yif H
   have c4b0 : decide (0≤x2_1)=true:=decide_eq_true c4
   clear c4
   obtain ⟨c5,H⟩:=yif H
   have c5b0 : decide (x2_1 < (x0_1.length : Int))=true:=decide_eq_true c5
   clear c5
   obtain ⟨y201,hy201⟩ : ∃ y_ : List Int,y_=(x0_1.set (x2_1 : Int).toNat (((rd x0_1 x2_1)+1) % 256)):=⟨_,rfl⟩
   replace H : (if (rd y201 x2_1)=0 then (coder_carry.l0 k1 y201 (wrap64 (x2_1 - 1))) else (some y201))=some r:=yrw hy201 H
   have Ny201:=zm hy201;clear hy201
   by_cases c7 : (rd y201 x2_1)=0
   ·
    rw [if_pos c7] at H
    have c7b0 : ((rd y201 x2_1) == 0)=true:=beq_iff_eq.mpr c7
    have c7b1 : ((rd y201 x2_1) != 0)=false:=bne_eq_false_iff_eq.mpr c7
    clear c7
    have H' := zm H
    clear H
    have p200 : 0≤(x2_1 : Int):=yt
    have q200 : x2_1 < (x0_1.length : Int):=yt
    obtain ⟨ad200,e200,hx200_0⟩:=Kd.at_int (Kd.R_reads' HO_0.out).2.2 x2_1 p200 q200
    cases e200
    replace p200:=eq_true p200
    replace q200:=eq_true q200
    have p6 : 0≤(x2_1 : Int):=yt
    have q6 : (x2_1 : Int) < ((x0_1.length : Int) : Int):=yt
    obtain ⟨go6,co6,eo6,gb6,gl6,cl6,HG6⟩:=Kd.R_form HO_0.out (by omega)
    (first|cases eo6|(injection eo6 with ea_ en_ ec_;(first|subst ea_|(injection ea_ with ea_;subst ea_));subst ec_;clear en_))
    have GB6:=zm gb6;have GG6:=zm HG6;clear gb6 gl6 HG6
    have HMgo6:=zm (show (P0_ go6∨w.heap.size≤go6) from (HO_0.out.1 _ rfl))
    (first|simp only [add_plain] at hx200_0|skip)
    obtain ⟨hx6_0,hf6_0⟩:=Kd.R_celln 0 HO_0.out (x2_1 : Int) p6 q6
    replace p6:=eq_true p6
    replace q6:=eq_true q6
    have HP8:=Kd.R_putg HO_0.out (x2_1 : Int) (((rd x0_1 x2_1)+1) % 256)
    go_wp2_with (first|((with_reducible refine gate_store (t:=5) (p:=15) rfl ?_);refine store_event (t:=5) (p:=15) (v := ?vo_w9) (w1:=(wr.setCell ⟨go6,(x2_1 : Int).toNat,none⟩ (.int .u8 (((rd x0_1 x2_1)+1) % 256)))) ?hg ?ho ?hn ?hr ?_;(case ho=>rfl);(case hg=>rfl);(case hn=>rfl);(case hr=>first|(go_simp;done)|(go_simp;rfl));intro w9 hw;have hg : wr.grownBy w9 (some go6):=(by rw [hw];exact HP8.2);have hp_ : Kd.R (Kd.int .u8) 5 w9 w0.heap.size (fun k_=>(P0_ k_∨w.heap.size≤k_)) (.slice (some ⟨go6,0,none⟩) x0_1.length co2) y201:=(by rw [hw,Ny201.out];exact HP8.1);clear HP8;replace HB:=zm ((by rw [hw];exact zk (HB.out) GB6.out : Below w0.heap.size w0 w9));replace HK:=zm (Kept.of_grown (S:=(fun k_=>P0_ k_)) hg (by repeat (first|(with_reducible first|exact HK.out|apply Kept.alloc|apply Kept.drewN|apply Kept.drew)|exact HK.out)) (fun k_ e_=>(HO_0.out.1 k_ e_)));replace HO_0:=zm (hp_);clear hg hw hp_;have p202 : 0≤(x2_1 : Int):=yt;have q202 : x2_1 < (y201.length : Int):=(by have h_ : (x2_1 : Int) < ((x0_1.length : Int) : Int):=yt;first|(have e_:=(Kd.R_reads' HO_0.out).1;omega)|simpa only [Ny201.out,List.length_set] using h_);have ql202 : ((x2_1 : Int) < ((x0_1.length : Int) : Int))=True:=eq_true (yt);obtain ⟨ad202,e202,hx202_0⟩:=Kd.at_int (Kd.R_reads' HO_0.out).2.2 x2_1 p202 q202;obtain rfl : (⟨go6,0,none⟩ : Addr)=ad202:=(by injection e202);(first|simp only [add_plain] at hx202_0|simp only [add_at] at hx202_0|simp only [Addr.add,Nat.zero_add] at hx202_0|skip);replace p202:=eq_true p202;replace q202:=eq_true q202))
    (try simp only [← hl0_1])
    go_roundg k1
    case measure=>exact yom1 HK1
    case rel=>exact ⟨(y201),(wrap64 (x2_1 - 1)),yq,H',⟨yom1 HK1⟩,⟨by (try simp only [hl0_1]);(with_reducible repeat (first|apply zo|apply zp|apply zq));exact HO_0.out⟩,⟨by repeat (first|(with_reducible first|exact HK.out|apply Kept.alloc|apply Kept.drewN|apply Kept.drew)|exact HK.out)⟩,⟨yhb⟩⟩
   ·
    rw [if_neg c7] at H
    have c7b0 : ((rd y201 x2_1) == 0)=false:=beq_eq_false_iff_ne.mpr c7
    have c7b1 : ((rd y201 x2_1) != 0)=true:=bne_iff_ne.mpr c7
    obtain rfl:=Option.some.inj H
    have p200 : 0≤(x2_1 : Int):=yt
    have q200 : x2_1 < (x0_1.length : Int):=yt
    obtain ⟨ad200,e200,hx200_0⟩:=Kd.at_int (Kd.R_reads' HO_0.out).2.2 x2_1 p200 q200
    cases e200
    replace p200:=eq_true p200
    replace q200:=eq_true q200
    have p6 : 0≤(x2_1 : Int):=yt
    have q6 : (x2_1 : Int) < ((x0_1.length : Int) : Int):=yt
    obtain ⟨go6,co6,eo6,gb6,gl6,cl6,HG6⟩:=Kd.R_form HO_0.out (by omega)
    (first|cases eo6|(injection eo6 with ea_ en_ ec_;(first|subst ea_|(injection ea_ with ea_;subst ea_));subst ec_;clear en_))
    have GB6:=zm gb6;have GG6:=zm HG6;clear gb6 gl6 HG6
    have HMgo6:=zm (show (P0_ go6∨w.heap.size≤go6) from (HO_0.out.1 _ rfl))
    (first|simp only [add_plain] at hx200_0|skip)
    obtain ⟨hx6_0,hf6_0⟩:=Kd.R_celln 0 HO_0.out (x2_1 : Int) p6 q6
    replace p6:=eq_true p6
    replace q6:=eq_true q6
    have HP10:=Kd.R_putg HO_0.out (x2_1 : Int) (((rd x0_1 x2_1)+1) % 256)
    go_wp2_with (first|((with_reducible refine gate_store (t:=5) (p:=15) rfl ?_);refine store_event (t:=5) (p:=15) (v := ?vo_w11) (w1:=(wr.setCell ⟨go6,(x2_1 : Int).toNat,none⟩ (.int .u8 (((rd x0_1 x2_1)+1) % 256)))) ?hg ?ho ?hn ?hr ?_;(case ho=>rfl);(case hg=>rfl);(case hn=>rfl);(case hr=>first|(go_simp;done)|(go_simp;rfl));intro w11 hw;have hg : wr.grownBy w11 (some go6):=(by rw [hw];exact HP10.2);have hp_ : Kd.R (Kd.int .u8) 5 w11 w0.heap.size (fun k_=>(P0_ k_∨w.heap.size≤k_)) (.slice (some ⟨go6,0,none⟩) x0_1.length co2) y201:=(by rw [hw,Ny201.out];exact HP10.1);clear HP10;replace HB:=zm ((by rw [hw];exact zk (HB.out) GB6.out : Below w0.heap.size w0 w11));replace HK:=zm (Kept.of_grown (S:=(fun k_=>P0_ k_)) hg (by repeat (first|(with_reducible first|exact HK.out|apply Kept.alloc|apply Kept.drewN|apply Kept.drew)|exact HK.out)) (fun k_ e_=>(HO_0.out.1 k_ e_)));replace HO_0:=zm (hp_);clear hg hw hp_;have p202 : 0≤(x2_1 : Int):=yt;have q202 : x2_1 < (y201.length : Int):=(by have h_ : (x2_1 : Int) < ((x0_1.length : Int) : Int):=yt;first|(have e_:=(Kd.R_reads' HO_0.out).1;omega)|simpa only [Ny201.out,List.length_set] using h_);have ql202 : ((x2_1 : Int) < ((x0_1.length : Int) : Int))=True:=eq_true (yt);obtain ⟨ad202,e202,hx202_0⟩:=Kd.at_int (Kd.R_reads' HO_0.out).2.2 x2_1 p202 q202;obtain rfl : (⟨go6,0,none⟩ : Addr)=ad202:=(by injection e202);(first|simp only [add_plain] at hx202_0|simp only [add_at] at hx202_0|simp only [Addr.add,Nat.zero_add] at hx202_0|skip);replace p202:=eq_true p202;replace q202:=eq_true q202))
    first|go_end0|((try simp only [Exit.inBlock,Exit.then]);refine bodyPost_ret (results_none rfl _ _ _) rfl ?_)
    exact ⟨ye,(by first|exact (yr HO_0)|(simp only [hl0_1];exact (yr HO_0))),yhb,by repeat (first|(with_reducible first|exact HK.out|apply Kept.alloc|apply Kept.drewN|apply Kept.drew)|exact HK.out)⟩
  ·
   rw [if_neg c3] at H
   have c3b0 : decide (0≤x2_1)=false:=decide_eq_false c3
   clear c3
   obtain rfl:=Option.some.inj H
   go_wp2
   first|go_end0|((try simp only [Exit.inBlock,Exit.then]);refine bodyPost_ret (results_none rfl _ _ _) rfl ?_)
   exact ⟨ye,(by first|exact (yr HO_0)|(simp only [hl0_1];exact (yr HO_0))),yhb,by repeat (first|(with_reducible first|exact HK.out|apply Kept.alloc|apply Kept.drewN|apply Kept.drew)|exact HK.out)⟩
def coder_fair.f (a0 : Int) (a1 : Int) (a2 : Int) : Option (Bool):=if a0 ≥ 0 then (if a0 < a1 then (if a1≤a2 then (some (decide (a2≤65536))) else (some false)) else (some false)) else (some false)
set_option maxHeartbeats 8000000 in
set_option maxRecDepth 100000 in
theorem coder_fair.calls (a0 : Int) (a1 : Int) (a2 : Int) (r : Bool) (w : World) (h : coder_fair.f a0 a1 a2=some r) :
  Calls Try.prog 64 #[.int .i64 a0, .int .i64 a1, .int .i64 a2] w fun e w' => e=.returned (.bool r)∧Drawn0 w w' := by
 have H : (if a0 ≥ 0 then (if a0 < a1 then (if a1≤a2 then (some (decide (a2≤65536))) else (some false)) else (some false)) else (some false))=some r:=h
 clear h
 by_cases c4 : a0 ≥ 0
 ·
  rw [if_pos c4] at H
  have c4b0 : decide (0≤a0)=true:=decide_eq_true c4
  clear c4
  by_cases c5 : a0 < a1
  ·
   rw [if_pos c5] at H
   have c5b0 : decide (a0 < a1)=true:=decide_eq_true c5
   clear c5
   by_cases c6 : a1≤a2
   ·
    rw [if_pos c6] at H
    have c6b0 : decide (a1≤a2)=true:=decide_eq_true c6
    clear c6
    obtain rfl:=Option.some.inj H
    go_enter Try.func64,Try.ntmps64
    go_wp2
    go_ret
    exact ⟨yq,yd⟩
   ·
    rw [if_neg c6] at H
    have c6b0 : decide (a1≤a2)=false:=decide_eq_false c6
    clear c6
    obtain rfl:=Option.some.inj H
    go_enter Try.func64,Try.ntmps64
    go_wp2
    go_ret
    exact ⟨yq,yd⟩
  ·
   rw [if_neg c5] at H
   have c5b0 : decide (a0 < a1)=false:=decide_eq_false c5
   clear c5
   obtain rfl:=Option.some.inj H
   go_enter Try.func64,Try.ntmps64
   go_wp2
   go_ret
   exact ⟨yq,yd⟩
 ·
  rw [if_neg c4] at H
  have c4b0 : decide (0≤a0)=false:=decide_eq_false c4
  clear c4
  obtain rfl:=Option.some.inj H
  go_enter Try.func64,Try.ntmps64
  go_wp2
  go_ret
  exact ⟨yq,yd⟩
def coder_part.f (a0 : Int) (a1 : Int) (a2 : Int) (a3 : Int) : Option (Int × Int):=if ((a3) % 4294967296)=0 then (none) else (if a2=a3 then (some ((a0 - ((IntKind.u64.wrap (((Int.tdiv a0 ((a3) % 4294967296)) % 4294967296) * (IntKind.u64.wrap (a1)))) % 4294967296)) % 4294967296,IntKind.u64.wrap (((Int.tdiv a0 ((a3) % 4294967296)) % 4294967296) * (IntKind.u64.wrap (a1))))) else (some ((((Int.tdiv a0 ((a3) % 4294967296)) % 4294967296) * ((wrap64 (a2 - a1)) % 4294967296)) % 4294967296,IntKind.u64.wrap (((Int.tdiv a0 ((a3) % 4294967296)) % 4294967296) * (IntKind.u64.wrap (a1))))))
set_option maxHeartbeats 8000000 in
set_option maxRecDepth 100000 in
theorem coder_part.calls (a0 : Int) (a1 : Int) (a2 : Int) (a3 : Int) (r1 : Int) (r2 : Int) (w : World) (h : coder_part.f a0 a1 a2 a3=some (r1,r2)) :
  Calls Try.prog 65 #[.int .u32 a0, .int .i64 a1, .int .i64 a2, .int .i64 a3] w fun e w' => e=.returned (.tuple #[.int .u32 r1, .int .u64 r2])∧Drawn0 w w' := by
 have H : (if ((a3) % 4294967296)=0 then (none) else (if a2=a3 then (some ((a0 - ((IntKind.u64.wrap (((Int.tdiv a0 ((a3) % 4294967296)) % 4294967296) * (IntKind.u64.wrap (a1)))) % 4294967296)) % 4294967296,IntKind.u64.wrap (((Int.tdiv a0 ((a3) % 4294967296)) % 4294967296) * (IntKind.u64.wrap (a1))))) else (some ((((Int.tdiv a0 ((a3) % 4294967296)) % 4294967296) * ((wrap64 (a2 - a1)) % 4294967296)) % 4294967296,IntKind.u64.wrap (((Int.tdiv a0 ((a3) % 4294967296)) % 4294967296) * (IntKind.u64.wrap (a1)))))))=some (r1,r2):=h
 clear h
 obtain ⟨c5,H⟩:=yie H
 have c5b0 : (((a3) % 4294967296) == 0)=false:=beq_eq_false_iff_ne.mpr c5
 have c5b1 : (((a3) % 4294967296) != 0)=true:=bne_iff_ne.mpr c5
 by_cases c6 : a2=a3
 ·
  rw [if_pos c6] at H
  have c6b0 : (a2 == a3)=true:=beq_iff_eq.mpr c6
  have c6b1 : (a2 != a3)=false:=bne_eq_false_iff_eq.mpr c6
  clear c6
  simp only [Option.some.injEq,Prod.mk.injEq] at H
  obtain ⟨rfl,rfl⟩:=H
  go_enter Try.func65,Try.ntmps65
  go_wp2
  go_ret2
  exact ⟨yq,yd⟩
 ·
  rw [if_neg c6] at H
  have c6b0 : (a2 == a3)=false:=beq_eq_false_iff_ne.mpr c6
  have c6b1 : (a2 != a3)=true:=bne_iff_ne.mpr c6
  simp only [Option.some.injEq,Prod.mk.injEq] at H
  obtain ⟨rfl,rfl⟩:=H
  go_enter Try.func65,Try.ntmps65
  go_wp2
  go_ret2
  exact ⟨yq,yd⟩
mutual
def coder_Put.j0 : Nat→Int→Int→Int→List Int→Option (Int × Int × List Int × Int)
 | 0,_,_,_,_=>none
 | k+1,x10,x204000,x204001,x204002=>coder_Put.l0 k x10 x204000 x204001 x204002
def coder_Put.l0 : Nat→Int→Int→Int→List Int→Option (Int × Int × List Int × Int)
 | 0,_,_,_,_=>none
 | k+1,x10,x204000,x204001,x204002=>if x10 < 16777216 then (if x204002.length < 140737488355328 then (coder_Put.l0 k ((x10 * 256) % 4294967296) (Go.bits .and .u64 (IntKind.u64.wrap (x204000 * 256)) 4294967295) x204001 (x204002 ++ [(x204000 / 16777216) % 256])) else (none)) else (some (x204000,x10,x204002,0))
end
def coder_Put.f (k : Nat) (a0_0 : Int) (a0_1 : Int) (l0_2 : List Int) (a1 : Int) (a2 : Int) (a3 : Int) : Option (Int × Int × List Int × Int):=(coder_own.f a0_0 a0_1 l0_2).bind fun bt205=>((coder_fair.f a1 a2 a3).bind fun t210=>(if t210=true then (if (bt205.2.2.length : Int) ≥ 3996 then (some (bt205.1,bt205.2.1,bt205.2.2,3)) else ((coder_part.f bt205.2.1 a1 a2 a3).bind fun bt211=>(if (IntKind.u64.wrap (bt205.1+bt211.2)) > 4294967295 then ((coder_carry.f k bt205.2.2).bind fun t213=>(coder_Put.j0 k bt211.1 (Go.bits .and .u64 (IntKind.u64.wrap (bt205.1+bt211.2)) 4294967295) bt205.2.1 t213)) else (coder_Put.j0 k bt211.1 (IntKind.u64.wrap (bt205.1+bt211.2)) bt205.2.1 bt205.2.2)))) else (some (bt205.1,bt205.2.1,bt205.2.2,1))))
theorem coder_Put.mono_l : ∀ k,(∀ y0 y1 y2 y3,LeO (coder_Put.j0 k y0 y1 y2 y3) (coder_Put.j0 (k+1) y0 y1 y2 y3))∧(∀ y0 y1 y2 y3,LeO (coder_Put.l0 k y0 y1 y2 y3) (coder_Put.l0 (k+1) y0 y1 y2 y3))
 | 0=>⟨fun _ _ _ _ r h=>by simp [coder_Put.j0] at h,fun _ _ _ _ r h=>by simp [coder_Put.l0] at h⟩
 | k+1=>by
  obtain ⟨ih0,ih1⟩:=coder_Put.mono_l k
  refine ⟨?_, ?_⟩
  ·
   intro y0 y1 y2 y3
   unfold coder_Put.j0
   repeat' with_reducible first|apply ih0|apply ih1|apply coder_carry.mono|apply yLr|apply yLn|apply yLi|apply yLb|intro _
  ·
   intro y0 y1 y2 y3
   unfold coder_Put.l0
   repeat' with_reducible first|apply ih0|apply ih1|apply coder_carry.mono|apply yLr|apply yLn|apply yLi|apply yLb|intro _
theorem coder_Put.mono : ∀ a0 a1 a2 a3 a4 a5 k,LeO (coder_Put.f k a0 a1 a2 a3 a4 a5) (coder_Put.f (k+1) a0 a1 a2 a3 a4 a5):=by
 intro a0 a1 a2 a3 a4 a5 k
 obtain ⟨ih0,ih1⟩:=coder_Put.mono_l k
 unfold coder_Put.f
 repeat' with_reducible first|apply ih0|apply ih1|apply coder_carry.mono|apply yLr|apply yLn|apply yLi|apply yLb|intro _
set_option maxHeartbeats 8000000 in
set_option maxRecDepth 100000 in
theorem coder_Put.calls (k : Nat) (a0_0 : Int) (a0_1 : Int) (A0_2 : Option Addr) (c0_2 : Nat) (l0_2 : List Int) (a1 : Int) (a2 : Int) (a3 : Int) (r1 : Int) (r2 : Int) (r3 : List Int) (r4 : Int) (w : World) (hr0_2 : Kd.C (Kd.int .u8) w A0_2 l0_2.length l0_2) (hc0_2 : l0_2.length≤c0_2) (h : coder_Put.f k a0_0 a0_1 l0_2 a1 a2 a3=some (r1,r2,r3,r4)) :
  Calls Try.prog 26 #[.agg #[.int .u64 a0_0, .int .u32 a0_1, .slice A0_2 l0_2.length c0_2], .int .i64 a1, .int .i64 a2, .int .i64 a3] w fun e w' => ∃ v2_ : Value,e=.returned (.tuple #[.agg #[.int .u64 r1, .int .u32 r2,v2_], .int .i64 r4])∧Kd.R (Kd.int .u8) 5 w' w.heap.size (fun _=>True) v2_ r3∧Below w.heap.size w w' := by
 have hu54:=Try.underlying54;have HR0_2:=zm hr0_2;have HC0_2:=zm hc0_2;clear hr0_2 hc0_2;have HB:=zm (Below.refl w.heap.size w)
 have H : ((coder_own.f a0_0 a0_1 l0_2).bind fun bt205=>((coder_fair.f a1 a2 a3).bind fun t210=>(if t210=true then (if (bt205.2.2.length : Int) ≥ 3996 then (some (bt205.1,bt205.2.1,bt205.2.2,3)) else ((coder_part.f bt205.2.1 a1 a2 a3).bind fun bt211=>(if (IntKind.u64.wrap (bt205.1+bt211.2)) > 4294967295 then ((coder_carry.f k bt205.2.2).bind fun t213=>(coder_Put.j0 k bt211.1 (Go.bits .and .u64 (IntKind.u64.wrap (bt205.1+bt211.2)) 4294967295) bt205.2.1 t213)) else (coder_Put.j0 k bt211.1 (IntKind.u64.wrap (bt205.1+bt211.2)) bt205.2.1 bt205.2.2)))) else (some (bt205.1,bt205.2.1,bt205.2.2,1)))))=some (r1,r2,r3,r4):=h
 clear h
 obtain ⟨⟨t205,t206,t207⟩,A5,H⟩:=ybi H
 try dsimp only at H
 obtain ⟨t210,A6,H⟩:=ybi H
 by_cases c7 : t210=true
 ·
  subst c7
  rw [if_pos rfl] at H
  by_cases c8 : (t207.length : Int) ≥ 3996
  ·
   rw [if_pos c8] at H
   have c8b0 : decide (3996≤(t207.length : Int))=true:=decide_eq_true c8
   have c8b1 : decide (3996≤t207.length)=true:=decide_eq_true (by omega)
   clear c8
   simp only [Option.some.injEq,Prod.mk.injEq] at H
   obtain ⟨rfl,rfl,rfl,rfl⟩:=H
   go_enter Try.func26,Try.ntmps26
   go_wp2_with (first|((with_reducible refine gate_dst (N:=4) rfl ?_);refine ybx 4 #[.int .u64 a0_0, .int .u32 a0_1, .slice A0_2 l0_2.length c0_2] 54 ?_;intro gb203 hg w9 hbox hb;have BK203:=zm (hbox);have GW203:=ygw hg;have GE203:=ygw hg;replace HB:=ybs hb;clear hb hbox hg)|((with_reducible refine gate_dst (N:=8) rfl ?_);refine ybx 8 #[.int .u64 0, .int .u32 0, .slice none 0 0] 54 ?_;intro gb204 hg w10 hbox hb;have BK204:=zm (hbox);have GW204:=ygw hg;have GE204:=ygw hg;replace HB:=ybs hb;have NB203_204:=ynl BK203 hg;have NB204_203:=yng BK203 hg;replace BK203:=ybb BK203 hb;clear hb hbox hg;have:=NB203_204.out;have:=NB204_203.out;obtain ⟨hcz12_0,hcz12_1,hcz12_2,hfz12_0,hfz12_1,hfz12_2⟩:=yc3 BK203)|((with_reducible refine gate_callee (f:=63) rfl ?_);refine ygl 13 Try.func63 #[.agg #[.int .u64 a0_0, .int .u32 a0_1, .slice A0_2 l0_2.length c0_2]] ?_;(with_reducible refine (coder_own.calls a0_0 a0_1 _ _ l0_2 t205 t206 t207 _ ?side1 HC0_2.out A5.out).mono ?_);(case side1=>exact ycb HR0_2);rintro e w13 ⟨v208,rfl,ho0,hb⟩;refine ⟨_,rfl, ?_⟩;have HO209:=zm (Kd.R_lower ho0 (zE yhb));replace BK203:=ybb BK203 hb;replace BK204:=ybb BK204 hb;replace HB:=ybs hb;(try clear hb);(try clear ho0);obtain ⟨hcz14_0,hcz14_1,hcz14_2,hfz14_0,hfz14_1,hfz14_2⟩:=yc3 BK203;obtain ⟨Ao15,co15,eo15⟩:=Kd.R_slice HO209.out;subst eo15)|((with_reducible refine gate_store (t:=54) (p:=4) rfl ?_);refine store_event (t:=54) (p:=4) (v := ?vo_w16) (w1:=(((w13.setCell ⟨gb203,0,none⟩ (.int .u64 t205)).setCell ⟨gb203,1,none⟩ (.int .u32 t206)).setCell ⟨gb203,2,none⟩ (.slice Ao15 t207.length co15))) ?hg ?ho ?hn ?hr ?_;(case ho=>rfl);(case hg=>rfl);(case hn=>rfl);(case hr=>first|(go_simp;done)|(go_simp;rfl));intro w16 hw;replace HO209 : Aside0 (Kd.R (Kd.int .u8) 5 w16 w.heap.size (fun _=>True) (.slice Ao15 t207.length co15) t207):=⟨(by rw [hw];exact (yR1 HO209 BK203))⟩;replace BK203 : Aside0 (w16.heap[gb203]? = some (.cells #[.int .u64 t205, .int .u32 t206, .slice Ao15 t207.length co15] 54 (0,0))):=⟨(by rw [hw];exact (ykp BK203))⟩;replace BK204 : Aside0 (w16.heap[gb204]? = some (.cells #[.int .u64 0, .int .u32 0, .slice none 0 0] 54 (0,0))):=⟨(by rw [hw];exact (yk BK204))⟩;replace HB : Aside0 (Below w.heap.size w w16):=⟨(by rw [hw];exact yhb)⟩;clear hw)|((with_reducible refine gate_callee (f:=64) rfl ?_);refine ygl 17 Try.func64 #[.int .i64 a1, .int .i64 a2, .int .i64 a3] ?_;(with_reducible refine (coder_fair.calls a1 a2 a3 true _ A6.out).mono ?_);rintro e w' ⟨rfl,⟨nd,rfl⟩⟩;refine ⟨_,rfl, ?_⟩;(try (rw [drewN_self w16];generalize hq_ : World.drewN w16 _=w16;have n0_ : Aside0 (Kd.R (Kd.int .u8) 5 w16 w.heap.size (fun _=>True) (.slice Ao15 t207.length co15) t207):=⟨by rw [← hq_];exact (yr HO209)⟩;have n1_ : Aside0 (w16.heap[gb203]? = some (.cells #[.int .u64 t205, .int .u32 t206, .slice Ao15 t207.length co15] 54 (0,0))):=⟨by rw [← hq_];exact (yk BK203)⟩;have n2_ : Aside0 (w16.heap[gb204]? = some (.cells #[.int .u64 0, .int .u32 0, .slice none 0 0] 54 (0,0))):=⟨by rw [← hq_];exact (yk BK204)⟩;have n3_ : Aside0 (Below w.heap.size w w16):=⟨by rw [← hq_];exact yhb⟩;clear HO209 BK203 BK204 HB hq_;have HO209:=n0_;have BK203:=n1_;have BK204:=n2_;have HB:=n3_;clear n0_ n1_ n2_ n3_));obtain ⟨hcz17_0,hcz17_1,hcz17_2,hfz17_0,hfz17_1,hfz17_2⟩:=yc3 BK203;obtain ⟨hcz18_0,hcz18_1,hcz18_2,hfz18_0,hfz18_1,hfz18_2⟩:=yc3 BK204))
   refine bodyPost_ret (results_ct rfl _ _ gb204 54 #[.int .u64 t205, .int .u32 t206, .slice Ao15 t207.length co15] (0,0) _ rfl (ykp BK204) Try.underlying54 rfl (by kernel_rfl)) rfl ?_
   exact ⟨_,ye,yR1 HO209 BK204,yhb⟩
  ·
   rw [if_neg c8] at H
   have c8b0 : decide (3996≤(t207.length : Int))=false:=decide_eq_false c8
   have c8b1 : decide (3996≤t207.length)=false:=decide_eq_false (by omega)
   clear c8
   obtain ⟨⟨t211,t212⟩,A19,H⟩:=ybi H
   try dsimp only at H
   have HC20:=zm H;clear H
   go_enter Try.func26,Try.ntmps26
   go_upto_if 41 with (first|((with_reducible refine gate_dst (N:=4) rfl ?_);refine ybx 4 #[.int .u64 a0_0, .int .u32 a0_1, .slice A0_2 l0_2.length c0_2] 54 ?_;intro gb203 hg w21 hbox hb;have BK203:=zm (hbox);have GW203:=ygw hg;have GE203:=ygw hg;replace HB:=ybs hb;clear hb hbox hg)|((with_reducible refine gate_dst (N:=8) rfl ?_);refine ybx 8 #[.int .u64 0, .int .u32 0, .slice none 0 0] 54 ?_;intro gb204 hg w22 hbox hb;have BK204:=zm (hbox);have GW204:=ygw hg;have GE204:=ygw hg;replace HB:=ybs hb;have NB203_204:=ynl BK203 hg;have NB204_203:=yng BK203 hg;replace BK203:=ybb BK203 hb;clear hb hbox hg;have:=NB203_204.out;have:=NB204_203.out;obtain ⟨hcz24_0,hcz24_1,hcz24_2,hfz24_0,hfz24_1,hfz24_2⟩:=yc3 BK203)|((with_reducible refine gate_callee (f:=63) rfl ?_);refine ygl 13 Try.func63 #[.agg #[.int .u64 a0_0, .int .u32 a0_1, .slice A0_2 l0_2.length c0_2]] ?_;(with_reducible refine (coder_own.calls a0_0 a0_1 _ _ l0_2 t205 t206 t207 _ ?side1 HC0_2.out A5.out).mono ?_);(case side1=>exact ycb HR0_2);rintro e w25 ⟨v208,rfl,ho0,hb⟩;refine ⟨_,rfl, ?_⟩;have HO209:=zm (Kd.R_lower ho0 (zE yhb));replace BK203:=ybb BK203 hb;replace BK204:=ybb BK204 hb;replace HB:=ybs hb;(try clear hb);(try clear ho0);obtain ⟨hcz26_0,hcz26_1,hcz26_2,hfz26_0,hfz26_1,hfz26_2⟩:=yc3 BK203;obtain ⟨Ao27,co27,eo27⟩:=Kd.R_slice HO209.out;subst eo27)|((with_reducible refine gate_store (t:=54) (p:=4) rfl ?_);refine store_event (t:=54) (p:=4) (v := ?vo_w28) (w1:=(((w25.setCell ⟨gb203,0,none⟩ (.int .u64 t205)).setCell ⟨gb203,1,none⟩ (.int .u32 t206)).setCell ⟨gb203,2,none⟩ (.slice Ao27 t207.length co27))) ?hg ?ho ?hn ?hr ?_;(case ho=>rfl);(case hg=>rfl);(case hn=>rfl);(case hr=>first|(go_simp;done)|(go_simp;rfl));intro w28 hw;replace HO209 : Aside0 (Kd.R (Kd.int .u8) 5 w28 w.heap.size (fun _=>True) (.slice Ao27 t207.length co27) t207):=⟨(by rw [hw];exact (yR1 HO209 BK203))⟩;replace BK203 : Aside0 (w28.heap[gb203]? = some (.cells #[.int .u64 t205, .int .u32 t206, .slice Ao27 t207.length co27] 54 (0,0))):=⟨(by rw [hw];exact (ykp BK203))⟩;replace BK204 : Aside0 (w28.heap[gb204]? = some (.cells #[.int .u64 0, .int .u32 0, .slice none 0 0] 54 (0,0))):=⟨(by rw [hw];exact (yk BK204))⟩;replace HB : Aside0 (Below w.heap.size w w28):=⟨(by rw [hw];exact yhb)⟩;clear hw)|((with_reducible refine gate_callee (f:=64) rfl ?_);refine ygl 17 Try.func64 #[.int .i64 a1, .int .i64 a2, .int .i64 a3] ?_;(with_reducible refine (coder_fair.calls a1 a2 a3 true _ A6.out).mono ?_);rintro e w' ⟨rfl,⟨nd,rfl⟩⟩;refine ⟨_,rfl, ?_⟩;(try (rw [drewN_self w28];generalize hq_ : World.drewN w28 _=w28;have n0_ : Aside0 (Kd.R (Kd.int .u8) 5 w28 w.heap.size (fun _=>True) (.slice Ao27 t207.length co27) t207):=⟨by rw [← hq_];exact (yr HO209)⟩;have n1_ : Aside0 (w28.heap[gb203]? = some (.cells #[.int .u64 t205, .int .u32 t206, .slice Ao27 t207.length co27] 54 (0,0))):=⟨by rw [← hq_];exact (yk BK203)⟩;have n2_ : Aside0 (w28.heap[gb204]? = some (.cells #[.int .u64 0, .int .u32 0, .slice none 0 0] 54 (0,0))):=⟨by rw [← hq_];exact (yk BK204)⟩;have n3_ : Aside0 (Below w.heap.size w w28):=⟨by rw [← hq_];exact yhb⟩;clear HO209 BK203 BK204 HB hq_;have HO209:=n0_;have BK203:=n1_;have BK204:=n2_;have HB:=n3_;clear n0_ n1_ n2_ n3_));obtain ⟨hcz29_0,hcz29_1,hcz29_2,hfz29_0,hfz29_1,hfz29_2⟩:=yc3 BK203)|((with_reducible refine gate_callee (f:=65) rfl ?_);refine ygl 31 Try.func65 #[.int .u32 t206, .int .i64 a1, .int .i64 a2, .int .i64 a3] ?_;(with_reducible refine (coder_part.calls t206 a1 a2 a3 t211 t212 _ A19.out).mono ?_);rintro e w' ⟨rfl,⟨nd,rfl⟩⟩;refine ⟨_,rfl, ?_⟩;(try (rw [drewN_self w28];generalize hq_ : World.drewN w28 _=w28;have n0_ : Aside0 (Kd.R (Kd.int .u8) 5 w28 w.heap.size (fun _=>True) (.slice Ao27 t207.length co27) t207):=⟨by rw [← hq_];exact (yr HO209)⟩;have n1_ : Aside0 (w28.heap[gb203]? = some (.cells #[.int .u64 t205, .int .u32 t206, .slice Ao27 t207.length co27] 54 (0,0))):=⟨by rw [← hq_];exact (yk BK203)⟩;have n2_ : Aside0 (w28.heap[gb204]? = some (.cells #[.int .u64 0, .int .u32 0, .slice none 0 0] 54 (0,0))):=⟨by rw [← hq_];exact (yk BK204)⟩;have n3_ : Aside0 (Below w.heap.size w w28):=⟨by rw [← hq_];exact yhb⟩;clear HO209 BK203 BK204 HB hq_;have HO209:=n0_;have BK203:=n1_;have BK204:=n2_;have HB:=n3_;clear n0_ n1_ n2_ n3_));obtain ⟨hcz30_0,hcz30_1,hcz30_2,hfz30_0,hfz30_1,hfz30_2⟩:=yc3 BK203))
   (try simp only [Act.put,List.setIfInBounds_toArray,List.set_cons_zero,List.set_cons_succ])
   go_cut [] (fun wc => ∃ (kq : Nat) (x204000_19 : Int) (x204002_19 : List Int) (u204002 : Value),Aside0 (coder_Put.j0 kq t211 x204000_19 t206 x204002_19=some (r1,r2,r3,r4))∧Aside0 (kq≤k)∧Aside0 (Kd.R (Kd.int .u8) 5 wc w.heap.size (fun _=>True) u204002 x204002_19)∧Aside0 (wc.heap[gb203]? = some (.cells #[.int .u64 x204000_19, .int .u32 t206,u204002] 54 (0,0)))∧Aside0 (wc.heap[gb204]? = some (.cells #[.int .u64 0, .int .u32 0,(.slice none 0 0)] 54 (0,0)))∧Aside0 (Below w.heap.size w wc))
   case first =>
    have H:=HC20.out;clear HC20
    by_cases c31 : (IntKind.u64.wrap (t205+t212)) > 4294967295
    ·
     rw [if_pos c31] at H
     have c31b0 : decide (4294967295 < (IntKind.u64.wrap (t205+t212)))=true:=decide_eq_true c31
     clear c31
     (first|rw [c31b0]|(simp only [i64_w,i32_w];rw [c31b0])|skip)
     obtain ⟨t213,A32,H⟩:=ybi H
     have H' := zm H
     clear H
     have:=NB203_204.out
     have:=NB204_203.out
     obtain ⟨_,_,_,_,_,_⟩:=yc3 BK203
     go_wp2_with (first|((with_reducible refine gate_store (t:=51) (p:=45) rfl ?_);refine store_event (t:=51) (p:=45) (v := ?vo_w35) (w1:=((w28.setCell ⟨gb203,0,none⟩ (.int .u64 (IntKind.u64.wrap (t205+t212)))).setCell ⟨gb203,0,none⟩ (.int .u64 (Go.bits .and .u64 (IntKind.u64.wrap (t205+t212)) 4294967295)))) ?hg ?ho ?hn ?hr ?_;(case ho=>rfl);(case hg=>rfl);(case hn=>rfl);(case hr=>first|(go_simp;done)|(go_simp;rfl));intro w35 hw;replace HO209 : Aside0 (Kd.R (Kd.int .u8) 5 w35 w.heap.size (fun _=>True) (.slice Ao27 t207.length co27) t207):=⟨(by rw [hw];exact (yR1 HO209 BK203))⟩;replace BK203 : Aside0 (w35.heap[gb203]? = some (.cells #[.int .u64 (Go.bits .and .u64 (IntKind.u64.wrap (t205+t212)) 4294967295), .int .u32 t206, .slice Ao27 t207.length co27] 54 (0,0))):=⟨(by rw [hw];exact (ykp BK203))⟩;replace BK204 : Aside0 (w35.heap[gb204]? = some (.cells #[.int .u64 0, .int .u32 0, .slice none 0 0] 54 (0,0))):=⟨(by rw [hw];exact (yk BK204))⟩;replace HB : Aside0 (Below w.heap.size w w35):=⟨(by rw [hw];exact yhb)⟩;clear hw;obtain ⟨_,_,_,_,_,_⟩:=yc3 BK203)|((with_reducible refine gate_callee (f:=66) rfl ?_);refine ygl 48 Try.func66 #[.slice Ao27 t207.length co27] ?_;(with_reducible refine (coder_carry.calls k (fun k_=>some k_=(.slice Ao27 t207.length co27 : Value).ownBlock) (.slice Ao27 t207.length co27) t207 t213 w _ ?side1 ?side2 A32.out).mono ?_);(case side1=>exact yhb);(case side2=>exact Kd.R_tight rfl HO209.out);rintro e w37 ⟨rfl,hy0,hb,hkp⟩;refine ⟨_,rfl, ?_⟩;replace BK203:=zm (blk_kept (yk BK203) hkp (fun hs_=>(fun e_=>(zu HO209.out BK203.out (by decide)) e_) hs_));replace BK204:=zm (blk_kept (yk BK204) hkp (fun hs_=>(fun e_=>(zu HO209.out BK204.out (by decide)) e_) hs_));replace HO209:=zm (Kd.R_reok rfl hy0 (fun k_ e_=>HO209.out.1 k_ e_));replace HB:=zm (hb);(try clear hb);(try clear hkp);(try clear hy0)))
     go_meet
     case rel=>exact ⟨_,(Go.bits .and .u64 (IntKind.u64.wrap (t205+t212)) 4294967295),(t213),(.slice Ao27 t207.length co27),H',⟨yo⟩,⟨yr HO209⟩,⟨yk BK203⟩,⟨yk BK204⟩,⟨yhb⟩⟩
    ·
     rw [if_neg c31] at H
     have c31b0 : decide (4294967295 < (IntKind.u64.wrap (t205+t212)))=false:=decide_eq_false c31
     clear c31
     (first|rw [c31b0]|(simp only [i64_w,i32_w];rw [c31b0])|skip)
     have H' := zm H
     clear H
     go_wp2
     go_meet
     case rel=>exact ⟨_,(IntKind.u64.wrap (t205+t212)),(t207),(.slice Ao27 t207.length co27),H',⟨yo⟩,⟨yR1 HO209 BK203⟩,⟨ykp BK203⟩,⟨yk BK204⟩,⟨yhb⟩⟩
   case rest =>
    clear HC20
    try clear c8b0
    try clear c8b1
    try clear hcz12_0
    try clear hcz12_1
    try clear hcz12_2
    try clear hcz14_0
    try clear hcz14_1
    try clear hcz14_2
    try clear hcz17_0
    try clear hcz17_1
    try clear hcz17_2
    try clear hcz18_0
    try clear hcz18_1
    try clear hcz18_2
    try clear hcz24_0
    try clear hcz24_1
    try clear hcz24_2
    try clear hcz26_0
    try clear hcz26_1
    try clear hcz26_2
    try clear hcz29_0
    try clear hcz29_1
    try clear hcz29_2
    try clear hcz30_0
    try clear hcz30_1
    try clear hcz30_2
    try clear hfz12_0
    try clear hfz12_1
    try clear hfz12_2
    try clear hfz14_0
    try clear hfz14_1
    try clear hfz14_2
    try clear hfz17_0
    try clear hfz17_1
    try clear hfz17_2
    try clear hfz18_0
    try clear hfz18_1
    try clear hfz18_2
    try clear hfz24_0
    try clear hfz24_1
    try clear hfz24_2
    try clear hfz26_0
    try clear hfz26_1
    try clear hfz26_2
    try clear hfz29_0
    try clear hfz29_1
    try clear hfz29_2
    try clear hfz30_0
    try clear hfz30_1
    try clear hfz30_2
    obtain ⟨kq,x204000_19,x204002_19,u204002,HA,HJ19,HO_204002,BK203,BK204,HB⟩:=hcut
    obtain ⟨kj19,rfl⟩:=ysu kq (fun h=>by subst h;exact absurd HA.out (by simp [coder_Put.j0]))
    have H:=HA.out;clear HA
    simp only [coder_Put.j0] at H
    have H' := zm H
    clear H
    go_wp2
    go_loopg [10] kj19 (fun kq v10 w' => ∃ (x10_2 : Int) (x204000_2 : Int) (x204002_2 : List Int) (u204002 : Value),v10=.int .u32 x10_2∧Aside0 (coder_Put.l0 kq x10_2 x204000_2 t206 x204002_2=some (r1,r2,r3,r4))∧Aside0 (kq≤kj19)∧Aside0 (Kd.R (Kd.int .u8) 5 w' w.heap.size (fun _=>True) u204002 x204002_2)∧Aside0 (w'.heap[gb203]? = some (.cells #[.int .u64 x204000_2, .int .u32 t206,u204002] 54 (0,0)))∧Aside0 (w'.heap[gb204]? = some (.cells #[.int .u64 0, .int .u32 0,(.slice none 0 0)] 54 (0,0)))∧Aside0 (Below w.heap.size w w'))
    case atStart=>exact ⟨(t211),(x204000_19),(x204002_19),(u204002),yq,H',⟨Nat.le_refl _⟩,⟨yr HO_204002⟩,⟨yk BK203⟩,⟨yk BK204⟩,⟨yhb⟩⟩
    case round =>
     clear H'
     obtain ⟨x10_2,x204000_2,x204002_2,u204002,rfl,HA,HK2,HO_204002,BK203,BK204,HB⟩:=hrel
     obtain ⟨k2,rfl⟩:=ysu gk (fun h=>by subst h;exact absurd HA.out (by simp [coder_Put.l0]))
     have H:=HA.out;clear HA
     simp only [coder_Put.l0] at H
     by_cases c38 : x10_2 < 16777216
     ·
      rw [if_pos c38] at H
      have c38b0 : decide (x10_2 < 16777216)=true:=decide_eq_true c38
      clear c38
      obtain ⟨c39,H⟩:=yif H
      have LMc39:=zm c39;clear c39
      obtain ⟨y214,hy214⟩ : ∃ y_ : List Int,y_=(x204002_2 ++ [(x204000_2 / 16777216) % 256]):=⟨_,rfl⟩
      replace H : (coder_Put.l0 k2 ((x10_2 * 256) % 4294967296) (Go.bits .and .u64 (IntKind.u64.wrap (x204000_2 * 256)) 4294967295) t206 y214)=some (r1,r2,r3,r4):=yrw hy214 H
      have Ny214:=zm hy214;clear hy214
      have H' := zm H
      clear H
      have:=NB203_204.out
      have:=NB204_203.out
      obtain ⟨_,_,_,_,_,_⟩:=yc3 BK203
      go_wp2_with (first|((with_reducible refine gate_builtin (b:=.append) (xs := #[.tmp 52, .tmp 57]) rfl ?_);at_builtin;refine Kd.R_append (Kd.int .u8) (w0:=w) w.heap.size rfl (.tmp 52) (.tmp 57) 28 5 (.int .u8 0) 1 rfl Try.underlying28 info5 rfl (by decide) (by omega) u204002 x204002_2 ((x204000_2 / 16777216) % 256) [.int .u8 ((x204000_2 / 16777216) % 256)] (fun _=>True) (fun _=>False) rfl rfl ?aP (fun _ hk=>hk.elim) ?aF ?aO ?aB ?aS ?aL ?_;(case aP=>exact rfl);(case aB=>exact yhb);(case aF=>exact (fun _ _=>trivial));(case aO=>exact (yr HO_204002));(case aS=>exact (zE yhb));(case aL=>have:=LMc39.out;omega);intro v215 w42 ho hb hg hat;rw [← Ny214.out] at ho;replace BK203:=zm (blk_grown (yk BK203) hg (zu HO_204002.out BK203.out (by decide)));replace BK204:=zm (blk_grown (yk BK204) hg (zu HO_204002.out BK204.out (by decide)));replace HB:=zm (hb);have HO216:=zm (ho);clear HO_204002;clear ho hb hg hat;obtain ⟨Ao43,co43,eo43⟩:=Kd.R_slice HO216.out;subst eo43;obtain ⟨_,_,_,_,_,_⟩:=yc3 BK203))
      go_roundg k2
      case measure=>exact yom2 HJ19 HK2
      case rel=>exact ⟨((x10_2 * 256) % 4294967296),(Go.bits .and .u64 (IntKind.u64.wrap (x204000_2 * 256)) 4294967295),(y214),(.slice Ao43 y214.length co43),yq,H',⟨yom2 HJ19 HK2⟩,⟨yR1 HO216 BK203⟩,⟨ykp BK203⟩,⟨yk BK204⟩,⟨yhb⟩⟩
     ·
      rw [if_neg c38] at H
      have c38b0 : decide (x10_2 < 16777216)=false:=decide_eq_false c38
      clear c38
      simp only [Option.some.injEq,Prod.mk.injEq] at H
      obtain ⟨rfl,rfl,rfl,rfl⟩:=H
      have:=NB203_204.out
      have:=NB204_203.out
      obtain ⟨_,_,_,_,_,_⟩:=yc3 BK203
      obtain ⟨_,_,_,_,_,_⟩:=yc3 BK204
      obtain ⟨Ao48,co48,eo48⟩:=Kd.R_slice HO_204002.out
      subst eo48
      go_wp2
      refine bodyPost_ret (results_ct rfl _ _ gb204 54 #[.int .u64 x204000_2, .int .u32 x10_2, .slice Ao48 x204002_2.length co48] (0,0) _ rfl (ykp BK204) Try.underlying54 rfl (by kernel_rfl)) rfl ?_
      exact ⟨_,ye,yR2 HO_204002 BK203 BK204,yhb⟩
 ·
  replace c7:=Bool.eq_false_iff.mpr c7
  subst c7
  rw [ynf] at H
  simp only [Option.some.injEq,Prod.mk.injEq] at H
  obtain ⟨rfl,rfl,rfl,rfl⟩:=H
  go_enter Try.func26,Try.ntmps26
  go_wp2_with (first|((with_reducible refine gate_dst (N:=4) rfl ?_);refine ybx 4 #[.int .u64 a0_0, .int .u32 a0_1, .slice A0_2 l0_2.length c0_2] 54 ?_;intro gb203 hg w49 hbox hb;have BK203:=zm (hbox);have GW203:=ygw hg;have GE203:=ygw hg;replace HB:=ybs hb;clear hb hbox hg)|((with_reducible refine gate_dst (N:=8) rfl ?_);refine ybx 8 #[.int .u64 0, .int .u32 0, .slice none 0 0] 54 ?_;intro gb204 hg w50 hbox hb;have BK204:=zm (hbox);have GW204:=ygw hg;have GE204:=ygw hg;replace HB:=ybs hb;have NB203_204:=ynl BK203 hg;have NB204_203:=yng BK203 hg;replace BK203:=ybb BK203 hb;clear hb hbox hg;have:=NB203_204.out;have:=NB204_203.out;obtain ⟨_,_,_,_,_,_⟩:=yc3 BK203)|((with_reducible refine gate_callee (f:=63) rfl ?_);refine ygl 13 Try.func63 #[.agg #[.int .u64 a0_0, .int .u32 a0_1, .slice A0_2 l0_2.length c0_2]] ?_;(with_reducible refine (coder_own.calls a0_0 a0_1 _ _ l0_2 t205 t206 t207 _ ?side1 HC0_2.out A5.out).mono ?_);(case side1=>exact ycb HR0_2);rintro e w53 ⟨v208,rfl,ho0,hb⟩;refine ⟨_,rfl, ?_⟩;have HO209:=zm (Kd.R_lower ho0 (zE yhb));replace BK203:=ybb BK203 hb;replace BK204:=ybb BK204 hb;replace HB:=ybs hb;(try clear hb);(try clear ho0);obtain ⟨_,_,_,_,_,_⟩:=yc3 BK203;obtain ⟨Ao55,co55,eo55⟩:=Kd.R_slice HO209.out;subst eo55)|((with_reducible refine gate_store (t:=54) (p:=4) rfl ?_);refine store_event (t:=54) (p:=4) (v := ?vo_w56) (w1:=(((w53.setCell ⟨gb203,0,none⟩ (.int .u64 t205)).setCell ⟨gb203,1,none⟩ (.int .u32 t206)).setCell ⟨gb203,2,none⟩ (.slice Ao55 t207.length co55))) ?hg ?ho ?hn ?hr ?_;(case ho=>rfl);(case hg=>rfl);(case hn=>rfl);(case hr=>first|(go_simp;done)|(go_simp;rfl));intro w56 hw;replace HO209 : Aside0 (Kd.R (Kd.int .u8) 5 w56 w.heap.size (fun _=>True) (.slice Ao55 t207.length co55) t207):=⟨(by rw [hw];exact (yR1 HO209 BK203))⟩;replace BK203 : Aside0 (w56.heap[gb203]? = some (.cells #[.int .u64 t205, .int .u32 t206, .slice Ao55 t207.length co55] 54 (0,0))):=⟨(by rw [hw];exact (ykp BK203))⟩;replace BK204 : Aside0 (w56.heap[gb204]? = some (.cells #[.int .u64 0, .int .u32 0, .slice none 0 0] 54 (0,0))):=⟨(by rw [hw];exact (yk BK204))⟩;replace HB : Aside0 (Below w.heap.size w w56):=⟨(by rw [hw];exact yhb)⟩;clear hw)|((with_reducible refine gate_callee (f:=64) rfl ?_);refine ygl 17 Try.func64 #[.int .i64 a1, .int .i64 a2, .int .i64 a3] ?_;(with_reducible refine (coder_fair.calls a1 a2 a3 false _ A6.out).mono ?_);rintro e w' ⟨rfl,⟨nd,rfl⟩⟩;refine ⟨_,rfl, ?_⟩;(try (rw [drewN_self w56];generalize hq_ : World.drewN w56 _=w56;have n0_ : Aside0 (Kd.R (Kd.int .u8) 5 w56 w.heap.size (fun _=>True) (.slice Ao55 t207.length co55) t207):=⟨by rw [← hq_];exact (yr HO209)⟩;have n1_ : Aside0 (w56.heap[gb203]? = some (.cells #[.int .u64 t205, .int .u32 t206, .slice Ao55 t207.length co55] 54 (0,0))):=⟨by rw [← hq_];exact (yk BK203)⟩;have n2_ : Aside0 (w56.heap[gb204]? = some (.cells #[.int .u64 0, .int .u32 0, .slice none 0 0] 54 (0,0))):=⟨by rw [← hq_];exact (yk BK204)⟩;have n3_ : Aside0 (Below w.heap.size w w56):=⟨by rw [← hq_];exact yhb⟩;clear HO209 BK203 BK204 HB hq_;have HO209:=n0_;have BK203:=n1_;have BK204:=n2_;have HB:=n3_;clear n0_ n1_ n2_ n3_));obtain ⟨_,_,_,_,_,_⟩:=yc3 BK203;obtain ⟨_,_,_,_,_,_⟩:=yc3 BK204))
  refine bodyPost_ret (results_ct rfl _ _ gb204 54 #[.int .u64 t205, .int .u32 t206, .slice Ao55 t207.length co55] (0,0) _ rfl (ykp BK204) Try.underlying54 rfl (by kernel_rfl)) rfl ?_
  exact ⟨_,ye,yR1 HO209 BK204,yhb⟩
def coder_halves.f (a0 : Int) : Option (Int × Int):=if a0≤65536 then (some (wrap64 (a0),1)) else (some (wrap64 ((wrap64 (IntKind.u64.wrap (Int.tdiv (IntKind.u64.wrap (a0 - 1)) 65536)))+1),65536))
set_option maxHeartbeats 8000000 in
set_option maxRecDepth 100000 in
theorem coder_halves.calls (a0 : Int) (r1 : Int) (r2 : Int) (w : World) (h : coder_halves.f a0=some (r1,r2)) :
  Calls Try.prog 76 #[.int .u64 a0] w fun e w' => e=.returned (.tuple #[.int .i64 r1, .int .i64 r2])∧Drawn0 w w' := by
 have H : (if a0≤65536 then (some (wrap64 (a0),1)) else (some (wrap64 ((wrap64 (IntKind.u64.wrap (Int.tdiv (IntKind.u64.wrap (a0 - 1)) 65536)))+1),65536)))=some (r1,r2):=h
 clear h
 by_cases c2 : a0≤65536
 ·
  rw [if_pos c2] at H
  have c2b0 : decide (a0≤65536)=true:=decide_eq_true c2
  clear c2
  simp only [Option.some.injEq,Prod.mk.injEq] at H
  obtain ⟨rfl,rfl⟩:=H
  go_enter Try.func76,Try.ntmps76
  go_wp2
  go_ret2
  exact ⟨yq,yd⟩
 ·
  rw [if_neg c2] at H
  have c2b0 : decide (a0≤65536)=false:=decide_eq_false c2
  clear c2
  simp only [Option.some.injEq,Prod.mk.injEq] at H
  obtain ⟨rfl,rfl⟩:=H
  go_enter Try.func76,Try.ntmps76
  go_wp2
  go_ret2
  exact ⟨yq,yd⟩
mutual
def coder_PutNum.j0 : Nat→Int→Int→Bool→Int→Int→List Int→Option (Int × Int × List Int × Int)
 | 0,_,_,_,_,_,_=>none
 | k+1,x1,x2,x26,x218000,x218001,x218002=>if x26=true then (some (x218000,x218001,x218002,1)) else ((coder_halves.f x2).bind fun bt224=>(if bt224.2=0 then (none) else ((coder_Put.f k x218000 x218001 x218002 (wrap64 (Int.tdiv (wrap64 (x1)) bt224.2)) (wrap64 ((wrap64 (Int.tdiv (wrap64 (x1)) bt224.2))+1)) bt224.1).bind fun bt226=>(if bt226.2.2.2=0 then (coder_PutNum.j1 k bt224.2 (Int.tmod (wrap64 (x1)) bt224.2) bt226.2.2.2 (decide (bt224.2 > 1)) x218000 x218001 x218002 bt226.1 bt226.2.1 bt226.2.2.1) else (coder_PutNum.j1 k bt224.2 (Int.tmod (wrap64 (x1)) bt224.2) bt226.2.2.2 false x218000 x218001 x218002 bt226.1 bt226.2.1 bt226.2.2.1)))))
def coder_PutNum.j1 : Nat→Int→Int→Int→Bool→Int→Int→List Int→Int→Int→List Int→Option (Int × Int × List Int × Int)
 | 0,_,_,_,_,_,_,_,_,_,_=>none
 | k+1,x9,x11,x13,x55,x218000,x218001,x218002,x233000,x233001,x233002=>if x55=true then ((coder_Put.f k x233000 x233001 x233002 x11 (wrap64 (x11+1)) x9).bind fun bt233=>(if bt233.2.2.2=0 then (some (bt233.1,bt233.2.1,bt233.2.2.1,0)) else (some (x218000,x218001,x218002,bt233.2.2.2)))) else (if x13=0 then (some (x233000,x233001,x233002,0)) else (some (x218000,x218001,x218002,x13)))
end
def coder_PutNum.f (k : Nat) (a0_0 : Int) (a0_1 : Int) (l0_2 : List Int) (a1 : Int) (a2 : Int) : Option (Int × Int × List Int × Int):=(coder_own.f a0_0 a0_1 l0_2).bind fun bt219=>(if a2 < 1 then (coder_PutNum.j0 k a1 a2 true bt219.1 bt219.2.1 bt219.2.2) else (if a2 > 4294967296 then (coder_PutNum.j0 k a1 a2 true bt219.1 bt219.2.1 bt219.2.2) else (coder_PutNum.j0 k a1 a2 (decide (a1 ≥ a2)) bt219.1 bt219.2.1 bt219.2.2)))
theorem coder_PutNum.mono_l : ∀ k,(∀ y0 y1 y2 y3 y4 y5,LeO (coder_PutNum.j0 k y0 y1 y2 y3 y4 y5) (coder_PutNum.j0 (k+1) y0 y1 y2 y3 y4 y5))∧(∀ y0 y1 y2 y3 y4 y5 y6 y7 y8 y9,LeO (coder_PutNum.j1 k y0 y1 y2 y3 y4 y5 y6 y7 y8 y9) (coder_PutNum.j1 (k+1) y0 y1 y2 y3 y4 y5 y6 y7 y8 y9))
 | 0=>⟨fun _ _ _ _ _ _ r h=>by simp [coder_PutNum.j0] at h,fun _ _ _ _ _ _ _ _ _ _ r h=>by simp [coder_PutNum.j1] at h⟩
 | k+1=>by
  obtain ⟨ih0,ih1⟩:=coder_PutNum.mono_l k
  refine ⟨?_, ?_⟩
  ·
   intro y0 y1 y2 y3 y4 y5
   unfold coder_PutNum.j0
   repeat' with_reducible first|apply ih0|apply ih1|apply coder_Put.mono|apply yLr|apply yLn|apply yLi|apply yLb|intro _
  ·
   intro y0 y1 y2 y3 y4 y5 y6 y7 y8 y9
   unfold coder_PutNum.j1
   repeat' with_reducible first|apply ih0|apply ih1|apply coder_Put.mono|apply yLr|apply yLn|apply yLi|apply yLb|intro _
theorem coder_PutNum.mono : ∀ a0 a1 a2 a3 a4 k,LeO (coder_PutNum.f k a0 a1 a2 a3 a4) (coder_PutNum.f (k+1) a0 a1 a2 a3 a4):=by
 intro a0 a1 a2 a3 a4 k
 obtain ⟨ih0,ih1⟩:=coder_PutNum.mono_l k
 unfold coder_PutNum.f
 repeat' with_reducible first|apply ih0|apply ih1|apply coder_Put.mono|apply yLr|apply yLn|apply yLi|apply yLb|intro _
set_option maxHeartbeats 8000000 in
set_option maxRecDepth 100000 in
theorem coder_PutNum.calls (k : Nat) (a0_0 : Int) (a0_1 : Int) (A0_2 : Option Addr) (c0_2 : Nat) (l0_2 : List Int) (a1 : Int) (a2 : Int) (r1 : Int) (r2 : Int) (r3 : List Int) (r4 : Int) (w : World) (hr0_2 : Kd.C (Kd.int .u8) w A0_2 l0_2.length l0_2) (hc0_2 : l0_2.length≤c0_2) (h : coder_PutNum.f k a0_0 a0_1 l0_2 a1 a2=some (r1,r2,r3,r4)) :
  Calls Try.prog 34 #[.agg #[.int .u64 a0_0, .int .u32 a0_1, .slice A0_2 l0_2.length c0_2], .int .u64 a1, .int .u64 a2] w fun e w' => ∃ v2_ : Value,e=.returned (.tuple #[.agg #[.int .u64 r1, .int .u32 r2,v2_], .int .i64 r4])∧Kd.R (Kd.int .u8) 5 w' w.heap.size (fun _=>True) v2_ r3∧Below w.heap.size w w' := by
 have hu54:=Try.underlying54;have HR0_2:=zm hr0_2;have HC0_2:=zm hc0_2;clear hr0_2 hc0_2;have HB:=zm (Below.refl w.heap.size w)
 have H : ((coder_own.f a0_0 a0_1 l0_2).bind fun bt219=>(if a2 < 1 then (coder_PutNum.j0 k a1 a2 true bt219.1 bt219.2.1 bt219.2.2) else (if a2 > 4294967296 then (coder_PutNum.j0 k a1 a2 true bt219.1 bt219.2.1 bt219.2.2) else (coder_PutNum.j0 k a1 a2 (decide (a1 ≥ a2)) bt219.1 bt219.2.1 bt219.2.2))))=some (r1,r2,r3,r4):=h
 clear h
 obtain ⟨⟨t219,t220,t221⟩,A4,H⟩:=ybi H
 try dsimp only at H
 have HC5:=zm H;clear H
 go_enter Try.func34,Try.ntmps34
 go_upto_region 2 with (first|((with_reducible refine gate_dst (N:=3) rfl ?_);refine ybx 3 #[.int .u64 a0_0, .int .u32 a0_1, .slice A0_2 l0_2.length c0_2] 54 ?_;intro gb217 hg w6 hbox hb;have BK217:=zm (hbox);have GW217:=ygw hg;have GE217:=ygw hg;replace HB:=ybs hb;clear hb hbox hg)|((with_reducible refine gate_dst (N:=6) rfl ?_);refine ybx 6 #[.int .u64 0, .int .u32 0, .slice none 0 0] 54 ?_;intro gb218 hg w7 hbox hb;have BK218:=zm (hbox);have GW218:=ygw hg;have GE218:=ygw hg;replace HB:=ybs hb;have NB217_218:=ynl BK217 hg;have NB218_217:=yng BK217 hg;replace BK217:=ybb BK217 hb;clear hb hbox hg;have:=NB217_218.out;have:=NB218_217.out;obtain ⟨hcz9_0,hcz9_1,hcz9_2,hfz9_0,hfz9_1,hfz9_2⟩:=yc3 BK217)|(go_at_call 63;(with_reducible refine (coder_own.calls a0_0 a0_1 _ _ l0_2 t219 t220 t221 _ ?side1 HC0_2.out A4.out).mono ?_);(case side1=>exact ycb HR0_2);rintro e w10 ⟨v222,rfl,ho0,hb⟩;have HO223:=zm (Kd.R_lower ho0 (zE yhb));replace BK217:=ybb BK217 hb;replace BK218:=ybb BK218 hb;replace HB:=ybs hb;(try clear hb);(try clear ho0);obtain ⟨hcz11_0,hcz11_1,hcz11_2,hfz11_0,hfz11_1,hfz11_2⟩:=yc3 BK217;obtain ⟨Ao12,co12,eo12⟩:=Kd.R_slice HO223.out;subst eo12))
 repeat (go_quiet (first|((with_reducible refine gate_dst (N:=3) rfl ?_);refine ybx 3 #[.int .u64 a0_0, .int .u32 a0_1, .slice A0_2 l0_2.length c0_2] 54 ?_;intro gb217 hg w6 hbox hb;have BK217:=zm (hbox);have GW217:=ygw hg;have GE217:=ygw hg;replace HB:=ybs hb;clear hb hbox hg)|((with_reducible refine gate_dst (N:=6) rfl ?_);refine ybx 6 #[.int .u64 0, .int .u32 0, .slice none 0 0] 54 ?_;intro gb218 hg w7 hbox hb;have BK218:=zm (hbox);have GW218:=ygw hg;have GE218:=ygw hg;replace HB:=ybs hb;have NB217_218:=ynl BK217 hg;have NB218_217:=yng BK217 hg;replace BK217:=ybb BK217 hb;clear hb hbox hg;have:=NB217_218.out;have:=NB218_217.out;obtain ⟨hcz9_0,hcz9_1,hcz9_2,hfz9_0,hfz9_1,hfz9_2⟩:=yc3 BK217)|(go_at_call 63;(with_reducible refine (coder_own.calls a0_0 a0_1 _ _ l0_2 t219 t220 t221 _ ?side1 HC0_2.out A4.out).mono ?_);(case side1=>exact ycb HR0_2);rintro e w10 ⟨v222,rfl,ho0,hb⟩;have HO223:=zm (Kd.R_lower ho0 (zE yhb));replace BK217:=ybb BK217 hb;replace BK218:=ybb BK218 hb;replace HB:=ybs hb;(try clear hb);(try clear ho0);obtain ⟨hcz11_0,hcz11_1,hcz11_2,hfz11_0,hfz11_1,hfz11_2⟩:=yc3 BK217;obtain ⟨Ao12,co12,eo12⟩:=Kd.R_slice HO223.out;subst eo12));go_upto_region 2 with (first|((with_reducible refine gate_dst (N:=3) rfl ?_);refine ybx 3 #[.int .u64 a0_0, .int .u32 a0_1, .slice A0_2 l0_2.length c0_2] 54 ?_;intro gb217 hg w6 hbox hb;have BK217:=zm (hbox);have GW217:=ygw hg;have GE217:=ygw hg;replace HB:=ybs hb;clear hb hbox hg)|((with_reducible refine gate_dst (N:=6) rfl ?_);refine ybx 6 #[.int .u64 0, .int .u32 0, .slice none 0 0] 54 ?_;intro gb218 hg w7 hbox hb;have BK218:=zm (hbox);have GW218:=ygw hg;have GE218:=ygw hg;replace HB:=ybs hb;have NB217_218:=ynl BK217 hg;have NB218_217:=yng BK217 hg;replace BK217:=ybb BK217 hb;clear hb hbox hg;have:=NB217_218.out;have:=NB218_217.out;obtain ⟨hcz9_0,hcz9_1,hcz9_2,hfz9_0,hfz9_1,hfz9_2⟩:=yc3 BK217)|(go_at_call 63;(with_reducible refine (coder_own.calls a0_0 a0_1 _ _ l0_2 t219 t220 t221 _ ?side1 HC0_2.out A4.out).mono ?_);(case side1=>exact ycb HR0_2);rintro e w10 ⟨v222,rfl,ho0,hb⟩;have HO223:=zm (Kd.R_lower ho0 (zE yhb));replace BK217:=ybb BK217 hb;replace BK218:=ybb BK218 hb;replace HB:=ybs hb;(try clear hb);(try clear ho0);obtain ⟨hcz11_0,hcz11_1,hcz11_2,hfz11_0,hfz11_1,hfz11_2⟩:=yc3 BK217;obtain ⟨Ao12,co12,eo12⟩:=Kd.R_slice HO223.out;subst eo12)))
 (try simp only [Act.put,List.setIfInBounds_toArray,List.set_cons_zero,List.set_cons_succ])
 go_cut [26] (fun v26 wc => ∃ (kq : Nat) (x26_4 : Bool),v26=.bool x26_4∧Aside0 (coder_PutNum.j0 kq a1 a2 x26_4 t219 t220 t221=some (r1,r2,r3,r4))∧Aside0 (kq≤k)∧Aside0 (Kd.R (Kd.int .u8) 5 wc w.heap.size (fun _=>True) (.slice Ao12 t221.length co12) t221)∧Aside0 (wc.heap[gb217]? = some (.cells #[.int .u64 t219, .int .u32 t220,(.slice Ao12 t221.length co12)] 54 (0,0)))∧Aside0 (wc.heap[gb218]? = some (.cells #[.int .u64 0, .int .u32 0,(.slice none 0 0)] 54 (0,0)))∧Aside0 (Below w.heap.size w wc))
 case first =>
  have H:=HC5.out;clear HC5
  by_cases c13 : a2 < 1
  ·
   rw [if_pos c13] at H
   have c13b0 : decide (a2 < 1)=true:=decide_eq_true c13
   clear c13
   (first|rw [c13b0]|(simp only [i64_w,i32_w];rw [c13b0])|skip)
   have H' := zm H
   clear H
   go_wp2
   repeat (go_quiet (fail);try go_wp2)
   go_meet
   case rel=>exact ⟨_,(true),yq,H',⟨yo⟩,⟨yR1 HO223 BK217⟩,⟨ykp BK217⟩,⟨yk BK218⟩,⟨yhb⟩⟩
  ·
   rw [if_neg c13] at H
   have c13b0 : decide (a2 < 1)=false:=decide_eq_false c13
   clear c13
   (first|rw [c13b0]|(simp only [i64_w,i32_w];rw [c13b0])|skip)
   by_cases c14 : a2 > 4294967296
   ·
    rw [if_pos c14] at H
    have c14b0 : decide (4294967296 < a2)=true:=decide_eq_true c14
    clear c14
    have H' := zm H
    clear H
    go_wp2
    repeat (go_quiet (fail);try go_wp2)
    go_meet
    case rel=>exact ⟨_,(true),yq,H',⟨yo⟩,⟨yR1 HO223 BK217⟩,⟨ykp BK217⟩,⟨yk BK218⟩,⟨yhb⟩⟩
   ·
    rw [if_neg c14] at H
    have c14b0 : decide (4294967296 < a2)=false:=decide_eq_false c14
    clear c14
    have H' := zm H
    clear H
    go_wp2
    repeat (go_quiet (fail);try go_wp2)
    go_meet
    case rel=>exact ⟨_,(decide (a1 ≥ a2)),yq,H',⟨yo⟩,⟨yR1 HO223 BK217⟩,⟨ykp BK217⟩,⟨yk BK218⟩,⟨yhb⟩⟩
 case rest =>
  clear HC5
  try clear hcz11_0
  try clear hcz11_1
  try clear hcz11_2
  try clear hcz9_0
  try clear hcz9_1
  try clear hcz9_2
  try clear hfz11_0
  try clear hfz11_1
  try clear hfz11_2
  try clear hfz9_0
  try clear hfz9_1
  try clear hfz9_2
  obtain ⟨kq,x26_4,rfl,HA,HJ4,HO_218002,BK217,BK218,HB⟩:=hcut
  obtain ⟨kj4,rfl⟩:=ysu kq (fun h=>by subst h;exact absurd HA.out (by simp [coder_PutNum.j0]))
  have H:=HA.out;clear HA
  simp only [coder_PutNum.j0] at H
  by_cases c15 : x26_4=true
  ·
   subst c15
   rw [if_pos rfl] at H
   simp only [Option.some.injEq,Prod.mk.injEq] at H
   obtain ⟨rfl,rfl,rfl,rfl⟩:=H
   have:=NB217_218.out
   have:=NB218_217.out
   obtain ⟨hcz17_0,hcz17_1,hcz17_2,hfz17_0,hfz17_1,hfz17_2⟩:=yc3 BK217
   obtain ⟨hcz18_0,hcz18_1,hcz18_2,hfz18_0,hfz18_1,hfz18_2⟩:=yc3 BK218
   go_wp2
   repeat (go_quiet (fail);try go_wp2)
   refine bodyPost_ret (results_ct rfl _ _ gb218 54 #[.int .u64 t219, .int .u32 t220, .slice Ao12 t221.length co12] (0,0) _ rfl (ykp BK218) Try.underlying54 rfl (by kernel_rfl)) rfl ?_
   exact ⟨_,ye,yR1 HO_218002 BK218,yhb⟩
  ·
   replace c15:=Bool.eq_false_iff.mpr c15
   subst c15
   rw [ynf] at H
   obtain ⟨⟨t224,t225⟩,A19,H⟩:=ybi H
   try dsimp only at H
   obtain ⟨c20,H⟩:=yie H
   have c20b0 : (t225 == 0)=false:=beq_eq_false_iff_ne.mpr c20
   have c20b1 : (t225 != 0)=true:=bne_iff_ne.mpr c20
   obtain ⟨⟨t226,t227,t228,t231⟩,A21,H⟩:=ybi H
   try dsimp only at H
   have HC22:=zm H;clear H
   go_upto_region 7 with (first|(go_at_call 76;(with_reducible refine (coder_halves.calls a2 t224 t225 _ A19.out).mono ?_);rintro e w' ⟨rfl,⟨nd,rfl⟩⟩;(try exact yww);have:=NB217_218.out;have:=NB218_217.out;obtain ⟨hcz24_0,hcz24_1,hcz24_2,hfz24_0,hfz24_1,hfz24_2⟩:=yc3 BK217)|(go_at_call 26;(with_reducible refine (coder_Put.calls kj4 t219 t220 _ _ t221 (wrap64 (Int.tdiv (wrap64 (a1)) t225)) (wrap64 ((wrap64 (Int.tdiv (wrap64 (a1)) t225))+1)) t224 t226 t227 t228 t231 _ ?side1 ?side2 A21.out).mono ?_);(case side1=>exact yce (Kd.R_reads' HO_218002.out).2.2);(case side2=>exact (Kd.R_reads' HO_218002.out).2.1);rintro e w25 ⟨v229,rfl,ho0,hb⟩;have HO230:=zm (Kd.R_lower (Kd.R_new' ho0 (Kd.R_lt (yr HO_218002))) (zE yhb));replace HO_218002:=zm (Kd.R_elder' (yr HO_218002) (Kd.R_base ho0) hb);replace BK217:=ybb BK217 hb;replace BK218:=ybb BK218 hb;replace HB:=ybs hb;(try clear hb);(try clear ho0))|((with_reducible refine gate_dst (N:=12) rfl ?_);refine ybx 12 #[.int .u64 0, .int .u32 0, .slice none 0 0] 54 ?_;intro gb232 hg w26 hbox hb;replace HO_218002:=yRb HO_218002 hb;replace HO230:=yRb HO230 hb;have BK232:=zm (hbox);have GW232:=ygw hg;have GE232:=ygw hg;replace HB:=ybs hb;have NB217_232:=ynl BK217 hg;have NB232_217:=yng BK217 hg;replace BK217:=ybb BK217 hb;have NB218_232:=ynl BK218 hg;have NB232_218:=yng BK218 hg;replace BK218:=ybb BK218 hb;clear hb hbox hg;have:=NB232_217.out;have:=NB217_232.out;have:=NB232_218.out;have:=NB218_232.out;obtain ⟨hcz29_0,hcz29_1,hcz29_2,hfz29_0,hfz29_1,hfz29_2⟩:=yc3 BK232;obtain ⟨Ao30,co30,eo30⟩:=Kd.R_slice HO230.out;subst eo30))
   repeat (go_quiet (first|(go_at_call 76;(with_reducible refine (coder_halves.calls a2 t224 t225 _ A19.out).mono ?_);rintro e w' ⟨rfl,⟨nd,rfl⟩⟩;(try exact yww);have:=NB217_218.out;have:=NB218_217.out;obtain ⟨hcz24_0,hcz24_1,hcz24_2,hfz24_0,hfz24_1,hfz24_2⟩:=yc3 BK217)|(go_at_call 26;(with_reducible refine (coder_Put.calls kj4 t219 t220 _ _ t221 (wrap64 (Int.tdiv (wrap64 (a1)) t225)) (wrap64 ((wrap64 (Int.tdiv (wrap64 (a1)) t225))+1)) t224 t226 t227 t228 t231 _ ?side1 ?side2 A21.out).mono ?_);(case side1=>exact yce (Kd.R_reads' HO_218002.out).2.2);(case side2=>exact (Kd.R_reads' HO_218002.out).2.1);rintro e w25 ⟨v229,rfl,ho0,hb⟩;have HO230:=zm (Kd.R_lower (Kd.R_new' ho0 (Kd.R_lt (yr HO_218002))) (zE yhb));replace HO_218002:=zm (Kd.R_elder' (yr HO_218002) (Kd.R_base ho0) hb);replace BK217:=ybb BK217 hb;replace BK218:=ybb BK218 hb;replace HB:=ybs hb;(try clear hb);(try clear ho0))|((with_reducible refine gate_dst (N:=12) rfl ?_);refine ybx 12 #[.int .u64 0, .int .u32 0, .slice none 0 0] 54 ?_;intro gb232 hg w26 hbox hb;replace HO_218002:=yRb HO_218002 hb;replace HO230:=yRb HO230 hb;have BK232:=zm (hbox);have GW232:=ygw hg;have GE232:=ygw hg;replace HB:=ybs hb;have NB217_232:=ynl BK217 hg;have NB232_217:=yng BK217 hg;replace BK217:=ybb BK217 hb;have NB218_232:=ynl BK218 hg;have NB232_218:=yng BK218 hg;replace BK218:=ybb BK218 hb;clear hb hbox hg;have:=NB232_217.out;have:=NB217_232.out;have:=NB232_218.out;have:=NB218_232.out;obtain ⟨hcz29_0,hcz29_1,hcz29_2,hfz29_0,hfz29_1,hfz29_2⟩:=yc3 BK232;obtain ⟨Ao30,co30,eo30⟩:=Kd.R_slice HO230.out;subst eo30));go_upto_region 7 with (first|(go_at_call 76;(with_reducible refine (coder_halves.calls a2 t224 t225 _ A19.out).mono ?_);rintro e w' ⟨rfl,⟨nd,rfl⟩⟩;(try exact yww);have:=NB217_218.out;have:=NB218_217.out;obtain ⟨hcz24_0,hcz24_1,hcz24_2,hfz24_0,hfz24_1,hfz24_2⟩:=yc3 BK217)|(go_at_call 26;(with_reducible refine (coder_Put.calls kj4 t219 t220 _ _ t221 (wrap64 (Int.tdiv (wrap64 (a1)) t225)) (wrap64 ((wrap64 (Int.tdiv (wrap64 (a1)) t225))+1)) t224 t226 t227 t228 t231 _ ?side1 ?side2 A21.out).mono ?_);(case side1=>exact yce (Kd.R_reads' HO_218002.out).2.2);(case side2=>exact (Kd.R_reads' HO_218002.out).2.1);rintro e w25 ⟨v229,rfl,ho0,hb⟩;have HO230:=zm (Kd.R_lower (Kd.R_new' ho0 (Kd.R_lt (yr HO_218002))) (zE yhb));replace HO_218002:=zm (Kd.R_elder' (yr HO_218002) (Kd.R_base ho0) hb);replace BK217:=ybb BK217 hb;replace BK218:=ybb BK218 hb;replace HB:=ybs hb;(try clear hb);(try clear ho0))|((with_reducible refine gate_dst (N:=12) rfl ?_);refine ybx 12 #[.int .u64 0, .int .u32 0, .slice none 0 0] 54 ?_;intro gb232 hg w26 hbox hb;replace HO_218002:=yRb HO_218002 hb;replace HO230:=yRb HO230 hb;have BK232:=zm (hbox);have GW232:=ygw hg;have GE232:=ygw hg;replace HB:=ybs hb;have NB217_232:=ynl BK217 hg;have NB232_217:=yng BK217 hg;replace BK217:=ybb BK217 hb;have NB218_232:=ynl BK218 hg;have NB232_218:=yng BK218 hg;replace BK218:=ybb BK218 hb;clear hb hbox hg;have:=NB232_217.out;have:=NB217_232.out;have:=NB232_218.out;have:=NB218_232.out;obtain ⟨hcz29_0,hcz29_1,hcz29_2,hfz29_0,hfz29_1,hfz29_2⟩:=yc3 BK232;obtain ⟨Ao30,co30,eo30⟩:=Kd.R_slice HO230.out;subst eo30)))
   (try simp only [Act.put,List.setIfInBounds_toArray,List.set_cons_zero,List.set_cons_succ])
   go_cut [55] (fun v55 wc => ∃ (kq : Nat) (x55_21 : Bool),v55=.bool x55_21∧Aside0 (coder_PutNum.j1 kq t225 (Int.tmod (wrap64 (a1)) t225) t231 x55_21 t219 t220 t221 t226 t227 t228=some (r1,r2,r3,r4))∧Aside0 (kq≤kj4)∧Aside0 (Kd.R (Kd.int .u8) 5 wc w.heap.size (fun k_=>some k_≠((.slice Ao30 t228.length co30) : Value).ownBlock) (.slice Ao12 t221.length co12) t221)∧Aside0 (Kd.R (Kd.int .u8) 5 wc w.heap.size (fun k_=>some k_≠((.slice Ao12 t221.length co12) : Value).ownBlock) (.slice Ao30 t228.length co30) t228)∧Aside0 (wc.heap[gb217]? = some (.cells #[.int .u64 t219, .int .u32 t220,(.slice Ao12 t221.length co12)] 54 (0,0)))∧Aside0 (wc.heap[gb218]? = some (.cells #[.int .u64 0, .int .u32 0,(.slice none 0 0)] 54 (0,0)))∧Aside0 (wc.heap[gb232]? = some (.cells #[.int .u64 t226, .int .u32 t227,(.slice Ao30 t228.length co30)] 54 (0,0)))∧Aside0 (Below w.heap.size w wc))
   case first =>
    have H:=HC22.out;clear HC22
    by_cases c31 : t231=0
    ·
     rw [if_pos c31] at H
     have c31b0 : (t231 == 0)=true:=beq_iff_eq.mpr c31
     have c31b1 : (t231 != 0)=false:=bne_eq_false_iff_eq.mpr c31
     clear c31
     (first|rw [c31b0]|(simp only [i64_w,i32_w];rw [c31b0])|skip)
     have H' := zm H
     clear H
     go_wp2
     repeat (go_quiet (fail);try go_wp2)
     go_meet
     case rel=>exact ⟨_,(decide (t225 > 1)),yq,H',⟨yom1 HJ4⟩,⟨yR1 HO_218002 BK232⟩,⟨yR1 HO230 BK232⟩,⟨yk BK217⟩,⟨yk BK218⟩,⟨ykp BK232⟩,⟨yhb⟩⟩
    ·
     rw [if_neg c31] at H
     have c31b0 : (t231 == 0)=false:=beq_eq_false_iff_ne.mpr c31
     have c31b1 : (t231 != 0)=true:=bne_iff_ne.mpr c31
     (first|rw [c31b0]|(simp only [i64_w,i32_w];rw [c31b0])|skip)
     have H' := zm H
     clear H
     go_wp2
     repeat (go_quiet (fail);try go_wp2)
     go_meet
     case rel=>exact ⟨_,(false),yq,H',⟨yom1 HJ4⟩,⟨yR1 HO_218002 BK232⟩,⟨yR1 HO230 BK232⟩,⟨yk BK217⟩,⟨yk BK218⟩,⟨ykp BK232⟩,⟨yhb⟩⟩
   case rest =>
    clear HC22
    try clear c20
    try clear c20b0
    try clear c20b1
    try clear hcz17_0
    try clear hcz17_1
    try clear hcz17_2
    try clear hcz18_0
    try clear hcz18_1
    try clear hcz18_2
    try clear hcz24_0
    try clear hcz24_1
    try clear hcz24_2
    try clear hcz29_0
    try clear hcz29_1
    try clear hcz29_2
    try clear hfz17_0
    try clear hfz17_1
    try clear hfz17_2
    try clear hfz18_0
    try clear hfz18_1
    try clear hfz18_2
    try clear hfz24_0
    try clear hfz24_1
    try clear hfz24_2
    try clear hfz29_0
    try clear hfz29_1
    try clear hfz29_2
    obtain ⟨kq,x55_21,rfl,HA,HJ21,HO_218002,HO_233002,BK217,BK218,BK232,HB⟩:=hcut
    obtain ⟨kj21,rfl⟩:=ysu kq (fun h=>by subst h;exact absurd HA.out (by simp [coder_PutNum.j1]))
    have H:=HA.out;clear HA
    simp only [coder_PutNum.j1] at H
    by_cases c32 : x55_21=true
    ·
     subst c32
     rw [if_pos rfl] at H
     obtain ⟨⟨t233,t234,t235,t238⟩,A33,H⟩:=ybi H
     try dsimp only at H
     by_cases c34 : t238=0
     ·
      rw [if_pos c34] at H
      have c34b0 : (t238 == 0)=true:=beq_iff_eq.mpr c34
      have c34b1 : (t238 != 0)=false:=bne_eq_false_iff_eq.mpr c34
      clear c34
      simp only [Option.some.injEq,Prod.mk.injEq] at H
      obtain ⟨rfl,rfl,rfl,rfl⟩:=H
      have:=NB232_217.out
      have:=NB217_232.out
      have:=NB232_218.out
      have:=NB218_232.out
      obtain ⟨_,_,_,_,_,_⟩:=yc3 BK232
      go_wp2_with (first|(go_at_call 26;(with_reducible refine (coder_Put.calls kj21 t226 t227 _ _ t228 (Int.tmod (wrap64 (a1)) t225) (wrap64 ((Int.tmod (wrap64 (a1)) t225)+1)) t225 t233 t234 t235 t238 _ ?side1 ?side2 A33.out).mono ?_);(case side1=>exact yce (Kd.R_reads' HO_233002.out).2.2);(case side2=>exact (Kd.R_reads' HO_233002.out).2.1);rintro e w38 ⟨v236,rfl,ho0,hb⟩;have HO237:=zm (Kd.R_lower (Kd.R_new' (Kd.R_new' ho0 (Kd.R_lt (yr HO_218002))) (Kd.R_lt (yr HO_233002))) (zE yhb));replace HO_218002:=zm (Kd.R_elder' (yr HO_218002) (Kd.R_base ho0) hb);replace HO_233002:=zm (Kd.R_elder' (yr HO_233002) (Kd.R_base ho0) hb);replace BK217:=ybb BK217 hb;replace BK218:=ybb BK218 hb;replace BK232:=ybb BK232 hb;replace HB:=ybs hb;(try clear hb);(try clear ho0);obtain ⟨_,_,_,_,_,_⟩:=yc3 BK232;obtain ⟨Ao40,co40,eo40⟩:=Kd.R_slice HO237.out;subst eo40;have:=NB218_217.out;have:=NB217_218.out;obtain ⟨_,_,_,_,_,_⟩:=yc3 BK218))
      repeat (go_quiet (first|(go_at_call 26;(with_reducible refine (coder_Put.calls kj21 t226 t227 _ _ t228 (Int.tmod (wrap64 (a1)) t225) (wrap64 ((Int.tmod (wrap64 (a1)) t225)+1)) t225 t233 t234 t235 t238 _ ?side1 ?side2 A33.out).mono ?_);(case side1=>exact yce (Kd.R_reads' HO_233002.out).2.2);(case side2=>exact (Kd.R_reads' HO_233002.out).2.1);rintro e w38 ⟨v236,rfl,ho0,hb⟩;have HO237:=zm (Kd.R_lower (Kd.R_new' (Kd.R_new' ho0 (Kd.R_lt (yr HO_218002))) (Kd.R_lt (yr HO_233002))) (zE yhb));replace HO_218002:=zm (Kd.R_elder' (yr HO_218002) (Kd.R_base ho0) hb);replace HO_233002:=zm (Kd.R_elder' (yr HO_233002) (Kd.R_base ho0) hb);replace BK217:=ybb BK217 hb;replace BK218:=ybb BK218 hb;replace BK232:=ybb BK232 hb;replace HB:=ybs hb;(try clear hb);(try clear ho0);obtain ⟨_,_,_,_,_,_⟩:=yc3 BK232;obtain ⟨Ao40,co40,eo40⟩:=Kd.R_slice HO237.out;subst eo40;have:=NB218_217.out;have:=NB217_218.out;obtain ⟨_,_,_,_,_,_⟩:=yc3 BK218));try go_wp2_with (first|(go_at_call 26;(with_reducible refine (coder_Put.calls kj21 t226 t227 _ _ t228 (Int.tmod (wrap64 (a1)) t225) (wrap64 ((Int.tmod (wrap64 (a1)) t225)+1)) t225 t233 t234 t235 t238 _ ?side1 ?side2 A33.out).mono ?_);(case side1=>exact yce (Kd.R_reads' HO_233002.out).2.2);(case side2=>exact (Kd.R_reads' HO_233002.out).2.1);rintro e w38 ⟨v236,rfl,ho0,hb⟩;have HO237:=zm (Kd.R_lower (Kd.R_new' (Kd.R_new' ho0 (Kd.R_lt (yr HO_218002))) (Kd.R_lt (yr HO_233002))) (zE yhb));replace HO_218002:=zm (Kd.R_elder' (yr HO_218002) (Kd.R_base ho0) hb);replace HO_233002:=zm (Kd.R_elder' (yr HO_233002) (Kd.R_base ho0) hb);replace BK217:=ybb BK217 hb;replace BK218:=ybb BK218 hb;replace BK232:=ybb BK232 hb;replace HB:=ybs hb;(try clear hb);(try clear ho0);obtain ⟨_,_,_,_,_,_⟩:=yc3 BK232;obtain ⟨Ao40,co40,eo40⟩:=Kd.R_slice HO237.out;subst eo40;have:=NB218_217.out;have:=NB217_218.out;obtain ⟨_,_,_,_,_,_⟩:=yc3 BK218)))
      refine bodyPost_ret (results_ct rfl _ _ gb218 54 #[.int .u64 t233, .int .u32 t234, .slice Ao40 t235.length co40] (0,0) _ rfl (ykp BK218) Try.underlying54 rfl (by kernel_rfl)) rfl ?_
      exact ⟨_,ye,yR2 HO237 BK232 BK218,yhb⟩
     ·
      rw [if_neg c34] at H
      have c34b0 : (t238 == 0)=false:=beq_eq_false_iff_ne.mpr c34
      have c34b1 : (t238 != 0)=true:=bne_iff_ne.mpr c34
      simp only [Option.some.injEq,Prod.mk.injEq] at H
      obtain ⟨rfl,rfl,rfl,rfl⟩:=H
      have:=NB232_217.out
      have:=NB217_232.out
      have:=NB232_218.out
      have:=NB218_232.out
      obtain ⟨_,_,_,_,_,_⟩:=yc3 BK232
      go_wp2_with (first|(go_at_call 26;(with_reducible refine (coder_Put.calls kj21 t226 t227 _ _ t228 (Int.tmod (wrap64 (a1)) t225) (wrap64 ((Int.tmod (wrap64 (a1)) t225)+1)) t225 t233 t234 t235 t238 _ ?side1 ?side2 A33.out).mono ?_);(case side1=>exact yce (Kd.R_reads' HO_233002.out).2.2);(case side2=>exact (Kd.R_reads' HO_233002.out).2.1);rintro e w46 ⟨v236,rfl,ho0,hb⟩;have HO237:=zm (Kd.R_lower (Kd.R_new' (Kd.R_new' ho0 (Kd.R_lt (yr HO_218002))) (Kd.R_lt (yr HO_233002))) (zE yhb));replace HO_218002:=zm (Kd.R_elder' (yr HO_218002) (Kd.R_base ho0) hb);replace HO_233002:=zm (Kd.R_elder' (yr HO_233002) (Kd.R_base ho0) hb);replace BK217:=ybb BK217 hb;replace BK218:=ybb BK218 hb;replace BK232:=ybb BK232 hb;replace HB:=ybs hb;(try clear hb);(try clear ho0);obtain ⟨_,_,_,_,_,_⟩:=yc3 BK232;obtain ⟨Ao48,co48,eo48⟩:=Kd.R_slice HO237.out;subst eo48;have:=NB217_218.out;have:=NB218_217.out;obtain ⟨_,_,_,_,_,_⟩:=yc3 BK217;obtain ⟨_,_,_,_,_,_⟩:=yc3 BK218))
      repeat (go_quiet (first|(go_at_call 26;(with_reducible refine (coder_Put.calls kj21 t226 t227 _ _ t228 (Int.tmod (wrap64 (a1)) t225) (wrap64 ((Int.tmod (wrap64 (a1)) t225)+1)) t225 t233 t234 t235 t238 _ ?side1 ?side2 A33.out).mono ?_);(case side1=>exact yce (Kd.R_reads' HO_233002.out).2.2);(case side2=>exact (Kd.R_reads' HO_233002.out).2.1);rintro e w46 ⟨v236,rfl,ho0,hb⟩;have HO237:=zm (Kd.R_lower (Kd.R_new' (Kd.R_new' ho0 (Kd.R_lt (yr HO_218002))) (Kd.R_lt (yr HO_233002))) (zE yhb));replace HO_218002:=zm (Kd.R_elder' (yr HO_218002) (Kd.R_base ho0) hb);replace HO_233002:=zm (Kd.R_elder' (yr HO_233002) (Kd.R_base ho0) hb);replace BK217:=ybb BK217 hb;replace BK218:=ybb BK218 hb;replace BK232:=ybb BK232 hb;replace HB:=ybs hb;(try clear hb);(try clear ho0);obtain ⟨_,_,_,_,_,_⟩:=yc3 BK232;obtain ⟨Ao48,co48,eo48⟩:=Kd.R_slice HO237.out;subst eo48;have:=NB217_218.out;have:=NB218_217.out;obtain ⟨_,_,_,_,_,_⟩:=yc3 BK217;obtain ⟨_,_,_,_,_,_⟩:=yc3 BK218));try go_wp2_with (first|(go_at_call 26;(with_reducible refine (coder_Put.calls kj21 t226 t227 _ _ t228 (Int.tmod (wrap64 (a1)) t225) (wrap64 ((Int.tmod (wrap64 (a1)) t225)+1)) t225 t233 t234 t235 t238 _ ?side1 ?side2 A33.out).mono ?_);(case side1=>exact yce (Kd.R_reads' HO_233002.out).2.2);(case side2=>exact (Kd.R_reads' HO_233002.out).2.1);rintro e w46 ⟨v236,rfl,ho0,hb⟩;have HO237:=zm (Kd.R_lower (Kd.R_new' (Kd.R_new' ho0 (Kd.R_lt (yr HO_218002))) (Kd.R_lt (yr HO_233002))) (zE yhb));replace HO_218002:=zm (Kd.R_elder' (yr HO_218002) (Kd.R_base ho0) hb);replace HO_233002:=zm (Kd.R_elder' (yr HO_233002) (Kd.R_base ho0) hb);replace BK217:=ybb BK217 hb;replace BK218:=ybb BK218 hb;replace BK232:=ybb BK232 hb;replace HB:=ybs hb;(try clear hb);(try clear ho0);obtain ⟨_,_,_,_,_,_⟩:=yc3 BK232;obtain ⟨Ao48,co48,eo48⟩:=Kd.R_slice HO237.out;subst eo48;have:=NB217_218.out;have:=NB218_217.out;obtain ⟨_,_,_,_,_,_⟩:=yc3 BK217;obtain ⟨_,_,_,_,_,_⟩:=yc3 BK218)))
      refine bodyPost_ret (results_ct rfl _ _ gb218 54 #[.int .u64 t219, .int .u32 t220, .slice Ao12 t221.length co12] (0,0) _ rfl (ykp BK218) Try.underlying54 rfl (by kernel_rfl)) rfl ?_
      exact ⟨_,ye,yR2 HO_218002 BK232 BK218,yhb⟩
    ·
     replace c32:=Bool.eq_false_iff.mpr c32
     subst c32
     rw [ynf] at H
     by_cases c52 : t231=0
     ·
      rw [if_pos c52] at H
      have c52b0 : (t231 == 0)=true:=beq_iff_eq.mpr c52
      have c52b1 : (t231 != 0)=false:=bne_eq_false_iff_eq.mpr c52
      clear c52
      simp only [Option.some.injEq,Prod.mk.injEq] at H
      obtain ⟨rfl,rfl,rfl,rfl⟩:=H
      have:=NB232_217.out
      have:=NB217_232.out
      have:=NB232_218.out
      have:=NB218_232.out
      obtain ⟨_,_,_,_,_,_⟩:=yc3 BK232
      have:=NB218_217.out
      have:=NB217_218.out
      obtain ⟨_,_,_,_,_,_⟩:=yc3 BK218
      go_wp2
      repeat (go_quiet (fail);try go_wp2)
      refine bodyPost_ret (results_ct rfl _ _ gb218 54 #[.int .u64 t226, .int .u32 t227, .slice Ao30 t228.length co30] (0,0) _ rfl (ykp BK218) Try.underlying54 rfl (by kernel_rfl)) rfl ?_
      exact ⟨_,ye,yR1 HO_233002 BK218,yhb⟩
     ·
      rw [if_neg c52] at H
      have c52b0 : (t231 == 0)=false:=beq_eq_false_iff_ne.mpr c52
      have c52b1 : (t231 != 0)=true:=bne_iff_ne.mpr c52
      simp only [Option.some.injEq,Prod.mk.injEq] at H
      obtain ⟨rfl,rfl,rfl,rfl⟩:=H
      have:=NB217_218.out
      have:=NB218_217.out
      have:=NB217_232.out
      have:=NB232_217.out
      obtain ⟨_,_,_,_,_,_⟩:=yc3 BK217
      have:=NB218_232.out
      have:=NB232_218.out
      obtain ⟨_,_,_,_,_,_⟩:=yc3 BK218
      go_wp2
      repeat (go_quiet (fail);try go_wp2)
      refine bodyPost_ret (results_ct rfl _ _ gb218 54 #[.int .u64 t219, .int .u32 t220, .slice Ao12 t221.length co12] (0,0) _ rfl (ykp BK218) Try.underlying54 rfl (by kernel_rfl)) rfl ?_
      exact ⟨_,ye,yR1 HO_218002 BK218,yhb⟩
def comb_size.f (a0 : Int) : Option (Int):=if a0 < (-12) then (some 13) else (if a0 > 12 then (some 13) else (some (mx a0 (wrap64 (-a0)))))
set_option maxHeartbeats 8000000 in
set_option maxRecDepth 100000 in
theorem comb_size.calls (a0 : Int) (r : Int) (w : World) (h : comb_size.f a0=some r) :
  Calls Try.prog 75 #[.int .i64 a0] w fun e w' => e=.returned (.int .i64 r)∧Below w.heap.size w w' := by
 have HB:=zm (Below.refl w.heap.size w)
 have H : (if a0 < (-12) then (some 13) else (if a0 > 12 then (some 13) else (some (mx a0 (wrap64 (-a0))))))=some r:=h
 clear h
 by_cases c2 : a0 < (-12)
 ·
  rw [if_pos c2] at H
  have c2b0 : decide (a0 < (-12))=true:=decide_eq_true c2
  clear c2
  obtain rfl:=Option.some.inj H
  go_enter Try.func75,Try.ntmps75
  go_wp2
  go_ret
  exact ⟨ye,yhb⟩
 ·
  rw [if_neg c2] at H
  have c2b0 : decide (a0 < (-12))=false:=decide_eq_false c2
  clear c2
  by_cases c3 : a0 > 12
  ·
   rw [if_pos c3] at H
   have c3b0 : decide (12 < a0)=true:=decide_eq_true c3
   clear c3
   obtain rfl:=Option.some.inj H
   go_enter Try.func75,Try.ntmps75
   go_wp2
   go_ret
   exact ⟨ye,yhb⟩
  ·
   rw [if_neg c3] at H
   have c3b0 : decide (12 < a0)=false:=decide_eq_false c3
   clear c3
   obtain ⟨ji4,hji4⟩ : ∃ j_ : Int,(mx a0 (wrap64 (-a0)))=j_:=⟨_,rfl⟩
   replace H : (some ji4)=some r:=by first|(rw [hji4] at H;exact H)|(simp only [hji4] at H ⊢; exact H)
   have hji4_ : (if a0 < (wrap64 (-a0)) then (wrap64 (-a0)) else a0)=ji4:=hji4
   obtain rfl:=Option.some.inj H
   go_enter Try.func75,Try.ntmps75
   go_wp2
   go_ret
   exact ⟨by first|rfl|(simp [errW_none,errW_some] <;> rfl)|(simp only [← hji4];first|rfl|(simp [errW_none,errW_some] <;> rfl))|(simp [*,errW_none,errW_some] <;> rfl),yhb⟩
mutual
def comb_Index.j0 : Nat→List Int→Bool→Option (Int × Int)
 | 0,_,_=>none
 | k+1,x0,x21=>if x21=true then (some (0,1)) else (comb_Index.l0 k x0 0 x0 (x0.length : Int) 0)
def comb_Index.l0 : Nat→List Int→Int→List Int→Int→Int→Option (Int × Int)
 | 0,_,_,_,_,_=>none
 | k+1,x0,x4,x22,x23,x24=>if x24 < x23 then (if 0≤x24 then (if x24 < (x22.length : Int) then ((comb_size.f (rd x22 x24)).bind fun t159=>(comb_Index.l0 k x0 (wrap64 (x4+t159)) x22 x23 (wrap64 (x24+1)))) else (none)) else (none)) else (if x4 > 12 then (some (0,1)) else (comb_Index.l1 k x0 x4 0 x0 (x0.length : Int) 0))
def comb_Index.l1 : Nat→List Int→Int→Int→List Int→Int→Int→Option (Int × Int)
 | 0,_,_,_,_,_,_=>none
 | k+1,x0,x4,x8,x36,x37,x38=>if x38 < x37 then (if 0≤x38 then (if x38 < (x36.length : Int) then ((comb_size.f (rd x36 x38)).bind fun t164=>(if t164 > 0 then ((comb_table.f (wrap64 ((wrap64 ((x0.length : Int) - x38)) - 1)) x4).bind fun t165=>(comb_Index.j3 k x0 x4 (IntKind.u64.wrap (x8+t165)) (rd x36 x38) (wrap64 ((wrap64 ((x0.length : Int) - x38)) - 1)) t164 x36 x37 x38)) else (comb_Index.j3 k x0 x4 x8 (rd x36 x38) (wrap64 ((wrap64 ((x0.length : Int) - x38)) - 1)) t164 x36 x37 x38))) else (none)) else (none)) else (some (x8,0))
def comb_Index.j3 : Nat→List Int→Int→Int→Int→Int→Int→List Int→Int→Int→Option (Int × Int)
 | 0,_,_,_,_,_,_,_,_,_=>none
 | k+1,x0,x4,x8,x10,x11,x12,x36,x37,x38=>comb_Index.l2 k x0 x4 x8 x10 x11 x12 1 x36 x37 x38
def comb_Index.l2 : Nat→List Int→Int→Int→Int→Int→Int→Int→List Int→Int→Int→Option (Int × Int)
 | 0,_,_,_,_,_,_,_,_,_,_=>none
 | k+1,x0,x4,x8,x10,x11,x12,x13,x36,x37,x38=>if x13 < x12 then ((comb_table.f x11 (wrap64 (x4 - x13))).bind fun t166=>(comb_Index.l2 k x0 x4 (IntKind.u64.wrap (x8+(IntKind.u64.wrap (2 * t166)))) x10 x11 x12 (wrap64 (x13+1)) x36 x37 x38)) else (if x10 < 0 then ((comb_table.f x11 (wrap64 (x4 - x12))).bind fun t167=>(comb_Index.l1 k x0 (wrap64 (x4 - x12)) (IntKind.u64.wrap (x8+t167)) x36 x37 (wrap64 (x38+1)))) else (comb_Index.l1 k x0 (wrap64 (x4 - x12)) x8 x36 x37 (wrap64 (x38+1))))
end
def comb_Index.f (k : Nat) (l0 : List Int) : Option (Int × Int):=if (l0.length : Int) < 1 then (comb_Index.j0 k l0 true) else (comb_Index.j0 k l0 (decide ((l0.length : Int) > 16)))
theorem comb_Index.mono_l : ∀ k,(∀ y0 y1,LeO (comb_Index.j0 k y0 y1) (comb_Index.j0 (k+1) y0 y1))∧(∀ y0 y1 y2 y3 y4,LeO (comb_Index.l0 k y0 y1 y2 y3 y4) (comb_Index.l0 (k+1) y0 y1 y2 y3 y4))∧(∀ y0 y1 y2 y3 y4 y5,LeO (comb_Index.l1 k y0 y1 y2 y3 y4 y5) (comb_Index.l1 (k+1) y0 y1 y2 y3 y4 y5))∧(∀ y0 y1 y2 y3 y4 y5 y6 y7 y8,LeO (comb_Index.j3 k y0 y1 y2 y3 y4 y5 y6 y7 y8) (comb_Index.j3 (k+1) y0 y1 y2 y3 y4 y5 y6 y7 y8))∧(∀ y0 y1 y2 y3 y4 y5 y6 y7 y8 y9,LeO (comb_Index.l2 k y0 y1 y2 y3 y4 y5 y6 y7 y8 y9) (comb_Index.l2 (k+1) y0 y1 y2 y3 y4 y5 y6 y7 y8 y9))
 | 0=>⟨fun _ _ r h=>by simp [comb_Index.j0] at h,fun _ _ _ _ _ r h=>by simp [comb_Index.l0] at h,fun _ _ _ _ _ _ r h=>by simp [comb_Index.l1] at h,fun _ _ _ _ _ _ _ _ _ r h=>by simp [comb_Index.j3] at h,fun _ _ _ _ _ _ _ _ _ _ r h=>by simp [comb_Index.l2] at h⟩
 | k+1=>by
  obtain ⟨ih0,ih1,ih2,ih3,ih4⟩:=comb_Index.mono_l k
  refine ⟨?_, ?_, ?_, ?_, ?_⟩
  ·
   intro y0 y1
   unfold comb_Index.j0
   repeat' with_reducible first|apply ih0|apply ih1|apply ih2|apply ih3|apply ih4|apply yLr|apply yLn|apply yLi|apply yLb|intro _
  ·
   intro y0 y1 y2 y3 y4
   unfold comb_Index.l0
   repeat' with_reducible first|apply ih0|apply ih1|apply ih2|apply ih3|apply ih4|apply yLr|apply yLn|apply yLi|apply yLb|intro _
  ·
   intro y0 y1 y2 y3 y4 y5
   unfold comb_Index.l1
   repeat' with_reducible first|apply ih0|apply ih1|apply ih2|apply ih3|apply ih4|apply yLr|apply yLn|apply yLi|apply yLb|intro _
  ·
   intro y0 y1 y2 y3 y4 y5 y6 y7 y8
   unfold comb_Index.j3
   repeat' with_reducible first|apply ih0|apply ih1|apply ih2|apply ih3|apply ih4|apply yLr|apply yLn|apply yLi|apply yLb|intro _
  ·
   intro y0 y1 y2 y3 y4 y5 y6 y7 y8 y9
   unfold comb_Index.l2
   repeat' with_reducible first|apply ih0|apply ih1|apply ih2|apply ih3|apply ih4|apply yLr|apply yLn|apply yLi|apply yLb|intro _
theorem comb_Index.mono : ∀ a0 k,LeO (comb_Index.f k a0) (comb_Index.f (k+1) a0):=by
 intro a0 k
 obtain ⟨ih0,ih1,ih2,ih3,ih4⟩:=comb_Index.mono_l k
 unfold comb_Index.f
 repeat' with_reducible first|apply ih0|apply ih1|apply ih2|apply ih3|apply ih4|apply yLr|apply yLn|apply yLi|apply yLb|intro _
set_option maxHeartbeats 8000000 in
set_option maxRecDepth 100000 in
theorem comb_Index.calls (k : Nat) (A0 : Option Addr) (c0 : Nat) (l0 : List Int) (r1 : Int) (r2 : Int) (w : World) (hr0 : Kd.C (Kd.int .i64) w A0 l0.length l0) (hc0 : l0.length≤c0) (h : comb_Index.f k l0=some (r1,r2)) :
  Calls Try.prog 33 #[.slice A0 l0.length c0] w fun e w' => e=.returned (.tuple #[.int .u64 r1, .int .i64 r2])∧Below w.heap.size w w' := by
 have HR0:=zm hr0;have HC0:=zm hc0;clear hr0 hc0;have HB:=zm (Below.refl w.heap.size w)
 have H : (if (l0.length : Int) < 1 then (comb_Index.j0 k l0 true) else (comb_Index.j0 k l0 (decide ((l0.length : Int) > 16))))=some (r1,r2):=h
 clear h;have HC2:=zm H;clear H
 go_enter Try.func33,Try.ntmps33
 go_upto_region 1 with (fail)
 go_cut [21] (fun v21 wc => ∃ (kq : Nat) (x21_1 : Bool),v21=.bool x21_1∧Aside0 (comb_Index.j0 kq l0 x21_1=some (r1,r2))∧Aside0 (kq≤k)∧Aside0 (Below w.heap.size w wc))
 case first =>
  have H:=HC2.out;clear HC2
  by_cases c3 : (l0.length : Int) < 1
  ·
   rw [if_pos c3] at H
   have c3b0 : decide ((l0.length : Int) < 1)=true:=decide_eq_true c3
   have c3b1 : decide (l0.length < 1)=true:=decide_eq_true (by omega)
   clear c3
   (first|rw [c3b0]|(simp only [i64_w,i32_w];rw [c3b0])|skip)
   have H' := zm H
   clear H
   go_wp2
   go_meet
   case rel=>exact ⟨_,(true),yq,H',⟨yo⟩,⟨yhb⟩⟩
  ·
   rw [if_neg c3] at H
   have c3b0 : decide ((l0.length : Int) < 1)=false:=decide_eq_false c3
   have c3b1 : decide (l0.length < 1)=false:=decide_eq_false (by omega)
   clear c3
   (first|rw [c3b0]|(simp only [i64_w,i32_w];rw [c3b0])|skip)
   have H' := zm H
   clear H
   go_wp2
   go_meet
   case rel=>exact ⟨_,(decide ((l0.length : Int) > 16)),yq,H',⟨yo⟩,⟨yhb⟩⟩
 case rest =>
  clear HC2
  obtain ⟨kq,x21_1,rfl,HA,HJ1,HB⟩:=hcut
  obtain ⟨kj1,rfl⟩:=ysu kq (fun h=>by subst h;exact absurd HA.out (by simp [comb_Index.j0]))
  have H:=HA.out;clear HA
  simp only [comb_Index.j0] at H
  by_cases c4 : x21_1=true
  ·
   subst c4
   rw [if_pos rfl] at H
   simp only [Option.some.injEq,Prod.mk.injEq] at H
   obtain ⟨rfl,rfl⟩:=H
   go_wp2
   go_ret2
   exact ⟨ye,yhb⟩
  ·
   replace c4:=Bool.eq_false_iff.mpr c4
   subst c4
   rw [ynf] at H
   have H' := zm H
   clear H
   go_wp2
   go_loopg [4,24] kj1 (fun kq v4 v24 w' => ∃ (x4_2 : Int) (x24_2 : Int),v4=.int .i64 x4_2∧v24=.int .i64 x24_2∧Aside0 (comb_Index.l0 kq l0 x4_2 l0 (l0.length : Int) x24_2=some (r1,r2))∧Aside0 (kq≤kj1)∧Aside0 (Below w.heap.size w w'))
   case atStart=>exact ⟨(0),(0),yq,yq,H',⟨Nat.le_refl _⟩,⟨yhb⟩⟩
   case round =>
    clear H'
    obtain ⟨x4_2,x24_2,rfl,rfl,HA,HK2,HB⟩:=hrel
    obtain ⟨k2,rfl⟩:=ysu gk (fun h=>by subst h;exact absurd HA.out (by simp [comb_Index.l0]))
    have H:=HA.out;clear HA
    simp only [comb_Index.l0] at H
    by_cases c5 : x24_2 < (l0.length : Int)
    ·
     rw [if_pos c5] at H
     have c5b0 : decide (x24_2 < (l0.length : Int))=true:=decide_eq_true c5
     clear c5
     obtain ⟨c6,H⟩:=yif H
     have c6b0 : decide (0≤x24_2)=true:=decide_eq_true c6
     clear c6
     obtain ⟨c7,H⟩:=yif H
     have c7b0 : decide (x24_2 < (l0.length : Int))=true:=decide_eq_true c7
     clear c7
     obtain ⟨t159,A8,H⟩:=ybi H
     have H' := zm H
     clear H
     have p158 : 0≤(x24_2 : Int):=yt
     have q158 : x24_2 < (l0.length : Int):=yt
     obtain ⟨ad158,e158,hx158_0⟩:=Kd.at_int HR0.out x24_2 p158 q158
     cases e158
     replace hx158_0:=yhx HB hx158_0
     replace p158:=eq_true p158
     replace q158:=eq_true q158
     go_wp2_with (first|((with_reducible refine gate_callee (f:=75) rfl ?_);refine ygl 30 Try.func75 #[.int .i64 (rd l0 x24_2)] ?_;(with_reducible refine (comb_size.calls (rd l0 x24_2) t159 _ A8.out).mono ?_);rintro e w9 ⟨rfl,hb⟩;refine ⟨_,rfl, ?_⟩;replace HB:=ybs hb;(try clear hb)))
     go_roundg k2
     case measure=>exact yom2 HJ1 HK2
     case rel=>exact ⟨(wrap64 (x4_2+t159)),(wrap64 (x24_2+1)),yq,yq,H',⟨yom2 HJ1 HK2⟩,⟨yhb⟩⟩
    ·
     rw [if_neg c5] at H
     have c5b0 : decide (x24_2 < (l0.length : Int))=false:=decide_eq_false c5
     clear c5
     by_cases c10 : x4_2 > 12
     ·
      rw [if_pos c10] at H
      have c10b0 : decide (12 < x4_2)=true:=decide_eq_true c10
      clear c10
      simp only [Option.some.injEq,Prod.mk.injEq] at H
      obtain ⟨rfl,rfl⟩:=H
      go_wp2
      go_ret2
      exact ⟨ye,yhb⟩
     ·
      rw [if_neg c10] at H
      have c10b0 : decide (12 < x4_2)=false:=decide_eq_false c10
      clear c10
      obtain ⟨y160,hy160⟩ : ∃ y_ : List Int,y_=(([0] : List Int)):=⟨_,rfl⟩
      replace H : (comb_Index.l1 k2 l0 x4_2 0 l0 (l0.length : Int) 0)=some (r1,r2):=yrw hy160 H
      have Ny160:=zm hy160;clear hy160
      have H' := zm H
      clear H
      obtain ⟨Z,hz,HZs⟩:=comb_table.zsize
      go_wp2_with (first|((with_reducible refine gate_callee (f:=72) rfl ?_);refine goesL_ (some 35) rfl rfl Try.func72 (by kernel_rfl) rfl #[] rfl (by first|rfl|simp) ?_;(with_reducible refine (comb_table.made _).mono ?_);rintro e w5 ⟨rfl,hb5⟩;refine ⟨_,rfl, ?_⟩;have hst:=run_storeCells_new (P:=Try.prog) w5 118 Z (ABl (comb_table.T 16)) comb_table.size16 HZs.out (ABl_one _);have n1_:=zm (ze (zJ yhb hb5) (.cells (ABl (comb_table.T 16)) 118));clear HB;have HB:=n1_;clear n1_;have hbn:=zm (blk_new w5 (.cells (ABl (comb_table.T 16)) 118))))
      have hb0:=HB.out
      obtain ⟨W0,hW0⟩ : ∃ W0,W0=w5.alloc (.cells (ABl (comb_table.T 16)) 118):=⟨_,rfl⟩
      rw [← hW0] at hb0 hbn
      rw [← hW0]
      clear hW0 HB hst hz HZs
      generalize w5.heap.size=B at hbn ⊢
      replace HR0:=zm (Kd.C_below HR0.out hb0)
      have HB:=zm (Below.refl W0.heap.size W0)
      go_loopg [4,8,38] k2 (fun kq v4 v8 v38 w' => ∃ (x4_3 : Int) (x8_3 : Int) (x38_3 : Int),v4=.int .i64 x4_3∧v8=.int .u64 x8_3∧v38=.int .i64 x38_3∧Aside0 (comb_Index.l1 kq l0 x4_3 x8_3 l0 (l0.length : Int) x38_3=some (r1,r2))∧Aside0 (kq≤k2)∧Aside0 (Below W0.heap.size W0 w'))
      case atStart=>exact ⟨(x4_2),(0),(0),yq,yq,yq,H',⟨Nat.le_refl _⟩,⟨yhb⟩⟩
      case round =>
       clear H'
       try clear c5b0
       try clear c6b0
       try clear c7b0
       try clear c10b0
       try clear hx158_0
       try clear p158
       try clear q158
       obtain ⟨x4_3,x8_3,x38_3,rfl,rfl,rfl,HA,HK3,HB⟩:=hrel
       obtain ⟨k3,rfl⟩:=ysu gk (fun h=>by subst h;exact absurd HA.out (by simp [comb_Index.l1]))
       have H:=HA.out;clear HA
       simp only [comb_Index.l1] at H
       by_cases c13 : x38_3 < (l0.length : Int)
       ·
        rw [if_pos c13] at H
        have c13b0 : decide (x38_3 < (l0.length : Int))=true:=decide_eq_true c13
        clear c13
        obtain ⟨c14,H⟩:=yif H
        have c14b0 : decide (0≤x38_3)=true:=decide_eq_true c14
        clear c14
        obtain ⟨c15,H⟩:=yif H
        have c15b0 : decide (x38_3 < (l0.length : Int))=true:=decide_eq_true c15
        clear c15
        obtain ⟨t164,A16,H⟩:=ybi H
        have HC17:=zm H;clear H
        have p163 : 0≤(x38_3 : Int):=yt
        have q163 : x38_3 < (l0.length : Int):=yt
        obtain ⟨ad163,e163,hx163_0⟩:=Kd.at_int HR0.out x38_3 p163 q163
        cases e163
        replace hx163_0:=(HB.out.cell (zb W0 _ hx163_0)).trans hx163_0
        replace p163:=eq_true p163
        replace q163:=eq_true q163
        go_upto_if 51 with (first|((with_reducible refine gate_callee (f:=75) rfl ?_);refine ygl 49 Try.func75 #[.int .i64 (rd l0 x38_3)] ?_;(with_reducible refine (comb_size.calls (rd l0 x38_3) t164 _ A16.out).mono ?_);rintro e w18 ⟨rfl,hb⟩;refine ⟨_,rfl, ?_⟩;replace HB:=ybs hb;(try clear hb)))
        (try simp only [Act.put,List.setIfInBounds_toArray,List.set_cons_zero,List.set_cons_succ])
        go_cut [8] (fun v8 wc => ∃ (kq : Nat) (x8_16 : Int),v8=.int .u64 x8_16∧Aside0 (comb_Index.j3 kq l0 x4_3 x8_16 (rd l0 x38_3) (wrap64 ((wrap64 ((l0.length : Int) - x38_3)) - 1)) t164 l0 (l0.length : Int) x38_3=some (r1,r2))∧Aside0 (kq≤k3)∧Aside0 (Below W0.heap.size W0 wc))
        case first =>
         have H:=HC17.out;clear HC17
         by_cases c19 : t164 > 0
         ·
          rw [if_pos c19] at H
          have c19b0 : decide (0 < t164)=true:=decide_eq_true c19
          clear c19
          (first|rw [c19b0]|(simp only [i64_w,i32_w];rw [c19b0])|skip)
          obtain ⟨t165,A20,H⟩:=ybi H
          have H' := zm H
          clear H
          obtain ⟨ia0,ib0,ic0,id0⟩:=comb_table.inn A20.out
          have hcl0:=(HB.out.cell (zb W0 _ (comb_table.look hbn.out A20.out))).trans (comb_table.look hbn.out A20.out)
          go_wp2
          go_meet
          case rel=>exact ⟨_,(IntKind.u64.wrap (x8_3+t165)),yq,H',⟨yom3 HJ1 HK2 HK3⟩,⟨yhb⟩⟩
         ·
          rw [if_neg c19] at H
          have c19b0 : decide (0 < t164)=false:=decide_eq_false c19
          clear c19
          (first|rw [c19b0]|(simp only [i64_w,i32_w];rw [c19b0])|skip)
          have H' := zm H
          clear H
          go_wp2
          go_meet
          case rel=>exact ⟨_,(x8_3),yq,H',⟨yom3 HJ1 HK2 HK3⟩,⟨yhb⟩⟩
        case rest =>
         clear HC17
         try clear c13b0
         try clear c14b0
         try clear c15b0
         try clear hx163_0
         try clear p163
         try clear q163
         obtain ⟨kq,x8_16,rfl,HA,HJ16,HB⟩:=hcut
         obtain ⟨kj16,rfl⟩:=ysu kq (fun h=>by subst h;exact absurd HA.out (by simp [comb_Index.j3]))
         have H:=HA.out;clear HA
         simp only [comb_Index.j3] at H
         have H' := zm H
         clear H
         go_wp2
         go_loopg [8,13] kj16 (fun kq v8 v13 w' => ∃ (x8_5 : Int) (x13_5 : Int),v8=.int .u64 x8_5∧v13=.int .i64 x13_5∧Aside0 (comb_Index.l2 kq l0 x4_3 x8_5 (rd l0 x38_3) (wrap64 ((wrap64 ((l0.length : Int) - x38_3)) - 1)) t164 x13_5 l0 (l0.length : Int) x38_3=some (r1,r2))∧Aside0 (kq≤kj16)∧Aside0 (Below W0.heap.size W0 w'))
         case atStart=>exact ⟨(x8_16),(1),yq,yq,H',⟨Nat.le_refl _⟩,⟨yhb⟩⟩
         case round =>
          clear H'
          obtain ⟨x8_5,x13_5,rfl,rfl,HA,HK5,HB⟩:=hrel
          obtain ⟨k5,rfl⟩:=ysu gk (fun h=>by subst h;exact absurd HA.out (by simp [comb_Index.l2]))
          have H:=HA.out;clear HA
          simp only [comb_Index.l2] at H
          by_cases c21 : x13_5 < t164
          ·
           rw [if_pos c21] at H
           have c21b0 : decide (x13_5 < t164)=true:=decide_eq_true c21
           clear c21
           obtain ⟨t166,A22,H⟩:=ybi H
           have H' := zm H
           clear H
           obtain ⟨ia1,ib1,ic1,id1⟩:=comb_table.inn A22.out
           have hcl1:=(HB.out.cell (zb W0 _ (comb_table.look hbn.out A22.out))).trans (comb_table.look hbn.out A22.out)
           go_wp2
           go_roundg k5
           case measure=>exact yom5 HJ1 HK2 HK3 HJ16 HK5
           case rel=>exact ⟨(IntKind.u64.wrap (x8_5+(IntKind.u64.wrap (2 * t166)))),(wrap64 (x13_5+1)),yq,yq,H',⟨yom5 HJ1 HK2 HK3 HJ16 HK5⟩,⟨yhb⟩⟩
          ·
           rw [if_neg c21] at H
           have c21b0 : decide (x13_5 < t164)=false:=decide_eq_false c21
           clear c21
           by_cases c23 : (rd l0 x38_3) < 0
           ·
            rw [if_pos c23] at H
            have c23b0 : decide ((rd l0 x38_3) < 0)=true:=decide_eq_true c23
            clear c23
            obtain ⟨t167,A24,H⟩:=ybi H
            have H' := zm H
            clear H
            obtain ⟨ia2,ib2,ic2,id2⟩:=comb_table.inn A24.out
            have hcl2:=(HB.out.cell (zb W0 _ (comb_table.look hbn.out A24.out))).trans (comb_table.look hbn.out A24.out)
            go_wp2
            go_roundg k5
            case measure=>exact yom5 HJ1 HK2 HK3 HJ16 HK5
            case rel=>exact ⟨(wrap64 (x4_3 - t164)),(IntKind.u64.wrap (x8_5+t167)),(wrap64 (x38_3+1)),yq,yq,yq,H',⟨yom5 HJ1 HK2 HK3 HJ16 HK5⟩,⟨yhb⟩⟩
           ·
            rw [if_neg c23] at H
            have c23b0 : decide ((rd l0 x38_3) < 0)=false:=decide_eq_false c23
            clear c23
            have H' := zm H
            clear H
            go_wp2
            go_roundg k5
            case measure=>exact yom5 HJ1 HK2 HK3 HJ16 HK5
            case rel=>exact ⟨(wrap64 (x4_3 - t164)),(x8_5),(wrap64 (x38_3+1)),yq,yq,yq,H',⟨yom5 HJ1 HK2 HK3 HJ16 HK5⟩,⟨yhb⟩⟩
       ·
        rw [if_neg c13] at H
        have c13b0 : decide (x38_3 < (l0.length : Int))=false:=decide_eq_false c13
        clear c13
        simp only [Option.some.injEq,Prod.mk.injEq] at H
        obtain ⟨rfl,rfl⟩:=H
        go_wp2
        go_ret2
        exact ⟨ye,zJ hb0 yhb⟩
mutual
def cpack_pulses.j0 : Nat→List Int→Int→Bool→Option (Bool)
 | 0,_,_,_=>none
 | k+1,x0,x2,x23=>if x23=true then (some false) else (cpack_pulses.l0 k x2 x0 (x0.length : Int) 0)
def cpack_pulses.l0 : Nat→Int→List Int→Int→Int→Option (Bool)
 | 0,_,_,_,_=>none
 | k+1,x2,x24,x25,x26=>if x26 < x25 then (if 0≤x26 then (if x26 < (x24.length : Int) then (cpack_pulses.l0 k (wrap64 (x2 - (mx (rd x24 x26) (wrap64 (-(rd x24 x26)))))) x24 x25 (wrap64 (x26+1))) else (none)) else (none)) else (some (x2 == 0))
end
def cpack_pulses.f (k : Nat) (l0 : List Int) (a1 : Int) (a2 : Int) : Option (Bool):=(comb_Index.f k l0).bind fun bt168=>(if bt168.2=0 then (cpack_pulses.j0 k l0 a2 ((l0.length : Int) != a1)) else (cpack_pulses.j0 k l0 a2 true))
theorem cpack_pulses.mono_l : ∀ k,(∀ y0 y1 y2,LeO (cpack_pulses.j0 k y0 y1 y2) (cpack_pulses.j0 (k+1) y0 y1 y2))∧(∀ y0 y1 y2 y3,LeO (cpack_pulses.l0 k y0 y1 y2 y3) (cpack_pulses.l0 (k+1) y0 y1 y2 y3))
 | 0=>⟨fun _ _ _ r h=>by simp [cpack_pulses.j0] at h,fun _ _ _ _ r h=>by simp [cpack_pulses.l0] at h⟩
 | k+1=>by
  obtain ⟨ih0,ih1⟩:=cpack_pulses.mono_l k
  refine ⟨?_, ?_⟩
  ·
   intro y0 y1 y2
   unfold cpack_pulses.j0
   repeat' with_reducible first|apply ih0|apply ih1|apply comb_Index.mono|apply yLr|apply yLn|apply yLi|apply yLb|intro _
  ·
   intro y0 y1 y2 y3
   unfold cpack_pulses.l0
   repeat' with_reducible first|apply ih0|apply ih1|apply comb_Index.mono|apply yLr|apply yLn|apply yLi|apply yLb|intro _
theorem cpack_pulses.mono : ∀ a0 a1 a2 k,LeO (cpack_pulses.f k a0 a1 a2) (cpack_pulses.f (k+1) a0 a1 a2):=by
 intro a0 a1 a2 k
 obtain ⟨ih0,ih1⟩:=cpack_pulses.mono_l k
 unfold cpack_pulses.f
 repeat' with_reducible first|apply ih0|apply ih1|apply comb_Index.mono|apply yLr|apply yLn|apply yLi|apply yLb|intro _
set_option maxHeartbeats 8000000 in
set_option maxRecDepth 100000 in
theorem cpack_pulses.calls (k : Nat) (A0 : Option Addr) (c0 : Nat) (l0 : List Int) (a1 : Int) (a2 : Int) (r : Bool) (w : World) (hr0 : Kd.C (Kd.int .i64) w A0 l0.length l0) (hc0 : l0.length≤c0) (h : cpack_pulses.f k l0 a1 a2=some r) :
  Calls Try.prog 44 #[.slice A0 l0.length c0, .int .i64 a1, .int .i64 a2] w fun e w' => e=.returned (.bool r)∧Below w.heap.size w w' := by
 have HR0:=zm hr0;have HC0:=zm hc0;clear hr0 hc0;have HB:=zm (Below.refl w.heap.size w)
 have H : ((comb_Index.f k l0).bind fun bt168=>(if bt168.2=0 then (cpack_pulses.j0 k l0 a2 ((l0.length : Int) != a1)) else (cpack_pulses.j0 k l0 a2 true)))=some r:=h
 clear h
 obtain ⟨⟨t168,t169⟩,A4,H⟩:=ybi H
 try dsimp only at H
 have HC5:=zm H;clear H
 go_enter Try.func44,Try.ntmps44
 go_upto_region 2 with (first|((with_reducible refine gate_callee (f:=33) rfl ?_);refine ygl 13 Try.func33 #[.slice A0 l0.length c0] ?_;(with_reducible refine (comb_Index.calls k _ _ l0 t168 t169 _ ?side1 HC0.out A4.out).mono ?_);(case side1=>exact yce HR0.out);rintro e w6 ⟨rfl,hb⟩;refine ⟨_,rfl, ?_⟩;replace HB:=ybs hb;(try clear hb)))
 (try simp only [Act.put,List.setIfInBounds_toArray,List.set_cons_zero,List.set_cons_succ])
 go_cut [23] (fun v23 wc => ∃ (kq : Nat) (x23_4 : Bool),v23=.bool x23_4∧Aside0 (cpack_pulses.j0 kq l0 a2 x23_4=some r)∧Aside0 (kq≤k)∧Aside0 (Below w.heap.size w wc))
 case first =>
  have H:=HC5.out;clear HC5
  by_cases c7 : t169=0
  ·
   rw [if_pos c7] at H
   have c7b0 : (t169 == 0)=true:=beq_iff_eq.mpr c7
   have c7b1 : (t169 != 0)=false:=bne_eq_false_iff_eq.mpr c7
   clear c7
   (first|rw [c7b0]|(simp only [i64_w,i32_w];rw [c7b0])|skip)
   have H' := zm H
   clear H
   go_wp2
   go_meet
   case rel=>exact ⟨_,(((l0.length : Int) != a1)),yq,H',⟨yo⟩,⟨yhb⟩⟩
  ·
   rw [if_neg c7] at H
   have c7b0 : (t169 == 0)=false:=beq_eq_false_iff_ne.mpr c7
   have c7b1 : (t169 != 0)=true:=bne_iff_ne.mpr c7
   (first|rw [c7b0]|(simp only [i64_w,i32_w];rw [c7b0])|skip)
   have H' := zm H
   clear H
   go_wp2
   go_meet
   case rel=>exact ⟨_,(true),yq,H',⟨yo⟩,⟨yhb⟩⟩
 case rest =>
  clear HC5
  obtain ⟨kq,x23_4,rfl,HA,HJ4,HB⟩:=hcut
  obtain ⟨kj4,rfl⟩:=ysu kq (fun h=>by subst h;exact absurd HA.out (by simp [cpack_pulses.j0]))
  have H:=HA.out;clear HA
  simp only [cpack_pulses.j0] at H
  by_cases c8 : x23_4=true
  ·
   subst c8
   rw [if_pos rfl] at H
   obtain rfl:=Option.some.inj H
   go_wp2
   go_ret
   exact ⟨ye,yhb⟩
  ·
   replace c8:=Bool.eq_false_iff.mpr c8
   subst c8
   rw [ynf] at H
   have H' := zm H
   clear H
   go_wp2
   go_loopg [2,26] kj4 (fun kq v2 v26 w' => ∃ (x2_2 : Int) (x26_2 : Int),v2=.int .i64 x2_2∧v26=.int .i64 x26_2∧Aside0 (cpack_pulses.l0 kq x2_2 l0 (l0.length : Int) x26_2=some r)∧Aside0 (kq≤kj4)∧Aside0 (Below w.heap.size w w'))
   case atStart=>exact ⟨(a2),(0),yq,yq,H',⟨Nat.le_refl _⟩,⟨yhb⟩⟩
   case round =>
    clear H'
    obtain ⟨x2_2,x26_2,rfl,rfl,HA,HK2,HB⟩:=hrel
    obtain ⟨k2,rfl⟩:=ysu gk (fun h=>by subst h;exact absurd HA.out (by simp [cpack_pulses.l0]))
    have H:=HA.out;clear HA
    simp only [cpack_pulses.l0] at H
    by_cases c9 : x26_2 < (l0.length : Int)
    ·
     rw [if_pos c9] at H
     have c9b0 : decide (x26_2 < (l0.length : Int))=true:=decide_eq_true c9
     clear c9
     obtain ⟨c10,H⟩:=yif H
     have c10b0 : decide (0≤x26_2)=true:=decide_eq_true c10
     clear c10
     obtain ⟨c11,H⟩:=yif H
     have c11b0 : decide (x26_2 < (l0.length : Int))=true:=decide_eq_true c11
     clear c11
     obtain ⟨ji12,hji12⟩ : ∃ j_ : Int,(mx (rd l0 x26_2) (wrap64 (-(rd l0 x26_2))))=j_:=⟨_,rfl⟩
     replace H : (cpack_pulses.l0 k2 (wrap64 (x2_2 - (ji12))) l0 (l0.length : Int) (wrap64 (x26_2+1)))=some r:=by first|(rw [hji12] at H;exact H)|(simp only [hji12] at H ⊢; exact H)
     have hji12_ : (if (rd l0 x26_2) < (wrap64 (-(rd l0 x26_2))) then (wrap64 (-(rd l0 x26_2))) else (rd l0 x26_2))=ji12:=hji12
     have H' := zm H
     clear H
     have p170 : 0≤(x26_2 : Int):=yt
     have q170 : x26_2 < (l0.length : Int):=yt
     obtain ⟨ad170,e170,hx170_0⟩:=Kd.at_int HR0.out x26_2 p170 q170
     cases e170
     replace hx170_0:=yhx HB hx170_0
     replace p170:=eq_true p170
     replace q170:=eq_true q170
     go_wp2
     go_roundg k2
     case measure=>exact yom2 HJ4 HK2
     case rel=>exact ⟨(wrap64 (x2_2 - (ji12))),(wrap64 (x26_2+1)),(by first|rfl|(simp;done)|(simp only [← hji12] <;> (first|rfl|simp))|(simp [*];done)),yq,H',⟨yom2 HJ4 HK2⟩,⟨yhb⟩⟩
    ·
     rw [if_neg c9] at H
     have c9b0 : decide (x26_2 < (l0.length : Int))=false:=decide_eq_false c9
     clear c9
     obtain rfl:=Option.some.inj H
     go_wp2
     go_ret
     exact ⟨ye,yhb⟩
mutual
def cpack_Right.j0 : Nat→List (List Int)→Bool→Bool→List (List Int)→List (List (List Int))→Option (Bool)
 | 0,_,_,_,_,_=>none
 | k+1,x7,x29,x172000,x172001,x172002=>if x29=true then (some false) else (cpack_Right.l0 k x7 x172002 (x172002.length : Int) 0)
def cpack_Right.l0 : Nat→List (List Int)→List (List (List Int))→Int→Int→Option (Bool)
 | 0,_,_,_,_=>none
 | k+1,x7,x31,x32,x33=>if x33 < x32 then (if 0≤x33 then (if x33 < (x31.length : Int) then (if ((rd_L2 x31 x33).length : Int)=5 then (cpack_Right.l1 k x7 x33 x31 x32 x33 (rd_L2 x31 x33) ((rd_L2 x31 x33).length : Int) 0) else (some false)) else (none)) else (none)) else (some true)
def cpack_Right.l1 : Nat→List (List Int)→Int→List (List (List Int))→Int→Int→List (List Int)→Int→Int→Option (Bool)
 | 0,_,_,_,_,_,_,_,_=>none
 | k+1,x7,x9,x31,x32,x33,x41,x42,x43=>if x43 < x42 then (if 0≤x43 then (if x43 < (x41.length : Int) then ((band_Width.f x43).bind fun t178=>(if 0≤x9 then (if x9 < (x7.length : Int) then (if x43 < ((rd_L1 x7 x9).length : Int) then ((cpack_pulses.f k (rd_L1 x41 x43) t178 (rd (rd_L1 x7 x9) x43)).bind fun t181=>(if t181=true then (cpack_Right.l1 k x7 x9 x31 x32 x33 x41 x42 (wrap64 (x43+1))) else (some false))) else (none)) else (none)) else (none))) else (none)) else (none)) else (cpack_Right.l0 k x7 x31 x32 (wrap64 (x33+1)))
end
def cpack_Right.f (k : Nat) (a0 : Int) (a1 : Int) (a2_0 : Bool) (l2_1 : List (List Int)) (l2_2 : List (List (List Int))) : Option (Bool):=(alloc_Pulses.f k a0 a1 l2_1).bind fun bt172=>(if bt172.2=0 then (cpack_Right.j0 k bt172.1 ((l2_2.length : Int) != a1) a2_0 l2_1 l2_2) else (cpack_Right.j0 k bt172.1 true a2_0 l2_1 l2_2))
theorem cpack_Right.mono_l : ∀ k,(∀ y0 y1 y2 y3 y4,LeO (cpack_Right.j0 k y0 y1 y2 y3 y4) (cpack_Right.j0 (k+1) y0 y1 y2 y3 y4))∧(∀ y0 y1 y2 y3,LeO (cpack_Right.l0 k y0 y1 y2 y3) (cpack_Right.l0 (k+1) y0 y1 y2 y3))∧(∀ y0 y1 y2 y3 y4 y5 y6 y7,LeO (cpack_Right.l1 k y0 y1 y2 y3 y4 y5 y6 y7) (cpack_Right.l1 (k+1) y0 y1 y2 y3 y4 y5 y6 y7))
 | 0=>⟨fun _ _ _ _ _ r h=>by simp [cpack_Right.j0] at h,fun _ _ _ _ r h=>by simp [cpack_Right.l0] at h,fun _ _ _ _ _ _ _ _ r h=>by simp [cpack_Right.l1] at h⟩
 | k+1=>by
  obtain ⟨ih0,ih1,ih2⟩:=cpack_Right.mono_l k
  refine ⟨?_, ?_, ?_⟩
  ·
   intro y0 y1 y2 y3 y4
   unfold cpack_Right.j0
   repeat' with_reducible first|apply ih0|apply ih1|apply ih2|apply alloc_Pulses.mono|apply cpack_pulses.mono|apply yLr|apply yLn|apply yLi|apply yLb|intro _
  ·
   intro y0 y1 y2 y3
   unfold cpack_Right.l0
   repeat' with_reducible first|apply ih0|apply ih1|apply ih2|apply alloc_Pulses.mono|apply cpack_pulses.mono|apply yLr|apply yLn|apply yLi|apply yLb|intro _
  ·
   intro y0 y1 y2 y3 y4 y5 y6 y7
   unfold cpack_Right.l1
   repeat' with_reducible first|apply ih0|apply ih1|apply ih2|apply alloc_Pulses.mono|apply cpack_pulses.mono|apply yLr|apply yLn|apply yLi|apply yLb|intro _
theorem cpack_Right.mono : ∀ a0 a1 a2 a3 a4 k,LeO (cpack_Right.f k a0 a1 a2 a3 a4) (cpack_Right.f (k+1) a0 a1 a2 a3 a4):=by
 intro a0 a1 a2 a3 a4 k
 obtain ⟨ih0,ih1,ih2⟩:=cpack_Right.mono_l k
 unfold cpack_Right.f
 repeat' with_reducible first|apply ih0|apply ih1|apply ih2|apply alloc_Pulses.mono|apply cpack_pulses.mono|apply yLr|apply yLn|apply yLi|apply yLb|intro _
def cpack_Right.T12 : Bool × List (List Nat × List Nat):=(true, [([], []),([], []),([1], [1]),([], []),([], []),([3,4], [3,4]),([5], [5]),([], []),([6,7], [6,7]),([8], [8]),([0,2,9,2], [0,2,9]),([10], [10])])
def cpack_Right.B12 : List Nat := [0,0,2,0,0,24,56,0,248,504,1023,2047]
theorem cpack_Right.tab12 : rtab .any (opsOf Try.f15 12)=cpack_Right.T12:=by kernel_rfl
theorem cpack_Right.bits12 : waitsOk cpack_Right.T12.2 cpack_Right.B12=true:=by kernel_rfl
set_option maxHeartbeats 8000000 in
set_option maxRecDepth 100000 in
theorem cpack_Right.calls (k : Nat) (a0 : Int) (a1 : Int) (a2_0 : Bool) (A2_1 : Option Addr) (c2_1 : Nat) (l2_1 : List (List Int)) (A2_2 : Option Addr) (c2_2 : Nat) (l2_2 : List (List (List Int))) (r : Bool) (w : World) (hr2_1 : Kd.C (Kd.slice 3 (Kd.int .i64)) w A2_1 l2_1.length l2_1) (hc2_1 : l2_1.length≤c2_1) (hr2_2 : Kd.C (Kd.slice 49 (Kd.slice 3 (Kd.int .i64))) w A2_2 l2_2.length l2_2) (hc2_2 : l2_2.length≤c2_2) (h : cpack_Right.f k a0 a1 a2_0 l2_1 l2_2=some r) :
  Calls Try.prog 15 #[.int .i64 a0, .int .i64 a1, .agg #[.bool a2_0, .slice A2_1 l2_1.length c2_1, .slice A2_2 l2_2.length c2_2]] w fun e w' => e=.returned (.bool r)∧Below w.heap.size w w' := by
 have hu25:=Try.underlying25;have HR2_1:=zm hr2_1;have HC2_1:=zm hc2_1;clear hr2_1 hc2_1;have HR2_2:=zm hr2_2;have HC2_2:=zm hc2_2;clear hr2_2 hc2_2;have HB:=zm (Below.refl w.heap.size w)
 have H : ((alloc_Pulses.f k a0 a1 l2_1).bind fun bt172=>(if bt172.2=0 then (cpack_Right.j0 k bt172.1 ((l2_2.length : Int) != a1) a2_0 l2_1 l2_2) else (cpack_Right.j0 k bt172.1 true a2_0 l2_1 l2_2)))=some r:=h
 clear h
 obtain ⟨⟨t172,t173⟩,A4,H⟩:=ybi H
 try dsimp only at H
 have HC5:=zm H;clear H
 go_enter Try.func15,Try.ntmps15
 go_upto_region 2 with (first|((with_reducible refine gate_dst (N:=5) rfl ?_);(try (refine gate_guard (by rfl) ?_;dsimp only));refine ybx 5 #[.bool a2_0, .slice A2_1 l2_1.length c2_1, .slice A2_2 l2_2.length c2_2] 25 ?_;intro gb171 hg w6 hbox hb;have BK171:=zm (hbox);have GW171:=ygw hg;have GE171:=ygw hg;replace HB:=ybs hb;clear hb hbox hg;obtain ⟨hcz7_0,hcz7_1,hcz7_2,hfz7_0,hfz7_1,hfz7_2⟩:=yc3 BK171)|((with_reducible refine gate_callee (f:=30) rfl ?_);refine ygl 18 Try.func30 #[.int .i64 a0, .int .i64 a1, .slice A2_1 l2_1.length c2_1] ?_;(with_reducible refine (alloc_Pulses.calls k a0 a1 _ _ l2_1 t172 t173 _ ?side1 HC2_1.out A4.out).mono ?_);(case side1=>exact ycb HR2_1);rintro e w8 ⟨v174,rfl,ho0,hb⟩;refine ⟨_,rfl, ?_⟩;have HO175:=zm (Kd.S_lower ho0 (zE yhb));replace BK171:=ybb BK171 hb;replace HB:=ybs hb;(try clear hb);(try clear ho0)))
 (try simp only [Act.put,List.setIfInBounds_toArray,List.set_cons_zero,List.set_cons_succ])
 go_cut [29] (fun v29 wc => ∃ (kq : Nat) (x29_4 : Bool),v29=.bool x29_4∧Aside0 (cpack_Right.j0 kq t172 x29_4 a2_0 l2_1 l2_2=some r)∧Aside0 (kq≤k)∧Aside0 (Kd.S (Kd.slice 3 (Kd.int .i64)) 49 wc w.heap.size (fun _=>True) v174 t172)∧Aside0 (wc.heap[gb171]? = some (.cells #[.bool a2_0,(.slice A2_1 l2_1.length c2_1),(.slice A2_2 l2_2.length c2_2)] 25 (0,0)))∧Aside0 (Below w.heap.size w wc))
 case first =>
  have H:=HC5.out;clear HC5
  by_cases c9 : t173=0
  ·
   rw [if_pos c9] at H
   have c9b0 : (t173 == 0)=true:=beq_iff_eq.mpr c9
   have c9b1 : (t173 != 0)=false:=bne_eq_false_iff_eq.mpr c9
   clear c9
   (first|rw [c9b0]|(simp only [i64_w,i32_w];rw [c9b0])|skip)
   have H' := zm H
   clear H
   obtain ⟨_,_,_,_,_,_⟩:=yc3 BK171
   go_wp2
   go_meet
   case rel=>exact ⟨_,(((l2_2.length : Int) != a1)),yq,H',⟨yo⟩,⟨yr HO175⟩,⟨yk BK171⟩,⟨yhb⟩⟩
  ·
   rw [if_neg c9] at H
   have c9b0 : (t173 == 0)=false:=beq_eq_false_iff_ne.mpr c9
   have c9b1 : (t173 != 0)=true:=bne_iff_ne.mpr c9
   (first|rw [c9b0]|(simp only [i64_w,i32_w];rw [c9b0])|skip)
   have H' := zm H
   clear H
   go_wp2
   go_meet
   case rel=>exact ⟨_,(true),yq,H',⟨yo⟩,⟨yr HO175⟩,⟨yk BK171⟩,⟨yhb⟩⟩
 case rest =>
  clear HC5
  try clear hcz7_0
  try clear hcz7_1
  try clear hcz7_2
  try clear hfz7_0
  try clear hfz7_1
  try clear hfz7_2
  obtain ⟨kq,x29_4,rfl,HA,HJ4,HO_7,BK171,HB⟩:=hcut
  obtain ⟨kj4,rfl⟩:=ysu kq (fun h=>by subst h;exact absurd HA.out (by simp [cpack_Right.j0]))
  have H:=HA.out;clear HA
  simp only [cpack_Right.j0] at H
  by_cases c11 : x29_4=true
  ·
   subst c11
   rw [if_pos rfl] at H
   obtain rfl:=Option.some.inj H
   go_wp2
   go_ret
   exact ⟨ye,yhb⟩
  ·
   replace c11:=Bool.eq_false_iff.mpr c11
   subst c11
   rw [ynf] at H
   have H' := zm H
   clear H
   obtain ⟨hcz12_0,hcz12_1,hcz12_2,hfz12_0,hfz12_1,hfz12_2⟩:=yc3 BK171
   go_wp2
   go_loopg [33] kj4 (fun kq v33 w' => ∃ (x33_2 : Int),v33=.int .i64 x33_2∧Aside0 (cpack_Right.l0 kq t172 l2_2 (l2_2.length : Int) x33_2=some r)∧Aside0 (kq≤kj4)∧Aside0 (Kd.S (Kd.slice 3 (Kd.int .i64)) 49 w' w.heap.size (fun _=>True) v174 t172)∧Aside0 (w'.heap[gb171]? = some (.cells #[.bool a2_0,(.slice A2_1 l2_1.length c2_1),(.slice A2_2 l2_2.length c2_2)] 25 (0,0)))∧Aside0 (Below w.heap.size w w'))
   case atStart=>exact ⟨(0),yq,H',⟨Nat.le_refl _⟩,⟨yr HO_7⟩,⟨yk BK171⟩,⟨yhb⟩⟩
   case round =>
    clear H'
    try clear hcz12_0
    try clear hcz12_1
    try clear hcz12_2
    try clear hfz12_0
    try clear hfz12_1
    try clear hfz12_2
    obtain ⟨x33_2,rfl,HA,HK2,HO_7,BK171,HB⟩:=hrel
    obtain ⟨k2,rfl⟩:=ysu gk (fun h=>by subst h;exact absurd HA.out (by simp [cpack_Right.l0]))
    have H:=HA.out;clear HA
    simp only [cpack_Right.l0] at H
    by_cases c13 : x33_2 < (l2_2.length : Int)
    ·
     rw [if_pos c13] at H
     have c13b0 : decide (x33_2 < (l2_2.length : Int))=true:=decide_eq_true c13
     clear c13
     obtain ⟨c14,H⟩:=yif H
     have c14b0 : decide (0≤x33_2)=true:=decide_eq_true c14
     clear c14
     obtain ⟨c15,H⟩:=yif H
     have c15b0 : decide (x33_2 < (l2_2.length : Int))=true:=decide_eq_true c15
     clear c15
     by_cases c16 : ((rd_L2 l2_2 x33_2).length : Int)=5
     ·
      rw [if_pos c16] at H
      have c16b0 : (((rd_L2 l2_2 x33_2).length : Int) == 5)=true:=beq_iff_eq.mpr c16
      have c16b1 : (((rd_L2 l2_2 x33_2).length : Int) != 5)=false:=bne_eq_false_iff_eq.mpr c16
      clear c16
      have H' := zm H
      clear H
      have p176 : 0≤(x33_2 : Int):=yt
      have q176 : x33_2 < (l2_2.length : Int):=yt
      obtain ⟨ad176,A176_0,c176_0,e176,hx176_0,hl176_0,hi176_0⟩:=at_L2 HR2_2.out x33_2 p176 q176
      cases e176
      replace hx176_0:=yhx HB hx176_0
      have HR176_0:=zm hi176_0;have HC176_0:=zm hl176_0;clear hi176_0 hl176_0
      replace p176:=eq_true p176
      replace q176:=eq_true q176
      go_wp2
      go_loopg [43] k2 (fun kq v43 w' => ∃ (x43_3 : Int),v43=.int .i64 x43_3∧Aside0 (cpack_Right.l1 kq t172 x33_2 l2_2 (l2_2.length : Int) x33_2 (rd_L2 l2_2 x33_2) ((rd_L2 l2_2 x33_2).length : Int) x43_3=some r)∧Aside0 (kq≤k2)∧Aside0 (Kd.S (Kd.slice 3 (Kd.int .i64)) 49 w' w.heap.size (fun _=>True) v174 t172)∧Aside0 (w'.heap[gb171]? = some (.cells #[.bool a2_0,(.slice A2_1 l2_1.length c2_1),(.slice (some ad176) l2_2.length c2_2)] 25 (0,0)))∧Aside0 (Below w.heap.size w w'))
      case atStart=>exact ⟨(0),yq,H',⟨Nat.le_refl _⟩,⟨yr HO_7⟩,⟨yk BK171⟩,⟨yhb⟩⟩
      case round =>
       clear H'
       try clear c13b0
       try clear c14b0
       try clear c15b0
       try clear c16b0
       try clear c16b1
       try clear hx176_0
       try clear p176
       try clear q176
       obtain ⟨x43_3,rfl,HA,HK3,HO_7,BK171,HB⟩:=hrel
       obtain ⟨k3,rfl⟩:=ysu gk (fun h=>by subst h;exact absurd HA.out (by simp [cpack_Right.l1]))
       have H:=HA.out;clear HA
       simp only [cpack_Right.l1] at H
       by_cases c17 : x43_3 < ((rd_L2 l2_2 x33_2).length : Int)
       ·
        rw [if_pos c17] at H
        have c17b0 : decide (x43_3 < ((rd_L2 l2_2 x33_2).length : Int))=true:=decide_eq_true c17
        clear c17
        obtain ⟨c18,H⟩:=yif H
        have c18b0 : decide (0≤x43_3)=true:=decide_eq_true c18
        clear c18
        obtain ⟨c19,H⟩:=yif H
        have c19b0 : decide (x43_3 < ((rd_L2 l2_2 x33_2).length : Int))=true:=decide_eq_true c19
        clear c19
        obtain ⟨t178,A20,H⟩:=ybi H
        obtain ⟨c21,H⟩:=yif H
        have c21b0 : decide (0≤x33_2)=true:=decide_eq_true c21
        clear c21
        obtain ⟨c22,H⟩:=yif H
        have c22b0 : decide (x33_2 < (t172.length : Int))=true:=decide_eq_true c22
        clear c22
        obtain ⟨c23,H⟩:=yif H
        have c23b0 : decide (x43_3 < ((rd_L1 t172 x33_2).length : Int))=true:=decide_eq_true c23
        clear c23
        obtain ⟨t181,A24,H⟩:=ybi H
        by_cases c25 : t181=true
        ·
         subst c25
         rw [if_pos rfl] at H
         have H' := zm H
         clear H
         have p177 : 0≤(x43_3 : Int):=yt
         have q177 : x43_3 < ((rd_L2 l2_2 x33_2).length : Int):=yt
         obtain ⟨ad177,A177_0,c177_0,e177,hx177_0,hl177_0,hi177_0⟩:=at_L1 HR176_0.out x43_3 p177 q177
         cases e177
         replace hx177_0:=yhx HB hx177_0
         have HR177_0:=zm hi177_0;have HC177_0:=zm hl177_0;clear hi177_0 hl177_0
         replace p177:=eq_true p177
         replace q177:=eq_true q177
         try go_wp2
         replace HO_7:=zm (Kd.S_drew HO_7.out)
         replace BK171:=zm (zj BK171.out)
         replace HB:=zm (zf HB.out)
         obtain ⟨Ao27,co27,eo27⟩:=Kd.S_slice HO_7.out
         (first|subst eo27|(injection eo27 with f1_ f2_ f3_;have f4_:=f1_.symm;have f5_:=f3_.symm;clear f1_ f2_ f3_;subst f4_;subst f5_))
         have p179 : 0≤(x33_2 : Int):=yt
         have q179 : x33_2 < (t172.length : Int):=yt
         obtain ⟨ad179,A179_0,c179_0,e179,hx179_0,hl179_0,hi179_0⟩:=at_L1 (Kd.S_reads' HO_7.out).2.2 x33_2 p179 q179
         cases e179
         obtain ⟨ce179,hce179,hMe179,hcc179⟩:=Kd.S_get HO_7.out [] x33_2 p179 (by first|exact q179|exact yt|(have e_:=(Kd.S_reads' HO_7.out).1;omega))
         obtain ⟨ve179_0,rfl,ge179_0⟩:=hMe179
         have hv179_0:=hcc179 0 _ rfl
         rw [Nat.add_zero,show ((Kd.slice 3 (Kd.int .i64))).sz=1 from rfl,Nat.mul_one] at hv179_0
         replace hv179_0:=Option.some.inj (hv179_0.symm.trans hx179_0)
         rw [hv179_0] at ge179_0
         have HL179_0:=zm (show Kd.R (Kd.int .i64) 3 _ _ _ _ (rd_L1 t172 x33_2) from ge179_0)
         clear hv179_0 ge179_0;clear hcc179 hce179;have HR179_0:=zm hi179_0;have HC179_0:=zm hl179_0;clear hi179_0 hl179_0
         replace p179:=eq_true p179
         replace q179:=eq_true q179
         obtain ⟨ad180,e180,hx180_0,p180,q180⟩:=yai HR179_0 x43_3
         cases e180
         refine yst (fun w' => w'.cell? (ad179.add (x33_2).toNat)=some (.slice (some ad180) (rd_L1 t172 x33_2).length c179_0)∧w'.cell? (ad180.add (x43_3).toNat)=some (.int .i64 (rd (rd_L1 t172 x33_2) x43_3))) [] 12 cpack_Right.tab12 cpack_Right.bits12 (fun hHeld HT_ HW_ => ?_)
         generalize wr.drew=w26 at HO_7 BK171 HB HL179_0 HR179_0 hx179_0 hx180_0 hHeld ⊢
         refine yp 0 48 HT_ ?_
         refine yp 1 49 HT_ ?_
         refine yp 3 51 HT_ ?_
         refine yp 4 52 HT_ ?_
         refine yp 5 53 HT_ ?_
         refine yp 7 55 HT_ ?_
         refine yl 6 54 HT_ HW_ hHeld ?_
         refine yp 8 56 HT_ ?_
         refine yl 9 57 HT_ HW_ hHeld ?_
         refine yw 2 50 HT_ (fun K hK => ?_)
         refine ygs Try.func32 #[.int .i64 x43_3] ?_
         with_reducible refine (band_Width.calls x43_3 t178 _ A20.out).mono ?_
         rintro e w28 ⟨rfl,hb⟩
         have HS0_:=yhs hb hHeld.1
         have HS1_:=yhs hb hHeld.2
         refine ⟨_,rfl, ?_⟩
         replace HO_7:=ySb HO_7 hb
         replace HL179_0:=yRb HL179_0 hb
         replace BK171:=ybb BK171 hb
         replace HR179_0:=yCb HR179_0 hb
         replace HB:=ybs hb
         (try clear hb)
         refine hK.out _ _ yH (fun hHeld => ?_)
         clear hK K
         refine ym (some 50) ?_
         refine yw 10 58 HT_ (fun K hK => ?_)
         refine ygs Try.func44 #[.slice A177_0 (rd_L1 (rd_L2 l2_2 x33_2) x43_3).length c177_0, .int .i64 t178, .int .i64 (rd (rd_L1 t172 x33_2) x43_3)] ?_
         with_reducible refine (cpack_pulses.calls k3 _ _ (rd_L1 (rd_L2 l2_2 x33_2) x43_3) t178 (rd (rd_L1 t172 x33_2) x43_3) true _ ?side1 ?side2 A24.out).mono ?_
         (case side1=>exact ycb HR177_0)
         (case side2=>exact HC177_0.out)
         rintro e w29 ⟨rfl,hb⟩
         have HS0_:=yhs hb hHeld.1
         have HS1_:=yhs hb hHeld.2
         refine ⟨_,rfl, ?_⟩
         replace HO_7:=ySb HO_7 hb
         replace HL179_0:=yRb HL179_0 hb
         replace BK171:=ybb BK171 hb
         replace HR179_0:=yCb HR179_0 hb
         replace HB:=ybs hb
         (try clear hb)
         refine hK.out _ _ yH (fun hHeld => ?_)
         clear hK K
         refine ym (some 58) ?_
         refine yp 11 59 HT_ ?_
         refine done_ (done_of HT_.out (by kernel_rfl)) ?_
         try go_wp2
         go_roundg k3
         case measure=>exact yom3 HJ4 HK2 HK3
         case rel=>exact ⟨(wrap64 (x43_3+1)),yq,H',⟨yom3 HJ4 HK2 HK3⟩,⟨yr HO_7⟩,⟨yk BK171⟩,⟨yhb⟩⟩
        ·
         replace c25:=Bool.eq_false_iff.mpr c25
         subst c25
         rw [ynf] at H
         obtain rfl:=Option.some.inj H
         have p177 : 0≤(x43_3 : Int):=yt
         have q177 : x43_3 < ((rd_L2 l2_2 x33_2).length : Int):=yt
         obtain ⟨ad177,A177_0,c177_0,e177,hx177_0,hl177_0,hi177_0⟩:=at_L1 HR176_0.out x43_3 p177 q177
         cases e177
         replace hx177_0:=yhx HB hx177_0
         have HR177_0:=zm hi177_0;have HC177_0:=zm hl177_0;clear hi177_0 hl177_0
         replace p177:=eq_true p177
         replace q177:=eq_true q177
         try go_wp2
         replace HO_7:=zm (Kd.S_drew HO_7.out)
         replace BK171:=zm (zj BK171.out)
         replace HB:=zm (zf HB.out)
         obtain ⟨Ao31,co31,eo31⟩:=Kd.S_slice HO_7.out
         (first|subst eo31|(injection eo31 with f1_ f2_ f3_;have f4_:=f1_.symm;have f5_:=f3_.symm;clear f1_ f2_ f3_;subst f4_;subst f5_))
         have p179 : 0≤(x33_2 : Int):=yt
         have q179 : x33_2 < (t172.length : Int):=yt
         obtain ⟨ad179,A179_0,c179_0,e179,hx179_0,hl179_0,hi179_0⟩:=at_L1 (Kd.S_reads' HO_7.out).2.2 x33_2 p179 q179
         cases e179
         obtain ⟨ce179,hce179,hMe179,hcc179⟩:=Kd.S_get HO_7.out [] x33_2 p179 (by first|exact q179|exact yt|(have e_:=(Kd.S_reads' HO_7.out).1;omega))
         obtain ⟨ve179_0,rfl,ge179_0⟩:=hMe179
         have hv179_0:=hcc179 0 _ rfl
         rw [Nat.add_zero,show ((Kd.slice 3 (Kd.int .i64))).sz=1 from rfl,Nat.mul_one] at hv179_0
         replace hv179_0:=Option.some.inj (hv179_0.symm.trans hx179_0)
         rw [hv179_0] at ge179_0
         have HL179_0:=zm (show Kd.R (Kd.int .i64) 3 _ _ _ _ (rd_L1 t172 x33_2) from ge179_0)
         clear hv179_0 ge179_0;clear hcc179 hce179;have HR179_0:=zm hi179_0;have HC179_0:=zm hl179_0;clear hi179_0 hl179_0
         replace p179:=eq_true p179
         replace q179:=eq_true q179
         obtain ⟨ad180,e180,hx180_0,p180,q180⟩:=yai HR179_0 x43_3
         cases e180
         refine yst (fun w' => w'.cell? (ad179.add (x33_2).toNat)=some (.slice (some ad180) (rd_L1 t172 x33_2).length c179_0)∧w'.cell? (ad180.add (x43_3).toNat)=some (.int .i64 (rd (rd_L1 t172 x33_2) x43_3))) [] 12 cpack_Right.tab12 cpack_Right.bits12 (fun hHeld HT_ HW_ => ?_)
         generalize wr.drew=w30 at HO_7 BK171 HB HL179_0 HR179_0 hx179_0 hx180_0 hHeld ⊢
         refine yp 0 48 HT_ ?_
         refine yp 1 49 HT_ ?_
         refine yp 3 51 HT_ ?_
         refine yp 4 52 HT_ ?_
         refine yp 5 53 HT_ ?_
         refine yp 7 55 HT_ ?_
         refine yl 6 54 HT_ HW_ hHeld ?_
         refine yp 8 56 HT_ ?_
         refine yl 9 57 HT_ HW_ hHeld ?_
         refine yw 2 50 HT_ (fun K hK => ?_)
         refine ygs Try.func32 #[.int .i64 x43_3] ?_
         with_reducible refine (band_Width.calls x43_3 t178 _ A20.out).mono ?_
         rintro e w32 ⟨rfl,hb⟩
         have HS0_:=yhs hb hHeld.1
         have HS1_:=yhs hb hHeld.2
         refine ⟨_,rfl, ?_⟩
         replace HO_7:=ySb HO_7 hb
         replace HL179_0:=yRb HL179_0 hb
         replace BK171:=ybb BK171 hb
         replace HR179_0:=yCb HR179_0 hb
         replace HB:=ybs hb
         (try clear hb)
         refine hK.out _ _ yH (fun hHeld => ?_)
         clear hK K
         refine ym (some 50) ?_
         refine yw 10 58 HT_ (fun K hK => ?_)
         refine ygs Try.func44 #[.slice A177_0 (rd_L1 (rd_L2 l2_2 x33_2) x43_3).length c177_0, .int .i64 t178, .int .i64 (rd (rd_L1 t172 x33_2) x43_3)] ?_
         with_reducible refine (cpack_pulses.calls k3 _ _ (rd_L1 (rd_L2 l2_2 x33_2) x43_3) t178 (rd (rd_L1 t172 x33_2) x43_3) false _ ?side1 ?side2 A24.out).mono ?_
         (case side1=>exact ycb HR177_0)
         (case side2=>exact HC177_0.out)
         rintro e w33 ⟨rfl,hb⟩
         have HS0_:=yhs hb hHeld.1
         have HS1_:=yhs hb hHeld.2
         refine ⟨_,rfl, ?_⟩
         replace HO_7:=ySb HO_7 hb
         replace HL179_0:=yRb HL179_0 hb
         replace BK171:=ybb BK171 hb
         replace HR179_0:=yCb HR179_0 hb
         replace HB:=ybs hb
         (try clear hb)
         refine hK.out _ _ yH (fun hHeld => ?_)
         clear hK K
         refine ym (some 58) ?_
         refine yp 11 59 HT_ ?_
         refine done_ (done_of HT_.out (by kernel_rfl)) ?_
         try go_wp2
         go_ret
         exact ⟨ye,yhb⟩
       ·
        rw [if_neg c17] at H
        have c17b0 : decide (x43_3 < ((rd_L2 l2_2 x33_2).length : Int))=false:=decide_eq_false c17
        clear c17
        have H' := zm H
        clear H
        go_wp2
        go_roundg k3
        case measure=>exact yom3 HJ4 HK2 HK3
        case rel=>exact ⟨(wrap64 (x33_2+1)),yq,H',⟨yom3 HJ4 HK2 HK3⟩,⟨yr HO_7⟩,⟨yk BK171⟩,⟨yhb⟩⟩
     ·
      rw [if_neg c16] at H
      have c16b0 : (((rd_L2 l2_2 x33_2).length : Int) == 5)=false:=beq_eq_false_iff_ne.mpr c16
      have c16b1 : (((rd_L2 l2_2 x33_2).length : Int) != 5)=true:=bne_iff_ne.mpr c16
      obtain rfl:=Option.some.inj H
      have p176 : 0≤(x33_2 : Int):=yt
      have q176 : x33_2 < (l2_2.length : Int):=yt
      obtain ⟨ad176,A176_0,c176_0,e176,hx176_0,hl176_0,hi176_0⟩:=at_L2 HR2_2.out x33_2 p176 q176
      cases e176
      replace hx176_0:=yhx HB hx176_0
      have HR176_0:=zm hi176_0;have HC176_0:=zm hl176_0;clear hi176_0 hl176_0
      replace p176:=eq_true p176
      replace q176:=eq_true q176
      go_wp2
      go_ret
      exact ⟨ye,yhb⟩
    ·
     rw [if_neg c13] at H
     have c13b0 : decide (x33_2 < (l2_2.length : Int))=false:=decide_eq_false c13
     clear c13
     obtain rfl:=Option.some.inj H
     go_wp2
     go_ret
     exact ⟨ye,yhb⟩
def cpack_gains.l0 : Nat→Int→List (List Int)→List (List Int)→Int→Int→Option (Bool)
 | 0,_,_,_,_,_=>none
 | k+1,x0,x1,x7,x8,x9=>if x9 < x8 then (if 0≤x9 then (if x9 < (x7.length : Int) then ((gain_Right.f k (rd_L1 x7 x9)).bind fun t183=>(if t183=true then (cpack_gains.l0 k x0 x1 x7 x8 (wrap64 (x9+1))) else (some false))) else (none)) else (none)) else (some ((x1.length : Int) == x0))
def cpack_gains.f (k : Nat) (a0 : Int) (l1 : List (List Int)) : Option (Bool):=cpack_gains.l0 k a0 l1 l1 (l1.length : Int) 0
theorem cpack_gains.mono_l : ∀ k,(∀ y0 y1 y2 y3 y4,LeO (cpack_gains.l0 k y0 y1 y2 y3 y4) (cpack_gains.l0 (k+1) y0 y1 y2 y3 y4))
 | 0=>fun _ _ _ _ _ r h=>by simp [cpack_gains.l0] at h
 | k+1=>by
  have ih0:=cpack_gains.mono_l k
  ·
   intro y0 y1 y2 y3 y4
   unfold cpack_gains.l0
   repeat' with_reducible first|apply ih0|apply gain_Right.mono|apply yLr|apply yLn|apply yLi|apply yLb|intro _
theorem cpack_gains.mono : ∀ a0 a1 k,LeO (cpack_gains.f k a0 a1) (cpack_gains.f (k+1) a0 a1):=by
 intro a0 a1 k
 have ih0:=cpack_gains.mono_l k
 unfold cpack_gains.f
 repeat' with_reducible first|apply ih0|apply gain_Right.mono|apply yLr|apply yLn|apply yLi|apply yLb|intro _
set_option maxHeartbeats 8000000 in
set_option maxRecDepth 100000 in
theorem cpack_gains.calls (k : Nat) (a0 : Int) (A1 : Option Addr) (c1 : Nat) (l1 : List (List Int)) (r : Bool) (w : World) (hr1 : Kd.C (Kd.slice 3 (Kd.int .i64)) w A1 l1.length l1) (hc1 : l1.length≤c1) (h : cpack_gains.f k a0 l1=some r) :
  Calls Try.prog 25 #[.int .i64 a0, .slice A1 l1.length c1] w fun e w' => e=.returned (.bool r)∧Drawn0 w w' := by
 have HR1:=zm hr1;have HC1:=zm hc1;clear hr1 hc1
 have H : (cpack_gains.l0 k a0 l1 l1 (l1.length : Int) 0)=some r:=h
 clear h
 have H' := zm H
 clear H
 go_enter Try.func25,Try.ntmps25
 go_wp2
 go_loopg [9] k (fun kq v9 w' => ∃ (x9_1 : Int),v9=.int .i64 x9_1∧Aside0 (cpack_gains.l0 kq a0 l1 l1 (l1.length : Int) x9_1=some r)∧Aside0 (kq≤k)∧Drawn0 w w')
 case atStart=>exact ⟨(0),yq,H',⟨Nat.le_refl _⟩,yd⟩
 case round =>
  clear H'
  try clear c1
  obtain ⟨x9_1,rfl,HA,HK1,⟨m1,rfl⟩⟩:=hrel
  obtain ⟨k1,rfl⟩:=ysu gk (fun h=>by subst h;exact absurd HA.out (by simp [cpack_gains.l0]))
  have H:=HA.out;clear HA
  simp only [cpack_gains.l0] at H
  by_cases c3 : x9_1 < (l1.length : Int)
  ·
   rw [if_pos c3] at H
   have c3b0 : decide (x9_1 < (l1.length : Int))=true:=decide_eq_true c3
   clear c3
   obtain ⟨c4,H⟩:=yif H
   have c4b0 : decide (0≤x9_1)=true:=decide_eq_true c4
   clear c4
   obtain ⟨c5,H⟩:=yif H
   have c5b0 : decide (x9_1 < (l1.length : Int))=true:=decide_eq_true c5
   clear c5
   obtain ⟨t183,A6,H⟩:=ybi H
   by_cases c7 : t183=true
   ·
    subst c7
    rw [if_pos rfl] at H
    have H' := zm H
    clear H
    have p182 : 0≤(x9_1 : Int):=yt
    have q182 : x9_1 < (l1.length : Int):=yt
    obtain ⟨ad182,A182_0,c182_0,e182,hx182_0,hl182_0,hi182_0⟩:=at_L1 HR1.out x9_1 p182 q182
    cases e182
    have HR182_0:=zm hi182_0;have HC182_0:=zm hl182_0;clear hi182_0 hl182_0
    replace p182:=eq_true p182
    replace q182:=eq_true q182
    go_wp2_with (first|((with_reducible refine gate_callee (f:=62) rfl ?_);refine ygl 14 Try.func62 #[.slice A182_0 (rd_L1 l1 x9_1).length c182_0] ?_;(with_reducible refine (gain_Right.calls k1 _ _ (rd_L1 l1 x9_1) true _ ?side1 HC182_0.out A6.out).mono ?_);(case side1=>exact yce HR182_0.out);rintro e w' ⟨rfl,⟨nd,rfl⟩⟩;refine ⟨_,rfl, ?_⟩))
    go_roundg k1
    case measure=>exact yom1 HK1
    case rel=>exact ⟨(wrap64 (x9_1+1)),yq,H',⟨yom1 HK1⟩,yd⟩
   ·
    replace c7:=Bool.eq_false_iff.mpr c7
    subst c7
    rw [ynf] at H
    obtain rfl:=Option.some.inj H
    have p182 : 0≤(x9_1 : Int):=yt
    have q182 : x9_1 < (l1.length : Int):=yt
    obtain ⟨ad182,A182_0,c182_0,e182,hx182_0,hl182_0,hi182_0⟩:=at_L1 HR1.out x9_1 p182 q182
    cases e182
    have HR182_0:=zm hi182_0;have HC182_0:=zm hl182_0;clear hi182_0 hl182_0
    replace p182:=eq_true p182
    replace q182:=eq_true q182
    go_wp2_with (first|((with_reducible refine gate_callee (f:=62) rfl ?_);refine ygl 14 Try.func62 #[.slice A182_0 (rd_L1 l1 x9_1).length c182_0] ?_;(with_reducible refine (gain_Right.calls k1 _ _ (rd_L1 l1 x9_1) false _ ?side1 HC182_0.out A6.out).mono ?_);(case side1=>exact yce HR182_0.out);rintro e w' ⟨rfl,⟨nd,rfl⟩⟩;refine ⟨_,rfl, ?_⟩))
    go_ret
    exact ⟨yq,yd⟩
  ·
   rw [if_neg c3] at H
   have c3b0 : decide (x9_1 < (l1.length : Int))=false:=decide_eq_false c3
   clear c3
   obtain rfl:=Option.some.inj H
   go_wp2
   go_ret
   exact ⟨yq,yd⟩
def cpack_of.f (l0 : List (List Int)) (a1 : Int) : Option (List Int):=if a1 < (l0.length : Int) then (if 0≤a1 then (some (rd_L1 l0 a1)) else (none)) else (some ([] : List Int))
set_option maxHeartbeats 8000000 in
set_option maxRecDepth 100000 in
theorem cpack_of.calls (P0_ : Nat→Prop) (A0 : Option Addr) (c0 : Nat) (l0 : List (List Int)) (a1 : Int) (r : List Int) (w : World) (hs0 : Kd.V (Kd.slice 3 (Kd.int .i64)) 49 w w.heap.size (fun k_=>P0_ k_) (.slice A0 l0.length c0) l0) (h : cpack_of.f l0 a1=some r) :
  Calls Try.prog 29 #[.slice A0 l0.length c0, .int .i64 a1] w fun e w' => ∃ v0_ : Value,e=.returned (v0_)∧Kd.V (Kd.int .i64) 3 w' w.heap.size (fun k_=>(P0_ k_∨w.heap.size≤k_)) v0_ r∧Below w.heap.size w w' := by
 have HO0:=zm (show Kd.V (Kd.slice 3 (Kd.int .i64)) 49 w w.heap.size (fun k_=>(P0_ k_∨w.heap.size≤k_)) (.slice A0 l0.length c0) l0 from zy hs0 (fun k_ hk => .inl hk))
 have HB:=zm (Below.refl w.heap.size w)
 have H : (if a1 < (l0.length : Int) then (if 0≤a1 then (some (rd_L1 l0 a1)) else (none)) else (some ([] : List Int)))=some r:=h
 clear h
 by_cases c3 : a1 < (l0.length : Int)
 ·
  rw [if_pos c3] at H
  have c3b0 : decide (a1 < (l0.length : Int))=true:=decide_eq_true c3
  clear c3
  obtain ⟨c4,H⟩:=yif H
  have c4b0 : decide (0≤a1)=true:=decide_eq_true c4
  clear c4
  obtain rfl:=Option.some.inj H
  have p287 : 0≤(a1 : Int):=yt
  have q287 : a1 < (l0.length : Int):=yt
  obtain ⟨ad287,A287_0,c287_0,e287,hx287_0,hl287_0,hi287_0⟩:=at_L1 (Kd.V_reads' HO0.out).2.2 a1 p287 q287
  cases e287
  obtain ⟨ce287,hce287,hMe287,hcc287⟩:=Kd.V_get HO0.out [] a1 p287 (by first|exact q287|exact yt|(have e_:=(Kd.V_reads' HO0.out).1;omega))
  obtain ⟨ua287_0,uc287_0,rfl,ul287_0,ge287_0⟩:=Kd.FK_slice_open hMe287
  have hv287_0:=hcc287 0 _ rfl
  rw [Nat.add_zero,show ((Kd.slice 3 (Kd.int .i64))).sz=1 from rfl,Nat.mul_one] at hv287_0
  replace hv287_0:=Option.some.inj (hv287_0.symm.trans hx287_0)
  injection hv287_0 with hva_ hvn_ hvc_
  rw [hva_] at ge287_0
  rw [hvc_] at ul287_0
  have HL287_0:=zm (show Kd.V (Kd.int .i64) 3 _ w.heap.size _ _ (rd_L1 l0 a1) from Kd.V_mk ul287_0 ge287_0)
  clear hva_ hvn_ hvc_ ge287_0 ul287_0;clear hcc287 hce287;have HR287_0:=zm hi287_0;have HC287_0:=zm hl287_0;clear hi287_0 hl287_0
  replace p287:=eq_true p287
  replace q287:=eq_true q287
  go_enter Try.func29,Try.ntmps29
  go_wp2
  go_ret
  exact ⟨_,ye,yr HL287_0,yhb⟩
 ·
  rw [if_neg c3] at H
  have c3b0 : decide (a1 < (l0.length : Int))=false:=decide_eq_false c3
  clear c3
  obtain rfl:=Option.some.inj H
  go_enter Try.func29,Try.ntmps29
  go_wp2
  go_ret
  exact ⟨_,ye,(by first|exact Kd.V_nil _ _ _ _ _|exact zy (Kd.R_V (yn)) (fun k_ hk=>by first|exact ⟨(.inr (hk.1)),hk.2⟩|exact (.inr (hk)))),yhb⟩
def gain_put.j0 : Nat→Int→Int→Bool→Int→Int→List Int→Option (Int × Int × List Int × Int)
 | 0,_,_,_,_,_,_=>none
 | k+1,x1,x10,x23,x240000,x240001,x240002=>if x23=true then ((coder_Put.f k x240000 x240001 x240002 (wrap64 (x10+3)) (wrap64 ((wrap64 (x10+3))+1)) 8).bind fun bt247=>(some (bt247.1,bt247.2.1,bt247.2.2.1,bt247.2.2.2))) else ((coder_Put.f k x240000 x240001 x240002 7 8 8).bind fun bt253=>(if bt253.2.2.2=0 then ((coder_PutNum.f k bt253.1 bt253.2.1 bt253.2.2.1 (IntKind.u64.wrap (x1)) 45).bind fun bt260=>(some (bt260.1,bt260.2.1,bt260.2.2.1,bt260.2.2.2))) else (some (bt253.1,bt253.2.1,bt253.2.2.1,bt253.2.2.2))))
def gain_put.f (k : Nat) (a0_0 : Int) (a0_1 : Int) (l0_2 : List Int) (a1 : Int) (a2 : Int) (a3 : Bool) : Option (Int × Int × List Int × Int):=if a3=true then ((coder_PutNum.f k a0_0 a0_1 l0_2 (IntKind.u64.wrap (a1)) 45).bind fun bt241=>(some (bt241.1,bt241.2.1,bt241.2.2.1,bt241.2.2.2))) else (if (wrap64 (a1 - a2)) ≥ (-3) then (gain_put.j0 k a1 (wrap64 (a1 - a2)) (decide ((wrap64 (a1 - a2))≤3)) a0_0 a0_1 l0_2) else (gain_put.j0 k a1 (wrap64 (a1 - a2)) false a0_0 a0_1 l0_2))
theorem gain_put.mono_l : ∀ k,(∀ y0 y1 y2 y3 y4 y5,LeO (gain_put.j0 k y0 y1 y2 y3 y4 y5) (gain_put.j0 (k+1) y0 y1 y2 y3 y4 y5))
 | 0=>fun _ _ _ _ _ _ r h=>by simp [gain_put.j0] at h
 | k+1=>by
  have ih0:=gain_put.mono_l k
  ·
   intro y0 y1 y2 y3 y4 y5
   unfold gain_put.j0
   repeat' with_reducible first|apply ih0|apply coder_Put.mono|apply coder_PutNum.mono|apply yLr|apply yLn|apply yLi|apply yLb|intro _
theorem gain_put.mono : ∀ a0 a1 a2 a3 a4 a5 k,LeO (gain_put.f k a0 a1 a2 a3 a4 a5) (gain_put.f (k+1) a0 a1 a2 a3 a4 a5):=by
 intro a0 a1 a2 a3 a4 a5 k
 have ih0:=gain_put.mono_l k
 unfold gain_put.f
 repeat' with_reducible first|apply ih0|apply coder_Put.mono|apply coder_PutNum.mono|apply yLr|apply yLn|apply yLi|apply yLb|intro _
set_option maxHeartbeats 8000000 in
set_option maxRecDepth 100000 in
theorem gain_put.calls (k : Nat) (a0_0 : Int) (a0_1 : Int) (A0_2 : Option Addr) (c0_2 : Nat) (l0_2 : List Int) (a1 : Int) (a2 : Int) (a3 : Bool) (r1 : Int) (r2 : Int) (r3 : List Int) (r4 : Int) (w : World) (hr0_2 : Kd.C (Kd.int .u8) w A0_2 l0_2.length l0_2) (hc0_2 : l0_2.length≤c0_2) (h : gain_put.f k a0_0 a0_1 l0_2 a1 a2 a3=some (r1,r2,r3,r4)) :
  Calls Try.prog 67 #[.agg #[.int .u64 a0_0, .int .u32 a0_1, .slice A0_2 l0_2.length c0_2], .int .i64 a1, .int .i64 a2, .bool a3] w fun e w' => ∃ v2_ : Value,e=.returned (.tuple #[.agg #[.int .u64 r1, .int .u32 r2,v2_], .int .i64 r4])∧Kd.R (Kd.int .u8) 5 w' w.heap.size (fun _=>True) v2_ r3∧Below w.heap.size w w' := by
 have hu54:=Try.underlying54;have HR0_2:=zm hr0_2;have HC0_2:=zm hc0_2;clear hr0_2 hc0_2;have HB:=zm (Below.refl w.heap.size w)
 have H : (if a3=true then ((coder_PutNum.f k a0_0 a0_1 l0_2 (IntKind.u64.wrap (a1)) 45).bind fun bt241=>(some (bt241.1,bt241.2.1,bt241.2.2.1,bt241.2.2.2))) else (if (wrap64 (a1 - a2)) ≥ (-3) then (gain_put.j0 k a1 (wrap64 (a1 - a2)) (decide ((wrap64 (a1 - a2))≤3)) a0_0 a0_1 l0_2) else (gain_put.j0 k a1 (wrap64 (a1 - a2)) false a0_0 a0_1 l0_2)))=some (r1,r2,r3,r4):=h
 clear h
 by_cases c5 : a3=true
 ·
  subst c5
  rw [if_pos rfl] at H
  obtain ⟨⟨t241,t242,t243,t246⟩,A6,H⟩:=ybi H
  try dsimp only at H
  simp only [Option.some.injEq,Prod.mk.injEq] at H
  obtain ⟨rfl,rfl,rfl,rfl⟩:=H
  go_enter Try.func67,Try.ntmps67
  go_wp2_with (first|((with_reducible refine gate_dst (N:=4) rfl ?_);refine ybx 4 #[.int .u64 a0_0, .int .u32 a0_1, .slice A0_2 l0_2.length c0_2] 54 ?_;intro gb239 hg w7 hbox hb;have BK239:=zm (hbox);have GW239:=ygw hg;have GE239:=ygw hg;replace HB:=ybs hb;clear hb hbox hg)|((with_reducible refine gate_dst (N:=8) rfl ?_);refine ybx 8 #[.int .u64 0, .int .u32 0, .slice none 0 0] 54 ?_;intro gb240 hg w8 hbox hb;have BK240:=zm (hbox);have GW240:=ygw hg;have GE240:=ygw hg;replace HB:=ybs hb;have NB239_240:=ynl BK239 hg;have NB240_239:=yng BK239 hg;replace BK239:=ybb BK239 hb;clear hb hbox hg;have:=NB239_240.out;have:=NB240_239.out;obtain ⟨hcz10_0,hcz10_1,hcz10_2,hfz10_0,hfz10_1,hfz10_2⟩:=yc3 BK239)|((with_reducible refine gate_callee (f:=34) rfl ?_);refine ygl 46 Try.func34 #[.agg #[.int .u64 a0_0, .int .u32 a0_1, .slice A0_2 l0_2.length c0_2], .int .u64 (IntKind.u64.wrap (a1)), .int .u64 45] ?_;(with_reducible refine (coder_PutNum.calls k a0_0 a0_1 _ _ l0_2 (IntKind.u64.wrap (a1)) 45 t241 t242 t243 t246 _ ?side1 HC0_2.out A6.out).mono ?_);(case side1=>exact ycb HR0_2);rintro e w11 ⟨v244,rfl,ho0,hb⟩;refine ⟨_,rfl, ?_⟩;have HO245:=zm (Kd.R_lower ho0 (zE yhb));replace BK239:=ybb BK239 hb;replace BK240:=ybb BK240 hb;replace HB:=ybs hb;(try clear hb);(try clear ho0);obtain ⟨hcz12_0,hcz12_1,hcz12_2,hfz12_0,hfz12_1,hfz12_2⟩:=yc3 BK240;obtain ⟨Ao13,co13,eo13⟩:=Kd.R_slice HO245.out;subst eo13))
  refine bodyPost_ret (results_ct rfl _ _ gb240 54 #[.int .u64 t241, .int .u32 t242, .slice Ao13 t243.length co13] (0,0) _ rfl (ykp BK240) Try.underlying54 rfl (by kernel_rfl)) rfl ?_
  exact ⟨_,ye,yR1 HO245 BK240,yhb⟩
 ·
  replace c5:=Bool.eq_false_iff.mpr c5
  subst c5
  rw [ynf] at H
  have HC14:=zm H;clear H
  go_enter Try.func67,Try.ntmps67
  go_upto_region 3 with (first|((with_reducible refine gate_dst (N:=4) rfl ?_);refine ybx 4 #[.int .u64 a0_0, .int .u32 a0_1, .slice A0_2 l0_2.length c0_2] 54 ?_;intro gb239 hg w15 hbox hb;have BK239:=zm (hbox);have GW239:=ygw hg;have GE239:=ygw hg;replace HB:=ybs hb;clear hb hbox hg)|((with_reducible refine gate_dst (N:=8) rfl ?_);refine ybx 8 #[.int .u64 0, .int .u32 0, .slice none 0 0] 54 ?_;intro gb240 hg w16 hbox hb;have BK240:=zm (hbox);have GW240:=ygw hg;have GE240:=ygw hg;replace HB:=ybs hb;have NB239_240:=ynl BK239 hg;have NB240_239:=yng BK239 hg;replace BK239:=ybb BK239 hb;clear hb hbox hg))
  (try simp only [Act.put,List.setIfInBounds_toArray,List.set_cons_zero,List.set_cons_succ])
  go_cut [23] (fun v23 wc => ∃ (kq : Nat) (x23_13 : Bool),v23=.bool x23_13∧Aside0 (gain_put.j0 kq a1 (wrap64 (a1 - a2)) x23_13 a0_0 a0_1 l0_2=some (r1,r2,r3,r4))∧Aside0 (kq≤k)∧Aside0 (wc.heap[gb239]? = some (.cells #[.int .u64 a0_0, .int .u32 a0_1,(.slice A0_2 l0_2.length c0_2)] 54 (0,0)))∧Aside0 (wc.heap[gb240]? = some (.cells #[.int .u64 0, .int .u32 0,(.slice none 0 0)] 54 (0,0)))∧Aside0 (Below w.heap.size w wc))
  case first =>
   have H:=HC14.out;clear HC14
   by_cases c17 : (wrap64 (a1 - a2)) ≥ (-3)
   ·
    rw [if_pos c17] at H
    have c17b0 : decide ((-3)≤(wrap64 (a1 - a2)))=true:=decide_eq_true c17
    clear c17
    (first|rw [c17b0]|(simp only [i64_w,i32_w];rw [c17b0])|skip)
    have H' := zm H
    clear H
    go_wp2
    go_meet
    case rel=>exact ⟨_,(decide ((wrap64 (a1 - a2))≤3)),yq,H',⟨yo⟩,⟨yk BK239⟩,⟨yk BK240⟩,⟨yhb⟩⟩
   ·
    rw [if_neg c17] at H
    have c17b0 : decide ((-3)≤(wrap64 (a1 - a2)))=false:=decide_eq_false c17
    clear c17
    (first|rw [c17b0]|(simp only [i64_w,i32_w];rw [c17b0])|skip)
    have H' := zm H
    clear H
    go_wp2
    go_meet
    case rel=>exact ⟨_,(false),yq,H',⟨yo⟩,⟨yk BK239⟩,⟨yk BK240⟩,⟨yhb⟩⟩
  case rest =>
   clear HC14
   try clear hcz10_0
   try clear hcz10_1
   try clear hcz10_2
   try clear hcz12_0
   try clear hcz12_1
   try clear hcz12_2
   try clear hfz10_0
   try clear hfz10_1
   try clear hfz10_2
   try clear hfz12_0
   try clear hfz12_1
   try clear hfz12_2
   obtain ⟨kq,x23_13,rfl,HA,HJ13,BK239,BK240,HB⟩:=hcut
   obtain ⟨kj13,rfl⟩:=ysu kq (fun h=>by subst h;exact absurd HA.out (by simp [gain_put.j0]))
   have H:=HA.out;clear HA
   simp only [gain_put.j0] at H
   by_cases c18 : x23_13=true
   ·
    subst c18
    rw [if_pos rfl] at H
    obtain ⟨⟨t247,t248,t249,t252⟩,A19,H⟩:=ybi H
    try dsimp only at H
    simp only [Option.some.injEq,Prod.mk.injEq] at H
    obtain ⟨rfl,rfl,rfl,rfl⟩:=H
    have:=NB239_240.out
    have:=NB240_239.out
    obtain ⟨_,_,_,_,_,_⟩:=yc3 BK239
    go_wp2_with (first|((with_reducible refine gate_callee (f:=26) rfl ?_);refine ygl 30 Try.func26 #[.agg #[.int .u64 a0_0, .int .u32 a0_1, .slice A0_2 l0_2.length c0_2], .int .i64 (wrap64 ((wrap64 (a1 - a2))+3)), .int .i64 (wrap64 ((wrap64 ((wrap64 (a1 - a2))+3))+1)), .int .i64 8] ?_;(with_reducible refine (coder_Put.calls kj13 a0_0 a0_1 _ _ l0_2 (wrap64 ((wrap64 (a1 - a2))+3)) (wrap64 ((wrap64 ((wrap64 (a1 - a2))+3))+1)) 8 t247 t248 t249 t252 _ ?side1 HC0_2.out A19.out).mono ?_);(case side1=>exact ycb HR0_2);rintro e w22 ⟨v250,rfl,ho0,hb⟩;refine ⟨_,rfl, ?_⟩;have HO251:=zm (Kd.R_lower ho0 (zE yhb));replace BK239:=ybb BK239 hb;replace BK240:=ybb BK240 hb;replace HB:=ybs hb;(try clear hb);(try clear ho0);obtain ⟨_,_,_,_,_,_⟩:=yc3 BK240;obtain ⟨Ao24,co24,eo24⟩:=Kd.R_slice HO251.out;subst eo24))
    refine bodyPost_ret (results_ct rfl _ _ gb240 54 #[.int .u64 t247, .int .u32 t248, .slice Ao24 t249.length co24] (0,0) _ rfl (ykp BK240) Try.underlying54 rfl (by kernel_rfl)) rfl ?_
    exact ⟨_,ye,yR1 HO251 BK240,yhb⟩
   ·
    replace c18:=Bool.eq_false_iff.mpr c18
    subst c18
    rw [ynf] at H
    obtain ⟨⟨t253,t254,t255,t258⟩,A25,H⟩:=ybi H
    try dsimp only at H
    by_cases c26 : t258=0
    ·
     rw [if_pos c26] at H
     have c26b0 : (t258 == 0)=true:=beq_iff_eq.mpr c26
     have c26b1 : (t258 != 0)=false:=bne_eq_false_iff_eq.mpr c26
     clear c26
     obtain ⟨⟨t260,t261,t262,t265⟩,A27,H⟩:=ybi H
     try dsimp only at H
     simp only [Option.some.injEq,Prod.mk.injEq] at H
     obtain ⟨rfl,rfl,rfl,rfl⟩:=H
     have:=NB239_240.out
     have:=NB240_239.out
     obtain ⟨_,_,_,_,_,_⟩:=yc3 BK239
     go_wp2_with (first|((with_reducible refine gate_callee (f:=26) rfl ?_);refine ygl 35 Try.func26 #[.agg #[.int .u64 a0_0, .int .u32 a0_1, .slice A0_2 l0_2.length c0_2], .int .i64 7, .int .i64 8, .int .i64 8] ?_;(with_reducible refine (coder_Put.calls kj13 a0_0 a0_1 _ _ l0_2 7 8 8 t253 t254 t255 t258 _ ?side1 HC0_2.out A25.out).mono ?_);(case side1=>exact ycb HR0_2);rintro e w30 ⟨v256,rfl,ho0,hb⟩;refine ⟨_,rfl, ?_⟩;have HO257:=zm (Kd.R_lower ho0 (zE yhb));replace BK239:=ybb BK239 hb;replace BK240:=ybb BK240 hb;replace HB:=ybs hb;(try clear hb);(try clear ho0))|((with_reducible refine gate_dst (N:=11) rfl ?_);refine ybx 11 #[.int .u64 0, .int .u32 0, .slice none 0 0] 54 ?_;intro gb259 hg w31 hbox hb;replace HO257:=yRb HO257 hb;have BK259:=zm (hbox);have GW259:=ygw hg;have GE259:=ygw hg;replace HB:=ybs hb;have NB239_259:=ynl BK239 hg;have NB259_239:=yng BK239 hg;replace BK239:=ybb BK239 hb;have NB240_259:=ynl BK240 hg;have NB259_240:=yng BK240 hg;replace BK240:=ybb BK240 hb;clear hb hbox hg;have:=NB259_239.out;have:=NB239_259.out;have:=NB259_240.out;have:=NB240_259.out;obtain ⟨_,_,_,_,_,_⟩:=yc3 BK259;obtain ⟨Ao35,co35,eo35⟩:=Kd.R_slice HO257.out;subst eo35;obtain ⟨_,_,_,_,_,_⟩:=yc3 BK239)|((with_reducible refine gate_callee (f:=34) rfl ?_);refine ygl 46 Try.func34 #[.agg #[.int .u64 t253, .int .u32 t254, .slice Ao35 t255.length co35], .int .u64 (IntKind.u64.wrap (a1)), .int .u64 45] ?_;(with_reducible refine (coder_PutNum.calls kj13 t253 t254 _ _ t255 (IntKind.u64.wrap (a1)) 45 t260 t261 t262 t265 _ ?side1 ?side2 A27.out).mono ?_);(case side1=>refine (Kd.R_reads' (e:=5) (base:=w.heap.size) (ok:=fun k_=>True) (n:=t255.length) (c:=co35) ?_).2.2;exact (yR2 HO257 BK259 BK239));(case side2=>exact (Kd.R_reads' HO257.out).2.1);rintro e w37 ⟨v263,rfl,ho0,hb⟩;refine ⟨_,rfl, ?_⟩;have HO264:=zm (Kd.R_lower (Kd.R_new' ho0 (Kd.R_lt (yR2 HO257 BK259 BK239))) (zE yhb));replace HO257:=zm (Kd.R_elder' (yR2 HO257 BK259 BK239) (Kd.R_base ho0) hb);replace BK239:=zm (zF (g:=gb239) (o:=.cells #[.int .u64 t253, .int .u32 t254, .slice Ao35 t255.length co35] 54 (0,0)) (ykp BK239) hb);replace BK240:=ybb BK240 hb;replace BK259:=zm (zF (g:=gb259) (o:=.cells #[.int .u64 t253, .int .u32 t254, .slice Ao35 t255.length co35] 54 (0,0)) (ykp BK259) hb);replace HB:=ybs hb;(try clear hb);(try clear ho0);obtain ⟨_,_,_,_,_,_⟩:=yc3 BK240;obtain ⟨Ao39,co39,eo39⟩:=Kd.R_slice HO264.out;subst eo39))
     refine bodyPost_ret (results_ct rfl _ _ gb240 54 #[.int .u64 t260, .int .u32 t261, .slice Ao39 t262.length co39] (0,0) _ rfl (ykp BK240) Try.underlying54 rfl (by kernel_rfl)) rfl ?_
     exact ⟨_,ye,yR1 HO264 BK240,yhb⟩
    ·
     rw [if_neg c26] at H
     have c26b0 : (t258 == 0)=false:=beq_eq_false_iff_ne.mpr c26
     have c26b1 : (t258 != 0)=true:=bne_iff_ne.mpr c26
     simp only [Option.some.injEq,Prod.mk.injEq] at H
     obtain ⟨rfl,rfl,rfl,rfl⟩:=H
     have:=NB239_240.out
     have:=NB240_239.out
     obtain ⟨_,_,_,_,_,_⟩:=yc3 BK239
     go_wp2_with (first|((with_reducible refine gate_callee (f:=26) rfl ?_);refine ygl 35 Try.func26 #[.agg #[.int .u64 a0_0, .int .u32 a0_1, .slice A0_2 l0_2.length c0_2], .int .i64 7, .int .i64 8, .int .i64 8] ?_;(with_reducible refine (coder_Put.calls kj13 a0_0 a0_1 _ _ l0_2 7 8 8 t253 t254 t255 t258 _ ?side1 HC0_2.out A25.out).mono ?_);(case side1=>exact ycb HR0_2);rintro e w42 ⟨v256,rfl,ho0,hb⟩;refine ⟨_,rfl, ?_⟩;have HO257:=zm (Kd.R_lower ho0 (zE yhb));replace BK239:=ybb BK239 hb;replace BK240:=ybb BK240 hb;replace HB:=ybs hb;(try clear hb);(try clear ho0))|((with_reducible refine gate_dst (N:=11) rfl ?_);refine ybx 11 #[.int .u64 0, .int .u32 0, .slice none 0 0] 54 ?_;intro gb259 hg w43 hbox hb;replace HO257:=yRb HO257 hb;have BK259:=zm (hbox);have GW259:=ygw hg;have GE259:=ygw hg;replace HB:=ybs hb;have NB239_259:=ynl BK239 hg;have NB259_239:=yng BK239 hg;replace BK239:=ybb BK239 hb;have NB240_259:=ynl BK240 hg;have NB259_240:=yng BK240 hg;replace BK240:=ybb BK240 hb;clear hb hbox hg;have:=NB259_239.out;have:=NB239_259.out;have:=NB259_240.out;have:=NB240_259.out;obtain ⟨_,_,_,_,_,_⟩:=yc3 BK259;obtain ⟨Ao47,co47,eo47⟩:=Kd.R_slice HO257.out;subst eo47;obtain ⟨_,_,_,_,_,_⟩:=yc3 BK240))
     refine bodyPost_ret (results_ct rfl _ _ gb240 54 #[.int .u64 t253, .int .u32 t254, .slice Ao47 t255.length co47] (0,0) _ rfl (ykp BK240) Try.underlying54 rfl (by kernel_rfl)) rfl ?_
     exact ⟨_,ye,yR2 HO257 BK259 BK240,yhb⟩
end Go.Proofs.Ytnmbndkojpjkmaa.Prt
