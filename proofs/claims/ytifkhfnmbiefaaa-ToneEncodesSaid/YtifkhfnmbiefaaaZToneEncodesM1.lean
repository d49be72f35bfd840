-- Functions of the program and of the document as plain Lean, each with the proof that the code comes to it. Written by a program of this session (wip/tools/myprint.py, pack.py) over the kit's printer; Lean checks it.
import Derived.Test.YtifkhfnmbiefaaaZToneEncodesPrt0
import Derived.Test.YtifkhfnmbiefaaaZToneEncodesSh
import Derived.Test.YtifkhfnmbiefaaaZToneEncodesWMore
import Derived.Laws.Rows
import Derived.Laws.Tables
import Derived.Deep.WholeRow
namespace Go.Proofs.Ytifkhfnmbiefaaa.Prt
open Go.RowKit Go.Proofs.YtifkhfnmbiefaaaW.PrintWords Go.Proofs.YtifkhfnmbiefaaaW.PrintLast Go.Proofs.YtifkhfnmbiefaaaW.PrintMore
attribute [local go_sem] max2_int min2_int max_two min_two max_three min_three max_four min_four   -- for this text's walks alone
set_option linter.unusedVariables false
set_option linter.unusedSimpArgs false


def alloc_Right.f (a0 : Int) (a1 : Int) : Option (Bool):=if a1=1 then (if a0 ≥ 11 then (some (decide (a0≤60))) else (some false)) else (if a1=2 then (if a0 ≥ 17 then (some (decide (a0≤60))) else (some false)) else (some false))
set_option maxHeartbeats 8000000 in
set_option maxRecDepth 100000 in
theorem alloc_Right.calls (a0 : Int) (a1 : Int) (r : Bool) (w : World) (h : alloc_Right.f a0 a1=some r) :
  Calls Try.prog 52 #[.int .i64 a0, .int .i64 a1] w fun e w' => e=.returned (.bool r)∧Drawn0 w w' := by
 have H : (if a1=1 then (if a0 ≥ 11 then (some (decide (a0≤60))) else (some false)) else (if a1=2 then (if a0 ≥ 17 then (some (decide (a0≤60))) else (some false)) else (some false)))=some r:=h
 clear h
 by_cases c3 : a1=1
 ·
  rw [if_pos c3] at H
  have c3b0 : (a1 == 1)=true:=beq_iff_eq.mpr c3
  have c3b1 : (a1 != 1)=false:=bne_eq_false_iff_eq.mpr c3
  clear c3
  by_cases c4 : a0 ≥ 11
  ·
   rw [if_pos c4] at H
   have c4b0 : decide (11≤a0)=true:=decide_eq_true c4
   clear c4
   obtain rfl:=Option.some.inj H
   go_enter Try.func52,Try.ntmps52
   go_wp2
   go_ret
   exact ⟨yq,yd⟩
  ·
   rw [if_neg c4] at H
   have c4b0 : decide (11≤a0)=false:=decide_eq_false c4
   clear c4
   obtain rfl:=Option.some.inj H
   go_enter Try.func52,Try.ntmps52
   go_wp2
   go_ret
   exact ⟨yq,yd⟩
 ·
  rw [if_neg c3] at H
  have c3b0 : (a1 == 1)=false:=beq_eq_false_iff_ne.mpr c3
  have c3b1 : (a1 != 1)=true:=bne_iff_ne.mpr c3
  by_cases c5 : a1=2
  ·
   rw [if_pos c5] at H
   have c5b0 : (a1 == 2)=true:=beq_iff_eq.mpr c5
   have c5b1 : (a1 != 2)=false:=bne_eq_false_iff_eq.mpr c5
   clear c5
   by_cases c6 : a0 ≥ 17
   ·
    rw [if_pos c6] at H
    have c6b0 : decide (17≤a0)=true:=decide_eq_true c6
    clear c6
    obtain rfl:=Option.some.inj H
    go_enter Try.func52,Try.ntmps52
    go_wp2
    go_ret
    exact ⟨yq,yd⟩
   ·
    rw [if_neg c6] at H
    have c6b0 : decide (17≤a0)=false:=decide_eq_false c6
    clear c6
    obtain rfl:=Option.some.inj H
    go_enter Try.func52,Try.ntmps52
    go_wp2
    go_ret
    exact ⟨yq,yd⟩
  ·
   rw [if_neg c5] at H
   have c5b0 : (a1 == 2)=false:=beq_eq_false_iff_ne.mpr c5
   have c5b1 : (a1 != 2)=true:=bne_iff_ne.mpr c5
   obtain rfl:=Option.some.inj H
   go_enter Try.func52,Try.ntmps52
   go_wp2
   go_ret
   exact ⟨yq,yd⟩
def gain_Most.f (a0 : Bool) : Option (Int):=if a0=true then (some 30) else (some 45)
set_option maxHeartbeats 8000000 in
set_option maxRecDepth 100000 in
theorem gain_Most.calls (a0 : Bool) (r : Int) (w : World) (h : gain_Most.f a0=some r) :
  Calls Try.prog 111 #[.bool a0] w fun e w' => e=.returned (.int .i64 r)∧Drawn0 w w' := by
 have H : (if a0=true then (some 30) else (some 45))=some r:=h
 clear h
 by_cases c2 : a0=true
 ·
  subst c2
  rw [if_pos rfl] at H
  obtain rfl:=Option.some.inj H
  go_enter Try.func111,Try.ntmps111
  go_wp2
  go_ret
  exact ⟨yq,yd⟩
 ·
  replace c2:=Bool.eq_false_iff.mpr c2
  subst c2
  rw [ynf] at H
  obtain rfl:=Option.some.inj H
  go_enter Try.func111,Try.ntmps111
  go_wp2
  go_ret
  exact ⟨yq,yd⟩
def alloc_Room.f (a0 : Int) (a1 : Int) : Option (Int):=(alloc_Right.f a0 a1).bind fun t150=>(if t150=true then ((gain_Most.f false).bind fun t151=>(if a1=0 then (none) else (some (wrap64 (Int.tdiv (wrap64 ((wrap64 ((wrap64 (8 * a0)) - 41)) - (wrap64 (t151 * a1)))) a1))))) else (some 0))
set_option maxHeartbeats 8000000 in
set_option maxRecDepth 100000 in
theorem alloc_Room.calls (a0 : Int) (a1 : Int) (r : Int) (w : World) (h : alloc_Room.f a0 a1=some r) :
  Calls Try.prog 73 #[.int .i64 a0, .int .i64 a1] w fun e w' => e=.returned (.int .i64 r)∧Drawn0 w w' := by
 have H : ((alloc_Right.f a0 a1).bind fun t150=>(if t150=true then ((gain_Most.f false).bind fun t151=>(if a1=0 then (none) else (some (wrap64 (Int.tdiv (wrap64 ((wrap64 ((wrap64 (8 * a0)) - 41)) - (wrap64 (t151 * a1)))) a1))))) else (some 0)))=some r:=h
 clear h
 replace H:=ybi H;obtain ⟨t150,A3,H⟩:=H
 by_cases c4 : t150=true
 ·
  subst c4
  rw [if_pos rfl] at H
  replace H:=ybi H;obtain ⟨t151,A5,H⟩:=H
  replace H:=yie H;obtain ⟨c6,H⟩:=H
  have c6b0 : (a1 == 0)=false:=beq_eq_false_iff_ne.mpr c6
  have c6b1 : (a1 != 0)=true:=bne_iff_ne.mpr c6
  obtain rfl:=Option.some.inj H
  go_enter Try.func73,Try.ntmps73
  go_wp2_with (first|((with_reducible refine gate_callee (f:=52) rfl ?_);refine ygl 7 Try.func52 #[.int .i64 a0, .int .i64 a1] ?_;(with_reducible refine (alloc_Right.calls a0 a1 true _ A3.out).mono ?_);rintro e w' ⟨rfl,⟨nd,rfl⟩⟩;refine ⟨_,rfl, ?_⟩)|((with_reducible refine gate_callee (f:=111) rfl ?_);refine ygl 12 Try.func111 #[.bool false] ?_;(with_reducible refine (gain_Most.calls false t151 _ A5.out).mono ?_);rintro e w' ⟨rfl,⟨nd,rfl⟩⟩;refine ⟨_,rfl, ?_⟩))
  go_ret
  exact ⟨yq,yd⟩
 ·
  replace c4:=Bool.eq_false_iff.mpr c4
  subst c4
  rw [ynf] at H
  obtain rfl:=Option.some.inj H
  go_enter Try.func73,Try.ntmps73
  go_wp2_with (first|((with_reducible refine gate_callee (f:=52) rfl ?_);refine ygl 7 Try.func52 #[.int .i64 a0, .int .i64 a1] ?_;(with_reducible refine (alloc_Right.calls a0 a1 false _ A3.out).mono ?_);rintro e w' ⟨rfl,⟨nd,rfl⟩⟩;refine ⟨_,rfl, ?_⟩))
  go_ret
  exact ⟨yq,yd⟩
def band_there.f (a0 : Int) : Option (Bool):=if a0 ≥ 0 then (some (decide (a0 < 5))) else (some false)
set_option maxHeartbeats 8000000 in
set_option maxRecDepth 100000 in
theorem band_there.calls (a0 : Int) (r : Bool) (w : World) (h : band_there.f a0=some r) :
  Calls Try.prog 90 #[.int .i64 a0] w fun e w' => e=.returned (.bool r)∧Drawn0 w w' := by
 have H : (if a0 ≥ 0 then (some (decide (a0 < 5))) else (some false))=some r:=h
 clear h
 by_cases c2 : a0 ≥ 0
 ·
  rw [if_pos c2] at H
  have c2b0 : decide (0≤a0)=true:=decide_eq_true c2
  clear c2
  obtain rfl:=Option.some.inj H
  go_enter Try.func90,Try.ntmps90
  go_wp2
  go_ret
  exact ⟨yq,yd⟩
 ·
  rw [if_neg c2] at H
  have c2b0 : decide (0≤a0)=false:=decide_eq_false c2
  clear c2
  obtain rfl:=Option.some.inj H
  go_enter Try.func90,Try.ntmps90
  go_wp2
  go_ret
  exact ⟨yq,yd⟩
def band_From.f (a0 : Int) : Option (Int):=(band_there.f a0).bind fun t103=>(if t103=true then (if a0=0 then (some 0) else (if 0≤(wrap64 (a0 - 1)) then (some (shl .i64 1 (wrap64 (a0 - 1)))) else (none))) else (some 0))
set_option maxHeartbeats 8000000 in
set_option maxRecDepth 100000 in
theorem band_From.calls (a0 : Int) (r : Int) (w : World) (h : band_From.f a0=some r) :
  Calls Try.prog 77 #[.int .i64 a0] w fun e w' => e=.returned (.int .i64 r)∧Drawn0 w w' := by
 have H : ((band_there.f a0).bind fun t103=>(if t103=true then (if a0=0 then (some 0) else (if 0≤(wrap64 (a0 - 1)) then (some (shl .i64 1 (wrap64 (a0 - 1)))) else (none))) else (some 0)))=some r:=h
 clear h
 replace H:=ybi H;obtain ⟨t103,A2,H⟩:=H
 by_cases c3 : t103=true
 ·
  subst c3
  rw [if_pos rfl] at H
  by_cases c4 : a0=0
  ·
   rw [if_pos c4] at H
   have c4b0 : (a0 == 0)=true:=beq_iff_eq.mpr c4
   have c4b1 : (a0 != 0)=false:=bne_eq_false_iff_eq.mpr c4
   clear c4
   obtain rfl:=Option.some.inj H
   go_enter Try.func77,Try.ntmps77
   go_wp2_with (first|((with_reducible refine gate_callee (f:=90) rfl ?_);refine ygl 4 Try.func90 #[.int .i64 a0] ?_;(with_reducible refine (band_there.calls a0 true _ A2.out).mono ?_);rintro e w' ⟨rfl,⟨nd,rfl⟩⟩;refine ⟨_,rfl, ?_⟩))
   go_ret
   exact ⟨yq,yd⟩
  ·
   rw [if_neg c4] at H
   have c4b0 : (a0 == 0)=false:=beq_eq_false_iff_ne.mpr c4
   have c4b1 : (a0 != 0)=true:=bne_iff_ne.mpr c4
   obtain ⟨ji5,hji5⟩ : ∃ j_ : Int,(wrap64 (a0 - 1))=j_:=⟨_,rfl⟩
   replace H : (if 0≤(ji5) then (some (shl .i64 1 (ji5))) else (none))=some r:=by first|(rw [hji5] at H;exact H)|(simp only [hji5] at H ⊢; exact H)
   (try rw [hji5] at A2)
   have hji5w : (IntKind.i64.wrap (a0 - 1))=ji5:=(i64_w _).trans hji5
   replace H:=yif H;obtain ⟨c6,H⟩:=H
   have c6b0:=eq_true c6
   have c6b1 : decide (0≤(ji5))=true:=decide_eq_true c6
   clear c6
   obtain ⟨ji7,hji7⟩ : ∃ j_ : Int,(shl .i64 1 (ji5))=j_:=⟨_,rfl⟩
   replace H : (some ji7)=some r:=by first|(rw [hji7] at H;exact H)|(simp only [hji7] at H ⊢; exact H)
   (try rw [hji7] at A2)
   have hji7_ : (IntKind.i64.wrap (1 * 2 ^ min (ji5).toNat 64))=ji7:=hji7
   have hji7z : (ji5)≤64→(IntKind.i64.wrap (1 * 2 ^ (ji5).toNat))=ji7:=shl_small hji7
   have hji7u : (IntKind.i64.wrap (2 ^ min (ji5).toNat 64))=ji7:=by have h_:=hji7_;rw [Int.one_mul] at h_;exact h_
   have hji7v : (ji5)≤64→(IntKind.i64.wrap (2 ^ (ji5).toNat))=ji7:=fun hle_=>by have h_:=hji7z hle_;rw [Int.one_mul] at h_;exact h_
   have hji7y : (wrap64 (1 * 2 ^ min (ji5).toNat 64))=ji7:=(i64_w _).symm.trans hji7_
   have hji7x : (ji5)≤64→(wrap64 (1 * 2 ^ (ji5).toNat))=ji7:=fun h_=>(i64_w _).symm.trans (hji7z h_)
   obtain rfl:=Option.some.inj H
   go_enter Try.func77,Try.ntmps77
   go_wp2_with (first|((with_reducible refine gate_callee (f:=90) rfl ?_);refine ygl 4 Try.func90 #[.int .i64 a0] ?_;(with_reducible refine (band_there.calls a0 true _ A2.out).mono ?_);rintro e w' ⟨rfl,⟨nd,rfl⟩⟩;refine ⟨_,rfl, ?_⟩))
   go_ret
   exact ⟨by first|rfl|(simp;done)|(simp only [← hji5, ← hji7] <;> (first|rfl|simp))|(simp [*];done),yd⟩
 ·
  replace c3:=Bool.eq_false_iff.mpr c3
  subst c3
  rw [ynf] at H
  obtain rfl:=Option.some.inj H
  go_enter Try.func77,Try.ntmps77
  go_wp2_with (first|((with_reducible refine gate_callee (f:=90) rfl ?_);refine ygl 4 Try.func90 #[.int .i64 a0] ?_;(with_reducible refine (band_there.calls a0 false _ A2.out).mono ?_);rintro e w' ⟨rfl,⟨nd,rfl⟩⟩;refine ⟨_,rfl, ?_⟩))
  go_ret
  exact ⟨yq,yd⟩
def band_Width.f (a0 : Int) : Option (Int):=(band_there.f a0).bind fun t104=>(if t104=true then ((band_From.f a0).bind fun t105=>(some (mx 1 t105))) else (some 0))
set_option maxHeartbeats 8000000 in
set_option maxRecDepth 100000 in
theorem band_Width.calls (a0 : Int) (r : Int) (w : World) (h : band_Width.f a0=some r) :
  Calls Try.prog 48 #[.int .i64 a0] w fun e w' => e=.returned (.int .i64 r)∧Below w.heap.size w w' := by
 have HB:=zm (Below.refl w.heap.size w)
 have H : ((band_there.f a0).bind fun t104=>(if t104=true then ((band_From.f a0).bind fun t105=>(some (mx 1 t105))) else (some 0)))=some r:=h
 clear h
 replace H:=ybi H;obtain ⟨t104,A2,H⟩:=H
 by_cases c3 : t104=true
 ·
  subst c3
  rw [if_pos rfl] at H
  replace H:=ybi H;obtain ⟨t105,A4,H⟩:=H
  obtain ⟨ji5,hji5⟩ : ∃ j_ : Int,(mx 1 t105)=j_:=⟨_,rfl⟩
  replace H : (some ji5)=some r:=by first|(rw [hji5] at H;exact H)|(simp only [hji5] at H ⊢; exact H)
  (try rw [hji5] at A2)
  (try rw [hji5] at A4)
  (try (have hji5l : 1≤ji5:=by (rw [← hji5];unfold mx;(repeat' split) <;> omega)))
  (try (have hji5m : 0≤ji5:=by omega))
  have hji5_ : (if 1 < t105 then t105 else 1)=ji5:=hji5
  obtain rfl:=Option.some.inj H
  go_enter Try.func48,Try.ntmps48
  go_wp2_with (first|((with_reducible refine gate_callee (f:=90) rfl ?_);refine ygl 4 Try.func90 #[.int .i64 a0] ?_;(with_reducible refine (band_there.calls a0 true _ A2.out).mono ?_);rintro e w' ⟨rfl,⟨nd,rfl⟩⟩;refine ⟨_,rfl, ?_⟩)|((with_reducible refine gate_callee (f:=77) rfl ?_);refine ygl 7 Try.func77 #[.int .i64 a0] ?_;(with_reducible refine (band_From.calls a0 t105 _ A4.out).mono ?_);rintro e w' ⟨rfl,⟨nd,rfl⟩⟩;refine ⟨_,rfl, ?_⟩))
  go_ret
  exact ⟨by first|rfl|(simp [errW_none,errW_some] <;> rfl)|(simp only [← hji5];first|rfl|(simp [errW_none,errW_some] <;> rfl))|(simp [*,errW_none,errW_some] <;> rfl),yhb⟩
 ·
  replace c3:=Bool.eq_false_iff.mpr c3
  subst c3
  rw [ynf] at H
  obtain rfl:=Option.some.inj H
  go_enter Try.func48,Try.ntmps48
  go_wp2_with (first|((with_reducible refine gate_callee (f:=90) rfl ?_);refine ygl 4 Try.func90 #[.int .i64 a0] ?_;(with_reducible refine (band_there.calls a0 false _ A2.out).mono ?_);rintro e w' ⟨rfl,⟨nd,rfl⟩⟩;refine ⟨_,rfl, ?_⟩))
  go_ret
  exact ⟨ye,yhb⟩
def alloc_most.f (a0 : Int) : Option (Int):=(band_Width.f a0).bind fun t152=>(if t152=1 then (some 1) else (some 12))
set_option maxHeartbeats 8000000 in
set_option maxRecDepth 100000 in
theorem alloc_most.calls (a0 : Int) (r : Int) (w : World) (h : alloc_most.f a0=some r) :
  Calls Try.prog 74 #[.int .i64 a0] w fun e w' => e=.returned (.int .i64 r)∧Below w.heap.size w w' := by
 have HB:=zm (Below.refl w.heap.size w)
 have H : ((band_Width.f a0).bind fun t152=>(if t152=1 then (some 1) else (some 12)))=some r:=h
 clear h
 replace H:=ybi H;obtain ⟨t152,A2,H⟩:=H
 by_cases c3 : t152=1
 ·
  rw [if_pos c3] at H
  have c3b0 : (t152 == 1)=true:=beq_iff_eq.mpr c3
  have c3b1 : (t152 != 1)=false:=bne_eq_false_iff_eq.mpr c3
  clear c3
  obtain rfl:=Option.some.inj H
  go_enter Try.func74,Try.ntmps74
  go_wp2_with (first|((with_reducible refine gate_callee (f:=48) rfl ?_);refine ygl 4 Try.func48 #[.int .i64 a0] ?_;(with_reducible refine (band_Width.calls a0 t152 _ A2.out).mono ?_);rintro e w4 ⟨rfl,hb⟩;refine ⟨_,rfl, ?_⟩;replace HB:=ybs hb;(try clear hb)))
  go_ret
  exact ⟨ye,yhb⟩
 ·
  rw [if_neg c3] at H
  have c3b0 : (t152 == 1)=false:=beq_eq_false_iff_ne.mpr c3
  have c3b1 : (t152 != 1)=true:=bne_iff_ne.mpr c3
  obtain rfl:=Option.some.inj H
  go_enter Try.func74,Try.ntmps74
  go_wp2_with (first|((with_reducible refine gate_callee (f:=48) rfl ?_);refine ygl 4 Try.func48 #[.int .i64 a0] ?_;(with_reducible refine (band_Width.calls a0 t152 _ A2.out).mono ?_);rintro e w5 ⟨rfl,hb⟩;refine ⟨_,rfl, ?_⟩;replace HB:=ybs hb;(try clear hb)))
  go_ret
  exact ⟨ye,yhb⟩
def comb_fair.f (a0 : Int) (a1 : Int) : Option (Bool):=if a0 ≥ 1 then (if a0≤16 then (if a1 ≥ 0 then (some (decide (a1≤12))) else (some false)) else (some false)) else (some false)
set_option maxHeartbeats 8000000 in
set_option maxRecDepth 100000 in
theorem comb_fair.calls (a0 : Int) (a1 : Int) (r : Bool) (w : World) (h : comb_fair.f a0 a1=some r) :
  Calls Try.prog 88 #[.int .i64 a0, .int .i64 a1] w fun e w' => e=.returned (.bool r)∧Drawn0 w w' := by
 have H : (if a0 ≥ 1 then (if a0≤16 then (if a1 ≥ 0 then (some (decide (a1≤12))) else (some false)) else (some false)) else (some false))=some r:=h
 clear h
 by_cases c3 : a0 ≥ 1
 ·
  rw [if_pos c3] at H
  have c3b0 : decide (1≤a0)=true:=decide_eq_true c3
  clear c3
  by_cases c4 : a0≤16
  ·
   rw [if_pos c4] at H
   have c4b0 : decide (a0≤16)=true:=decide_eq_true c4
   clear c4
   by_cases c5 : a1 ≥ 0
   ·
    rw [if_pos c5] at H
    have c5b0 : decide (0≤a1)=true:=decide_eq_true c5
    clear c5
    obtain rfl:=Option.some.inj H
    go_enter Try.func88,Try.ntmps88
    go_wp2
    go_ret
    exact ⟨yq,yd⟩
   ·
    rw [if_neg c5] at H
    have c5b0 : decide (0≤a1)=false:=decide_eq_false c5
    clear c5
    obtain rfl:=Option.some.inj H
    go_enter Try.func88,Try.ntmps88
    go_wp2
    go_ret
    exact ⟨yq,yd⟩
  ·
   rw [if_neg c4] at H
   have c4b0 : decide (a0≤16)=false:=decide_eq_false c4
   clear c4
   obtain rfl:=Option.some.inj H
   go_enter Try.func88,Try.ntmps88
   go_wp2
   go_ret
   exact ⟨yq,yd⟩
 ·
  rw [if_neg c3] at H
  have c3b0 : decide (1≤a0)=false:=decide_eq_false c3
  clear c3
  obtain rfl:=Option.some.inj H
  go_enter Try.func88,Try.ntmps88
  go_wp2
  go_ret
  exact ⟨yq,yd⟩
end Go.Proofs.Ytifkhfnmbiefaaa.Prt

namespace Go.Proofs.Ytifkhfnmbiefaaa.Prt
open Go Go.RowKit Go.Proofs.YtifkhfnmbiefaaaW.PrintWords Go.Proofs.YtifkhfnmbiefaaaW.PrintLast Go.Proofs.YtifkhfnmbiefaaaW.PrintMore
set_option linter.unusedVariables false
set_option linter.unusedSimpArgs false


set_option maxRecDepth 20000 in
theorem comb_table.zeroes : ∃ Z : Array Value,(∀ W,(zeroValue 130).run Try.prog W=.ok (.agg Z) W)∧Z.toList=encs (Value.int .u64) (List.replicate 221 0):=⟨_,fun _=>rfl,by rfl⟩
/-- A block of numbers, as its cells. -/
def ABl (xs : List Int) : Array Value:=(encs (Value.int .u64) xs).toArray
theorem ABl_get {xs : List Int} {i : Nat} (h : i < xs.length) : (ABl xs)[i]? = some (.int .u64 (xs.getD i 0)):=by
 unfold ABl
 rw [List.getElem?_toArray]
 exact encs_get xs i h
theorem ABl_set (xs : List Int) (i : Nat) (v : Int) : (ABl xs).setIfInBounds i (.int .u64 v)=ABl (xs.set i v):=by
 unfold ABl encs
 rw [List.setIfInBounds_toArray,List.map_set]
theorem ABl_size (xs : List Int) : (ABl xs).size=xs.length:=by
 unfold ABl
 rw [List.size_toArray,encs_length]
theorem ABl_one (xs : List Int) : (ABl xs).all (·.oneCell')=true:=by
 rw [Array.all_eq_true_iff_forall_mem]
 intro v hv
 unfold ABl encs at hv
 rw [List.mem_toArray,List.mem_map] at hv
 obtain ⟨n,_,rfl⟩:=hv
 rfl
section
variable {P : Program}
/-- A whole array is stored, cell by cell. -/
theorem storeCells_row (w : World) (g : Nat) (t ty : TypeId) (old cells : Array Value) (hg : w.heap[g]? = some (.cells old t (0,0))) (hi : (P.info? ty).map (·.size)=some cells.size) (ho : old.size=cells.size) (h1 : cells.all (·.oneCell')=true) :
  (storeCells ⟨g,0,none⟩ cells.toList 0).run P w=.ok () (w.setRow g cells):=by
 have h:=run_storeVar_row (P:=P) w g t ty old cells hg hi ho h1
 cases hq : P.info? ty with
 | none=>simp [hq] at hi
 | some i =>
  have hs : cells.size=i.size:=by
   simp [hq] at hi
   omega
  simpa [storeVar,sizeOf,typeInfo,hq,Value.cells,hs] using h
end
theorem below_row {w0 w : World} {B g : Nat} (h : Below B w0 w) (hg : B≤g) (cs : Array Value) : Below B w0 (w.setRow g cs):=⟨h.os,h.tape,h.output,by rw [setRow_size];exact h.size,fun k hk=>(setRow_other _ _ _ _ (by omega)).trans (h.block k hk)⟩
namespace comb_table
def new (xs : List Int) (n k : Nat) : Int:=IntKind.u64.wrap (IntKind.u64.wrap (xs.getD ((n-1)*13+k) 0+xs.getD (n*13+(k-1)) 0)+xs.getD ((n-1)*13+(k-1)) 0)
/-- Row n made up to place k. -/
def U (xs : List Int) (n : Nat) : Nat→List Int
 | 0=>xs.set (n*13) 1
 | k+1=>(U xs n k).set (n*13+(k+1)) (new (U xs n k) n (k+1))
/-- The rows up to n made. -/
def T : Nat→List Int
 | 0=>(List.replicate 221 0).set 0 1
 | n+1=>U (T n) (n+1) 12
theorem U_len (xs : List Int) (n : Nat) : ∀ k,(U xs n k).length=xs.length
 | 0=>by rw [U,List.length_set]
 | k+1=>by rw [U,List.length_set,U_len xs n k]
theorem T_len : ∀ n,(T n).length=221
 | 0=>by rw [T,List.length_set,List.length_replicate]
 | n+1=>by rw [T,U_len,T_len n]
theorem size16 : (Try.prog.info? 130).map (·.size)=some (ABl (T 16)).size:=by
 rw [ABl_size,T_len]
 kernel_rfl
def T10 : Bool × List (List Nat × List Nat):=(true, [([], []),([], []),([], []),([2], [2]),([], []),([3], [3]),([5,4], [4,5]),([6], [6]),([], []),([], []),([9], [9]),([8], [8]),([11,10], [10,11]),([12], [12]),([7,13], [7,13]),([], []),([15], [15]),([], []),([17], [17]),([16], [16]),([19,18], [18,19]),([20], [20]),([14,21], [14,21]),([0], [0]),([23,1,0,1,2,3,4,5,6,7,8,9,10,11,12,13,14,15,16,17,18,19,20,21,22], [1,23]),([24,22,0,1,2,3,4,5,6,7,8,9,10,11,12,13,14,15,16,17,18,19,20,21,22], [22,24])])
def B10 : List Nat := [0,0,0,4,0,12,60,124,0,0,512,256,3840,7936,16380,0,32768,0,131072,98304,1015808,2064384,4194300,1,16777215,33554431]
theorem tab10 : rtab .any (opsOf Try.f89 10)=T10:=by kernel_rfl
theorem bits10 : waitsOk T10.2 B10=true:=by kernel_rfl
end comb_table
set_option maxHeartbeats 8000000 in
set_option maxRecDepth 100000 in
theorem comb_table.made (w : World) : Calls Try.prog 89 #[] w fun e w' => e=.returned (.agg (ABl (comb_table.T 16)))∧Below w.heap.size w w' := by
 obtain ⟨Z,hz,hZ⟩:=comb_table.zeroes
 have hZ' : Aside0 (Z=ABl (List.replicate 221 0)):=⟨by
  unfold ABl
  rw [← hZ]⟩
 clear hZ
 have hb2 : ((w.alloc (.cells Z 130)).alloc (.cells Z 130)).heap[w.heap.size+1]? = some (.cells Z 130 (0,0)):=by
  have:=blk_new (w.alloc (.cells Z 130)) (.cells Z 130)
  simpa using this
 have hc1 : ((w.alloc (.cells Z 130)).alloc (.cells Z 130)).cell? ⟨w.heap.size+1,0,none⟩=some (.int .u64 0):=by
  rw [zs hb2 0,hZ'.out,ABl_get (by rw [List.length_replicate];decide)]
  rfl
 have hf1 : ((w.alloc (.cells Z 130)).alloc (.cells Z 130)).frozen? ⟨w.heap.size+1,0,none⟩=false:=zx hb2 0
 have hb1 : (((w.alloc (.cells Z 130)).alloc (.cells (Z.setIfInBounds 0 (.int .u64 1)) 130))).heap[w.heap.size+1]? = some (.cells (ABl (comb_table.T 0)) 130 (0,0)):=by
  have h0 : Z.setIfInBounds 0 (.int .u64 1)=ABl (comb_table.T 0):=by
   rw [hZ'.out,ABl_set]
   rfl
  have e1 : (w.alloc (.cells Z 130)).heap.size=w.heap.size+1:=by simp
  have h1:=blk_new (w.alloc (.cells Z 130)) (.cells (ABl (comb_table.T 0)) 130)
  rw [e1] at h1
  rw [h0]
  exact h1
 have hb0 : (((w.alloc (.cells Z 130)).alloc (.cells (Z.setIfInBounds 0 (.int .u64 1)) 130))).heap[w.heap.size]? = some (.cells Z 130 (0,0)):=zi (blk_new w _) _
 have HB : Aside0 (Below w.heap.size w ((w.alloc (.cells Z 130)).alloc (.cells (Z.setIfInBounds 0 (.int .u64 1)) 130))):=⟨ze (ze (Below.refl _ _) _) _⟩
 clear hb2
 go_enter Try.func89,Try.ntmps89
 go_wp2
 clear hc1 hf1
 generalize ((w.alloc (.cells Z 130)).alloc (.cells (Z.setIfInBounds 0 (.int .u64 1)) 130))=W1 at hb1 hb0 HB ⊢
 have HC:=zm hb1;have HZ0:=zm hb0;clear hb1 hb0
 go_loopg [2] 16 (fun kq v2 w' => ∃ (n : Nat) (x : Int),v2=.int .i64 x∧Aside0 (x=((n+1 : Nat) : Int))∧Aside0 (n+kq=16)∧Aside0 (w'.heap[w.heap.size+1]? = some (.cells (ABl (comb_table.T n)) 130 (0,0)))∧Aside0 (w'.heap[w.heap.size]? = some (.cells Z 130 (0,0)))∧Aside0 (Below w.heap.size w w'))
 case atStart=>exact ⟨0,1,rfl,⟨rfl⟩,⟨rfl⟩,HC,HZ0,HB⟩
 case round =>
  clear HC HZ0 HB
  obtain ⟨n,x,rfl,HX,HN,HC,HZ0,HB⟩:=hrel
  by_cases c9 : x≤16
  ·
   have c9b0 : decide (x≤16)=true:=decide_eq_true c9
   have hx0 : (0≤x)=True:=eq_true (by have:=HX.out;omega)
   have hx1 : (x < 17)=True:=eq_true (by omega)
   have hxn : x.toNat=n+1:=by have:=HX.out;omega
   obtain ⟨n',rfl⟩ : ∃ q,gk=q+1:=⟨gk - 1,by have:=HN.out;have:=HX.out;omega⟩
   have hn15 : n < 16:=by have:=HX.out;omega
   have hcl : wr.cell? ⟨w.heap.size+1,x.toNat * 13,none⟩=some (.int .u64 ((comb_table.T n).getD (x.toNat * 13) 0)):=by
    rw [zs HC.out,ABl_get (by rw [comb_table.T_len];omega)]
   have hfr : wr.frozen? ⟨w.heap.size+1,x.toNat * 13,none⟩=false:=zx HC.out _
   have HXN:=zm hxn;have HN15:=zm hn15;clear c9 hxn hn15
   go_wp2
   have n1_ : Aside0 ((wr.setCell ⟨w.heap.size+1,x.toNat * 13,none⟩ (.int .u64 1)).heap[w.heap.size+1]? = some (.cells (ABl (comb_table.U (comb_table.T n) (n+1) 0)) 130 (0,0))):=⟨by
    have h1:=blk_set HC.out (x.toNat * 13) (.int .u64 1)
    rw [ABl_set,HXN.out] at h1
    rw [HXN.out]
    exact h1⟩
   have n2_ : Aside0 ((wr.setCell ⟨w.heap.size+1,x.toNat * 13,none⟩ (.int .u64 1)).heap[w.heap.size]? = some (.cells Z 130 (0,0))):=⟨zv HZ0.out (by simp) _⟩
   have n3_ : Aside0 (Below w.heap.size w (wr.setCell ⟨w.heap.size+1,x.toNat * 13,none⟩ (.int .u64 1))):=⟨zk HB.out (by omega)⟩
   clear HC HZ0 HB hcl hfr
   generalize (wr.setCell ⟨w.heap.size+1,x.toNat * 13,none⟩ (.int .u64 1))=W2 at n1_ n2_ n3_ ⊢
   go_loopg [3] 12 (fun kq v3 w' => ∃ (j : Nat) (y : Int),v3=.int .i64 y∧Aside0 (y=((j+1 : Nat) : Int))∧Aside0 (j+kq=12)∧Aside0 (w'.heap[w.heap.size+1]? = some (.cells (ABl (comb_table.U (comb_table.T n) (n+1) j)) 130 (0,0)))∧Aside0 (w'.heap[w.heap.size]? = some (.cells Z 130 (0,0)))∧Aside0 (Below w.heap.size w w'))
   case atStart=>exact ⟨0,1,rfl,⟨rfl⟩,⟨rfl⟩,n1_,n2_,n3_⟩
   case round =>
    clear n1_ n2_ n3_
    obtain ⟨j,y,rfl,HY,HJ,HC,HZ0,HB⟩:=hrel
    by_cases c16 : y≤12
    ·
     have c16b0 : decide (y≤12)=true:=decide_eq_true c16
     have hy0 : (0≤y)=True:=eq_true (by have:=HY.out;omega)
     have hy1 : (y < 13)=True:=eq_true (by omega)
     have hyn : y.toNat=j+1:=by have:=HY.out;omega
     have hj11 : j < 12:=by have:=HY.out;omega
     obtain ⟨j',rfl⟩ : ∃ q,gk=q+1:=⟨gk - 1,by have:=HJ.out;omega⟩
     obtain ⟨xm,hxm⟩ : ∃ j_ : Int,wrap64 (x - 1)=j_:=⟨_,rfl⟩
     have hxmw : (IntKind.i64.wrap (x - 1))=xm:=(i64_w _).trans hxm
     obtain ⟨ym,hym⟩ : ∃ j_ : Int,wrap64 (y - 1)=j_:=⟨_,rfl⟩
     have hymw : (IntKind.i64.wrap (y - 1))=ym:=(i64_w _).trans hym
     have hxe : xm=(n : Int):=by rw [← hxm];have:=HX.out;have:=HN15.out;unfold wrap64;omega
     have hye : ym=(j : Int):=by rw [← hym];have:=HY.out;unfold wrap64;omega
     have hxm0 : (0≤xm)=True:=eq_true (by omega)
     have hxm1 : (xm < 17)=True:=eq_true (by have:=HN15.out;omega)
     have hym0 : (0≤ym)=True:=eq_true (by omega)
     have hym1 : (ym < 13)=True:=eq_true (by omega)
     have hxmn : xm.toNat=n:=by omega
     have hymn : ym.toNat=j:=by omega
     have HJ11:=zm hj11;have HYN:=zm hyn;have HXM:=zm hxmn;have HYM:=zm hymn
     obtain ⟨X,hXd⟩ : ∃ X,X=comb_table.U (comb_table.T n) (n+1) j:=⟨_,rfl⟩
     have hXl : X.length=221:=by rw [hXd,comb_table.U_len,comb_table.T_len]
     rw [← hXd] at HC
     have HXD:=zm hXd;have HXL:=zm hXl;clear hXd hXl c16 hyn hj11 hxmn hymn hxe hye hxm hym
     try go_wp2
     have n1_:=zm (zj HC.out);have n2_:=zm (zj HZ0.out);have n3_:=zm (zf HB.out);clear HC HZ0 HB;have HC:=n1_;have HZ0:=n2_;have HB:=n3_;clear n1_ n2_ n3_
     obtain ⟨va,hva⟩ : ∃ v_,v_=X.getD (xm.toNat * 13+y.toNat) 0:=⟨_,rfl⟩
     obtain ⟨vb,hvb⟩ : ∃ v_,v_=X.getD (x.toNat * 13+ym.toNat) 0:=⟨_,rfl⟩
     obtain ⟨vc,hvc⟩ : ∃ v_,v_=X.getD (xm.toNat * 13+ym.toNat) 0:=⟨_,rfl⟩
     have HVA:=zm hva;have HVB:=zm hvb;have HVC:=zm hvc;clear hva hvb hvc
     have hx1 : wr.drew.cell? ⟨w.heap.size+1,xm.toNat * 13+y.toNat,none⟩=some (.int .u64 va):=by
      rw [zs HC.out,HVA.out,ABl_get (by have:=HXL.out;have:=HXM.out;have:=HYN.out;have:=HN15.out;have:=HJ11.out;omega)]
     have hx2 : wr.drew.cell? ⟨w.heap.size+1,x.toNat * 13+ym.toNat,none⟩=some (.int .u64 vb):=by
      rw [zs HC.out,HVB.out,ABl_get (by have:=HXL.out;have:=HXN.out;have:=HYM.out;have:=HN15.out;have:=HJ11.out;omega)]
     have hx3 : wr.drew.cell? ⟨w.heap.size+1,xm.toNat * 13+ym.toNat,none⟩=some (.int .u64 vc):=by
      rw [zs HC.out,HVC.out,ABl_get (by have:=HXL.out;have:=HXM.out;have:=HYM.out;have:=HN15.out;have:=HJ11.out;omega)]
     have hx4 : wr.drew.cell? ⟨w.heap.size+1,x.toNat * 13+y.toNat,none⟩=some (.int .u64 (X.getD (x.toNat * 13+y.toNat) 0)):=by
      rw [zs HC.out,ABl_get (by have:=HXL.out;have:=HXN.out;have:=HYN.out;have:=HN15.out;have:=HJ11.out;omega)]
     have hf4 : wr.drew.frozen? ⟨w.heap.size+1,x.toNat * 13+y.toNat,none⟩=false:=zx HC.out _
     refine yst (fun w' => w'.cell? ⟨w.heap.size+1,xm.toNat * 13+y.toNat,none⟩=some (.int .u64 va)∧w'.cell? ⟨w.heap.size+1,x.toNat * 13+ym.toNat,none⟩=some (.int .u64 vb)∧w'.cell? ⟨w.heap.size+1,xm.toNat * 13+ym.toNat,none⟩=some (.int .u64 vc)) [25] 26 comb_table.tab10 comb_table.bits10 (fun hHeld HT_ HW_ => ?_) (hS:=⟨hx1,hx2,hx3⟩)
     generalize wr.drew=w30 at HC HZ0 HB hx1 hx2 hx3 hx4 hf4 hHeld ⊢
     refine yp 0 17 HT_ ?_
     refine yp 1 18 HT_ ?_
     refine yp 2 19 HT_ ?_
     refine yp 3 20 HT_ ?_
     refine yp 4 21 HT_ ?_
     refine yp 5 22 HT_ ?_
     refine yp 6 23 HT_ ?_
     refine yp 8 25 HT_ ?_
     refine yp 9 26 HT_ ?_
     refine yp 10 27 HT_ ?_
     refine yp 11 28 HT_ ?_
     refine yp 12 29 HT_ ?_
     refine yp 15 32 HT_ ?_
     refine yp 16 33 HT_ ?_
     refine yp 17 34 HT_ ?_
     refine yp 18 35 HT_ ?_
     refine yp 19 36 HT_ ?_
     refine yp 20 37 HT_ ?_
     refine yp 23 40 HT_ ?_
     refine yl 7 24 HT_ HW_ hHeld ?_
     refine yl 13 30 HT_ HW_ hHeld ?_
     refine yp 14 31 HT_ ?_
     refine yl 21 38 HT_ HW_ hHeld ?_
     refine yp 22 39 HT_ ?_
     refine yp 24 41 HT_ ?_
     refine last_ (i:=25) (N:=none) #[true,true,true,true,true,true,true,true,true,true,true,true,true,true,true,true,true,true,true,true,true,true,true,true,true,true] rfl rfl (one_of HT_.out (by kernel_rfl)) (by decide) (fun K hK => ?_)
     refine skip_ (w1 := ?_) (by rfl) rfl ?_ ?_
     rotate_left
     ·
      go_simp
      rfl
     refine hK.out _ _ ?_
     clear hK K
     refine done_ (done_of HT_.out (by kernel_rfl)) ?_
     try go_wp2
     go_roundg j'
     case measure=>omega
     case rel=>exact ⟨j+1,_,rfl,⟨by have:=HY.out;have:=HJ11.out;unfold wrap64;omega⟩,⟨yom1 HJ⟩,⟨by
      have h1:=blk_set HC.out (x.toNat * 13+y.toNat) (.int .u64 (comb_table.new X (n+1) (j+1)))
      rw [ABl_set] at h1
      have h2 : X.set (x.toNat * 13+y.toNat) (comb_table.new X (n+1) (j+1))=comb_table.U (comb_table.T n) (n+1) (j+1):=by
       rw [HXN.out,HYN.out,HXD.out]
       rfl
      have h3 : comb_table.new X (n+1) (j+1)=IntKind.u64.wrap (IntKind.u64.wrap (va+vb)+vc):=by
       rw [HVA.out,HVB.out,HVC.out,HXN.out,HYN.out,HXM.out,HYM.out]
       rfl
      rw [h2,h3] at h1
      exact h1⟩,⟨zv HZ0.out (by simp) _⟩,⟨zk HB.out (by omega)⟩⟩
    ·
     have c16b0 : decide (y≤12)=false:=decide_eq_false c16
     have hj12 : j=12:=by have:=HY.out;have:=HJ.out;omega
     have HJ12:=zm hj12;clear c16 hj12
     go_wp2
     go_roundg n'
     case measure=>omega
     case rel=>exact ⟨n+1,_,rfl,⟨by have:=HX.out;have:=HN15.out;unfold wrap64;omega⟩,⟨yom1 HN⟩,⟨by rw [HC.out,HJ12.out];rfl⟩,HZ0,HB⟩
  ·
   have c9b0 : decide (x≤16)=false:=decide_eq_false c9
   have hn16 : n=16:=by have:=HX.out;have:=HN.out;omega
   have HN16:=zm hn16;clear c9 hn16
   have HC16 : wr.heap[w.heap.size+1]? = some (.cells (ABl (comb_table.T 16)) 130 (0,0)):=by
    rw [← HN16.out]
    exact HC.out
   have HF:=zm HC16;clear HC16 HC
   go_wp2
   refine wp_load_row 130 (.tmp 1) rfl (w.heap.size+1) rfl 130 _ (0,0) (.array 17 128) HF.out Try.underlying130 rfl comb_table.size16 ?_
   have hst:=storeCells_row (P:=Try.prog) wr w.heap.size 130 130 Z (ABl (comb_table.T 16)) HZ0.out comb_table.size16 (by rw [hZ'.out,ABl_size,ABl_size,comb_table.T_len,List.length_replicate]) (ABl_one _)
   go_wp2
   (try simp only [Exit.inBlock,Exit.then])
   refine bodyPost_ret (results_cell_row rfl _ _ w.heap.size 130 (ABl (comb_table.T 16)) (0,0) (.array 17 128) rfl (setRow_heap _ _ _ _ _ _ HZ0.out) Try.underlying130 rfl comb_table.size16) rfl ?_
   exact ⟨rfl,below_row HB.out (Nat.le_refl _) _⟩

/-- What place k of row n holds. -/
def comb_table.f (a0 a1 : Int) : Option Int:=if 0≤a0 then (if a0 < 17 then (if 0≤a1 then (if a1 < 13 then some ((comb_table.T 16).getD (a0.toNat * 13+a1.toNat) 0) else none) else none) else none) else none
theorem comb_table.parts {n k t : Int} (h : comb_table.f n k=some t) : 0≤n∧n < 17∧0≤k∧k < 13∧t=(comb_table.T 16).getD (n.toNat * 13+k.toNat) 0:=by
 unfold comb_table.f at h
 split at h
 ·
  split at h
  ·
   split at h
   ·
    split at h
    ·
     exact ⟨by assumption,by assumption,by assumption,by assumption,(Option.some.inj h).symm⟩
    ·
     exact absurd h (by simp)
   ·
    exact absurd h (by simp)
  ·
   exact absurd h (by simp)
 ·
  exact absurd h (by simp)
theorem comb_table.inn {n k t : Int} (h : comb_table.f n k=some t) : ((0≤n)=True)∧((n < 17)=True)∧((0≤k)=True)∧((k < 13)=True):=by
 obtain ⟨h0,h1,h2,h3,_⟩:=comb_table.parts h
 exact ⟨eq_true h0,eq_true h1,eq_true h2,eq_true h3⟩
theorem comb_table.look {W : World} {g : Nat} (hg : W.heap[g]? = some (.cells (ABl (comb_table.T 16)) 130 (0,0))) {n k t : Int} (h : comb_table.f n k=some t) : W.cell? ⟨g,n.toNat * 13+k.toNat,none⟩=some (.int .u64 t):=by
 obtain ⟨h0,h1,h2,h3,ht⟩:=comb_table.parts h
 rw [ht,zs hg,ABl_get (by rw [comb_table.T_len];omega)]
set_option maxRecDepth 100000 in
theorem comb_table.zsize : ∃ Z : Array Value,(∀ W,(zeroValue 130).run Try.prog W=.ok (.agg Z) W)∧Aside0 (Z.size=(ABl (comb_table.T 16)).size):=by
 obtain ⟨Z,hz,hZ⟩:=comb_table.zeroes
 refine ⟨Z,hz,⟨?_⟩⟩
 have h:=congrArg List.length hZ
 rw [Array.length_toList,encs_length,List.length_replicate] at h
 exact h.trans (by rw [ABl_size,comb_table.T_len])
end Go.Proofs.Ytifkhfnmbiefaaa.Prt

namespace Go.Proofs.Ytifkhfnmbiefaaa.Prt
open Go.RowKit Go.Proofs.YtifkhfnmbiefaaaW.PrintWords Go.Proofs.YtifkhfnmbiefaaaW.PrintLast Go.Proofs.YtifkhfnmbiefaaaW.PrintMore
attribute [local go_sem] max2_int min2_int max_two min_two max_three min_three max_four min_four   -- for this text's walks alone
set_option linter.unusedVariables false
set_option linter.unusedSimpArgs false


def comb_Count.f (a0 : Int) (a1 : Int) : Option (Int × Int):=(comb_fair.f a0 a1).bind fun t153=>(if t153=true then ((comb_table.f a0 a1).bind fun t157=>(some (t157,0))) else (some (0,1)))
set_option maxHeartbeats 8000000 in
set_option maxRecDepth 100000 in
theorem comb_Count.calls (a0 : Int) (a1 : Int) (r1 : Int) (r2 : Int) (w : World) (h : comb_Count.f a0 a1=some (r1,r2)) :
  Calls Try.prog 47 #[.int .i64 a0, .int .i64 a1] w fun e w' => e=.returned (.tuple #[.int .u64 r1, .int .i64 r2])∧Below w.heap.size w w' := by
 have HB:=zm (Below.refl w.heap.size w)
 have H : ((comb_fair.f a0 a1).bind fun t153=>(if t153=true then ((comb_table.f a0 a1).bind fun t157=>(some (t157,0))) else (some (0,1))))=some (r1,r2):=h
 clear h
 replace H:=ybi H;obtain ⟨t153,A3,H⟩:=H
 by_cases c4 : t153=true
 ·
  subst c4
  rw [if_pos rfl] at H
  obtain ⟨y154,hy154⟩ : ∃ y_ : List Int,y_=(([0] : List Int)):=⟨_,rfl⟩
  replace H : ((comb_table.f a0 a1).bind fun t157=>(some (t157,0)))=some (r1,r2):=yrw hy154 H
  have Ny154:=zm hy154;clear hy154
  replace H:=ybi H;obtain ⟨t157,A5,H⟩:=H
  simp only [Option.some.injEq,Prod.mk.injEq] at H
  obtain ⟨rfl,rfl⟩:=H
  go_enter Try.func47,Try.ntmps47
  obtain ⟨Z,hz,HZs⟩:=comb_table.zsize
  obtain ⟨ia0,ib0,ic0,id0⟩:=comb_table.inn A5.out
  go_wp2_with (first|((with_reducible refine gate_callee (f:=88) rfl ?_);refine ygl 9 Try.func88 #[.int .i64 a0, .int .i64 a1] ?_;(with_reducible refine (comb_fair.calls a0 a1 true _ A3.out).mono ?_);rintro e w' ⟨rfl,⟨nd,rfl⟩⟩;refine ⟨_,rfl, ?_⟩)|((with_reducible refine gate_callee (f:=89) rfl ?_);refine goesL_ (some 11) rfl rfl Try.func89 (by kernel_rfl) rfl #[] rfl (by first|rfl|simp) ?_;(with_reducible refine (comb_table.made _).mono ?_);rintro e w5 ⟨rfl,hb5⟩;refine ⟨_,rfl, ?_⟩;have hst:=run_storeCells_new (P:=Try.prog) w5 130 Z (ABl (comb_table.T 16)) comb_table.size16 HZs.out (ABl_one _);have n1_:=zm (ze (zJ yhb hb5) (.cells (ABl (comb_table.T 16)) 130));clear HB;have HB:=n1_;clear n1_;have hbn:=zm (blk_new w5 (.cells (ABl (comb_table.T 16)) 130));have hcl0:=comb_table.look hbn.out A5.out))
  go_ret2
  exact ⟨ye,yhb⟩
 ·
  replace c4:=Bool.eq_false_iff.mpr c4
  subst c4
  rw [ynf] at H
  simp only [Option.some.injEq,Prod.mk.injEq] at H
  obtain ⟨rfl,rfl⟩:=H
  go_enter Try.func47,Try.ntmps47
  go_wp2_with (first|((with_reducible refine gate_callee (f:=88) rfl ?_);refine ygl 9 Try.func88 #[.int .i64 a0, .int .i64 a1] ?_;(with_reducible refine (comb_fair.calls a0 a1 false _ A3.out).mono ?_);rintro e w' ⟨rfl,⟨nd,rfl⟩⟩;refine ⟨_,rfl, ?_⟩))
  go_ret2
  exact ⟨ye,yhb⟩
def comb_width.l0 : Nat→Int→Int→Option (Int)
 | 0,_,_=>none
 | k+1,x0,x3=>if x0 > 0 then (comb_width.l0 k (x0 / 2) (wrap64 (x3+1))) else (some x3)
def comb_width.f (k : Nat) (a0 : Int) : Option (Int):=comb_width.l0 k a0 0
theorem comb_width.mono_l : ∀ k,(∀ y0 y1,LeO (comb_width.l0 k y0 y1) (comb_width.l0 (k+1) y0 y1))
 | 0=>fun _ _ r h=>by simp [comb_width.l0] at h
 | k+1=>by
  have ih0:=comb_width.mono_l k
  ·
   intro y0 y1
   unfold comb_width.l0
   repeat' with_reducible first|apply ih0|apply yLr|apply yLn|apply yLi|apply yLb|intro _
theorem comb_width.mono : ∀ a0 k,LeO (comb_width.f k a0) (comb_width.f (k+1) a0):=by
 intro a0 k
 have ih0:=comb_width.mono_l k
 unfold comb_width.f
 repeat' with_reducible first|apply ih0|apply yLr|apply yLn|apply yLi|apply yLb|intro _
set_option maxHeartbeats 8000000 in
set_option maxRecDepth 100000 in
theorem comb_width.calls (k : Nat) (a0 : Int) (r : Int) (w : World) (h : comb_width.f k a0=some r) :
  Calls Try.prog 124 #[.int .u64 a0] w fun e w' => e=.returned (.int .i64 r)∧Drawn0 w w' := by
 have H : (comb_width.l0 k a0 0)=some r:=h
 clear h
 have H' := zm H
 clear H
 go_enter Try.func124,Try.ntmps124
 go_wp2
 go_loopg [0,3] k (fun kq v0 v3 w' => ∃ (x0_1 : Int) (x3_1 : Int),v0=.int .u64 x0_1∧v3=.int .i64 x3_1∧Aside0 (comb_width.l0 kq x0_1 x3_1=some r)∧Aside0 (kq≤k)∧Drawn0 w w')
 case atStart=>exact ⟨(a0),(0),yq,yq,H',⟨Nat.le_refl _⟩,yd⟩
 case round =>
  clear H'
  obtain ⟨x0_1,x3_1,rfl,rfl,HA,HK1,⟨m1,rfl⟩⟩:=hrel
  obtain ⟨k1,rfl⟩:=ysu gk (fun h=>by subst h;exact absurd HA.out (by simp [comb_width.l0]))
  have H:=HA.out;clear HA
  simp only [comb_width.l0] at H
  by_cases c2 : x0_1 > 0
  ·
   rw [if_pos c2] at H
   have c2b0 : decide (0 < x0_1)=true:=decide_eq_true c2
   clear c2
   have H' := zm H
   clear H
   go_wp2
   go_roundg k1
   case measure=>exact yom1 HK1
   case rel=>exact ⟨(x0_1 / 2),(wrap64 (x3_1+1)),yq,yq,H',⟨yom1 HK1⟩,yd⟩
  ·
   rw [if_neg c2] at H
   have c2b0 : decide (0 < x0_1)=false:=decide_eq_false c2
   clear c2
   obtain rfl:=Option.some.inj H
   go_wp2
   go_ret
   exact ⟨yq,yd⟩
def comb_Cost.f (k : Nat) (a0 : Int) (a1 : Int) : Option (Int × Int):=(comb_Count.f a0 a1).bind fun bt158=>(if bt158.2=0 then (if (IntKind.u64.wrap (bt158.1 - 1)) < 65536 then ((comb_width.f k (IntKind.u64.wrap (bt158.1 - 1))).bind fun t160=>(some (t160,0))) else ((comb_width.f k ((IntKind.u64.wrap (bt158.1 - 1)) / 65536)).bind fun t161=>(some (wrap64 (t161+16),0)))) else (some (0,bt158.2)))
theorem comb_Cost.mono : ∀ a0 a1 k,LeO (comb_Cost.f k a0 a1) (comb_Cost.f (k+1) a0 a1):=by
 intro a0 a1 k
 unfold comb_Cost.f
 repeat' with_reducible first|apply comb_width.mono|apply yLr|apply yLn|apply yLi|apply yLb|intro _
set_option maxHeartbeats 8000000 in
set_option maxRecDepth 100000 in
theorem comb_Cost.calls (k : Nat) (a0 : Int) (a1 : Int) (r1 : Int) (r2 : Int) (w : World) (h : comb_Cost.f k a0 a1=some (r1,r2)) :
  Calls Try.prog 122 #[.int .i64 a0, .int .i64 a1] w fun e w' => e=.returned (.tuple #[.int .i64 r1, .int .i64 r2])∧Below w.heap.size w w' := by
 have HB:=zm (Below.refl w.heap.size w)
 have H : ((comb_Count.f a0 a1).bind fun bt158=>(if bt158.2=0 then (if (IntKind.u64.wrap (bt158.1 - 1)) < 65536 then ((comb_width.f k (IntKind.u64.wrap (bt158.1 - 1))).bind fun t160=>(some (t160,0))) else ((comb_width.f k ((IntKind.u64.wrap (bt158.1 - 1)) / 65536)).bind fun t161=>(some (wrap64 (t161+16),0)))) else (some (0,bt158.2))))=some (r1,r2):=h
 clear h
 replace H:=ybi H;obtain ⟨⟨t158,t159⟩,A3,H⟩:=H
 try dsimp only at H
 by_cases c4 : t159=0
 ·
  rw [if_pos c4] at H
  have c4b0 : (t159 == 0)=true:=beq_iff_eq.mpr c4
  have c4b1 : (t159 != 0)=false:=bne_eq_false_iff_eq.mpr c4
  clear c4
  by_cases c5 : (IntKind.u64.wrap (t158 - 1)) < 65536
  ·
   rw [if_pos c5] at H
   have c5b0 : decide ((IntKind.u64.wrap (t158 - 1)) < 65536)=true:=decide_eq_true c5
   clear c5
   replace H:=ybi H;obtain ⟨t160,A6,H⟩:=H
   simp only [Option.some.injEq,Prod.mk.injEq] at H
   obtain ⟨rfl,rfl⟩:=H
   go_enter Try.func122,Try.ntmps122
   go_wp2_with (first|((with_reducible refine gate_callee (f:=47) rfl ?_);refine ygl 11 Try.func47 #[.int .i64 a0, .int .i64 a1] ?_;(with_reducible refine (comb_Count.calls a0 a1 t158 t159 _ A3.out).mono ?_);rintro e w7 ⟨rfl,hb⟩;refine ⟨_,rfl, ?_⟩;replace HB:=ybs hb;(try clear hb))|((with_reducible refine gate_callee (f:=124) rfl ?_);refine ygl 22 Try.func124 #[.int .u64 (IntKind.u64.wrap (t158 - 1))] ?_;(with_reducible refine (comb_width.calls k (IntKind.u64.wrap (t158 - 1)) t160 _ A6.out).mono ?_);rintro e w' ⟨rfl,⟨nd,rfl⟩⟩;refine ⟨_,rfl, ?_⟩))
   go_ret2
   exact ⟨ye,yhb⟩
  ·
   rw [if_neg c5] at H
   have c5b0 : decide ((IntKind.u64.wrap (t158 - 1)) < 65536)=false:=decide_eq_false c5
   clear c5
   replace H:=ybi H;obtain ⟨t161,A8,H⟩:=H
   simp only [Option.some.injEq,Prod.mk.injEq] at H
   obtain ⟨rfl,rfl⟩:=H
   go_enter Try.func122,Try.ntmps122
   go_wp2_with (first|((with_reducible refine gate_callee (f:=47) rfl ?_);refine ygl 11 Try.func47 #[.int .i64 a0, .int .i64 a1] ?_;(with_reducible refine (comb_Count.calls a0 a1 t158 t159 _ A3.out).mono ?_);rintro e w9 ⟨rfl,hb⟩;refine ⟨_,rfl, ?_⟩;replace HB:=ybs hb;(try clear hb))|((with_reducible refine gate_callee (f:=124) rfl ?_);refine ygl 25 Try.func124 #[.int .u64 ((IntKind.u64.wrap (t158 - 1)) / 65536)] ?_;(with_reducible refine (comb_width.calls k ((IntKind.u64.wrap (t158 - 1)) / 65536) t161 _ A8.out).mono ?_);rintro e w' ⟨rfl,⟨nd,rfl⟩⟩;refine ⟨_,rfl, ?_⟩))
   go_ret2
   exact ⟨ye,yhb⟩
 ·
  rw [if_neg c4] at H
  have c4b0 : (t159 == 0)=false:=beq_eq_false_iff_ne.mpr c4
  have c4b1 : (t159 != 0)=true:=bne_iff_ne.mpr c4
  simp only [Option.some.injEq,Prod.mk.injEq] at H
  obtain ⟨rfl,rfl⟩:=H
  go_enter Try.func122,Try.ntmps122
  go_wp2_with (first|((with_reducible refine gate_callee (f:=47) rfl ?_);refine ygl 11 Try.func47 #[.int .i64 a0, .int .i64 a1] ?_;(with_reducible refine (comb_Count.calls a0 a1 t158 t159 _ A3.out).mono ?_);rintro e w10 ⟨rfl,hb⟩;refine ⟨_,rfl, ?_⟩;replace HB:=ybs hb;(try clear hb)))
  go_ret2
  exact ⟨ye,yhb⟩
def alloc_cost.j0 : Nat→Int→List Int→Int→Bool→Option (Int × Bool)
 | 0,_,_,_,_=>none
 | k+1,x1,x2,x3,x33=>if x33=true then (some (0,false)) else ((band_Width.f x1).bind fun t165=>(if 0≤x1 then (if x1 < (x2.length : Int) then ((comb_Cost.f k t165 (rd x2 x1)).bind fun bt167=>((band_Width.f x1).bind fun t169=>((comb_Cost.f k t169 (wrap64 ((rd x2 x1)+1))).bind fun bt171=>(some (wrap64 (bt171.1 - bt167.1),decide ((wrap64 (bt171.1 - bt167.1))≤x3)))))) else (none)) else (none)))
def alloc_cost.f (k : Nat) (l0 : List Int) (a1 : Int) (l2 : List Int) (a3 : Int) : Option (Int × Bool):=if 0≤a1 then (if a1 < (l0.length : Int) then (if (rd l0 a1)=0 then (alloc_cost.j0 k a1 l2 a3 true) else (if a1 < (l2.length : Int) then ((alloc_most.f a1).bind fun t164=>(alloc_cost.j0 k a1 l2 a3 (decide ((rd l2 a1) ≥ t164)))) else (none))) else (none)) else (none)
theorem alloc_cost.mono_l : ∀ k,(∀ y0 y1 y2 y3,LeO (alloc_cost.j0 k y0 y1 y2 y3) (alloc_cost.j0 (k+1) y0 y1 y2 y3))
 | 0=>fun _ _ _ _ r h=>by simp [alloc_cost.j0] at h
 | k+1=>by
  have ih0:=alloc_cost.mono_l k
  ·
   intro y0 y1 y2 y3
   unfold alloc_cost.j0
   repeat' with_reducible first|apply ih0|apply comb_Cost.mono|apply yLr|apply yLn|apply yLi|apply yLb|intro _
theorem alloc_cost.mono : ∀ a0 a1 a2 a3 k,LeO (alloc_cost.f k a0 a1 a2 a3) (alloc_cost.f (k+1) a0 a1 a2 a3):=by
 intro a0 a1 a2 a3 k
 have ih0:=alloc_cost.mono_l k
 unfold alloc_cost.f
 repeat' with_reducible first|apply ih0|apply comb_Cost.mono|apply yLr|apply yLn|apply yLi|apply yLb|intro _
def alloc_cost.T1 : Bool × List (List Nat × List Nat):=(true, [([], []),([0], [0]),([1], [1]),([2], [2]),([], []),([3,4], [3,4]),([5], [5]),([6], [6]),([7], [7]),([8], [8]),([9,8], [8,9]),([10,8], [8,10]),([11,8], [8,11]),([8], [8]),([12,13,8], [8,12,13]),([14,8], [8,14]),([8], [8]),([16,8], [8,16]),([17,8], [8,17]),([18,8], [8,18]),([8], [8]),([19,20,8,8], [8,19,20]),([15,21,8], [8,15,21]),([8,22], [8,22])])
def alloc_cost.B1 : List Nat := [0,1,3,7,0,31,63,127,255,511,1023,2047,4095,511,16383,32767,511,66047,197119,459263,511,2032127,4194303,8388607]
theorem alloc_cost.tab1 : rtab .any (opsOf Try.f112 1)=alloc_cost.T1:=by kernel_rfl
theorem alloc_cost.bits1 : waitsOk alloc_cost.T1.2 alloc_cost.B1=true:=by kernel_rfl
def alloc_cost.T3 : Bool × List (List Nat × List Nat):=(true, [([], []),([0], [0]),([], []),([2], [2]),([3], [3]),([4], [4]),([], []),([5,6], [5,6]),([7], [7]),([1,8,1], [1,8]),([9], [9]),([10], [10]),([10], [10]),([11,9,0,1,2,3,4,5,6,7,8,9,10,11], [11]),([12,13,0,1,2,3,4,5,6,7,8,9,10,11,12,13], [12])])
def alloc_cost.B3 : List Nat := [0,1,0,4,12,28,0,124,252,511,1023,2047,2047,4095,16383]
theorem alloc_cost.tab3 : rtab .any (opsOf Try.f112 3)=alloc_cost.T3:=by kernel_rfl
theorem alloc_cost.bits3 : waitsOk alloc_cost.T3.2 alloc_cost.B3=true:=by kernel_rfl
def alloc_cost.T4 : Bool × List (List Nat × List Nat):=(true, [([], []),([0], [0]),([], []),([2], [2]),([3], [3]),([4], [4]),([], []),([5,6], [5,6]),([7], [7]),([8], [8]),([1,9,1], [1,9]),([10], [10]),([11], [11]),([11], [11]),([12,10,0,1,2,3,4,5,6,7,8,9,10,11,12], [12]),([13,14,0,1,2,3,4,5,6,7,8,9,10,11,12,13,14], [13])])
def alloc_cost.B4 : List Nat := [0,1,0,4,12,28,0,124,252,508,1023,2047,4095,4095,8191,32767]
theorem alloc_cost.tab4 : rtab .any (opsOf Try.f112 4)=alloc_cost.T4:=by kernel_rfl
theorem alloc_cost.bits4 : waitsOk alloc_cost.T4.2 alloc_cost.B4=true:=by kernel_rfl
def alloc_cost.T5 : Bool × List (List Nat × List Nat):=(true, [([], []),([], []),([0,1], [0,1]),([], []),([], []),([3,4], [3,4]),([], []),([6], [6]),([7], [7]),([8], [8]),([5,9], [5,9]),([2,0,1,2], [2]),([10,11,0,1,2,3,4,5,6,7,8,9,10,11], [10])])
def alloc_cost.B5 : List Nat := [0,0,3,0,0,24,0,64,192,448,1016,7,4095]
theorem alloc_cost.tab5 : rtab .any (opsOf Try.f112 5)=alloc_cost.T5:=by kernel_rfl
theorem alloc_cost.bits5 : waitsOk alloc_cost.T5.2 alloc_cost.B5=true:=by kernel_rfl
set_option maxHeartbeats 8000000 in
set_option maxRecDepth 100000 in
theorem alloc_cost.calls (k : Nat) (B : Nat) (A0 : Option Addr) (c0 : Nat) (l0 : List Int) (a1 : Int) (A2 : Option Addr) (c2 : Nat) (l2 : List Int) (a3 : Int) (r1 : Int) (r2 : Bool) (w : World) (hr0 : Kd.C (Kd.int .i64) w A0 l0.length l0) (hc0 : l0.length≤c0) (hr2 : Kd.C (Kd.int .i64) w A2 l2.length l2) (hc2 : l2.length≤c2) (hs : w.heap[B]? = some (.cells #[.slice A0 l0.length c0, .slice A2 l2.length c2, .int .i64 a3, .func (.func 74) #[] #[]] 113 (0,0))) (h : alloc_cost.f k l0 a1 l2 a3=some (r1,r2)) :
  Calls Try.prog 112 #[.pointer (some ⟨B,0,none⟩), .int .i64 a1] w fun e w' => e=.returned (.tuple #[.int .i64 r1, .bool r2])∧Below w.heap.size w w' := by
 have HR0:=zm hr0;have HC0:=zm hc0;clear hr0 hc0;have HR2:=zm hr2;have HC2:=zm hc2;clear hr2 hc2
 have hSt : ∀ W,Below w.heap.size w W→(W.cell? ⟨B,0,none⟩=some (.slice A0 l0.length c0)∧W.cell? ⟨B,1,none⟩=some (.slice A2 l2.length c2)∧W.cell? ⟨B,2,none⟩=some (.int .i64 a3)∧W.cell? ⟨B,3,none⟩=some (.func (.func 74) #[] #[])):=fun W hb=>by
  have h9:=zF hs hb
  exact ⟨(zs h9 0).trans rfl,(zs h9 1).trans rfl,(zs h9 2).trans rfl,(zs h9 3).trans rfl⟩
 have HST:=zm hSt;clear hSt hs;have HB:=zm (Below.refl w.heap.size w)
 have H : (if 0≤a1 then (if a1 < (l0.length : Int) then (if (rd l0 a1)=0 then (alloc_cost.j0 k a1 l2 a3 true) else (if a1 < (l2.length : Int) then ((alloc_most.f a1).bind fun t164=>(alloc_cost.j0 k a1 l2 a3 (decide ((rd l2 a1) ≥ t164)))) else (none))) else (none)) else (none))=some (r1,r2):=h
 clear h;have HC5:=zm H;clear H
 go_enter Try.func112,Try.ntmps112
 go_upto_region 1 with (fail)
 go_cut [33] (fun v33 wc => ∃ (kq : Nat) (x33_4 : Bool),v33=.bool x33_4∧Aside0 (alloc_cost.j0 kq a1 l2 a3 x33_4=some (r1,r2))∧Aside0 (kq≤k)∧Aside0 (Below w.heap.size w wc))
 case first =>
  have H:=HC5.out;clear HC5
  replace H:=yif H;obtain ⟨c6,H⟩:=H
  have c6b0 : decide (0≤a1)=true:=decide_eq_true c6
  clear c6
  (first|rw [c6b0]|(simp only [i64_w,i32_w];rw [c6b0])|skip)
  replace H:=yif H;obtain ⟨c7,H⟩:=H
  have c7b0 : decide (a1 < (l0.length : Int))=true:=decide_eq_true c7
  clear c7
  by_cases c8 : (rd l0 a1)=0
  ·
   rw [if_pos c8] at H
   have c8b0 : ((rd l0 a1) == 0)=true:=beq_iff_eq.mpr c8
   have c8b1 : ((rd l0 a1) != 0)=false:=bne_eq_false_iff_eq.mpr c8
   clear c8
   have H' := zm H
   clear H
   try go_wp2
   replace HB:=zm (zf HB.out)
   have p162 : 0≤(a1 : Int):=yt
   have q162 : a1 < (l0.length : Int):=yt
   obtain ⟨ad162,e162,hx162_0⟩:=Kd.at_int HR0.out a1 p162 q162
   have hw162_0:=hx162_0
   cases e162
   replace hx162_0:=yhx HB hx162_0
   replace p162:=eq_true p162
   replace q162:=eq_true q162
   refine yst (fun w' => (w'.cell? ⟨B,0,none⟩=some (.slice (some ad162) l0.length c0)∧w'.cell? ⟨B,1,none⟩=some (.slice A2 l2.length c2)∧w'.cell? ⟨B,2,none⟩=some (.int .i64 a3)∧w'.cell? ⟨B,3,none⟩=some (.func (.func 74) #[] #[]))∧(w'.cell? (ad162.add (a1).toNat)=some (.int .i64 (rd l0 a1)))) [] 24 alloc_cost.tab1 alloc_cost.bits1 (fun hHeld HT_ HW_ => ?_) (hS:=⟨HST.out _ HB.out,((yhx HB hw162_0 :))⟩)
   generalize w.drew=w9 at HB hx162_0 hHeld ⊢
   refine yp 0 10 HT_ ?_
   refine yp 1 11 HT_ ?_
   refine yp 2 12 HT_ ?_
   refine yl 3 13 HT_ HW_ hHeld ?_
   refine yp 4 14 HT_ ?_
   refine yp 5 15 HT_ ?_
   refine yl 6 16 HT_ HW_ hHeld ?_
   refine yp 7 17 HT_ ?_
   refine yp 8 18 HT_ ?_
   refine yu 9 19 HT_ ?_
   refine yu 10 20 HT_ ?_
   refine yu 11 21 HT_ ?_
   refine yu 12 22 HT_ ?_
   refine yu 13 23 HT_ ?_
   refine yu 14 24 HT_ ?_
   refine yu 15 25 HT_ ?_
   refine yu 16 26 HT_ ?_
   refine yu 17 27 HT_ ?_
   refine yu 18 28 HT_ ?_
   refine yu 19 29 HT_ ?_
   refine yu 20 30 HT_ ?_
   refine yu 21 31 HT_ ?_
   refine yu 22 32 HT_ ?_
   refine yp 23 33 HT_ ?_
   refine done_ (done_of HT_.out (by kernel_rfl)) ?_
   try go_wp2
   go_meet
   case rel=>exact ⟨_,(true),yq,H',⟨yo⟩,⟨yhb⟩⟩
  ·
   rw [if_neg c8] at H
   have c8b0 : ((rd l0 a1) == 0)=false:=beq_eq_false_iff_ne.mpr c8
   have c8b1 : ((rd l0 a1) != 0)=true:=bne_iff_ne.mpr c8
   replace H:=yif H;obtain ⟨c10,H⟩:=H
   have c10b0 : decide (a1 < (l2.length : Int))=true:=decide_eq_true c10
   clear c10
   replace H:=ybi H;obtain ⟨t164,A11,H⟩:=H
   have H' := zm H
   clear H
   try go_wp2
   replace HB:=zm (zf HB.out)
   have p162 : 0≤(a1 : Int):=yt
   have q162 : a1 < (l0.length : Int):=yt
   obtain ⟨ad162,e162,hx162_0⟩:=Kd.at_int HR0.out a1 p162 q162
   have hw162_0:=hx162_0
   cases e162
   replace hx162_0:=yhx HB hx162_0
   replace p162:=eq_true p162
   replace q162:=eq_true q162
   have p163 : 0≤(a1 : Int):=yt
   have q163 : a1 < (l2.length : Int):=yt
   obtain ⟨ad163,e163,hx163_0⟩:=Kd.at_int HR2.out a1 p163 q163
   have hw163_0:=hx163_0
   cases e163
   replace hx163_0:=yhx HB hx163_0
   replace p163:=eq_true p163
   replace q163:=eq_true q163
   refine yst (fun w' => (w'.cell? ⟨B,0,none⟩=some (.slice (some ad162) l0.length c0)∧w'.cell? ⟨B,1,none⟩=some (.slice (some ad163) l2.length c2)∧w'.cell? ⟨B,2,none⟩=some (.int .i64 a3)∧w'.cell? ⟨B,3,none⟩=some (.func (.func 74) #[] #[]))∧(w'.cell? (ad162.add (a1).toNat)=some (.int .i64 (rd l0 a1))∧w'.cell? (ad163.add (a1).toNat)=some (.int .i64 (rd l2 a1)))) [] 24 alloc_cost.tab1 alloc_cost.bits1 (fun hHeld HT_ HW_ => ?_) (hS:=⟨HST.out _ HB.out,⟨(yhx HB hw162_0 :),(yhx HB hw163_0 :)⟩⟩)
   generalize w.drew=w12 at HB hx162_0 hx163_0 hHeld ⊢
   refine yp 0 10 HT_ ?_
   refine yp 1 11 HT_ ?_
   refine yp 2 12 HT_ ?_
   refine yl 3 13 HT_ HW_ hHeld ?_
   refine yp 4 14 HT_ ?_
   refine yp 5 15 HT_ ?_
   refine yl 6 16 HT_ HW_ hHeld ?_
   refine yp 7 17 HT_ ?_
   refine yp 8 18 HT_ ?_
   refine yp 9 19 HT_ ?_
   refine yp 10 20 HT_ ?_
   refine yp 11 21 HT_ ?_
   refine yl 12 22 HT_ HW_ hHeld ?_
   refine yp 13 23 HT_ ?_
   refine yp 14 24 HT_ ?_
   refine yp 16 26 HT_ ?_
   refine yp 17 27 HT_ ?_
   refine yp 18 28 HT_ ?_
   refine yl 19 29 HT_ HW_ hHeld ?_
   refine yp 20 30 HT_ ?_
   refine yl 15 25 HT_ HW_ hHeld ?_
   refine yw 21 31 HT_ (fun K hK => ?_)
   refine call_ 74 #[.int .i64 a1] (by rfl) rfl ?hrun ?_
   (case hrun =>
    have he:=fun W=>enters_ Try.func74 (by kernel_rfl) rfl #[.int .i64 a1] W
    unfold execOp
    simp [resolve,Deferred.ofValue,invoke,Act.eval,he])
   with_reducible refine (alloc_most.calls a1 t164 _ A11.out).mono ?_
   rintro e w13 ⟨rfl,hb⟩
   refine ⟨_,rfl, ?_⟩
   replace HB:=ybs hb
   (try clear hb)
   refine hK.out _ _ ⟨HST.out _ HB.out,⟨(yhx HB hw162_0 :),(yhx HB hw163_0 :)⟩⟩ (fun hHeld => ?_)
   clear hK K
   refine ym (some 31) ?_
   refine yp 22 32 HT_ ?_
   refine yp 23 33 HT_ ?_
   refine done_ (done_of HT_.out (by kernel_rfl)) ?_
   try go_wp2
   go_meet
   case rel=>exact ⟨_,(decide ((rd l2 a1) ≥ t164)),yq,H',⟨yo⟩,⟨yhb⟩⟩
 case rest =>
  clear HC5
  try clear c2
  obtain ⟨kq,x33_4,rfl,HA,HJ4,HB⟩:=hcut
  obtain ⟨kj4,rfl⟩:=ysu kq (fun h=>by subst h;exact absurd HA.out (by simp [alloc_cost.j0]))
  have H:=HA.out;clear HA
  simp only [alloc_cost.j0] at H
  by_cases c14 : x33_4=true
  ·
   subst c14
   rw [if_pos rfl] at H
   simp only [Option.some.injEq,Prod.mk.injEq] at H
   obtain ⟨rfl,rfl⟩:=H
   go_wp2
   go_ret2
   exact ⟨ye,yhb⟩
  ·
   replace c14:=Bool.eq_false_iff.mpr c14
   subst c14
   rw [ynf] at H
   replace H:=ybi H;obtain ⟨t165,A15,H⟩:=H
   replace H:=yif H;obtain ⟨c16,H⟩:=H
   have c16b0 : decide (0≤a1)=true:=decide_eq_true c16
   clear c16
   replace H:=yif H;obtain ⟨c17,H⟩:=H
   have c17b0 : decide (a1 < (l2.length : Int))=true:=decide_eq_true c17
   clear c17
   replace H:=ybi H;obtain ⟨⟨t167,t168⟩,A18,H⟩:=H
   try dsimp only at H
   replace H:=ybi H;obtain ⟨t169,A19,H⟩:=H
   replace H:=ybi H;obtain ⟨⟨t171,t172⟩,A20,H⟩:=H
   try dsimp only at H
   simp only [Option.some.injEq,Prod.mk.injEq] at H
   obtain ⟨rfl,rfl⟩:=H
   try go_wp2
   replace HB:=zm (zf HB.out)
   have p166 : 0≤(a1 : Int):=yt
   have q166 : a1 < (l2.length : Int):=yt
   obtain ⟨ad166,e166,hx166_0⟩:=Kd.at_int HR2.out a1 p166 q166
   have hw166_0:=hx166_0
   cases e166
   replace hx166_0:=yhx HB hx166_0
   replace p166:=eq_true p166
   replace q166:=eq_true q166
   refine yst (fun w' => (w'.cell? ⟨B,0,none⟩=some (.slice A0 l0.length c0)∧w'.cell? ⟨B,1,none⟩=some (.slice (some ad166) l2.length c2)∧w'.cell? ⟨B,2,none⟩=some (.int .i64 a3)∧w'.cell? ⟨B,3,none⟩=some (.func (.func 74) #[] #[]))∧(w'.cell? (ad166.add (a1).toNat)=some (.int .i64 (rd l2 a1)))) [] 15 alloc_cost.tab3 alloc_cost.bits3 (fun hHeld HT_ HW_ => ?_) (hS:=⟨HST.out _ HB.out,((yhx HB hw166_0 :))⟩)
   generalize wc.drew=w21 at HB hx166_0 hHeld ⊢
   refine yp 0 35 HT_ ?_
   refine yp 2 37 HT_ ?_
   refine yp 3 38 HT_ ?_
   refine yp 4 39 HT_ ?_
   refine yl 5 40 HT_ HW_ hHeld ?_
   refine yp 6 41 HT_ ?_
   refine yp 7 42 HT_ ?_
   refine yl 8 43 HT_ HW_ hHeld ?_
   refine yw 1 36 HT_ (fun K hK => ?_)
   refine ygs Try.func48 #[.int .i64 a1] ?_
   with_reducible refine (band_Width.calls a1 t165 _ A15.out).mono ?_
   rintro e w22 ⟨rfl,hb⟩
   refine ⟨_,rfl, ?_⟩
   replace HB:=ybs hb
   (try clear hb)
   refine hK.out _ _ ⟨HST.out _ HB.out,((yhx HB hw166_0 :))⟩ (fun hHeld => ?_)
   clear hK K
   refine ym (some 36) ?_
   refine yw 9 44 HT_ (fun K hK => ?_)
   refine ygs Try.func122 #[.int .i64 t165, .int .i64 (rd l2 a1)] ?_
   with_reducible refine (comb_Cost.calls kj4 t165 (rd l2 a1) t167 t168 _ A18.out).mono ?_
   rintro e w23 ⟨rfl,hb⟩
   refine ⟨_,rfl, ?_⟩
   replace HB:=ybs hb
   (try clear hb)
   refine hK.out _ _ ⟨HST.out _ HB.out,((yhx HB hw166_0 :))⟩ (fun hHeld => ?_)
   clear hK K
   refine ym (some 44) ?_
   refine yp 10 34 HT_ ?_
   refine yp 11 45 HT_ ?_
   refine yp 12 46 HT_ ?_
   refine yp 13 6 HT_ ?_
   refine yp 14 7 HT_ ?_
   refine done_ (done_of HT_.out (by kernel_rfl)) ?_
   try go_wp2
   replace HB:=zm (zf HB.out)
   have p170 : 0≤(a1 : Int):=yt
   have q170 : a1 < (l2.length : Int):=yt
   obtain ⟨ad170,e170,hx170_0⟩:=Kd.at_int HR2.out a1 p170 q170
   have hw170_0:=hx170_0
   obtain rfl : ad166=ad170:=(by injection e170)
   replace hx170_0:=yhx HB hx170_0
   replace p170:=eq_true p170
   replace q170:=eq_true q170
   refine yst (fun w' => (w'.cell? ⟨B,0,none⟩=some (.slice A0 l0.length c0)∧w'.cell? ⟨B,1,none⟩=some (.slice (some ad166) l2.length c2)∧w'.cell? ⟨B,2,none⟩=some (.int .i64 a3)∧w'.cell? ⟨B,3,none⟩=some (.func (.func 74) #[] #[]))∧(w'.cell? (ad166.add (a1).toNat)=some (.int .i64 (rd l2 a1)))) [] 16 alloc_cost.tab4 alloc_cost.bits4 (fun hHeld HT_ HW_ => ?_) (hS:=⟨HST.out _ HB.out,((yhx HB hw170_0 :))⟩)
   generalize w23.drew=w24 at HB hx170_0 hHeld ⊢
   refine yp 0 48 HT_ ?_
   refine yp 2 50 HT_ ?_
   refine yp 3 51 HT_ ?_
   refine yp 4 52 HT_ ?_
   refine yl 5 53 HT_ HW_ hHeld ?_
   refine yp 6 54 HT_ ?_
   refine yp 7 55 HT_ ?_
   refine yl 8 56 HT_ HW_ hHeld ?_
   refine yp 9 57 HT_ ?_
   refine yw 1 49 HT_ (fun K hK => ?_)
   refine ygs Try.func48 #[.int .i64 a1] ?_
   with_reducible refine (band_Width.calls a1 t169 _ A19.out).mono ?_
   rintro e w25 ⟨rfl,hb⟩
   refine ⟨_,rfl, ?_⟩
   replace HB:=ybs hb
   (try clear hb)
   refine hK.out _ _ ⟨HST.out _ HB.out,((yhx HB hw170_0 :))⟩ (fun hHeld => ?_)
   clear hK K
   refine ym (some 49) ?_
   refine yw 10 58 HT_ (fun K hK => ?_)
   refine ygs Try.func122 #[.int .i64 t169, .int .i64 (wrap64 ((rd l2 a1)+1))] ?_
   with_reducible refine (comb_Cost.calls kj4 t169 (wrap64 ((rd l2 a1)+1)) t171 t172 _ A20.out).mono ?_
   rintro e w26 ⟨rfl,hb⟩
   refine ⟨_,rfl, ?_⟩
   replace HB:=ybs hb
   (try clear hb)
   refine hK.out _ _ ⟨HST.out _ HB.out,((yhx HB hw170_0 :))⟩ (fun hHeld => ?_)
   clear hK K
   refine ym (some 58) ?_
   refine yp 11 47 HT_ ?_
   refine yp 12 59 HT_ ?_
   refine yp 13 60 HT_ ?_
   refine yp 14 8 HT_ ?_
   refine yp 15 9 HT_ ?_
   refine done_ (done_of HT_.out (by kernel_rfl)) ?_
   try go_wp2
   replace HB:=zm (zf HB.out)
   refine yst (fun w' => (w'.cell? ⟨B,0,none⟩=some (.slice A0 l0.length c0)∧w'.cell? ⟨B,1,none⟩=some (.slice (some ad166) l2.length c2)∧w'.cell? ⟨B,2,none⟩=some (.int .i64 a3)∧w'.cell? ⟨B,3,none⟩=some (.func (.func 74) #[] #[]))∧(True)) [] 13 alloc_cost.tab5 alloc_cost.bits5 (fun hHeld HT_ HW_ => ?_) (hS:=⟨HST.out _ HB.out,trivial⟩)
   generalize w26.drew=w27 at HB hHeld ⊢
   refine yp 0 61 HT_ ?_
   refine yp 1 62 HT_ ?_
   refine yp 2 63 HT_ ?_
   refine yp 3 64 HT_ ?_
   refine yp 4 65 HT_ ?_
   refine yp 5 66 HT_ ?_
   refine yp 6 67 HT_ ?_
   refine yp 7 68 HT_ ?_
   refine yp 8 69 HT_ ?_
   refine yl 9 70 HT_ HW_ hHeld ?_
   refine yp 10 71 HT_ ?_
   refine yp 11 4 HT_ ?_
   refine yp 12 5 HT_ ?_
   refine done_ (done_of HT_.out (by kernel_rfl)) ?_
   try go_wp2
   go_ret2
   exact ⟨ye,yhb⟩
def alloc_worth.f (l0 : List Int) (a1 : Int) (l2 : List Int) (a3 : Int) : Option (Int):=if 0≤a1 then (if a1 < (l0.length : Int) then (if a1 < (l2.length : Int) then ((band_Width.f a1).bind fun t175=>(if t175=0 then (none) else (some (wrap64 ((wrap64 (8 * (rd l0 a1))) - (wrap64 (Int.tdiv (wrap64 (16 * (rd l2 a1))) t175))))))) else (none)) else (none)) else (none)
def alloc_worth.T1 : Bool × List (List Nat × List Nat):=(true, [([], []),([0], [0]),([1], [1]),([2], [2]),([], []),([3,4], [3,4]),([5], [5]),([6], [6]),([], []),([8], [8]),([9], [9]),([10], [10]),([], []),([11,12], [11,12]),([13], [13]),([14], [14]),([], []),([16], [16]),([15,17], [15,17]),([7,18], [7,18]),([19,17,0,1,2,3,4,5,6,7,8,9,10,11,12,13,14,15,16,17,18,19], [19])])
def alloc_worth.B1 : List Nat := [0,1,3,7,0,31,63,127,0,256,768,1792,0,7936,16128,32512,0,65536,261888,524287,1048575]
theorem alloc_worth.tab1 : rtab .any (opsOf Try.f113 1)=alloc_worth.T1:=by kernel_rfl
theorem alloc_worth.bits1 : waitsOk alloc_worth.T1.2 alloc_worth.B1=true:=by kernel_rfl
set_option maxHeartbeats 8000000 in
set_option maxRecDepth 100000 in
theorem alloc_worth.calls (B : Nat) (A0 : Option Addr) (c0 : Nat) (l0 : List Int) (a1 : Int) (A2 : Option Addr) (c2 : Nat) (l2 : List Int) (a3 : Int) (r : Int) (w : World) (hr0 : Kd.C (Kd.int .i64) w A0 l0.length l0) (hc0 : l0.length≤c0) (hr2 : Kd.C (Kd.int .i64) w A2 l2.length l2) (hc2 : l2.length≤c2) (hs : w.heap[B]? = some (.cells #[.slice A0 l0.length c0, .slice A2 l2.length c2, .int .i64 a3, .func (.func 74) #[] #[]] 113 (0,0))) (h : alloc_worth.f l0 a1 l2 a3=some r) :
  Calls Try.prog 113 #[.pointer (some ⟨B,0,none⟩), .int .i64 a1] w fun e w' => e=.returned (.int .i64 r)∧Below w.heap.size w w' := by
 have HR0:=zm hr0;have HC0:=zm hc0;clear hr0 hc0;have HR2:=zm hr2;have HC2:=zm hc2;clear hr2 hc2
 have hSt : ∀ W,Below w.heap.size w W→(W.cell? ⟨B,0,none⟩=some (.slice A0 l0.length c0)∧W.cell? ⟨B,1,none⟩=some (.slice A2 l2.length c2)∧W.cell? ⟨B,2,none⟩=some (.int .i64 a3)∧W.cell? ⟨B,3,none⟩=some (.func (.func 74) #[] #[])):=fun W hb=>by
  have h9:=zF hs hb
  exact ⟨(zs h9 0).trans rfl,(zs h9 1).trans rfl,(zs h9 2).trans rfl,(zs h9 3).trans rfl⟩
 have HST:=zm hSt;clear hSt hs;have HB:=zm (Below.refl w.heap.size w)
 have H : (if 0≤a1 then (if a1 < (l0.length : Int) then (if a1 < (l2.length : Int) then ((band_Width.f a1).bind fun t175=>(if t175=0 then (none) else (some (wrap64 ((wrap64 (8 * (rd l0 a1))) - (wrap64 (Int.tdiv (wrap64 (16 * (rd l2 a1))) t175))))))) else (none)) else (none)) else (none))=some r:=h
 clear h
 replace H:=yif H;obtain ⟨c5,H⟩:=H
 have c5b0 : decide (0≤a1)=true:=decide_eq_true c5
 clear c5
 replace H:=yif H;obtain ⟨c6,H⟩:=H
 have c6b0 : decide (a1 < (l0.length : Int))=true:=decide_eq_true c6
 clear c6
 replace H:=yif H;obtain ⟨c7,H⟩:=H
 have c7b0 : decide (a1 < (l2.length : Int))=true:=decide_eq_true c7
 clear c7
 replace H:=ybi H;obtain ⟨t175,A8,H⟩:=H
 replace H:=yie H;obtain ⟨c9,H⟩:=H
 have c9b0 : (t175 == 0)=false:=beq_eq_false_iff_ne.mpr c9
 have c9b1 : (t175 != 0)=true:=bne_iff_ne.mpr c9
 obtain rfl:=Option.some.inj H
 go_enter Try.func113,Try.ntmps113
 try go_wp2
 replace HB:=zm (zf HB.out)
 have p173 : 0≤(a1 : Int):=yt
 have q173 : a1 < (l0.length : Int):=yt
 obtain ⟨ad173,e173,hx173_0⟩:=Kd.at_int HR0.out a1 p173 q173
 have hw173_0:=hx173_0
 cases e173
 replace hx173_0:=yhx HB hx173_0
 replace p173:=eq_true p173
 replace q173:=eq_true q173
 have p174 : 0≤(a1 : Int):=yt
 have q174 : a1 < (l2.length : Int):=yt
 obtain ⟨ad174,e174,hx174_0⟩:=Kd.at_int HR2.out a1 p174 q174
 have hw174_0:=hx174_0
 cases e174
 replace hx174_0:=yhx HB hx174_0
 replace p174:=eq_true p174
 replace q174:=eq_true q174
 refine yst (fun w' => (w'.cell? ⟨B,0,none⟩=some (.slice (some ad173) l0.length c0)∧w'.cell? ⟨B,1,none⟩=some (.slice (some ad174) l2.length c2)∧w'.cell? ⟨B,2,none⟩=some (.int .i64 a3)∧w'.cell? ⟨B,3,none⟩=some (.func (.func 74) #[] #[]))∧(w'.cell? (ad173.add (a1).toNat)=some (.int .i64 (rd l0 a1))∧w'.cell? (ad174.add (a1).toNat)=some (.int .i64 (rd l2 a1)))) [] 21 alloc_worth.tab1 alloc_worth.bits1 (fun hHeld HT_ HW_ => ?_) (hS:=⟨HST.out _ HB.out,⟨(yhx HB hw173_0 :),(yhx HB hw174_0 :)⟩⟩)
 generalize w.drew=w10 at HB hx173_0 hx174_0 hHeld ⊢
 refine yp 0 5 HT_ ?_
 refine yp 1 6 HT_ ?_
 refine yp 2 7 HT_ ?_
 refine yl 3 8 HT_ HW_ hHeld ?_
 refine yp 4 9 HT_ ?_
 refine yp 5 10 HT_ ?_
 refine yp 8 13 HT_ ?_
 refine yp 9 14 HT_ ?_
 refine yp 10 15 HT_ ?_
 refine yl 11 16 HT_ HW_ hHeld ?_
 refine yp 12 17 HT_ ?_
 refine yp 13 18 HT_ ?_
 refine yp 16 21 HT_ ?_
 refine yl 6 11 HT_ HW_ hHeld ?_
 refine yp 7 12 HT_ ?_
 refine yl 14 19 HT_ HW_ hHeld ?_
 refine yp 15 20 HT_ ?_
 refine yw 17 22 HT_ (fun K hK => ?_)
 refine ygs Try.func48 #[.int .i64 a1] ?_
 with_reducible refine (band_Width.calls a1 t175 _ A8.out).mono ?_
 rintro e w11 ⟨rfl,hb⟩
 refine ⟨_,rfl, ?_⟩
 replace HB:=ybs hb
 (try clear hb)
 refine hK.out _ _ ⟨HST.out _ HB.out,⟨(yhx HB hw173_0 :),(yhx HB hw174_0 :)⟩⟩ (fun hHeld => ?_)
 clear hK K
 refine ym (some 22) ?_
 refine yp 18 23 HT_ ?_
 refine yp 19 24 HT_ ?_
 refine yp 20 4 HT_ ?_
 refine done_ (done_of HT_.out (by kernel_rfl)) ?_
 try go_wp2
 go_ret
 exact ⟨ye,yhb⟩
def alloc_give.l0 : Nat→List Int→List Int→Int→Int→Int→Option (Int × Bool × List Int)
 | 0,_,_,_,_,_=>none
 | k+1,x0,x1,x2,x3,x9=>if x9 < 5 then ((alloc_cost.f k x0 x9 x1 x2).bind fun bt180=>(if bt180.2=true then (if x3 < 0 then (alloc_give.l0 k x0 x1 x2 x9 (wrap64 (x9+1))) else ((alloc_worth.f x0 x9 x1 x2).bind fun t182=>((alloc_worth.f x0 x3 x1 x2).bind fun t183=>(if t182 > t183 then (alloc_give.l0 k x0 x1 x2 x9 (wrap64 (x9+1))) else (alloc_give.l0 k x0 x1 x2 x3 (wrap64 (x9+1))))))) else (alloc_give.l0 k x0 x1 x2 x3 (wrap64 (x9+1))))) else (if x3 < 0 then (some (x2,false,x1)) else ((alloc_cost.f k x0 x3 x1 x2).bind fun bt176=>(if 0≤x3 then (if x3 < (x1.length : Int) then (some (wrap64 (x2 - bt176.1),true,(x1.set (x3 : Int).toNat (wrap64 ((rd x1 x3)+1))))) else (none)) else (none))))
def alloc_give.f (k : Nat) (l0 : List Int) (l1 : List Int) (a2 : Int) : Option (Int × Bool × List Int):=alloc_give.l0 k l0 l1 a2 (-1) 0
theorem alloc_give.mono_l : ∀ k,(∀ y0 y1 y2 y3 y4,LeO (alloc_give.l0 k y0 y1 y2 y3 y4) (alloc_give.l0 (k+1) y0 y1 y2 y3 y4))
 | 0=>fun _ _ _ _ _ r h=>by simp [alloc_give.l0] at h
 | k+1=>by
  have ih0:=alloc_give.mono_l k
  ·
   intro y0 y1 y2 y3 y4
   unfold alloc_give.l0
   repeat' with_reducible first|apply ih0|apply alloc_cost.mono|apply yLr|apply yLn|apply yLi|apply yLb|intro _
theorem alloc_give.mono : ∀ a0 a1 a2 k,LeO (alloc_give.f k a0 a1 a2) (alloc_give.f (k+1) a0 a1 a2):=by
 intro a0 a1 a2 k
 have ih0:=alloc_give.mono_l k
 unfold alloc_give.f
 repeat' with_reducible first|apply ih0|apply alloc_cost.mono|apply yLr|apply yLn|apply yLi|apply yLb|intro _
set_option maxHeartbeats 8000000 in
set_option maxRecDepth 100000 in
theorem alloc_give.calls (k : Nat) (B : Nat) (A0 : Option Addr) (c0 : Nat) (l0 : List Int) (P1_ : Nat→Prop) (u9000_ : Value) (l1 : List Int) (a2 : Int) (r1 : Int) (r2 : Bool) (r3 : List Int) (w0 w : World) (hB : Below w0.heap.size w0 w) (hr0 : ∀ W_,Kept w W_ (fun k_=>P1_ k_)→Kd.C (Kd.int .i64) W_ A0 l0.length l0) (hc0 : l0.length≤c0) (ho1 : Kd.R (Kd.int .i64) 3 w w0.heap.size P1_ u9000_ l1) (hPB : ¬ P1_ B) (hB0 : w0.heap.size≤B) (hs : w.heap[B]? = some (.cells #[.slice A0 l0.length c0,u9000_, .int .i64 a2, .func (.func 74) #[] #[]] 113 (0,0))) (h : alloc_give.f k l0 l1 a2=some (r1,r2,r3)) :
  Calls Try.prog 75 #[.pointer (some ⟨B,0,none⟩)] w fun e w' => e=.returned (.bool r2)∧Kd.R (Kd.int .i64) 3 w' w0.heap.size (fun k_=>(P1_ k_∨w.heap.size≤k_)) u9000_ r3∧Below w0.heap.size w0 w'∧Kept w w' (fun k_=>P1_ k_∨k_=B)∧w'.heap[B]? = some (.cells #[.slice A0 l0.length c0,u9000_, .int .i64 r1, .func (.func 74) #[] #[]] 113 (0,0)):=by
 have HR0:=zm hr0;have HC0:=zm hc0;have HPB:=zm hPB;have HB0:=zm hB0;have HBL:=zm (zD hs);have HS:=zm hs
 have HNE : Aside0 (∀ k_,(P1_ k_∨w.heap.size≤k_)→k_≠B):=⟨fun k_ hk e_=>by
  subst e_
  exact hk.elim hPB (fun h_=>Nat.lt_irrefl _ (zl (zD hs) h_))⟩
 clear hr0 hc0 hPB hB0 hs
 have HO1:=zm (show Kd.R (Kd.int .i64) 3 w w0.heap.size (fun k_=>(P1_ k_∨w.heap.size≤k_)) u9000_ l1 from zG ho1 (fun k_ hk=>(.inl hk)))
 have HK:=zm (Kept.refl w (fun k_=>P1_ k_))
 have HW0:=zm hB.size;have HB:=zm hB;clear hB
 have H : (alloc_give.l0 k l0 l1 a2 (-1) 0)=some (r1,r2,r3):=h
 clear h
 have H' := zm H
 clear H
 go_enter Try.func75,Try.ntmps75
 go_wp2
 go_loopg [3,9] k (fun kq v3 v9 w' => ∃ (x3_1 : Int) (x9_1 : Int),v3=.int .i64 x3_1∧v9=.int .i64 x9_1∧Aside0 (alloc_give.l0 kq l0 l1 a2 x3_1 x9_1=some (r1,r2,r3))∧Aside0 (kq≤k)∧Aside0 (Kd.R (Kd.int .i64) 3 w' w0.heap.size (fun k_=>(P1_ k_∨w.heap.size≤k_)) u9000_ l1)∧Aside0 (Kept w w' (fun k_=>P1_ k_))∧Aside0 (Below w0.heap.size w0 w')∧Aside0 (w'.heap[B]? = some (.cells #[.slice A0 l0.length c0,u9000_, .int .i64 a2, .func (.func 74) #[] #[]] 113 (0,0))))
 case atStart=>exact ⟨((-1)),(0),yq,yq,H',⟨Nat.le_refl _⟩,⟨yr HO1⟩,⟨by repeat (first|(with_reducible first|exact HK.out|apply Kept.alloc|apply Kept.drewN|apply Kept.drew)|exact HK.out)⟩,⟨yhb⟩,⟨(yk HS)⟩⟩
 case round =>
  clear H'
  obtain ⟨x3_1,x9_1,rfl,rfl,HA,HK1,HO_1,HK,HB,HS⟩:=hrel
  obtain ⟨k1,rfl⟩:=ysu gk (fun h=>by subst h;exact absurd HA.out (by simp [alloc_give.l0]))
  have H:=HA.out;clear HA
  simp only [alloc_give.l0] at H
  by_cases c4 : x9_1 < 5
  ·
   rw [if_pos c4] at H
   have c4b0 : decide (x9_1 < 5)=true:=decide_eq_true c4
   clear c4
   replace H:=ybi H;obtain ⟨⟨t180,t181⟩,A5,H⟩:=H
   try dsimp only at H
   by_cases c6 : t181=true
   ·
    subst c6
    rw [if_pos rfl] at H
    by_cases c7 : x3_1 < 0
    ·
     rw [if_pos c7] at H
     have c7b0 : decide (x3_1 < 0)=true:=decide_eq_true c7
     clear c7
     have H' := zm H
     clear H
     obtain ⟨Ao8,co8,eo8⟩:=Kd.R_slice HO_1.out
     subst eo8
     go_wp2_with (first|((with_reducible refine gate_callee (f:=112) rfl ?_);refine ygl 15 Try.func112 #[.pointer (some ⟨B,0,none⟩), .int .i64 x9_1] ?_;(with_reducible refine (alloc_cost.calls k1 B A0 c0 l0 x9_1 Ao8 co8 l1 a2 t180 true _ ?side1 HC0.out ?side3 ?side4 ?side5 A5.out).mono ?_);(case side1=>exact Kd.C_kept_now HR0.out (by repeat (first|(with_reducible first|exact HK.out|apply Kept.alloc|apply Kept.drewN|apply Kept.drew)|exact HK.out)));(case side3=>exact yce (Kd.R_reads' HO_1.out).2.2);(case side4=>exact (Kd.R_reads' HO_1.out).2.1);(case side5=>exact (yk HS));rintro e w9 ⟨rfl,hb⟩;refine ⟨_,rfl, ?_⟩;have n9_:=ybb HS hb;have n0_:=yRb HO_1 hb;have n1_:=zm (Kept.below (S:=(fun k_=>P1_ k_)) (by repeat (first|(with_reducible first|exact HK.out|apply Kept.alloc|apply Kept.drewN|apply Kept.drew)|exact HK.out)) hb);have n2_:=ybs hb;clear HO_1;clear HK;clear HB;clear HS;have HS:=n9_;have HO_1:=n0_;have HK:=n1_;have HB:=n2_;clear n0_ n1_ n2_ n9_;(try clear hb)))
     go_roundg k1
     case measure=>exact yom1 HK1
     case rel=>exact ⟨(x9_1),(wrap64 (x9_1+1)),yq,yq,H',⟨yom1 HK1⟩,⟨yr HO_1⟩,⟨by repeat (first|(with_reducible first|exact HK.out|apply Kept.alloc|apply Kept.drewN|apply Kept.drew)|exact HK.out)⟩,⟨yhb⟩,⟨(yk HS)⟩⟩
    ·
     rw [if_neg c7] at H
     have c7b0 : decide (x3_1 < 0)=false:=decide_eq_false c7
     clear c7
     replace H:=ybi H;obtain ⟨t182,A10,H⟩:=H
     replace H:=ybi H;obtain ⟨t183,A11,H⟩:=H
     by_cases c12 : t182 > t183
     ·
      rw [if_pos c12] at H
      have c12b0 : decide (t183 < t182)=true:=decide_eq_true c12
      clear c12
      have H' := zm H
      clear H
      obtain ⟨Ao13,co13,eo13⟩:=Kd.R_slice HO_1.out
      subst eo13
      go_wp2_with (first|((with_reducible refine gate_callee (f:=112) rfl ?_);refine ygl 15 Try.func112 #[.pointer (some ⟨B,0,none⟩), .int .i64 x9_1] ?_;(with_reducible refine (alloc_cost.calls k1 B A0 c0 l0 x9_1 Ao13 co13 l1 a2 t180 true _ ?side1 HC0.out ?side3 ?side4 ?side5 A5.out).mono ?_);(case side1=>exact Kd.C_kept_now HR0.out (by repeat (first|(with_reducible first|exact HK.out|apply Kept.alloc|apply Kept.drewN|apply Kept.drew)|exact HK.out)));(case side3=>exact yce (Kd.R_reads' HO_1.out).2.2);(case side4=>exact (Kd.R_reads' HO_1.out).2.1);(case side5=>exact (yk HS));rintro e w14 ⟨rfl,hb⟩;refine ⟨_,rfl, ?_⟩;have n9_:=ybb HS hb;have n0_:=yRb HO_1 hb;have n1_:=zm (Kept.below (S:=(fun k_=>P1_ k_)) (by repeat (first|(with_reducible first|exact HK.out|apply Kept.alloc|apply Kept.drewN|apply Kept.drew)|exact HK.out)) hb);have n2_:=ybs hb;clear HO_1;clear HK;clear HB;clear HS;have HS:=n9_;have HO_1:=n0_;have HK:=n1_;have HB:=n2_;clear n0_ n1_ n2_ n9_;(try clear hb))|(go_at_call 113;(with_reducible refine (alloc_worth.calls B A0 c0 l0 x9_1 Ao13 co13 l1 a2 t182 _ ?side1 HC0.out ?side3 ?side4 ?side5 A10.out).mono ?_);(case side1=>exact Kd.C_kept_now HR0.out (by repeat (first|(with_reducible first|exact HK.out|apply Kept.alloc|apply Kept.drewN|apply Kept.drew)|exact HK.out)));(case side3=>exact yce (Kd.R_reads' HO_1.out).2.2);(case side4=>exact (Kd.R_reads' HO_1.out).2.1);(case side5=>exact (yk HS));rintro e w15 ⟨rfl,hb⟩;have n9_:=ybb HS hb;have n0_:=yRb HO_1 hb;have n1_:=zm (Kept.below (S:=(fun k_=>P1_ k_)) (by repeat (first|(with_reducible first|exact HK.out|apply Kept.alloc|apply Kept.drewN|apply Kept.drew)|exact HK.out)) hb);have n2_:=ybs hb;clear HO_1;clear HK;clear HB;clear HS;have HS:=n9_;have HO_1:=n0_;have HK:=n1_;have HB:=n2_;clear n0_ n1_ n2_ n9_;(try clear hb))|(go_at_call 113;(with_reducible refine (alloc_worth.calls B A0 c0 l0 x3_1 Ao13 co13 l1 a2 t183 _ ?side1 HC0.out ?side3 ?side4 ?side5 A11.out).mono ?_);(case side1=>exact Kd.C_kept_now HR0.out (by repeat (first|(with_reducible first|exact HK.out|apply Kept.alloc|apply Kept.drewN|apply Kept.drew)|exact HK.out)));(case side3=>exact yce (Kd.R_reads' HO_1.out).2.2);(case side4=>exact (Kd.R_reads' HO_1.out).2.1);(case side5=>exact (yk HS));rintro e w16 ⟨rfl,hb⟩;have n9_:=ybb HS hb;have n0_:=yRb HO_1 hb;have n1_:=zm (Kept.below (S:=(fun k_=>P1_ k_)) (by repeat (first|(with_reducible first|exact HK.out|apply Kept.alloc|apply Kept.drewN|apply Kept.drew)|exact HK.out)) hb);have n2_:=ybs hb;clear HO_1;clear HK;clear HB;clear HS;have HS:=n9_;have HO_1:=n0_;have HK:=n1_;have HB:=n2_;clear n0_ n1_ n2_ n9_;(try clear hb)))
      go_roundg k1
      case measure=>exact yom1 HK1
      case rel=>exact ⟨(x9_1),(wrap64 (x9_1+1)),yq,yq,H',⟨yom1 HK1⟩,⟨yr HO_1⟩,⟨by repeat (first|(with_reducible first|exact HK.out|apply Kept.alloc|apply Kept.drewN|apply Kept.drew)|exact HK.out)⟩,⟨yhb⟩,⟨(yk HS)⟩⟩
     ·
      rw [if_neg c12] at H
      have c12b0 : decide (t183 < t182)=false:=decide_eq_false c12
      clear c12
      have H' := zm H
      clear H
      obtain ⟨Ao17,co17,eo17⟩:=Kd.R_slice HO_1.out
      subst eo17
      go_wp2_with (first|((with_reducible refine gate_callee (f:=112) rfl ?_);refine ygl 15 Try.func112 #[.pointer (some ⟨B,0,none⟩), .int .i64 x9_1] ?_;(with_reducible refine (alloc_cost.calls k1 B A0 c0 l0 x9_1 Ao17 co17 l1 a2 t180 true _ ?side1 HC0.out ?side3 ?side4 ?side5 A5.out).mono ?_);(case side1=>exact Kd.C_kept_now HR0.out (by repeat (first|(with_reducible first|exact HK.out|apply Kept.alloc|apply Kept.drewN|apply Kept.drew)|exact HK.out)));(case side3=>exact yce (Kd.R_reads' HO_1.out).2.2);(case side4=>exact (Kd.R_reads' HO_1.out).2.1);(case side5=>exact (yk HS));rintro e w18 ⟨rfl,hb⟩;refine ⟨_,rfl, ?_⟩;have n9_:=ybb HS hb;have n0_:=yRb HO_1 hb;have n1_:=zm (Kept.below (S:=(fun k_=>P1_ k_)) (by repeat (first|(with_reducible first|exact HK.out|apply Kept.alloc|apply Kept.drewN|apply Kept.drew)|exact HK.out)) hb);have n2_:=ybs hb;clear HO_1;clear HK;clear HB;clear HS;have HS:=n9_;have HO_1:=n0_;have HK:=n1_;have HB:=n2_;clear n0_ n1_ n2_ n9_;(try clear hb))|(go_at_call 113;(with_reducible refine (alloc_worth.calls B A0 c0 l0 x9_1 Ao17 co17 l1 a2 t182 _ ?side1 HC0.out ?side3 ?side4 ?side5 A10.out).mono ?_);(case side1=>exact Kd.C_kept_now HR0.out (by repeat (first|(with_reducible first|exact HK.out|apply Kept.alloc|apply Kept.drewN|apply Kept.drew)|exact HK.out)));(case side3=>exact yce (Kd.R_reads' HO_1.out).2.2);(case side4=>exact (Kd.R_reads' HO_1.out).2.1);(case side5=>exact (yk HS));rintro e w19 ⟨rfl,hb⟩;have n9_:=ybb HS hb;have n0_:=yRb HO_1 hb;have n1_:=zm (Kept.below (S:=(fun k_=>P1_ k_)) (by repeat (first|(with_reducible first|exact HK.out|apply Kept.alloc|apply Kept.drewN|apply Kept.drew)|exact HK.out)) hb);have n2_:=ybs hb;clear HO_1;clear HK;clear HB;clear HS;have HS:=n9_;have HO_1:=n0_;have HK:=n1_;have HB:=n2_;clear n0_ n1_ n2_ n9_;(try clear hb))|(go_at_call 113;(with_reducible refine (alloc_worth.calls B A0 c0 l0 x3_1 Ao17 co17 l1 a2 t183 _ ?side1 HC0.out ?side3 ?side4 ?side5 A11.out).mono ?_);(case side1=>exact Kd.C_kept_now HR0.out (by repeat (first|(with_reducible first|exact HK.out|apply Kept.alloc|apply Kept.drewN|apply Kept.drew)|exact HK.out)));(case side3=>exact yce (Kd.R_reads' HO_1.out).2.2);(case side4=>exact (Kd.R_reads' HO_1.out).2.1);(case side5=>exact (yk HS));rintro e w20 ⟨rfl,hb⟩;have n9_:=ybb HS hb;have n0_:=yRb HO_1 hb;have n1_:=zm (Kept.below (S:=(fun k_=>P1_ k_)) (by repeat (first|(with_reducible first|exact HK.out|apply Kept.alloc|apply Kept.drewN|apply Kept.drew)|exact HK.out)) hb);have n2_:=ybs hb;clear HO_1;clear HK;clear HB;clear HS;have HS:=n9_;have HO_1:=n0_;have HK:=n1_;have HB:=n2_;clear n0_ n1_ n2_ n9_;(try clear hb)))
      go_roundg k1
      case measure=>exact yom1 HK1
      case rel=>exact ⟨(x3_1),(wrap64 (x9_1+1)),yq,yq,H',⟨yom1 HK1⟩,⟨yr HO_1⟩,⟨by repeat (first|(with_reducible first|exact HK.out|apply Kept.alloc|apply Kept.drewN|apply Kept.drew)|exact HK.out)⟩,⟨yhb⟩,⟨(yk HS)⟩⟩
   ·
    replace c6:=Bool.eq_false_iff.mpr c6
    subst c6
    rw [ynf] at H
    have H' := zm H
    clear H
    obtain ⟨Ao21,co21,eo21⟩:=Kd.R_slice HO_1.out
    subst eo21
    go_wp2_with (first|((with_reducible refine gate_callee (f:=112) rfl ?_);refine ygl 15 Try.func112 #[.pointer (some ⟨B,0,none⟩), .int .i64 x9_1] ?_;(with_reducible refine (alloc_cost.calls k1 B A0 c0 l0 x9_1 Ao21 co21 l1 a2 t180 false _ ?side1 HC0.out ?side3 ?side4 ?side5 A5.out).mono ?_);(case side1=>exact Kd.C_kept_now HR0.out (by repeat (first|(with_reducible first|exact HK.out|apply Kept.alloc|apply Kept.drewN|apply Kept.drew)|exact HK.out)));(case side3=>exact yce (Kd.R_reads' HO_1.out).2.2);(case side4=>exact (Kd.R_reads' HO_1.out).2.1);(case side5=>exact (yk HS));rintro e w22 ⟨rfl,hb⟩;refine ⟨_,rfl, ?_⟩;have n9_:=ybb HS hb;have n0_:=yRb HO_1 hb;have n1_:=zm (Kept.below (S:=(fun k_=>P1_ k_)) (by repeat (first|(with_reducible first|exact HK.out|apply Kept.alloc|apply Kept.drewN|apply Kept.drew)|exact HK.out)) hb);have n2_:=ybs hb;clear HO_1;clear HK;clear HB;clear HS;have HS:=n9_;have HO_1:=n0_;have HK:=n1_;have HB:=n2_;clear n0_ n1_ n2_ n9_;(try clear hb)))
    go_roundg k1
    case measure=>exact yom1 HK1
    case rel=>exact ⟨(x3_1),(wrap64 (x9_1+1)),yq,yq,H',⟨yom1 HK1⟩,⟨yr HO_1⟩,⟨by repeat (first|(with_reducible first|exact HK.out|apply Kept.alloc|apply Kept.drewN|apply Kept.drew)|exact HK.out)⟩,⟨yhb⟩,⟨(yk HS)⟩⟩
  ·
   rw [if_neg c4] at H
   have c4b0 : decide (x9_1 < 5)=false:=decide_eq_false c4
   clear c4
   by_cases c23 : x3_1 < 0
   ·
    rw [if_pos c23] at H
    have c23b0 : decide (x3_1 < 0)=true:=decide_eq_true c23
    clear c23
    simp only [Option.some.injEq,Prod.mk.injEq] at H
    obtain ⟨rfl,rfl,rfl⟩:=H
    go_wp2
    go_ret
    exact ⟨ye,yr HO_1,yhb,Kept.mono (S:=(fun k_=>P1_ k_)) (by repeat (first|(with_reducible first|exact HK.out|apply Kept.alloc|apply Kept.drewN|apply Kept.drew)|exact HK.out)) (fun _ h_ => .inl h_),(yk HS)⟩
   ·
    rw [if_neg c23] at H
    have c23b0 : decide (x3_1 < 0)=false:=decide_eq_false c23
    clear c23
    replace H:=ybi H;obtain ⟨⟨t176,t177⟩,A24,H⟩:=H
    try dsimp only at H
    replace H:=yif H;obtain ⟨c25,H⟩:=H
    have c25b0 : decide (0≤x3_1)=true:=decide_eq_true c25
    clear c25
    replace H:=yif H;obtain ⟨c26,H⟩:=H
    have c26b0 : decide (x3_1 < (l1.length : Int))=true:=decide_eq_true c26
    clear c26
    obtain ⟨y179,hy179⟩ : ∃ y_ : List Int,y_=(l1.set (x3_1 : Int).toNat (wrap64 ((rd l1 x3_1)+1))):=⟨_,rfl⟩
    replace H : (some (wrap64 (a2 - t176),true,y179))=some (r1,r2,r3):=yrw hy179 H
    have Ny179:=zm hy179;clear hy179
    simp only [Option.some.injEq,Prod.mk.injEq] at H
    obtain ⟨rfl,rfl,rfl⟩:=H
    obtain ⟨Ao28,co28,eo28⟩:=Kd.R_slice HO_1.out
    subst eo28
    go_wp2_with (first|((with_reducible refine gate_callee (f:=112) rfl ?_);refine ygl 39 Try.func112 #[.pointer (some ⟨B,0,none⟩), .int .i64 x3_1] ?_;(with_reducible refine (alloc_cost.calls k1 B A0 c0 l0 x3_1 Ao28 co28 l1 a2 t176 t177 _ ?side1 HC0.out ?side3 ?side4 ?side5 A24.out).mono ?_);(case side1=>exact Kd.C_kept_now HR0.out (by repeat (first|(with_reducible first|exact HK.out|apply Kept.alloc|apply Kept.drewN|apply Kept.drew)|exact HK.out)));(case side3=>exact yce (Kd.R_reads' HO_1.out).2.2);(case side4=>exact (Kd.R_reads' HO_1.out).2.1);(case side5=>exact (yk HS));rintro e w29 ⟨rfl,hb⟩;refine ⟨_,rfl, ?_⟩;have n9_:=ybb HS hb;have n0_:=yRb HO_1 hb;have n1_:=zm (Kept.below (S:=(fun k_=>P1_ k_)) (by repeat (first|(with_reducible first|exact HK.out|apply Kept.alloc|apply Kept.drewN|apply Kept.drew)|exact HK.out)) hb);have n2_:=ybs hb;clear HO_1;clear HK;clear HB;clear HS;have HS:=n9_;have HO_1:=n0_;have HK:=n1_;have HB:=n2_;clear n0_ n1_ n2_ n9_;(try clear hb);have hs2 : w29.cell? ⟨B,2,none⟩=some (.int .i64 a2):=(zs HS.out 2).trans rfl;have hsf : w29.frozen? ⟨B,2,none⟩=false:=zx HS.out 2)|((with_reducible refine gate_store (t:=3) (p:=49) rfl ?_);refine store_event (t:=3) (p:=49) (v := ?vo_w12) (w1:=(w29.setCell ⟨B,2,none⟩ (.int .i64 (wrap64 (a2 - t176))))) ?hg ?ho ?hn ?hr ?_;(case ho=>rfl);(case hg=>rfl);(case hn=>rfl);(case hr=>first|(go_simp;done)|(go_simp;rfl));intro w12 hw;have hS12 : w12.heap[B]? = some (.cells #[.slice A0 l0.length c0, .slice Ao28 l1.length co28, .int .i64 (wrap64 (a2 - t176)), .func (.func 74) #[] #[]] 113 (0,0)):=(by rw [hw];exact blk_set HS.out 2 _);have n0_ : Aside0 (Kd.R (Kd.int .i64) 3 w12 w0.heap.size (fun k_=>(P1_ k_∨w.heap.size≤k_)) (.slice Ao28 l1.length co28) l1):=⟨by rw [hw];exact zH HO_1.out HNE.out _⟩;have n1_ : Aside0 (Below w0.heap.size w0 w12):=⟨by rw [hw];exact Below.setCell HB.out HB0.out _⟩;have n2_ : Aside0 (Kept w w12 (fun k_=>P1_ k_∨k_=B)):=⟨by rw [hw];exact Kept.setCell (Kept.mono HK.out (fun _ h_ => .inl h_)) (.inl (.inr rfl)) _⟩;clear HO_1;clear HK;clear HB;clear HS;clear hs2;clear hsf;have HO_1:=n0_;have HB:=n1_;have HK:=n2_;have HS:=zm hS12;have hs1 : w12.cell? ⟨B,1,none⟩=some (.slice Ao28 l1.length co28):=(zs hS12 1).trans rfl;clear hS12 hw n0_ n1_ n2_;have p178 : 0≤(x3_1 : Int):=yt;have q178 : x3_1 < (l1.length : Int):=yt;obtain ⟨ad178,e178,hx178_0⟩:=Kd.at_int (Kd.R_reads' HO_1.out).2.2 x3_1 p178 q178;cases e178;replace p178:=eq_true p178;replace q178:=eq_true q178;have p27 : 0≤(x3_1 : Int):=yt;have q27 : (x3_1 : Int) < ((l1.length : Int) : Int):=yt;obtain ⟨go27,co27,eo27,gb27,gl27,cl27,HG27⟩:=Kd.R_form HO_1.out (by omega);(first|cases eo27|(injection eo27 with ea_ en_ ec_;(first|subst ea_|(injection ea_ with ea_;subst ea_));subst ec_;clear en_));have GB27:=zm gb27;have GG27:=zm HG27;clear gb27 gl27 HG27;have HMgo27:=zm (show (P1_ go27∨w.heap.size≤go27) from (HO_1.out.1 _ rfl));(first|simp only [add_plain] at hx178_0|skip);obtain ⟨hx27_0,hf27_0⟩:=Kd.R_celln 0 HO_1.out (x3_1 : Int) p27 q27;replace p27:=eq_true p27;replace q27:=eq_true q27;obtain ⟨hy30_,hz30_⟩:=Kd.R_celln 0 HO_1.out (x3_1 : Int) (yt) (yt);have HP30:=Kd.R_putg HO_1.out (x3_1 : Int) (wrap64 ((rd l1 x3_1)+1)))|((with_reducible refine gate_store (t:=3) (p:=58) rfl ?_);refine store_event (t:=3) (p:=58) (v := ?vo_w31) (w1:=(w12.setCell ⟨go27,(x3_1 : Int).toNat,none⟩ (.int .i64 (wrap64 ((rd l1 x3_1)+1))))) ?hg ?ho ?hn ?hr ?_;(case ho=>rfl);(case hg=>rfl);(case hn=>rfl);(case hr=>first|(go_simp;done)|(go_simp;rfl));intro w31 hw;have hg : w12.grownBy w31 (some go27):=(by rw [hw];exact HP30.2);have hp_ : Kd.R (Kd.int .i64) 3 w31 w0.heap.size (fun k_=>(P1_ k_∨w.heap.size≤k_)) (.slice (some ⟨go27,0,none⟩) l1.length co28) y179:=(by rw [hw,Ny179.out];exact HP30.1);clear HP30;have n0_:=zm (hp_);have n1_:=zm ((by rw [hw];exact zk (HB.out) GB27.out : Below w0.heap.size w0 w31));have n2_:=zm (Kept.of_grown (S:=(fun k_=>P1_ k_∨k_=B)) hg (by repeat (first|(with_reducible first|exact HK.out|apply Kept.alloc|apply Kept.drewN|apply Kept.drew)|exact HK.out)) (fun k_ e_=>(HO_1.out.1 k_ e_).imp .inl id));have n8_ : Aside0 (w31.heap[B]? = some (.cells #[.slice A0 l0.length c0, .slice (some ⟨go27,0,none⟩) l1.length co28, .int .i64 (wrap64 (a2 - t176)), .func (.func 74) #[] #[]] 113 (0,0))):=⟨by rw [hw];exact zv HS.out (fun e_=>HNE.out _ (HO_1.out.1 go27 rfl) e_.symm) _⟩;clear HS;have HS:=n8_;clear n8_;clear HO_1;clear HB;clear HK;have HO_1:=n0_;have HB:=n1_;have HK:=n2_;clear n0_ n1_ n2_;clear hg hw hp_))
    go_ret
    exact ⟨ye,yr HO_1,yhb,by repeat (first|(with_reducible first|exact HK.out|apply Kept.alloc|apply Kept.drewN|apply Kept.drew)|exact HK.out),(yk HS)⟩
def gain_Right.l0 : Nat→List Int→List Int→Int→Int→Option (Bool)
 | 0,_,_,_,_=>none
 | k+1,x0,x5,x6,x7=>if x7 < x6 then (if 0≤x7 then (if x7 < (x5.length : Int) then (if (rd x5 x7) < 0 then (some false) else (if (rd x5 x7) > 44 then (some false) else (gain_Right.l0 k x0 x5 x6 (wrap64 (x7+1))))) else (none)) else (none)) else (some ((x0.length : Int) == 5))
def gain_Right.f (k : Nat) (l0 : List Int) : Option (Bool):=gain_Right.l0 k l0 l0 (l0.length : Int) 0
theorem gain_Right.mono_l : ∀ k,(∀ y0 y1 y2 y3,LeO (gain_Right.l0 k y0 y1 y2 y3) (gain_Right.l0 (k+1) y0 y1 y2 y3))
 | 0=>fun _ _ _ _ r h=>by simp [gain_Right.l0] at h
 | k+1=>by
  have ih0:=gain_Right.mono_l k
  ·
   intro y0 y1 y2 y3
   unfold gain_Right.l0
   repeat' with_reducible first|apply ih0|apply yLr|apply yLn|apply yLi|apply yLb|intro _
theorem gain_Right.mono : ∀ a0 k,LeO (gain_Right.f k a0) (gain_Right.f (k+1) a0):=by
 intro a0 k
 have ih0:=gain_Right.mono_l k
 unfold gain_Right.f
 repeat' with_reducible first|apply ih0|apply yLr|apply yLn|apply yLi|apply yLb|intro _
set_option maxHeartbeats 8000000 in
set_option maxRecDepth 100000 in
theorem gain_Right.calls (k : Nat) (A0 : Option Addr) (c0 : Nat) (l0 : List Int) (r : Bool) (w : World) (hr0 : Kd.C (Kd.int .i64) w A0 l0.length l0) (hc0 : l0.length≤c0) (h : gain_Right.f k l0=some r) :
  Calls Try.prog 72 #[.slice A0 l0.length c0] w fun e w' => e=.returned (.bool r)∧Drawn0 w w' := by
 have HR0:=zm hr0;have HC0:=zm hc0;clear hr0 hc0
 have H : (gain_Right.l0 k l0 l0 (l0.length : Int) 0)=some r:=h
 clear h
 have H' := zm H
 clear H
 go_enter Try.func72,Try.ntmps72
 go_wp2
 go_loopg [7] k (fun kq v7 w' => ∃ (x7_1 : Int),v7=.int .i64 x7_1∧Aside0 (gain_Right.l0 kq l0 l0 (l0.length : Int) x7_1=some r)∧Aside0 (kq≤k)∧Drawn0 w w')
 case atStart=>exact ⟨(0),yq,H',⟨Nat.le_refl _⟩,yd⟩
 case round =>
  clear H'
  obtain ⟨x7_1,rfl,HA,HK1,⟨m1,rfl⟩⟩:=hrel
  obtain ⟨k1,rfl⟩:=ysu gk (fun h=>by subst h;exact absurd HA.out (by simp [gain_Right.l0]))
  have H:=HA.out;clear HA
  simp only [gain_Right.l0] at H
  by_cases c2 : x7_1 < (l0.length : Int)
  ·
   rw [if_pos c2] at H
   have c2b0 : decide (x7_1 < (l0.length : Int))=true:=decide_eq_true c2
   clear c2
   replace H:=yif H;obtain ⟨c3,H⟩:=H
   have c3b0 : decide (0≤x7_1)=true:=decide_eq_true c3
   clear c3
   replace H:=yif H;obtain ⟨c4,H⟩:=H
   have c4b0 : decide (x7_1 < (l0.length : Int))=true:=decide_eq_true c4
   clear c4
   by_cases c5 : (rd l0 x7_1) < 0
   ·
    rw [if_pos c5] at H
    have c5b0 : decide ((rd l0 x7_1) < 0)=true:=decide_eq_true c5
    clear c5
    obtain rfl:=Option.some.inj H
    obtain ⟨ad149,e149,hx149_0,p149,q149⟩:=yai HR0 x7_1
    cases e149
    go_wp2
    go_ret
    exact ⟨yq,yd⟩
   ·
    rw [if_neg c5] at H
    have c5b0 : decide ((rd l0 x7_1) < 0)=false:=decide_eq_false c5
    clear c5
    by_cases c6 : (rd l0 x7_1) > 44
    ·
     rw [if_pos c6] at H
     have c6b0 : decide (44 < (rd l0 x7_1))=true:=decide_eq_true c6
     clear c6
     obtain rfl:=Option.some.inj H
     obtain ⟨ad149,e149,hx149_0,p149,q149⟩:=yai HR0 x7_1
     cases e149
     go_wp2
     go_ret
     exact ⟨yq,yd⟩
    ·
     rw [if_neg c6] at H
     have c6b0 : decide (44 < (rd l0 x7_1))=false:=decide_eq_false c6
     clear c6
     have H' := zm H
     clear H
     obtain ⟨ad149,e149,hx149_0,p149,q149⟩:=yai HR0 x7_1
     cases e149
     go_wp2
     go_roundg k1
     case measure=>exact yom1 HK1
     case rel=>exact ⟨(wrap64 (x7_1+1)),yq,H',⟨yom1 HK1⟩,yd⟩
  ·
   rw [if_neg c2] at H
   have c2b0 : decide (x7_1 < (l0.length : Int))=false:=decide_eq_false c2
   clear c2
   obtain rfl:=Option.some.inj H
   go_wp2
   go_ret
   exact ⟨yq,yd⟩
mutual
def alloc_Pulses.j0 : Nat→Int→Int→List (List Int)→Bool→Option ((List (List Int)) × Int)
 | 0,_,_,_,_=>none
 | k+1,x0,x1,x2,x21=>if x21=true then (some (([] : List (List Int)),1)) else (alloc_Pulses.l0 k x0 x1 ([] : List (List Int)) x2 (x2.length : Int) 0)
def alloc_Pulses.l0 : Nat→Int→Int→List (List Int)→List (List Int)→Int→Int→Option ((List (List Int)) × Int)
 | 0,_,_,_,_,_,_=>none
 | k+1,x0,x1,x8,x22,x23,x24=>if x24 < x23 then (if 0≤x24 then (if x24 < (x22.length : Int) then ((gain_Right.f k (rd_L2 x22 x24)).bind fun t186=>(if t186=true then ((alloc_Room.f x0 x1).bind fun t190=>(alloc_Pulses.l1 k x0 x1 x8 (rd_L2 x22 x24) (List.replicate 5 0) x22 x23 x24 t190)) else (some (([] : List (List Int)),1)))) else (none)) else (none)) else (some (x8,0))
def alloc_Pulses.l1 : Nat→Int→Int→List (List Int)→List Int→List Int→List (List Int)→Int→Int→Int→Option ((List (List Int)) × Int)
 | 0,_,_,_,_,_,_,_,_,_=>none
 | k+1,x0,x1,x8,x10,x11,x22,x23,x24,x49=>(alloc_give.f k x10 x11 x49).bind fun bt191=>(if bt191.2.1=true then (alloc_Pulses.l1 k x0 x1 x8 x10 bt191.2.2 x22 x23 x24 bt191.1) else (if x8.length < 5864062014805 then (alloc_Pulses.l0 k x0 x1 (x8 ++ [bt191.2.2]) x22 x23 (wrap64 (x24+1))) else (none)))
end
def alloc_Pulses.f (k : Nat) (a0 : Int) (a1 : Int) (l2 : List (List Int)) : Option ((List (List Int)) × Int):=(alloc_Right.f a0 a1).bind fun t184=>(if t184=true then (alloc_Pulses.j0 k a0 a1 l2 ((l2.length : Int) != a1)) else (alloc_Pulses.j0 k a0 a1 l2 true))
theorem alloc_Pulses.mono_l : ∀ k,(∀ y0 y1 y2 y3,LeO (alloc_Pulses.j0 k y0 y1 y2 y3) (alloc_Pulses.j0 (k+1) y0 y1 y2 y3))∧(∀ y0 y1 y2 y3 y4 y5,LeO (alloc_Pulses.l0 k y0 y1 y2 y3 y4 y5) (alloc_Pulses.l0 (k+1) y0 y1 y2 y3 y4 y5))∧(∀ y0 y1 y2 y3 y4 y5 y6 y7 y8,LeO (alloc_Pulses.l1 k y0 y1 y2 y3 y4 y5 y6 y7 y8) (alloc_Pulses.l1 (k+1) y0 y1 y2 y3 y4 y5 y6 y7 y8))
 | 0=>⟨fun _ _ _ _ r h=>by simp [alloc_Pulses.j0] at h,fun _ _ _ _ _ _ r h=>by simp [alloc_Pulses.l0] at h,fun _ _ _ _ _ _ _ _ _ r h=>by simp [alloc_Pulses.l1] at h⟩
 | k+1=>by
  obtain ⟨ih0,ih1,ih2⟩:=alloc_Pulses.mono_l k
  refine ⟨?_, ?_, ?_⟩
  ·
   intro y0 y1 y2 y3
   unfold alloc_Pulses.j0
   repeat' with_reducible first|apply ih0|apply ih1|apply ih2|apply alloc_give.mono|apply gain_Right.mono|apply yLr|apply yLn|apply yLi|apply yLb|intro _
  ·
   intro y0 y1 y2 y3 y4 y5
   unfold alloc_Pulses.l0
   repeat' with_reducible first|apply ih0|apply ih1|apply ih2|apply alloc_give.mono|apply gain_Right.mono|apply yLr|apply yLn|apply yLi|apply yLb|intro _
  ·
   intro y0 y1 y2 y3 y4 y5 y6 y7 y8
   unfold alloc_Pulses.l1
   repeat' with_reducible first|apply ih0|apply ih1|apply ih2|apply alloc_give.mono|apply gain_Right.mono|apply yLr|apply yLn|apply yLi|apply yLb|intro _
theorem alloc_Pulses.mono : ∀ a0 a1 a2 k,LeO (alloc_Pulses.f k a0 a1 a2) (alloc_Pulses.f (k+1) a0 a1 a2):=by
 intro a0 a1 a2 k
 obtain ⟨ih0,ih1,ih2⟩:=alloc_Pulses.mono_l k
 unfold alloc_Pulses.f
 repeat' with_reducible first|apply ih0|apply ih1|apply ih2|apply alloc_give.mono|apply gain_Right.mono|apply yLr|apply yLn|apply yLi|apply yLb|intro _
def alloc_Pulses.T9 : Bool × List (List Nat × List Nat):=(true, [([], []),([], []),([], []),([], []),([2,3], [2,3]),([0,1,4], [0,1,4]),([5], [5]),([6,4,0,1,2,3,4,5,6], [6])])
def alloc_Pulses.B9 : List Nat := [0,0,0,0,12,31,63,127]
theorem alloc_Pulses.tab9 : rtab .any (opsOf Try.f37 9)=alloc_Pulses.T9:=by kernel_rfl
theorem alloc_Pulses.bits9 : waitsOk alloc_Pulses.T9.2 alloc_Pulses.B9=true:=by kernel_rfl
set_option maxHeartbeats 8000000 in
set_option maxRecDepth 100000 in
theorem alloc_Pulses.calls (k : Nat) (a0 : Int) (a1 : Int) (A2 : Option Addr) (c2 : Nat) (l2 : List (List Int)) (r1 : List (List Int)) (r2 : Int) (w : World) (hr2 : Kd.C (Kd.slice 3 (Kd.int .i64)) w A2 l2.length l2) (hc2 : l2.length≤c2) (h : alloc_Pulses.f k a0 a1 l2=some (r1,r2)) :
  Calls Try.prog 37 #[.int .i64 a0, .int .i64 a1, .slice A2 l2.length c2] w fun e w' => ∃ v0_ : Value,e=.returned (.tuple #[v0_, .int .i64 r2])∧Kd.S (Kd.slice 3 (Kd.int .i64)) 55 w' w.heap.size (fun _=>True) v0_ r1∧Below w.heap.size w w' := by
 have HR2:=zm hr2;have HC2:=zm hc2;clear hr2 hc2;have HB:=zm (Below.refl w.heap.size w)
 have H : ((alloc_Right.f a0 a1).bind fun t184=>(if t184=true then (alloc_Pulses.j0 k a0 a1 l2 ((l2.length : Int) != a1)) else (alloc_Pulses.j0 k a0 a1 l2 true)))=some (r1,r2):=h
 clear h;have HC4:=zm H;clear H
 go_enter Try.func37,Try.ntmps37
 go_upto_region 1 with (fail)
 go_cut [21] (fun v21 wc => ∃ (kq : Nat) (x21_3 : Bool),v21=.bool x21_3∧Aside0 (alloc_Pulses.j0 kq a0 a1 l2 x21_3=some (r1,r2))∧Aside0 (kq≤k)∧Aside0 (Below w.heap.size w wc))
 case first =>
  have H:=HC4.out;clear HC4
  replace H:=ybi H;obtain ⟨t184,A5,H⟩:=H
  by_cases c6 : t184=true
  ·
   subst c6
   rw [if_pos rfl] at H
   have H' := zm H
   clear H
   go_wp2_with (first|((with_reducible refine gate_callee (f:=52) rfl ?_);refine ygl 14 Try.func52 #[.int .i64 a0, .int .i64 a1] ?_;(with_reducible refine (alloc_Right.calls a0 a1 true _ A5.out).mono ?_);rintro e w' ⟨rfl,⟨nd,rfl⟩⟩;refine ⟨_,rfl, ?_⟩))
   go_meet
   case rel=>exact ⟨_,(((l2.length : Int) != a1)),yq,H',⟨yo⟩,⟨yhb⟩⟩
  ·
   replace c6:=Bool.eq_false_iff.mpr c6
   subst c6
   rw [ynf] at H
   have H' := zm H
   clear H
   go_wp2_with (first|((with_reducible refine gate_callee (f:=52) rfl ?_);refine ygl 14 Try.func52 #[.int .i64 a0, .int .i64 a1] ?_;(with_reducible refine (alloc_Right.calls a0 a1 false _ A5.out).mono ?_);rintro e w' ⟨rfl,⟨nd,rfl⟩⟩;refine ⟨_,rfl, ?_⟩))
   go_meet
   case rel=>exact ⟨_,(true),yq,H',⟨yo⟩,⟨yhb⟩⟩
 case rest =>
  clear HC4
  try clear c2
  obtain ⟨kq,x21_3,rfl,HA,HJ3,HB⟩:=hcut
  obtain ⟨kj3,rfl⟩:=ysu kq (fun h=>by subst h;exact absurd HA.out (by simp [alloc_Pulses.j0]))
  have H:=HA.out;clear HA
  simp only [alloc_Pulses.j0] at H
  by_cases c7 : x21_3=true
  ·
   subst c7
   rw [if_pos rfl] at H
   simp only [Option.some.injEq,Prod.mk.injEq] at H
   obtain ⟨rfl,rfl⟩:=H
   go_wp2
   go_ret2
   exact ⟨_,ye,yn,yhb⟩
  ·
   replace c7:=Bool.eq_false_iff.mpr c7
   subst c7
   rw [ynf] at H
   have H' := zm H
   clear H
   go_wp2
   go_loopg [8,24] kj3 (fun kq v8 v24 w' => ∃ (x8_2 : List (List Int)) (x24_2 : Int),v24=.int .i64 x24_2∧Aside0 (alloc_Pulses.l0 kq a0 a1 x8_2 l2 (l2.length : Int) x24_2=some (r1,r2))∧Aside0 (kq≤kj3)∧Aside0 (Kd.S (Kd.slice 3 (Kd.int .i64)) 55 w' w.heap.size (fun _=>True) v8 x8_2)∧Aside0 (Below w.heap.size w w'))
   case atStart=>exact ⟨(([] : List (List Int))),(0),yq,H',⟨Nat.le_refl _⟩,⟨yn⟩,⟨yhb⟩⟩
   case round =>
    clear H'
    obtain ⟨x8_2,x24_2,rfl,HA,HK2,HO_8,HB⟩:=hrel
    obtain ⟨k2,rfl⟩:=ysu gk (fun h=>by subst h;exact absurd HA.out (by simp [alloc_Pulses.l0]))
    have H:=HA.out;clear HA
    simp only [alloc_Pulses.l0] at H
    by_cases c8 : x24_2 < (l2.length : Int)
    ·
     rw [if_pos c8] at H
     have c8b0 : decide (x24_2 < (l2.length : Int))=true:=decide_eq_true c8
     clear c8
     replace H:=yif H;obtain ⟨c9,H⟩:=H
     have c9b0 : decide (0≤x24_2)=true:=decide_eq_true c9
     clear c9
     replace H:=yif H;obtain ⟨c10,H⟩:=H
     have c10b0 : decide (x24_2 < (l2.length : Int))=true:=decide_eq_true c10
     clear c10
     replace H:=ybi H;obtain ⟨t186,A11,H⟩:=H
     by_cases c12 : t186=true
     ·
      subst c12
      rw [if_pos rfl] at H
      obtain ⟨y187,hy187⟩ : ∃ y_ : List Int,y_=(List.replicate 5 0):=⟨_,rfl⟩
      replace H : ((alloc_Room.f a0 a1).bind fun t190=>(alloc_Pulses.l1 k2 a0 a1 x8_2 (rd_L2 l2 x24_2) y187 l2 (l2.length : Int) x24_2 t190))=some (r1,r2):=yrw hy187 H
      have Ny187:=zm hy187;clear hy187
      replace H:=ybi H;obtain ⟨t190,A13,H⟩:=H
      have H' := zm H
      clear H
      have p185 : 0≤(x24_2 : Int):=yt
      have q185 : x24_2 < (l2.length : Int):=yt
      obtain ⟨ad185,A185_0,c185_0,e185,hx185_0,hl185_0,hi185_0⟩:=at_L2 HR2.out x24_2 p185 q185
      cases e185
      replace hx185_0:=yhx HB hx185_0
      have HR185_0:=zm hi185_0;have HC185_0:=zm hl185_0;clear hi185_0 hl185_0
      replace p185:=eq_true p185
      replace q185:=eq_true q185
      try go_wp2_with (first|((with_reducible refine gate_callee (f:=72) rfl ?_);refine ygl 29 Try.func72 #[.slice A185_0 (rd_L2 l2 x24_2).length c185_0] ?_;(with_reducible refine (gain_Right.calls k2 _ _ (rd_L2 l2 x24_2) true _ ?side1 HC185_0.out A11.out).mono ?_);(case side1=>exact ycb HR185_0);rintro e w' ⟨rfl,⟨nd,rfl⟩⟩;refine ⟨_,rfl, ?_⟩))
      (try (rw [drewN_self wr];generalize hq_ : World.drewN wr _=wr;have n0_ : Aside0 (Kd.S (Kd.slice 3 (Kd.int .i64)) 55 wr w.heap.size (fun _=>True) u8 x8_2):=⟨by rw [← hq_];exact (yr HO_8)⟩;have n1_ : Aside0 (Below w.heap.size w wr):=⟨by rw [← hq_];exact yhb⟩;clear HO_8 HB hq_;have HO_8:=n0_;have HB:=n1_;clear n0_ n1_))
      replace HO_8:=zm (Kd.S_drew HO_8.out)
      replace HB:=zm (zf HB.out)
      refine yst (fun w' => True) [] 8 alloc_Pulses.tab9 alloc_Pulses.bits9 (fun hHeld HT_ HW_ => ?_) (hS:=trivial)
      generalize wr.drew=w14 at HO_8 HB hHeld ⊢
      refine yp 0 31 HT_ ?_
      refine yp 2 33 HT_ ?_
      refine yp 3 34 HT_ ?_
      refine join_ (σ:=Value) 3 #[true,true,true,true,true,false,false,false] (fun s_ => [(32,s_),(35, .int .i64 t190)]) (fun s_ w' => (Kd.R (Kd.int .i64) 3 w' w.heap.size (fun _=>True) s_ y187)∧(Kd.S (Kd.slice 3 (Kd.int .i64)) 55 w' w.heap.size (fun k_=>some k_≠(s_ : Value).ownBlock) u8 x8_2)∧(Below w.heap.size w w')) ?_ ?_
      rotate_left
      ·
       intro hCont
       refine two_ (i:=1) (j:=4) (Ni:=some 32) (Nj:=some 35) #[true,true,true,true,false,false,false,false] #[true,false,true,true,true,false,false,false] rfl rfl rfl rfl (two_of HT_.out (by kernel_rfl)) (by decide) (by decide) (fun K hK => ?_) (fun K hK => ?_)
       ·
        skip
        refine Kd.R_make_step (Kd.int .i64) _ 3 (by rfl) (N:=32) rfl 55 _ _ rfl 5 rfl rfl Try.underlying55 (.int .i64 0) 8 info3 rfl (by decide) (by omega) 0 (ok:=fun _=>True) (okp:=fun _=>True) rfl (fun _ hk=>hk) trivial (by omega) (by omega) (Below.refl _ _) (Nat.le_refl _) ?_
        intro v188 w15 ho16 hb hg_ hnew_
        clear hg_ hnew_
        (first|rw [← Ny187.out] at ho16|(simp only [Int.reduceToNat] at ho16;rw [← Ny187.out] at ho16))
        replace HO_8:=zm (Kd.S_elder' (yr HO_8) (Kd.R_base ho16) hb)
        have HO189:=zm (Kd.R_lower ho16 (zE yhb))
        replace HB:=ybs hb
        clear hb ho16
        refine hK.out _ _ trivial (fun hHeld => ?_)
        clear hK K
        refine ym (some 32) ?_
        refine yw 4 35 HT_ (fun K hK => ?_)
        refine ygs Try.func73 #[.int .i64 a0, .int .i64 a1] ?_
        with_reducible refine (alloc_Room.calls a0 a1 t190 _ A13.out).mono ?_
        rintro e w' ⟨rfl,⟨nd,rfl⟩⟩
        refine ⟨_,rfl, ?_⟩
        refine hK.out _ _ trivial (fun hHeld => ?_)
        clear hK K
        refine ym (some 35) ?_
        exact norm_ (by simp only [putAll,Act.put,List.setIfInBounds_toArray,List.set_cons_zero,List.set_cons_succ]) (hCont (v188) _ ⟨(yr HO189),(yS0 HO_8),yhb⟩)
       ·
        skip
        refine ygs Try.func73 #[.int .i64 a0, .int .i64 a1] ?_
        with_reducible refine (alloc_Room.calls a0 a1 t190 _ A13.out).mono ?_
        rintro e w' ⟨rfl,⟨nd,rfl⟩⟩
        refine ⟨_,rfl, ?_⟩
        refine hK.out _ _ trivial (fun hHeld => ?_)
        clear hK K
        refine ym (some 35) ?_
        refine yw 1 32 HT_ (fun K hK => ?_)
        refine Kd.R_make_step (Kd.int .i64) _ 3 (by rfl) (N:=32) rfl 55 _ _ rfl 5 rfl rfl Try.underlying55 (.int .i64 0) 8 info3 rfl (by decide) (by omega) 0 (ok:=fun _=>True) (okp:=fun _=>True) rfl (fun _ hk=>hk) trivial (by omega) (by omega) (Below.refl _ _) (Nat.le_refl _) ?_
        intro v188 w15 ho16 hb hg_ hnew_
        clear hg_ hnew_
        (first|rw [← Ny187.out] at ho16|(simp only [Int.reduceToNat] at ho16;rw [← Ny187.out] at ho16))
        replace HO_8:=zm (Kd.S_elder' (yr HO_8) (Kd.R_base ho16) hb)
        have HO189:=zm (Kd.R_lower ho16 (zE yhb))
        replace HB:=ybs hb
        clear hb ho16
        refine hK.out _ _ trivial (fun hHeld => ?_)
        clear hK K
        refine ym (some 32) ?_
        exact norm_ (by simp only [putAll,Act.put,List.setIfInBounds_toArray,List.set_cons_zero,List.set_cons_succ]) (hCont (v188) _ ⟨(yr HO189),(yS0 HO_8),yhb⟩)
      rintro v188 w17 ⟨h0_,h1_,h2_⟩
      have n0_ : Aside0 (Kd.R (Kd.int .i64) 3 w17 w.heap.size (fun _=>True) v188 y187):=⟨h0_⟩
      have n1_ : Aside0 (Kd.S (Kd.slice 3 (Kd.int .i64)) 55 w17 w.heap.size (fun k_=>some k_≠(v188 : Value).ownBlock) u8 x8_2):=⟨h1_⟩
      have n2_ : Aside0 (Below w.heap.size w w17):=⟨h2_⟩
      clear HO_8;clear HB;clear h0_ h1_ h2_;have HO189:=n0_;have HO_8:=n1_;have HB:=n2_;clear n0_ n1_ n2_;have hHeld:=trivial
      refine norm_ (a' := ?_) ?_ ?_
      rotate_left
      ·
       simp only [putAll,Act.put,List.setIfInBounds_toArray,List.set_cons_zero,List.set_cons_succ]
       rfl
      obtain ⟨Av9,cv9,ev9⟩:=Kd.R_slice HO189.out
      refine pure_ (i:=5) (N:=some 36) (v:=.agg #[.slice A185_0 (rd_L2 l2 x24_2).length c185_0,v188, .int .i64 t190, .func (.func 74) #[] #[]]) (a' := ?_) #[true,true,true,true,true,true,false,false] rfl rfl (any_of HT_.out (by kernel_rfl)) (fun _ _ _ h=>h) (Or.inl ⟨by rfl, ?_⟩) ?_ ?_

      ·
       intro w'
       rw [ev9]
       first|(go_simp;done)|(go_simp;with_reducible rfl)|(go_simp;rfl)

      rotate_left
      ·
       simp only [Act.put,List.setIfInBounds_toArray,List.set_cons_zero,List.set_cons_succ,i64_w,i32_w]
       rfl
      refine yw 6 37 HT_ (fun K hK => ?_)
      refine event_step (v:=.pointer (some ⟨w17.heap.size,0,none⟩)) (w1:=w17.alloc (.cells #[.slice A185_0 (rd_L2 l2 x24_2).length c185_0,v188, .int .i64 t190, .func (.func 74) #[] #[]] 113 (0,0))) (by rfl) ?hrun ?_
      (case hrun=>(rw [ev9];first|(go_simp;done)|(go_simp;rfl)))
      clear ev9
      have n0_ : Aside0 (Kd.R (Kd.int .i64) 3 (w17.alloc (.cells #[.slice A185_0 (rd_L2 l2 x24_2).length c185_0,v188, .int .i64 t190, .func (.func 74) #[] #[]] 113 (0,0))) w.heap.size (fun _=>True) v188 y187):=⟨zo HO189.out _⟩
      have n1_ : Aside0 (Kd.S (Kd.slice 3 (Kd.int .i64)) 55 (w17.alloc (.cells #[.slice A185_0 (rd_L2 l2 x24_2).length c185_0,v188, .int .i64 t190, .func (.func 74) #[] #[]] 113 (0,0))) w.heap.size (fun k_=>some k_≠(v188 : Value).ownBlock∧k_≠w17.heap.size) u8 x8_2):=⟨Kd.S_alloc (Kd.S_mono (Kd.S_bound HO_8.out) (fun k_ hk=>⟨hk.1,fun e_=>by have:=hk.2.2.1;omega⟩)) _⟩
      have n2_ : Aside0 (Below w.heap.size w (w17.alloc (.cells #[.slice A185_0 (rd_L2 l2 x24_2).length c185_0,v188, .int .i64 t190, .func (.func 74) #[] #[]] 113 (0,0)))):=⟨ze HB.out _⟩
      have n3_ : Aside0 ((w17.alloc (.cells #[.slice A185_0 (rd_L2 l2 x24_2).length c185_0,v188, .int .i64 t190, .func (.func 74) #[] #[]] 113 (0,0))).heap[w17.heap.size]? = some (.cells #[.slice A185_0 (rd_L2 l2 x24_2).length c185_0,v188, .int .i64 t190, .func (.func 74) #[] #[]] 113 (0,0))):=⟨blk_new _ _⟩
      have HBW:=zm (show w.heap.size≤w17.heap.size from zE HB.out)
      have HKB:=zm (show some w17.heap.size≠(v188 : Value).ownBlock from fun e_=>Nat.lt_irrefl _ (Kd.R_lt HO189.out _ e_.symm))
      clear HO189 HO_8 HB hHeld
      generalize w17.alloc (.cells #[.slice A185_0 (rd_L2 l2 x24_2).length c185_0,v188, .int .i64 t190, .func (.func 74) #[] #[]] 113 (0,0))=w18 at n0_ n1_ n2_ n3_ ⊢
      generalize w17.heap.size=B at n1_ n3_ HBW HKB ⊢
      have HO189:=n0_;have HO_8:=n1_;have HB:=n2_;have HS:=n3_;clear n0_ n1_ n2_ n3_
      refine hK.out _ _ trivial (fun hHeld => ?_)
      clear hK K
      refine ym (some 37) ?_
      refine yp 7 11 HT_ ?_
      refine done_ (done_of HT_.out (by kernel_rfl)) ?_
      try go_wp2
      go_loopg [39] k2 (fun kq v_ w' => ∃ (x11_3 : List Int) (x49_3 : Int),Aside0 (alloc_Pulses.l1 kq a0 a1 x8_2 (rd_L2 l2 x24_2) x11_3 l2 (l2.length : Int) x24_2 x49_3=some (r1,r2))∧Aside0 (kq≤k2)∧Aside0 (Kd.S (Kd.slice 3 (Kd.int .i64)) 55 w' w.heap.size (fun k_=>some k_≠(v188 : Value).ownBlock∧k_≠B) u8 x8_2)∧Aside0 (Kd.R (Kd.int .i64) 3 w' w.heap.size (fun _=>True) v188 x11_3)∧Aside0 (Below w.heap.size w w')∧Aside0 (w'.heap[B]? = some (.cells #[.slice A185_0 (rd_L2 l2 x24_2).length c185_0,v188, .int .i64 x49_3, .func (.func 74) #[] #[]] 113 (0,0))))
      case atStart=>exact ⟨(y187),(t190),H',⟨Nat.le_refl _⟩,⟨yr HO_8⟩,⟨yr HO189⟩,⟨yhb⟩,⟨(yk HS)⟩⟩
      case round =>
       clear H'
       try clear c8b0
       try clear c9b0
       try clear c10b0
       try clear hx185_0
       try clear p185
       try clear q185
       obtain ⟨x11_3,x49_3,HA,HK3,HO_8,HO_11,HB,HS⟩:=hrel
       obtain ⟨k3,rfl⟩:=ysu gk (fun h=>by subst h;exact absurd HA.out (by simp [alloc_Pulses.l1]))
       have H:=HA.out;clear HA
       simp only [alloc_Pulses.l1] at H
       replace H:=ybi H;obtain ⟨⟨t191,t192,t193⟩,A18,H⟩:=H
       try dsimp only at H
       by_cases c19 : t192=true
       ·
        subst c19
        rw [if_pos rfl] at H
        have H' := zm H
        clear H
        obtain ⟨Ao20,co20,eo20⟩:=Kd.R_slice HO_11.out
        subst eo20
        go_wp2_with (first|((with_reducible refine gate_callee (f:=75) rfl ?_);refine ygl 39 Try.func75 #[.pointer (some ⟨B,0,none⟩)] ?_;(with_reducible refine (alloc_give.calls k3 B A185_0 c185_0 (rd_L2 l2 x24_2) (fun k_=>some k_=(.slice Ao20 x11_3.length co20 : Value).ownBlock) (.slice Ao20 x11_3.length co20) x11_3 x49_3 t191 true t193 w _ ?side1 ?side2 HC185_0.out ?side4 ?side5 HBW.out ?side7 A18.out).mono ?_);(case side1=>exact yhb);(case side2=>exact Kd.C_kept_came (Kd.heap_int .i64) HR185_0.out yhb (fun k_ hs_=>(fun e_=>Kd.R_base HO_11.out k_ e_.symm) hs_));(case side4=>exact Kd.R_tight rfl HO_11.out);(case side5=>exact fun e_=>HKB.out e_);(case side7=>exact (yk HS));rintro e w21 ⟨rfl,hy0,hb,hkp,hs9⟩;refine ⟨_,rfl, ?_⟩;have hs1 : w21.cell? ⟨B,1,none⟩=some (.slice Ao20 x11_3.length co20):=(zs hs9 1).trans rfl;have n0_:=zm (Kd.S_mono (ok' := fun k_=>some k_≠(.slice Ao20 x11_3.length co20 : Value).ownBlock∧k_≠B) (Kd.S_keptB (HO_8.out) hkp (fun k_ hk_ hs_=>hs_.elim hk_.1 hk_.2)) (fun k_ hk_=>hk_.1));have n1_:=zm (Kd.R_reok rfl hy0 (fun k_ e_=>HO_11.out.1 k_ e_));have n2_:=zm (hb);clear HO_8;clear HO_11;clear HB;clear HS;have HS:=zm hs9;clear hs9;have HO_8:=n0_;have HO_11:=n1_;have HB:=n2_;clear n0_ n1_ n2_;(try clear hb);(try clear hkp);(try clear hy0)))
        go_roundg k3
        case measure=>exact yom3 HJ3 HK2 HK3
        case rel=>exact ⟨(t193),(t191),H',⟨yom3 HJ3 HK2 HK3⟩,⟨yr HO_8⟩,⟨yr HO_11⟩,⟨yhb⟩,⟨(yk HS)⟩⟩
       ·
        replace c19:=Bool.eq_false_iff.mpr c19
        subst c19
        rw [ynf] at H
        replace H:=yif H;obtain ⟨c22,H⟩:=H
        have LMc22:=zm c22;clear c22
        obtain ⟨y194,hy194⟩ : ∃ y_ : List (List Int),y_=(x8_2 ++ [t193]):=⟨_,rfl⟩
        replace H : (alloc_Pulses.l0 k3 a0 a1 y194 l2 (l2.length : Int) (wrap64 (x24_2+1)))=some (r1,r2):=yrw hy194 H
        have Ny194:=zm hy194;clear hy194
        have H' := zm H
        clear H
        obtain ⟨Ao23,co23,eo23⟩:=Kd.R_slice HO_11.out
        subst eo23
        go_wp2_with (first|((with_reducible refine gate_callee (f:=75) rfl ?_);refine ygl 39 Try.func75 #[.pointer (some ⟨B,0,none⟩)] ?_;(with_reducible refine (alloc_give.calls k3 B A185_0 c185_0 (rd_L2 l2 x24_2) (fun k_=>some k_=(.slice Ao23 x11_3.length co23 : Value).ownBlock) (.slice Ao23 x11_3.length co23) x11_3 x49_3 t191 false t193 w _ ?side1 ?side2 HC185_0.out ?side4 ?side5 HBW.out ?side7 A18.out).mono ?_);(case side1=>exact yhb);(case side2=>exact Kd.C_kept_came (Kd.heap_int .i64) HR185_0.out yhb (fun k_ hs_=>(fun e_=>Kd.R_base HO_11.out k_ e_.symm) hs_));(case side4=>exact Kd.R_tight rfl HO_11.out);(case side5=>exact fun e_=>HKB.out e_);(case side7=>exact (yk HS));rintro e w24 ⟨rfl,hy0,hb,hkp,hs9⟩;refine ⟨_,rfl, ?_⟩;have hs1 : w24.cell? ⟨B,1,none⟩=some (.slice Ao23 x11_3.length co23):=(zs hs9 1).trans rfl;have n0_:=zm (Kd.S_mono (ok' := fun k_=>some k_≠(.slice Ao23 x11_3.length co23 : Value).ownBlock∧k_≠B) (Kd.S_keptB (HO_8.out) hkp (fun k_ hk_ hs_=>hs_.elim hk_.1 hk_.2)) (fun k_ hk_=>hk_.1));have n1_:=zm (Kd.R_reok rfl hy0 (fun k_ e_=>HO_11.out.1 k_ e_));have n2_:=zm (hb);clear HO_8;clear HO_11;clear HB;clear HS;have HS:=zm hs9;clear hs9;have HO_8:=n0_;have HO_11:=n1_;have HB:=n2_;clear n0_ n1_ n2_;(try clear hb);(try clear hkp);(try clear hy0))|((with_reducible refine gate_builtin (b:=.append) (xs := #[.tmp 40, .tmp 45]) rfl ?_);(try (refine gate_guard (by rfl) ?_;dsimp only));at_builtin;refine Kd.S_append (Kd.slice 3 (Kd.int .i64)) (w0:=w) w.heap.size rfl (.tmp 40) (.tmp 45) 25 55 (.slice none 0 0) 24 rfl Try.underlying25 info55 rfl (by decide) (by omega) u8 x8_2 t193 [.slice Ao23 x11_3.length co23] (fun _=>True) (fun k_=>some k_=(.slice Ao23 x11_3.length co23 : Value).ownBlock) rfl rfl ?aP (fun k_ hk_=>((zG (ok' := fun k_=>((fun _=>True)) k_∧some k_≠(u8 : Value).ownBlock) (Kd.R_apart' (HO_11.out) (Kd.S_typed HO_8.out) (by decide)) (fun k_ hk=>⟨trivial,hk.2⟩))).1 k_ hk_.symm) ?aF ?aO ?aB ?aS ?aL ?_;(case aP=>exact Kd.M_row (zG (Kd.R_tight rfl (zG (ok' := fun k_=>((fun _=>True)) k_∧some k_≠(u8 : Value).ownBlock) (Kd.R_apart' (HO_11.out) (Kd.S_typed HO_8.out) (by decide)) (fun k_ hk=>⟨trivial,hk.2⟩))) (fun _ h_=>h_)));(case aB=>exact yhb);(case aF=>exact (fun _ _=>trivial));(case aO=>exact (yS0 HO_8));(case aS=>exact (zE yhb));(case aL=>have:=LMc22.out;omega);intro v195 w25 ho hb hg hat;rw [← Ny194.out] at ho;replace HB:=zm (hb);have HO196:=zm (ho);clear HO_8;clear HO_11;clear ho hb hg hat))
        go_roundg k3
        case measure=>exact yom3 HJ3 HK2 HK3
        case rel=>exact ⟨(y194),(wrap64 (x24_2+1)),yq,H',⟨yom3 HJ3 HK2 HK3⟩,⟨yr HO196⟩,⟨yhb⟩⟩
     ·
      replace c12:=Bool.eq_false_iff.mpr c12
      subst c12
      rw [ynf] at H
      simp only [Option.some.injEq,Prod.mk.injEq] at H
      obtain ⟨rfl,rfl⟩:=H
      have p185 : 0≤(x24_2 : Int):=yt
      have q185 : x24_2 < (l2.length : Int):=yt
      obtain ⟨ad185,A185_0,c185_0,e185,hx185_0,hl185_0,hi185_0⟩:=at_L2 HR2.out x24_2 p185 q185
      cases e185
      replace hx185_0:=yhx HB hx185_0
      have HR185_0:=zm hi185_0;have HC185_0:=zm hl185_0;clear hi185_0 hl185_0
      replace p185:=eq_true p185
      replace q185:=eq_true q185
      go_wp2_with (first|((with_reducible refine gate_callee (f:=72) rfl ?_);refine ygl 29 Try.func72 #[.slice A185_0 (rd_L2 l2 x24_2).length c185_0] ?_;(with_reducible refine (gain_Right.calls k2 _ _ (rd_L2 l2 x24_2) false _ ?side1 HC185_0.out A11.out).mono ?_);(case side1=>exact ycb HR185_0);rintro e w' ⟨rfl,⟨nd,rfl⟩⟩;refine ⟨_,rfl, ?_⟩))
      go_ret2
      exact ⟨_,ye,yn,yhb⟩
    ·
     rw [if_neg c8] at H
     have c8b0 : decide (x24_2 < (l2.length : Int))=false:=decide_eq_false c8
     clear c8
     simp only [Option.some.injEq,Prod.mk.injEq] at H
     obtain ⟨rfl,rfl⟩:=H
     go_wp2
     go_ret2
     exact ⟨_,ye,yr HO_8,yhb⟩
def num_Log2.l0 : Nat→Int→Int→Option (Int)
 | 0,_,_=>none
 | k+1,x0,x3=>if x0 > 0 then (num_Log2.l0 k (x0 / 2) (wrap64 (x3+1))) else (some x3)
def num_Log2.f (k : Nat) (a0 : Int) : Option (Int):=num_Log2.l0 k a0 (-1)
theorem num_Log2.mono_l : ∀ k,(∀ y0 y1,LeO (num_Log2.l0 k y0 y1) (num_Log2.l0 (k+1) y0 y1))
 | 0=>fun _ _ r h=>by simp [num_Log2.l0] at h
 | k+1=>by
  have ih0:=num_Log2.mono_l k
  ·
   intro y0 y1
   unfold num_Log2.l0
   repeat' with_reducible first|apply ih0|apply yLr|apply yLn|apply yLi|apply yLb|intro _
theorem num_Log2.mono : ∀ a0 k,LeO (num_Log2.f k a0) (num_Log2.f (k+1) a0):=by
 intro a0 k
 have ih0:=num_Log2.mono_l k
 unfold num_Log2.f
 repeat' with_reducible first|apply ih0|apply yLr|apply yLn|apply yLi|apply yLb|intro _
set_option maxHeartbeats 8000000 in
set_option maxRecDepth 100000 in
theorem num_Log2.calls (k : Nat) (a0 : Int) (r : Int) (w : World) (h : num_Log2.f k a0=some r) :
  Calls Try.prog 121 #[.int .u64 a0] w fun e w' => e=.returned (.int .i64 r)∧Drawn0 w w' := by
 have H : (num_Log2.l0 k a0 (-1))=some r:=h
 clear h
 have H' := zm H
 clear H
 go_enter Try.func121,Try.ntmps121
 go_wp2
 go_loopg [0,3] k (fun kq v0 v3 w' => ∃ (x0_1 : Int) (x3_1 : Int),v0=.int .u64 x0_1∧v3=.int .i64 x3_1∧Aside0 (num_Log2.l0 kq x0_1 x3_1=some r)∧Aside0 (kq≤k)∧Drawn0 w w')
 case atStart=>exact ⟨(a0),((-1)),yq,yq,H',⟨Nat.le_refl _⟩,yd⟩
 case round =>
  clear H'
  obtain ⟨x0_1,x3_1,rfl,rfl,HA,HK1,⟨m1,rfl⟩⟩:=hrel
  obtain ⟨k1,rfl⟩:=ysu gk (fun h=>by subst h;exact absurd HA.out (by simp [num_Log2.l0]))
  have H:=HA.out;clear HA
  simp only [num_Log2.l0] at H
  by_cases c2 : x0_1 > 0
  ·
   rw [if_pos c2] at H
   have c2b0 : decide (0 < x0_1)=true:=decide_eq_true c2
   clear c2
   have H' := zm H
   clear H
   go_wp2
   go_roundg k1
   case measure=>exact yom1 HK1
   case rel=>exact ⟨(x0_1 / 2),(wrap64 (x3_1+1)),yq,yq,H',⟨yom1 HK1⟩,yd⟩
  ·
   rw [if_neg c2] at H
   have c2b0 : decide (0 < x0_1)=false:=decide_eq_false c2
   clear c2
   obtain rfl:=Option.some.inj H
   go_wp2
   go_ret
   exact ⟨yq,yd⟩
def band_gain.f (k : Nat) (a0 : Int) : Option (Int):=(num_Log2.f k a0).bind fun t135=>(some (wrap64 (t135+1)))
theorem band_gain.mono : ∀ a0 k,LeO (band_gain.f k a0) (band_gain.f (k+1) a0):=by
 intro a0 k
 unfold band_gain.f
 repeat' with_reducible first|apply num_Log2.mono|apply yLr|apply yLn|apply yLi|apply yLb|intro _
set_option maxHeartbeats 8000000 in
set_option maxRecDepth 100000 in
theorem band_gain.calls (k : Nat) (a0 : Int) (r : Int) (w : World) (h : band_gain.f k a0=some r) :
  Calls Try.prog 110 #[.int .u64 a0] w fun e w' => e=.returned (.int .i64 r)∧Drawn0 w w' := by
 have H : ((num_Log2.f k a0).bind fun t135=>(some (wrap64 (t135+1))))=some r:=h
 clear h
 replace H:=ybi H;obtain ⟨t135,A2,H⟩:=H
 obtain rfl:=Option.some.inj H
 go_enter Try.func110,Try.ntmps110
 go_wp2_with (first|((with_reducible refine gate_callee (f:=121) rfl ?_);refine ygl 4 Try.func121 #[.int .u64 a0] ?_;(with_reducible refine (num_Log2.calls k a0 t135 _ A2.out).mono ?_);rintro e w' ⟨rfl,⟨nd,rfl⟩⟩;refine ⟨_,rfl, ?_⟩))
 go_ret
 exact ⟨yq,yd⟩
def num_Clamp.f (a0 : Int) (a1 : Int) (a2 : Int) : Option (Int):=if a0 < a1 then (some a1) else (if a0 > a2 then (some a2) else (some a0))
set_option maxHeartbeats 8000000 in
set_option maxRecDepth 100000 in
theorem num_Clamp.calls (a0 : Int) (a1 : Int) (a2 : Int) (r : Int) (w : World) (h : num_Clamp.f a0 a1 a2=some r) :
  Calls Try.prog 95 #[.int .i64 a0, .int .i64 a1, .int .i64 a2] w fun e w' => e=.returned (.int .i64 r)∧Drawn0 w w' := by
 have H : (if a0 < a1 then (some a1) else (if a0 > a2 then (some a2) else (some a0)))=some r:=h
 clear h
 by_cases c4 : a0 < a1
 ·
  rw [if_pos c4] at H
  have c4b0 : decide (a0 < a1)=true:=decide_eq_true c4
  clear c4
  obtain rfl:=Option.some.inj H
  go_enter Try.func95,Try.ntmps95
  go_wp2
  go_ret
  exact ⟨yq,yd⟩
 ·
  rw [if_neg c4] at H
  have c4b0 : decide (a0 < a1)=false:=decide_eq_false c4
  clear c4
  by_cases c5 : a0 > a2
  ·
   rw [if_pos c5] at H
   have c5b0 : decide (a2 < a0)=true:=decide_eq_true c5
   clear c5
   obtain rfl:=Option.some.inj H
   go_enter Try.func95,Try.ntmps95
   go_wp2
   go_ret
   exact ⟨yq,yd⟩
  ·
   rw [if_neg c5] at H
   have c5b0 : decide (a2 < a0)=false:=decide_eq_false c5
   clear c5
   obtain rfl:=Option.some.inj H
   go_enter Try.func95,Try.ntmps95
   go_wp2
   go_ret
   exact ⟨yq,yd⟩
def pvq_fair.l0 : Nat→List Int→List Int→Int→Int→Option (Bool)
 | 0,_,_,_,_=>none
 | k+1,x0,x5,x6,x7=>if x7 < x6 then (if 0≤x7 then (if x7 < (x5.length : Int) then ((num_Clamp.f (rd x5 x7) (-1048576) 1048576).bind fun t107=>(if (rd x5 x7)=t107 then (pvq_fair.l0 k x0 x5 x6 (wrap64 (x7+1))) else (some false))) else (none)) else (none)) else (if (x0.length : Int) ≥ 1 then (some (decide ((x0.length : Int)≤16))) else (some false))
def pvq_fair.f (k : Nat) (l0 : List Int) : Option (Bool):=pvq_fair.l0 k l0 l0 (l0.length : Int) 0
theorem pvq_fair.mono_l : ∀ k,(∀ y0 y1 y2 y3,LeO (pvq_fair.l0 k y0 y1 y2 y3) (pvq_fair.l0 (k+1) y0 y1 y2 y3))
 | 0=>fun _ _ _ _ r h=>by simp [pvq_fair.l0] at h
 | k+1=>by
  have ih0:=pvq_fair.mono_l k
  ·
   intro y0 y1 y2 y3
   unfold pvq_fair.l0
   repeat' with_reducible first|apply ih0|apply yLr|apply yLn|apply yLi|apply yLb|intro _
theorem pvq_fair.mono : ∀ a0 k,LeO (pvq_fair.f k a0) (pvq_fair.f (k+1) a0):=by
 intro a0 k
 have ih0:=pvq_fair.mono_l k
 unfold pvq_fair.f
 repeat' with_reducible first|apply ih0|apply yLr|apply yLn|apply yLi|apply yLb|intro _
set_option maxHeartbeats 8000000 in
set_option maxRecDepth 100000 in
theorem pvq_fair.calls (k : Nat) (A0 : Option Addr) (c0 : Nat) (l0 : List Int) (r : Bool) (w : World) (hr0 : Kd.C (Kd.int .i64) w A0 l0.length l0) (hc0 : l0.length≤c0) (h : pvq_fair.f k l0=some r) :
  Calls Try.prog 78 #[.slice A0 l0.length c0] w fun e w' => e=.returned (.bool r)∧Drawn0 w w' := by
 have HR0:=zm hr0;have HC0:=zm hc0;clear hr0 hc0
 have H : (pvq_fair.l0 k l0 l0 (l0.length : Int) 0)=some r:=h
 clear h
 have H' := zm H
 clear H
 go_enter Try.func78,Try.ntmps78
 go_wp2
 go_loopg [7] k (fun kq v7 w' => ∃ (x7_1 : Int),v7=.int .i64 x7_1∧Aside0 (pvq_fair.l0 kq l0 l0 (l0.length : Int) x7_1=some r)∧Aside0 (kq≤k)∧Drawn0 w w')
 case atStart=>exact ⟨(0),yq,H',⟨Nat.le_refl _⟩,yd⟩
 case round =>
  clear H'
  obtain ⟨x7_1,rfl,HA,HK1,⟨m1,rfl⟩⟩:=hrel
  obtain ⟨k1,rfl⟩:=ysu gk (fun h=>by subst h;exact absurd HA.out (by simp [pvq_fair.l0]))
  have H:=HA.out;clear HA
  simp only [pvq_fair.l0] at H
  by_cases c2 : x7_1 < (l0.length : Int)
  ·
   rw [if_pos c2] at H
   have c2b0 : decide (x7_1 < (l0.length : Int))=true:=decide_eq_true c2
   clear c2
   replace H:=yif H;obtain ⟨c3,H⟩:=H
   have c3b0 : decide (0≤x7_1)=true:=decide_eq_true c3
   clear c3
   replace H:=yif H;obtain ⟨c4,H⟩:=H
   have c4b0 : decide (x7_1 < (l0.length : Int))=true:=decide_eq_true c4
   clear c4
   replace H:=ybi H;obtain ⟨t107,A5,H⟩:=H
   by_cases c6 : (rd l0 x7_1)=t107
   ·
    rw [if_pos c6] at H
    have c6b0 : ((rd l0 x7_1) == t107)=true:=beq_iff_eq.mpr c6
    have c6b1 : ((rd l0 x7_1) != t107)=false:=bne_eq_false_iff_eq.mpr c6
    clear c6
    have H' := zm H
    clear H
    obtain ⟨ad106,e106,hx106_0,p106,q106⟩:=yai HR0 x7_1
    cases e106
    go_wp2_with (first|((with_reducible refine gate_callee (f:=95) rfl ?_);refine ygl 13 Try.func95 #[.int .i64 (rd l0 x7_1), .int .i64 (-1048576), .int .i64 1048576] ?_;(with_reducible refine (num_Clamp.calls (rd l0 x7_1) (-1048576) 1048576 t107 _ A5.out).mono ?_);rintro e w' ⟨rfl,⟨nd,rfl⟩⟩;refine ⟨_,rfl, ?_⟩))
    go_roundg k1
    case measure=>exact yom1 HK1
    case rel=>exact ⟨(wrap64 (x7_1+1)),yq,H',⟨yom1 HK1⟩,yd⟩
   ·
    rw [if_neg c6] at H
    have c6b0 : ((rd l0 x7_1) == t107)=false:=beq_eq_false_iff_ne.mpr c6
    have c6b1 : ((rd l0 x7_1) != t107)=true:=bne_iff_ne.mpr c6
    obtain rfl:=Option.some.inj H
    obtain ⟨ad106,e106,hx106_0,p106,q106⟩:=yai HR0 x7_1
    cases e106
    go_wp2_with (first|((with_reducible refine gate_callee (f:=95) rfl ?_);refine ygl 13 Try.func95 #[.int .i64 (rd l0 x7_1), .int .i64 (-1048576), .int .i64 1048576] ?_;(with_reducible refine (num_Clamp.calls (rd l0 x7_1) (-1048576) 1048576 t107 _ A5.out).mono ?_);rintro e w' ⟨rfl,⟨nd,rfl⟩⟩;refine ⟨_,rfl, ?_⟩))
    go_ret
    exact ⟨yq,yd⟩
  ·
   rw [if_neg c2] at H
   have c2b0 : decide (x7_1 < (l0.length : Int))=false:=decide_eq_false c2
   clear c2
   by_cases c7 : (l0.length : Int) ≥ 1
   ·
    rw [if_pos c7] at H
    have c7b0 : decide (1≤(l0.length : Int))=true:=decide_eq_true c7
    have c7b1 : decide (1≤l0.length)=true:=decide_eq_true (by omega)
    clear c7
    obtain rfl:=Option.some.inj H
    go_wp2
    go_ret
    exact ⟨yq,yd⟩
   ·
    rw [if_neg c7] at H
    have c7b0 : decide (1≤(l0.length : Int))=false:=decide_eq_false c7
    have c7b1 : decide (1≤l0.length)=false:=decide_eq_false (by omega)
    clear c7
    obtain rfl:=Option.some.inj H
    go_wp2
    go_ret
    exact ⟨yq,yd⟩
def pvq_Square.l0 : Nat→Int→List Int→Int→Int→Option (Int × Int)
 | 0,_,_,_,_=>none
 | k+1,x4,x10,x11,x12=>if x12 < x11 then (if 0≤x12 then (if x12 < (x10.length : Int) then (pvq_Square.l0 k (IntKind.u64.wrap (x4+(IntKind.u64.wrap (wrap64 ((rd x10 x12) * (rd x10 x12)))))) x10 x11 (wrap64 (x12+1))) else (none)) else (none)) else (some (x4,0))
def pvq_Square.f (k : Nat) (l0 : List Int) : Option (Int × Int):=(pvq_fair.f k l0).bind fun t108=>(if t108=true then (pvq_Square.l0 k 0 l0 (l0.length : Int) 0) else (some (0,1)))
theorem pvq_Square.mono_l : ∀ k,(∀ y0 y1 y2 y3,LeO (pvq_Square.l0 k y0 y1 y2 y3) (pvq_Square.l0 (k+1) y0 y1 y2 y3))
 | 0=>fun _ _ _ _ r h=>by simp [pvq_Square.l0] at h
 | k+1=>by
  have ih0:=pvq_Square.mono_l k
  ·
   intro y0 y1 y2 y3
   unfold pvq_Square.l0
   repeat' with_reducible first|apply ih0|apply pvq_fair.mono|apply yLr|apply yLn|apply yLi|apply yLb|intro _
theorem pvq_Square.mono : ∀ a0 k,LeO (pvq_Square.f k a0) (pvq_Square.f (k+1) a0):=by
 intro a0 k
 have ih0:=pvq_Square.mono_l k
 unfold pvq_Square.f
 repeat' with_reducible first|apply ih0|apply pvq_fair.mono|apply yLr|apply yLn|apply yLi|apply yLb|intro _
set_option maxHeartbeats 8000000 in
set_option maxRecDepth 100000 in
theorem pvq_Square.calls (k : Nat) (A0 : Option Addr) (c0 : Nat) (l0 : List Int) (r1 : Int) (r2 : Int) (w : World) (hr0 : Kd.C (Kd.int .i64) w A0 l0.length l0) (hc0 : l0.length≤c0) (h : pvq_Square.f k l0=some (r1,r2)) :
  Calls Try.prog 76 #[.slice A0 l0.length c0] w fun e w' => e=.returned (.tuple #[.int .u64 r1, .int .i64 r2])∧Drawn0 w w' := by
 have HR0:=zm hr0;have HC0:=zm hc0;clear hr0 hc0
 have H : ((pvq_fair.f k l0).bind fun t108=>(if t108=true then (pvq_Square.l0 k 0 l0 (l0.length : Int) 0) else (some (0,1))))=some (r1,r2):=h
 clear h
 replace H:=ybi H;obtain ⟨t108,A2,H⟩:=H
 by_cases c3 : t108=true
 ·
  subst c3
  rw [if_pos rfl] at H
  have H' := zm H
  clear H
  go_enter Try.func76,Try.ntmps76
  go_wp2_with (first|((with_reducible refine gate_callee (f:=78) rfl ?_);refine ygl 8 Try.func78 #[.slice A0 l0.length c0] ?_;(with_reducible refine (pvq_fair.calls k _ _ l0 true _ ?side1 HC0.out A2.out).mono ?_);(case side1=>exact yce HR0.out);rintro e w' ⟨rfl,⟨nd,rfl⟩⟩;refine ⟨_,rfl, ?_⟩))
  go_loopg [4,12] k (fun kq v4 v12 w' => ∃ (x4_1 : Int) (x12_1 : Int),v4=.int .u64 x4_1∧v12=.int .i64 x12_1∧Aside0 (pvq_Square.l0 kq x4_1 l0 (l0.length : Int) x12_1=some (r1,r2))∧Aside0 (kq≤k)∧Drawn0 w w')
  case atStart=>exact ⟨(0),(0),yq,yq,H',⟨Nat.le_refl _⟩,yd⟩
  case round =>
   clear H'
   obtain ⟨x4_1,x12_1,rfl,rfl,HA,HK1,⟨m1,rfl⟩⟩:=hrel
   obtain ⟨k1,rfl⟩:=ysu gk (fun h=>by subst h;exact absurd HA.out (by simp [pvq_Square.l0]))
   have H:=HA.out;clear HA
   simp only [pvq_Square.l0] at H
   by_cases c4 : x12_1 < (l0.length : Int)
   ·
    rw [if_pos c4] at H
    have c4b0 : decide (x12_1 < (l0.length : Int))=true:=decide_eq_true c4
    clear c4
    replace H:=yif H;obtain ⟨c5,H⟩:=H
    have c5b0 : decide (0≤x12_1)=true:=decide_eq_true c5
    clear c5
    replace H:=yif H;obtain ⟨c6,H⟩:=H
    have c6b0 : decide (x12_1 < (l0.length : Int))=true:=decide_eq_true c6
    clear c6
    have H' := zm H
    clear H
    obtain ⟨ad109,e109,hx109_0,p109,q109⟩:=yai HR0 x12_1
    cases e109
    go_wp2
    go_roundg k1
    case measure=>exact yom1 HK1
    case rel=>exact ⟨(IntKind.u64.wrap (x4_1+(IntKind.u64.wrap (wrap64 ((rd l0 x12_1) * (rd l0 x12_1)))))),(wrap64 (x12_1+1)),yq,yq,H',⟨yom1 HK1⟩,yd⟩
   ·
    rw [if_neg c4] at H
    have c4b0 : decide (x12_1 < (l0.length : Int))=false:=decide_eq_false c4
    clear c4
    simp only [Option.some.injEq,Prod.mk.injEq] at H
    obtain ⟨rfl,rfl⟩:=H
    go_wp2
    go_ret2
    exact ⟨yq,yd⟩
 ·
  replace c3:=Bool.eq_false_iff.mpr c3
  subst c3
  rw [ynf] at H
  simp only [Option.some.injEq,Prod.mk.injEq] at H
  obtain ⟨rfl,rfl⟩:=H
  go_enter Try.func76,Try.ntmps76
  go_wp2_with (first|((with_reducible refine gate_callee (f:=78) rfl ?_);refine ygl 8 Try.func78 #[.slice A0 l0.length c0] ?_;(with_reducible refine (pvq_fair.calls k _ _ l0 false _ ?side1 HC0.out A2.out).mono ?_);(case side1=>exact yce HR0.out);rintro e w' ⟨rfl,⟨nd,rfl⟩⟩;refine ⟨_,rfl, ?_⟩))
  go_ret2
  exact ⟨yq,yd⟩
def band_Gain.f (k : Nat) (l0 : List Int) : Option (Int × Int):=(pvq_Square.f k l0).bind fun bt136=>(if bt136.2=0 then (if (l0.length : Int) > 8 then (some (0,1)) else ((band_gain.f k bt136.1).bind fun t138=>(some (t138,0)))) else (some (0,1)))
theorem band_Gain.mono : ∀ a0 k,LeO (band_Gain.f k a0) (band_Gain.f (k+1) a0):=by
 intro a0 k
 unfold band_Gain.f
 repeat' with_reducible first|apply band_gain.mono|apply pvq_Square.mono|apply yLr|apply yLn|apply yLi|apply yLb|intro _
set_option maxHeartbeats 8000000 in
set_option maxRecDepth 100000 in
theorem band_Gain.calls (k : Nat) (A0 : Option Addr) (c0 : Nat) (l0 : List Int) (r1 : Int) (r2 : Int) (w : World) (hr0 : Kd.C (Kd.int .i64) w A0 l0.length l0) (hc0 : l0.length≤c0) (h : band_Gain.f k l0=some (r1,r2)) :
  Calls Try.prog 71 #[.slice A0 l0.length c0] w fun e w' => e=.returned (.tuple #[.int .i64 r1, .int .i64 r2])∧Drawn0 w w' := by
 have HR0:=zm hr0;have HC0:=zm hc0;clear hr0 hc0
 have H : ((pvq_Square.f k l0).bind fun bt136=>(if bt136.2=0 then (if (l0.length : Int) > 8 then (some (0,1)) else ((band_gain.f k bt136.1).bind fun t138=>(some (t138,0)))) else (some (0,1))))=some (r1,r2):=h
 clear h
 replace H:=ybi H;obtain ⟨⟨t136,t137⟩,A2,H⟩:=H
 try dsimp only at H
 by_cases c3 : t137=0
 ·
  rw [if_pos c3] at H
  have c3b0 : (t137 == 0)=true:=beq_iff_eq.mpr c3
  have c3b1 : (t137 != 0)=false:=bne_eq_false_iff_eq.mpr c3
  clear c3
  by_cases c4 : (l0.length : Int) > 8
  ·
   rw [if_pos c4] at H
   have c4b0 : decide (8 < (l0.length : Int))=true:=decide_eq_true c4
   have c4b1 : decide (8 < l0.length)=true:=decide_eq_true (by omega)
   clear c4
   simp only [Option.some.injEq,Prod.mk.injEq] at H
   obtain ⟨rfl,rfl⟩:=H
   go_enter Try.func71,Try.ntmps71
   go_wp2_with (first|((with_reducible refine gate_callee (f:=76) rfl ?_);refine ygl 8 Try.func76 #[.slice A0 l0.length c0] ?_;(with_reducible refine (pvq_Square.calls k _ _ l0 t136 t137 _ ?side1 HC0.out A2.out).mono ?_);(case side1=>exact yce HR0.out);rintro e w' ⟨rfl,⟨nd,rfl⟩⟩;refine ⟨_,rfl, ?_⟩))
   go_ret2
   exact ⟨yq,yd⟩
  ·
   rw [if_neg c4] at H
   have c4b0 : decide (8 < (l0.length : Int))=false:=decide_eq_false c4
   have c4b1 : decide (8 < l0.length)=false:=decide_eq_false (by omega)
   clear c4
   replace H:=ybi H;obtain ⟨t138,A5,H⟩:=H
   simp only [Option.some.injEq,Prod.mk.injEq] at H
   obtain ⟨rfl,rfl⟩:=H
   go_enter Try.func71,Try.ntmps71
   go_wp2_with (first|((with_reducible refine gate_callee (f:=76) rfl ?_);refine ygl 8 Try.func76 #[.slice A0 l0.length c0] ?_;(with_reducible refine (pvq_Square.calls k _ _ l0 t136 t137 _ ?side1 HC0.out A2.out).mono ?_);(case side1=>exact yce HR0.out);rintro e w' ⟨rfl,⟨nd,rfl⟩⟩;refine ⟨_,rfl, ?_⟩)|((with_reducible refine gate_callee (f:=110) rfl ?_);refine ygl 19 Try.func110 #[.int .u64 t136] ?_;(with_reducible refine (band_gain.calls k t136 t138 _ A5.out).mono ?_);rintro e w' ⟨rfl,⟨nd,rfl⟩⟩;refine ⟨_,rfl, ?_⟩))
   go_ret2
   exact ⟨yq,yd⟩
 ·
  rw [if_neg c3] at H
  have c3b0 : (t137 == 0)=false:=beq_eq_false_iff_ne.mpr c3
  have c3b1 : (t137 != 0)=true:=bne_iff_ne.mpr c3
  simp only [Option.some.injEq,Prod.mk.injEq] at H
  obtain ⟨rfl,rfl⟩:=H
  go_enter Try.func71,Try.ntmps71
  go_wp2_with (first|((with_reducible refine gate_callee (f:=76) rfl ?_);refine ygl 8 Try.func76 #[.slice A0 l0.length c0] ?_;(with_reducible refine (pvq_Square.calls k _ _ l0 t136 t137 _ ?side1 HC0.out A2.out).mono ?_);(case side1=>exact yce HR0.out);rintro e w' ⟨rfl,⟨nd,rfl⟩⟩;refine ⟨_,rfl, ?_⟩))
  go_ret2
  exact ⟨yq,yd⟩
mutual
def band_Split.j0 : Nat→List Int→Bool→Option ((List (List Int)) × Int)
 | 0,_,_=>none
 | k+1,x0,x22=>if x22=true then (some (([] : List (List Int)),1)) else ((some (([] : List Int) : List Int)).bind fun y112=>(if y112.length+x0.length < 17592186044416 then (band_Split.l0 k (y112 ++ x0) ([] : List (List Int)) 0) else (none)))
def band_Split.l0 : Nat→List Int→List (List Int)→Int→Option ((List (List Int)) × Int)
 | 0,_,_,_=>none
 | k+1,x6,x7,x26=>if x26 < 5 then ((band_From.f x26).bind fun t118=>((band_Width.f x26).bind fun t119=>(if 0≤t118 then (if t118≤(wrap64 (t118+t119)) then (if (wrap64 (t118+t119))≤(x6.length : Int) then (if x7.length < 5864062014805 then (band_Split.l0 k x6 (x7 ++ [((x6.take ((wrap64 (t118+t119)) : Int).toNat).drop (t118 : Int).toNat)]) (wrap64 (x26+1))) else (none)) else (none)) else (none)) else (none)))) else (some (x7,0))
end
def band_Split.f (k : Nat) (l0 : List Int) : Option ((List (List Int)) × Int):=(pvq_Square.f k l0).bind fun bt110=>(if bt110.2=0 then (band_Split.j0 k l0 ((l0.length : Int) != 16)) else (band_Split.j0 k l0 true))
theorem band_Split.mono_l : ∀ k,(∀ y0 y1,LeO (band_Split.j0 k y0 y1) (band_Split.j0 (k+1) y0 y1))∧(∀ y0 y1 y2,LeO (band_Split.l0 k y0 y1 y2) (band_Split.l0 (k+1) y0 y1 y2))
 | 0=>⟨fun _ _ r h=>by simp [band_Split.j0] at h,fun _ _ _ r h=>by simp [band_Split.l0] at h⟩
 | k+1=>by
  obtain ⟨ih0,ih1⟩:=band_Split.mono_l k
  refine ⟨?_, ?_⟩
  ·
   intro y0 y1
   unfold band_Split.j0
   repeat' with_reducible first|apply ih0|apply ih1|apply pvq_Square.mono|apply yLr|apply yLn|apply yLi|apply yLb|intro _
  ·
   intro y0 y1 y2
   unfold band_Split.l0
   repeat' with_reducible first|apply ih0|apply ih1|apply pvq_Square.mono|apply yLr|apply yLn|apply yLi|apply yLb|intro _
theorem band_Split.mono : ∀ a0 k,LeO (band_Split.f k a0) (band_Split.f (k+1) a0):=by
 intro a0 k
 obtain ⟨ih0,ih1⟩:=band_Split.mono_l k
 unfold band_Split.f
 repeat' with_reducible first|apply ih0|apply ih1|apply pvq_Square.mono|apply yLr|apply yLn|apply yLi|apply yLb|intro _
/-- A cut with a capacity: all[lo:hi:hi]. -/
theorem band_Split.cut3 {P : Program} (t e : TypeId) (kl kh km : IntKind) {i : TypeInfo} (ht : P.underlying t=some (.slice e)) (hi : P.info? e=some i) (size : Nat) (hsz : i.size=size) (A : Option Addr) (n c : Nat) (lo hi' : Int) (h0 : 0≤lo) (h1 : lo≤hi') (h2 : hi'≤c) :
  ∀ W : World,(Instr.slice t (.slice A n c) (some (.int kl lo)) (some (.int kh hi')) (some (.int km hi'))).run P W=.ok (.slice (if hi'.toNat=lo.toNat then A else A.map (·.add (lo.toNat * size))) (hi'.toNat - lo.toNat) (hi'.toNat - lo.toNat)) W:=by
 intro W
 have hel : P.elem t=e:=by simp [Program.elem,ht]
 have hu : P.underlying t=some (.slice (P.elem t)):=by rw [hel];exact ht
 rw [run_slice_lhm W t A n c hu kl kh km lo hi' hi' h0 h1 (Int.le_refl _) h2,hel]
 simp [sizeOf,typeInfo,hi,hsz,sliced,Result.andThen]
set_option maxHeartbeats 8000000 in
set_option maxRecDepth 100000 in
theorem band_Split.calls (k : Nat) (A0 : Option Addr) (c0 : Nat) (l0 : List Int) (r1 : List (List Int)) (r2 : Int) (w : World) (hr0 : Kd.C (Kd.int .i64) w A0 l0.length l0) (hc0 : l0.length≤c0) (h : band_Split.f k l0=some (r1,r2)) :
  Calls Try.prog 38 #[.slice A0 l0.length c0] w fun e w' => ∃ v0_ : Value,e=.returned (.tuple #[v0_, .int .i64 r2])∧Kd.N (Kd.slice 2 (Kd.int .i64)) 53 w' w.heap.size (fun k_=>(w.heap.size≤k_)) v0_ r1∧Below w.heap.size w w' := by
 have HR0:=zm hr0;have HC0:=zm hc0;clear hr0 hc0;have HB:=zm (Below.refl w.heap.size w)
 have H : ((pvq_Square.f k l0).bind fun bt110=>(if bt110.2=0 then (band_Split.j0 k l0 ((l0.length : Int) != 16)) else (band_Split.j0 k l0 true)))=some (r1,r2):=h
 clear h
 replace H:=ybi H;obtain ⟨⟨t110,t111⟩,A2,H⟩:=H
 try dsimp only at H
 have HC3:=zm H;clear H
 go_enter Try.func38,Try.ntmps38
 go_upto_region 2 with (first|((with_reducible refine gate_callee (f:=76) rfl ?_);refine ygl 13 Try.func76 #[.slice A0 l0.length c0] ?_;(with_reducible refine (pvq_Square.calls k _ _ l0 t110 t111 _ ?side1 HC0.out A2.out).mono ?_);(case side1=>exact yce HR0.out);rintro e w' ⟨rfl,⟨nd,rfl⟩⟩;refine ⟨_,rfl, ?_⟩))
 (try simp only [Act.put,List.setIfInBounds_toArray,List.set_cons_zero,List.set_cons_succ])
 go_cut [22] (fun v22 wc => ∃ (kq : Nat) (x22_2 : Bool),v22=.bool x22_2∧Aside0 (band_Split.j0 kq l0 x22_2=some (r1,r2))∧Aside0 (kq≤k)∧Aside0 (Below w.heap.size w wc))
 case first =>
  have H:=HC3.out;clear HC3
  by_cases c4 : t111=0
  ·
   rw [if_pos c4] at H
   have c4b0 : (t111 == 0)=true:=beq_iff_eq.mpr c4
   have c4b1 : (t111 != 0)=false:=bne_eq_false_iff_eq.mpr c4
   clear c4
   (first|rw [c4b0]|(simp only [i64_w,i32_w];rw [c4b0])|skip)
   have H' := zm H
   clear H
   go_wp2
   go_meet
   case rel=>exact ⟨_,(((l0.length : Int) != 16)),yq,H',⟨yo⟩,⟨yhb⟩⟩
  ·
   rw [if_neg c4] at H
   have c4b0 : (t111 == 0)=false:=beq_eq_false_iff_ne.mpr c4
   have c4b1 : (t111 != 0)=true:=bne_iff_ne.mpr c4
   (first|rw [c4b0]|(simp only [i64_w,i32_w];rw [c4b0])|skip)
   have H' := zm H
   clear H
   go_wp2
   go_meet
   case rel=>exact ⟨_,(true),yq,H',⟨yo⟩,⟨yhb⟩⟩
 case rest =>
  clear HC3
  obtain ⟨kq,x22_2,rfl,HA,HJ2,HB⟩:=hcut
  obtain ⟨kj2,rfl⟩:=ysu kq (fun h=>by subst h;exact absurd HA.out (by simp [band_Split.j0]))
  have H:=HA.out;clear HA
  simp only [band_Split.j0] at H
  by_cases c5 : x22_2=true
  ·
   subst c5
   rw [if_pos rfl] at H
   simp only [Option.some.injEq,Prod.mk.injEq] at H
   obtain ⟨rfl,rfl⟩:=H
   go_wp2
   go_ret2
   exact ⟨_,ye,yn,yhb⟩
  ·
   replace c5:=Bool.eq_false_iff.mpr c5
   subst c5
   rw [ynf] at H
   obtain ⟨y112,hy112⟩ : ∃ y_ : List Int,y_=(([] : List Int)):=⟨_,rfl⟩
   replace H : (if y112.length+l0.length < 17592186044416 then (band_Split.l0 kj2 (y112 ++ l0) ([] : List (List Int)) 0) else (none))=some (r1,r2):=yrw hy112 H
   have Ny112:=zm hy112;clear hy112
   replace H:=yif H;obtain ⟨c6,H⟩:=H
   have LMc6:=zm c6;clear c6
   obtain ⟨y115,hy115⟩ : ∃ y_ : List Int,y_=(y112 ++ l0):=⟨_,rfl⟩
   replace H : (band_Split.l0 kj2 y115 ([] : List (List Int)) 0)=some (r1,r2):=yrw hy115 H
   have Ny115:=zm hy115;clear hy115
   have H' := zm H
   clear H
   go_wp2_with (first|((with_reducible refine gate_dst (N:=23) rfl ?_);(try (refine gate_guard (by rfl) ?_;dsimp only));refine Kd.R_lit (Kd.int .i64) _ 2 ?hg (N:=23) ?hd (xs:=([] : List Int)) (inner := []) (ok:=fun _=>True) (okp:=fun _=>True) ?hr ?hp (fun _ hk=>hk) trivial (Below.refl _ _) (Nat.le_refl _) (by simp) ?_;(case hd=>rfl);(case hg=>rfl);(case hr=>first|(go_simp;done)|(go_simp;rfl));(case hp=>exact (Reps.none _ _));intro v113 w7 ho8 hb hg_ hnew_;clear hg_ hnew_;(first|rw [← Ny112.out] at ho8|(simp only [Int.reduceToNat] at ho8;rw [← Ny112.out] at ho8));have HO114:=zm (Kd.R_lower (Kd.R_newM (M:=fun k_=>(w.heap.size≤k_)) ho8 (zE yhb) (fun k_ h_=>h_)) (zE yhb));replace HB:=ybs hb;clear hb ho8)|((with_reducible refine gate_builtin (b:=.append) (xs := #[.tmp 23, .tmp 24]) rfl ?_);(try (refine gate_guard (by rfl) ?_;dsimp only));at_builtin;refine Kd.R_append_rows (Kd.int .i64) (w0:=w) w.heap.size rfl (.tmp 23) (.tmp 24) 53 2 (.int .i64 0) 8 rfl Try.underlying53 info2 rfl (by decide) (by omega) v113 y112 l0 _ _ _ (fun k_=>(w.heap.size≤k_)) (fun _=>False) rfl rfl ?aO ?aR (fun _ _ h=>h) (fun _ h=>h.elim) ?aF ?aB ?aS ?aL ?_;(case aR=>exact ycb HR0);(case aB=>exact yhb);(case aF=>exact (fun k_ hk=>(Nat.le_trans (zE yhb) hk)));(case aO=>exact (yR0 HO114));(case aS=>exact (zE yhb));(case aL=>have:=LMc6.out;omega);intro v116 w9 ho hb hg hat;rw [← Ny115.out] at ho;replace HB:=zm (hb);have HO117:=zm (ho);clear HO114;clear ho hb hg hat))
   go_loopg [7,26] kj2 (fun kq v7 v26 w' => ∃ (x7_2 : List (List Int)) (x26_2 : Int),v26=.int .i64 x26_2∧Aside0 (band_Split.l0 kq y115 x7_2 x26_2=some (r1,r2))∧Aside0 (kq≤kj2)∧Aside0 (Kd.R (Kd.int .i64) 2 w' w.heap.size (fun k_=>(w.heap.size≤k_)) v116 y115)∧Aside0 (Kd.N (Kd.slice 2 (Kd.int .i64)) 53 w' w.heap.size (fun k_=>(w.heap.size≤k_)) v7 x7_2)∧Aside0 (Below w.heap.size w w'))
   case atStart=>exact ⟨(([] : List (List Int))),(0),yq,H',⟨Nat.le_refl _⟩,⟨yr HO117⟩,⟨yn⟩,⟨yhb⟩⟩
   case round =>
    clear H'
    obtain ⟨x7_2,x26_2,rfl,HA,HK2,HO_6,HO_7,HB⟩:=hrel
    obtain ⟨k2,rfl⟩:=ysu gk (fun h=>by subst h;exact absurd HA.out (by simp [band_Split.l0]))
    have H:=HA.out;clear HA
    simp only [band_Split.l0] at H
    by_cases c10 : x26_2 < 5
    ·
     rw [if_pos c10] at H
     have c10b0 : decide (x26_2 < 5)=true:=decide_eq_true c10
     clear c10
     replace H:=ybi H;obtain ⟨t118,A11,H⟩:=H
     replace H:=ybi H;obtain ⟨t119,A12,H⟩:=H
     replace H:=yif H;obtain ⟨c13,H⟩:=H
     have c13b0:=eq_true c13
     have c13b1 : decide (0≤t118)=true:=decide_eq_true c13
     clear c13
     replace H:=yif H;obtain ⟨c14,H⟩:=H
     have c14b0:=eq_true c14
     have c14b1 : decide (t118≤(wrap64 (t118+t119)))=true:=decide_eq_true c14
     replace H:=yif H;obtain ⟨c15,H⟩:=H
     have c15b0:=eq_true c15
     have c15b1 : decide ((wrap64 (t118+t119))≤(y115.length : Int))=true:=decide_eq_true c15
     obtain ⟨y120,hy120⟩ : ∃ y_ : List Int,y_=((y115.take ((wrap64 (t118+t119)) : Int).toNat).drop (t118 : Int).toNat):=⟨_,rfl⟩
     replace H : (if x7_2.length < 5864062014805 then (band_Split.l0 k2 y115 (x7_2 ++ [y120]) (wrap64 (x26_2+1))) else (none))=some (r1,r2):=yrw hy120 H
     have Ny120:=zm hy120;clear hy120
     replace H:=yif H;obtain ⟨c16,H⟩:=H
     have LMc16:=zm c16;clear c16
     obtain ⟨y125,hy125⟩ : ∃ y_ : List (List Int),y_=(x7_2 ++ [y120]):=⟨_,rfl⟩
     replace H : (band_Split.l0 k2 y115 y125 (wrap64 (x26_2+1)))=some (r1,r2):=yrw hy125 H
     have Ny125:=zm hy125;clear hy125
     have H' := zm H
     clear H
     go_wp2_with (first|((with_reducible refine gate_callee (f:=77) rfl ?_);refine ygl 30 Try.func77 #[.int .i64 x26_2] ?_;(with_reducible refine (band_From.calls x26_2 t118 _ A11.out).mono ?_);rintro e w' ⟨rfl,⟨nd,rfl⟩⟩;refine ⟨_,rfl, ?_⟩)|((with_reducible refine gate_callee (f:=48) rfl ?_);refine ygl 32 Try.func48 #[.int .i64 x26_2] ?_;(with_reducible refine (band_Width.calls x26_2 t119 _ A12.out).mono ?_);rintro e w17 ⟨rfl,hb⟩;refine ⟨_,rfl, ?_⟩;replace HO_6:=yRb HO_6 hb;replace HO_7:=yNb HO_7 hb;replace HB:=ybs hb;(try clear hb);obtain ⟨Ao19,co19,eo19⟩:=Kd.R_slice HO_6.out;subst eo19;have q18 : ((wrap64 (t118+t119)) : Int)≤((y115.length : Int) : Int):=yt;obtain ⟨i018,hi018,_,hsz18,_⟩:=info_parts info2;have hroom18 : y115.length≤co19:=(Kd.R_reads' HO_6.out).2.1;have hC18 : Kd.F (Kd.int .i64) _ _ Ao19 y115.length y115:=(Kd.V_at (base:=w.heap.size) (Kd.R_V (Kd.R_apart' (HO_6.out) (Kd.N_typed HO_7.out) (by decide)))).2.2;have ql18 : (t118 : Int)≤((wrap64 (t118+t119)) : Int):=yt;have q018 : (0 : Int)≤(t118 : Int):=yt;have hcut18:=band_Split.cut3 (P:=Try.prog) 53 2 .i64 .i64 .i64 Try.underlying53 hi018 1 hsz18 Ao19 y115.length co19 t118 (wrap64 (t118+t119)) q018 ql18 (by omega);have hr18:=Kd.F_cut (m:=(t118 : Int).toNat) (c:=((wrap64 (t118+t119)) : Int).toNat) (Kd.F_take (m:=((wrap64 (t118+t119)) : Int).toNat) hC18 (by omega)) (by rw [List.length_take];omega) (by rw [List.length_take];omega);obtain ⟨A18,hA18⟩ : ∃ A1,A1=(if ((wrap64 (t118+t119)) : Int).toNat=(t118 : Int).toNat then Ao19 else (Ao19 : Option Addr).map (·.add ((t118 : Int).toNat * 1))):=⟨_,rfl⟩;have hy18 : y120.length=((wrap64 (t118+t119)) : Int).toNat - (t118 : Int).toNat:=(by rw [Ny120.out,List.length_drop,List.length_take] <;> omega);rw [show ((y115).take ((wrap64 (t118+t119)) : Int).toNat).drop (t118 : Int).toNat=y120 from Ny120.out.symm] at hr18;replace hr18 : Kd.F (Kd.int .i64) _ _ A18 y120.length y120:=(by rw [hA18];exact hr18);rw [← hy18, ← hA18] at hcut18;have HO124:=zm (show Kd.V (Kd.int .i64) 2 _ w.heap.size _ (.slice A18 y120.length y120.length) y120 from Kd.V_mk (Nat.le_refl _) hr18);have HC124:=zm (show y120.length≤y120.length from Nat.le_refl _);clear hr18 hC18 hroom18 hi018 hsz18;have KY18:=zm hy18;have KA18:=zm hA18;clear hy18 hA18;replace q18:=eq_true q18)|((with_reducible refine gate_builtin (b:=.append) (xs := #[.tmp 33, .tmp 43]) rfl ?_);(try (refine gate_guard (by rfl) ?_;dsimp only));at_builtin;refine Kd.N_append (Kd.slice 2 (Kd.int .i64)) (w0:=w) w.heap.size rfl (.tmp 33) (.tmp 43) 22 53 (.slice none 0 0) 24 rfl Try.underlying22 info53 rfl (by decide) (by omega) u7 x7_2 y120 [.slice A18 y120.length y120.length] (fun k_=>(w.heap.size≤k_)) (fun k_=>((fun k_=>(w.heap.size≤k_))) k_∧some k_≠(u7 : Value).ownBlock) rfl rfl ?aP (fun _ hk=>hk) ?aF ?aO ?aB ?aS ?aL ?_;(case aP=>exact (Kd.FK_slice_mk (Kd.V_reads' (zy (ok' := (fun k_=>((fun k_=>(w.heap.size≤k_))) k_∧some k_≠(u7 : Value).ownBlock)) (HO124.out) (fun k_ hk=>⟨hk.1,hk.2⟩))).2.1 (Kd.V_F (zy (ok' := (fun k_=>((fun k_=>(w.heap.size≤k_))) k_∧some k_≠(u7 : Value).ownBlock)) (HO124.out) (fun k_ hk=>⟨hk.1,hk.2⟩)))));(case aB=>exact yhb);(case aF=>exact (fun k_ hk=>(Nat.le_trans (zE yhb) hk)));(case aO=>exact (yr HO_7));(case aS=>exact (zE yhb));(case aL=>have:=LMc16.out;omega);intro v126 w20 ho hb hg hat;rw [← Ny125.out] at ho;replace HO_6:=zm (Kd.R_over' (yr HO_6) (Kd.N_typed (yr HO_7)) (by decide) hg);replace HO124:=zm (Kd.V_afterv (ok:=(fun k_=>(w.heap.size≤k_))) (yr HO124) hg hat);replace HB:=zm (hb);have HO127:=zm (ho);clear HO_7;clear ho hb hg hat))
     go_roundg k2
     case measure=>exact yom2 HJ2 HK2
     case rel=>exact ⟨(y125),(wrap64 (x26_2+1)),yq,H',⟨yom2 HJ2 HK2⟩,⟨yr HO_6⟩,⟨yr HO127⟩,⟨yhb⟩⟩
    ·
     rw [if_neg c10] at H
     have c10b0 : decide (x26_2 < 5)=false:=decide_eq_false c10
     clear c10
     simp only [Option.some.injEq,Prod.mk.injEq] at H
     obtain ⟨rfl,rfl⟩:=H
     go_wp2
     go_ret2
     exact ⟨_,ye,yr HO_7,yhb⟩
def band_Gains.l0 : Nat→List Int→List (List Int)→Int→Int→Option (List Int × Int)
 | 0,_,_,_,_=>none
 | k+1,x6,x19,x20,x21=>if x21 < x20 then (if 0≤x21 then (if x21 < (x19.length : Int) then ((band_Gain.f k (rd_L1 x19 x21)).bind fun bt144=>(if x6.length < 17592186044416 then (band_Gains.l0 k (x6 ++ [bt144.1]) x19 x20 (wrap64 (x21+1))) else (none))) else (none)) else (none)) else (some (x6,0))
def band_Gains.f (k : Nat) (l0 : List Int) : Option (List Int × Int):=(band_Split.f k l0).bind fun bt139=>(if bt139.2=0 then (band_Gains.l0 k ([] : List Int) bt139.1 (bt139.1.length : Int) 0) else (some (([] : List Int),bt139.2)))
theorem band_Gains.mono_l : ∀ k,(∀ y0 y1 y2 y3,LeO (band_Gains.l0 k y0 y1 y2 y3) (band_Gains.l0 (k+1) y0 y1 y2 y3))
 | 0=>fun _ _ _ _ r h=>by simp [band_Gains.l0] at h
 | k+1=>by
  have ih0:=band_Gains.mono_l k
  ·
   intro y0 y1 y2 y3
   unfold band_Gains.l0
   repeat' with_reducible first|apply ih0|apply band_Gain.mono|apply band_Split.mono|apply yLr|apply yLn|apply yLi|apply yLb|intro _
theorem band_Gains.mono : ∀ a0 k,LeO (band_Gains.f k a0) (band_Gains.f (k+1) a0):=by
 intro a0 k
 have ih0:=band_Gains.mono_l k
 unfold band_Gains.f
 repeat' with_reducible first|apply ih0|apply band_Gain.mono|apply band_Split.mono|apply yLr|apply yLn|apply yLi|apply yLb|intro _
set_option maxHeartbeats 8000000 in
set_option maxRecDepth 100000 in
theorem band_Gains.calls (k : Nat) (A0 : Option Addr) (c0 : Nat) (l0 : List Int) (r1 : List Int) (r2 : Int) (w : World) (hr0 : Kd.C (Kd.int .i64) w A0 l0.length l0) (hc0 : l0.length≤c0) (h : band_Gains.f k l0=some (r1,r2)) :
  Calls Try.prog 36 #[.slice A0 l0.length c0] w fun e w' => ∃ v0_ : Value,e=.returned (.tuple #[v0_, .int .i64 r2])∧Kd.R (Kd.int .i64) 3 w' w.heap.size (fun _=>True) v0_ r1∧Below w.heap.size w w' := by
 have HR0:=zm hr0;have HC0:=zm hc0;clear hr0 hc0;have HB:=zm (Below.refl w.heap.size w)
 have H : ((band_Split.f k l0).bind fun bt139=>(if bt139.2=0 then (band_Gains.l0 k ([] : List Int) bt139.1 (bt139.1.length : Int) 0) else (some (([] : List Int),bt139.2))))=some (r1,r2):=h
 clear h
 replace H:=ybi H;obtain ⟨⟨t139,t142⟩,A2,H⟩:=H
 try dsimp only at H
 by_cases c3 : t142=0
 ·
  rw [if_pos c3] at H
  have c3b0 : (t142 == 0)=true:=beq_iff_eq.mpr c3
  have c3b1 : (t142 != 0)=false:=bne_eq_false_iff_eq.mpr c3
  clear c3
  have H' := zm H
  clear H
  go_enter Try.func36,Try.ntmps36
  go_wp2_with (first|((with_reducible refine gate_callee (f:=38) rfl ?_);refine ygl 13 Try.func38 #[.slice A0 l0.length c0] ?_;(with_reducible refine (band_Split.calls k _ _ l0 t139 t142 _ ?side1 HC0.out A2.out).mono ?_);(case side1=>exact yce HR0.out);rintro e w4 ⟨v140,rfl,ho0,hb⟩;refine ⟨_,rfl, ?_⟩;have HO141:=zm (Kd.N_lower (Kd.N_mono (ok' := fun k_=>True) ho0 (fun k_ hk_=>trivial)) (zE yhb));replace HB:=ybs hb;(try clear hb);(try clear ho0);obtain ⟨Ao5,co5,eo5⟩:=Kd.N_slice HO141.out;subst eo5))
  go_loopg [6,21] k (fun kq v6 v21 w' => ∃ (x6_1 : List Int) (x21_1 : Int),v21=.int .i64 x21_1∧Aside0 (band_Gains.l0 kq x6_1 t139 (t139.length : Int) x21_1=some (r1,r2))∧Aside0 (kq≤k)∧Aside0 (Kd.R (Kd.int .i64) 3 w' w.heap.size (fun _=>True) v6 x6_1)∧Aside0 (Kd.N (Kd.slice 2 (Kd.int .i64)) 53 w' w.heap.size (fun k_=>some k_≠(v6 : Value).ownBlock) (.slice Ao5 t139.length co5) t139)∧Aside0 (Below w.heap.size w w'))
  case atStart=>exact ⟨(([] : List Int)),(0),yq,H',⟨Nat.le_refl _⟩,⟨yn⟩,⟨yN0 HO141⟩,⟨yhb⟩⟩
  case round =>
   clear H'
   try clear c3b0
   try clear c3b1
   obtain ⟨x6_1,x21_1,rfl,HA,HK1,HO_6,HO_19,HB⟩:=hrel
   obtain ⟨k1,rfl⟩:=ysu gk (fun h=>by subst h;exact absurd HA.out (by simp [band_Gains.l0]))
   have H:=HA.out;clear HA
   simp only [band_Gains.l0] at H
   by_cases c6 : x21_1 < (t139.length : Int)
   ·
    rw [if_pos c6] at H
    have c6b0 : decide (x21_1 < (t139.length : Int))=true:=decide_eq_true c6
    clear c6
    replace H:=yif H;obtain ⟨c7,H⟩:=H
    have c7b0 : decide (0≤x21_1)=true:=decide_eq_true c7
    clear c7
    replace H:=yif H;obtain ⟨c8,H⟩:=H
    have c8b0 : decide (x21_1 < (t139.length : Int))=true:=decide_eq_true c8
    clear c8
    replace H:=ybi H;obtain ⟨⟨t144,t145⟩,A9,H⟩:=H
    try dsimp only at H
    replace H:=yif H;obtain ⟨c10,H⟩:=H
    have LMc10:=zm c10;clear c10
    obtain ⟨y146,hy146⟩ : ∃ y_ : List Int,y_=(x6_1 ++ [t144]):=⟨_,rfl⟩
    replace H : (band_Gains.l0 k1 y146 t139 (t139.length : Int) (wrap64 (x21_1+1)))=some (r1,r2):=yrw hy146 H
    have Ny146:=zm hy146;clear hy146
    have H' := zm H
    clear H
    have p143 : 0≤(x21_1 : Int):=yt
    have q143 : x21_1 < (t139.length : Int):=yt
    obtain ⟨ad143,A143_0,c143_0,e143,hx143_0,hl143_0,hi143_0⟩:=at_L1 (Kd.N_reads' HO_19.out).2.2 x21_1 p143 q143
    cases e143
    obtain ⟨ce143,hce143,hMe143,hcc143⟩:=Kd.N_get HO_19.out [] x21_1 p143 (by first|exact q143|exact yt|(have e_:=(Kd.N_reads' HO_19.out).1;omega))
    obtain ⟨ua143_0,uc143_0,rfl,ul143_0,ge143_0⟩:=Kd.FK_slice_open hMe143
    have hv143_0:=hcc143 0 _ rfl
    rw [Nat.add_zero,show ((Kd.slice 2 (Kd.int .i64))).sz=1 from rfl,Nat.mul_one] at hv143_0
    replace hv143_0:=Option.some.inj (hv143_0.symm.trans hx143_0)
    injection hv143_0 with hva_ hvn_ hvc_
    rw [hva_] at ge143_0
    rw [hvc_] at ul143_0
    have HL143_0:=zm (show Kd.V (Kd.int .i64) 2 _ w.heap.size _ _ (rd_L1 t139 x21_1) from Kd.V_mk ul143_0 ge143_0)
    clear hva_ hvn_ hvc_ ge143_0 ul143_0;clear hcc143 hce143;have HR143_0:=zm hi143_0;have HC143_0:=zm hl143_0;clear hi143_0 hl143_0
    replace p143:=eq_true p143
    replace q143:=eq_true q143
    go_wp2_with (first|((with_reducible refine gate_callee (f:=71) rfl ?_);refine ygl 27 Try.func71 #[.slice A143_0 (rd_L1 t139 x21_1).length c143_0] ?_;(with_reducible refine (band_Gain.calls k1 _ _ (rd_L1 t139 x21_1) t144 t145 _ ?side1 HC143_0.out A9.out).mono ?_);(case side1=>exact yce (yrc HR143_0));rintro e w' ⟨rfl,⟨nd,rfl⟩⟩;refine ⟨_,rfl, ?_⟩)|((with_reducible refine gate_builtin (b:=.append) (xs := #[.tmp 30, .tmp 32]) rfl ?_);at_builtin;refine Kd.R_append (Kd.int .i64) (w0:=w) w.heap.size rfl (.tmp 30) (.tmp 32) 55 3 (.int .i64 0) 8 rfl Try.underlying55 info3 rfl (by decide) (by omega) u6 x6_1 t144 [.int .i64 t144] (fun _=>True) (fun _=>False) rfl rfl ?aP (fun _ hk=>hk.elim) ?aF ?aO ?aB ?aS ?aL ?_;(case aP=>exact rfl);(case aB=>exact yhb);(case aF=>exact (fun _ _=>trivial));(case aO=>exact (yr HO_6));(case aS=>exact (zE yhb));(case aL=>have:=LMc10.out;omega);intro v147 w11 ho hb hg hat;rw [← Ny146.out] at ho;replace HO_19:=zm (Kd.N_afterv (ok:=(fun _=>True)) (yN0 HO_19) hg hat);replace HL143_0:=zm (Kd.V_afterv (ok:=(fun k_=>some k_≠(.slice (some ad143) t139.length co5 : Value).ownBlock)) (yV0 HL143_0) hg hat);replace HB:=zm (hb);have HO148:=zm (ho);clear HO_6;clear ho hb hg hat))
    go_roundg k1
    case measure=>exact yom1 HK1
    case rel=>exact ⟨(y146),(wrap64 (x21_1+1)),yq,H',⟨yom1 HK1⟩,⟨yr HO148⟩,⟨yN0 HO_19⟩,⟨yhb⟩⟩
   ·
    rw [if_neg c6] at H
    have c6b0 : decide (x21_1 < (t139.length : Int))=false:=decide_eq_false c6
    clear c6
    simp only [Option.some.injEq,Prod.mk.injEq] at H
    obtain ⟨rfl,rfl⟩:=H
    go_wp2
    go_ret2
    exact ⟨_,ye,yr HO_6,yhb⟩
 ·
  rw [if_neg c3] at H
  have c3b0 : (t142 == 0)=false:=beq_eq_false_iff_ne.mpr c3
  have c3b1 : (t142 != 0)=true:=bne_iff_ne.mpr c3
  simp only [Option.some.injEq,Prod.mk.injEq] at H
  obtain ⟨rfl,rfl⟩:=H
  go_enter Try.func36,Try.ntmps36
  go_wp2_with (first|((with_reducible refine gate_callee (f:=38) rfl ?_);refine ygl 13 Try.func38 #[.slice A0 l0.length c0] ?_;(with_reducible refine (band_Split.calls k _ _ l0 t139 t142 _ ?side1 HC0.out A2.out).mono ?_);(case side1=>exact yce HR0.out);rintro e w12 ⟨v140,rfl,ho0,hb⟩;refine ⟨_,rfl, ?_⟩;have HO141:=zm (Kd.N_lower (Kd.N_mono (ok' := fun k_=>True) ho0 (fun k_ hk_=>trivial)) (zE yhb));replace HB:=ybs hb;(try clear hb);(try clear ho0)))
  go_ret2
  exact ⟨_,ye,yn,yhb⟩
mutual
def ccodec_Right.j0 : Nat→Bool→List (List Int)→Option (Bool)
 | 0,_,_=>none
 | k+1,x21,x129000=>if x21=true then (some false) else (ccodec_Right.l0 k x129000 (x129000.length : Int) 0)
def ccodec_Right.l0 : Nat→List (List Int)→Int→Int→Option (Bool)
 | 0,_,_,_=>none
 | k+1,x23,x24,x25=>if x25 < x24 then (if 0≤x25 then (if x25 < (x23.length : Int) then ((band_Split.f k (rd_L1 x23 x25)).bind fun bt131=>(if bt131.2=0 then (ccodec_Right.l0 k x23 x24 (wrap64 (x25+1))) else (some false))) else (none)) else (none)) else (some true)
end
def ccodec_Right.f (k : Nat) (a0 : Int) (a1 : Int) (l2_0 : List (List Int)) : Option (Bool):=(alloc_Right.f a0 a1).bind fun t129=>(if t129=true then (ccodec_Right.j0 k ((l2_0.length : Int) != a1) l2_0) else (ccodec_Right.j0 k true l2_0))
theorem ccodec_Right.mono_l : ∀ k,(∀ y0 y1,LeO (ccodec_Right.j0 k y0 y1) (ccodec_Right.j0 (k+1) y0 y1))∧(∀ y0 y1 y2,LeO (ccodec_Right.l0 k y0 y1 y2) (ccodec_Right.l0 (k+1) y0 y1 y2))
 | 0=>⟨fun _ _ r h=>by simp [ccodec_Right.j0] at h,fun _ _ _ r h=>by simp [ccodec_Right.l0] at h⟩
 | k+1=>by
  obtain ⟨ih0,ih1⟩:=ccodec_Right.mono_l k
  refine ⟨?_, ?_⟩
  ·
   intro y0 y1
   unfold ccodec_Right.j0
   repeat' with_reducible first|apply ih0|apply ih1|apply band_Split.mono|apply yLr|apply yLn|apply yLi|apply yLb|intro _
  ·
   intro y0 y1 y2
   unfold ccodec_Right.l0
   repeat' with_reducible first|apply ih0|apply ih1|apply band_Split.mono|apply yLr|apply yLn|apply yLi|apply yLb|intro _
theorem ccodec_Right.mono : ∀ a0 a1 a2 k,LeO (ccodec_Right.f k a0 a1 a2) (ccodec_Right.f (k+1) a0 a1 a2):=by
 intro a0 a1 a2 k
 obtain ⟨ih0,ih1⟩:=ccodec_Right.mono_l k
 unfold ccodec_Right.f
 repeat' with_reducible first|apply ih0|apply ih1|apply band_Split.mono|apply yLr|apply yLn|apply yLi|apply yLb|intro _
set_option maxHeartbeats 8000000 in
set_option maxRecDepth 100000 in
theorem ccodec_Right.calls (k : Nat) (a0 : Int) (a1 : Int) (A2_0 : Option Addr) (c2_0 : Nat) (l2_0 : List (List Int)) (r : Bool) (w : World) (hr2_0 : Kd.C (Kd.slice 2 (Kd.int .i64)) w A2_0 l2_0.length l2_0) (hc2_0 : l2_0.length≤c2_0) (h : ccodec_Right.f k a0 a1 l2_0=some r) :
  Calls Try.prog 20 #[.int .i64 a0, .int .i64 a1, .agg #[.slice A2_0 l2_0.length c2_0]] w fun e w' => e=.returned (.bool r)∧Below w.heap.size w w' := by
 have hu24:=Try.underlying24;have HR2_0:=zm hr2_0;have HC2_0:=zm hc2_0;clear hr2_0 hc2_0;have HB:=zm (Below.refl w.heap.size w)
 have H : ((alloc_Right.f a0 a1).bind fun t129=>(if t129=true then (ccodec_Right.j0 k ((l2_0.length : Int) != a1) l2_0) else (ccodec_Right.j0 k true l2_0)))=some r:=h
 clear h;have HC4:=zm H;clear H
 go_enter Try.func20,Try.ntmps20
 go_upto_region 1 with (first|((with_reducible refine gate_dst (N:=5) rfl ?_);(try (refine gate_guard (by rfl) ?_;dsimp only));refine ybx 5 #[.slice A2_0 l2_0.length c2_0] 24 ?_;intro gb128 hg w5 hbox hb;have BK128:=zm (hbox);have GW128:=ygw hg;have GE128:=ygw hg;replace HB:=ybs hb;clear hb hbox hg))
 (try simp only [Act.put,List.setIfInBounds_toArray,List.set_cons_zero,List.set_cons_succ])
 go_cut [21] (fun v21 wc => ∃ (kq : Nat) (x21_3 : Bool),v21=.bool x21_3∧Aside0 (ccodec_Right.j0 kq x21_3 l2_0=some r)∧Aside0 (kq≤k)∧Aside0 (wc.heap[gb128]? = some (.cells #[(.slice A2_0 l2_0.length c2_0)] 24 (0,0)))∧Aside0 (Below w.heap.size w wc))
 case first =>
  have H:=HC4.out;clear HC4
  replace H:=ybi H;obtain ⟨t129,A6,H⟩:=H
  by_cases c7 : t129=true
  ·
   subst c7
   rw [if_pos rfl] at H
   have H' := zm H
   clear H
   go_wp2_with (first|((with_reducible refine gate_callee (f:=52) rfl ?_);refine ygl 13 Try.func52 #[.int .i64 a0, .int .i64 a1] ?_;(with_reducible refine (alloc_Right.calls a0 a1 true _ A6.out).mono ?_);rintro e w' ⟨rfl,⟨nd,rfl⟩⟩;refine ⟨_,rfl, ?_⟩;obtain ⟨_,_⟩:=yc1 BK128))
   go_meet
   case rel=>exact ⟨_,(((l2_0.length : Int) != a1)),yq,H',⟨yo⟩,⟨yk BK128⟩,⟨yhb⟩⟩
  ·
   replace c7:=Bool.eq_false_iff.mpr c7
   subst c7
   rw [ynf] at H
   have H' := zm H
   clear H
   go_wp2_with (first|((with_reducible refine gate_callee (f:=52) rfl ?_);refine ygl 13 Try.func52 #[.int .i64 a0, .int .i64 a1] ?_;(with_reducible refine (alloc_Right.calls a0 a1 false _ A6.out).mono ?_);rintro e w' ⟨rfl,⟨nd,rfl⟩⟩;refine ⟨_,rfl, ?_⟩))
   go_meet
   case rel=>exact ⟨_,(true),yq,H',⟨yo⟩,⟨yk BK128⟩,⟨yhb⟩⟩
 case rest =>
  clear HC4
  obtain ⟨kq,x21_3,rfl,HA,HJ3,BK128,HB⟩:=hcut
  obtain ⟨kj3,rfl⟩:=ysu kq (fun h=>by subst h;exact absurd HA.out (by simp [ccodec_Right.j0]))
  have H:=HA.out;clear HA
  simp only [ccodec_Right.j0] at H
  by_cases c9 : x21_3=true
  ·
   subst c9
   rw [if_pos rfl] at H
   obtain rfl:=Option.some.inj H
   go_wp2
   go_ret
   exact ⟨ye,yhb⟩
  ·
   replace c9:=Bool.eq_false_iff.mpr c9
   subst c9
   rw [ynf] at H
   have H' := zm H
   clear H
   obtain ⟨hcz10_0,hfz10_0⟩:=yc1 BK128
   go_wp2
   go_loopg [25] kj3 (fun kq v25 w' => ∃ (x25_2 : Int),v25=.int .i64 x25_2∧Aside0 (ccodec_Right.l0 kq l2_0 (l2_0.length : Int) x25_2=some r)∧Aside0 (kq≤kj3)∧Aside0 (w'.heap[gb128]? = some (.cells #[(.slice A2_0 l2_0.length c2_0)] 24 (0,0)))∧Aside0 (Below w.heap.size w w'))
   case atStart=>exact ⟨(0),yq,H',⟨Nat.le_refl _⟩,⟨yk BK128⟩,⟨yhb⟩⟩
   case round =>
    clear H'
    try clear hcz10_0
    try clear hfz10_0
    obtain ⟨x25_2,rfl,HA,HK2,BK128,HB⟩:=hrel
    obtain ⟨k2,rfl⟩:=ysu gk (fun h=>by subst h;exact absurd HA.out (by simp [ccodec_Right.l0]))
    have H:=HA.out;clear HA
    simp only [ccodec_Right.l0] at H
    by_cases c11 : x25_2 < (l2_0.length : Int)
    ·
     rw [if_pos c11] at H
     have c11b0 : decide (x25_2 < (l2_0.length : Int))=true:=decide_eq_true c11
     clear c11
     replace H:=yif H;obtain ⟨c12,H⟩:=H
     have c12b0 : decide (0≤x25_2)=true:=decide_eq_true c12
     clear c12
     replace H:=yif H;obtain ⟨c13,H⟩:=H
     have c13b0 : decide (x25_2 < (l2_0.length : Int))=true:=decide_eq_true c13
     clear c13
     replace H:=ybi H;obtain ⟨⟨t131,t134⟩,A14,H⟩:=H
     try dsimp only at H
     by_cases c15 : t134=0
     ·
      rw [if_pos c15] at H
      have c15b0 : (t134 == 0)=true:=beq_iff_eq.mpr c15
      have c15b1 : (t134 != 0)=false:=bne_eq_false_iff_eq.mpr c15
      clear c15
      have H' := zm H
      clear H
      have p130 : 0≤(x25_2 : Int):=yt
      have q130 : x25_2 < (l2_0.length : Int):=yt
      obtain ⟨ad130,A130_0,c130_0,e130,hx130_0,hl130_0,hi130_0⟩:=at_L1 HR2_0.out x25_2 p130 q130
      cases e130
      replace hx130_0:=yhx HB hx130_0
      have HR130_0:=zm hi130_0;have HC130_0:=zm hl130_0;clear hi130_0 hl130_0
      replace p130:=eq_true p130
      replace q130:=eq_true q130
      go_wp2_with (first|((with_reducible refine gate_callee (f:=38) rfl ?_);refine ygl 31 Try.func38 #[.slice A130_0 (rd_L1 l2_0 x25_2).length c130_0] ?_;(with_reducible refine (band_Split.calls k2 _ _ (rd_L1 l2_0 x25_2) t131 t134 _ ?side1 HC130_0.out A14.out).mono ?_);(case side1=>exact ycb HR130_0);rintro e w16 ⟨v132,rfl,ho0,hb⟩;refine ⟨_,rfl, ?_⟩;have HO133:=zm (Kd.N_lower (Kd.N_mono (ok' := fun k_=>k_≠gb128) ho0 (fun k_ hk_=>(Kd.freshB (yk BK128) k_ hk_))) (zE yhb));replace BK128:=ybb BK128 hb;replace HB:=ybs hb;(try clear hb);(try clear ho0)))
      go_roundg k2
      case measure=>exact yom2 HJ3 HK2
      case rel=>exact ⟨(wrap64 (x25_2+1)),yq,H',⟨yom2 HJ3 HK2⟩,⟨yk BK128⟩,⟨yhb⟩⟩
     ·
      rw [if_neg c15] at H
      have c15b0 : (t134 == 0)=false:=beq_eq_false_iff_ne.mpr c15
      have c15b1 : (t134 != 0)=true:=bne_iff_ne.mpr c15
      obtain rfl:=Option.some.inj H
      have p130 : 0≤(x25_2 : Int):=yt
      have q130 : x25_2 < (l2_0.length : Int):=yt
      obtain ⟨ad130,A130_0,c130_0,e130,hx130_0,hl130_0,hi130_0⟩:=at_L1 HR2_0.out x25_2 p130 q130
      cases e130
      replace hx130_0:=yhx HB hx130_0
      have HR130_0:=zm hi130_0;have HC130_0:=zm hl130_0;clear hi130_0 hl130_0
      replace p130:=eq_true p130
      replace q130:=eq_true q130
      go_wp2_with (first|((with_reducible refine gate_callee (f:=38) rfl ?_);refine ygl 31 Try.func38 #[.slice A130_0 (rd_L1 l2_0 x25_2).length c130_0] ?_;(with_reducible refine (band_Split.calls k2 _ _ (rd_L1 l2_0 x25_2) t131 t134 _ ?side1 HC130_0.out A14.out).mono ?_);(case side1=>exact ycb HR130_0);rintro e w17 ⟨v132,rfl,ho0,hb⟩;refine ⟨_,rfl, ?_⟩;have HO133:=zm (Kd.N_lower (Kd.N_mono (ok' := fun k_=>k_≠gb128) ho0 (fun k_ hk_=>(Kd.freshB (yk BK128) k_ hk_))) (zE yhb));replace BK128:=ybb BK128 hb;replace HB:=ybs hb;(try clear hb);(try clear ho0)))
      go_ret
      exact ⟨ye,yhb⟩
    ·
     rw [if_neg c11] at H
     have c11b0 : decide (x25_2 < (l2_0.length : Int))=false:=decide_eq_false c11
     clear c11
     obtain rfl:=Option.some.inj H
     go_wp2
     go_ret
     exact ⟨ye,yhb⟩
def pvq_above.f (a0_0 : Int) (a0_1 : Int) (a1_0 : Int) (a1_1 : Int) : Option (Bool):=some (decide ((wrap64 ((wrap64 (a0_0 * a0_0)) * a1_1)) > (wrap64 ((wrap64 (a1_0 * a1_0)) * a0_1))))
set_option maxHeartbeats 8000000 in
set_option maxRecDepth 100000 in
theorem pvq_above.calls (a0_0 : Int) (a0_1 : Int) (a1_0 : Int) (a1_1 : Int) (r : Bool) (w : World) (h : pvq_above.f a0_0 a0_1 a1_0 a1_1=some r) :
  Calls Try.prog 115 #[.agg #[.int .i64 a0_0, .int .i64 a0_1], .agg #[.int .i64 a1_0, .int .i64 a1_1]] w fun e w' => e=.returned (.bool r)∧Below w.heap.size w w' := by
 have hu117:=Try.underlying117;have HB:=zm (Below.refl w.heap.size w)
 have H : (some (decide ((wrap64 ((wrap64 (a0_0 * a0_0)) * a1_1)) > (wrap64 ((wrap64 (a1_0 * a1_0)) * a0_1)))))=some r:=h
 clear h
 obtain rfl:=Option.some.inj H
 go_enter Try.func115,Try.ntmps115
 go_wp2_with (first|((with_reducible refine gate_dst (N:=2) rfl ?_);refine ybx 2 #[.int .i64 a0_0, .int .i64 a0_1] 117 ?_;intro gb207 hg w3 hbox hb;have BK207:=zm (hbox);have GW207:=ygw hg;have GE207:=ygw hg;replace HB:=ybs hb;clear hb hbox hg)|((with_reducible refine gate_dst (N:=3) rfl ?_);refine ybx 3 #[.int .i64 a1_0, .int .i64 a1_1] 117 ?_;intro gb208 hg w4 hbox hb;have BK208:=zm (hbox);have GW208:=ygw hg;have GE208:=ygw hg;replace HB:=ybs hb;have NB207_208:=ynl BK207 hg;have NB208_207:=yng BK207 hg;replace BK207:=ybb BK207 hb;clear hb hbox hg;have:=NB207_208.out;have:=NB208_207.out;obtain ⟨_,_,_,_⟩:=yc2 BK207;obtain ⟨_,_,_,_⟩:=yc2 BK208))
 go_ret
 exact ⟨ye,yhb⟩
def pvq_best.l0 : Nat→List (S117)→Int→Int→Int→Option (Int)
 | 0,_,_,_,_=>none
 | k+1,x0,x3,x7,x8=>if x8 < x7 then (if 0≤x8 then (if x8 < (x0.length : Int) then (if 0≤x3 then (if x3 < (x0.length : Int) then (if (!(((rd_T117 x0 x8).f0) == ((rd_T117 x0 x3).f0)) || (!(((rd_T117 x0 x8).f1) == ((rd_T117 x0 x3).f1))))=true then ((pvq_above.f ((rd_T117 x0 x8).f0) ((rd_T117 x0 x8).f1) ((rd_T117 x0 x3).f0) ((rd_T117 x0 x3).f1)).bind fun t213=>(if t213=true then (pvq_best.l0 k x0 x8 x7 (wrap64 (x8+1))) else (pvq_best.l0 k x0 x3 x7 (wrap64 (x8+1))))) else (pvq_best.l0 k x0 x3 x7 (wrap64 (x8+1)))) else (none)) else (none)) else (none)) else (none)) else (some x3)
def pvq_best.f (k : Nat) (l0 : List (S117)) : Option (Int):=pvq_best.l0 k l0 0 (l0.length : Int) 0
theorem pvq_best.mono_l : ∀ k,(∀ y0 y1 y2 y3,LeO (pvq_best.l0 k y0 y1 y2 y3) (pvq_best.l0 (k+1) y0 y1 y2 y3))
 | 0=>fun _ _ _ _ r h=>by simp [pvq_best.l0] at h
 | k+1=>by
  have ih0:=pvq_best.mono_l k
  ·
   intro y0 y1 y2 y3
   unfold pvq_best.l0
   repeat' with_reducible first|apply ih0|apply yLr|apply yLn|apply yLi|apply yLb|intro _
theorem pvq_best.mono : ∀ a0 k,LeO (pvq_best.f k a0) (pvq_best.f (k+1) a0):=by
 intro a0 k
 have ih0:=pvq_best.mono_l k
 unfold pvq_best.f
 repeat' with_reducible first|apply ih0|apply yLr|apply yLn|apply yLi|apply yLb|intro _
def pvq_best.T6 : Bool × List (List Nat × List Nat):=(true, [([], []),([], []),([0,1], [0,1]),([2], [2]),([], []),([], []),([4,5], [4,5]),([6], [6]),([3,7], [3,7]),([8], [8]),([9], [9]),([9], [9]),([9], [9]),([11,12,9], [9,11,12]),([13,9], [9,13]),([9], [9]),([9], [9]),([15,16,9], [9,15,16]),([17,9], [9,17]),([10,14,18,9,9], [9,10,14,18]),([9,19], [9,19])])
def pvq_best.B6 : List Nat := [0,0,3,7,0,0,48,112,255,511,1023,1023,1023,7167,15359,1023,1023,99327,230399,524287,1048575]
theorem pvq_best.tab6 : rtab .any (opsOf Try.f81 6)=pvq_best.T6:=by kernel_rfl
theorem pvq_best.bits6 : waitsOk pvq_best.T6.2 pvq_best.B6=true:=by kernel_rfl
set_option maxHeartbeats 8000000 in
set_option maxRecDepth 100000 in
theorem pvq_best.calls (k : Nat) (A0 : Option Addr) (c0 : Nat) (l0 : List (S117)) (r : Int) (w : World) (hr0 : Kd.C k117 w A0 l0.length l0) (hc0 : l0.length≤c0) (h : pvq_best.f k l0=some r) :
  Calls Try.prog 81 #[.slice A0 l0.length c0] w fun e w' => e=.returned (.int .i64 r)∧Below w.heap.size w w' := by
 have hu117:=Try.underlying117;have HR0:=zm hr0;have HC0:=zm hc0;clear hr0 hc0;have HB:=zm (Below.refl w.heap.size w)
 have H : (pvq_best.l0 k l0 0 (l0.length : Int) 0)=some r:=h
 clear h
 have H' := zm H
 clear H
 go_enter Try.func81,Try.ntmps81
 go_wp2
 go_loopg [3,8] k (fun kq v3 v8 w' => ∃ (x3_1 : Int) (x8_1 : Int),v3=.int .i64 x3_1∧v8=.int .i64 x8_1∧Aside0 (pvq_best.l0 kq l0 x3_1 (l0.length : Int) x8_1=some r)∧Aside0 (kq≤k)∧Aside0 (Below w.heap.size w w'))
 case atStart=>exact ⟨(0),(0),yq,yq,H',⟨Nat.le_refl _⟩,⟨yhb⟩⟩
 case round =>
  clear H'
  obtain ⟨x3_1,x8_1,rfl,rfl,HA,HK1,HB⟩:=hrel
  obtain ⟨k1,rfl⟩:=ysu gk (fun h=>by subst h;exact absurd HA.out (by simp [pvq_best.l0]))
  have H:=HA.out;clear HA
  simp only [pvq_best.l0] at H
  by_cases c2 : x8_1 < (l0.length : Int)
  ·
   rw [if_pos c2] at H
   have c2b0 : decide (x8_1 < (l0.length : Int))=true:=decide_eq_true c2
   clear c2
   replace H:=yif H;obtain ⟨c3,H⟩:=H
   have c3b0 : decide (0≤x8_1)=true:=decide_eq_true c3
   clear c3
   replace H:=yif H;obtain ⟨c4,H⟩:=H
   have c4b0 : decide (x8_1 < (l0.length : Int))=true:=decide_eq_true c4
   clear c4
   replace H:=yif H;obtain ⟨c5,H⟩:=H
   have c5b0 : decide (0≤x3_1)=true:=decide_eq_true c5
   clear c5
   replace H:=yif H;obtain ⟨c6,H⟩:=H
   have c6b0 : decide (x3_1 < (l0.length : Int))=true:=decide_eq_true c6
   clear c6
   by_cases c7 : (!(((rd_T117 l0 x8_1).f0) == ((rd_T117 l0 x3_1).f0)) || (!(((rd_T117 l0 x8_1).f1) == ((rd_T117 l0 x3_1).f1))))=true
   ·
    rw [if_pos c7] at H
    have c7b0 : (!(((rd_T117 l0 x8_1).f0) == ((rd_T117 l0 x3_1).f0)) || (!(((rd_T117 l0 x8_1).f1) == ((rd_T117 l0 x3_1).f1))))=true:=c7
    clear c7
    replace H:=ybi H;obtain ⟨t213,A8,H⟩:=H
    by_cases c9 : t213=true
    ·
     subst c9
     rw [if_pos rfl] at H
     have H' := zm H
     clear H
     try go_wp2
     replace HB:=zm (zf HB.out)
     have p209 : 0≤(x8_1 : Int):=yt
     have q209 : x8_1 < (l0.length : Int):=yt
     obtain ⟨ad209,e209,hx209_0,hx209_1⟩:=at_T117 HR0.out x8_1 p209 q209
     have hw209_1:=hx209_1;have hw209_0:=hx209_0
     cases e209
     replace hx209_0:=yhx HB hx209_0
     replace hx209_1:=yhx HB hx209_1
     replace p209:=eq_true p209
     replace q209:=eq_true q209
     have p210 : 0≤(x3_1 : Int):=yt
     have q210 : x3_1 < (l0.length : Int):=yt
     obtain ⟨ad210,e210,hx210_0,hx210_1⟩:=at_T117 HR0.out x3_1 p210 q210
     have hw210_1:=hx210_1;have hw210_0:=hx210_0
     obtain rfl : ad209=ad210:=(by injection e210)
     replace hx210_0:=yhx HB hx210_0
     replace hx210_1:=yhx HB hx210_1
     replace p210:=eq_true p210
     replace q210:=eq_true q210
     have p211 : 0≤(x8_1 : Int):=yt
     have q211 : x8_1 < (l0.length : Int):=yt
     obtain ⟨ad211,e211,hx211_0,hx211_1⟩:=at_T117 HR0.out x8_1 p211 q211
     have hw211_1:=hx211_1;have hw211_0:=hx211_0
     obtain rfl : ad209=ad211:=(by injection e211)
     replace hx211_0:=yhx HB hx211_0
     replace hx211_1:=yhx HB hx211_1
     replace p211:=eq_true p211
     replace q211:=eq_true q211
     have p212 : 0≤(x3_1 : Int):=yt
     have q212 : x3_1 < (l0.length : Int):=yt
     obtain ⟨ad212,e212,hx212_0,hx212_1⟩:=at_T117 HR0.out x3_1 p212 q212
     have hw212_1:=hx212_1;have hw212_0:=hx212_0
     obtain rfl : ad209=ad212:=(by injection e212)
     replace hx212_0:=yhx HB hx212_0
     replace hx212_1:=yhx HB hx212_1
     replace p212:=eq_true p212
     replace q212:=eq_true q212
     refine yst (fun w' => w'.cell? (ad209.add ((x8_1).toNat * 2))=some (.int .i64 ((rd_T117 l0 x8_1).f0))∧w'.cell? ⟨(ad209.add ((x8_1).toNat * 2)).block,(ad209.add ((x8_1).toNat * 2)).off+1,none⟩=some (.int .i64 ((rd_T117 l0 x8_1).f1))∧w'.cell? (ad209.add ((x3_1).toNat * 2))=some (.int .i64 ((rd_T117 l0 x3_1).f0))∧w'.cell? ⟨(ad209.add ((x3_1).toNat * 2)).block,(ad209.add ((x3_1).toNat * 2)).off+1,none⟩=some (.int .i64 ((rd_T117 l0 x3_1).f1))∧w'.cell? (ad209.add ((x8_1).toNat * 2))=some (.int .i64 ((rd_T117 l0 x8_1).f0))∧w'.cell? ⟨(ad209.add ((x8_1).toNat * 2)).block,(ad209.add ((x8_1).toNat * 2)).off+1,none⟩=some (.int .i64 ((rd_T117 l0 x8_1).f1))∧w'.cell? (ad209.add ((x3_1).toNat * 2))=some (.int .i64 ((rd_T117 l0 x3_1).f0))∧w'.cell? ⟨(ad209.add ((x3_1).toNat * 2)).block,(ad209.add ((x3_1).toNat * 2)).off+1,none⟩=some (.int .i64 ((rd_T117 l0 x3_1).f1))) [] 21 pvq_best.tab6 pvq_best.bits6 (fun hHeld HT_ HW_ => ?_)
     generalize wr.drew=w10 at HB hx209_0 hx209_1 hx210_0 hx210_1 hx211_0 hx211_1 hx212_0 hx212_1 hHeld ⊢
     refine yp 0 11 HT_ ?_
     refine yp 1 12 HT_ ?_
     refine yp 2 13 HT_ ?_
     refine yp 4 15 HT_ ?_
     refine yp 5 16 HT_ ?_
     refine yp 6 17 HT_ ?_
     refine yl 3 14 HT_ HW_ hHeld ?_
     refine yl 7 18 HT_ HW_ hHeld ?_
     refine pure_ (i:=8) (N:=some 19) (v:=.bool true) (a' := ?_) #[true,true,true,true,true,true,true,true,true,false,false,false,false,false,false,false,false,false,false,false,false] rfl rfl (any_of HT_.out (by kernel_rfl)) (fun _ _ _ h=>h) (Or.inl ⟨by rfl, ?_⟩) ?_ ?_

     ·
      intro w'
      go_simp
      (rcases Decidable.em ((rd_T117 l0 x8_1).f0=(rd_T117 l0 x3_1).f0) with e0_|e0_ <;> rcases Decidable.em ((rd_T117 l0 x8_1).f1=(rd_T117 l0 x3_1).f1) with e1_|e1_ <;> simp [e0_,e1_] at c7b0 ⊢)
     rotate_left
     ·
      simp only [Act.put,List.setIfInBounds_toArray,List.set_cons_zero,List.set_cons_succ,i64_w,i32_w]
      rfl
     refine yp 9 20 HT_ ?_
     refine yp 10 21 HT_ ?_
     refine yp 11 22 HT_ ?_
     refine yp 12 23 HT_ ?_
     refine yp 13 24 HT_ ?_
     refine yp 15 26 HT_ ?_
     refine yp 16 27 HT_ ?_
     refine yp 17 28 HT_ ?_
     refine yl 14 25 HT_ HW_ hHeld ?_
     refine yl 18 29 HT_ HW_ hHeld ?_
     refine yw 19 30 HT_ (fun K hK => ?_)
     refine call_ 115 #[.agg #[.int .i64 ((rd_T117 l0 x8_1).f0), .int .i64 ((rd_T117 l0 x8_1).f1)], .agg #[.int .i64 ((rd_T117 l0 x3_1).f0), .int .i64 ((rd_T117 l0 x3_1).f1)]] (by rfl) rfl ?hrun ?_
     (case hrun =>
      have he:=fun x W=>enters_ Try.func115 (by kernel_rfl) rfl x W
      unfold execOp
      simp [resolve,Deferred.ofValue,invoke,Act.eval,he])
     with_reducible refine (pvq_above.calls ((rd_T117 l0 x8_1).f0) ((rd_T117 l0 x8_1).f1) ((rd_T117 l0 x3_1).f0) ((rd_T117 l0 x3_1).f1) true _ A8.out).mono ?_
     rintro e w11 ⟨rfl,hb⟩
     refine ⟨_,rfl, ?_⟩
     replace HB:=ybs hb
     (try clear hb)
     refine hK.out _ _ yH (fun hHeld => ?_)
     clear hK K
     refine ym (some 30) ?_
     refine yp 20 31 HT_ ?_
     refine done_ (done_of HT_.out (by kernel_rfl)) ?_
     try go_wp2
     go_roundg k1
     case measure=>exact yom1 HK1
     case rel=>exact ⟨(x8_1),(wrap64 (x8_1+1)),yq,yq,H',⟨yom1 HK1⟩,⟨yhb⟩⟩
    ·
     replace c9:=Bool.eq_false_iff.mpr c9
     subst c9
     rw [ynf] at H
     have H' := zm H
     clear H
     try go_wp2
     replace HB:=zm (zf HB.out)
     have p209 : 0≤(x8_1 : Int):=yt
     have q209 : x8_1 < (l0.length : Int):=yt
     obtain ⟨ad209,e209,hx209_0,hx209_1⟩:=at_T117 HR0.out x8_1 p209 q209
     have hw209_1:=hx209_1;have hw209_0:=hx209_0
     cases e209
     replace hx209_0:=yhx HB hx209_0
     replace hx209_1:=yhx HB hx209_1
     replace p209:=eq_true p209
     replace q209:=eq_true q209
     have p210 : 0≤(x3_1 : Int):=yt
     have q210 : x3_1 < (l0.length : Int):=yt
     obtain ⟨ad210,e210,hx210_0,hx210_1⟩:=at_T117 HR0.out x3_1 p210 q210
     have hw210_1:=hx210_1;have hw210_0:=hx210_0
     obtain rfl : ad209=ad210:=(by injection e210)
     replace hx210_0:=yhx HB hx210_0
     replace hx210_1:=yhx HB hx210_1
     replace p210:=eq_true p210
     replace q210:=eq_true q210
     have p211 : 0≤(x8_1 : Int):=yt
     have q211 : x8_1 < (l0.length : Int):=yt
     obtain ⟨ad211,e211,hx211_0,hx211_1⟩:=at_T117 HR0.out x8_1 p211 q211
     have hw211_1:=hx211_1;have hw211_0:=hx211_0
     obtain rfl : ad209=ad211:=(by injection e211)
     replace hx211_0:=yhx HB hx211_0
     replace hx211_1:=yhx HB hx211_1
     replace p211:=eq_true p211
     replace q211:=eq_true q211
     have p212 : 0≤(x3_1 : Int):=yt
     have q212 : x3_1 < (l0.length : Int):=yt
     obtain ⟨ad212,e212,hx212_0,hx212_1⟩:=at_T117 HR0.out x3_1 p212 q212
     have hw212_1:=hx212_1;have hw212_0:=hx212_0
     obtain rfl : ad209=ad212:=(by injection e212)
     replace hx212_0:=yhx HB hx212_0
     replace hx212_1:=yhx HB hx212_1
     replace p212:=eq_true p212
     replace q212:=eq_true q212
     refine yst (fun w' => w'.cell? (ad209.add ((x8_1).toNat * 2))=some (.int .i64 ((rd_T117 l0 x8_1).f0))∧w'.cell? ⟨(ad209.add ((x8_1).toNat * 2)).block,(ad209.add ((x8_1).toNat * 2)).off+1,none⟩=some (.int .i64 ((rd_T117 l0 x8_1).f1))∧w'.cell? (ad209.add ((x3_1).toNat * 2))=some (.int .i64 ((rd_T117 l0 x3_1).f0))∧w'.cell? ⟨(ad209.add ((x3_1).toNat * 2)).block,(ad209.add ((x3_1).toNat * 2)).off+1,none⟩=some (.int .i64 ((rd_T117 l0 x3_1).f1))∧w'.cell? (ad209.add ((x8_1).toNat * 2))=some (.int .i64 ((rd_T117 l0 x8_1).f0))∧w'.cell? ⟨(ad209.add ((x8_1).toNat * 2)).block,(ad209.add ((x8_1).toNat * 2)).off+1,none⟩=some (.int .i64 ((rd_T117 l0 x8_1).f1))∧w'.cell? (ad209.add ((x3_1).toNat * 2))=some (.int .i64 ((rd_T117 l0 x3_1).f0))∧w'.cell? ⟨(ad209.add ((x3_1).toNat * 2)).block,(ad209.add ((x3_1).toNat * 2)).off+1,none⟩=some (.int .i64 ((rd_T117 l0 x3_1).f1))) [] 21 pvq_best.tab6 pvq_best.bits6 (fun hHeld HT_ HW_ => ?_)
     generalize wr.drew=w12 at HB hx209_0 hx209_1 hx210_0 hx210_1 hx211_0 hx211_1 hx212_0 hx212_1 hHeld ⊢
     refine yp 0 11 HT_ ?_
     refine yp 1 12 HT_ ?_
     refine yp 2 13 HT_ ?_
     refine yp 4 15 HT_ ?_
     refine yp 5 16 HT_ ?_
     refine yp 6 17 HT_ ?_
     refine yl 3 14 HT_ HW_ hHeld ?_
     refine yl 7 18 HT_ HW_ hHeld ?_
     refine pure_ (i:=8) (N:=some 19) (v:=.bool true) (a' := ?_) #[true,true,true,true,true,true,true,true,true,false,false,false,false,false,false,false,false,false,false,false,false] rfl rfl (any_of HT_.out (by kernel_rfl)) (fun _ _ _ h=>h) (Or.inl ⟨by rfl, ?_⟩) ?_ ?_

     ·
      intro w'
      go_simp
      (rcases Decidable.em ((rd_T117 l0 x8_1).f0=(rd_T117 l0 x3_1).f0) with e0_|e0_ <;> rcases Decidable.em ((rd_T117 l0 x8_1).f1=(rd_T117 l0 x3_1).f1) with e1_|e1_ <;> simp [e0_,e1_] at c7b0 ⊢)
     rotate_left
     ·
      simp only [Act.put,List.setIfInBounds_toArray,List.set_cons_zero,List.set_cons_succ,i64_w,i32_w]
      rfl
     refine yp 9 20 HT_ ?_
     refine yp 10 21 HT_ ?_
     refine yp 11 22 HT_ ?_
     refine yp 12 23 HT_ ?_
     refine yp 13 24 HT_ ?_
     refine yp 15 26 HT_ ?_
     refine yp 16 27 HT_ ?_
     refine yp 17 28 HT_ ?_
     refine yl 14 25 HT_ HW_ hHeld ?_
     refine yl 18 29 HT_ HW_ hHeld ?_
     refine yw 19 30 HT_ (fun K hK => ?_)
     refine call_ 115 #[.agg #[.int .i64 ((rd_T117 l0 x8_1).f0), .int .i64 ((rd_T117 l0 x8_1).f1)], .agg #[.int .i64 ((rd_T117 l0 x3_1).f0), .int .i64 ((rd_T117 l0 x3_1).f1)]] (by rfl) rfl ?hrun ?_
     (case hrun =>
      have he:=fun x W=>enters_ Try.func115 (by kernel_rfl) rfl x W
      unfold execOp
      simp [resolve,Deferred.ofValue,invoke,Act.eval,he])
     with_reducible refine (pvq_above.calls ((rd_T117 l0 x8_1).f0) ((rd_T117 l0 x8_1).f1) ((rd_T117 l0 x3_1).f0) ((rd_T117 l0 x3_1).f1) false _ A8.out).mono ?_
     rintro e w13 ⟨rfl,hb⟩
     refine ⟨_,rfl, ?_⟩
     replace HB:=ybs hb
     (try clear hb)
     refine hK.out _ _ yH (fun hHeld => ?_)
     clear hK K
     refine ym (some 30) ?_
     refine yp 20 31 HT_ ?_
     refine done_ (done_of HT_.out (by kernel_rfl)) ?_
     try go_wp2
     go_roundg k1
     case measure=>exact yom1 HK1
     case rel=>exact ⟨(x3_1),(wrap64 (x8_1+1)),yq,yq,H',⟨yom1 HK1⟩,⟨yhb⟩⟩
   ·
    rw [if_neg c7] at H
    have c7b0 : (!(((rd_T117 l0 x8_1).f0) == ((rd_T117 l0 x3_1).f0)) || (!(((rd_T117 l0 x8_1).f1) == ((rd_T117 l0 x3_1).f1))))=false:=by simpa using c7
    clear c7
    have H' := zm H
    clear H
    try go_wp2
    replace HB:=zm (zf HB.out)
    have p209 : 0≤(x8_1 : Int):=yt
    have q209 : x8_1 < (l0.length : Int):=yt
    obtain ⟨ad209,e209,hx209_0,hx209_1⟩:=at_T117 HR0.out x8_1 p209 q209
    have hw209_1:=hx209_1;have hw209_0:=hx209_0
    cases e209
    replace hx209_0:=yhx HB hx209_0
    replace hx209_1:=yhx HB hx209_1
    replace p209:=eq_true p209
    replace q209:=eq_true q209
    have p210 : 0≤(x3_1 : Int):=yt
    have q210 : x3_1 < (l0.length : Int):=yt
    obtain ⟨ad210,e210,hx210_0,hx210_1⟩:=at_T117 HR0.out x3_1 p210 q210
    have hw210_1:=hx210_1;have hw210_0:=hx210_0
    obtain rfl : ad209=ad210:=(by injection e210)
    replace hx210_0:=yhx HB hx210_0
    replace hx210_1:=yhx HB hx210_1
    replace p210:=eq_true p210
    replace q210:=eq_true q210
    refine yst (fun w' => w'.cell? (ad209.add ((x8_1).toNat * 2))=some (.int .i64 ((rd_T117 l0 x8_1).f0))∧w'.cell? ⟨(ad209.add ((x8_1).toNat * 2)).block,(ad209.add ((x8_1).toNat * 2)).off+1,none⟩=some (.int .i64 ((rd_T117 l0 x8_1).f1))∧w'.cell? (ad209.add ((x3_1).toNat * 2))=some (.int .i64 ((rd_T117 l0 x3_1).f0))∧w'.cell? ⟨(ad209.add ((x3_1).toNat * 2)).block,(ad209.add ((x3_1).toNat * 2)).off+1,none⟩=some (.int .i64 ((rd_T117 l0 x3_1).f1))) [] 21 pvq_best.tab6 pvq_best.bits6 (fun hHeld HT_ HW_ => ?_)
    generalize wr.drew=w14 at HB hx209_0 hx209_1 hx210_0 hx210_1 hHeld ⊢
    refine yp 0 11 HT_ ?_
    refine yp 1 12 HT_ ?_
    refine yp 2 13 HT_ ?_
    refine yp 4 15 HT_ ?_
    refine yp 5 16 HT_ ?_
    refine yp 6 17 HT_ ?_
    refine yl 3 14 HT_ HW_ hHeld ?_
    refine yl 7 18 HT_ HW_ hHeld ?_
    refine pure_ (i:=8) (N:=some 19) (v:=.bool false) (a' := ?_) #[true,true,true,true,true,true,true,true,true,false,false,false,false,false,false,false,false,false,false,false,false] rfl rfl (any_of HT_.out (by kernel_rfl)) (fun _ _ _ h=>h) (Or.inl ⟨by rfl, ?_⟩) ?_ ?_

    ·
     intro w'
     go_simp
     (rcases Decidable.em ((rd_T117 l0 x8_1).f0=(rd_T117 l0 x3_1).f0) with e0_|e0_ <;> rcases Decidable.em ((rd_T117 l0 x8_1).f1=(rd_T117 l0 x3_1).f1) with e1_|e1_ <;> simp [e0_,e1_] at c7b0 ⊢)
    rotate_left
    ·
     simp only [Act.put,List.setIfInBounds_toArray,List.set_cons_zero,List.set_cons_succ,i64_w,i32_w]
     rfl
    refine yp 9 20 HT_ ?_
    refine yu 10 21 HT_ ?_
    refine yu 11 22 HT_ ?_
    refine yu 12 23 HT_ ?_
    refine yu 13 24 HT_ ?_
    refine yu 14 25 HT_ ?_
    refine yu 15 26 HT_ ?_
    refine yu 16 27 HT_ ?_
    refine yu 17 28 HT_ ?_
    refine yu 18 29 HT_ ?_
    refine yu 19 30 HT_ ?_
    refine yp 20 31 HT_ ?_
    refine done_ (done_of HT_.out (by kernel_rfl)) ?_
    try go_wp2
    go_roundg k1
    case measure=>exact yom1 HK1
    case rel=>exact ⟨(x3_1),(wrap64 (x8_1+1)),yq,yq,H',⟨yom1 HK1⟩,⟨yhb⟩⟩
  ·
   rw [if_neg c2] at H
   have c2b0 : decide (x8_1 < (l0.length : Int))=false:=decide_eq_false c2
   clear c2
   obtain rfl:=Option.some.inj H
   go_wp2
   go_ret
   exact ⟨ye,yhb⟩
def num_Shift.f (a0 : Int) (a1 : Int) : Option (Int × Int):=if a1 < 0 then (some (0,1)) else (if a1 > 62 then (some (0,1)) else (if 0≤(IntKind.u64.wrap (a1)) then (some (shr .i64 a0 (IntKind.u64.wrap (a1)),0)) else (none)))
set_option maxHeartbeats 8000000 in
set_option maxRecDepth 100000 in
theorem num_Shift.calls (a0 : Int) (a1 : Int) (r1 : Int) (r2 : Int) (w : World) (h : num_Shift.f a0 a1=some (r1,r2)) :
  Calls Try.prog 114 #[.int .i64 a0, .int .i64 a1] w fun e w' => e=.returned (.tuple #[.int .i64 r1, .int .i64 r2])∧Drawn0 w w' := by
 have H : (if a1 < 0 then (some (0,1)) else (if a1 > 62 then (some (0,1)) else (if 0≤(IntKind.u64.wrap (a1)) then (some (shr .i64 a0 (IntKind.u64.wrap (a1)),0)) else (none))))=some (r1,r2):=h
 clear h
 by_cases c3 : a1 < 0
 ·
  rw [if_pos c3] at H
  have c3b0 : decide (a1 < 0)=true:=decide_eq_true c3
  clear c3
  simp only [Option.some.injEq,Prod.mk.injEq] at H
  obtain ⟨rfl,rfl⟩:=H
  go_enter Try.func114,Try.ntmps114
  go_wp2
  go_ret2
  exact ⟨yq,yd⟩
 ·
  rw [if_neg c3] at H
  have c3b0 : decide (a1 < 0)=false:=decide_eq_false c3
  clear c3
  by_cases c4 : a1 > 62
  ·
   rw [if_pos c4] at H
   have c4b0 : decide (62 < a1)=true:=decide_eq_true c4
   clear c4
   simp only [Option.some.injEq,Prod.mk.injEq] at H
   obtain ⟨rfl,rfl⟩:=H
   go_enter Try.func114,Try.ntmps114
   go_wp2
   go_ret2
   exact ⟨yq,yd⟩
  ·
   rw [if_neg c4] at H
   have c4b0 : decide (62 < a1)=false:=decide_eq_false c4
   clear c4
   obtain ⟨ji5,hji5⟩ : ∃ j_ : Int,(IntKind.u64.wrap (a1))=j_:=⟨_,rfl⟩
   replace H : (if 0≤(ji5) then (some (shr .i64 a0 (ji5),0)) else (none))=some (r1,r2):=by first|(rw [hji5] at H;exact H)|(simp only [hji5] at H ⊢; exact H)
   replace H:=yif H;obtain ⟨c6,H⟩:=H
   have c6b0:=eq_true c6
   have c6b1 : decide (0≤(ji5))=true:=decide_eq_true c6
   clear c6
   obtain ⟨ji7,hji7⟩ : ∃ j_ : Int,(shr .i64 a0 (ji5))=j_:=⟨_,rfl⟩
   replace H : (some (ji7,0))=some (r1,r2):=by first|(rw [hji7] at H;exact H)|(simp only [hji7] at H ⊢; exact H)
   have hji7_ : (a0 / 2 ^ min (ji5).toNat 64)=ji7:=hji7
   have hji7z : (ji5)≤64→(a0 / 2 ^ (ji5).toNat)=ji7:=shr_small hji7
   simp only [Option.some.injEq,Prod.mk.injEq] at H
   obtain ⟨rfl,rfl⟩:=H
   go_enter Try.func114,Try.ntmps114
   go_wp2
   go_ret2
   exact ⟨by first|rfl|(simp;done)|(simp only [← hji5, ← hji7] <;> (first|rfl|simp))|(simp [*];done),yd⟩
mutual
def pvq_sizes.l0 : Nat→List Int→Int→List Int→Int→Int→Option (List Int)
 | 0,_,_,_,_,_=>none
 | k+1,x0,x3,x10,x11,x12=>if x12 < x11 then (if 0≤x12 then (if x12 < (x10.length : Int) then (pvq_sizes.l0 k x0 (mx (mx x3 (rd x10 x12)) (wrap64 (-(rd x10 x12)))) x10 x11 (wrap64 (x12+1))) else (none)) else (none)) else (pvq_sizes.l1 k x0 x3 0)
def pvq_sizes.l1 : Nat→List Int→Int→Int→Option (List Int)
 | 0,_,_,_=>none
 | k+1,x0,x3,x6=>if 0≤x6 then (if (shr .i64 x3 x6) ≥ 262144 then (pvq_sizes.l1 k x0 x3 (wrap64 (x6+1))) else (if 0≤(x0.length : Int) then (if ((x0.length : Int) : Int).toNat≤35184372088832 then (pvq_sizes.l2 k x6 (List.replicate ((x0.length : Int) : Int).toNat 0) x0 (x0.length : Int) 0) else (none)) else (none))) else (none)
def pvq_sizes.l2 : Nat→Int→List Int→List Int→Int→Int→Option (List Int)
 | 0,_,_,_,_,_=>none
 | k+1,x6,x7,x31,x32,x33=>if x33 < x32 then (if 0≤x33 then (if x33 < (x31.length : Int) then ((num_Shift.f (mx (rd x31 x33) (wrap64 (-(rd x31 x33)))) x6).bind fun bt202=>(if x33 < (x7.length : Int) then (pvq_sizes.l2 k x6 (x7.set (x33 : Int).toNat bt202.1) x31 x32 (wrap64 (x33+1))) else (none))) else (none)) else (none)) else (some x7)
end
def pvq_sizes.f (k : Nat) (l0 : List Int) : Option (List Int):=pvq_sizes.l0 k l0 0 l0 (l0.length : Int) 0
theorem pvq_sizes.mono_l : ∀ k,(∀ y0 y1 y2 y3 y4,LeO (pvq_sizes.l0 k y0 y1 y2 y3 y4) (pvq_sizes.l0 (k+1) y0 y1 y2 y3 y4))∧(∀ y0 y1 y2,LeO (pvq_sizes.l1 k y0 y1 y2) (pvq_sizes.l1 (k+1) y0 y1 y2))∧(∀ y0 y1 y2 y3 y4,LeO (pvq_sizes.l2 k y0 y1 y2 y3 y4) (pvq_sizes.l2 (k+1) y0 y1 y2 y3 y4))
 | 0=>⟨fun _ _ _ _ _ r h=>by simp [pvq_sizes.l0] at h,fun _ _ _ r h=>by simp [pvq_sizes.l1] at h,fun _ _ _ _ _ r h=>by simp [pvq_sizes.l2] at h⟩
 | k+1=>by
  obtain ⟨ih0,ih1,ih2⟩:=pvq_sizes.mono_l k
  refine ⟨?_, ?_, ?_⟩
  ·
   intro y0 y1 y2 y3 y4
   unfold pvq_sizes.l0
   repeat' with_reducible first|apply ih0|apply ih1|apply ih2|apply yLr|apply yLn|apply yLi|apply yLb|intro _
  ·
   intro y0 y1 y2
   unfold pvq_sizes.l1
   repeat' with_reducible first|apply ih0|apply ih1|apply ih2|apply yLr|apply yLn|apply yLi|apply yLb|intro _
  ·
   intro y0 y1 y2 y3 y4
   unfold pvq_sizes.l2
   repeat' with_reducible first|apply ih0|apply ih1|apply ih2|apply yLr|apply yLn|apply yLi|apply yLb|intro _
theorem pvq_sizes.mono : ∀ a0 k,LeO (pvq_sizes.f k a0) (pvq_sizes.f (k+1) a0):=by
 intro a0 k
 obtain ⟨ih0,ih1,ih2⟩:=pvq_sizes.mono_l k
 unfold pvq_sizes.f
 repeat' with_reducible first|apply ih0|apply ih1|apply ih2|apply yLr|apply yLn|apply yLi|apply yLb|intro _
set_option maxHeartbeats 8000000 in
set_option maxRecDepth 100000 in
theorem pvq_sizes.calls (k : Nat) (A0 : Option Addr) (c0 : Nat) (l0 : List Int) (r : List Int) (w : World) (hr0 : Kd.C (Kd.int .i64) w A0 l0.length l0) (hc0 : l0.length≤c0) (h : pvq_sizes.f k l0=some r) :
  Calls Try.prog 79 #[.slice A0 l0.length c0] w fun e w' => ∃ v0_ : Value,e=.returned (v0_)∧Kd.R (Kd.int .i64) 2 w' w.heap.size (fun _=>True) v0_ r∧Below w.heap.size w w' := by
 have HR0:=zm hr0;have HC0:=zm hc0;clear hr0 hc0;have HB:=zm (Below.refl w.heap.size w)
 have H : (pvq_sizes.l0 k l0 0 l0 (l0.length : Int) 0)=some r:=h
 clear h
 have H' := zm H
 clear H
 go_enter Try.func79,Try.ntmps79
 go_wp2
 go_loopg [3,12] k (fun kq v3 v12 w' => ∃ (x3_1 : Int) (x12_1 : Int),v3=.int .i64 x3_1∧v12=.int .i64 x12_1∧Aside0 (pvq_sizes.l0 kq l0 x3_1 l0 (l0.length : Int) x12_1=some r)∧Aside0 (kq≤k)∧Aside0 (Below w.heap.size w w'))
 case atStart=>exact ⟨(0),(0),yq,yq,H',⟨Nat.le_refl _⟩,⟨yhb⟩⟩
 case round =>
  clear H'
  obtain ⟨x3_1,x12_1,rfl,rfl,HA,HK1,HB⟩:=hrel
  obtain ⟨k1,rfl⟩:=ysu gk (fun h=>by subst h;exact absurd HA.out (by simp [pvq_sizes.l0]))
  have H:=HA.out;clear HA
  simp only [pvq_sizes.l0] at H
  by_cases c2 : x12_1 < (l0.length : Int)
  ·
   rw [if_pos c2] at H
   have c2b0 : decide (x12_1 < (l0.length : Int))=true:=decide_eq_true c2
   clear c2
   replace H:=yif H;obtain ⟨c3,H⟩:=H
   have c3b0 : decide (0≤x12_1)=true:=decide_eq_true c3
   clear c3
   replace H:=yif H;obtain ⟨c4,H⟩:=H
   have c4b0 : decide (x12_1 < (l0.length : Int))=true:=decide_eq_true c4
   clear c4
   obtain ⟨ji5,hji5⟩ : ∃ j_ : Int,(mx x3_1 (rd l0 x12_1))=j_:=⟨_,rfl⟩
   replace H : (pvq_sizes.l0 k1 l0 (mx (ji5) (wrap64 (-(rd l0 x12_1)))) l0 (l0.length : Int) (wrap64 (x12_1+1)))=some r:=by first|(rw [hji5] at H;exact H)|(simp only [hji5] at H ⊢; exact H)
   have hji5_ : (if x3_1 < (rd l0 x12_1) then (rd l0 x12_1) else x3_1)=ji5:=hji5
   obtain ⟨ji6,hji6⟩ : ∃ j_ : Int,(mx (ji5) (wrap64 (-(rd l0 x12_1))))=j_:=⟨_,rfl⟩
   replace H : (pvq_sizes.l0 k1 l0 ji6 l0 (l0.length : Int) (wrap64 (x12_1+1)))=some r:=by first|(rw [hji6] at H;exact H)|(simp only [hji6] at H ⊢; exact H)
   have hji6_ : (if (ji5) < (wrap64 (-(rd l0 x12_1))) then (wrap64 (-(rd l0 x12_1))) else (ji5))=ji6:=hji6
   have H' := zm H
   clear H
   have p197 : 0≤(x12_1 : Int):=yt
   have q197 : x12_1 < (l0.length : Int):=yt
   obtain ⟨ad197,e197,hx197_0⟩:=Kd.at_int HR0.out x12_1 p197 q197
   cases e197
   replace hx197_0:=yhx HB hx197_0
   replace p197:=eq_true p197
   replace q197:=eq_true q197
   go_wp2
   go_roundg k1
   case measure=>exact yom1 HK1
   case rel=>exact ⟨(ji6),(wrap64 (x12_1+1)),(by first|rfl|(simp;done)|(simp only [← hji6] <;> (first|rfl|simp))|(simp [*];done)),yq,H',⟨yom1 HK1⟩,⟨yhb⟩⟩
  ·
   rw [if_neg c2] at H
   have c2b0 : decide (x12_1 < (l0.length : Int))=false:=decide_eq_false c2
   clear c2
   have H' := zm H
   clear H
   go_wp2
   go_loopg [6] k1 (fun kq v6 w' => ∃ (x6_2 : Int),v6=.int .i64 x6_2∧Aside0 (pvq_sizes.l1 kq l0 x3_1 x6_2=some r)∧Aside0 (kq≤k1)∧Aside0 (Below w.heap.size w w'))
   case atStart=>exact ⟨(0),yq,H',⟨Nat.le_refl _⟩,⟨yhb⟩⟩
   case round =>
    clear H'
    try clear c2b0
    try clear c3b0
    try clear c4b0
    try clear hx197_0
    try clear p197
    try clear q197
    obtain ⟨x6_2,rfl,HA,HK2,HB⟩:=hrel
    obtain ⟨k2,rfl⟩:=ysu gk (fun h=>by subst h;exact absurd HA.out (by simp [pvq_sizes.l1]))
    have H:=HA.out;clear HA
    simp only [pvq_sizes.l1] at H
    replace H:=yif H;obtain ⟨c7,H⟩:=H
    have c7b0:=eq_true c7
    have c7b1 : decide (0≤x6_2)=true:=decide_eq_true c7
    clear c7
    obtain ⟨ji8,hji8⟩ : ∃ j_ : Int,(shr .i64 x3_1 x6_2)=j_:=⟨_,rfl⟩
    replace H : (if (ji8) ≥ 262144 then (pvq_sizes.l1 k2 l0 x3_1 (wrap64 (x6_2+1))) else (if 0≤(l0.length : Int) then (if ((l0.length : Int) : Int).toNat≤35184372088832 then (pvq_sizes.l2 k2 x6_2 (List.replicate ((l0.length : Int) : Int).toNat 0) l0 (l0.length : Int) 0) else (none)) else (none)))=some r:=by first|(rw [hji8] at H;exact H)|(simp only [hji8] at H ⊢; exact H)
    have hji8_ : (x3_1 / 2 ^ min x6_2.toNat 64)=ji8:=hji8
    have hji8z : x6_2≤64→(x3_1 / 2 ^ x6_2.toNat)=ji8:=shr_small hji8
    by_cases c9 : (ji8) ≥ 262144
    ·
     rw [if_pos c9] at H
     have c9b0 : decide (262144≤(ji8))=true:=decide_eq_true c9
     clear c9
     have H' := zm H
     clear H
     go_wp2
     go_roundg k2
     case measure=>exact yom2 HK1 HK2
     case rel=>exact ⟨(wrap64 (x6_2+1)),yq,H',⟨yom2 HK1 HK2⟩,⟨yhb⟩⟩
    ·
     rw [if_neg c9] at H
     have c9b0 : decide (262144≤(ji8))=false:=decide_eq_false c9
     clear c9
     replace H:=yif H;obtain ⟨c10,H⟩:=H
     have c10b0:=eq_true c10
     have c10b1 : decide (0≤(l0.length : Int))=true:=decide_eq_true c10
     clear c10
     replace H:=yif H;obtain ⟨c11,H⟩:=H
     have c11b0:=eq_true c11
     have c11b1 : decide (((l0.length : Int) : Int).toNat≤35184372088832)=true:=decide_eq_true c11
     clear c11
     obtain ⟨y198,hy198⟩ : ∃ y_ : List Int,y_=(List.replicate ((l0.length : Int) : Int).toNat 0):=⟨_,rfl⟩
     replace H : (pvq_sizes.l2 k2 x6_2 y198 l0 (l0.length : Int) 0)=some r:=yrw hy198 H
     have Ny198:=zm hy198;clear hy198
     have H' := zm H
     clear H
     go_wp2_with (first|((with_reducible refine gate_dst (N:=30) rfl ?_);refine Kd.R_make (Kd.int .i64) _ 2 rfl (N:=30) rfl 53 _ _ rfl (l0.length : Int) rfl rfl Try.underlying53 (.int .i64 0) 8 info2 rfl (by decide) (by omega) 0 (ok:=fun _=>True) (okp:=fun _=>True) rfl (fun _ hk=>hk) trivial (yt) (Nat.le_trans (Nat.mul_le_mul_right _ (yt : (l0.length : Int).toNat≤35184372088832)) (by omega)) (Below.refl _ _) (Nat.le_refl _) ?_;intro v199 w12 ho13 hb hg_ hnew_;clear hg_ hnew_;(first|rw [← Ny198.out] at ho13|(simp only [Int.reduceToNat] at ho13;rw [← Ny198.out] at ho13));have HO200:=zm (Kd.R_lower ho13 (zE yhb));replace HB:=ybs hb;clear hb ho13))
     go_loopg [33] k2 (fun kq v33 w' => ∃ (x7_3 : List Int) (x33_3 : Int),v33=.int .i64 x33_3∧Aside0 (pvq_sizes.l2 kq x6_2 x7_3 l0 (l0.length : Int) x33_3=some r)∧Aside0 (kq≤k2)∧Aside0 (Kd.R (Kd.int .i64) 2 w' w.heap.size (fun _=>True) v199 x7_3)∧Aside0 (Below w.heap.size w w'))
     case atStart=>exact ⟨(y198),(0),yq,H',⟨Nat.le_refl _⟩,⟨yr HO200⟩,⟨yhb⟩⟩
     case round =>
      clear H'
      try clear c7b0
      try clear c7b1
      try clear c9b0
      try clear c10b0
      try clear c10b1
      try clear c11b0
      try clear c11b1
      obtain ⟨x7_3,x33_3,rfl,HA,HK3,HO_7,HB⟩:=hrel
      obtain ⟨k3,rfl⟩:=ysu gk (fun h=>by subst h;exact absurd HA.out (by simp [pvq_sizes.l2]))
      have H:=HA.out;clear HA
      simp only [pvq_sizes.l2] at H
      by_cases c14 : x33_3 < (l0.length : Int)
      ·
       rw [if_pos c14] at H
       have c14b0 : decide (x33_3 < (l0.length : Int))=true:=decide_eq_true c14
       clear c14
       replace H:=yif H;obtain ⟨c15,H⟩:=H
       have c15b0 : decide (0≤x33_3)=true:=decide_eq_true c15
       clear c15
       replace H:=yif H;obtain ⟨c16,H⟩:=H
       have c16b0 : decide (x33_3 < (l0.length : Int))=true:=decide_eq_true c16
       clear c16
       obtain ⟨ji17,hji17⟩ : ∃ j_ : Int,(mx (rd l0 x33_3) (wrap64 (-(rd l0 x33_3))))=j_:=⟨_,rfl⟩
       replace H : ((num_Shift.f (ji17) x6_2).bind fun bt202=>(if x33_3 < (x7_3.length : Int) then (pvq_sizes.l2 k3 x6_2 (x7_3.set (x33_3 : Int).toNat bt202.1) l0 (l0.length : Int) (wrap64 (x33_3+1))) else (none)))=some r:=by first|(rw [hji17] at H;exact H)|(simp only [hji17] at H ⊢; exact H)
       have hji17_ : (if (rd l0 x33_3) < (wrap64 (-(rd l0 x33_3))) then (wrap64 (-(rd l0 x33_3))) else (rd l0 x33_3))=ji17:=hji17
       replace H:=ybi H;obtain ⟨⟨t202,t203⟩,A18,H⟩:=H
       try dsimp only at H
       replace H:=yif H;obtain ⟨c19,H⟩:=H
       have c19b0 : decide (x33_3 < (x7_3.length : Int))=true:=decide_eq_true c19
       clear c19
       obtain ⟨y204,hy204⟩ : ∃ y_ : List Int,y_=(x7_3.set (x33_3 : Int).toNat t202):=⟨_,rfl⟩
       replace H : (pvq_sizes.l2 k3 x6_2 y204 l0 (l0.length : Int) (wrap64 (x33_3+1)))=some r:=yrw hy204 H
       have Ny204:=zm hy204;clear hy204
       have H' := zm H
       clear H
       have p201 : 0≤(x33_3 : Int):=yt
       have q201 : x33_3 < (l0.length : Int):=yt
       obtain ⟨ad201,e201,hx201_0⟩:=Kd.at_int HR0.out x33_3 p201 q201
       cases e201
       replace hx201_0:=yhx HB hx201_0
       replace p201:=eq_true p201
       replace q201:=eq_true q201
       go_wp2_with (first|((with_reducible refine gate_callee (f:=114) rfl ?_);refine goesL_ (some 46) rfl rfl Try.func114 (by kernel_rfl) rfl #[.int .i64 ji17, .int .i64 x6_2] rfl (by (try simp only [List.map_toArray,List.map_cons,List.map_nil]);first|done|(simp only [hji17];rfl)|rfl|(simp only [List.length_drop,List.length_take];rfl)) ?_;(with_reducible refine (num_Shift.calls ji17 x6_2 t202 t203 _ A18.out).mono ?_);rintro e w' ⟨rfl,⟨nd,rfl⟩⟩;refine ⟨_,rfl, ?_⟩;(try (rw [drewN_self wr];generalize hq_ : World.drewN wr _=wr;have n0_ : Aside0 (Kd.R (Kd.int .i64) 2 wr w.heap.size (fun _=>True) v199 x7_3):=⟨by rw [← hq_];exact (yr HO_7)⟩;have n1_ : Aside0 (Below w.heap.size w wr):=⟨by rw [← hq_];exact yhb⟩;clear HO_7 HB hq_;have HO_7:=n0_;have HB:=n1_;clear n0_ n1_));have p20 : 0≤(x33_3 : Int):=yt;have q20 : (x33_3 : Int) < ((x7_3.length : Int) : Int):=yt;obtain ⟨go20,co20,eo20,gb20,gl20,cl20,HG20⟩:=Kd.R_form HO_7.out (by omega);(first|cases eo20|(injection eo20 with ea_ en_ ec_;(first|subst ea_|(injection ea_ with ea_;subst ea_));subst ec_;clear en_));have GB20:=zm gb20;have GG20:=zm HG20;clear gb20 gl20 HG20;obtain ⟨hx20_0,hf20_0⟩:=Kd.R_celln 0 HO_7.out (x33_3 : Int) p20 q20;replace p20:=eq_true p20;replace q20:=eq_true q20;obtain ⟨hy21_,hz21_⟩:=Kd.R_celln 0 HO_7.out (x33_3 : Int) (yt) (yt);have HP21:=Kd.R_putg HO_7.out (x33_3 : Int) t202)|((with_reducible refine gate_store (t:=2) (p:=49) rfl ?_);refine store_event (t:=2) (p:=49) (v := ?vo_w22) (w1:=(wr.setCell ⟨go20,(x33_3 : Int).toNat,none⟩ (.int .i64 t202))) ?hg ?ho ?hn ?hr ?_;(case ho=>rfl);(case hg=>rfl);(case hn=>rfl);(case hr=>first|(go_simp;done)|(go_simp;rfl));intro w22 hw;have hg : wr.grownBy w22 (some go20):=(by rw [hw];exact HP21.2);have hp_ : Kd.R (Kd.int .i64) 2 w22 w.heap.size (fun _=>True) (.slice (some ⟨go20,0,none⟩) x7_3.length co20) y204:=(by rw [hw,Ny204.out];exact HP21.1);clear HP21;replace HO_7:=zm (hp_);replace HB:=zm ((by rw [hw];exact zk (HB.out) GB20.out : Below w.heap.size w w22));clear hg hw hp_))
       go_roundg k3
       case measure=>exact yom3 HK1 HK2 HK3
       case rel=>exact ⟨(y204),(wrap64 (x33_3+1)),yq,H',⟨yom3 HK1 HK2 HK3⟩,⟨yr HO_7⟩,⟨yhb⟩⟩
      ·
       rw [if_neg c14] at H
       have c14b0 : decide (x33_3 < (l0.length : Int))=false:=decide_eq_false c14
       clear c14
       obtain rfl:=Option.some.inj H
       go_wp2
       go_ret
       exact ⟨_,by first|rfl|(simp [errW_none,errW_some] <;> rfl)|(simp only [← hji8];first|rfl|(simp [errW_none,errW_some] <;> rfl))|(simp [*,errW_none,errW_some] <;> rfl),yr HO_7,yhb⟩
def pvq_with.f (a0_0 : Int) (a0_1 : Int) (a1 : Int) (a2 : Int) : Option (Int × Int):=some (wrap64 (a0_0+a1),wrap64 (a0_1+(wrap64 ((wrap64 (2 * a2))+1))))
set_option maxHeartbeats 8000000 in
set_option maxRecDepth 100000 in
theorem pvq_with.calls (a0_0 : Int) (a0_1 : Int) (a1 : Int) (a2 : Int) (r1 : Int) (r2 : Int) (w : World) (h : pvq_with.f a0_0 a0_1 a1 a2=some (r1,r2)) :
  Calls Try.prog 80 #[.agg #[.int .i64 a0_0, .int .i64 a0_1], .int .i64 a1, .int .i64 a2] w fun e w' => e=.returned (.agg #[.int .i64 r1, .int .i64 r2])∧Below w.heap.size w w' := by
 have hu117:=Try.underlying117;have HB:=zm (Below.refl w.heap.size w)
 have H : (some (wrap64 (a0_0+a1),wrap64 (a0_1+(wrap64 ((wrap64 (2 * a2))+1)))))=some (r1,r2):=h
 clear h
 simp only [Option.some.injEq,Prod.mk.injEq] at H
 obtain ⟨rfl,rfl⟩:=H
 go_enter Try.func80,Try.ntmps80
 go_wp2_with (first|((with_reducible refine gate_dst (N:=3) rfl ?_);refine ybx 3 #[.int .i64 a0_0, .int .i64 a0_1] 117 ?_;intro gb205 hg w4 hbox hb;have BK205:=zm (hbox);have GW205:=ygw hg;have GE205:=ygw hg;replace HB:=ybs hb;clear hb hbox hg)|((with_reducible refine gate_dst (N:=6) rfl ?_);refine ybx 6 #[.int .i64 0, .int .i64 0] 117 ?_;intro gb206 hg w5 hbox hb;have BK206:=zm (hbox);have GW206:=ygw hg;have GE206:=ygw hg;replace HB:=ybs hb;have NB205_206:=ynl BK205 hg;have NB206_205:=yng BK205 hg;replace BK205:=ybb BK205 hb;clear hb hbox hg;have:=NB205_206.out;have:=NB206_205.out;obtain ⟨_,_,_,_⟩:=yc2 BK205;obtain ⟨_,_,_,_⟩:=yc2 BK206))
 refine bodyPost_ret (results_cell_row rfl _ _ gb206 117 #[.int .i64 (wrap64 (a0_0+a1)), .int .i64 (wrap64 (a0_1+(wrap64 ((wrap64 (2 * a2))+1))))] (0,0) _ rfl (ykp BK206) Try.underlying117 rfl (by kernel_rfl)) rfl ?_
 exact ⟨ye,yhb⟩
mutual
def pvq_Search.j0 : Nat→List Int→Int→Bool→Option (List Int × Int)
 | 0,_,_,_=>none
 | k+1,x0,x1,x25=>if x25=true then (some (([] : List Int),1)) else ((pvq_sizes.f k x0).bind fun t215=>(if 0≤(x0.length : Int) then (if ((x0.length : Int) : Int).toNat≤35184372088832 then (pvq_Search.l0 k x0 t215 (List.replicate ((x0.length : Int) : Int).toNat 0) x1 0 0 0) else (none)) else (none)))
def pvq_Search.l0 : Nat→List Int→List Int→List Int→Int→Int→Int→Int→Option (List Int × Int)
 | 0,_,_,_,_,_,_,_=>none
 | k+1,x0,x6,x7,x33,x34,x222000,x222001=>if x34 < x33 then (if 0≤(x0.length : Int) then (if ((x0.length : Int) : Int).toNat≤17592186044416 then ((some (List.replicate ((x0.length : Int) : Int).toNat z117 : List (S117))).bind fun y222=>(pvq_Search.l1 k x0 x6 x7 y222 x33 x34 (y222.length : Int) 0 x222000 x222001)) else (none)) else (none)) else (pvq_Search.l2 k x7 x0 (x0.length : Int) 0)
def pvq_Search.l1 : Nat→List Int→List Int→List Int→List (S117)→Int→Int→Int→Int→Int→Int→Option (List Int × Int)
 | 0,_,_,_,_,_,_,_,_,_,_=>none
 | k+1,x0,x6,x7,x10,x33,x34,x40,x41,x222000,x222001=>if x41 < x40 then (if 0≤x41 then (if x41 < (x6.length : Int) then (if x41 < (x7.length : Int) then ((pvq_with.f x222000 x222001 (rd x6 x41) (rd x7 x41)).bind fun bt227=>(if x41 < (x10.length : Int) then (pvq_Search.l1 k x0 x6 x7 (x10.set (x41 : Int).toNat (⟨bt227.1,bt227.2⟩ : S117)) x33 x34 x40 (wrap64 (x41+1)) x222000 x222001) else (none))) else (none)) else (none)) else (none)) else ((pvq_best.f k x10).bind fun t230=>(if 0≤t230 then (if t230 < (x10.length : Int) then (if t230 < (x7.length : Int) then (pvq_Search.l0 k x0 x6 (x7.set (t230 : Int).toNat (wrap64 ((rd x7 t230)+1))) x33 (wrap64 (x34+1)) ((rd_T117 x10 t230).f0) ((rd_T117 x10 t230).f1)) else (none)) else (none)) else (none)))
def pvq_Search.l2 : Nat→List Int→List Int→Int→Int→Option (List Int × Int)
 | 0,_,_,_,_=>none
 | k+1,x7,x73,x74,x75=>if x75 < x74 then (if 0≤x75 then (if x75 < (x73.length : Int) then (if (rd x73 x75) < 0 then (if x75 < (x7.length : Int) then (pvq_Search.l2 k (x7.set (x75 : Int).toNat (wrap64 (-(rd x7 x75)))) x73 x74 (wrap64 (x75+1))) else (none)) else (pvq_Search.l2 k x7 x73 x74 (wrap64 (x75+1)))) else (none)) else (none)) else (some (x7,0))
end
def pvq_Search.f (k : Nat) (l0 : List Int) (a1 : Int) : Option (List Int × Int):=(pvq_fair.f k l0).bind fun t214=>(if t214=true then (if a1 < 0 then (pvq_Search.j0 k l0 a1 true) else (pvq_Search.j0 k l0 a1 (decide (a1 > 12)))) else (pvq_Search.j0 k l0 a1 true))
theorem pvq_Search.mono_l : ∀ k,(∀ y0 y1 y2,LeO (pvq_Search.j0 k y0 y1 y2) (pvq_Search.j0 (k+1) y0 y1 y2))∧(∀ y0 y1 y2 y3 y4 y5 y6,LeO (pvq_Search.l0 k y0 y1 y2 y3 y4 y5 y6) (pvq_Search.l0 (k+1) y0 y1 y2 y3 y4 y5 y6))∧(∀ y0 y1 y2 y3 y4 y5 y6 y7 y8 y9,LeO (pvq_Search.l1 k y0 y1 y2 y3 y4 y5 y6 y7 y8 y9) (pvq_Search.l1 (k+1) y0 y1 y2 y3 y4 y5 y6 y7 y8 y9))∧(∀ y0 y1 y2 y3,LeO (pvq_Search.l2 k y0 y1 y2 y3) (pvq_Search.l2 (k+1) y0 y1 y2 y3))
 | 0=>⟨fun _ _ _ r h=>by simp [pvq_Search.j0] at h,fun _ _ _ _ _ _ _ r h=>by simp [pvq_Search.l0] at h,fun _ _ _ _ _ _ _ _ _ _ r h=>by simp [pvq_Search.l1] at h,fun _ _ _ _ r h=>by simp [pvq_Search.l2] at h⟩
 | k+1=>by
  obtain ⟨ih0,ih1,ih2,ih3⟩:=pvq_Search.mono_l k
  refine ⟨?_, ?_, ?_, ?_⟩
  ·
   intro y0 y1 y2
   unfold pvq_Search.j0
   repeat' with_reducible first|apply ih0|apply ih1|apply ih2|apply ih3|apply pvq_best.mono|apply pvq_fair.mono|apply pvq_sizes.mono|apply yLr|apply yLn|apply yLi|apply yLb|intro _
  ·
   intro y0 y1 y2 y3 y4 y5 y6
   unfold pvq_Search.l0
   repeat' with_reducible first|apply ih0|apply ih1|apply ih2|apply ih3|apply pvq_best.mono|apply pvq_fair.mono|apply pvq_sizes.mono|apply yLr|apply yLn|apply yLi|apply yLb|intro _
  ·
   intro y0 y1 y2 y3 y4 y5 y6 y7 y8 y9
   unfold pvq_Search.l1
   repeat' with_reducible first|apply ih0|apply ih1|apply ih2|apply ih3|apply pvq_best.mono|apply pvq_fair.mono|apply pvq_sizes.mono|apply yLr|apply yLn|apply yLi|apply yLb|intro _
  ·
   intro y0 y1 y2 y3
   unfold pvq_Search.l2
   repeat' with_reducible first|apply ih0|apply ih1|apply ih2|apply ih3|apply pvq_best.mono|apply pvq_fair.mono|apply pvq_sizes.mono|apply yLr|apply yLn|apply yLi|apply yLb|intro _
theorem pvq_Search.mono : ∀ a0 a1 k,LeO (pvq_Search.f k a0 a1) (pvq_Search.f (k+1) a0 a1):=by
 intro a0 a1 k
 obtain ⟨ih0,ih1,ih2,ih3⟩:=pvq_Search.mono_l k
 unfold pvq_Search.f
 repeat' with_reducible first|apply ih0|apply ih1|apply ih2|apply ih3|apply pvq_best.mono|apply pvq_fair.mono|apply pvq_sizes.mono|apply yLr|apply yLn|apply yLi|apply yLb|intro _
def pvq_Search.T12 : Bool × List (List Nat × List Nat):=(true, [([], []),([], []),([], []),([], []),([], []),([3,4], [3,4]),([5], [5]),([], []),([], []),([7,8], [7,8]),([9], [9]),([2,6,10], [2,6,10]),([0,1,0,1,2,3,4,5,6,7,8,9,10,11], [0,1]),([12,11,11,0,1,2,3,4,5,6,7,8,9,10,11], [11,12])])
def pvq_Search.B12 : List Nat := [0,0,0,0,0,24,56,0,0,384,896,2044,4095,8191]
theorem pvq_Search.tab12 : rtab .any (opsOf Try.f39 12)=pvq_Search.T12:=by kernel_rfl
theorem pvq_Search.bits12 : waitsOk pvq_Search.T12.2 pvq_Search.B12=true:=by kernel_rfl
set_option maxHeartbeats 8000000 in
set_option maxRecDepth 100000 in
theorem pvq_Search.calls (k : Nat) (A0 : Option Addr) (c0 : Nat) (l0 : List Int) (a1 : Int) (r1 : List Int) (r2 : Int) (w : World) (hr0 : Kd.C (Kd.int .i64) w A0 l0.length l0) (hc0 : l0.length≤c0) (h : pvq_Search.f k l0 a1=some (r1,r2)) :
  Calls Try.prog 39 #[.slice A0 l0.length c0, .int .i64 a1] w fun e w' => ∃ v0_ : Value,e=.returned (.tuple #[v0_, .int .i64 r2])∧Kd.R (Kd.int .i64) 3 w' w.heap.size (fun _=>True) v0_ r1∧Below w.heap.size w w' := by
 have hu117:=Try.underlying117;have HR0:=zm hr0;have HC0:=zm hc0;clear hr0 hc0;have HB:=zm (Below.refl w.heap.size w)
 have H : ((pvq_fair.f k l0).bind fun t214=>(if t214=true then (if a1 < 0 then (pvq_Search.j0 k l0 a1 true) else (pvq_Search.j0 k l0 a1 (decide (a1 > 12)))) else (pvq_Search.j0 k l0 a1 true)))=some (r1,r2):=h
 clear h;have HC3:=zm H;clear H
 go_enter Try.func39,Try.ntmps39
 go_upto_region 1 with (fail)
 go_cut [25] (fun v25 wc => ∃ (kq : Nat) (x25_2 : Bool),v25=.bool x25_2∧Aside0 (pvq_Search.j0 kq l0 a1 x25_2=some (r1,r2))∧Aside0 (kq≤k)∧Aside0 (Below w.heap.size w wc))
 case first =>
  have H:=HC3.out;clear HC3
  replace H:=ybi H;obtain ⟨t214,A4,H⟩:=H
  by_cases c5 : t214=true
  ·
   subst c5
   rw [if_pos rfl] at H
   by_cases c6 : a1 < 0
   ·
    rw [if_pos c6] at H
    have c6b0 : decide (a1 < 0)=true:=decide_eq_true c6
    clear c6
    (first|rw [c6b0]|(simp only [i64_w,i32_w];rw [c6b0])|skip)
    have H' := zm H
    clear H
    go_wp2_with (first|((with_reducible refine gate_callee (f:=78) rfl ?_);refine ygl 16 Try.func78 #[.slice A0 l0.length c0] ?_;(with_reducible refine (pvq_fair.calls k _ _ l0 true _ ?side1 HC0.out A4.out).mono ?_);(case side1=>exact ycb HR0);rintro e w' ⟨rfl,⟨nd,rfl⟩⟩;refine ⟨_,rfl, ?_⟩))
    go_meet
    case rel=>exact ⟨_,(true),yq,H',⟨yo⟩,⟨yhb⟩⟩
   ·
    rw [if_neg c6] at H
    have c6b0 : decide (a1 < 0)=false:=decide_eq_false c6
    clear c6
    (first|rw [c6b0]|(simp only [i64_w,i32_w];rw [c6b0])|skip)
    have H' := zm H
    clear H
    go_wp2_with (first|((with_reducible refine gate_callee (f:=78) rfl ?_);refine ygl 16 Try.func78 #[.slice A0 l0.length c0] ?_;(with_reducible refine (pvq_fair.calls k _ _ l0 true _ ?side1 HC0.out A4.out).mono ?_);(case side1=>exact ycb HR0);rintro e w' ⟨rfl,⟨nd,rfl⟩⟩;refine ⟨_,rfl, ?_⟩))
    go_meet
    case rel=>exact ⟨_,(decide (a1 > 12)),yq,H',⟨yo⟩,⟨yhb⟩⟩
  ·
   replace c5:=Bool.eq_false_iff.mpr c5
   subst c5
   rw [ynf] at H
   have H' := zm H
   clear H
   go_wp2_with (first|((with_reducible refine gate_callee (f:=78) rfl ?_);refine ygl 16 Try.func78 #[.slice A0 l0.length c0] ?_;(with_reducible refine (pvq_fair.calls k _ _ l0 false _ ?side1 HC0.out A4.out).mono ?_);(case side1=>exact ycb HR0);rintro e w' ⟨rfl,⟨nd,rfl⟩⟩;refine ⟨_,rfl, ?_⟩))
   go_meet
   case rel=>exact ⟨_,(true),yq,H',⟨yo⟩,⟨yhb⟩⟩
 case rest =>
  clear HC3
  obtain ⟨kq,x25_2,rfl,HA,HJ2,HB⟩:=hcut
  obtain ⟨kj2,rfl⟩:=ysu kq (fun h=>by subst h;exact absurd HA.out (by simp [pvq_Search.j0]))
  have H:=HA.out;clear HA
  simp only [pvq_Search.j0] at H
  by_cases c7 : x25_2=true
  ·
   subst c7
   rw [if_pos rfl] at H
   simp only [Option.some.injEq,Prod.mk.injEq] at H
   obtain ⟨rfl,rfl⟩:=H
   go_wp2
   go_ret2
   exact ⟨_,ye,yn,yhb⟩
  ·
   replace c7:=Bool.eq_false_iff.mpr c7
   subst c7
   rw [ynf] at H
   replace H:=ybi H;obtain ⟨t215,A8,H⟩:=H
   replace H:=yif H;obtain ⟨c9,H⟩:=H
   have c9b0:=eq_true c9
   have c9b1 : decide (0≤(l0.length : Int))=true:=decide_eq_true c9
   clear c9
   replace H:=yif H;obtain ⟨c10,H⟩:=H
   have c10b0:=eq_true c10
   have c10b1 : decide (((l0.length : Int) : Int).toNat≤35184372088832)=true:=decide_eq_true c10
   clear c10
   obtain ⟨y218,hy218⟩ : ∃ y_ : List Int,y_=(List.replicate ((l0.length : Int) : Int).toNat 0):=⟨_,rfl⟩
   replace H : (pvq_Search.l0 kj2 l0 t215 y218 a1 0 0 0)=some (r1,r2):=yrw hy218 H
   have Ny218:=zm hy218;clear hy218
   have H' := zm H
   clear H
   try go_wp2
   replace HB:=zm (zf HB.out)
   refine start_ (n:=7) (S:=fun w' => True) (ds := []) #[false,false,false,false,false,false,false] (by kernel_rfl) rfl rfl trivial (fun hHeld => ?_)
   generalize wc.drew=w11 at HB hHeld ⊢
   refine pure_ (i:=0) (N:=some 26) (v := ?_) (a' := ?_) #[true,false,false,false,false,false,false] rfl rfl (by kernel_rfl) (fun _ _ _ h=>h) (Or.inl ⟨by rfl, ?_⟩) ?_ ?_
   rotate_left
   ·
    intro w'
    go_simp
    with_reducible rfl
   rotate_left
   ·
    simp only [Act.put,List.setIfInBounds_toArray,List.set_cons_zero,List.set_cons_succ,i64_w,i32_w]
    rfl
   refine pure_ (i:=2) (N:=some 28) (v := ?_) (a' := ?_) #[true,false,true,false,false,false,false] rfl rfl (by kernel_rfl) (fun _ _ _ h=>h) (Or.inl ⟨by rfl, ?_⟩) ?_ ?_
   rotate_left
   ·
    intro w'
    go_simp
    with_reducible rfl
   rotate_left
   ·
    simp only [Act.put,List.setIfInBounds_toArray,List.set_cons_zero,List.set_cons_succ,i64_w,i32_w]
    rfl
   refine pure_ (i:=3) (N:=some 29) (v := ?_) (a' := ?_) #[true,false,true,true,false,false,false] rfl rfl (by kernel_rfl) (fun _ _ _ h=>h) (Or.inl ⟨by rfl, ?_⟩) ?_ ?_
   rotate_left
   ·
    intro w'
    go_simp
    with_reducible rfl
   rotate_left
   ·
    simp only [Act.put,List.setIfInBounds_toArray,List.set_cons_zero,List.set_cons_succ,i64_w,i32_w]
    rfl
   refine join_ (σ:=Value × Value) 1 #[true,true,true,true,true,true,false] (fun s_ => [(27,s_.1),(30,s_.2),(6,s_.1)]) (fun s_ w' => (Kd.R (Kd.int .i64) 2 w' w.heap.size (fun _=>True) s_.1 t215)∧(Kd.R (Kd.int .i64) 3 w' w.heap.size (fun _=>True) s_.2 y218)∧(Below w.heap.size w w')) ?_ ?_
   rotate_left
   ·
    intro hCont
    refine two_ (i:=1) (j:=4) (Ni:=some 27) (Nj:=some 30) #[true,true,true,true,false,false,false] #[true,false,true,true,true,false,false] rfl rfl rfl rfl (by kernel_rfl) (by decide) (by decide) (fun K hK => ?_) (fun K hK => ?_)
    ·
     skip
     refine ygs Try.func79 #[.slice A0 l0.length c0] ?_
     with_reducible refine (pvq_sizes.calls kj2 _ _ l0 t215 _ ?side1 ?side2 A8.out).mono ?_
     (case side1=>exact ycb HR0)
     (case side2=>exact HC0.out)
     rintro e w12 ⟨v216,rfl,ho0,hb⟩
     refine ⟨_,rfl, ?_⟩
     have HO217:=zm (Kd.R_lower ho0 (zE yhb))
     replace HB:=ybs hb
     (try clear hb)
     (try clear ho0)
     refine hK.out _ _ trivial (fun hHeld => ?_)
     clear hK K
     refine ym (some 27) ?_
     refine pure_ (i:=5) (N:=some 6) (v := ?_) (a' := ?_) #[true,true,true,true,false,true,false] rfl rfl (by kernel_rfl) (fun _ _ _ h=>h) (Or.inl ⟨by rfl, ?_⟩) ?_ ?_
     rotate_left
     ·
      intro w'
      go_simp
      with_reducible rfl
     rotate_left
     ·
      simp only [Act.put,List.setIfInBounds_toArray,List.set_cons_zero,List.set_cons_succ,i64_w,i32_w]
      rfl
     refine one_ (i:=4) (N:=some 30) #[true,true,true,true,true,true,false] rfl rfl (by kernel_rfl) (by decide) (fun K hK => ?_)
     refine Kd.R_make_step (Kd.int .i64) _ 3 (by rfl) (N:=30) rfl 55 _ _ rfl (l0.length : Int) rfl rfl Try.underlying55 (.int .i64 0) 8 info3 rfl (by decide) (by omega) 0 (ok:=fun _=>True) (okp:=fun _=>True) rfl (fun _ hk=>hk) trivial (yt) (Nat.le_trans (Nat.mul_le_mul_right _ (yt : (l0.length : Int).toNat≤35184372088832)) (by omega)) (Below.refl _ _) (Nat.le_refl _) ?_
     intro v219 w13 ho14 hb hg_ hnew_
     clear hg_ hnew_
     (first|rw [← Ny218.out] at ho14|(simp only [Int.reduceToNat] at ho14;rw [← Ny218.out] at ho14))
     replace HO217:=yRb HO217 hb
     have HO220:=zm (Kd.R_lower ho14 (zE yhb))
     replace HB:=ybs hb
     clear hb ho14
     refine hK.out _ _ trivial (fun hHeld => ?_)
     clear hK K
     refine ym (some 30) ?_
     exact norm_ (by simp only [putAll,Act.put,List.setIfInBounds_toArray,List.set_cons_zero,List.set_cons_succ]) (hCont (v216,v219) _ ⟨(yr HO217),(yr HO220),yhb⟩)
    ·
     skip
     refine Kd.R_make_step (Kd.int .i64) _ 3 (by rfl) (N:=30) rfl 55 _ _ rfl (l0.length : Int) rfl rfl Try.underlying55 (.int .i64 0) 8 info3 rfl (by decide) (by omega) 0 (ok:=fun _=>True) (okp:=fun _=>True) rfl (fun _ hk=>hk) trivial (yt) (Nat.le_trans (Nat.mul_le_mul_right _ (yt : (l0.length : Int).toNat≤35184372088832)) (by omega)) (Below.refl _ _) (Nat.le_refl _) ?_
     intro v219 w12 ho13 hb hg_ hnew_
     clear hg_ hnew_
     (first|rw [← Ny218.out] at ho13|(simp only [Int.reduceToNat] at ho13;rw [← Ny218.out] at ho13))
     have HO220:=zm (Kd.R_lower ho13 (zE yhb))
     replace HB:=ybs hb
     clear hb ho13
     refine hK.out _ _ trivial (fun hHeld => ?_)
     clear hK K
     refine ym (some 30) ?_
     refine one_ (i:=1) (N:=some 27) #[true,true,true,true,true,false,false] rfl rfl (by kernel_rfl) (by decide) (fun K hK => ?_)
     refine ygs Try.func79 #[.slice A0 l0.length c0] ?_
     with_reducible refine (pvq_sizes.calls kj2 _ _ l0 t215 _ ?side1 ?side2 A8.out).mono ?_
     (case side1=>exact ycb HR0)
     (case side2=>exact HC0.out)
     rintro e w14 ⟨v216,rfl,ho0,hb⟩
     refine ⟨_,rfl, ?_⟩
     replace HO220:=yRb HO220 hb
     have HO217:=zm (Kd.R_lower ho0 (zE yhb))
     replace HB:=ybs hb
     (try clear hb)
     (try clear ho0)
     refine hK.out _ _ trivial (fun hHeld => ?_)
     clear hK K
     refine ym (some 27) ?_
     refine pure_ (i:=5) (N:=some 6) (v := ?_) (a' := ?_) #[true,true,true,true,true,true,false] rfl rfl (by kernel_rfl) (fun _ _ _ h=>h) (Or.inl ⟨by rfl, ?_⟩) ?_ ?_
     rotate_left
     ·
      intro w'
      go_simp
      with_reducible rfl
     rotate_left
     ·
      simp only [Act.put,List.setIfInBounds_toArray,List.set_cons_zero,List.set_cons_succ,i64_w,i32_w]
      rfl
     exact norm_ (by simp only [putAll,Act.put,List.setIfInBounds_toArray,List.set_cons_zero,List.set_cons_succ]) (hCont (v216,v219) _ ⟨(yr HO217),(yr HO220),yhb⟩)
   rintro ⟨v216,v219⟩ w15 ⟨h0_,h1_,h2_⟩
   have n0_ : Aside0 (Kd.R (Kd.int .i64) 2 w15 w.heap.size (fun _=>True) v216 t215):=⟨h0_⟩
   have n1_ : Aside0 (Kd.R (Kd.int .i64) 3 w15 w.heap.size (fun _=>True) v219 y218):=⟨h1_⟩
   have n2_ : Aside0 (Below w.heap.size w w15):=⟨h2_⟩
   clear HB;clear h0_ h1_ h2_;have HO217:=n0_;have HO220:=n1_;have HB:=n2_;clear n0_ n1_ n2_;have hHeld:=trivial
   refine norm_ (a' := ?_) ?_ ?_
   rotate_left
   ·
    simp only [putAll,Act.put,List.setIfInBounds_toArray,List.set_cons_zero,List.set_cons_succ]
    rfl
   refine pure_ (i:=6) (N:=some 7) (v := ?_) (a' := ?_) #[true,true,true,true,true,true,true] rfl rfl (by kernel_rfl) (fun _ _ _ h=>h) (Or.inl ⟨by rfl, ?_⟩) ?_ ?_
   rotate_left
   ·
    intro w'
    go_simp
    with_reducible rfl
   rotate_left
   ·
    simp only [Act.put,List.setIfInBounds_toArray,List.set_cons_zero,List.set_cons_succ,i64_w,i32_w]
    rfl
   refine done_ (by kernel_rfl) ?_
   try go_wp2_with (first|((with_reducible refine gate_dst (N:=8) rfl ?_);refine ybx 8 #[.int .i64 0, .int .i64 0] 117 ?_;intro gb221 hg w16 hbox hb;replace HO217:=yRb HO217 hb;replace HO220:=yRb HO220 hb;have BK221:=zm (hbox);have GW221:=ygw hg;have GE221:=ygw hg;replace HB:=ybs hb;clear hb hbox hg;obtain ⟨hcz17_0,hcz17_1,hfz17_0,hfz17_1⟩:=yc2 BK221))
   go_loopg [9,34] kj2 (fun kq v9 v34 w' => ∃ (x7_2 : List Int) (x34_2 : Int) (x222000_2 : Int) (x222001_2 : Int),v9=.func (.func 80) #[.agg #[.int .i64 x222000_2, .int .i64 x222001_2]] #[]∧v34=.int .i64 x34_2∧Aside0 (pvq_Search.l0 kq l0 t215 x7_2 a1 x34_2 x222000_2 x222001_2=some (r1,r2))∧Aside0 (kq≤kj2)∧Aside0 (Kd.R (Kd.int .i64) 2 w' w.heap.size (fun _=>True) v216 t215)∧Aside0 (Kd.R (Kd.int .i64) 3 w' w.heap.size (fun _=>True) v219 x7_2)∧Aside0 (w'.heap[gb221]? = some (.cells #[.int .i64 x222000_2, .int .i64 x222001_2] 117 (0,0)))∧Aside0 (Below w.heap.size w w'))
   case atStart=>exact ⟨(y218),(0),(0),(0),yq,yq,H',⟨Nat.le_refl _⟩,⟨yr HO217⟩,⟨yr HO220⟩,⟨yk BK221⟩,⟨yhb⟩⟩
   case round =>
    clear H'
    try clear c9b0
    try clear c9b1
    try clear c10b0
    try clear c10b1
    try clear hcz17_0
    try clear hcz17_1
    try clear hfz17_0
    try clear hfz17_1
    obtain ⟨x7_2,x34_2,x222000_2,x222001_2,rfl,rfl,HA,HK2,HO_6,HO_7,BK221,HB⟩:=hrel
    obtain ⟨k2,rfl⟩:=ysu gk (fun h=>by subst h;exact absurd HA.out (by simp [pvq_Search.l0]))
    have H:=HA.out;clear HA
    simp only [pvq_Search.l0] at H
    by_cases c18 : x34_2 < a1
    ·
     rw [if_pos c18] at H
     have c18b0 : decide (x34_2 < a1)=true:=decide_eq_true c18
     clear c18
     replace H:=yif H;obtain ⟨c19,H⟩:=H
     have c19b0:=eq_true c19
     have c19b1 : decide (0≤(l0.length : Int))=true:=decide_eq_true c19
     clear c19
     replace H:=yif H;obtain ⟨c20,H⟩:=H
     have c20b0:=eq_true c20
     have c20b1 : decide (((l0.length : Int) : Int).toNat≤17592186044416)=true:=decide_eq_true c20
     clear c20
     obtain ⟨y222,hy222⟩ : ∃ y_ : List (S117),y_=(List.replicate ((l0.length : Int) : Int).toNat z117):=⟨_,rfl⟩
     replace H : (pvq_Search.l1 k2 l0 t215 x7_2 y222 a1 x34_2 (y222.length : Int) 0 x222000_2 x222001_2)=some (r1,r2):=yrw hy222 H
     have Ny222:=zm hy222;clear hy222
     have H' := zm H
     clear H
     go_wp2_with (first|((with_reducible refine gate_dst (N:=38) rfl ?_);refine Kd.R_make k117 _ 117 rfl (N:=38) rfl 119 _ _ rfl (l0.length : Int) rfl rfl Try.underlying119 (.agg #[(.int .i64 0),(.int .i64 0)]) 16 info117 rfl (by decide) (by omega) z117 (ok:=fun _=>True) (okp:=fun _=>True) (k117_mkM _ _ _ z117 ) (fun _ hk=>hk) trivial (yt) (Nat.le_trans (Nat.mul_le_mul_right _ (yt : (l0.length : Int).toNat≤17592186044416)) (by omega)) (Below.refl _ _) (Nat.le_refl _) ?_;intro v223 w21 ho22 hb hg_ hnew_;clear hg_ hnew_;(first|rw [← Ny222.out] at ho22|(simp only [Int.reduceToNat] at ho22;rw [← Ny222.out] at ho22));replace HO_6:=yRb HO_6 hb;replace HO_7:=yRb HO_7 hb;have HO224:=zm (Kd.R_lower (Kd.R_newB ho22 (g:=gb221) (o:=.cells #[.int .i64 x222000_2, .int .i64 x222001_2] 117 (0,0)) (yk BK221)) (zE yhb));replace BK221:=ybb BK221 hb;replace HB:=ybs hb;clear hb ho22;obtain ⟨Ao23,co23,eo23⟩:=Kd.R_slice HO224.out;subst eo23))
     go_loopg [41] k2 (fun kq v41 w' => ∃ (x10_3 : List (S117)) (x41_3 : Int) (x222000_3 : Int) (x222001_3 : Int),v41=.int .i64 x41_3∧Aside0 (x222000_3=x222000_2)∧Aside0 (x222001_3=x222001_2)∧Aside0 (pvq_Search.l1 kq l0 t215 x7_2 x10_3 a1 x34_2 (y222.length : Int) x41_3 x222000_3 x222001_3=some (r1,r2))∧Aside0 (kq≤k2)∧Aside0 (Kd.R (Kd.int .i64) 2 w' w.heap.size (fun _=>True) v216 t215)∧Aside0 (Kd.R (Kd.int .i64) 3 w' w.heap.size (fun _=>True) v219 x7_2)∧Aside0 (Kd.R k117 117 w' w.heap.size (fun k_=>k_≠gb221) (.slice Ao23 y222.length co23) x10_3)∧Aside0 (w'.heap[gb221]? = some (.cells #[.int .i64 x222000_3, .int .i64 x222001_3] 117 (0,0)))∧Aside0 (Below w.heap.size w w'))
     case atStart=>exact ⟨(y222),(0),(x222000_2),(x222001_2),yq,⟨rfl⟩,⟨rfl⟩,H',⟨Nat.le_refl _⟩,⟨yr HO_6⟩,⟨yr HO_7⟩,⟨yR0 HO224⟩,⟨yk BK221⟩,⟨yhb⟩⟩
     case round =>
      clear H'
      try clear c18b0
      try clear c19b0
      try clear c19b1
      try clear c20b0
      try clear c20b1
      obtain ⟨x10_3,x41_3,x222000_3,x222001_3,rfl,hq0,hq1,HA,HK3,HO_6,HO_7,HO_10,BK221,HB⟩:=hrel
      have hl10_3:=(Kd.R_reads' HO_10.out).1
      rw [hl10_3] at HO_10
      (try simp only [hl10_3])
      (try simp only [hl10_3] at BK221)
      (try simp only [hl10_3] at HO_6)
      (try simp only [hl10_3] at HO_7)
      obtain ⟨k3,rfl⟩:=ysu gk (fun h=>by subst h;exact absurd HA.out (by simp [pvq_Search.l1]))
      have H:=HA.out;clear HA
      simp only [pvq_Search.l1] at H
      by_cases c24 : x41_3 < (y222.length : Int)
      ·
       rw [if_pos c24] at H
       have c24b0 : decide (x41_3 < (y222.length : Int))=true:=decide_eq_true c24
       clear c24
       replace H:=yif H;obtain ⟨c25,H⟩:=H
       have c25b0 : decide (0≤x41_3)=true:=decide_eq_true c25
       clear c25
       replace H:=yif H;obtain ⟨c26,H⟩:=H
       have c26b0 : decide (x41_3 < (t215.length : Int))=true:=decide_eq_true c26
       clear c26
       replace H:=yif H;obtain ⟨c27,H⟩:=H
       have c27b0 : decide (x41_3 < (x7_2.length : Int))=true:=decide_eq_true c27
       clear c27
       replace H:=ybi H;obtain ⟨⟨t227,t228⟩,A28,H⟩:=H
       try dsimp only at H
       replace H:=yif H;obtain ⟨c29,H⟩:=H
       have c29b0 : decide (x41_3 < (x10_3.length : Int))=true:=decide_eq_true c29
       clear c29
       obtain ⟨y229,hy229⟩ : ∃ y_ : List (S117),y_=(x10_3.set (x41_3 : Int).toNat (⟨t227,t228⟩ : S117)):=⟨_,rfl⟩
       replace H : (pvq_Search.l1 k3 l0 t215 x7_2 y229 a1 x34_2 (y222.length : Int) (wrap64 (x41_3+1)) x222000_3 x222001_3)=some (r1,r2):=yrw hy229 H
       have Ny229:=zm hy229;clear hy229
       have H' := zm H
       clear H
       try go_wp2
       replace HO_6:=zm (zq HO_6.out)
       replace HO_7:=zm (zq HO_7.out)
       replace HO_10:=zm (zq HO_10.out)
       replace BK221:=zm (zj BK221.out)
       replace HB:=zm (zf HB.out)
       obtain ⟨Ao32,co32,eo32⟩:=Kd.R_slice HO_6.out
       (first|subst eo32|(injection eo32 with f1_ f2_ f3_;have f4_:=f1_.symm;have f5_:=f3_.symm;clear f1_ f2_ f3_;subst f4_;subst f5_))
       have p225 : 0≤(x41_3 : Int):=yt
       have q225 : x41_3 < (t215.length : Int):=yt
       obtain ⟨ad225,e225,hx225_0⟩:=Kd.at_int (Kd.R_reads' HO_6.out).2.2 x41_3 p225 q225
       cases e225
       replace p225:=eq_true p225
       replace q225:=eq_true q225
       obtain ⟨Ao33,co33,eo33⟩:=Kd.R_slice HO_7.out
       (first|subst eo33|(injection eo33 with f1_ f2_ f3_;have f4_:=f1_.symm;have f5_:=f3_.symm;clear f1_ f2_ f3_;subst f4_;subst f5_))
       have p226 : 0≤(x41_3 : Int):=yt
       have q226 : x41_3 < (x7_2.length : Int):=yt
       obtain ⟨ad226,e226,hx226_0⟩:=Kd.at_int (Kd.R_reads' HO_7.out).2.2 x41_3 p226 q226
       cases e226
       replace p226:=eq_true p226
       replace q226:=eq_true q226
       refine yst (fun w' => w'.cell? ⟨gb221,0,none⟩=some (.int .i64 x222000_3)∧w'.cell? ⟨gb221,1,none⟩=some (.int .i64 x222001_3)∧w'.cell? (ad225.add (x41_3).toNat)=some (.int .i64 (rd t215 x41_3))∧w'.cell? (ad226.add (x41_3).toNat)=some (.int .i64 (rd x7_2 x41_3))) [13] 14 pvq_Search.tab12 pvq_Search.bits12 (fun hHeld HT_ HW_ => ?_)
       generalize wr.drew=w31 at HO_6 HO_7 HO_10 BK221 HB hx225_0 hx226_0 hHeld ⊢
       refine yp 0 44 HT_ ?_
       refine yp 1 45 HT_ ?_
       refine yp 3 47 HT_ ?_
       refine yp 4 48 HT_ ?_
       refine yp 5 49 HT_ ?_
       refine yp 7 51 HT_ ?_
       refine yp 8 52 HT_ ?_
       refine yp 9 53 HT_ ?_
       refine yp 2 46 HT_ ?_
       refine yl 6 50 HT_ HW_ hHeld ?_
       refine yl 10 54 HT_ HW_ hHeld ?_
       refine yw 11 55 HT_ (fun K hK => ?_)
       refine call_ 80 #[.agg #[.int .i64 x222000_3, .int .i64 x222001_3], .int .i64 (rd t215 x41_3), .int .i64 (rd x7_2 x41_3)] (by rfl) rfl ?hrun ?_
       (case hrun =>
        have he:=fun x W=>enters_ Try.func80 (by kernel_rfl) rfl x W
        rw [hq0.out,hq1.out]
        unfold execOp
        simp [resolve,Deferred.ofValue,invoke,Act.eval,he])
       with_reducible refine (pvq_with.calls x222000_3 x222001_3 (rd t215 x41_3) (rd x7_2 x41_3) t227 t228 _ A28.out).mono ?_
       rintro e w34 ⟨rfl,hb⟩
       have HS2_:=yhs hb hHeld.2.2.1
       have HS3_:=yhs hb hHeld.2.2.2
       refine ⟨_,rfl, ?_⟩
       replace HO_6:=yRb HO_6 hb
       replace HO_7:=yRb HO_7 hb
       replace HO_10:=yRb HO_10 hb
       replace BK221:=ybb BK221 hb
       replace HB:=ybs hb
       (try clear hb)
       have p30 : 0≤(x41_3 : Int):=yt
       have q30 : (x41_3 : Int) < ((x10_3.length : Int) : Int):=yt
       obtain ⟨go30,co30,eo30,gb30,gl30,cl30,HG30⟩:=Kd.R_form HO_10.out (by omega)
       (first|cases eo30|(injection eo30 with ea_ en_ ec_;(first|subst ea_|(injection ea_ with ea_;subst ea_));subst ec_;clear en_))
       have GB30:=zm gb30;have GG30:=zm HG30;clear gb30 gl30 HG30
       obtain ⟨ce30,hcl30,hM30,hcc30,hfr30⟩:=Kd.R_elem HO_10.out z117 (x41_3 : Int) p30 q30
       obtain rfl:=k117_openM hM30
       have hx30_0 : World.cell? _ ⟨go30,(x41_3 : Int).toNat * 2,none⟩=some (.int .i64 ((rd_T117 x10_3 x41_3).f0)):=hcc30 0 _ rfl
       have hx30_1 : World.cell? _ ⟨go30,(x41_3 : Int).toNat * 2+1,none⟩=some (.int .i64 ((rd_T117 x10_3 x41_3).f1)):=hcc30 1 _ rfl
       have hf30_0 : World.frozen? _ ⟨go30,(x41_3 : Int).toNat * 2,none⟩=false:=hfr30 0
       have hf30_1 : World.frozen? _ ⟨go30,(x41_3 : Int).toNat * 2+1,none⟩=false:=hfr30 1
       clear hcl30 hcc30 hfr30 hM30
       replace p30:=eq_true p30
       replace q30:=eq_true q30
       obtain ⟨ce35,hcl35,hM35,hcc35,hfr35⟩:=Kd.R_elem HO_10.out z117 (x41_3 : Int) (yt) (by have h_ : (x41_3 : Int) < ((x10_3.length : Int) : Int):=yt;first|exact h_|(have e_:=(Kd.R_reads' HO_10.out).1;omega)|simpa using h_)
       obtain rfl:=k117_openM hM35
       have HP35:=(Kd.R_seg HO_10.out (x41_3 : Int) (yt) (by have h_ : (x41_3 : Int) < ((x10_3.length : Int) : Int):=yt;first|exact h_|(have e_:=(Kd.R_reads' HO_10.out).1;omega)|simpa using h_) (seg := [.int .i64 t227, .int .i64 t228]) (j:=0) hcl35 hcc35 (show 2≤2 from by decide) (x' := (⟨t227,t228⟩ : S117)) (k117_mkM _ _ _ (⟨t227,t228⟩ : S117) ) (fun _ hk=>hk)).1
       rw [← Ny229.out] at HP35
       have HQ35:=zm HP35;clear hcl35 hcc35 hfr35 hM35 HP35
       refine hK.out _ _ yH (fun hHeld => ?_)
       clear hK K
       refine ym (some 55) ?_
       refine yp 12 56 HT_ ?_
       refine last_ (i:=13) (N:=none) #[true,true,true,true,true,true,true,true,true,true,true,true,true,true] rfl rfl (one_of HT_.out (by kernel_rfl)) (by decide) (fun K hK => ?_)
       refine skip_ (w1 := ?_) (by rfl) rfl ?_ ?_
       rotate_left
       ·
        go_simp
        rfl
       refine hK.out _ _ ?_
       clear hK K
       refine done_ (done_of HT_.out (by kernel_rfl)) ?_
       try go_wp2
       (try simp only [← hl10_3])
       go_roundg k3
       case measure=>exact yom3 HJ2 HK2 HK3
       case rel=>exact ⟨(y229),(wrap64 (x41_3+1)),(x222000_3),(x222001_3),yq,hq0,hq1,H',⟨yom3 HJ2 HK2 HK3⟩,⟨by (try simp only [hl10_3]);(with_reducible repeat (first|apply zo|apply zp|apply zq));exact zG (zH (p:=⟨go30,(x41_3 : Int).toNat * 2+1,none⟩) (zH (p:=⟨go30,(x41_3 : Int).toNat * 2,none⟩) (Kd.R_types HO_6.out GG30.out (by decide)) (fun _ hk=>hk.2) (.int .i64 t227)) (fun _ hk=>hk.2) (.int .i64 t228)) (fun _ hk=>trivial)⟩,⟨by (try simp only [hl10_3]);(with_reducible repeat (first|apply zo|apply zp|apply zq));exact zG (zH (p:=⟨go30,(x41_3 : Int).toNat * 2+1,none⟩) (zH (p:=⟨go30,(x41_3 : Int).toNat * 2,none⟩) (Kd.R_types HO_7.out GG30.out (by decide)) (fun _ hk=>hk.2) (.int .i64 t227)) (fun _ hk=>hk.2) (.int .i64 t228)) (fun _ hk=>trivial)⟩,⟨by (try simp only [hl10_3]);(with_reducible repeat (first|apply zo|apply zp|apply zq));exact HQ35.out⟩,⟨by (try simp only [hl10_3]);(with_reducible repeat (first|refine zh ?_ _|refine zj ?_|refine zi ?_ _));refine zv ?_ (by have h_:=Kd.R_away HO_10.out (fun _ hk=>hk);intro e_;exact h_ (by rw [e_];rfl)) _;(with_reducible repeat (first|refine zh ?_ _|refine zj ?_|refine zi ?_ _));refine zv ?_ (by have h_:=Kd.R_away HO_10.out (fun _ hk=>hk);intro e_;exact h_ (by rw [e_];rfl)) _;(with_reducible repeat (first|refine zh ?_ _|refine zj ?_|refine zi ?_ _));exact BK221.out⟩,⟨yhb⟩⟩
      ·
       rw [if_neg c24] at H
       have c24b0 : decide (x41_3 < (y222.length : Int))=false:=decide_eq_false c24
       have c24x0 : decide (x41_3 < (x10_3.length : Int))=false:=by rw [← hl10_3];exact c24b0
       clear c24
       replace H:=ybi H;obtain ⟨t230,A36,H⟩:=H
       replace H:=yif H;obtain ⟨c37,H⟩:=H
       have c37b0 : decide (0≤t230)=true:=decide_eq_true c37
       clear c37
       replace H:=yif H;obtain ⟨c38,H⟩:=H
       have c38b0 : decide (t230 < (x10_3.length : Int))=true:=decide_eq_true c38
       clear c38
       replace H:=yif H;obtain ⟨c39,H⟩:=H
       have c39b0 : decide (t230 < (x7_2.length : Int))=true:=decide_eq_true c39
       clear c39
       obtain ⟨y233,hy233⟩ : ∃ y_ : List Int,y_=(x7_2.set (t230 : Int).toNat (wrap64 ((rd x7_2 t230)+1))):=⟨_,rfl⟩
       replace H : (pvq_Search.l0 k3 l0 t215 y233 a1 (wrap64 (x34_2+1)) ((rd_T117 x10_3 t230).f0) ((rd_T117 x10_3 t230).f1))=some (r1,r2):=yrw hy233 H
       have Ny233:=zm hy233;clear hy233
       have H' := zm H
       clear H
       go_wp2_with (first|((with_reducible refine gate_callee (f:=81) rfl ?_);refine ygl 59 Try.func81 #[.slice Ao23 x10_3.length co23] ?_;(with_reducible refine (pvq_best.calls k3 _ _ x10_3 t230 _ ?side1 ?side2 A36.out).mono ?_);(case side1=>exact yce (Kd.R_reads' HO_10.out).2.2);(case side2=>exact (Kd.R_reads' HO_10.out).2.1);rintro e w41 ⟨rfl,hb⟩;refine ⟨_,rfl, ?_⟩;replace HO_6:=yRb HO_6 hb;replace HO_7:=yRb HO_7 hb;replace HO_10:=yRb HO_10 hb;replace BK221:=ybb BK221 hb;replace HB:=ybs hb;(try clear hb);have p231 : 0≤(t230 : Int):=yt;have q231 : t230 < (x10_3.length : Int):=yt;obtain ⟨ad231,e231,hx231_0,hx231_1⟩:=at_T117 (Kd.R_reads' HO_10.out).2.2 t230 p231 q231;cases e231;replace p231:=eq_true p231;replace q231:=eq_true q231;obtain ⟨_,_,_,_⟩:=yc2 BK221)|((with_reducible refine gate_store (t:=117) (p:=8) rfl ?_);refine store_event (t:=117) (p:=8) (v := ?vo_w43) (w1:=((w41.setCell ⟨gb221,0,none⟩ (.int .i64 ((rd_T117 x10_3 t230).f0))).setCell ⟨gb221,1,none⟩ (.int .i64 ((rd_T117 x10_3 t230).f1)))) ?hg ?ho ?hn ?hr ?_;(case ho=>rfl);(case hg=>rfl);(case hn=>rfl);(case hr=>first|(go_simp;done)|(go_simp;rfl));intro w43 hw;replace HO_6 : Aside0 (Kd.R (Kd.int .i64) 2 w43 w.heap.size (fun _=>True) v216 t215):=⟨(by rw [hw];exact (yR1 HO_6 BK221))⟩;replace HO_7 : Aside0 (Kd.R (Kd.int .i64) 3 w43 w.heap.size (fun _=>True) v219 x7_2):=⟨(by rw [hw];exact (yR1 HO_7 BK221))⟩;replace HO_10 : Aside0 (Kd.R k117 117 w43 w.heap.size (fun k_=>k_≠gb221) (.slice (some ad231) x10_3.length co23) x10_3):=⟨(by rw [hw];exact (yR0 HO_10))⟩;replace BK221 : Aside0 (w43.heap[gb221]? = some (.cells #[.int .i64 ((rd_T117 x10_3 t230).f0), .int .i64 ((rd_T117 x10_3 t230).f1)] 117 (0,0))):=⟨(by rw [hw];exact (ykp BK221))⟩;replace HB : Aside0 (Below w.heap.size w w43):=⟨(by rw [hw];exact yhb)⟩;clear hw;obtain ⟨_,_,_,_⟩:=yc2 BK221;obtain ⟨Ao45,co45,eo45⟩:=Kd.R_slice HO_7.out;subst eo45;have p232 : 0≤(t230 : Int):=yt;have q232 : t230 < (x7_2.length : Int):=yt;obtain ⟨ad232,e232,hx232_0⟩:=Kd.at_int (Kd.R_reads' HO_7.out).2.2 t230 p232 q232;cases e232;replace p232:=eq_true p232;replace q232:=eq_true q232;have p40 : 0≤(t230 : Int):=yt;have q40 : (t230 : Int) < ((x7_2.length : Int) : Int):=yt;obtain ⟨go40,co40,eo40,gb40,gl40,cl40,HG40⟩:=Kd.R_form HO_7.out (by omega);(first|cases eo40|(injection eo40 with ea_ en_ ec_;(first|subst ea_|(injection ea_ with ea_;subst ea_));subst ec_;clear en_));have GB40:=zm gb40;have GG40:=zm HG40;clear gb40 gl40 HG40;(first|simp only [add_plain] at hx232_0|skip);obtain ⟨hx40_0,hf40_0⟩:=Kd.R_celln 0 HO_7.out (t230 : Int) p40 q40;replace p40:=eq_true p40;replace q40:=eq_true q40;obtain ⟨hy46_,hz46_⟩:=Kd.R_celln 0 HO_7.out (t230 : Int) (yt) (yt);have HP46:=Kd.R_putg HO_7.out (t230 : Int) (wrap64 ((rd x7_2 t230)+1)))|((with_reducible refine gate_store (t:=3) (p:=71) rfl ?_);refine store_event (t:=3) (p:=71) (v := ?vo_w47) (w1:=(w43.setCell ⟨go40,(t230 : Int).toNat,none⟩ (.int .i64 (wrap64 ((rd x7_2 t230)+1))))) ?hg ?ho ?hn ?hr ?_;(case ho=>rfl);(case hg=>rfl);(case hn=>rfl);(case hr=>first|(go_simp;done)|(go_simp;rfl));intro w47 hw;have hg : w43.grownBy w47 (some go40):=(by rw [hw];exact HP46.2);have hp_ : Kd.R (Kd.int .i64) 3 w47 w.heap.size (fun _=>True) (.slice (some ⟨go40,0,none⟩) x7_2.length co45) y233:=(by rw [hw,Ny233.out];exact HP46.1);clear HP46;replace HO_6:=zm (Kd.R_over' (v:=(.slice (some ⟨go40,0,none⟩) x7_2.length co45)) (yr HO_6) (Kd.R_typed HO_7.out) (by decide) hg);replace HO_10:=zm (Kd.R_over' (v:=(.slice (some ⟨go40,0,none⟩) x7_2.length co45)) (yr HO_10) (Kd.R_typed HO_7.out) (by decide) hg);replace BK221:=zm (blk_grown (yk BK221) hg (zu HO_7.out BK221.out (by decide)));replace HO_7:=zm (hp_);replace HB:=zm ((by rw [hw];exact zk (HB.out) GB40.out : Below w.heap.size w w47));clear hg hw hp_))
       (try simp only [← hl10_3])
       go_roundg k3
       case measure=>exact yom3 HJ2 HK2 HK3
       case rel=>exact ⟨(y233),(wrap64 (x34_2+1)),((rd_T117 x10_3 t230).f0),((rd_T117 x10_3 t230).f1),yq,yq,H',⟨yom3 HJ2 HK2 HK3⟩,⟨by (try simp only [hl10_3]);(with_reducible repeat (first|apply zo|apply zp|apply zq));exact HO_6.out⟩,⟨by (try simp only [hl10_3]);(with_reducible repeat (first|apply zo|apply zp|apply zq));exact HO_7.out⟩,⟨by (try simp only [hl10_3]);(with_reducible repeat (first|refine zh ?_ _|refine zj ?_|refine zi ?_ _));exact BK221.out⟩,⟨yhb⟩⟩
    ·
     rw [if_neg c18] at H
     have c18b0 : decide (x34_2 < a1)=false:=decide_eq_false c18
     clear c18
     have H' := zm H
     clear H
     go_wp2
     go_loopg [75] k2 (fun kq v75 w' => ∃ (x7_3 : List Int) (x75_3 : Int),v75=.int .i64 x75_3∧Aside0 (pvq_Search.l2 kq x7_3 l0 (l0.length : Int) x75_3=some (r1,r2))∧Aside0 (kq≤k2)∧Aside0 (Kd.R (Kd.int .i64) 3 w' w.heap.size (fun _=>True) v219 x7_3)∧Aside0 (w'.heap[gb221]? = some (.cells #[.int .i64 x222000_2, .int .i64 x222001_2] 117 (0,0)))∧Aside0 (Below w.heap.size w w'))
     case atStart=>exact ⟨(x7_2),(0),yq,H',⟨Nat.le_refl _⟩,⟨yr HO_7⟩,⟨yk BK221⟩,⟨yhb⟩⟩
     case round =>
      clear H'
      try clear c18b0
      try clear c19b0
      try clear c19b1
      try clear c20b0
      try clear c20b1
      obtain ⟨x7_3,x75_3,rfl,HA,HK3,HO_7,BK221,HB⟩:=hrel
      obtain ⟨k3,rfl⟩:=ysu gk (fun h=>by subst h;exact absurd HA.out (by simp [pvq_Search.l2]))
      have H:=HA.out;clear HA
      simp only [pvq_Search.l2] at H
      by_cases c48 : x75_3 < (l0.length : Int)
      ·
       rw [if_pos c48] at H
       have c48b0 : decide (x75_3 < (l0.length : Int))=true:=decide_eq_true c48
       clear c48
       replace H:=yif H;obtain ⟨c49,H⟩:=H
       have c49b0 : decide (0≤x75_3)=true:=decide_eq_true c49
       clear c49
       replace H:=yif H;obtain ⟨c50,H⟩:=H
       have c50b0 : decide (x75_3 < (l0.length : Int))=true:=decide_eq_true c50
       clear c50
       by_cases c51 : (rd l0 x75_3) < 0
       ·
        rw [if_pos c51] at H
        have c51b0 : decide ((rd l0 x75_3) < 0)=true:=decide_eq_true c51
        clear c51
        replace H:=yif H;obtain ⟨c52,H⟩:=H
        have c52b0 : decide (x75_3 < (x7_3.length : Int))=true:=decide_eq_true c52
        clear c52
        obtain ⟨y236,hy236⟩ : ∃ y_ : List Int,y_=(x7_3.set (x75_3 : Int).toNat (wrap64 (-(rd x7_3 x75_3)))):=⟨_,rfl⟩
        replace H : (pvq_Search.l2 k3 y236 l0 (l0.length : Int) (wrap64 (x75_3+1)))=some (r1,r2):=yrw hy236 H
        have Ny236:=zm hy236;clear hy236
        have H' := zm H
        clear H
        have p234 : 0≤(x75_3 : Int):=yt
        have q234 : x75_3 < (l0.length : Int):=yt
        obtain ⟨ad234,e234,hx234_0⟩:=Kd.at_int HR0.out x75_3 p234 q234
        cases e234
        replace hx234_0:=yhx HB hx234_0
        replace p234:=eq_true p234
        replace q234:=eq_true q234
        obtain ⟨Ao54,co54,eo54⟩:=Kd.R_slice HO_7.out
        subst eo54
        have p235 : 0≤(x75_3 : Int):=yt
        have q235 : x75_3 < (x7_3.length : Int):=yt
        obtain ⟨ad235,e235,hx235_0⟩:=Kd.at_int (Kd.R_reads' HO_7.out).2.2 x75_3 p235 q235
        cases e235
        replace p235:=eq_true p235
        replace q235:=eq_true q235
        have p53 : 0≤(x75_3 : Int):=yt
        have q53 : (x75_3 : Int) < ((x7_3.length : Int) : Int):=yt
        obtain ⟨go53,co53,eo53,gb53,gl53,cl53,HG53⟩:=Kd.R_form HO_7.out (by omega)
        (first|cases eo53|(injection eo53 with ea_ en_ ec_;(first|subst ea_|(injection ea_ with ea_;subst ea_));subst ec_;clear en_))
        have GB53:=zm gb53;have GG53:=zm HG53;clear gb53 gl53 HG53
        (first|simp only [add_plain] at hx235_0|skip)
        obtain ⟨hx53_0,hf53_0⟩:=Kd.R_celln 0 HO_7.out (x75_3 : Int) p53 q53
        replace p53:=eq_true p53
        replace q53:=eq_true q53
        have HP55:=Kd.R_putg HO_7.out (x75_3 : Int) (wrap64 (-(rd x7_3 x75_3)))
        go_wp2_with (first|((with_reducible refine gate_store (t:=3) (p:=89) rfl ?_);refine store_event (t:=3) (p:=89) (v := ?vo_w56) (w1:=(wr.setCell ⟨go53,(x75_3 : Int).toNat,none⟩ (.int .i64 (wrap64 (-(rd x7_3 x75_3)))))) ?hg ?ho ?hn ?hr ?_;(case ho=>rfl);(case hg=>rfl);(case hn=>rfl);(case hr=>first|(go_simp;done)|(go_simp;rfl));intro w56 hw;have hg : wr.grownBy w56 (some go53):=(by rw [hw];exact HP55.2);have hp_ : Kd.R (Kd.int .i64) 3 w56 w.heap.size (fun _=>True) (.slice (some ⟨go53,0,none⟩) x7_3.length co54) y236:=(by rw [hw,Ny236.out];exact HP55.1);clear HP55;replace BK221:=zm (blk_grown (yk BK221) hg (zu HO_7.out BK221.out (by decide)));replace HO_7:=zm (hp_);replace HB:=zm ((by rw [hw];exact zk (HB.out) GB53.out : Below w.heap.size w w56));clear hg hw hp_))
        go_roundg k3
        case measure=>exact yom3 HJ2 HK2 HK3
        case rel=>exact ⟨(y236),(wrap64 (x75_3+1)),yq,H',⟨yom3 HJ2 HK2 HK3⟩,⟨yr HO_7⟩,⟨yk BK221⟩,⟨yhb⟩⟩
       ·
        rw [if_neg c51] at H
        have c51b0 : decide ((rd l0 x75_3) < 0)=false:=decide_eq_false c51
        clear c51
        have H' := zm H
        clear H
        have p234 : 0≤(x75_3 : Int):=yt
        have q234 : x75_3 < (l0.length : Int):=yt
        obtain ⟨ad234,e234,hx234_0⟩:=Kd.at_int HR0.out x75_3 p234 q234
        cases e234
        replace hx234_0:=yhx HB hx234_0
        replace p234:=eq_true p234
        replace q234:=eq_true q234
        go_wp2
        go_roundg k3
        case measure=>exact yom3 HJ2 HK2 HK3
        case rel=>exact ⟨(x7_3),(wrap64 (x75_3+1)),yq,H',⟨yom3 HJ2 HK2 HK3⟩,⟨yr HO_7⟩,⟨yk BK221⟩,⟨yhb⟩⟩
      ·
       rw [if_neg c48] at H
       have c48b0 : decide (x75_3 < (l0.length : Int))=false:=decide_eq_false c48
       clear c48
       simp only [Option.some.injEq,Prod.mk.injEq] at H
       obtain ⟨rfl,rfl⟩:=H
       go_wp2
       go_ret2
       exact ⟨_,ye,yr HO_7,yhb⟩
end Go.Proofs.Ytifkhfnmbiefaaa.Prt
