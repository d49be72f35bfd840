-- Functions of the program and of the document as plain Lean, each with the proof that the code comes to it. Written by a program of this session (wip/tools/myprint.py, pack.py) over the kit's printer; Lean checks it.
import Derived.Test.YtifkhfnmbiefaaaZToneNormsPrt0
import Derived.Test.YtifkhfnmbiefaaaZToneNormsSh
import Derived.Test.YtifkhfnmbiefaaaZToneNormsWMore
import Derived.Laws.Rows
import Derived.Laws.Tables
import Derived.Deep.WholeRow
namespace Go.Proofs.Ytifkhfnmbiefaaa.Prt
open Go.RowKit Go.Proofs.YtifkhfnmbiefaaaW.PrintWords Go.Proofs.YtifkhfnmbiefaaaW.PrintLast Go.Proofs.YtifkhfnmbiefaaaW.PrintMore
attribute [local go_sem] max2_int min2_int max_two min_two max_three min_three max_four min_four   -- for this text's walks alone
set_option linter.unusedVariables false
set_option linter.unusedSimpArgs false


def num_Sqrt.l0 : Nat→Int→Int→Int→Option (Int)
 | 0,_,_,_=>none
 | k+1,x0,x3,x4=>if x4 > 0 then (if (Go.bits .or .u64 x3 x4)=0 then (none) else (if (Go.bits .or .u64 x3 x4)≤(IntKind.u64.wrap (Int.tdiv x0 (Go.bits .or .u64 x3 x4))) then (num_Sqrt.l0 k x0 (Go.bits .or .u64 x3 x4) (x4 / 2)) else (num_Sqrt.l0 k x0 x3 (x4 / 2)))) else (some x3)
def num_Sqrt.f (k : Nat) (a0 : Int) : Option (Int):=num_Sqrt.l0 k a0 0 2147483648
theorem num_Sqrt.mono_l : ∀ k,(∀ y0 y1 y2,LeO (num_Sqrt.l0 k y0 y1 y2) (num_Sqrt.l0 (k+1) y0 y1 y2))
 | 0=>fun _ _ _ r h=>by simp [num_Sqrt.l0] at h
 | k+1=>by
  have ih0:=num_Sqrt.mono_l k
  ·
   intro y0 y1 y2
   unfold num_Sqrt.l0
   repeat' with_reducible first|apply ih0|apply yLr|apply yLn|apply yLi|apply yLb|intro _
theorem num_Sqrt.mono : ∀ a0 k,LeO (num_Sqrt.f k a0) (num_Sqrt.f (k+1) a0):=by
 intro a0 k
 have ih0:=num_Sqrt.mono_l k
 unfold num_Sqrt.f
 repeat' with_reducible first|apply ih0|apply yLr|apply yLn|apply yLi|apply yLb|intro _
set_option maxHeartbeats 8000000 in
set_option maxRecDepth 100000 in
theorem num_Sqrt.calls (k : Nat) (a0 : Int) (r : Int) (w : World) (h : num_Sqrt.f k a0=some r) :
  Calls Try.prog 106 #[.int .u64 a0] w fun e w' => e=.returned (.int .u64 r)∧Drawn0 w w' := by
 have H : (num_Sqrt.l0 k a0 0 2147483648)=some r:=h
 clear h
 have H' := zm H
 clear H
 go_enter Try.func106,Try.ntmps106
 go_wp2
 go_loopg [3,4] k (fun kq v3 v4 w' => ∃ (x3_1 : Int) (x4_1 : Int),v3=.int .u64 x3_1∧v4=.int .u64 x4_1∧Aside0 (num_Sqrt.l0 kq a0 x3_1 x4_1=some r)∧Aside0 (kq≤k)∧Drawn0 w w')
 case atStart=>exact ⟨(0),(2147483648),yq,yq,H',⟨Nat.le_refl _⟩,yd⟩
 case round =>
  clear H'
  obtain ⟨x3_1,x4_1,rfl,rfl,HA,HK1,⟨m1,rfl⟩⟩:=hrel
  obtain ⟨k1,rfl⟩:=ysu gk (fun h=>by subst h;exact absurd HA.out (by simp [num_Sqrt.l0]))
  have H:=HA.out;clear HA
  simp only [num_Sqrt.l0] at H
  by_cases c2 : x4_1 > 0
  ·
   rw [if_pos c2] at H
   have c2b0 : decide (0 < x4_1)=true:=decide_eq_true c2
   clear c2
   replace H:=yie H;obtain ⟨c3,H⟩:=H
   have c3b0 : ((Go.bits .or .u64 x3_1 x4_1) == 0)=false:=beq_eq_false_iff_ne.mpr c3
   have c3b1 : ((Go.bits .or .u64 x3_1 x4_1) != 0)=true:=bne_iff_ne.mpr c3
   by_cases c4 : (Go.bits .or .u64 x3_1 x4_1)≤(IntKind.u64.wrap (Int.tdiv a0 (Go.bits .or .u64 x3_1 x4_1)))
   ·
    rw [if_pos c4] at H
    have c4b0 : decide ((Go.bits .or .u64 x3_1 x4_1)≤(IntKind.u64.wrap (Int.tdiv a0 (Go.bits .or .u64 x3_1 x4_1))))=true:=decide_eq_true c4
    clear c4
    have H' := zm H
    clear H
    go_wp2
    go_roundg k1
    case measure=>exact yom1 HK1
    case rel=>exact ⟨(Go.bits .or .u64 x3_1 x4_1),(x4_1 / 2),yq,yq,H',⟨yom1 HK1⟩,yd⟩
   ·
    rw [if_neg c4] at H
    have c4b0 : decide ((Go.bits .or .u64 x3_1 x4_1)≤(IntKind.u64.wrap (Int.tdiv a0 (Go.bits .or .u64 x3_1 x4_1))))=false:=decide_eq_false c4
    clear c4
    have H' := zm H
    clear H
    go_wp2
    go_roundg k1
    case measure=>exact yom1 HK1
    case rel=>exact ⟨(x3_1),(x4_1 / 2),yq,yq,H',⟨yom1 HK1⟩,yd⟩
  ·
   rw [if_neg c2] at H
   have c2b0 : decide (0 < x4_1)=false:=decide_eq_false c2
   clear c2
   obtain rfl:=Option.some.inj H
   go_wp2
   go_ret
   exact ⟨yq,yd⟩
def band_Value.f (k : Nat) (a0 : Int) : Option (Int):=if a0 < 1 then (some 0) else (if a0 > 44 then (some 0) else (if 0≤(wrap64 (a0 - 1)) then ((num_Sqrt.f k (shl .u64 1 (wrap64 (a0 - 1)))).bind fun t295=>(some (wrap64 (t295)))) else (none)))
theorem band_Value.mono : ∀ a0 k,LeO (band_Value.f k a0) (band_Value.f (k+1) a0):=by
 intro a0 k
 unfold band_Value.f
 repeat' with_reducible first|apply num_Sqrt.mono|apply yLr|apply yLn|apply yLi|apply yLb|intro _
set_option maxHeartbeats 8000000 in
set_option maxRecDepth 100000 in
theorem band_Value.calls (k : Nat) (a0 : Int) (r : Int) (w : World) (h : band_Value.f k a0=some r) :
  Calls Try.prog 102 #[.int .i64 a0] w fun e w' => e=.returned (.int .i64 r)∧Drawn0 w w' := by
 have H : (if a0 < 1 then (some 0) else (if a0 > 44 then (some 0) else (if 0≤(wrap64 (a0 - 1)) then ((num_Sqrt.f k (shl .u64 1 (wrap64 (a0 - 1)))).bind fun t295=>(some (wrap64 (t295)))) else (none))))=some r:=h
 clear h
 by_cases c2 : a0 < 1
 ·
  rw [if_pos c2] at H
  have c2b0 : decide (a0 < 1)=true:=decide_eq_true c2
  clear c2
  obtain rfl:=Option.some.inj H
  go_enter Try.func102,Try.ntmps102
  go_wp2
  go_ret
  exact ⟨yq,yd⟩
 ·
  rw [if_neg c2] at H
  have c2b0 : decide (a0 < 1)=false:=decide_eq_false c2
  clear c2
  by_cases c3 : a0 > 44
  ·
   rw [if_pos c3] at H
   have c3b0 : decide (44 < a0)=true:=decide_eq_true c3
   clear c3
   obtain rfl:=Option.some.inj H
   go_enter Try.func102,Try.ntmps102
   go_wp2
   go_ret
   exact ⟨yq,yd⟩
  ·
   rw [if_neg c3] at H
   have c3b0 : decide (44 < a0)=false:=decide_eq_false c3
   clear c3
   obtain ⟨ji4,hji4⟩ : ∃ j_ : Int,(wrap64 (a0 - 1))=j_:=⟨_,rfl⟩
   replace H : (if 0≤(ji4) then ((num_Sqrt.f k (shl .u64 1 (ji4))).bind fun t295=>(some (wrap64 (t295)))) else (none))=some r:=by first|(rw [hji4] at H;exact H)|(simp only [hji4] at H ⊢; exact H)
   have hji4w : (IntKind.i64.wrap (a0 - 1))=ji4:=(i64_w _).trans hji4
   replace H:=yif H;obtain ⟨c5,H⟩:=H
   have c5b0:=eq_true c5
   have c5b1 : decide (0≤(ji4))=true:=decide_eq_true c5
   clear c5
   obtain ⟨ji6,hji6⟩ : ∃ j_ : Int,(shl .u64 1 (ji4))=j_:=⟨_,rfl⟩
   replace H : ((num_Sqrt.f k (ji6)).bind fun t295=>(some (wrap64 (t295))))=some r:=by first|(rw [hji6] at H;exact H)|(simp only [hji6] at H ⊢; exact H)
   have hji6_ : (IntKind.u64.wrap (1 * 2 ^ min (ji4).toNat 64))=ji6:=hji6
   have hji6z : (ji4)≤64→(IntKind.u64.wrap (1 * 2 ^ (ji4).toNat))=ji6:=shl_small hji6
   have hji6u : (IntKind.u64.wrap (2 ^ min (ji4).toNat 64))=ji6:=by have h_:=hji6_;rw [Int.one_mul] at h_;exact h_
   have hji6v : (ji4)≤64→(IntKind.u64.wrap (2 ^ (ji4).toNat))=ji6:=fun hle_=>by have h_:=hji6z hle_;rw [Int.one_mul] at h_;exact h_
   replace H:=ybi H;obtain ⟨t295,A7,H⟩:=H
   obtain rfl:=Option.some.inj H
   go_enter Try.func102,Try.ntmps102
   go_wp2_with (first|((with_reducible refine gate_callee (f:=106) rfl ?_);refine goesL_ (some 12) rfl rfl Try.func106 (by kernel_rfl) rfl #[.int .u64 ji6] rfl (by (try simp only [List.map_toArray,List.map_cons,List.map_nil]);first|done|(simp only [hji6];rfl)|rfl|(simp only [List.length_drop,List.length_take];rfl)) ?_;(with_reducible refine (num_Sqrt.calls k ji6 t295 _ A7.out).mono ?_);rintro e w' ⟨rfl,⟨nd,rfl⟩⟩;refine ⟨_,rfl, ?_⟩))
   go_ret
   exact ⟨by first|rfl|(simp;done)|(simp only [← hji4, ← hji6] <;> (first|rfl|simp))|(simp [*];done),yd⟩
def ccodec_loud.l0 : Nat→List Int→Int→Int→Option (Bool)
 | 0,_,_,_=>none
 | k+1,x5,x6,x7=>if x7 < x6 then (if 0≤x7 then (if x7 < (x5.length : Int) then (if (rd x5 x7)=0 then (ccodec_loud.l0 k x5 x6 (wrap64 (x7+1))) else (some true)) else (none)) else (none)) else (some false)
def ccodec_loud.f (k : Nat) (l0 : List Int) : Option (Bool):=ccodec_loud.l0 k l0 (l0.length : Int) 0
theorem ccodec_loud.mono_l : ∀ k,(∀ y0 y1 y2,LeO (ccodec_loud.l0 k y0 y1 y2) (ccodec_loud.l0 (k+1) y0 y1 y2))
 | 0=>fun _ _ _ r h=>by simp [ccodec_loud.l0] at h
 | k+1=>by
  have ih0:=ccodec_loud.mono_l k
  ·
   intro y0 y1 y2
   unfold ccodec_loud.l0
   repeat' with_reducible first|apply ih0|apply yLr|apply yLn|apply yLi|apply yLb|intro _
theorem ccodec_loud.mono : ∀ a0 k,LeO (ccodec_loud.f k a0) (ccodec_loud.f (k+1) a0):=by
 intro a0 k
 have ih0:=ccodec_loud.mono_l k
 unfold ccodec_loud.f
 repeat' with_reducible first|apply ih0|apply yLr|apply yLn|apply yLi|apply yLb|intro _
set_option maxHeartbeats 8000000 in
set_option maxRecDepth 100000 in
theorem ccodec_loud.calls (k : Nat) (A0 : Option Addr) (c0 : Nat) (l0 : List Int) (r : Bool) (w : World) (hr0 : Kd.C (Kd.int .i64) w A0 l0.length l0) (hc0 : l0.length≤c0) (h : ccodec_loud.f k l0=some r) :
  Calls Try.prog 103 #[.slice A0 l0.length c0] w fun e w' => e=.returned (.bool r)∧Drawn0 w w' := by
 have HR0:=zm hr0;have HC0:=zm hc0;clear hr0 hc0
 have H : (ccodec_loud.l0 k l0 (l0.length : Int) 0)=some r:=h
 clear h
 have H' := zm H
 clear H
 go_enter Try.func103,Try.ntmps103
 go_wp2
 go_loopg [7] k (fun kq v7 w' => ∃ (x7_1 : Int),v7=.int .i64 x7_1∧Aside0 (ccodec_loud.l0 kq l0 (l0.length : Int) x7_1=some r)∧Aside0 (kq≤k)∧Drawn0 w w')
 case atStart=>exact ⟨(0),yq,H',⟨Nat.le_refl _⟩,yd⟩
 case round =>
  clear H'
  obtain ⟨x7_1,rfl,HA,HK1,⟨m1,rfl⟩⟩:=hrel
  obtain ⟨k1,rfl⟩:=ysu gk (fun h=>by subst h;exact absurd HA.out (by simp [ccodec_loud.l0]))
  have H:=HA.out;clear HA
  simp only [ccodec_loud.l0] at H
  by_cases c2 : x7_1 < (l0.length : Int)
  ·
   rw [if_pos c2] at H
   have c2b0 : decide (x7_1 < (l0.length : Int))=true:=decide_eq_true c2
   clear c2
   replace H:=yif H;obtain ⟨c3,H⟩:=H
   have c3b0 : decide (0≤x7_1)=true:=decide_eq_true c3
   clear c3
   replace H:=yif H;obtain ⟨c4,H⟩:=H
   have c4b0 : decide (x7_1 < (l0.length : Int))=true:=decide_eq_true c4
   clear c4
   by_cases c5 : (rd l0 x7_1)=0
   ·
    rw [if_pos c5] at H
    have c5b0 : ((rd l0 x7_1) == 0)=true:=beq_iff_eq.mpr c5
    have c5b1 : ((rd l0 x7_1) != 0)=false:=bne_eq_false_iff_eq.mpr c5
    clear c5
    have H' := zm H
    clear H
    obtain ⟨ad296,e296,hx296_0,p296,q296⟩:=yai HR0 x7_1
    cases e296
    go_wp2
    go_roundg k1
    case measure=>exact yom1 HK1
    case rel=>exact ⟨(wrap64 (x7_1+1)),yq,H',⟨yom1 HK1⟩,yd⟩
   ·
    rw [if_neg c5] at H
    have c5b0 : ((rd l0 x7_1) == 0)=false:=beq_eq_false_iff_ne.mpr c5
    have c5b1 : ((rd l0 x7_1) != 0)=true:=bne_iff_ne.mpr c5
    obtain rfl:=Option.some.inj H
    obtain ⟨ad296,e296,hx296_0,p296,q296⟩:=yai HR0 x7_1
    cases e296
    go_wp2
    go_ret
    exact ⟨yq,yd⟩
  ·
   rw [if_neg c2] at H
   have c2b0 : decide (x7_1 < (l0.length : Int))=false:=decide_eq_false c2
   clear c2
   obtain rfl:=Option.some.inj H
   go_wp2
   go_ret
   exact ⟨yq,yd⟩
def num_Clamp.f (a0 : Int) (a1 : Int) (a2 : Int) : Option (Int):=if a0 < a1 then (some a1) else (if a0 > a2 then (some a2) else (some a0))
set_option maxHeartbeats 8000000 in
set_option maxRecDepth 100000 in
theorem num_Clamp.calls (a0 : Int) (a1 : Int) (a2 : Int) (r : Int) (w : World) (h : num_Clamp.f a0 a1 a2=some r) :
  Calls Try.prog 95 #[.int .i64 a0, .int .i64 a1, .int .i64 a2] w fun e w' => e=.returned (.int .i64 r)∧Drawn0 w w' := by
 have H : (if a0 < a1 then (some a1) else (if a0 > a2 then (some a2) else (some a0)))=some r:=h
 clear h
 by_cases c4 : a0 < a1
 ·
  rw [if_pos c4] at H
  have c4b0 : decide (a0 < a1)=true:=decide_eq_true c4
  clear c4
  obtain rfl:=Option.some.inj H
  go_enter Try.func95,Try.ntmps95
  go_wp2
  go_ret
  exact ⟨yq,yd⟩
 ·
  rw [if_neg c4] at H
  have c4b0 : decide (a0 < a1)=false:=decide_eq_false c4
  clear c4
  by_cases c5 : a0 > a2
  ·
   rw [if_pos c5] at H
   have c5b0 : decide (a2 < a0)=true:=decide_eq_true c5
   clear c5
   obtain rfl:=Option.some.inj H
   go_enter Try.func95,Try.ntmps95
   go_wp2
   go_ret
   exact ⟨yq,yd⟩
  ·
   rw [if_neg c5] at H
   have c5b0 : decide (a2 < a0)=false:=decide_eq_false c5
   clear c5
   obtain rfl:=Option.some.inj H
   go_enter Try.func95,Try.ntmps95
   go_wp2
   go_ret
   exact ⟨yq,yd⟩
def num_size.f (a0 : Int) : Option (Int):=if a0 < 0 then (some (IntKind.u64.wrap (-(IntKind.u64.wrap (a0))))) else (some (IntKind.u64.wrap (a0)))
set_option maxHeartbeats 8000000 in
set_option maxRecDepth 100000 in
theorem num_size.calls (a0 : Int) (r : Int) (w : World) (h : num_size.f a0=some r) :
  Calls Try.prog 120 #[.int .i64 a0] w fun e w' => e=.returned (.int .u64 r)∧Drawn0 w w' := by
 have H : (if a0 < 0 then (some (IntKind.u64.wrap (-(IntKind.u64.wrap (a0))))) else (some (IntKind.u64.wrap (a0))))=some r:=h
 clear h
 by_cases c2 : a0 < 0
 ·
  rw [if_pos c2] at H
  have c2b0 : decide (a0 < 0)=true:=decide_eq_true c2
  clear c2
  obtain rfl:=Option.some.inj H
  go_enter Try.func120,Try.ntmps120
  go_wp2
  go_ret
  exact ⟨yq,yd⟩
 ·
  rw [if_neg c2] at H
  have c2b0 : decide (a0 < 0)=false:=decide_eq_false c2
  clear c2
  obtain rfl:=Option.some.inj H
  go_enter Try.func120,Try.ntmps120
  go_wp2
  go_ret
  exact ⟨yq,yd⟩
def num_Div.f (a0 : Int) (a1 : Int) : Option (Int × Int):=if a1 < 1 then (some (0,1)) else ((num_size.f a0).bind fun t297=>(if (IntKind.u64.wrap (a1))=0 then (none) else (if (Int.tmod t297 (IntKind.u64.wrap (a1))) ≥ (IntKind.u64.wrap ((IntKind.u64.wrap (a1)) - (Int.tmod t297 (IntKind.u64.wrap (a1))))) then (if a0 < 0 then (some (wrap64 (IntKind.u64.wrap (-(IntKind.u64.wrap ((IntKind.u64.wrap (Int.tdiv t297 (IntKind.u64.wrap (a1))))+1)))),0)) else (some (wrap64 (IntKind.u64.wrap ((IntKind.u64.wrap (Int.tdiv t297 (IntKind.u64.wrap (a1))))+1)),0))) else (if a0 < 0 then (some (wrap64 (IntKind.u64.wrap (-(IntKind.u64.wrap (Int.tdiv t297 (IntKind.u64.wrap (a1)))))),0)) else (some (wrap64 (IntKind.u64.wrap (Int.tdiv t297 (IntKind.u64.wrap (a1)))),0))))))
set_option maxHeartbeats 8000000 in
set_option maxRecDepth 100000 in
theorem num_Div.calls (a0 : Int) (a1 : Int) (r1 : Int) (r2 : Int) (w : World) (h : num_Div.f a0 a1=some (r1,r2)) :
  Calls Try.prog 105 #[.int .i64 a0, .int .i64 a1] w fun e w' => e=.returned (.tuple #[.int .i64 r1, .int .i64 r2])∧Drawn0 w w' := by
 have H : (if a1 < 1 then (some (0,1)) else ((num_size.f a0).bind fun t297=>(if (IntKind.u64.wrap (a1))=0 then (none) else (if (Int.tmod t297 (IntKind.u64.wrap (a1))) ≥ (IntKind.u64.wrap ((IntKind.u64.wrap (a1)) - (Int.tmod t297 (IntKind.u64.wrap (a1))))) then (if a0 < 0 then (some (wrap64 (IntKind.u64.wrap (-(IntKind.u64.wrap ((IntKind.u64.wrap (Int.tdiv t297 (IntKind.u64.wrap (a1))))+1)))),0)) else (some (wrap64 (IntKind.u64.wrap ((IntKind.u64.wrap (Int.tdiv t297 (IntKind.u64.wrap (a1))))+1)),0))) else (if a0 < 0 then (some (wrap64 (IntKind.u64.wrap (-(IntKind.u64.wrap (Int.tdiv t297 (IntKind.u64.wrap (a1)))))),0)) else (some (wrap64 (IntKind.u64.wrap (Int.tdiv t297 (IntKind.u64.wrap (a1)))),0)))))))=some (r1,r2):=h
 clear h
 by_cases c3 : a1 < 1
 ·
  rw [if_pos c3] at H
  have c3b0 : decide (a1 < 1)=true:=decide_eq_true c3
  clear c3
  simp only [Option.some.injEq,Prod.mk.injEq] at H
  obtain ⟨rfl,rfl⟩:=H
  go_enter Try.func105,Try.ntmps105
  go_wp2
  repeat (go_quiet (fail);try go_wp2)
  go_ret2
  exact ⟨yq,yd⟩
 ·
  rw [if_neg c3] at H
  have c3b0 : decide (a1 < 1)=false:=decide_eq_false c3
  clear c3
  replace H:=ybi H;obtain ⟨t297,A4,H⟩:=H
  replace H:=yie H;obtain ⟨c5,H⟩:=H
  have c5b0 : ((IntKind.u64.wrap (a1)) == 0)=false:=beq_eq_false_iff_ne.mpr c5
  have c5b1 : ((IntKind.u64.wrap (a1)) != 0)=true:=bne_iff_ne.mpr c5
  by_cases c6 : (Int.tmod t297 (IntKind.u64.wrap (a1))) ≥ (IntKind.u64.wrap ((IntKind.u64.wrap (a1)) - (Int.tmod t297 (IntKind.u64.wrap (a1)))))
  ·
   rw [if_pos c6] at H
   have c6b0 : decide ((IntKind.u64.wrap ((IntKind.u64.wrap (a1)) - (Int.tmod t297 (IntKind.u64.wrap (a1)))))≤(Int.tmod t297 (IntKind.u64.wrap (a1))))=true:=decide_eq_true c6
   clear c6
   by_cases c7 : a0 < 0
   ·
    rw [if_pos c7] at H
    have c7b0 : decide (a0 < 0)=true:=decide_eq_true c7
    clear c7
    simp only [Option.some.injEq,Prod.mk.injEq] at H
    obtain ⟨rfl,rfl⟩:=H
    go_enter Try.func105,Try.ntmps105
    go_wp2_with (first|(go_at_call 120;(with_reducible refine (num_size.calls a0 t297 _ A4.out).mono ?_);rintro e w' ⟨rfl,⟨nd,rfl⟩⟩;(try exact yww)))
    repeat (go_quiet (first|(go_at_call 120;(with_reducible refine (num_size.calls a0 t297 _ A4.out).mono ?_);rintro e w' ⟨rfl,⟨nd,rfl⟩⟩;(try exact yww)));try go_wp2_with (first|(go_at_call 120;(with_reducible refine (num_size.calls a0 t297 _ A4.out).mono ?_);rintro e w' ⟨rfl,⟨nd,rfl⟩⟩;(try exact yww))))
    go_ret2
    exact ⟨yq,yd⟩
   ·
    rw [if_neg c7] at H
    have c7b0 : decide (a0 < 0)=false:=decide_eq_false c7
    clear c7
    simp only [Option.some.injEq,Prod.mk.injEq] at H
    obtain ⟨rfl,rfl⟩:=H
    go_enter Try.func105,Try.ntmps105
    go_wp2_with (first|(go_at_call 120;(with_reducible refine (num_size.calls a0 t297 _ A4.out).mono ?_);rintro e w' ⟨rfl,⟨nd,rfl⟩⟩;(try exact yww)))
    repeat (go_quiet (first|(go_at_call 120;(with_reducible refine (num_size.calls a0 t297 _ A4.out).mono ?_);rintro e w' ⟨rfl,⟨nd,rfl⟩⟩;(try exact yww)));try go_wp2_with (first|(go_at_call 120;(with_reducible refine (num_size.calls a0 t297 _ A4.out).mono ?_);rintro e w' ⟨rfl,⟨nd,rfl⟩⟩;(try exact yww))))
    go_ret2
    exact ⟨yq,yd⟩
  ·
   rw [if_neg c6] at H
   have c6b0 : decide ((IntKind.u64.wrap ((IntKind.u64.wrap (a1)) - (Int.tmod t297 (IntKind.u64.wrap (a1)))))≤(Int.tmod t297 (IntKind.u64.wrap (a1))))=false:=decide_eq_false c6
   clear c6
   by_cases c8 : a0 < 0
   ·
    rw [if_pos c8] at H
    have c8b0 : decide (a0 < 0)=true:=decide_eq_true c8
    clear c8
    simp only [Option.some.injEq,Prod.mk.injEq] at H
    obtain ⟨rfl,rfl⟩:=H
    go_enter Try.func105,Try.ntmps105
    go_wp2_with (first|(go_at_call 120;(with_reducible refine (num_size.calls a0 t297 _ A4.out).mono ?_);rintro e w' ⟨rfl,⟨nd,rfl⟩⟩;(try exact yww)))
    repeat (go_quiet (first|(go_at_call 120;(with_reducible refine (num_size.calls a0 t297 _ A4.out).mono ?_);rintro e w' ⟨rfl,⟨nd,rfl⟩⟩;(try exact yww)));try go_wp2_with (first|(go_at_call 120;(with_reducible refine (num_size.calls a0 t297 _ A4.out).mono ?_);rintro e w' ⟨rfl,⟨nd,rfl⟩⟩;(try exact yww))))
    go_ret2
    exact ⟨yq,yd⟩
   ·
    rw [if_neg c8] at H
    have c8b0 : decide (a0 < 0)=false:=decide_eq_false c8
    clear c8
    simp only [Option.some.injEq,Prod.mk.injEq] at H
    obtain ⟨rfl,rfl⟩:=H
    go_enter Try.func105,Try.ntmps105
    go_wp2_with (first|(go_at_call 120;(with_reducible refine (num_size.calls a0 t297 _ A4.out).mono ?_);rintro e w' ⟨rfl,⟨nd,rfl⟩⟩;(try exact yww)))
    repeat (go_quiet (first|(go_at_call 120;(with_reducible refine (num_size.calls a0 t297 _ A4.out).mono ?_);rintro e w' ⟨rfl,⟨nd,rfl⟩⟩;(try exact yww)));try go_wp2_with (first|(go_at_call 120;(with_reducible refine (num_size.calls a0 t297 _ A4.out).mono ?_);rintro e w' ⟨rfl,⟨nd,rfl⟩⟩;(try exact yww))))
    go_ret2
    exact ⟨yq,yd⟩
def comb_size.f (a0 : Int) : Option (Int):=if a0 < (-12) then (some 13) else (if a0 > 12 then (some 13) else (some (mx a0 (wrap64 (-a0)))))
set_option maxHeartbeats 8000000 in
set_option maxRecDepth 100000 in
theorem comb_size.calls (a0 : Int) (r : Int) (w : World) (h : comb_size.f a0=some r) :
  Calls Try.prog 91 #[.int .i64 a0] w fun e w' => e=.returned (.int .i64 r)∧Below w.heap.size w w' := by
 have HB:=zm (Below.refl w.heap.size w)
 have H : (if a0 < (-12) then (some 13) else (if a0 > 12 then (some 13) else (some (mx a0 (wrap64 (-a0))))))=some r:=h
 clear h
 by_cases c2 : a0 < (-12)
 ·
  rw [if_pos c2] at H
  have c2b0 : decide (a0 < (-12))=true:=decide_eq_true c2
  clear c2
  obtain rfl:=Option.some.inj H
  go_enter Try.func91,Try.ntmps91
  go_wp2
  go_ret
  exact ⟨ye,yhb⟩
 ·
  rw [if_neg c2] at H
  have c2b0 : decide (a0 < (-12))=false:=decide_eq_false c2
  clear c2
  by_cases c3 : a0 > 12
  ·
   rw [if_pos c3] at H
   have c3b0 : decide (12 < a0)=true:=decide_eq_true c3
   clear c3
   obtain rfl:=Option.some.inj H
   go_enter Try.func91,Try.ntmps91
   go_wp2
   go_ret
   exact ⟨ye,yhb⟩
  ·
   rw [if_neg c3] at H
   have c3b0 : decide (12 < a0)=false:=decide_eq_false c3
   clear c3
   obtain ⟨ji4,hji4⟩ : ∃ j_ : Int,(mx a0 (wrap64 (-a0)))=j_:=⟨_,rfl⟩
   replace H : (some ji4)=some r:=by first|(rw [hji4] at H;exact H)|(simp only [hji4] at H ⊢; exact H)
   have hji4_ : (if a0 < (wrap64 (-a0)) then (wrap64 (-a0)) else a0)=ji4:=hji4
   obtain rfl:=Option.some.inj H
   go_enter Try.func91,Try.ntmps91
   go_wp2
   go_ret
   exact ⟨by first|rfl|(simp [errW_none,errW_some] <;> rfl)|(simp only [← hji4];first|rfl|(simp [errW_none,errW_some] <;> rfl))|(simp [*,errW_none,errW_some] <;> rfl),yhb⟩
end Go.Proofs.Ytifkhfnmbiefaaa.Prt

namespace Go.Proofs.Ytifkhfnmbiefaaa.Prt
open Go Go.RowKit Go.Proofs.YtifkhfnmbiefaaaW.PrintWords Go.Proofs.YtifkhfnmbiefaaaW.PrintLast Go.Proofs.YtifkhfnmbiefaaaW.PrintMore
set_option linter.unusedVariables false
set_option linter.unusedSimpArgs false


set_option maxRecDepth 20000 in
theorem comb_table.zeroes : ∃ Z : Array Value,(∀ W,(zeroValue 130).run Try.prog W=.ok (.agg Z) W)∧Z.toList=encs (Value.int .u64) (List.replicate 221 0):=⟨_,fun _=>rfl,by rfl⟩
/-- A block of numbers, as its cells. -/
def ABl (xs : List Int) : Array Value:=(encs (Value.int .u64) xs).toArray
theorem ABl_get {xs : List Int} {i : Nat} (h : i < xs.length) : (ABl xs)[i]? = some (.int .u64 (xs.getD i 0)):=by
 unfold ABl
 rw [List.getElem?_toArray]
 exact encs_get xs i h
theorem ABl_set (xs : List Int) (i : Nat) (v : Int) : (ABl xs).setIfInBounds i (.int .u64 v)=ABl (xs.set i v):=by
 unfold ABl encs
 rw [List.setIfInBounds_toArray,List.map_set]
theorem ABl_size (xs : List Int) : (ABl xs).size=xs.length:=by
 unfold ABl
 rw [List.size_toArray,encs_length]
theorem ABl_one (xs : List Int) : (ABl xs).all (·.oneCell')=true:=by
 rw [Array.all_eq_true_iff_forall_mem]
 intro v hv
 unfold ABl encs at hv
 rw [List.mem_toArray,List.mem_map] at hv
 obtain ⟨n,_,rfl⟩:=hv
 rfl
section
variable {P : Program}
/-- A whole array is stored, cell by cell. -/
theorem storeCells_row (w : World) (g : Nat) (t ty : TypeId) (old cells : Array Value) (hg : w.heap[g]? = some (.cells old t (0,0))) (hi : (P.info? ty).map (·.size)=some cells.size) (ho : old.size=cells.size) (h1 : cells.all (·.oneCell')=true) :
  (storeCells ⟨g,0,none⟩ cells.toList 0).run P w=.ok () (w.setRow g cells):=by
 have h:=run_storeVar_row (P:=P) w g t ty old cells hg hi ho h1
 cases hq : P.info? ty with
 | none=>simp [hq] at hi
 | some i =>
  have hs : cells.size=i.size:=by
   simp [hq] at hi
   omega
  simpa [storeVar,sizeOf,typeInfo,hq,Value.cells,hs] using h
end
theorem below_row {w0 w : World} {B g : Nat} (h : Below B w0 w) (hg : B≤g) (cs : Array Value) : Below B w0 (w.setRow g cs):=⟨h.os,h.tape,h.output,by rw [setRow_size];exact h.size,fun k hk=>(setRow_other _ _ _ _ (by omega)).trans (h.block k hk)⟩
namespace comb_table
def new (xs : List Int) (n k : Nat) : Int:=IntKind.u64.wrap (IntKind.u64.wrap (xs.getD ((n-1)*13+k) 0+xs.getD (n*13+(k-1)) 0)+xs.getD ((n-1)*13+(k-1)) 0)
/-- Row n made up to place k. -/
def U (xs : List Int) (n : Nat) : Nat→List Int
 | 0=>xs.set (n*13) 1
 | k+1=>(U xs n k).set (n*13+(k+1)) (new (U xs n k) n (k+1))
/-- The rows up to n made. -/
def T : Nat→List Int
 | 0=>(List.replicate 221 0).set 0 1
 | n+1=>U (T n) (n+1) 12
theorem U_len (xs : List Int) (n : Nat) : ∀ k,(U xs n k).length=xs.length
 | 0=>by rw [U,List.length_set]
 | k+1=>by rw [U,List.length_set,U_len xs n k]
theorem T_len : ∀ n,(T n).length=221
 | 0=>by rw [T,List.length_set,List.length_replicate]
 | n+1=>by rw [T,U_len,T_len n]
theorem size16 : (Try.prog.info? 130).map (·.size)=some (ABl (T 16)).size:=by
 rw [ABl_size,T_len]
 kernel_rfl
def T10 : Bool × List (List Nat × List Nat):=(true, [([], []),([], []),([], []),([2], [2]),([], []),([3], [3]),([5,4], [4,5]),([6], [6]),([], []),([], []),([9], [9]),([8], [8]),([11,10], [10,11]),([12], [12]),([7,13], [7,13]),([], []),([15], [15]),([], []),([17], [17]),([16], [16]),([19,18], [18,19]),([20], [20]),([14,21], [14,21]),([0], [0]),([23,1,0,1,2,3,4,5,6,7,8,9,10,11,12,13,14,15,16,17,18,19,20,21,22], [1,23]),([24,22,0,1,2,3,4,5,6,7,8,9,10,11,12,13,14,15,16,17,18,19,20,21,22], [22,24])])
def B10 : List Nat := [0,0,0,4,0,12,60,124,0,0,512,256,3840,7936,16380,0,32768,0,131072,98304,1015808,2064384,4194300,1,16777215,33554431]
theorem tab10 : rtab .any (opsOf Try.f89 10)=T10:=by kernel_rfl
theorem bits10 : waitsOk T10.2 B10=true:=by kernel_rfl
end comb_table
set_option maxHeartbeats 8000000 in
set_option maxRecDepth 100000 in
theorem comb_table.made (w : World) : Calls Try.prog 89 #[] w fun e w' => e=.returned (.agg (ABl (comb_table.T 16)))∧Below w.heap.size w w' := by
 obtain ⟨Z,hz,hZ⟩:=comb_table.zeroes
 have hZ' : Aside0 (Z=ABl (List.replicate 221 0)):=⟨by
  unfold ABl
  rw [← hZ]⟩
 clear hZ
 have hb2 : ((w.alloc (.cells Z 130)).alloc (.cells Z 130)).heap[w.heap.size+1]? = some (.cells Z 130 (0,0)):=by
  have:=blk_new (w.alloc (.cells Z 130)) (.cells Z 130)
  simpa using this
 have hc1 : ((w.alloc (.cells Z 130)).alloc (.cells Z 130)).cell? ⟨w.heap.size+1,0,none⟩=some (.int .u64 0):=by
  rw [zs hb2 0,hZ'.out,ABl_get (by rw [List.length_replicate];decide)]
  rfl
 have hf1 : ((w.alloc (.cells Z 130)).alloc (.cells Z 130)).frozen? ⟨w.heap.size+1,0,none⟩=false:=zx hb2 0
 have hb1 : (((w.alloc (.cells Z 130)).alloc (.cells (Z.setIfInBounds 0 (.int .u64 1)) 130))).heap[w.heap.size+1]? = some (.cells (ABl (comb_table.T 0)) 130 (0,0)):=by
  have h0 : Z.setIfInBounds 0 (.int .u64 1)=ABl (comb_table.T 0):=by
   rw [hZ'.out,ABl_set]
   rfl
  have e1 : (w.alloc (.cells Z 130)).heap.size=w.heap.size+1:=by simp
  have h1:=blk_new (w.alloc (.cells Z 130)) (.cells (ABl (comb_table.T 0)) 130)
  rw [e1] at h1
  rw [h0]
  exact h1
 have hb0 : (((w.alloc (.cells Z 130)).alloc (.cells (Z.setIfInBounds 0 (.int .u64 1)) 130))).heap[w.heap.size]? = some (.cells Z 130 (0,0)):=zi (blk_new w _) _
 have HB : Aside0 (Below w.heap.size w ((w.alloc (.cells Z 130)).alloc (.cells (Z.setIfInBounds 0 (.int .u64 1)) 130))):=⟨ze (ze (Below.refl _ _) _) _⟩
 clear hb2
 go_enter Try.func89,Try.ntmps89
 go_wp2
 clear hc1 hf1
 generalize ((w.alloc (.cells Z 130)).alloc (.cells (Z.setIfInBounds 0 (.int .u64 1)) 130))=W1 at hb1 hb0 HB ⊢
 have HC:=zm hb1;have HZ0:=zm hb0;clear hb1 hb0
 go_loopg [2] 16 (fun kq v2 w' => ∃ (n : Nat) (x : Int),v2=.int .i64 x∧Aside0 (x=((n+1 : Nat) : Int))∧Aside0 (n+kq=16)∧Aside0 (w'.heap[w.heap.size+1]? = some (.cells (ABl (comb_table.T n)) 130 (0,0)))∧Aside0 (w'.heap[w.heap.size]? = some (.cells Z 130 (0,0)))∧Aside0 (Below w.heap.size w w'))
 case atStart=>exact ⟨0,1,rfl,⟨rfl⟩,⟨rfl⟩,HC,HZ0,HB⟩
 case round =>
  clear HC HZ0 HB
  obtain ⟨n,x,rfl,HX,HN,HC,HZ0,HB⟩:=hrel
  by_cases c9 : x≤16
  ·
   have c9b0 : decide (x≤16)=true:=decide_eq_true c9
   have hx0 : (0≤x)=True:=eq_true (by have:=HX.out;omega)
   have hx1 : (x < 17)=True:=eq_true (by omega)
   have hxn : x.toNat=n+1:=by have:=HX.out;omega
   obtain ⟨n',rfl⟩ : ∃ q,gk=q+1:=⟨gk - 1,by have:=HN.out;have:=HX.out;omega⟩
   have hn15 : n < 16:=by have:=HX.out;omega
   have hcl : wr.cell? ⟨w.heap.size+1,x.toNat * 13,none⟩=some (.int .u64 ((comb_table.T n).getD (x.toNat * 13) 0)):=by
    rw [zs HC.out,ABl_get (by rw [comb_table.T_len];omega)]
   have hfr : wr.frozen? ⟨w.heap.size+1,x.toNat * 13,none⟩=false:=zx HC.out _
   have HXN:=zm hxn;have HN15:=zm hn15;clear c9 hxn hn15
   go_wp2
   have n1_ : Aside0 ((wr.setCell ⟨w.heap.size+1,x.toNat * 13,none⟩ (.int .u64 1)).heap[w.heap.size+1]? = some (.cells (ABl (comb_table.U (comb_table.T n) (n+1) 0)) 130 (0,0))):=⟨by
    have h1:=blk_set HC.out (x.toNat * 13) (.int .u64 1)
    rw [ABl_set,HXN.out] at h1
    rw [HXN.out]
    exact h1⟩
   have n2_ : Aside0 ((wr.setCell ⟨w.heap.size+1,x.toNat * 13,none⟩ (.int .u64 1)).heap[w.heap.size]? = some (.cells Z 130 (0,0))):=⟨zv HZ0.out (by simp) _⟩
   have n3_ : Aside0 (Below w.heap.size w (wr.setCell ⟨w.heap.size+1,x.toNat * 13,none⟩ (.int .u64 1))):=⟨zk HB.out (by omega)⟩
   clear HC HZ0 HB hcl hfr
   generalize (wr.setCell ⟨w.heap.size+1,x.toNat * 13,none⟩ (.int .u64 1))=W2 at n1_ n2_ n3_ ⊢
   go_loopg [3] 12 (fun kq v3 w' => ∃ (j : Nat) (y : Int),v3=.int .i64 y∧Aside0 (y=((j+1 : Nat) : Int))∧Aside0 (j+kq=12)∧Aside0 (w'.heap[w.heap.size+1]? = some (.cells (ABl (comb_table.U (comb_table.T n) (n+1) j)) 130 (0,0)))∧Aside0 (w'.heap[w.heap.size]? = some (.cells Z 130 (0,0)))∧Aside0 (Below w.heap.size w w'))
   case atStart=>exact ⟨0,1,rfl,⟨rfl⟩,⟨rfl⟩,n1_,n2_,n3_⟩
   case round =>
    clear n1_ n2_ n3_
    obtain ⟨j,y,rfl,HY,HJ,HC,HZ0,HB⟩:=hrel
    by_cases c16 : y≤12
    ·
     have c16b0 : decide (y≤12)=true:=decide_eq_true c16
     have hy0 : (0≤y)=True:=eq_true (by have:=HY.out;omega)
     have hy1 : (y < 13)=True:=eq_true (by omega)
     have hyn : y.toNat=j+1:=by have:=HY.out;omega
     have hj11 : j < 12:=by have:=HY.out;omega
     obtain ⟨j',rfl⟩ : ∃ q,gk=q+1:=⟨gk - 1,by have:=HJ.out;omega⟩
     obtain ⟨xm,hxm⟩ : ∃ j_ : Int,wrap64 (x - 1)=j_:=⟨_,rfl⟩
     have hxmw : (IntKind.i64.wrap (x - 1))=xm:=(i64_w _).trans hxm
     obtain ⟨ym,hym⟩ : ∃ j_ : Int,wrap64 (y - 1)=j_:=⟨_,rfl⟩
     have hymw : (IntKind.i64.wrap (y - 1))=ym:=(i64_w _).trans hym
     have hxe : xm=(n : Int):=by rw [← hxm];have:=HX.out;have:=HN15.out;unfold wrap64;omega
     have hye : ym=(j : Int):=by rw [← hym];have:=HY.out;unfold wrap64;omega
     have hxm0 : (0≤xm)=True:=eq_true (by omega)
     have hxm1 : (xm < 17)=True:=eq_true (by have:=HN15.out;omega)
     have hym0 : (0≤ym)=True:=eq_true (by omega)
     have hym1 : (ym < 13)=True:=eq_true (by omega)
     have hxmn : xm.toNat=n:=by omega
     have hymn : ym.toNat=j:=by omega
     have HJ11:=zm hj11;have HYN:=zm hyn;have HXM:=zm hxmn;have HYM:=zm hymn
     obtain ⟨X,hXd⟩ : ∃ X,X=comb_table.U (comb_table.T n) (n+1) j:=⟨_,rfl⟩
     have hXl : X.length=221:=by rw [hXd,comb_table.U_len,comb_table.T_len]
     rw [← hXd] at HC
     have HXD:=zm hXd;have HXL:=zm hXl;clear hXd hXl c16 hyn hj11 hxmn hymn hxe hye hxm hym
     try go_wp2
     have n1_:=zm (zj HC.out);have n2_:=zm (zj HZ0.out);have n3_:=zm (zf HB.out);clear HC HZ0 HB;have HC:=n1_;have HZ0:=n2_;have HB:=n3_;clear n1_ n2_ n3_
     obtain ⟨va,hva⟩ : ∃ v_,v_=X.getD (xm.toNat * 13+y.toNat) 0:=⟨_,rfl⟩
     obtain ⟨vb,hvb⟩ : ∃ v_,v_=X.getD (x.toNat * 13+ym.toNat) 0:=⟨_,rfl⟩
     obtain ⟨vc,hvc⟩ : ∃ v_,v_=X.getD (xm.toNat * 13+ym.toNat) 0:=⟨_,rfl⟩
     have HVA:=zm hva;have HVB:=zm hvb;have HVC:=zm hvc;clear hva hvb hvc
     have hx1 : wr.drew.cell? ⟨w.heap.size+1,xm.toNat * 13+y.toNat,none⟩=some (.int .u64 va):=by
      rw [zs HC.out,HVA.out,ABl_get (by have:=HXL.out;have:=HXM.out;have:=HYN.out;have:=HN15.out;have:=HJ11.out;omega)]
     have hx2 : wr.drew.cell? ⟨w.heap.size+1,x.toNat * 13+ym.toNat,none⟩=some (.int .u64 vb):=by
      rw [zs HC.out,HVB.out,ABl_get (by have:=HXL.out;have:=HXN.out;have:=HYM.out;have:=HN15.out;have:=HJ11.out;omega)]
     have hx3 : wr.drew.cell? ⟨w.heap.size+1,xm.toNat * 13+ym.toNat,none⟩=some (.int .u64 vc):=by
      rw [zs HC.out,HVC.out,ABl_get (by have:=HXL.out;have:=HXM.out;have:=HYM.out;have:=HN15.out;have:=HJ11.out;omega)]
     have hx4 : wr.drew.cell? ⟨w.heap.size+1,x.toNat * 13+y.toNat,none⟩=some (.int .u64 (X.getD (x.toNat * 13+y.toNat) 0)):=by
      rw [zs HC.out,ABl_get (by have:=HXL.out;have:=HXN.out;have:=HYN.out;have:=HN15.out;have:=HJ11.out;omega)]
     have hf4 : wr.drew.frozen? ⟨w.heap.size+1,x.toNat * 13+y.toNat,none⟩=false:=zx HC.out _
     refine yst (fun w' => w'.cell? ⟨w.heap.size+1,xm.toNat * 13+y.toNat,none⟩=some (.int .u64 va)∧w'.cell? ⟨w.heap.size+1,x.toNat * 13+ym.toNat,none⟩=some (.int .u64 vb)∧w'.cell? ⟨w.heap.size+1,xm.toNat * 13+ym.toNat,none⟩=some (.int .u64 vc)) [25] 26 comb_table.tab10 comb_table.bits10 (fun hHeld HT_ HW_ => ?_) (hS:=⟨hx1,hx2,hx3⟩)
     generalize wr.drew=w30 at HC HZ0 HB hx1 hx2 hx3 hx4 hf4 hHeld ⊢
     refine yp 0 17 HT_ ?_
     refine yp 1 18 HT_ ?_
     refine yp 2 19 HT_ ?_
     refine yp 3 20 HT_ ?_
     refine yp 4 21 HT_ ?_
     refine yp 5 22 HT_ ?_
     refine yp 6 23 HT_ ?_
     refine yp 8 25 HT_ ?_
     refine yp 9 26 HT_ ?_
     refine yp 10 27 HT_ ?_
     refine yp 11 28 HT_ ?_
     refine yp 12 29 HT_ ?_
     refine yp 15 32 HT_ ?_
     refine yp 16 33 HT_ ?_
     refine yp 17 34 HT_ ?_
     refine yp 18 35 HT_ ?_
     refine yp 19 36 HT_ ?_
     refine yp 20 37 HT_ ?_
     refine yp 23 40 HT_ ?_
     refine yl 7 24 HT_ HW_ hHeld ?_
     refine yl 13 30 HT_ HW_ hHeld ?_
     refine yp 14 31 HT_ ?_
     refine yl 21 38 HT_ HW_ hHeld ?_
     refine yp 22 39 HT_ ?_
     refine yp 24 41 HT_ ?_
     refine last_ (i:=25) (N:=none) #[true,true,true,true,true,true,true,true,true,true,true,true,true,true,true,true,true,true,true,true,true,true,true,true,true,true] rfl rfl (one_of HT_.out (by kernel_rfl)) (by decide) (fun K hK => ?_)
     refine skip_ (w1 := ?_) (by rfl) rfl ?_ ?_
     rotate_left
     ·
      go_simp
      rfl
     refine hK.out _ _ ?_
     clear hK K
     refine done_ (done_of HT_.out (by kernel_rfl)) ?_
     try go_wp2
     go_roundg j'
     case measure=>omega
     case rel=>exact ⟨j+1,_,rfl,⟨by have:=HY.out;have:=HJ11.out;unfold wrap64;omega⟩,⟨yom1 HJ⟩,⟨by
      have h1:=blk_set HC.out (x.toNat * 13+y.toNat) (.int .u64 (comb_table.new X (n+1) (j+1)))
      rw [ABl_set] at h1
      have h2 : X.set (x.toNat * 13+y.toNat) (comb_table.new X (n+1) (j+1))=comb_table.U (comb_table.T n) (n+1) (j+1):=by
       rw [HXN.out,HYN.out,HXD.out]
       rfl
      have h3 : comb_table.new X (n+1) (j+1)=IntKind.u64.wrap (IntKind.u64.wrap (va+vb)+vc):=by
       rw [HVA.out,HVB.out,HVC.out,HXN.out,HYN.out,HXM.out,HYM.out]
       rfl
      rw [h2,h3] at h1
      exact h1⟩,⟨zv HZ0.out (by simp) _⟩,⟨zk HB.out (by omega)⟩⟩
    ·
     have c16b0 : decide (y≤12)=false:=decide_eq_false c16
     have hj12 : j=12:=by have:=HY.out;have:=HJ.out;omega
     have HJ12:=zm hj12;clear c16 hj12
     go_wp2
     go_roundg n'
     case measure=>omega
     case rel=>exact ⟨n+1,_,rfl,⟨by have:=HX.out;have:=HN15.out;unfold wrap64;omega⟩,⟨yom1 HN⟩,⟨by rw [HC.out,HJ12.out];rfl⟩,HZ0,HB⟩
  ·
   have c9b0 : decide (x≤16)=false:=decide_eq_false c9
   have hn16 : n=16:=by have:=HX.out;have:=HN.out;omega
   have HN16:=zm hn16;clear c9 hn16
   have HC16 : wr.heap[w.heap.size+1]? = some (.cells (ABl (comb_table.T 16)) 130 (0,0)):=by
    rw [← HN16.out]
    exact HC.out
   have HF:=zm HC16;clear HC16 HC
   go_wp2
   refine wp_load_row 130 (.tmp 1) rfl (w.heap.size+1) rfl 130 _ (0,0) (.array 17 128) HF.out Try.underlying130 rfl comb_table.size16 ?_
   have hst:=storeCells_row (P:=Try.prog) wr w.heap.size 130 130 Z (ABl (comb_table.T 16)) HZ0.out comb_table.size16 (by rw [hZ'.out,ABl_size,ABl_size,comb_table.T_len,List.length_replicate]) (ABl_one _)
   go_wp2
   (try simp only [Exit.inBlock,Exit.then])
   refine bodyPost_ret (results_cell_row rfl _ _ w.heap.size 130 (ABl (comb_table.T 16)) (0,0) (.array 17 128) rfl (setRow_heap _ _ _ _ _ _ HZ0.out) Try.underlying130 rfl comb_table.size16) rfl ?_
   exact ⟨rfl,below_row HB.out (Nat.le_refl _) _⟩

/-- What place k of row n holds. -/
def comb_table.f (a0 a1 : Int) : Option Int:=if 0≤a0 then (if a0 < 17 then (if 0≤a1 then (if a1 < 13 then some ((comb_table.T 16).getD (a0.toNat * 13+a1.toNat) 0) else none) else none) else none) else none
theorem comb_table.parts {n k t : Int} (h : comb_table.f n k=some t) : 0≤n∧n < 17∧0≤k∧k < 13∧t=(comb_table.T 16).getD (n.toNat * 13+k.toNat) 0:=by
 unfold comb_table.f at h
 split at h
 ·
  split at h
  ·
   split at h
   ·
    split at h
    ·
     exact ⟨by assumption,by assumption,by assumption,by assumption,(Option.some.inj h).symm⟩
    ·
     exact absurd h (by simp)
   ·
    exact absurd h (by simp)
  ·
   exact absurd h (by simp)
 ·
  exact absurd h (by simp)
theorem comb_table.inn {n k t : Int} (h : comb_table.f n k=some t) : ((0≤n)=True)∧((n < 17)=True)∧((0≤k)=True)∧((k < 13)=True):=by
 obtain ⟨h0,h1,h2,h3,_⟩:=comb_table.parts h
 exact ⟨eq_true h0,eq_true h1,eq_true h2,eq_true h3⟩
theorem comb_table.look {W : World} {g : Nat} (hg : W.heap[g]? = some (.cells (ABl (comb_table.T 16)) 130 (0,0))) {n k t : Int} (h : comb_table.f n k=some t) : W.cell? ⟨g,n.toNat * 13+k.toNat,none⟩=some (.int .u64 t):=by
 obtain ⟨h0,h1,h2,h3,ht⟩:=comb_table.parts h
 rw [ht,zs hg,ABl_get (by rw [comb_table.T_len];omega)]
set_option maxRecDepth 100000 in
theorem comb_table.zsize : ∃ Z : Array Value,(∀ W,(zeroValue 130).run Try.prog W=.ok (.agg Z) W)∧Aside0 (Z.size=(ABl (comb_table.T 16)).size):=by
 obtain ⟨Z,hz,hZ⟩:=comb_table.zeroes
 refine ⟨Z,hz,⟨?_⟩⟩
 have h:=congrArg List.length hZ
 rw [Array.length_toList,encs_length,List.length_replicate] at h
 exact h.trans (by rw [ABl_size,comb_table.T_len])
end Go.Proofs.Ytifkhfnmbiefaaa.Prt

namespace Go.Proofs.Ytifkhfnmbiefaaa.Prt
open Go.RowKit Go.Proofs.YtifkhfnmbiefaaaW.PrintWords Go.Proofs.YtifkhfnmbiefaaaW.PrintLast Go.Proofs.YtifkhfnmbiefaaaW.PrintMore
attribute [local go_sem] max2_int min2_int max_two min_two max_three min_three max_four min_four   -- for this text's walks alone
set_option linter.unusedVariables false
set_option linter.unusedSimpArgs false


mutual
def comb_Index.j0 : Nat→List Int→Bool→Option (Int × Int)
 | 0,_,_=>none
 | k+1,x0,x21=>if x21=true then (some (0,1)) else (comb_Index.l0 k x0 0 x0 (x0.length : Int) 0)
def comb_Index.l0 : Nat→List Int→Int→List Int→Int→Int→Option (Int × Int)
 | 0,_,_,_,_,_=>none
 | k+1,x0,x4,x22,x23,x24=>if x24 < x23 then (if 0≤x24 then (if x24 < (x22.length : Int) then ((comb_size.f (rd x22 x24)).bind fun t272=>(comb_Index.l0 k x0 (wrap64 (x4+t272)) x22 x23 (wrap64 (x24+1)))) else (none)) else (none)) else (if x4 > 12 then (some (0,1)) else (comb_Index.l1 k x0 x4 0 x0 (x0.length : Int) 0))
def comb_Index.l1 : Nat→List Int→Int→Int→List Int→Int→Int→Option (Int × Int)
 | 0,_,_,_,_,_,_=>none
 | k+1,x0,x4,x8,x36,x37,x38=>if x38 < x37 then (if 0≤x38 then (if x38 < (x36.length : Int) then ((comb_size.f (rd x36 x38)).bind fun t277=>(if t277 > 0 then ((comb_table.f (wrap64 ((wrap64 ((x0.length : Int) - x38)) - 1)) x4).bind fun t278=>(comb_Index.j3 k x0 x4 (IntKind.u64.wrap (x8+t278)) (rd x36 x38) (wrap64 ((wrap64 ((x0.length : Int) - x38)) - 1)) t277 x36 x37 x38)) else (comb_Index.j3 k x0 x4 x8 (rd x36 x38) (wrap64 ((wrap64 ((x0.length : Int) - x38)) - 1)) t277 x36 x37 x38))) else (none)) else (none)) else (some (x8,0))
def comb_Index.j3 : Nat→List Int→Int→Int→Int→Int→Int→List Int→Int→Int→Option (Int × Int)
 | 0,_,_,_,_,_,_,_,_,_=>none
 | k+1,x0,x4,x8,x10,x11,x12,x36,x37,x38=>comb_Index.l2 k x0 x4 x8 x10 x11 x12 1 x36 x37 x38
def comb_Index.l2 : Nat→List Int→Int→Int→Int→Int→Int→Int→List Int→Int→Int→Option (Int × Int)
 | 0,_,_,_,_,_,_,_,_,_,_=>none
 | k+1,x0,x4,x8,x10,x11,x12,x13,x36,x37,x38=>if x13 < x12 then ((comb_table.f x11 (wrap64 (x4 - x13))).bind fun t279=>(comb_Index.l2 k x0 x4 (IntKind.u64.wrap (x8+(IntKind.u64.wrap (2 * t279)))) x10 x11 x12 (wrap64 (x13+1)) x36 x37 x38)) else (if x10 < 0 then ((comb_table.f x11 (wrap64 (x4 - x12))).bind fun t280=>(comb_Index.l1 k x0 (wrap64 (x4 - x12)) (IntKind.u64.wrap (x8+t280)) x36 x37 (wrap64 (x38+1)))) else (comb_Index.l1 k x0 (wrap64 (x4 - x12)) x8 x36 x37 (wrap64 (x38+1))))
end
def comb_Index.f (k : Nat) (l0 : List Int) : Option (Int × Int):=if (l0.length : Int) < 1 then (comb_Index.j0 k l0 true) else (comb_Index.j0 k l0 (decide ((l0.length : Int) > 16)))
theorem comb_Index.mono_l : ∀ k,(∀ y0 y1,LeO (comb_Index.j0 k y0 y1) (comb_Index.j0 (k+1) y0 y1))∧(∀ y0 y1 y2 y3 y4,LeO (comb_Index.l0 k y0 y1 y2 y3 y4) (comb_Index.l0 (k+1) y0 y1 y2 y3 y4))∧(∀ y0 y1 y2 y3 y4 y5,LeO (comb_Index.l1 k y0 y1 y2 y3 y4 y5) (comb_Index.l1 (k+1) y0 y1 y2 y3 y4 y5))∧(∀ y0 y1 y2 y3 y4 y5 y6 y7 y8,LeO (comb_Index.j3 k y0 y1 y2 y3 y4 y5 y6 y7 y8) (comb_Index.j3 (k+1) y0 y1 y2 y3 y4 y5 y6 y7 y8))∧(∀ y0 y1 y2 y3 y4 y5 y6 y7 y8 y9,LeO (comb_Index.l2 k y0 y1 y2 y3 y4 y5 y6 y7 y8 y9) (comb_Index.l2 (k+1) y0 y1 y2 y3 y4 y5 y6 y7 y8 y9))
 | 0=>⟨fun _ _ r h=>by simp [comb_Index.j0] at h,fun _ _ _ _ _ r h=>by simp [comb_Index.l0] at h,fun _ _ _ _ _ _ r h=>by simp [comb_Index.l1] at h,fun _ _ _ _ _ _ _ _ _ r h=>by simp [comb_Index.j3] at h,fun _ _ _ _ _ _ _ _ _ _ r h=>by simp [comb_Index.l2] at h⟩
 | k+1=>by
  obtain ⟨ih0,ih1,ih2,ih3,ih4⟩:=comb_Index.mono_l k
  refine ⟨?_, ?_, ?_, ?_, ?_⟩
  ·
   intro y0 y1
   unfold comb_Index.j0
   repeat' with_reducible first|apply ih0|apply ih1|apply ih2|apply ih3|apply ih4|apply yLr|apply yLn|apply yLi|apply yLb|intro _
  ·
   intro y0 y1 y2 y3 y4
   unfold comb_Index.l0
   repeat' with_reducible first|apply ih0|apply ih1|apply ih2|apply ih3|apply ih4|apply yLr|apply yLn|apply yLi|apply yLb|intro _
  ·
   intro y0 y1 y2 y3 y4 y5
   unfold comb_Index.l1
   repeat' with_reducible first|apply ih0|apply ih1|apply ih2|apply ih3|apply ih4|apply yLr|apply yLn|apply yLi|apply yLb|intro _
  ·
   intro y0 y1 y2 y3 y4 y5 y6 y7 y8
   unfold comb_Index.j3
   repeat' with_reducible first|apply ih0|apply ih1|apply ih2|apply ih3|apply ih4|apply yLr|apply yLn|apply yLi|apply yLb|intro _
  ·
   intro y0 y1 y2 y3 y4 y5 y6 y7 y8 y9
   unfold comb_Index.l2
   repeat' with_reducible first|apply ih0|apply ih1|apply ih2|apply ih3|apply ih4|apply yLr|apply yLn|apply yLi|apply yLb|intro _
theorem comb_Index.mono : ∀ a0 k,LeO (comb_Index.f k a0) (comb_Index.f (k+1) a0):=by
 intro a0 k
 obtain ⟨ih0,ih1,ih2,ih3,ih4⟩:=comb_Index.mono_l k
 unfold comb_Index.f
 repeat' with_reducible first|apply ih0|apply ih1|apply ih2|apply ih3|apply ih4|apply yLr|apply yLn|apply yLi|apply yLb|intro _
set_option maxHeartbeats 8000000 in
set_option maxRecDepth 100000 in
theorem comb_Index.calls (k : Nat) (A0 : Option Addr) (c0 : Nat) (l0 : List Int) (r1 : Int) (r2 : Int) (w : World) (hr0 : Kd.C (Kd.int .i64) w A0 l0.length l0) (hc0 : l0.length≤c0) (h : comb_Index.f k l0=some (r1,r2)) :
  Calls Try.prog 49 #[.slice A0 l0.length c0] w fun e w' => e=.returned (.tuple #[.int .u64 r1, .int .i64 r2])∧Below w.heap.size w w' := by
 have HR0:=zm hr0;have HC0:=zm hc0;clear hr0 hc0;have HB:=zm (Below.refl w.heap.size w)
 have H : (if (l0.length : Int) < 1 then (comb_Index.j0 k l0 true) else (comb_Index.j0 k l0 (decide ((l0.length : Int) > 16))))=some (r1,r2):=h
 clear h;have HC2:=zm H;clear H
 go_enter Try.func49,Try.ntmps49
 go_upto_region 1 with (fail)
 go_cut [21] (fun v21 wc => ∃ (kq : Nat) (x21_1 : Bool),v21=.bool x21_1∧Aside0 (comb_Index.j0 kq l0 x21_1=some (r1,r2))∧Aside0 (kq≤k)∧Aside0 (Below w.heap.size w wc))
 case first =>
  have H:=HC2.out;clear HC2
  by_cases c3 : (l0.length : Int) < 1
  ·
   rw [if_pos c3] at H
   have c3b0 : decide ((l0.length : Int) < 1)=true:=decide_eq_true c3
   have c3b1 : decide (l0.length < 1)=true:=decide_eq_true (by omega)
   clear c3
   (first|rw [c3b0]|(simp only [i64_w,i32_w];rw [c3b0])|skip)
   have H' := zm H
   clear H
   go_wp2
   go_meet
   case rel=>exact ⟨_,(true),yq,H',⟨yo⟩,⟨yhb⟩⟩
  ·
   rw [if_neg c3] at H
   have c3b0 : decide ((l0.length : Int) < 1)=false:=decide_eq_false c3
   have c3b1 : decide (l0.length < 1)=false:=decide_eq_false (by omega)
   clear c3
   (first|rw [c3b0]|(simp only [i64_w,i32_w];rw [c3b0])|skip)
   have H' := zm H
   clear H
   go_wp2
   go_meet
   case rel=>exact ⟨_,(decide ((l0.length : Int) > 16)),yq,H',⟨yo⟩,⟨yhb⟩⟩
 case rest =>
  clear HC2
  obtain ⟨kq,x21_1,rfl,HA,HJ1,HB⟩:=hcut
  obtain ⟨kj1,rfl⟩:=ysu kq (fun h=>by subst h;exact absurd HA.out (by simp [comb_Index.j0]))
  have H:=HA.out;clear HA
  simp only [comb_Index.j0] at H
  by_cases c4 : x21_1=true
  ·
   subst c4
   rw [if_pos rfl] at H
   simp only [Option.some.injEq,Prod.mk.injEq] at H
   obtain ⟨rfl,rfl⟩:=H
   go_wp2
   go_ret2
   exact ⟨ye,yhb⟩
  ·
   replace c4:=Bool.eq_false_iff.mpr c4
   subst c4
   rw [ynf] at H
   have H' := zm H
   clear H
   go_wp2
   go_loopg [4,24] kj1 (fun kq v4 v24 w' => ∃ (x4_2 : Int) (x24_2 : Int),v4=.int .i64 x4_2∧v24=.int .i64 x24_2∧Aside0 (comb_Index.l0 kq l0 x4_2 l0 (l0.length : Int) x24_2=some (r1,r2))∧Aside0 (kq≤kj1)∧Aside0 (Below w.heap.size w w'))
   case atStart=>exact ⟨(0),(0),yq,yq,H',⟨Nat.le_refl _⟩,⟨yhb⟩⟩
   case round =>
    clear H'
    obtain ⟨x4_2,x24_2,rfl,rfl,HA,HK2,HB⟩:=hrel
    obtain ⟨k2,rfl⟩:=ysu gk (fun h=>by subst h;exact absurd HA.out (by simp [comb_Index.l0]))
    have H:=HA.out;clear HA
    simp only [comb_Index.l0] at H
    by_cases c5 : x24_2 < (l0.length : Int)
    ·
     rw [if_pos c5] at H
     have c5b0 : decide (x24_2 < (l0.length : Int))=true:=decide_eq_true c5
     clear c5
     replace H:=yif H;obtain ⟨c6,H⟩:=H
     have c6b0 : decide (0≤x24_2)=true:=decide_eq_true c6
     clear c6
     replace H:=yif H;obtain ⟨c7,H⟩:=H
     have c7b0 : decide (x24_2 < (l0.length : Int))=true:=decide_eq_true c7
     clear c7
     replace H:=ybi H;obtain ⟨t272,A8,H⟩:=H
     have H' := zm H
     clear H
     have p271 : 0≤(x24_2 : Int):=yt
     have q271 : x24_2 < (l0.length : Int):=yt
     obtain ⟨ad271,e271,hx271_0⟩:=Kd.at_int HR0.out x24_2 p271 q271
     cases e271
     replace hx271_0:=yhx HB hx271_0
     replace p271:=eq_true p271
     replace q271:=eq_true q271
     go_wp2_with (first|((with_reducible refine gate_callee (f:=91) rfl ?_);refine ygl 30 Try.func91 #[.int .i64 (rd l0 x24_2)] ?_;(with_reducible refine (comb_size.calls (rd l0 x24_2) t272 _ A8.out).mono ?_);rintro e w9 ⟨rfl,hb⟩;refine ⟨_,rfl, ?_⟩;replace HB:=ybs hb;(try clear hb)))
     go_roundg k2
     case measure=>exact yom2 HJ1 HK2
     case rel=>exact ⟨(wrap64 (x4_2+t272)),(wrap64 (x24_2+1)),yq,yq,H',⟨yom2 HJ1 HK2⟩,⟨yhb⟩⟩
    ·
     rw [if_neg c5] at H
     have c5b0 : decide (x24_2 < (l0.length : Int))=false:=decide_eq_false c5
     clear c5
     by_cases c10 : x4_2 > 12
     ·
      rw [if_pos c10] at H
      have c10b0 : decide (12 < x4_2)=true:=decide_eq_true c10
      clear c10
      simp only [Option.some.injEq,Prod.mk.injEq] at H
      obtain ⟨rfl,rfl⟩:=H
      go_wp2
      go_ret2
      exact ⟨ye,yhb⟩
     ·
      rw [if_neg c10] at H
      have c10b0 : decide (12 < x4_2)=false:=decide_eq_false c10
      clear c10
      obtain ⟨y273,hy273⟩ : ∃ y_ : List Int,y_=(([0] : List Int)):=⟨_,rfl⟩
      replace H : (comb_Index.l1 k2 l0 x4_2 0 l0 (l0.length : Int) 0)=some (r1,r2):=yrw hy273 H
      have Ny273:=zm hy273;clear hy273
      have H' := zm H
      clear H
      obtain ⟨Z,hz,HZs⟩:=comb_table.zsize
      go_wp2_with (first|((with_reducible refine gate_callee (f:=89) rfl ?_);refine goesL_ (some 35) rfl rfl Try.func89 (by kernel_rfl) rfl #[] rfl (by first|rfl|simp) ?_;(with_reducible refine (comb_table.made _).mono ?_);rintro e w5 ⟨rfl,hb5⟩;refine ⟨_,rfl, ?_⟩;have hst:=run_storeCells_new (P:=Try.prog) w5 130 Z (ABl (comb_table.T 16)) comb_table.size16 HZs.out (ABl_one _);have n1_:=zm (ze (zJ yhb hb5) (.cells (ABl (comb_table.T 16)) 130));clear HB;have HB:=n1_;clear n1_;have hbn:=zm (blk_new w5 (.cells (ABl (comb_table.T 16)) 130))))
      have hb0:=HB.out
      obtain ⟨W0,hW0⟩ : ∃ W0,W0=w5.alloc (.cells (ABl (comb_table.T 16)) 130):=⟨_,rfl⟩
      rw [← hW0] at hb0 hbn
      rw [← hW0]
      clear hW0 HB hst hz HZs
      generalize w5.heap.size=B at hbn ⊢
      replace HR0:=zm (Kd.C_below HR0.out hb0)
      have HB:=zm (Below.refl W0.heap.size W0)
      go_loopg [4,8,38] k2 (fun kq v4 v8 v38 w' => ∃ (x4_3 : Int) (x8_3 : Int) (x38_3 : Int),v4=.int .i64 x4_3∧v8=.int .u64 x8_3∧v38=.int .i64 x38_3∧Aside0 (comb_Index.l1 kq l0 x4_3 x8_3 l0 (l0.length : Int) x38_3=some (r1,r2))∧Aside0 (kq≤k2)∧Aside0 (Below W0.heap.size W0 w'))
      case atStart=>exact ⟨(x4_2),(0),(0),yq,yq,yq,H',⟨Nat.le_refl _⟩,⟨yhb⟩⟩
      case round =>
       clear H'
       try clear c5b0
       try clear c6b0
       try clear c7b0
       try clear c10b0
       try clear hx271_0
       try clear p271
       try clear q271
       obtain ⟨x4_3,x8_3,x38_3,rfl,rfl,rfl,HA,HK3,HB⟩:=hrel
       obtain ⟨k3,rfl⟩:=ysu gk (fun h=>by subst h;exact absurd HA.out (by simp [comb_Index.l1]))
       have H:=HA.out;clear HA
       simp only [comb_Index.l1] at H
       by_cases c13 : x38_3 < (l0.length : Int)
       ·
        rw [if_pos c13] at H
        have c13b0 : decide (x38_3 < (l0.length : Int))=true:=decide_eq_true c13
        clear c13
        replace H:=yif H;obtain ⟨c14,H⟩:=H
        have c14b0 : decide (0≤x38_3)=true:=decide_eq_true c14
        clear c14
        replace H:=yif H;obtain ⟨c15,H⟩:=H
        have c15b0 : decide (x38_3 < (l0.length : Int))=true:=decide_eq_true c15
        clear c15
        replace H:=ybi H;obtain ⟨t277,A16,H⟩:=H
        have HC17:=zm H;clear H
        have p276 : 0≤(x38_3 : Int):=yt
        have q276 : x38_3 < (l0.length : Int):=yt
        obtain ⟨ad276,e276,hx276_0⟩:=Kd.at_int HR0.out x38_3 p276 q276
        cases e276
        replace hx276_0:=(HB.out.cell (zb W0 _ hx276_0)).trans hx276_0
        replace p276:=eq_true p276
        replace q276:=eq_true q276
        go_upto_if 51 with (first|((with_reducible refine gate_callee (f:=91) rfl ?_);refine ygl 49 Try.func91 #[.int .i64 (rd l0 x38_3)] ?_;(with_reducible refine (comb_size.calls (rd l0 x38_3) t277 _ A16.out).mono ?_);rintro e w18 ⟨rfl,hb⟩;refine ⟨_,rfl, ?_⟩;replace HB:=ybs hb;(try clear hb)))
        (try simp only [Act.put,List.setIfInBounds_toArray,List.set_cons_zero,List.set_cons_succ])
        go_cut [8] (fun v8 wc => ∃ (kq : Nat) (x8_16 : Int),v8=.int .u64 x8_16∧Aside0 (comb_Index.j3 kq l0 x4_3 x8_16 (rd l0 x38_3) (wrap64 ((wrap64 ((l0.length : Int) - x38_3)) - 1)) t277 l0 (l0.length : Int) x38_3=some (r1,r2))∧Aside0 (kq≤k3)∧Aside0 (Below W0.heap.size W0 wc))
        case first =>
         have H:=HC17.out;clear HC17
         by_cases c19 : t277 > 0
         ·
          rw [if_pos c19] at H
          have c19b0 : decide (0 < t277)=true:=decide_eq_true c19
          clear c19
          (first|rw [c19b0]|(simp only [i64_w,i32_w];rw [c19b0])|skip)
          replace H:=ybi H;obtain ⟨t278,A20,H⟩:=H
          have H' := zm H
          clear H
          obtain ⟨ia0,ib0,ic0,id0⟩:=comb_table.inn A20.out
          have hcl0:=(HB.out.cell (zb W0 _ (comb_table.look hbn.out A20.out))).trans (comb_table.look hbn.out A20.out)
          go_wp2
          go_meet
          case rel=>exact ⟨_,(IntKind.u64.wrap (x8_3+t278)),yq,H',⟨yom3 HJ1 HK2 HK3⟩,⟨yhb⟩⟩
         ·
          rw [if_neg c19] at H
          have c19b0 : decide (0 < t277)=false:=decide_eq_false c19
          clear c19
          (first|rw [c19b0]|(simp only [i64_w,i32_w];rw [c19b0])|skip)
          have H' := zm H
          clear H
          go_wp2
          go_meet
          case rel=>exact ⟨_,(x8_3),yq,H',⟨yom3 HJ1 HK2 HK3⟩,⟨yhb⟩⟩
        case rest =>
         clear HC17
         try clear c13b0
         try clear c14b0
         try clear c15b0
         try clear hx276_0
         try clear p276
         try clear q276
         obtain ⟨kq,x8_16,rfl,HA,HJ16,HB⟩:=hcut
         obtain ⟨kj16,rfl⟩:=ysu kq (fun h=>by subst h;exact absurd HA.out (by simp [comb_Index.j3]))
         have H:=HA.out;clear HA
         simp only [comb_Index.j3] at H
         have H' := zm H
         clear H
         go_wp2
         go_loopg [8,13] kj16 (fun kq v8 v13 w' => ∃ (x8_5 : Int) (x13_5 : Int),v8=.int .u64 x8_5∧v13=.int .i64 x13_5∧Aside0 (comb_Index.l2 kq l0 x4_3 x8_5 (rd l0 x38_3) (wrap64 ((wrap64 ((l0.length : Int) - x38_3)) - 1)) t277 x13_5 l0 (l0.length : Int) x38_3=some (r1,r2))∧Aside0 (kq≤kj16)∧Aside0 (Below W0.heap.size W0 w'))
         case atStart=>exact ⟨(x8_16),(1),yq,yq,H',⟨Nat.le_refl _⟩,⟨yhb⟩⟩
         case round =>
          clear H'
          obtain ⟨x8_5,x13_5,rfl,rfl,HA,HK5,HB⟩:=hrel
          obtain ⟨k5,rfl⟩:=ysu gk (fun h=>by subst h;exact absurd HA.out (by simp [comb_Index.l2]))
          have H:=HA.out;clear HA
          simp only [comb_Index.l2] at H
          by_cases c21 : x13_5 < t277
          ·
           rw [if_pos c21] at H
           have c21b0 : decide (x13_5 < t277)=true:=decide_eq_true c21
           clear c21
           replace H:=ybi H;obtain ⟨t279,A22,H⟩:=H
           have H' := zm H
           clear H
           obtain ⟨ia1,ib1,ic1,id1⟩:=comb_table.inn A22.out
           have hcl1:=(HB.out.cell (zb W0 _ (comb_table.look hbn.out A22.out))).trans (comb_table.look hbn.out A22.out)
           go_wp2
           go_roundg k5
           case measure=>exact yom5 HJ1 HK2 HK3 HJ16 HK5
           case rel=>exact ⟨(IntKind.u64.wrap (x8_5+(IntKind.u64.wrap (2 * t279)))),(wrap64 (x13_5+1)),yq,yq,H',⟨yom5 HJ1 HK2 HK3 HJ16 HK5⟩,⟨yhb⟩⟩
          ·
           rw [if_neg c21] at H
           have c21b0 : decide (x13_5 < t277)=false:=decide_eq_false c21
           clear c21
           by_cases c23 : (rd l0 x38_3) < 0
           ·
            rw [if_pos c23] at H
            have c23b0 : decide ((rd l0 x38_3) < 0)=true:=decide_eq_true c23
            clear c23
            replace H:=ybi H;obtain ⟨t280,A24,H⟩:=H
            have H' := zm H
            clear H
            obtain ⟨ia2,ib2,ic2,id2⟩:=comb_table.inn A24.out
            have hcl2:=(HB.out.cell (zb W0 _ (comb_table.look hbn.out A24.out))).trans (comb_table.look hbn.out A24.out)
            go_wp2
            go_roundg k5
            case measure=>exact yom5 HJ1 HK2 HK3 HJ16 HK5
            case rel=>exact ⟨(wrap64 (x4_3 - t277)),(IntKind.u64.wrap (x8_5+t280)),(wrap64 (x38_3+1)),yq,yq,yq,H',⟨yom5 HJ1 HK2 HK3 HJ16 HK5⟩,⟨yhb⟩⟩
           ·
            rw [if_neg c23] at H
            have c23b0 : decide ((rd l0 x38_3) < 0)=false:=decide_eq_false c23
            clear c23
            have H' := zm H
            clear H
            go_wp2
            go_roundg k5
            case measure=>exact yom5 HJ1 HK2 HK3 HJ16 HK5
            case rel=>exact ⟨(wrap64 (x4_3 - t277)),(x8_5),(wrap64 (x38_3+1)),yq,yq,yq,H',⟨yom5 HJ1 HK2 HK3 HJ16 HK5⟩,⟨yhb⟩⟩
       ·
        rw [if_neg c13] at H
        have c13b0 : decide (x38_3 < (l0.length : Int))=false:=decide_eq_false c13
        clear c13
        simp only [Option.some.injEq,Prod.mk.injEq] at H
        obtain ⟨rfl,rfl⟩:=H
        go_wp2
        go_ret2
        exact ⟨ye,zJ hb0 yhb⟩
mutual
def pvq_Shape.j0 : Nat→List Int→Int→Bool→Option (List Int × Int)
 | 0,_,_,_=>none
 | k+1,x0,x1,x29=>if x29=true then (some (([] : List Int),1)) else (pvq_Shape.l0 k x0 x1 0 x0 (x0.length : Int) 0)
def pvq_Shape.l0 : Nat→List Int→Int→Int→List Int→Int→Int→Option (List Int × Int)
 | 0,_,_,_,_,_,_=>none
 | k+1,x0,x1,x8,x30,x31,x32=>if x32 < x31 then (if 0≤x32 then (if x32 < (x30.length : Int) then (pvq_Shape.l0 k x0 x1 (IntKind.u64.wrap (x8+(IntKind.u64.wrap (wrap64 ((rd x30 x32) * (rd x30 x32)))))) x30 x31 (wrap64 (x32+1))) else (none)) else (none)) else (if 0≤(x0.length : Int) then (if ((x0.length : Int) : Int).toNat≤35184372088832 then ((some (List.replicate ((x0.length : Int) : Int).toNat 0 : List Int)).bind fun y301=>(if x8=0 then (some (y301,0)) else ((num_Sqrt.f k (IntKind.u64.wrap ((IntKind.u64.wrap (x8 * 256)) * 256))).bind fun t304=>(pvq_Shape.l1 k x1 y301 (wrap64 (t304)) x0 (x0.length : Int) 0)))) else (none)) else (none))
def pvq_Shape.l1 : Nat→Int→List Int→Int→List Int→Int→Int→Option (List Int × Int)
 | 0,_,_,_,_,_,_=>none
 | k+1,x1,x11,x12,x54,x55,x56=>if x56 < x55 then (if 0≤x56 then (if x56 < (x54.length : Int) then ((num_Div.f (wrap64 ((wrap64 ((rd x54 x56) * x1)) * 256)) x12).bind fun bt306=>(if x56 < (x11.length : Int) then (pvq_Shape.l1 k x1 (x11.set (x56 : Int).toNat bt306.1) x12 x54 x55 (wrap64 (x56+1))) else (none))) else (none)) else (none)) else (some (x11,0))
end
def pvq_Shape.f (k : Nat) (l0 : List Int) (a1 : Int) : Option (List Int × Int):=(comb_Index.f k l0).bind fun bt298=>(if bt298.2=0 then (if a1 < 0 then (pvq_Shape.j0 k l0 a1 true) else (pvq_Shape.j0 k l0 a1 (decide (a1 > 4194304)))) else (pvq_Shape.j0 k l0 a1 true))
theorem pvq_Shape.mono_l : ∀ k,(∀ y0 y1 y2,LeO (pvq_Shape.j0 k y0 y1 y2) (pvq_Shape.j0 (k+1) y0 y1 y2))∧(∀ y0 y1 y2 y3 y4 y5,LeO (pvq_Shape.l0 k y0 y1 y2 y3 y4 y5) (pvq_Shape.l0 (k+1) y0 y1 y2 y3 y4 y5))∧(∀ y0 y1 y2 y3 y4 y5,LeO (pvq_Shape.l1 k y0 y1 y2 y3 y4 y5) (pvq_Shape.l1 (k+1) y0 y1 y2 y3 y4 y5))
 | 0=>⟨fun _ _ _ r h=>by simp [pvq_Shape.j0] at h,fun _ _ _ _ _ _ r h=>by simp [pvq_Shape.l0] at h,fun _ _ _ _ _ _ r h=>by simp [pvq_Shape.l1] at h⟩
 | k+1=>by
  obtain ⟨ih0,ih1,ih2⟩:=pvq_Shape.mono_l k
  refine ⟨?_, ?_, ?_⟩
  ·
   intro y0 y1 y2
   unfold pvq_Shape.j0
   repeat' with_reducible first|apply ih0|apply ih1|apply ih2|apply comb_Index.mono|apply num_Sqrt.mono|apply yLr|apply yLn|apply yLi|apply yLb|intro _
  ·
   intro y0 y1 y2 y3 y4 y5
   unfold pvq_Shape.l0
   repeat' with_reducible first|apply ih0|apply ih1|apply ih2|apply comb_Index.mono|apply num_Sqrt.mono|apply yLr|apply yLn|apply yLi|apply yLb|intro _
  ·
   intro y0 y1 y2 y3 y4 y5
   unfold pvq_Shape.l1
   repeat' with_reducible first|apply ih0|apply ih1|apply ih2|apply comb_Index.mono|apply num_Sqrt.mono|apply yLr|apply yLn|apply yLi|apply yLb|intro _
theorem pvq_Shape.mono : ∀ a0 a1 k,LeO (pvq_Shape.f k a0 a1) (pvq_Shape.f (k+1) a0 a1):=by
 intro a0 a1 k
 obtain ⟨ih0,ih1,ih2⟩:=pvq_Shape.mono_l k
 unfold pvq_Shape.f
 repeat' with_reducible first|apply ih0|apply ih1|apply ih2|apply comb_Index.mono|apply num_Sqrt.mono|apply yLr|apply yLn|apply yLi|apply yLb|intro _
set_option maxHeartbeats 8000000 in
set_option maxRecDepth 100000 in
theorem pvq_Shape.calls (k : Nat) (A0 : Option Addr) (c0 : Nat) (l0 : List Int) (a1 : Int) (r1 : List Int) (r2 : Int) (w : World) (hr0 : Kd.C (Kd.int .i64) w A0 l0.length l0) (hc0 : l0.length≤c0) (h : pvq_Shape.f k l0 a1=some (r1,r2)) :
  Calls Try.prog 104 #[.slice A0 l0.length c0, .int .i64 a1] w fun e w' => ∃ v0_ : Value,e=.returned (.tuple #[v0_, .int .i64 r2])∧Kd.R (Kd.int .i64) 2 w' w.heap.size (fun _=>True) v0_ r1∧Below w.heap.size w w' := by
 have HR0:=zm hr0;have HC0:=zm hc0;clear hr0 hc0;have HB:=zm (Below.refl w.heap.size w)
 have H : ((comb_Index.f k l0).bind fun bt298=>(if bt298.2=0 then (if a1 < 0 then (pvq_Shape.j0 k l0 a1 true) else (pvq_Shape.j0 k l0 a1 (decide (a1 > 4194304)))) else (pvq_Shape.j0 k l0 a1 true)))=some (r1,r2):=h
 clear h
 replace H:=ybi H;obtain ⟨⟨t298,t299⟩,A3,H⟩:=H
 try dsimp only at H
 have HC4:=zm H;clear H
 go_enter Try.func104,Try.ntmps104
 go_upto_region 2 with (first|((with_reducible refine gate_callee (f:=49) rfl ?_);refine ygl 17 Try.func49 #[.slice A0 l0.length c0] ?_;(with_reducible refine (comb_Index.calls k _ _ l0 t298 t299 _ ?side1 HC0.out A3.out).mono ?_);(case side1=>exact yce HR0.out);rintro e w5 ⟨rfl,hb⟩;refine ⟨_,rfl, ?_⟩;replace HB:=ybs hb;(try clear hb)))
 (try simp only [Act.put,List.setIfInBounds_toArray,List.set_cons_zero,List.set_cons_succ])
 go_cut [29] (fun v29 wc => ∃ (kq : Nat) (x29_3 : Bool),v29=.bool x29_3∧Aside0 (pvq_Shape.j0 kq l0 a1 x29_3=some (r1,r2))∧Aside0 (kq≤k)∧Aside0 (Below w.heap.size w wc))
 case first =>
  have H:=HC4.out;clear HC4
  by_cases c6 : t299=0
  ·
   rw [if_pos c6] at H
   have c6b0 : (t299 == 0)=true:=beq_iff_eq.mpr c6
   have c6b1 : (t299 != 0)=false:=bne_eq_false_iff_eq.mpr c6
   clear c6
   (first|rw [c6b0]|(simp only [i64_w,i32_w];rw [c6b0])|skip)
   by_cases c7 : a1 < 0
   ·
    rw [if_pos c7] at H
    have c7b0 : decide (a1 < 0)=true:=decide_eq_true c7
    clear c7
    have H' := zm H
    clear H
    go_wp2
    go_meet
    case rel=>exact ⟨_,(true),yq,H',⟨yo⟩,⟨yhb⟩⟩
   ·
    rw [if_neg c7] at H
    have c7b0 : decide (a1 < 0)=false:=decide_eq_false c7
    clear c7
    have H' := zm H
    clear H
    go_wp2
    go_meet
    case rel=>exact ⟨_,(decide (a1 > 4194304)),yq,H',⟨yo⟩,⟨yhb⟩⟩
  ·
   rw [if_neg c6] at H
   have c6b0 : (t299 == 0)=false:=beq_eq_false_iff_ne.mpr c6
   have c6b1 : (t299 != 0)=true:=bne_iff_ne.mpr c6
   (first|rw [c6b0]|(simp only [i64_w,i32_w];rw [c6b0])|skip)
   have H' := zm H
   clear H
   go_wp2
   go_meet
   case rel=>exact ⟨_,(true),yq,H',⟨yo⟩,⟨yhb⟩⟩
 case rest =>
  clear HC4
  obtain ⟨kq,x29_3,rfl,HA,HJ3,HB⟩:=hcut
  obtain ⟨kj3,rfl⟩:=ysu kq (fun h=>by subst h;exact absurd HA.out (by simp [pvq_Shape.j0]))
  have H:=HA.out;clear HA
  simp only [pvq_Shape.j0] at H
  by_cases c8 : x29_3=true
  ·
   subst c8
   rw [if_pos rfl] at H
   simp only [Option.some.injEq,Prod.mk.injEq] at H
   obtain ⟨rfl,rfl⟩:=H
   go_wp2
   go_ret2
   exact ⟨_,ye,yn,yhb⟩
  ·
   replace c8:=Bool.eq_false_iff.mpr c8
   subst c8
   rw [ynf] at H
   have H' := zm H
   clear H
   go_wp2
   go_loopg [8,32] kj3 (fun kq v8 v32 w' => ∃ (x8_2 : Int) (x32_2 : Int),v8=.int .u64 x8_2∧v32=.int .i64 x32_2∧Aside0 (pvq_Shape.l0 kq l0 a1 x8_2 l0 (l0.length : Int) x32_2=some (r1,r2))∧Aside0 (kq≤kj3)∧Aside0 (Below w.heap.size w w'))
   case atStart=>exact ⟨(0),(0),yq,yq,H',⟨Nat.le_refl _⟩,⟨yhb⟩⟩
   case round =>
    clear H'
    obtain ⟨x8_2,x32_2,rfl,rfl,HA,HK2,HB⟩:=hrel
    obtain ⟨k2,rfl⟩:=ysu gk (fun h=>by subst h;exact absurd HA.out (by simp [pvq_Shape.l0]))
    have H:=HA.out;clear HA
    simp only [pvq_Shape.l0] at H
    by_cases c9 : x32_2 < (l0.length : Int)
    ·
     rw [if_pos c9] at H
     have c9b0 : decide (x32_2 < (l0.length : Int))=true:=decide_eq_true c9
     clear c9
     replace H:=yif H;obtain ⟨c10,H⟩:=H
     have c10b0 : decide (0≤x32_2)=true:=decide_eq_true c10
     clear c10
     replace H:=yif H;obtain ⟨c11,H⟩:=H
     have c11b0 : decide (x32_2 < (l0.length : Int))=true:=decide_eq_true c11
     clear c11
     have H' := zm H
     clear H
     have p300 : 0≤(x32_2 : Int):=yt
     have q300 : x32_2 < (l0.length : Int):=yt
     obtain ⟨ad300,e300,hx300_0⟩:=Kd.at_int HR0.out x32_2 p300 q300
     cases e300
     replace hx300_0:=yhx HB hx300_0
     replace p300:=eq_true p300
     replace q300:=eq_true q300
     go_wp2
     go_roundg k2
     case measure=>exact yom2 HJ3 HK2
     case rel=>exact ⟨(IntKind.u64.wrap (x8_2+(IntKind.u64.wrap (wrap64 ((rd l0 x32_2) * (rd l0 x32_2)))))),(wrap64 (x32_2+1)),yq,yq,H',⟨yom2 HJ3 HK2⟩,⟨yhb⟩⟩
    ·
     rw [if_neg c9] at H
     have c9b0 : decide (x32_2 < (l0.length : Int))=false:=decide_eq_false c9
     clear c9
     replace H:=yif H;obtain ⟨c12,H⟩:=H
     have c12b0:=eq_true c12
     have c12b1 : decide (0≤(l0.length : Int))=true:=decide_eq_true c12
     clear c12
     replace H:=yif H;obtain ⟨c13,H⟩:=H
     have c13b0:=eq_true c13
     have c13b1 : decide (((l0.length : Int) : Int).toNat≤35184372088832)=true:=decide_eq_true c13
     clear c13
     obtain ⟨y301,hy301⟩ : ∃ y_ : List Int,y_=(List.replicate ((l0.length : Int) : Int).toNat 0):=⟨_,rfl⟩
     replace H : (if x8_2=0 then (some (y301,0)) else ((num_Sqrt.f k2 (IntKind.u64.wrap ((IntKind.u64.wrap (x8_2 * 256)) * 256))).bind fun t304=>(pvq_Shape.l1 k2 a1 y301 (wrap64 (t304)) l0 (l0.length : Int) 0)))=some (r1,r2):=yrw hy301 H
     have Ny301:=zm hy301;clear hy301
     by_cases c14 : x8_2=0
     ·
      rw [if_pos c14] at H
      have c14b0 : (x8_2 == 0)=true:=beq_iff_eq.mpr c14
      have c14b1 : (x8_2 != 0)=false:=bne_eq_false_iff_eq.mpr c14
      clear c14
      simp only [Option.some.injEq,Prod.mk.injEq] at H
      obtain ⟨rfl,rfl⟩:=H
      go_wp2_with (first|((with_reducible refine gate_dst (N:=45) rfl ?_);refine Kd.R_make (Kd.int .i64) _ 2 rfl (N:=45) rfl 53 _ _ rfl (l0.length : Int) rfl rfl Try.underlying53 (.int .i64 0) 8 info2 rfl (by decide) (by omega) 0 (ok:=fun _=>True) (okp:=fun _=>True) rfl (fun _ hk=>hk) trivial (yt) (Nat.le_trans (Nat.mul_le_mul_right _ (yt : (l0.length : Int).toNat≤35184372088832)) (by omega)) (Below.refl _ _) (Nat.le_refl _) ?_;intro v302 w15 ho16 hb hg_ hnew_;clear hg_ hnew_;(first|rw [← Ny301.out] at ho16|(simp only [Int.reduceToNat] at ho16;rw [← Ny301.out] at ho16));have HO303:=zm (Kd.R_lower ho16 (zE yhb));replace HB:=ybs hb;clear hb ho16))
      go_ret2
      exact ⟨_,ye,yr HO303,yhb⟩
     ·
      rw [if_neg c14] at H
      have c14b0 : (x8_2 == 0)=false:=beq_eq_false_iff_ne.mpr c14
      have c14b1 : (x8_2 != 0)=true:=bne_iff_ne.mpr c14
      replace H:=ybi H;obtain ⟨t304,A17,H⟩:=H
      have H' := zm H
      clear H
      go_wp2_with (first|((with_reducible refine gate_dst (N:=45) rfl ?_);refine Kd.R_make (Kd.int .i64) _ 2 rfl (N:=45) rfl 53 _ _ rfl (l0.length : Int) rfl rfl Try.underlying53 (.int .i64 0) 8 info2 rfl (by decide) (by omega) 0 (ok:=fun _=>True) (okp:=fun _=>True) rfl (fun _ hk=>hk) trivial (yt) (Nat.le_trans (Nat.mul_le_mul_right _ (yt : (l0.length : Int).toNat≤35184372088832)) (by omega)) (Below.refl _ _) (Nat.le_refl _) ?_;intro v302 w18 ho19 hb hg_ hnew_;clear hg_ hnew_;(first|rw [← Ny301.out] at ho19|(simp only [Int.reduceToNat] at ho19;rw [← Ny301.out] at ho19));have HO303:=zm (Kd.R_lower ho19 (zE yhb));replace HB:=ybs hb;clear hb ho19)|((with_reducible refine gate_callee (f:=106) rfl ?_);refine ygl 52 Try.func106 #[.int .u64 (IntKind.u64.wrap ((IntKind.u64.wrap (x8_2 * 256)) * 256))] ?_;(with_reducible refine (num_Sqrt.calls k2 (IntKind.u64.wrap ((IntKind.u64.wrap (x8_2 * 256)) * 256)) t304 _ A17.out).mono ?_);rintro e w' ⟨rfl,⟨nd,rfl⟩⟩;refine ⟨_,rfl, ?_⟩))
      go_loopg [56] k2 (fun kq v56 w' => ∃ (x11_3 : List Int) (x56_3 : Int),v56=.int .i64 x56_3∧Aside0 (pvq_Shape.l1 kq a1 x11_3 (wrap64 (t304)) l0 (l0.length : Int) x56_3=some (r1,r2))∧Aside0 (kq≤k2)∧Aside0 (Kd.R (Kd.int .i64) 2 w' w.heap.size (fun _=>True) v302 x11_3)∧Aside0 (Below w.heap.size w w'))
      case atStart=>exact ⟨(y301),(0),yq,H',⟨Nat.le_refl _⟩,⟨yr HO303⟩,⟨yhb⟩⟩
      case round =>
       clear H'
       try clear c9b0
       try clear c10b0
       try clear c11b0
       try clear c12b0
       try clear c12b1
       try clear c13b0
       try clear c13b1
       try clear c14
       try clear c14b0
       try clear c14b1
       try clear hx300_0
       try clear p300
       try clear q300
       obtain ⟨x11_3,x56_3,rfl,HA,HK3,HO_11,HB⟩:=hrel
       obtain ⟨k3,rfl⟩:=ysu gk (fun h=>by subst h;exact absurd HA.out (by simp [pvq_Shape.l1]))
       have H:=HA.out;clear HA
       simp only [pvq_Shape.l1] at H
       by_cases c20 : x56_3 < (l0.length : Int)
       ·
        rw [if_pos c20] at H
        have c20b0 : decide (x56_3 < (l0.length : Int))=true:=decide_eq_true c20
        clear c20
        replace H:=yif H;obtain ⟨c21,H⟩:=H
        have c21b0 : decide (0≤x56_3)=true:=decide_eq_true c21
        clear c21
        replace H:=yif H;obtain ⟨c22,H⟩:=H
        have c22b0 : decide (x56_3 < (l0.length : Int))=true:=decide_eq_true c22
        clear c22
        replace H:=ybi H;obtain ⟨⟨t306,t307⟩,A23,H⟩:=H
        try dsimp only at H
        replace H:=yif H;obtain ⟨c24,H⟩:=H
        have c24b0 : decide (x56_3 < (x11_3.length : Int))=true:=decide_eq_true c24
        clear c24
        obtain ⟨y308,hy308⟩ : ∃ y_ : List Int,y_=(x11_3.set (x56_3 : Int).toNat t306):=⟨_,rfl⟩
        replace H : (pvq_Shape.l1 k3 a1 y308 (wrap64 (t304)) l0 (l0.length : Int) (wrap64 (x56_3+1)))=some (r1,r2):=yrw hy308 H
        have Ny308:=zm hy308;clear hy308
        have H' := zm H
        clear H
        have p305 : 0≤(x56_3 : Int):=yt
        have q305 : x56_3 < (l0.length : Int):=yt
        obtain ⟨ad305,e305,hx305_0⟩:=Kd.at_int HR0.out x56_3 p305 q305
        cases e305
        replace hx305_0:=yhx HB hx305_0
        replace p305:=eq_true p305
        replace q305:=eq_true q305
        go_wp2_with (first|((with_reducible refine gate_callee (f:=105) rfl ?_);refine ygl 69 Try.func105 #[.int .i64 (wrap64 ((wrap64 ((rd l0 x56_3) * a1)) * 256)), .int .i64 (wrap64 (t304))] ?_;(with_reducible refine (num_Div.calls (wrap64 ((wrap64 ((rd l0 x56_3) * a1)) * 256)) (wrap64 (t304)) t306 t307 _ A23.out).mono ?_);rintro e w' ⟨rfl,⟨nd,rfl⟩⟩;refine ⟨_,rfl, ?_⟩;(try (rw [drewN_self wr];generalize hq_ : World.drewN wr _=wr;have n0_ : Aside0 (Kd.R (Kd.int .i64) 2 wr w.heap.size (fun _=>True) v302 x11_3):=⟨by rw [← hq_];exact (yr HO_11)⟩;have n1_ : Aside0 (Below w.heap.size w wr):=⟨by rw [← hq_];exact yhb⟩;clear HO_11 HB hq_;have HO_11:=n0_;have HB:=n1_;clear n0_ n1_));have p25 : 0≤(x56_3 : Int):=yt;have q25 : (x56_3 : Int) < ((x11_3.length : Int) : Int):=yt;obtain ⟨go25,co25,eo25,gb25,gl25,cl25,HG25⟩:=Kd.R_form HO_11.out (by omega);(first|cases eo25|(injection eo25 with ea_ en_ ec_;(first|subst ea_|(injection ea_ with ea_;subst ea_));subst ec_;clear en_));have GB25:=zm gb25;have GG25:=zm HG25;clear gb25 gl25 HG25;obtain ⟨hx25_0,hf25_0⟩:=Kd.R_celln 0 HO_11.out (x56_3 : Int) p25 q25;replace p25:=eq_true p25;replace q25:=eq_true q25;obtain ⟨hy26_,hz26_⟩:=Kd.R_celln 0 HO_11.out (x56_3 : Int) (yt) (yt);have HP26:=Kd.R_putg HO_11.out (x56_3 : Int) t306)|((with_reducible refine gate_store (t:=2) (p:=72) rfl ?_);refine store_event (t:=2) (p:=72) (v := ?vo_w27) (w1:=(wr.setCell ⟨go25,(x56_3 : Int).toNat,none⟩ (.int .i64 t306))) ?hg ?ho ?hn ?hr ?_;(case ho=>rfl);(case hg=>rfl);(case hn=>rfl);(case hr=>first|(go_simp;done)|(go_simp;rfl));intro w27 hw;have hg : wr.grownBy w27 (some go25):=(by rw [hw];exact HP26.2);have hp_ : Kd.R (Kd.int .i64) 2 w27 w.heap.size (fun _=>True) (.slice (some ⟨go25,0,none⟩) x11_3.length co25) y308:=(by rw [hw,Ny308.out];exact HP26.1);clear HP26;replace HO_11:=zm (hp_);replace HB:=zm ((by rw [hw];exact zk (HB.out) GB25.out : Below w.heap.size w w27));clear hg hw hp_))
        go_roundg k3
        case measure=>exact yom3 HJ3 HK2 HK3
        case rel=>exact ⟨(y308),(wrap64 (x56_3+1)),yq,H',⟨yom3 HJ3 HK2 HK3⟩,⟨yr HO_11⟩,⟨yhb⟩⟩
       ·
        rw [if_neg c20] at H
        have c20b0 : decide (x56_3 < (l0.length : Int))=false:=decide_eq_false c20
        clear c20
        simp only [Option.some.injEq,Prod.mk.injEq] at H
        obtain ⟨rfl,rfl⟩:=H
        go_wp2
        go_ret2
        exact ⟨_,ye,yr HO_11,yhb⟩
mutual
def ccodec_next.j2 : Nat→List Int→Option (List Int)
 | 0,_=>none
 | k+1,x6=>ccodec_next.l1 k x6 (x6.length : Int) 0
def ccodec_next.l1 : Nat→List Int→Int→Int→Option (List Int)
 | 0,_,_,_=>none
 | k+1,x6,x72,x73=>if x73 < x72 then (if 0≤x73 then (if x73 < (x6.length : Int) then ((num_Clamp.f (rd x6 x73) (-1048576) 1048576).bind fun t325=>(ccodec_next.l1 k (x6.set (x73 : Int).toNat t325) x72 (wrap64 (x73+1)))) else (none)) else (none)) else (some x6)
def ccodec_next.j0 : Nat→List Int→List Int→List Int→Int→Bool→Option (List Int)
 | 0,_,_,_,_,_=>none
 | k+1,x0,x2,x6,x7,x27=>if x27=true then ((num_Sqrt.f k (IntKind.u64.wrap ((IntKind.u64.wrap ((IntKind.u64.wrap ((x0.length : Int))) * 256)) * 256))).bind fun t318=>((num_Div.f (wrap64 (x7 * 256)) (wrap64 (t318))).bind fun bt319=>(ccodec_next.l0 k x2 x6 bt319.1 (x6.length : Int) 0))) else (ccodec_next.j2 k x6)
def ccodec_next.l0 : Nat→List Int→List Int→Int→Int→Int→Option (List Int)
 | 0,_,_,_,_,_=>none
 | k+1,x2,x6,x8,x49,x50=>if x50 < x49 then (if 0≤x50 then (if x50 < (x6.length : Int) then ((some (x6.set (x50 : Int).toNat x8 : List Int)).bind fun y321=>(if (x2.length : Int)=0 then (none) else (if 0≤(Int.tmod x50 (x2.length : Int)) then (if (Int.tmod x50 (x2.length : Int)) < (x2.length : Int) then (if (rd x2 (Int.tmod x50 (x2.length : Int))) < 0 then (ccodec_next.l0 k x2 (y321.set (x50 : Int).toNat (wrap64 (-x8))) x8 x49 (wrap64 (x50+1))) else (ccodec_next.l0 k x2 y321 x8 x49 (wrap64 (x50+1)))) else (none)) else (none)))) else (none)) else (none)) else (ccodec_next.j2 k x6)
end
def ccodec_next.f (k : Nat) (l0 : List Int) (a1 : Int) (l2 : List Int) : Option (List Int):=if 0≤(l0.length : Int) then (if ((l0.length : Int) : Int).toNat≤35184372088832 then ((some (List.replicate ((l0.length : Int) : Int).toNat 0 : List Int)).bind fun y309=>((band_Value.f k a1).bind fun t312=>((ccodec_loud.f k l0).bind fun t313=>(if t313=true then ((pvq_Shape.f k l0 t312).bind fun bt314=>(ccodec_next.j2 k bt314.1)) else (if t312 > 0 then (ccodec_next.j0 k l0 l2 y309 t312 (decide ((l2.length : Int) > 0))) else (ccodec_next.j0 k l0 l2 y309 t312 false)))))) else (none)) else (none)
theorem ccodec_next.mono_l : ∀ k,(∀ y0,LeO (ccodec_next.j2 k y0) (ccodec_next.j2 (k+1) y0))∧(∀ y0 y1 y2,LeO (ccodec_next.l1 k y0 y1 y2) (ccodec_next.l1 (k+1) y0 y1 y2))∧(∀ y0 y1 y2 y3 y4,LeO (ccodec_next.j0 k y0 y1 y2 y3 y4) (ccodec_next.j0 (k+1) y0 y1 y2 y3 y4))∧(∀ y0 y1 y2 y3 y4,LeO (ccodec_next.l0 k y0 y1 y2 y3 y4) (ccodec_next.l0 (k+1) y0 y1 y2 y3 y4))
 | 0=>⟨fun _ r h=>by simp [ccodec_next.j2] at h,fun _ _ _ r h=>by simp [ccodec_next.l1] at h,fun _ _ _ _ _ r h=>by simp [ccodec_next.j0] at h,fun _ _ _ _ _ r h=>by simp [ccodec_next.l0] at h⟩
 | k+1=>by
  obtain ⟨ih0,ih1,ih2,ih3⟩:=ccodec_next.mono_l k
  refine ⟨?_, ?_, ?_, ?_⟩
  ·
   intro y0
   unfold ccodec_next.j2
   repeat' with_reducible first|apply ih0|apply ih1|apply ih2|apply ih3|apply band_Value.mono|apply ccodec_loud.mono|apply num_Sqrt.mono|apply pvq_Shape.mono|apply yLr|apply yLn|apply yLi|apply yLb|intro _
  ·
   intro y0 y1 y2
   unfold ccodec_next.l1
   repeat' with_reducible first|apply ih0|apply ih1|apply ih2|apply ih3|apply band_Value.mono|apply ccodec_loud.mono|apply num_Sqrt.mono|apply pvq_Shape.mono|apply yLr|apply yLn|apply yLi|apply yLb|intro _
  ·
   intro y0 y1 y2 y3 y4
   unfold ccodec_next.j0
   repeat' with_reducible first|apply ih0|apply ih1|apply ih2|apply ih3|apply band_Value.mono|apply ccodec_loud.mono|apply num_Sqrt.mono|apply pvq_Shape.mono|apply yLr|apply yLn|apply yLi|apply yLb|intro _
  ·
   intro y0 y1 y2 y3 y4
   unfold ccodec_next.l0
   repeat' with_reducible first|apply ih0|apply ih1|apply ih2|apply ih3|apply band_Value.mono|apply ccodec_loud.mono|apply num_Sqrt.mono|apply pvq_Shape.mono|apply yLr|apply yLn|apply yLi|apply yLb|intro _
theorem ccodec_next.mono : ∀ a0 a1 a2 k,LeO (ccodec_next.f k a0 a1 a2) (ccodec_next.f (k+1) a0 a1 a2):=by
 intro a0 a1 a2 k
 obtain ⟨ih0,ih1,ih2,ih3⟩:=ccodec_next.mono_l k
 unfold ccodec_next.f
 repeat' with_reducible first|apply ih0|apply ih1|apply ih2|apply ih3|apply band_Value.mono|apply ccodec_loud.mono|apply num_Sqrt.mono|apply pvq_Shape.mono|apply yLr|apply yLn|apply yLi|apply yLb|intro _
set_option maxHeartbeats 8000000 in
set_option maxRecDepth 100000 in
theorem ccodec_next.calls (k : Nat) (B : Nat) (A0 : Option Addr) (c0 : Nat) (l0 : List Int) (a1 : Int) (A2 : Option Addr) (c2 : Nat) (l2 : List Int) (r : List Int) (w : World) (hr0 : Kd.C (Kd.int .i64) w A0 l0.length l0) (hc0 : l0.length≤c0) (hr2 : Kd.C (Kd.int .i64) w A2 l2.length l2) (hc2 : l2.length≤c2) (hs : w.heap[B]? = some (.cells #[.slice A2 l2.length c2] 53 (0,0))) (h : ccodec_next.f k l0 a1 l2=some r) :
  Calls Try.prog 101 #[.slice A0 l0.length c0, .int .i64 a1, .pointer (some ⟨B,0,none⟩)] w fun e w' => ∃ v0_ : Value,e=.returned (v0_)∧Kd.R (Kd.int .i64) 2 w' w.heap.size (fun _=>True) v0_ r∧Kept w w' (fun k_=>k_=B)∧Below B w w'∧w'.heap[B]? = some (.cells #[v0_] 53 (0,0)):=by
 have HCL : Aside0 (w.cell? ⟨B,0,none⟩=some (.slice A2 l2.length c2)):=⟨(zs hs 0).trans rfl⟩
 have HS:=zm hs;clear hs;have HR0:=zm hr0;have HC0:=zm hc0;clear hr0 hc0;have HR2:=zm hr2;have HC2:=zm hc2;clear hr2 hc2;have HB:=zm (Below.refl w.heap.size w)
 have H : (if 0≤(l0.length : Int) then (if ((l0.length : Int) : Int).toNat≤35184372088832 then ((some (List.replicate ((l0.length : Int) : Int).toNat 0 : List Int)).bind fun y309=>((band_Value.f k a1).bind fun t312=>((ccodec_loud.f k l0).bind fun t313=>(if t313=true then ((pvq_Shape.f k l0 t312).bind fun bt314=>(ccodec_next.j2 k bt314.1)) else (if t312 > 0 then (ccodec_next.j0 k l0 l2 y309 t312 (decide ((l2.length : Int) > 0))) else (ccodec_next.j0 k l0 l2 y309 t312 false)))))) else (none)) else (none))=some r:=h
 clear h
 replace H:=yif H;obtain ⟨c4,H⟩:=H
 have c4b0:=eq_true c4
 have c4b1 : decide (0≤(l0.length : Int))=true:=decide_eq_true c4
 clear c4
 replace H:=yif H;obtain ⟨c5,H⟩:=H
 have c5b0:=eq_true c5
 have c5b1 : decide (((l0.length : Int) : Int).toNat≤35184372088832)=true:=decide_eq_true c5
 clear c5
 obtain ⟨y309,hy309⟩ : ∃ y_ : List Int,y_=(List.replicate ((l0.length : Int) : Int).toNat 0):=⟨_,rfl⟩
 replace H : ((band_Value.f k a1).bind fun t312=>((ccodec_loud.f k l0).bind fun t313=>(if t313=true then ((pvq_Shape.f k l0 t312).bind fun bt314=>(ccodec_next.j2 k bt314.1)) else (if t312 > 0 then (ccodec_next.j0 k l0 l2 y309 t312 (decide ((l2.length : Int) > 0))) else (ccodec_next.j0 k l0 l2 y309 t312 false)))))=some r:=yrw hy309 H
 have Ny309:=zm hy309;clear hy309
 replace H:=ybi H;obtain ⟨t312,A6,H⟩:=H
 have HC7:=zm H;clear H
 go_enter Try.func101,Try.ntmps101
 go_upto_block 0 with (first|((with_reducible refine gate_dst (N:=15) rfl ?_);(try (refine gate_guard (by rfl) ?_;dsimp only));refine Kd.R_make (Kd.int .i64) _ 2 rfl (N:=15) rfl 53 _ _ rfl (l0.length : Int) rfl rfl Try.underlying53 (.int .i64 0) 8 info2 rfl (by decide) (by omega) 0 (ok:=fun _=>True) (okp:=fun _=>True) rfl (fun _ hk=>hk) trivial (yt) (Nat.le_trans (Nat.mul_le_mul_right _ (yt : (l0.length : Int).toNat≤35184372088832)) (by omega)) (Below.refl _ _) (Nat.le_refl _) ?_;intro v310 w8 ho9 hb hg_ hnew_;clear hg_ hnew_;(first|rw [← Ny309.out] at ho9|(simp only [Int.reduceToNat] at ho9;rw [← Ny309.out] at ho9));have HO311:=zm (Kd.R_lower ho9 (zE yhb));replace HB:=ybs hb;clear hb ho9)|(go_at_call 102;(with_reducible refine (band_Value.calls k a1 t312 _ A6.out).mono ?_);rintro e w' ⟨rfl,⟨nd,rfl⟩⟩;(try exact yww)))
 repeat (go_quiet (first|((with_reducible refine gate_dst (N:=15) rfl ?_);(try (refine gate_guard (by rfl) ?_;dsimp only));refine Kd.R_make (Kd.int .i64) _ 2 rfl (N:=15) rfl 53 _ _ rfl (l0.length : Int) rfl rfl Try.underlying53 (.int .i64 0) 8 info2 rfl (by decide) (by omega) 0 (ok:=fun _=>True) (okp:=fun _=>True) rfl (fun _ hk=>hk) trivial (yt) (Nat.le_trans (Nat.mul_le_mul_right _ (yt : (l0.length : Int).toNat≤35184372088832)) (by omega)) (Below.refl _ _) (Nat.le_refl _) ?_;intro v310 w8 ho9 hb hg_ hnew_;clear hg_ hnew_;(first|rw [← Ny309.out] at ho9|(simp only [Int.reduceToNat] at ho9;rw [← Ny309.out] at ho9));have HO311:=zm (Kd.R_lower ho9 (zE yhb));replace HB:=ybs hb;clear hb ho9)|(go_at_call 102;(with_reducible refine (band_Value.calls k a1 t312 _ A6.out).mono ?_);rintro e w' ⟨rfl,⟨nd,rfl⟩⟩;(try exact yww)));go_upto_block 0 with (first|((with_reducible refine gate_dst (N:=15) rfl ?_);(try (refine gate_guard (by rfl) ?_;dsimp only));refine Kd.R_make (Kd.int .i64) _ 2 rfl (N:=15) rfl 53 _ _ rfl (l0.length : Int) rfl rfl Try.underlying53 (.int .i64 0) 8 info2 rfl (by decide) (by omega) 0 (ok:=fun _=>True) (okp:=fun _=>True) rfl (fun _ hk=>hk) trivial (yt) (Nat.le_trans (Nat.mul_le_mul_right _ (yt : (l0.length : Int).toNat≤35184372088832)) (by omega)) (Below.refl _ _) (Nat.le_refl _) ?_;intro v310 w8 ho9 hb hg_ hnew_;clear hg_ hnew_;(first|rw [← Ny309.out] at ho9|(simp only [Int.reduceToNat] at ho9;rw [← Ny309.out] at ho9));have HO311:=zm (Kd.R_lower ho9 (zE yhb));replace HB:=ybs hb;clear hb ho9)|(go_at_call 102;(with_reducible refine (band_Value.calls k a1 t312 _ A6.out).mono ?_);rintro e w' ⟨rfl,⟨nd,rfl⟩⟩;(try exact yww))))
 (try simp only [Act.put,List.setIfInBounds_toArray,List.set_cons_zero,List.set_cons_succ])
 go_cut [6] (fun v6 wc => ∃ (kq : Nat) (x6_6 : List Int),Aside0 (ccodec_next.j2 kq x6_6=some r)∧Aside0 (kq≤k)∧Aside0 (Kd.R (Kd.int .i64) 2 wc w.heap.size (fun _=>True) v6 x6_6)∧Aside0 (Below w.heap.size w wc))
 case first =>
  have H:=HC7.out;clear HC7
  replace H:=ybi H;obtain ⟨t313,A10,H⟩:=H
  by_cases c11 : t313=true
  ·
   subst c11
   rw [if_pos rfl] at H
   replace H:=ybi H;obtain ⟨⟨t314,t315⟩,A12,H⟩:=H
   try dsimp only at H
   have H' := zm H
   clear H
   go_wp2_with (first|(go_at_call 103;(with_reducible refine (ccodec_loud.calls k _ _ l0 true _ ?side1 HC0.out A10.out).mono ?_);(case side1=>exact ycb HR0);rintro e w' ⟨rfl,⟨nd,rfl⟩⟩;(try exact yww))|(go_at_call 104;(with_reducible refine (pvq_Shape.calls k _ _ l0 t312 t314 t315 _ ?side1 HC0.out A12.out).mono ?_);(case side1=>exact ycb HR0);rintro e w13 ⟨v316,rfl,ho0,hb⟩;have HO317:=zm (Kd.R_lower (Kd.R_new' ho0 (Kd.R_lt (yr HO311))) (zE yhb));replace HO311:=zm (Kd.R_elder' (yr HO311) (Kd.R_base ho0) hb);replace HB:=ybs hb;(try clear hb);(try clear ho0)))
   repeat (go_quiet (first|(go_at_call 103;(with_reducible refine (ccodec_loud.calls k _ _ l0 true _ ?side1 HC0.out A10.out).mono ?_);(case side1=>exact ycb HR0);rintro e w' ⟨rfl,⟨nd,rfl⟩⟩;(try exact yww))|(go_at_call 104;(with_reducible refine (pvq_Shape.calls k _ _ l0 t312 t314 t315 _ ?side1 HC0.out A12.out).mono ?_);(case side1=>exact ycb HR0);rintro e w13 ⟨v316,rfl,ho0,hb⟩;have HO317:=zm (Kd.R_lower (Kd.R_new' ho0 (Kd.R_lt (yr HO311))) (zE yhb));replace HO311:=zm (Kd.R_elder' (yr HO311) (Kd.R_base ho0) hb);replace HB:=ybs hb;(try clear hb);(try clear ho0)));try go_wp2_with (first|(go_at_call 103;(with_reducible refine (ccodec_loud.calls k _ _ l0 true _ ?side1 HC0.out A10.out).mono ?_);(case side1=>exact ycb HR0);rintro e w' ⟨rfl,⟨nd,rfl⟩⟩;(try exact yww))|(go_at_call 104;(with_reducible refine (pvq_Shape.calls k _ _ l0 t312 t314 t315 _ ?side1 HC0.out A12.out).mono ?_);(case side1=>exact ycb HR0);rintro e w13 ⟨v316,rfl,ho0,hb⟩;have HO317:=zm (Kd.R_lower (Kd.R_new' ho0 (Kd.R_lt (yr HO311))) (zE yhb));replace HO311:=zm (Kd.R_elder' (yr HO311) (Kd.R_base ho0) hb);replace HB:=ybs hb;(try clear hb);(try clear ho0))))
   go_meet
   case rel=>exact ⟨_,(t314),H',⟨yo⟩,⟨yR0 HO317⟩,⟨yhb⟩⟩
  ·
   replace c11:=Bool.eq_false_iff.mpr c11
   subst c11
   rw [ynf] at H
   have HC14:=zm H;clear H
   go_upto_region 5 with (first|(go_at_call 103;(with_reducible refine (ccodec_loud.calls k _ _ l0 false _ ?side1 HC0.out A10.out).mono ?_);(case side1=>exact ycb HR0);rintro e w' ⟨rfl,⟨nd,rfl⟩⟩;(try exact yww)))
   repeat (go_quiet (first|(go_at_call 103;(with_reducible refine (ccodec_loud.calls k _ _ l0 false _ ?side1 HC0.out A10.out).mono ?_);(case side1=>exact ycb HR0);rintro e w' ⟨rfl,⟨nd,rfl⟩⟩;(try exact yww)));go_upto_region 5 with (first|(go_at_call 103;(with_reducible refine (ccodec_loud.calls k _ _ l0 false _ ?side1 HC0.out A10.out).mono ?_);(case side1=>exact ycb HR0);rintro e w' ⟨rfl,⟨nd,rfl⟩⟩;(try exact yww))))
   (try simp only [Act.put,List.setIfInBounds_toArray,List.set_cons_zero,List.set_cons_succ])
   go_cut [27] (fun v27 wc => ∃ (kq : Nat) (x27_13 : Bool),v27=.bool x27_13∧Aside0 (ccodec_next.j0 kq l0 l2 y309 t312 x27_13=some r)∧Aside0 (kq≤k)∧Aside0 (Kd.R (Kd.int .i64) 2 wc w.heap.size (fun _=>True) v310 y309)∧Aside0 (Below w.heap.size w wc))
   case first =>
    have H:=HC14.out;clear HC14
    by_cases c15 : t312 > 0
    ·
     rw [if_pos c15] at H
     have c15b0 : decide (0 < t312)=true:=decide_eq_true c15
     clear c15
     (first|rw [c15b0]|(simp only [i64_w,i32_w];rw [c15b0])|skip)
     have H' := zm H
     clear H
     have hcl:=(HB.out.cell (zb w _ HCL.out)).trans HCL.out
     go_wp2
     repeat (go_quiet (fail);try go_wp2)
     go_meet
     case rel=>exact ⟨_,(decide ((l2.length : Int) > 0)),yq,H',⟨yo⟩,⟨yr HO311⟩,⟨yhb⟩⟩
    ·
     rw [if_neg c15] at H
     have c15b0 : decide (0 < t312)=false:=decide_eq_false c15
     clear c15
     (first|rw [c15b0]|(simp only [i64_w,i32_w];rw [c15b0])|skip)
     have H' := zm H
     clear H
     have hcl:=(HB.out.cell (zb w _ HCL.out)).trans HCL.out
     go_wp2
     repeat (go_quiet (fail);try go_wp2)
     go_meet
     case rel=>exact ⟨_,(false),yq,H',⟨yo⟩,⟨yr HO311⟩,⟨yhb⟩⟩
   case rest =>
    clear HC14
    try clear c2
    try clear c4b0
    try clear c4b1
    try clear c5b0
    try clear c5b1
    obtain ⟨kq,x27_13,rfl,HA,HJ13,HO_6,HB⟩:=hcut
    obtain ⟨kj13,rfl⟩:=ysu kq (fun h=>by subst h;exact absurd HA.out (by simp [ccodec_next.j0]))
    have H:=HA.out;clear HA
    simp only [ccodec_next.j0] at H
    by_cases c16 : x27_13=true
    ·
     subst c16
     rw [if_pos rfl] at H
     replace H:=ybi H;obtain ⟨t318,A17,H⟩:=H
     replace H:=ybi H;obtain ⟨⟨t319,t320⟩,A18,H⟩:=H
     try dsimp only at H
     have H' := zm H
     clear H
     go_wp2_with (first|(go_at_call 106;(with_reducible refine (num_Sqrt.calls kj13 (IntKind.u64.wrap ((IntKind.u64.wrap ((IntKind.u64.wrap ((l0.length : Int))) * 256)) * 256)) t318 _ A17.out).mono ?_);rintro e w' ⟨rfl,⟨nd,rfl⟩⟩;(try exact yww))|(go_at_call 105;(with_reducible refine (num_Div.calls (wrap64 (t312 * 256)) (wrap64 (t318)) t319 t320 _ A18.out).mono ?_);rintro e w' ⟨rfl,⟨nd,rfl⟩⟩;(try exact yww);obtain ⟨Ao19,co19,eo19⟩:=Kd.R_slice HO_6.out;subst eo19))
     repeat (go_quiet (first|(go_at_call 106;(with_reducible refine (num_Sqrt.calls kj13 (IntKind.u64.wrap ((IntKind.u64.wrap ((IntKind.u64.wrap ((l0.length : Int))) * 256)) * 256)) t318 _ A17.out).mono ?_);rintro e w' ⟨rfl,⟨nd,rfl⟩⟩;(try exact yww))|(go_at_call 105;(with_reducible refine (num_Div.calls (wrap64 (t312 * 256)) (wrap64 (t318)) t319 t320 _ A18.out).mono ?_);rintro e w' ⟨rfl,⟨nd,rfl⟩⟩;(try exact yww);obtain ⟨Ao19,co19,eo19⟩:=Kd.R_slice HO_6.out;subst eo19));try go_wp2_with (first|(go_at_call 106;(with_reducible refine (num_Sqrt.calls kj13 (IntKind.u64.wrap ((IntKind.u64.wrap ((IntKind.u64.wrap ((l0.length : Int))) * 256)) * 256)) t318 _ A17.out).mono ?_);rintro e w' ⟨rfl,⟨nd,rfl⟩⟩;(try exact yww))|(go_at_call 105;(with_reducible refine (num_Div.calls (wrap64 (t312 * 256)) (wrap64 (t318)) t319 t320 _ A18.out).mono ?_);rintro e w' ⟨rfl,⟨nd,rfl⟩⟩;(try exact yww);obtain ⟨Ao19,co19,eo19⟩:=Kd.R_slice HO_6.out;subst eo19)))
     go_loopg [50] kj13 (fun kq v50 w' => ∃ (x6_2 : List Int) (x50_2 : Int),v50=.int .i64 x50_2∧Aside0 (ccodec_next.l0 kq l2 x6_2 t319 (y309.length : Int) x50_2=some r)∧Aside0 (kq≤kj13)∧Aside0 (Kd.R (Kd.int .i64) 2 w' w.heap.size (fun _=>True) (.slice Ao19 y309.length co19) x6_2)∧Aside0 (Below w.heap.size w w'))
     case atStart=>exact ⟨(y309),(0),yq,H',⟨Nat.le_refl _⟩,⟨yr HO_6⟩,⟨yhb⟩⟩
     case round =>
      clear H'
      obtain ⟨x6_2,x50_2,rfl,HA,HK2,HO_6,HB⟩:=hrel
      have hl6_2:=(Kd.R_reads' HO_6.out).1
      rw [hl6_2] at HO_6
      (try simp only [hl6_2])
      obtain ⟨k2,rfl⟩:=ysu gk (fun h=>by subst h;exact absurd HA.out (by simp [ccodec_next.l0]))
      have H:=HA.out;clear HA
      simp only [ccodec_next.l0] at H
      by_cases c20 : x50_2 < (y309.length : Int)
      ·
       rw [if_pos c20] at H
       have c20b0 : decide (x50_2 < (y309.length : Int))=true:=decide_eq_true c20
       clear c20
       replace H:=yif H;obtain ⟨c21,H⟩:=H
       have c21b0 : decide (0≤x50_2)=true:=decide_eq_true c21
       clear c21
       replace H:=yif H;obtain ⟨c22,H⟩:=H
       have c22b0 : decide (x50_2 < (x6_2.length : Int))=true:=decide_eq_true c22
       clear c22
       obtain ⟨y321,hy321⟩ : ∃ y_ : List Int,y_=(x6_2.set (x50_2 : Int).toNat t319):=⟨_,rfl⟩
       replace H : (if (l2.length : Int)=0 then (none) else (if 0≤(Int.tmod x50_2 (l2.length : Int)) then (if (Int.tmod x50_2 (l2.length : Int)) < (l2.length : Int) then (if (rd l2 (Int.tmod x50_2 (l2.length : Int))) < 0 then (ccodec_next.l0 k2 l2 (y321.set (x50_2 : Int).toNat (wrap64 (-t319))) t319 (y309.length : Int) (wrap64 (x50_2+1))) else (ccodec_next.l0 k2 l2 y321 t319 (y309.length : Int) (wrap64 (x50_2+1)))) else (none)) else (none)))=some r:=yrw hy321 H
       have Ny321:=zm hy321;clear hy321
       replace H:=yie H;obtain ⟨c24,H⟩:=H
       have c24b0 : ((l2.length : Int) == 0)=false:=beq_eq_false_iff_ne.mpr c24
       have c24b1 : ((l2.length : Int) != 0)=true:=bne_iff_ne.mpr c24
       have c24b2 : ¬ (l2 = []):=fun h_=>c24 (by rw [h_];rfl)
       obtain ⟨ji25,hji25⟩ : ∃ j_ : Int,(Int.tmod x50_2 (l2.length : Int))=j_:=⟨_,rfl⟩
       replace H : (if 0≤(ji25) then (if (ji25) < (l2.length : Int) then (if (rd l2 (ji25)) < 0 then (ccodec_next.l0 k2 l2 (y321.set (x50_2 : Int).toNat (wrap64 (-t319))) t319 (y309.length : Int) (wrap64 (x50_2+1))) else (ccodec_next.l0 k2 l2 y321 t319 (y309.length : Int) (wrap64 (x50_2+1)))) else (none)) else (none))=some r:=by first|(rw [hji25] at H;exact H)|(simp only [hji25] at H ⊢; exact H)
       replace H:=yif H;obtain ⟨c26,H⟩:=H
       have c26b0 : decide (0≤(ji25))=true:=decide_eq_true c26
       clear c26
       replace H:=yif H;obtain ⟨c27,H⟩:=H
       have c27b0 : decide ((ji25) < (l2.length : Int))=true:=decide_eq_true c27
       clear c27
       by_cases c28 : (rd l2 (ji25)) < 0
       ·
        rw [if_pos c28] at H
        have c28b0 : decide ((rd l2 (ji25)) < 0)=true:=decide_eq_true c28
        clear c28
        obtain ⟨y323,hy323⟩ : ∃ y_ : List Int,y_=(y321.set (x50_2 : Int).toNat (wrap64 (-t319))):=⟨_,rfl⟩
        replace H : (ccodec_next.l0 k2 l2 y323 t319 (y309.length : Int) (wrap64 (x50_2+1)))=some r:=yrw hy323 H
        have Ny323:=zm hy323;clear hy323
        have H' := zm H
        clear H
        have p23 : 0≤(x50_2 : Int):=yt
        have q23 : (x50_2 : Int) < ((x6_2.length : Int) : Int):=yt
        obtain ⟨go23,co23,eo23,gb23,gl23,cl23,HG23⟩:=Kd.R_form HO_6.out (by omega)
        (first|cases eo23|(injection eo23 with ea_ en_ ec_;(first|subst ea_|(injection ea_ with ea_;subst ea_));subst ec_;clear en_))
        have GB23:=zm gb23;have GG23:=zm HG23;clear gb23 gl23 HG23
        obtain ⟨hx23_0,hf23_0⟩:=Kd.R_celln 0 HO_6.out (x50_2 : Int) p23 q23
        replace p23:=eq_true p23
        replace q23:=eq_true q23
        have HP30:=Kd.R_putg HO_6.out (x50_2 : Int) t319
        go_wp2_with (first|((with_reducible refine gate_store (t:=2) (p:=56) rfl ?_);(try (rw [drewN_self wr];generalize hq_ : World.drewN wr _=wr;have n0_:=zm (Kd.R_at hq_ HO_6.out);have n1_:=zm (below_at hq_ HB.out);clear hq_ HO_6 HB;have HO_6:=n0_;have HB:=n1_;clear n0_ n1_;(try (have HP30:=Kd.R_putg HO_6.out (x50_2 : Int) t319))));refine store_event (t:=2) (p:=56) (v := ?vo_w31) (w1:=(wr.setCell ⟨go23,(x50_2 : Int).toNat,none⟩ (.int .i64 t319))) ?hg ?ho ?hn ?hr ?_;(case ho=>rfl);(case hg=>rfl);(case hn=>rfl);(case hr=>first|(go_simp;done)|(go_simp;rfl));intro w31 hw;have hg : wr.grownBy w31 (some go23):=(by rw [hw];exact HP30.2);have hp_ : Kd.R (Kd.int .i64) 2 w31 w.heap.size (fun _=>True) (.slice (some ⟨go23,0,none⟩) x6_2.length co19) y321:=(by rw [hw,Ny321.out];exact HP30.1);clear HP30;replace HO_6:=zm (hp_);replace HB:=zm ((by rw [hw];exact zk (HB.out) GB23.out : Below w.heap.size w w31));clear hg hw hp_;have hcl:=(HB.out.cell (zb w _ HCL.out)).trans HCL.out;have p322 : 0≤((ji25) : Int):=yt;have q322 : (ji25) < (l2.length : Int):=yt;obtain ⟨ad322,e322,hx322_0⟩:=Kd.at_int HR2.out (ji25) p322 q322;cases e322;replace hx322_0:=yhx HB hx322_0;replace p322:=eq_true p322;replace q322:=eq_true q322;have p29 : 0≤(x50_2 : Int):=yt;have q29 : (x50_2 : Int) < ((x6_2.length : Int) : Int):=yt;obtain ⟨hx29_0,hf29_0⟩:=Kd.R_celln 0 HO_6.out (x50_2 : Int) p29 q29;replace p29:=eq_true p29;replace q29:=eq_true q29;obtain ⟨hy32_,hz32_⟩:=Kd.R_celln 0 HO_6.out (x50_2 : Int) (yt) (yt);have HP32:=Kd.R_putg HO_6.out (x50_2 : Int) (wrap64 (-t319)))|((with_reducible refine gate_store (t:=2) (p:=69) rfl ?_);(try (rw [drewN_self w31];generalize hq_ : World.drewN w31 _=w31;have n0_:=zm (Kd.R_at hq_ HO_6.out);have n1_:=zm (below_at hq_ HB.out);clear hq_ HO_6 HB;have HO_6:=n0_;have HB:=n1_;clear n0_ n1_;(try (obtain ⟨hy32_,hz32_⟩:=Kd.R_celln 0 HO_6.out (x50_2 : Int) (yt) (yt)));(try (have HP32:=Kd.R_putg HO_6.out (x50_2 : Int) (wrap64 (-t319))))));refine store_event (t:=2) (p:=69) (v := ?vo_w33) (w1:=(w31.setCell ⟨go23,(x50_2 : Int).toNat,none⟩ (.int .i64 (wrap64 (-t319))))) ?hg ?ho ?hn ?hr ?_;(case ho=>rfl);(case hg=>rfl);(case hn=>rfl);(case hr=>first|(go_simp;done)|(go_simp;rfl));intro w33 hw;have hg : w31.grownBy w33 (some go23):=(by rw [hw];exact HP32.2);have hp_ : Kd.R (Kd.int .i64) 2 w33 w.heap.size (fun _=>True) (.slice (some ⟨go23,0,none⟩) x6_2.length co19) y323:=(by rw [hw,Ny323.out];exact HP32.1);clear HP32;replace HO_6:=zm (hp_);replace HB:=zm ((by rw [hw];exact zk (HB.out) GB23.out : Below w.heap.size w w33));clear hg hw hp_))
        repeat (go_quiet (first|((with_reducible refine gate_store (t:=2) (p:=56) rfl ?_);(try (rw [drewN_self wr];generalize hq_ : World.drewN wr _=wr;have n0_:=zm (Kd.R_at hq_ HO_6.out);have n1_:=zm (below_at hq_ HB.out);clear hq_ HO_6 HB;have HO_6:=n0_;have HB:=n1_;clear n0_ n1_;(try (have HP30:=Kd.R_putg HO_6.out (x50_2 : Int) t319))));refine store_event (t:=2) (p:=56) (v := ?vo_w31) (w1:=(wr.setCell ⟨go23,(x50_2 : Int).toNat,none⟩ (.int .i64 t319))) ?hg ?ho ?hn ?hr ?_;(case ho=>rfl);(case hg=>rfl);(case hn=>rfl);(case hr=>first|(go_simp;done)|(go_simp;rfl));intro w31 hw;have hg : wr.grownBy w31 (some go23):=(by rw [hw];exact HP30.2);have hp_ : Kd.R (Kd.int .i64) 2 w31 w.heap.size (fun _=>True) (.slice (some ⟨go23,0,none⟩) x6_2.length co19) y321:=(by rw [hw,Ny321.out];exact HP30.1);clear HP30;replace HO_6:=zm (hp_);replace HB:=zm ((by rw [hw];exact zk (HB.out) GB23.out : Below w.heap.size w w31));clear hg hw hp_;have hcl:=(HB.out.cell (zb w _ HCL.out)).trans HCL.out;have p322 : 0≤((ji25) : Int):=yt;have q322 : (ji25) < (l2.length : Int):=yt;obtain ⟨ad322,e322,hx322_0⟩:=Kd.at_int HR2.out (ji25) p322 q322;cases e322;replace hx322_0:=yhx HB hx322_0;replace p322:=eq_true p322;replace q322:=eq_true q322;have p29 : 0≤(x50_2 : Int):=yt;have q29 : (x50_2 : Int) < ((x6_2.length : Int) : Int):=yt;obtain ⟨hx29_0,hf29_0⟩:=Kd.R_celln 0 HO_6.out (x50_2 : Int) p29 q29;replace p29:=eq_true p29;replace q29:=eq_true q29;obtain ⟨hy32_,hz32_⟩:=Kd.R_celln 0 HO_6.out (x50_2 : Int) (yt) (yt);have HP32:=Kd.R_putg HO_6.out (x50_2 : Int) (wrap64 (-t319)))|((with_reducible refine gate_store (t:=2) (p:=69) rfl ?_);(try (rw [drewN_self w31];generalize hq_ : World.drewN w31 _=w31;have n0_:=zm (Kd.R_at hq_ HO_6.out);have n1_:=zm (below_at hq_ HB.out);clear hq_ HO_6 HB;have HO_6:=n0_;have HB:=n1_;clear n0_ n1_;(try (obtain ⟨hy32_,hz32_⟩:=Kd.R_celln 0 HO_6.out (x50_2 : Int) (yt) (yt)));(try (have HP32:=Kd.R_putg HO_6.out (x50_2 : Int) (wrap64 (-t319))))));refine store_event (t:=2) (p:=69) (v := ?vo_w33) (w1:=(w31.setCell ⟨go23,(x50_2 : Int).toNat,none⟩ (.int .i64 (wrap64 (-t319))))) ?hg ?ho ?hn ?hr ?_;(case ho=>rfl);(case hg=>rfl);(case hn=>rfl);(case hr=>first|(go_simp;done)|(go_simp;rfl));intro w33 hw;have hg : w31.grownBy w33 (some go23):=(by rw [hw];exact HP32.2);have hp_ : Kd.R (Kd.int .i64) 2 w33 w.heap.size (fun _=>True) (.slice (some ⟨go23,0,none⟩) x6_2.length co19) y323:=(by rw [hw,Ny323.out];exact HP32.1);clear HP32;replace HO_6:=zm (hp_);replace HB:=zm ((by rw [hw];exact zk (HB.out) GB23.out : Below w.heap.size w w33));clear hg hw hp_));try go_wp2_with (first|((with_reducible refine gate_store (t:=2) (p:=56) rfl ?_);(try (rw [drewN_self wr];generalize hq_ : World.drewN wr _=wr;have n0_:=zm (Kd.R_at hq_ HO_6.out);have n1_:=zm (below_at hq_ HB.out);clear hq_ HO_6 HB;have HO_6:=n0_;have HB:=n1_;clear n0_ n1_;(try (have HP30:=Kd.R_putg HO_6.out (x50_2 : Int) t319))));refine store_event (t:=2) (p:=56) (v := ?vo_w31) (w1:=(wr.setCell ⟨go23,(x50_2 : Int).toNat,none⟩ (.int .i64 t319))) ?hg ?ho ?hn ?hr ?_;(case ho=>rfl);(case hg=>rfl);(case hn=>rfl);(case hr=>first|(go_simp;done)|(go_simp;rfl));intro w31 hw;have hg : wr.grownBy w31 (some go23):=(by rw [hw];exact HP30.2);have hp_ : Kd.R (Kd.int .i64) 2 w31 w.heap.size (fun _=>True) (.slice (some ⟨go23,0,none⟩) x6_2.length co19) y321:=(by rw [hw,Ny321.out];exact HP30.1);clear HP30;replace HO_6:=zm (hp_);replace HB:=zm ((by rw [hw];exact zk (HB.out) GB23.out : Below w.heap.size w w31));clear hg hw hp_;have hcl:=(HB.out.cell (zb w _ HCL.out)).trans HCL.out;have p322 : 0≤((ji25) : Int):=yt;have q322 : (ji25) < (l2.length : Int):=yt;obtain ⟨ad322,e322,hx322_0⟩:=Kd.at_int HR2.out (ji25) p322 q322;cases e322;replace hx322_0:=yhx HB hx322_0;replace p322:=eq_true p322;replace q322:=eq_true q322;have p29 : 0≤(x50_2 : Int):=yt;have q29 : (x50_2 : Int) < ((x6_2.length : Int) : Int):=yt;obtain ⟨hx29_0,hf29_0⟩:=Kd.R_celln 0 HO_6.out (x50_2 : Int) p29 q29;replace p29:=eq_true p29;replace q29:=eq_true q29;obtain ⟨hy32_,hz32_⟩:=Kd.R_celln 0 HO_6.out (x50_2 : Int) (yt) (yt);have HP32:=Kd.R_putg HO_6.out (x50_2 : Int) (wrap64 (-t319)))|((with_reducible refine gate_store (t:=2) (p:=69) rfl ?_);(try (rw [drewN_self w31];generalize hq_ : World.drewN w31 _=w31;have n0_:=zm (Kd.R_at hq_ HO_6.out);have n1_:=zm (below_at hq_ HB.out);clear hq_ HO_6 HB;have HO_6:=n0_;have HB:=n1_;clear n0_ n1_;(try (obtain ⟨hy32_,hz32_⟩:=Kd.R_celln 0 HO_6.out (x50_2 : Int) (yt) (yt)));(try (have HP32:=Kd.R_putg HO_6.out (x50_2 : Int) (wrap64 (-t319))))));refine store_event (t:=2) (p:=69) (v := ?vo_w33) (w1:=(w31.setCell ⟨go23,(x50_2 : Int).toNat,none⟩ (.int .i64 (wrap64 (-t319))))) ?hg ?ho ?hn ?hr ?_;(case ho=>rfl);(case hg=>rfl);(case hn=>rfl);(case hr=>first|(go_simp;done)|(go_simp;rfl));intro w33 hw;have hg : w31.grownBy w33 (some go23):=(by rw [hw];exact HP32.2);have hp_ : Kd.R (Kd.int .i64) 2 w33 w.heap.size (fun _=>True) (.slice (some ⟨go23,0,none⟩) x6_2.length co19) y323:=(by rw [hw,Ny323.out];exact HP32.1);clear HP32;replace HO_6:=zm (hp_);replace HB:=zm ((by rw [hw];exact zk (HB.out) GB23.out : Below w.heap.size w w33));clear hg hw hp_)))
        (try simp only [← hl6_2])
        go_roundg k2
        case measure=>exact yom2 HJ13 HK2
        case rel=>exact ⟨(y323),(wrap64 (x50_2+1)),yq,H',⟨yom2 HJ13 HK2⟩,⟨by (try simp only [hl6_2]);(with_reducible repeat (first|apply zo|apply zp|apply zq));exact HO_6.out⟩,⟨yhb⟩⟩
       ·
        rw [if_neg c28] at H
        have c28b0 : decide ((rd l2 (ji25)) < 0)=false:=decide_eq_false c28
        clear c28
        have H' := zm H
        clear H
        have p23 : 0≤(x50_2 : Int):=yt
        have q23 : (x50_2 : Int) < ((x6_2.length : Int) : Int):=yt
        obtain ⟨go23,co23,eo23,gb23,gl23,cl23,HG23⟩:=Kd.R_form HO_6.out (by omega)
        (first|cases eo23|(injection eo23 with ea_ en_ ec_;(first|subst ea_|(injection ea_ with ea_;subst ea_));subst ec_;clear en_))
        have GB23:=zm gb23;have GG23:=zm HG23;clear gb23 gl23 HG23
        obtain ⟨hx23_0,hf23_0⟩:=Kd.R_celln 0 HO_6.out (x50_2 : Int) p23 q23
        replace p23:=eq_true p23
        replace q23:=eq_true q23
        have HP34:=Kd.R_putg HO_6.out (x50_2 : Int) t319
        go_wp2_with (first|((with_reducible refine gate_store (t:=2) (p:=56) rfl ?_);(try (rw [drewN_self wr];generalize hq_ : World.drewN wr _=wr;have n0_:=zm (Kd.R_at hq_ HO_6.out);have n1_:=zm (below_at hq_ HB.out);clear hq_ HO_6 HB;have HO_6:=n0_;have HB:=n1_;clear n0_ n1_;(try (have HP34:=Kd.R_putg HO_6.out (x50_2 : Int) t319))));refine store_event (t:=2) (p:=56) (v := ?vo_w35) (w1:=(wr.setCell ⟨go23,(x50_2 : Int).toNat,none⟩ (.int .i64 t319))) ?hg ?ho ?hn ?hr ?_;(case ho=>rfl);(case hg=>rfl);(case hn=>rfl);(case hr=>first|(go_simp;done)|(go_simp;rfl));intro w35 hw;have hg : wr.grownBy w35 (some go23):=(by rw [hw];exact HP34.2);have hp_ : Kd.R (Kd.int .i64) 2 w35 w.heap.size (fun _=>True) (.slice (some ⟨go23,0,none⟩) x6_2.length co19) y321:=(by rw [hw,Ny321.out];exact HP34.1);clear HP34;replace HO_6:=zm (hp_);replace HB:=zm ((by rw [hw];exact zk (HB.out) GB23.out : Below w.heap.size w w35));clear hg hw hp_;have hcl:=(HB.out.cell (zb w _ HCL.out)).trans HCL.out;have p322 : 0≤((ji25) : Int):=yt;have q322 : (ji25) < (l2.length : Int):=yt;obtain ⟨ad322,e322,hx322_0⟩:=Kd.at_int HR2.out (ji25) p322 q322;cases e322;replace hx322_0:=yhx HB hx322_0;replace p322:=eq_true p322;replace q322:=eq_true q322))
        repeat (go_quiet (first|((with_reducible refine gate_store (t:=2) (p:=56) rfl ?_);(try (rw [drewN_self wr];generalize hq_ : World.drewN wr _=wr;have n0_:=zm (Kd.R_at hq_ HO_6.out);have n1_:=zm (below_at hq_ HB.out);clear hq_ HO_6 HB;have HO_6:=n0_;have HB:=n1_;clear n0_ n1_;(try (have HP34:=Kd.R_putg HO_6.out (x50_2 : Int) t319))));refine store_event (t:=2) (p:=56) (v := ?vo_w35) (w1:=(wr.setCell ⟨go23,(x50_2 : Int).toNat,none⟩ (.int .i64 t319))) ?hg ?ho ?hn ?hr ?_;(case ho=>rfl);(case hg=>rfl);(case hn=>rfl);(case hr=>first|(go_simp;done)|(go_simp;rfl));intro w35 hw;have hg : wr.grownBy w35 (some go23):=(by rw [hw];exact HP34.2);have hp_ : Kd.R (Kd.int .i64) 2 w35 w.heap.size (fun _=>True) (.slice (some ⟨go23,0,none⟩) x6_2.length co19) y321:=(by rw [hw,Ny321.out];exact HP34.1);clear HP34;replace HO_6:=zm (hp_);replace HB:=zm ((by rw [hw];exact zk (HB.out) GB23.out : Below w.heap.size w w35));clear hg hw hp_;have hcl:=(HB.out.cell (zb w _ HCL.out)).trans HCL.out;have p322 : 0≤((ji25) : Int):=yt;have q322 : (ji25) < (l2.length : Int):=yt;obtain ⟨ad322,e322,hx322_0⟩:=Kd.at_int HR2.out (ji25) p322 q322;cases e322;replace hx322_0:=yhx HB hx322_0;replace p322:=eq_true p322;replace q322:=eq_true q322));try go_wp2_with (first|((with_reducible refine gate_store (t:=2) (p:=56) rfl ?_);(try (rw [drewN_self wr];generalize hq_ : World.drewN wr _=wr;have n0_:=zm (Kd.R_at hq_ HO_6.out);have n1_:=zm (below_at hq_ HB.out);clear hq_ HO_6 HB;have HO_6:=n0_;have HB:=n1_;clear n0_ n1_;(try (have HP34:=Kd.R_putg HO_6.out (x50_2 : Int) t319))));refine store_event (t:=2) (p:=56) (v := ?vo_w35) (w1:=(wr.setCell ⟨go23,(x50_2 : Int).toNat,none⟩ (.int .i64 t319))) ?hg ?ho ?hn ?hr ?_;(case ho=>rfl);(case hg=>rfl);(case hn=>rfl);(case hr=>first|(go_simp;done)|(go_simp;rfl));intro w35 hw;have hg : wr.grownBy w35 (some go23):=(by rw [hw];exact HP34.2);have hp_ : Kd.R (Kd.int .i64) 2 w35 w.heap.size (fun _=>True) (.slice (some ⟨go23,0,none⟩) x6_2.length co19) y321:=(by rw [hw,Ny321.out];exact HP34.1);clear HP34;replace HO_6:=zm (hp_);replace HB:=zm ((by rw [hw];exact zk (HB.out) GB23.out : Below w.heap.size w w35));clear hg hw hp_;have hcl:=(HB.out.cell (zb w _ HCL.out)).trans HCL.out;have p322 : 0≤((ji25) : Int):=yt;have q322 : (ji25) < (l2.length : Int):=yt;obtain ⟨ad322,e322,hx322_0⟩:=Kd.at_int HR2.out (ji25) p322 q322;cases e322;replace hx322_0:=yhx HB hx322_0;replace p322:=eq_true p322;replace q322:=eq_true q322)))
        (try simp only [← hl6_2])
        go_roundg k2
        case measure=>exact yom2 HJ13 HK2
        case rel=>exact ⟨(y321),(wrap64 (x50_2+1)),yq,H',⟨yom2 HJ13 HK2⟩,⟨by (try simp only [hl6_2]);(with_reducible repeat (first|apply zo|apply zp|apply zq));exact HO_6.out⟩,⟨yhb⟩⟩
      ·
       rw [if_neg c20] at H
       have c20b0 : decide (x50_2 < (y309.length : Int))=false:=decide_eq_false c20
       have c20x0 : decide (x50_2 < (x6_2.length : Int))=false:=by rw [← hl6_2];exact c20b0
       clear c20
       have H' := zm H
       clear H
       go_wp2
       repeat (go_quiet (fail);try go_wp2)
       (try simp only [← hl6_2])
       go_meet
       case rel=>exact ⟨_,(x6_2),H',⟨yom2 HJ13 HK2⟩,⟨by (try simp only [hl6_2]);(with_reducible repeat (first|apply zo|apply zp|apply zq));exact HO_6.out⟩,⟨yhb⟩⟩
    ·
     replace c16:=Bool.eq_false_iff.mpr c16
     subst c16
     rw [ynf] at H
     have H' := zm H
     clear H
     go_wp2
     repeat (go_quiet (fail);try go_wp2)
     go_meet
     case rel=>exact ⟨_,(y309),H',⟨yom1 HJ13⟩,⟨yr HO_6⟩,⟨yhb⟩⟩
 case rest =>
  clear HC7
  try clear c2
  try clear c4b0
  try clear c4b1
  try clear c5b0
  try clear c5b1
  obtain ⟨kq,x6_6,HA,HJ6,HO_6,HB⟩:=hcut
  obtain ⟨kj6,rfl⟩:=ysu kq (fun h=>by subst h;exact absurd HA.out (by simp [ccodec_next.j2]))
  have H:=HA.out;clear HA
  simp only [ccodec_next.j2] at H
  have H' := zm H
  clear H
  obtain ⟨Ao36,co36,eo36⟩:=Kd.R_slice HO_6.out
  subst eo36
  go_wp2
  repeat (go_quiet (fail);try go_wp2)
  go_loopg [73] kj6 (fun kq v73 w' => ∃ (x6_2 : List Int) (x73_2 : Int),v73=.int .i64 x73_2∧Aside0 (ccodec_next.l1 kq x6_2 (x6_6.length : Int) x73_2=some r)∧Aside0 (kq≤kj6)∧Aside0 (Kd.R (Kd.int .i64) 2 w' w.heap.size (fun _=>True) (.slice Ao36 x6_6.length co36) x6_2)∧Aside0 (Below w.heap.size w w'))
  case atStart=>exact ⟨(x6_6),(0),yq,H',⟨Nat.le_refl _⟩,⟨yr HO_6⟩,⟨yhb⟩⟩
  case round =>
   clear H'
   obtain ⟨x6_2,x73_2,rfl,HA,HK2,HO_6,HB⟩:=hrel
   have hl6_2:=(Kd.R_reads' HO_6.out).1
   rw [hl6_2] at HO_6
   (try simp only [hl6_2])
   obtain ⟨k2,rfl⟩:=ysu gk (fun h=>by subst h;exact absurd HA.out (by simp [ccodec_next.l1]))
   have H:=HA.out;clear HA
   simp only [ccodec_next.l1] at H
   by_cases c37 : x73_2 < (x6_6.length : Int)
   ·
    rw [if_pos c37] at H
    have c37b0 : decide (x73_2 < (x6_6.length : Int))=true:=decide_eq_true c37
    clear c37
    replace H:=yif H;obtain ⟨c38,H⟩:=H
    have c38b0 : decide (0≤x73_2)=true:=decide_eq_true c38
    clear c38
    replace H:=yif H;obtain ⟨c39,H⟩:=H
    have c39b0 : decide (x73_2 < (x6_2.length : Int))=true:=decide_eq_true c39
    clear c39
    replace H:=ybi H;obtain ⟨t325,A40,H⟩:=H
    obtain ⟨y326,hy326⟩ : ∃ y_ : List Int,y_=(x6_2.set (x73_2 : Int).toNat t325):=⟨_,rfl⟩
    replace H : (ccodec_next.l1 k2 y326 (x6_6.length : Int) (wrap64 (x73_2+1)))=some r:=yrw hy326 H
    have Ny326:=zm hy326;clear hy326
    have H' := zm H
    clear H
    have p324 : 0≤(x73_2 : Int):=yt
    have q324 : x73_2 < (x6_2.length : Int):=yt
    obtain ⟨ad324,e324,hx324_0⟩:=Kd.at_int (Kd.R_reads' HO_6.out).2.2 x73_2 p324 q324
    cases e324
    replace p324:=eq_true p324
    replace q324:=eq_true q324
    go_wp2_with (first|(go_at_call 95;(with_reducible refine (num_Clamp.calls (rd x6_2 x73_2) (-1048576) 1048576 t325 _ A40.out).mono ?_);rintro e w' ⟨rfl,⟨nd,rfl⟩⟩;(try exact yww);have p41 : 0≤(x73_2 : Int):=yt;have q41 : (x73_2 : Int) < ((x6_2.length : Int) : Int):=yt;obtain ⟨go41,co41,eo41,gb41,gl41,cl41,HG41⟩:=Kd.R_form HO_6.out (by omega);(first|cases eo41|(injection eo41 with ea_ en_ ec_;(first|subst ea_|(injection ea_ with ea_;subst ea_));subst ec_;clear en_));have GB41:=zm gb41;have GG41:=zm HG41;clear gb41 gl41 HG41;(first|simp only [add_plain] at hx324_0|skip);obtain ⟨hx41_0,hf41_0⟩:=Kd.R_celln 0 HO_6.out (x73_2 : Int) p41 q41;replace p41:=eq_true p41;replace q41:=eq_true q41;obtain ⟨hy42_,hz42_⟩:=Kd.R_celln 0 HO_6.out (x73_2 : Int) (yt) (yt);have HP42:=Kd.R_putg HO_6.out (x73_2 : Int) t325)|((with_reducible refine gate_store (t:=2) (p:=82) rfl ?_);(try (rw [drewN_self wr];generalize hq_ : World.drewN wr _=wr;have n0_:=zm (Kd.R_at hq_ HO_6.out);have n1_:=zm (below_at hq_ HB.out);clear hq_ HO_6 HB;have HO_6:=n0_;have HB:=n1_;clear n0_ n1_;(try (obtain ⟨hy42_,hz42_⟩:=Kd.R_celln 0 HO_6.out (x73_2 : Int) (yt) (yt)));(try (have HP42:=Kd.R_putg HO_6.out (x73_2 : Int) t325))));refine store_event (t:=2) (p:=82) (v := ?vo_w43) (w1:=(wr.setCell ⟨go41,(x73_2 : Int).toNat,none⟩ (.int .i64 t325))) ?hg ?ho ?hn ?hr ?_;(case ho=>rfl);(case hg=>rfl);(case hn=>rfl);(case hr=>first|(go_simp;done)|(go_simp;rfl));intro w43 hw;have hg : wr.grownBy w43 (some go41):=(by rw [hw];exact HP42.2);have hp_ : Kd.R (Kd.int .i64) 2 w43 w.heap.size (fun _=>True) (.slice (some ⟨go41,0,none⟩) x6_2.length co36) y326:=(by rw [hw,Ny326.out];exact HP42.1);clear HP42;replace HO_6:=zm (hp_);replace HB:=zm ((by rw [hw];exact zk (HB.out) GB41.out : Below w.heap.size w w43));clear hg hw hp_))
    repeat (go_quiet (first|(go_at_call 95;(with_reducible refine (num_Clamp.calls (rd x6_2 x73_2) (-1048576) 1048576 t325 _ A40.out).mono ?_);rintro e w' ⟨rfl,⟨nd,rfl⟩⟩;(try exact yww);have p41 : 0≤(x73_2 : Int):=yt;have q41 : (x73_2 : Int) < ((x6_2.length : Int) : Int):=yt;obtain ⟨go41,co41,eo41,gb41,gl41,cl41,HG41⟩:=Kd.R_form HO_6.out (by omega);(first|cases eo41|(injection eo41 with ea_ en_ ec_;(first|subst ea_|(injection ea_ with ea_;subst ea_));subst ec_;clear en_));have GB41:=zm gb41;have GG41:=zm HG41;clear gb41 gl41 HG41;(first|simp only [add_plain] at hx324_0|skip);obtain ⟨hx41_0,hf41_0⟩:=Kd.R_celln 0 HO_6.out (x73_2 : Int) p41 q41;replace p41:=eq_true p41;replace q41:=eq_true q41;obtain ⟨hy42_,hz42_⟩:=Kd.R_celln 0 HO_6.out (x73_2 : Int) (yt) (yt);have HP42:=Kd.R_putg HO_6.out (x73_2 : Int) t325)|((with_reducible refine gate_store (t:=2) (p:=82) rfl ?_);(try (rw [drewN_self wr];generalize hq_ : World.drewN wr _=wr;have n0_:=zm (Kd.R_at hq_ HO_6.out);have n1_:=zm (below_at hq_ HB.out);clear hq_ HO_6 HB;have HO_6:=n0_;have HB:=n1_;clear n0_ n1_;(try (obtain ⟨hy42_,hz42_⟩:=Kd.R_celln 0 HO_6.out (x73_2 : Int) (yt) (yt)));(try (have HP42:=Kd.R_putg HO_6.out (x73_2 : Int) t325))));refine store_event (t:=2) (p:=82) (v := ?vo_w43) (w1:=(wr.setCell ⟨go41,(x73_2 : Int).toNat,none⟩ (.int .i64 t325))) ?hg ?ho ?hn ?hr ?_;(case ho=>rfl);(case hg=>rfl);(case hn=>rfl);(case hr=>first|(go_simp;done)|(go_simp;rfl));intro w43 hw;have hg : wr.grownBy w43 (some go41):=(by rw [hw];exact HP42.2);have hp_ : Kd.R (Kd.int .i64) 2 w43 w.heap.size (fun _=>True) (.slice (some ⟨go41,0,none⟩) x6_2.length co36) y326:=(by rw [hw,Ny326.out];exact HP42.1);clear HP42;replace HO_6:=zm (hp_);replace HB:=zm ((by rw [hw];exact zk (HB.out) GB41.out : Below w.heap.size w w43));clear hg hw hp_));try go_wp2_with (first|(go_at_call 95;(with_reducible refine (num_Clamp.calls (rd x6_2 x73_2) (-1048576) 1048576 t325 _ A40.out).mono ?_);rintro e w' ⟨rfl,⟨nd,rfl⟩⟩;(try exact yww);have p41 : 0≤(x73_2 : Int):=yt;have q41 : (x73_2 : Int) < ((x6_2.length : Int) : Int):=yt;obtain ⟨go41,co41,eo41,gb41,gl41,cl41,HG41⟩:=Kd.R_form HO_6.out (by omega);(first|cases eo41|(injection eo41 with ea_ en_ ec_;(first|subst ea_|(injection ea_ with ea_;subst ea_));subst ec_;clear en_));have GB41:=zm gb41;have GG41:=zm HG41;clear gb41 gl41 HG41;(first|simp only [add_plain] at hx324_0|skip);obtain ⟨hx41_0,hf41_0⟩:=Kd.R_celln 0 HO_6.out (x73_2 : Int) p41 q41;replace p41:=eq_true p41;replace q41:=eq_true q41;obtain ⟨hy42_,hz42_⟩:=Kd.R_celln 0 HO_6.out (x73_2 : Int) (yt) (yt);have HP42:=Kd.R_putg HO_6.out (x73_2 : Int) t325)|((with_reducible refine gate_store (t:=2) (p:=82) rfl ?_);(try (rw [drewN_self wr];generalize hq_ : World.drewN wr _=wr;have n0_:=zm (Kd.R_at hq_ HO_6.out);have n1_:=zm (below_at hq_ HB.out);clear hq_ HO_6 HB;have HO_6:=n0_;have HB:=n1_;clear n0_ n1_;(try (obtain ⟨hy42_,hz42_⟩:=Kd.R_celln 0 HO_6.out (x73_2 : Int) (yt) (yt)));(try (have HP42:=Kd.R_putg HO_6.out (x73_2 : Int) t325))));refine store_event (t:=2) (p:=82) (v := ?vo_w43) (w1:=(wr.setCell ⟨go41,(x73_2 : Int).toNat,none⟩ (.int .i64 t325))) ?hg ?ho ?hn ?hr ?_;(case ho=>rfl);(case hg=>rfl);(case hn=>rfl);(case hr=>first|(go_simp;done)|(go_simp;rfl));intro w43 hw;have hg : wr.grownBy w43 (some go41):=(by rw [hw];exact HP42.2);have hp_ : Kd.R (Kd.int .i64) 2 w43 w.heap.size (fun _=>True) (.slice (some ⟨go41,0,none⟩) x6_2.length co36) y326:=(by rw [hw,Ny326.out];exact HP42.1);clear HP42;replace HO_6:=zm (hp_);replace HB:=zm ((by rw [hw];exact zk (HB.out) GB41.out : Below w.heap.size w w43));clear hg hw hp_)))
    (try simp only [← hl6_2])
    go_roundg k2
    case measure=>exact yom2 HJ6 HK2
    case rel=>exact ⟨(y326),(wrap64 (x73_2+1)),yq,H',⟨yom2 HJ6 HK2⟩,⟨by (try simp only [hl6_2]);(with_reducible repeat (first|apply zo|apply zp|apply zq));exact HO_6.out⟩,⟨yhb⟩⟩
   ·
    rw [if_neg c37] at H
    have c37b0 : decide (x73_2 < (x6_6.length : Int))=false:=decide_eq_false c37
    have c37x0 : decide (x73_2 < (x6_2.length : Int))=false:=by rw [← hl6_2];exact c37b0
    clear c37
    obtain rfl:=Option.some.inj H
    have hcl:=(HB.out.cell (zb w _ HCL.out)).trans HCL.out
    have hfz:=zx (zF HS.out HB.out) 0
    go_wp2
    repeat (go_quiet (fail);try go_wp2)
    go_ret
    exact ⟨_,ye,zG (zH (zG (Kd.R_bound HO_6.out) (fun k_ hk=>hk.2.1)) (p:=⟨B,0,none⟩) (fun k_ hk e_=>by rw [e_] at hk;exact Nat.lt_irrefl _ (zl (zD HS.out) hk)) _) (fun _ _=>trivial),Kept.setCell (Kept.of_below HB.out (fun k_=>k_=B)) (.inl rfl) _,Below.setCell (Below.mono HB.out (Nat.le_of_lt (zD HS.out))) (Nat.le_refl _) _,blk_set (zF HS.out HB.out) 0 _⟩
def alloc_Right.f (a0 : Int) (a1 : Int) : Option (Bool):=if a1=1 then (if a0 ≥ 11 then (some (decide (a0≤60))) else (some false)) else (if a1=2 then (if a0 ≥ 17 then (some (decide (a0≤60))) else (some false)) else (some false))
set_option maxHeartbeats 8000000 in
set_option maxRecDepth 100000 in
theorem alloc_Right.calls (a0 : Int) (a1 : Int) (r : Bool) (w : World) (h : alloc_Right.f a0 a1=some r) :
  Calls Try.prog 52 #[.int .i64 a0, .int .i64 a1] w fun e w' => e=.returned (.bool r)∧Drawn0 w w' := by
 have H : (if a1=1 then (if a0 ≥ 11 then (some (decide (a0≤60))) else (some false)) else (if a1=2 then (if a0 ≥ 17 then (some (decide (a0≤60))) else (some false)) else (some false)))=some r:=h
 clear h
 by_cases c3 : a1=1
 ·
  rw [if_pos c3] at H
  have c3b0 : (a1 == 1)=true:=beq_iff_eq.mpr c3
  have c3b1 : (a1 != 1)=false:=bne_eq_false_iff_eq.mpr c3
  clear c3
  by_cases c4 : a0 ≥ 11
  ·
   rw [if_pos c4] at H
   have c4b0 : decide (11≤a0)=true:=decide_eq_true c4
   clear c4
   obtain rfl:=Option.some.inj H
   go_enter Try.func52,Try.ntmps52
   go_wp2
   go_ret
   exact ⟨yq,yd⟩
  ·
   rw [if_neg c4] at H
   have c4b0 : decide (11≤a0)=false:=decide_eq_false c4
   clear c4
   obtain rfl:=Option.some.inj H
   go_enter Try.func52,Try.ntmps52
   go_wp2
   go_ret
   exact ⟨yq,yd⟩
 ·
  rw [if_neg c3] at H
  have c3b0 : (a1 == 1)=false:=beq_eq_false_iff_ne.mpr c3
  have c3b1 : (a1 != 1)=true:=bne_iff_ne.mpr c3
  by_cases c5 : a1=2
  ·
   rw [if_pos c5] at H
   have c5b0 : (a1 == 2)=true:=beq_iff_eq.mpr c5
   have c5b1 : (a1 != 2)=false:=bne_eq_false_iff_eq.mpr c5
   clear c5
   by_cases c6 : a0 ≥ 17
   ·
    rw [if_pos c6] at H
    have c6b0 : decide (17≤a0)=true:=decide_eq_true c6
    clear c6
    obtain rfl:=Option.some.inj H
    go_enter Try.func52,Try.ntmps52
    go_wp2
    go_ret
    exact ⟨yq,yd⟩
   ·
    rw [if_neg c6] at H
    have c6b0 : decide (17≤a0)=false:=decide_eq_false c6
    clear c6
    obtain rfl:=Option.some.inj H
    go_enter Try.func52,Try.ntmps52
    go_wp2
    go_ret
    exact ⟨yq,yd⟩
  ·
   rw [if_neg c5] at H
   have c5b0 : (a1 == 2)=false:=beq_eq_false_iff_ne.mpr c5
   have c5b1 : (a1 != 2)=true:=bne_iff_ne.mpr c5
   obtain rfl:=Option.some.inj H
   go_enter Try.func52,Try.ntmps52
   go_wp2
   go_ret
   exact ⟨yq,yd⟩
def gain_Most.f (a0 : Bool) : Option (Int):=if a0=true then (some 30) else (some 45)
set_option maxHeartbeats 8000000 in
set_option maxRecDepth 100000 in
theorem gain_Most.calls (a0 : Bool) (r : Int) (w : World) (h : gain_Most.f a0=some r) :
  Calls Try.prog 111 #[.bool a0] w fun e w' => e=.returned (.int .i64 r)∧Drawn0 w w' := by
 have H : (if a0=true then (some 30) else (some 45))=some r:=h
 clear h
 by_cases c2 : a0=true
 ·
  subst c2
  rw [if_pos rfl] at H
  obtain rfl:=Option.some.inj H
  go_enter Try.func111,Try.ntmps111
  go_wp2
  go_ret
  exact ⟨yq,yd⟩
 ·
  replace c2:=Bool.eq_false_iff.mpr c2
  subst c2
  rw [ynf] at H
  obtain rfl:=Option.some.inj H
  go_enter Try.func111,Try.ntmps111
  go_wp2
  go_ret
  exact ⟨yq,yd⟩
def alloc_Room.f (a0 : Int) (a1 : Int) : Option (Int):=(alloc_Right.f a0 a1).bind fun t150=>(if t150=true then ((gain_Most.f false).bind fun t151=>(if a1=0 then (none) else (some (wrap64 (Int.tdiv (wrap64 ((wrap64 ((wrap64 (8 * a0)) - 41)) - (wrap64 (t151 * a1)))) a1))))) else (some 0))
set_option maxHeartbeats 8000000 in
set_option maxRecDepth 100000 in
theorem alloc_Room.calls (a0 : Int) (a1 : Int) (r : Int) (w : World) (h : alloc_Room.f a0 a1=some r) :
  Calls Try.prog 73 #[.int .i64 a0, .int .i64 a1] w fun e w' => e=.returned (.int .i64 r)∧Drawn0 w w' := by
 have H : ((alloc_Right.f a0 a1).bind fun t150=>(if t150=true then ((gain_Most.f false).bind fun t151=>(if a1=0 then (none) else (some (wrap64 (Int.tdiv (wrap64 ((wrap64 ((wrap64 (8 * a0)) - 41)) - (wrap64 (t151 * a1)))) a1))))) else (some 0)))=some r:=h
 clear h
 replace H:=ybi H;obtain ⟨t150,A3,H⟩:=H
 by_cases c4 : t150=true
 ·
  subst c4
  rw [if_pos rfl] at H
  replace H:=ybi H;obtain ⟨t151,A5,H⟩:=H
  replace H:=yie H;obtain ⟨c6,H⟩:=H
  have c6b0 : (a1 == 0)=false:=beq_eq_false_iff_ne.mpr c6
  have c6b1 : (a1 != 0)=true:=bne_iff_ne.mpr c6
  obtain rfl:=Option.some.inj H
  go_enter Try.func73,Try.ntmps73
  go_wp2_with (first|((with_reducible refine gate_callee (f:=52) rfl ?_);refine ygl 7 Try.func52 #[.int .i64 a0, .int .i64 a1] ?_;(with_reducible refine (alloc_Right.calls a0 a1 true _ A3.out).mono ?_);rintro e w' ⟨rfl,⟨nd,rfl⟩⟩;refine ⟨_,rfl, ?_⟩)|((with_reducible refine gate_callee (f:=111) rfl ?_);refine ygl 12 Try.func111 #[.bool false] ?_;(with_reducible refine (gain_Most.calls false t151 _ A5.out).mono ?_);rintro e w' ⟨rfl,⟨nd,rfl⟩⟩;refine ⟨_,rfl, ?_⟩))
  go_ret
  exact ⟨yq,yd⟩
 ·
  replace c4:=Bool.eq_false_iff.mpr c4
  subst c4
  rw [ynf] at H
  obtain rfl:=Option.some.inj H
  go_enter Try.func73,Try.ntmps73
  go_wp2_with (first|((with_reducible refine gate_callee (f:=52) rfl ?_);refine ygl 7 Try.func52 #[.int .i64 a0, .int .i64 a1] ?_;(with_reducible refine (alloc_Right.calls a0 a1 false _ A3.out).mono ?_);rintro e w' ⟨rfl,⟨nd,rfl⟩⟩;refine ⟨_,rfl, ?_⟩))
  go_ret
  exact ⟨yq,yd⟩
def band_there.f (a0 : Int) : Option (Bool):=if a0 ≥ 0 then (some (decide (a0 < 5))) else (some false)
set_option maxHeartbeats 8000000 in
set_option maxRecDepth 100000 in
theorem band_there.calls (a0 : Int) (r : Bool) (w : World) (h : band_there.f a0=some r) :
  Calls Try.prog 90 #[.int .i64 a0] w fun e w' => e=.returned (.bool r)∧Drawn0 w w' := by
 have H : (if a0 ≥ 0 then (some (decide (a0 < 5))) else (some false))=some r:=h
 clear h
 by_cases c2 : a0 ≥ 0
 ·
  rw [if_pos c2] at H
  have c2b0 : decide (0≤a0)=true:=decide_eq_true c2
  clear c2
  obtain rfl:=Option.some.inj H
  go_enter Try.func90,Try.ntmps90
  go_wp2
  go_ret
  exact ⟨yq,yd⟩
 ·
  rw [if_neg c2] at H
  have c2b0 : decide (0≤a0)=false:=decide_eq_false c2
  clear c2
  obtain rfl:=Option.some.inj H
  go_enter Try.func90,Try.ntmps90
  go_wp2
  go_ret
  exact ⟨yq,yd⟩
def band_From.f (a0 : Int) : Option (Int):=(band_there.f a0).bind fun t103=>(if t103=true then (if a0=0 then (some 0) else (if 0≤(wrap64 (a0 - 1)) then (some (shl .i64 1 (wrap64 (a0 - 1)))) else (none))) else (some 0))
set_option maxHeartbeats 8000000 in
set_option maxRecDepth 100000 in
theorem band_From.calls (a0 : Int) (r : Int) (w : World) (h : band_From.f a0=some r) :
  Calls Try.prog 77 #[.int .i64 a0] w fun e w' => e=.returned (.int .i64 r)∧Drawn0 w w' := by
 have H : ((band_there.f a0).bind fun t103=>(if t103=true then (if a0=0 then (some 0) else (if 0≤(wrap64 (a0 - 1)) then (some (shl .i64 1 (wrap64 (a0 - 1)))) else (none))) else (some 0)))=some r:=h
 clear h
 replace H:=ybi H;obtain ⟨t103,A2,H⟩:=H
 by_cases c3 : t103=true
 ·
  subst c3
  rw [if_pos rfl] at H
  by_cases c4 : a0=0
  ·
   rw [if_pos c4] at H
   have c4b0 : (a0 == 0)=true:=beq_iff_eq.mpr c4
   have c4b1 : (a0 != 0)=false:=bne_eq_false_iff_eq.mpr c4
   clear c4
   obtain rfl:=Option.some.inj H
   go_enter Try.func77,Try.ntmps77
   go_wp2_with (first|((with_reducible refine gate_callee (f:=90) rfl ?_);refine ygl 4 Try.func90 #[.int .i64 a0] ?_;(with_reducible refine (band_there.calls a0 true _ A2.out).mono ?_);rintro e w' ⟨rfl,⟨nd,rfl⟩⟩;refine ⟨_,rfl, ?_⟩))
   go_ret
   exact ⟨yq,yd⟩
  ·
   rw [if_neg c4] at H
   have c4b0 : (a0 == 0)=false:=beq_eq_false_iff_ne.mpr c4
   have c4b1 : (a0 != 0)=true:=bne_iff_ne.mpr c4
   obtain ⟨ji5,hji5⟩ : ∃ j_ : Int,(wrap64 (a0 - 1))=j_:=⟨_,rfl⟩
   replace H : (if 0≤(ji5) then (some (shl .i64 1 (ji5))) else (none))=some r:=by first|(rw [hji5] at H;exact H)|(simp only [hji5] at H ⊢; exact H)
   (try rw [hji5] at A2)
   have hji5w : (IntKind.i64.wrap (a0 - 1))=ji5:=(i64_w _).trans hji5
   replace H:=yif H;obtain ⟨c6,H⟩:=H
   have c6b0:=eq_true c6
   have c6b1 : decide (0≤(ji5))=true:=decide_eq_true c6
   clear c6
   obtain ⟨ji7,hji7⟩ : ∃ j_ : Int,(shl .i64 1 (ji5))=j_:=⟨_,rfl⟩
   replace H : (some ji7)=some r:=by first|(rw [hji7] at H;exact H)|(simp only [hji7] at H ⊢; exact H)
   (try rw [hji7] at A2)
   have hji7_ : (IntKind.i64.wrap (1 * 2 ^ min (ji5).toNat 64))=ji7:=hji7
   have hji7z : (ji5)≤64→(IntKind.i64.wrap (1 * 2 ^ (ji5).toNat))=ji7:=shl_small hji7
   have hji7u : (IntKind.i64.wrap (2 ^ min (ji5).toNat 64))=ji7:=by have h_:=hji7_;rw [Int.one_mul] at h_;exact h_
   have hji7v : (ji5)≤64→(IntKind.i64.wrap (2 ^ (ji5).toNat))=ji7:=fun hle_=>by have h_:=hji7z hle_;rw [Int.one_mul] at h_;exact h_
   have hji7y : (wrap64 (1 * 2 ^ min (ji5).toNat 64))=ji7:=(i64_w _).symm.trans hji7_
   have hji7x : (ji5)≤64→(wrap64 (1 * 2 ^ (ji5).toNat))=ji7:=fun h_=>(i64_w _).symm.trans (hji7z h_)
   obtain rfl:=Option.some.inj H
   go_enter Try.func77,Try.ntmps77
   go_wp2_with (first|((with_reducible refine gate_callee (f:=90) rfl ?_);refine ygl 4 Try.func90 #[.int .i64 a0] ?_;(with_reducible refine (band_there.calls a0 true _ A2.out).mono ?_);rintro e w' ⟨rfl,⟨nd,rfl⟩⟩;refine ⟨_,rfl, ?_⟩))
   go_ret
   exact ⟨by first|rfl|(simp;done)|(simp only [← hji5, ← hji7] <;> (first|rfl|simp))|(simp [*];done),yd⟩
 ·
  replace c3:=Bool.eq_false_iff.mpr c3
  subst c3
  rw [ynf] at H
  obtain rfl:=Option.some.inj H
  go_enter Try.func77,Try.ntmps77
  go_wp2_with (first|((with_reducible refine gate_callee (f:=90) rfl ?_);refine ygl 4 Try.func90 #[.int .i64 a0] ?_;(with_reducible refine (band_there.calls a0 false _ A2.out).mono ?_);rintro e w' ⟨rfl,⟨nd,rfl⟩⟩;refine ⟨_,rfl, ?_⟩))
  go_ret
  exact ⟨yq,yd⟩
def band_Width.f (a0 : Int) : Option (Int):=(band_there.f a0).bind fun t104=>(if t104=true then ((band_From.f a0).bind fun t105=>(some (mx 1 t105))) else (some 0))
set_option maxHeartbeats 8000000 in
set_option maxRecDepth 100000 in
theorem band_Width.calls (a0 : Int) (r : Int) (w : World) (h : band_Width.f a0=some r) :
  Calls Try.prog 48 #[.int .i64 a0] w fun e w' => e=.returned (.int .i64 r)∧Below w.heap.size w w' := by
 have HB:=zm (Below.refl w.heap.size w)
 have H : ((band_there.f a0).bind fun t104=>(if t104=true then ((band_From.f a0).bind fun t105=>(some (mx 1 t105))) else (some 0)))=some r:=h
 clear h
 replace H:=ybi H;obtain ⟨t104,A2,H⟩:=H
 by_cases c3 : t104=true
 ·
  subst c3
  rw [if_pos rfl] at H
  replace H:=ybi H;obtain ⟨t105,A4,H⟩:=H
  obtain ⟨ji5,hji5⟩ : ∃ j_ : Int,(mx 1 t105)=j_:=⟨_,rfl⟩
  replace H : (some ji5)=some r:=by first|(rw [hji5] at H;exact H)|(simp only [hji5] at H ⊢; exact H)
  (try rw [hji5] at A2)
  (try rw [hji5] at A4)
  (try (have hji5l : 1≤ji5:=by (rw [← hji5];unfold mx;(repeat' split) <;> omega)))
  (try (have hji5m : 0≤ji5:=by omega))
  have hji5_ : (if 1 < t105 then t105 else 1)=ji5:=hji5
  obtain rfl:=Option.some.inj H
  go_enter Try.func48,Try.ntmps48
  go_wp2_with (first|((with_reducible refine gate_callee (f:=90) rfl ?_);refine ygl 4 Try.func90 #[.int .i64 a0] ?_;(with_reducible refine (band_there.calls a0 true _ A2.out).mono ?_);rintro e w' ⟨rfl,⟨nd,rfl⟩⟩;refine ⟨_,rfl, ?_⟩)|((with_reducible refine gate_callee (f:=77) rfl ?_);refine ygl 7 Try.func77 #[.int .i64 a0] ?_;(with_reducible refine (band_From.calls a0 t105 _ A4.out).mono ?_);rintro e w' ⟨rfl,⟨nd,rfl⟩⟩;refine ⟨_,rfl, ?_⟩))
  go_ret
  exact ⟨by first|rfl|(simp [errW_none,errW_some] <;> rfl)|(simp only [← hji5];first|rfl|(simp [errW_none,errW_some] <;> rfl))|(simp [*,errW_none,errW_some] <;> rfl),yhb⟩
 ·
  replace c3:=Bool.eq_false_iff.mpr c3
  subst c3
  rw [ynf] at H
  obtain rfl:=Option.some.inj H
  go_enter Try.func48,Try.ntmps48
  go_wp2_with (first|((with_reducible refine gate_callee (f:=90) rfl ?_);refine ygl 4 Try.func90 #[.int .i64 a0] ?_;(with_reducible refine (band_there.calls a0 false _ A2.out).mono ?_);rintro e w' ⟨rfl,⟨nd,rfl⟩⟩;refine ⟨_,rfl, ?_⟩))
  go_ret
  exact ⟨ye,yhb⟩
def alloc_most.f (a0 : Int) : Option (Int):=(band_Width.f a0).bind fun t152=>(if t152=1 then (some 1) else (some 12))
set_option maxHeartbeats 8000000 in
set_option maxRecDepth 100000 in
theorem alloc_most.calls (a0 : Int) (r : Int) (w : World) (h : alloc_most.f a0=some r) :
  Calls Try.prog 74 #[.int .i64 a0] w fun e w' => e=.returned (.int .i64 r)∧Below w.heap.size w w' := by
 have HB:=zm (Below.refl w.heap.size w)
 have H : ((band_Width.f a0).bind fun t152=>(if t152=1 then (some 1) else (some 12)))=some r:=h
 clear h
 replace H:=ybi H;obtain ⟨t152,A2,H⟩:=H
 by_cases c3 : t152=1
 ·
  rw [if_pos c3] at H
  have c3b0 : (t152 == 1)=true:=beq_iff_eq.mpr c3
  have c3b1 : (t152 != 1)=false:=bne_eq_false_iff_eq.mpr c3
  clear c3
  obtain rfl:=Option.some.inj H
  go_enter Try.func74,Try.ntmps74
  go_wp2_with (first|((with_reducible refine gate_callee (f:=48) rfl ?_);refine ygl 4 Try.func48 #[.int .i64 a0] ?_;(with_reducible refine (band_Width.calls a0 t152 _ A2.out).mono ?_);rintro e w4 ⟨rfl,hb⟩;refine ⟨_,rfl, ?_⟩;replace HB:=ybs hb;(try clear hb)))
  go_ret
  exact ⟨ye,yhb⟩
 ·
  rw [if_neg c3] at H
  have c3b0 : (t152 == 1)=false:=beq_eq_false_iff_ne.mpr c3
  have c3b1 : (t152 != 1)=true:=bne_iff_ne.mpr c3
  obtain rfl:=Option.some.inj H
  go_enter Try.func74,Try.ntmps74
  go_wp2_with (first|((with_reducible refine gate_callee (f:=48) rfl ?_);refine ygl 4 Try.func48 #[.int .i64 a0] ?_;(with_reducible refine (band_Width.calls a0 t152 _ A2.out).mono ?_);rintro e w5 ⟨rfl,hb⟩;refine ⟨_,rfl, ?_⟩;replace HB:=ybs hb;(try clear hb)))
  go_ret
  exact ⟨ye,yhb⟩
def comb_fair.f (a0 : Int) (a1 : Int) : Option (Bool):=if a0 ≥ 1 then (if a0≤16 then (if a1 ≥ 0 then (some (decide (a1≤12))) else (some false)) else (some false)) else (some false)
set_option maxHeartbeats 8000000 in
set_option maxRecDepth 100000 in
theorem comb_fair.calls (a0 : Int) (a1 : Int) (r : Bool) (w : World) (h : comb_fair.f a0 a1=some r) :
  Calls Try.prog 88 #[.int .i64 a0, .int .i64 a1] w fun e w' => e=.returned (.bool r)∧Drawn0 w w' := by
 have H : (if a0 ≥ 1 then (if a0≤16 then (if a1 ≥ 0 then (some (decide (a1≤12))) else (some false)) else (some false)) else (some false))=some r:=h
 clear h
 by_cases c3 : a0 ≥ 1
 ·
  rw [if_pos c3] at H
  have c3b0 : decide (1≤a0)=true:=decide_eq_true c3
  clear c3
  by_cases c4 : a0≤16
  ·
   rw [if_pos c4] at H
   have c4b0 : decide (a0≤16)=true:=decide_eq_true c4
   clear c4
   by_cases c5 : a1 ≥ 0
   ·
    rw [if_pos c5] at H
    have c5b0 : decide (0≤a1)=true:=decide_eq_true c5
    clear c5
    obtain rfl:=Option.some.inj H
    go_enter Try.func88,Try.ntmps88
    go_wp2
    go_ret
    exact ⟨yq,yd⟩
   ·
    rw [if_neg c5] at H
    have c5b0 : decide (0≤a1)=false:=decide_eq_false c5
    clear c5
    obtain rfl:=Option.some.inj H
    go_enter Try.func88,Try.ntmps88
    go_wp2
    go_ret
    exact ⟨yq,yd⟩
  ·
   rw [if_neg c4] at H
   have c4b0 : decide (a0≤16)=false:=decide_eq_false c4
   clear c4
   obtain rfl:=Option.some.inj H
   go_enter Try.func88,Try.ntmps88
   go_wp2
   go_ret
   exact ⟨yq,yd⟩
 ·
  rw [if_neg c3] at H
  have c3b0 : decide (1≤a0)=false:=decide_eq_false c3
  clear c3
  obtain rfl:=Option.some.inj H
  go_enter Try.func88,Try.ntmps88
  go_wp2
  go_ret
  exact ⟨yq,yd⟩
def comb_Count.f (a0 : Int) (a1 : Int) : Option (Int × Int):=(comb_fair.f a0 a1).bind fun t153=>(if t153=true then ((comb_table.f a0 a1).bind fun t157=>(some (t157,0))) else (some (0,1)))
set_option maxHeartbeats 8000000 in
set_option maxRecDepth 100000 in
theorem comb_Count.calls (a0 : Int) (a1 : Int) (r1 : Int) (r2 : Int) (w : World) (h : comb_Count.f a0 a1=some (r1,r2)) :
  Calls Try.prog 47 #[.int .i64 a0, .int .i64 a1] w fun e w' => e=.returned (.tuple #[.int .u64 r1, .int .i64 r2])∧Below w.heap.size w w' := by
 have HB:=zm (Below.refl w.heap.size w)
 have H : ((comb_fair.f a0 a1).bind fun t153=>(if t153=true then ((comb_table.f a0 a1).bind fun t157=>(some (t157,0))) else (some (0,1))))=some (r1,r2):=h
 clear h
 replace H:=ybi H;obtain ⟨t153,A3,H⟩:=H
 by_cases c4 : t153=true
 ·
  subst c4
  rw [if_pos rfl] at H
  obtain ⟨y154,hy154⟩ : ∃ y_ : List Int,y_=(([0] : List Int)):=⟨_,rfl⟩
  replace H : ((comb_table.f a0 a1).bind fun t157=>(some (t157,0)))=some (r1,r2):=yrw hy154 H
  have Ny154:=zm hy154;clear hy154
  replace H:=ybi H;obtain ⟨t157,A5,H⟩:=H
  simp only [Option.some.injEq,Prod.mk.injEq] at H
  obtain ⟨rfl,rfl⟩:=H
  go_enter Try.func47,Try.ntmps47
  obtain ⟨Z,hz,HZs⟩:=comb_table.zsize
  obtain ⟨ia0,ib0,ic0,id0⟩:=comb_table.inn A5.out
  go_wp2_with (first|((with_reducible refine gate_callee (f:=88) rfl ?_);refine ygl 9 Try.func88 #[.int .i64 a0, .int .i64 a1] ?_;(with_reducible refine (comb_fair.calls a0 a1 true _ A3.out).mono ?_);rintro e w' ⟨rfl,⟨nd,rfl⟩⟩;refine ⟨_,rfl, ?_⟩)|((with_reducible refine gate_callee (f:=89) rfl ?_);refine goesL_ (some 11) rfl rfl Try.func89 (by kernel_rfl) rfl #[] rfl (by first|rfl|simp) ?_;(with_reducible refine (comb_table.made _).mono ?_);rintro e w5 ⟨rfl,hb5⟩;refine ⟨_,rfl, ?_⟩;have hst:=run_storeCells_new (P:=Try.prog) w5 130 Z (ABl (comb_table.T 16)) comb_table.size16 HZs.out (ABl_one _);have n1_:=zm (ze (zJ yhb hb5) (.cells (ABl (comb_table.T 16)) 130));clear HB;have HB:=n1_;clear n1_;have hbn:=zm (blk_new w5 (.cells (ABl (comb_table.T 16)) 130));have hcl0:=comb_table.look hbn.out A5.out))
  go_ret2
  exact ⟨ye,yhb⟩
 ·
  replace c4:=Bool.eq_false_iff.mpr c4
  subst c4
  rw [ynf] at H
  simp only [Option.some.injEq,Prod.mk.injEq] at H
  obtain ⟨rfl,rfl⟩:=H
  go_enter Try.func47,Try.ntmps47
  go_wp2_with (first|((with_reducible refine gate_callee (f:=88) rfl ?_);refine ygl 9 Try.func88 #[.int .i64 a0, .int .i64 a1] ?_;(with_reducible refine (comb_fair.calls a0 a1 false _ A3.out).mono ?_);rintro e w' ⟨rfl,⟨nd,rfl⟩⟩;refine ⟨_,rfl, ?_⟩))
  go_ret2
  exact ⟨ye,yhb⟩
def comb_width.l0 : Nat→Int→Int→Option (Int)
 | 0,_,_=>none
 | k+1,x0,x3=>if x0 > 0 then (comb_width.l0 k (x0 / 2) (wrap64 (x3+1))) else (some x3)
def comb_width.f (k : Nat) (a0 : Int) : Option (Int):=comb_width.l0 k a0 0
theorem comb_width.mono_l : ∀ k,(∀ y0 y1,LeO (comb_width.l0 k y0 y1) (comb_width.l0 (k+1) y0 y1))
 | 0=>fun _ _ r h=>by simp [comb_width.l0] at h
 | k+1=>by
  have ih0:=comb_width.mono_l k
  ·
   intro y0 y1
   unfold comb_width.l0
   repeat' with_reducible first|apply ih0|apply yLr|apply yLn|apply yLi|apply yLb|intro _
theorem comb_width.mono : ∀ a0 k,LeO (comb_width.f k a0) (comb_width.f (k+1) a0):=by
 intro a0 k
 have ih0:=comb_width.mono_l k
 unfold comb_width.f
 repeat' with_reducible first|apply ih0|apply yLr|apply yLn|apply yLi|apply yLb|intro _
set_option maxHeartbeats 8000000 in
set_option maxRecDepth 100000 in
theorem comb_width.calls (k : Nat) (a0 : Int) (r : Int) (w : World) (h : comb_width.f k a0=some r) :
  Calls Try.prog 124 #[.int .u64 a0] w fun e w' => e=.returned (.int .i64 r)∧Drawn0 w w' := by
 have H : (comb_width.l0 k a0 0)=some r:=h
 clear h
 have H' := zm H
 clear H
 go_enter Try.func124,Try.ntmps124
 go_wp2
 go_loopg [0,3] k (fun kq v0 v3 w' => ∃ (x0_1 : Int) (x3_1 : Int),v0=.int .u64 x0_1∧v3=.int .i64 x3_1∧Aside0 (comb_width.l0 kq x0_1 x3_1=some r)∧Aside0 (kq≤k)∧Drawn0 w w')
 case atStart=>exact ⟨(a0),(0),yq,yq,H',⟨Nat.le_refl _⟩,yd⟩
 case round =>
  clear H'
  obtain ⟨x0_1,x3_1,rfl,rfl,HA,HK1,⟨m1,rfl⟩⟩:=hrel
  obtain ⟨k1,rfl⟩:=ysu gk (fun h=>by subst h;exact absurd HA.out (by simp [comb_width.l0]))
  have H:=HA.out;clear HA
  simp only [comb_width.l0] at H
  by_cases c2 : x0_1 > 0
  ·
   rw [if_pos c2] at H
   have c2b0 : decide (0 < x0_1)=true:=decide_eq_true c2
   clear c2
   have H' := zm H
   clear H
   go_wp2
   go_roundg k1
   case measure=>exact yom1 HK1
   case rel=>exact ⟨(x0_1 / 2),(wrap64 (x3_1+1)),yq,yq,H',⟨yom1 HK1⟩,yd⟩
  ·
   rw [if_neg c2] at H
   have c2b0 : decide (0 < x0_1)=false:=decide_eq_false c2
   clear c2
   obtain rfl:=Option.some.inj H
   go_wp2
   go_ret
   exact ⟨yq,yd⟩
def comb_Cost.f (k : Nat) (a0 : Int) (a1 : Int) : Option (Int × Int):=(comb_Count.f a0 a1).bind fun bt158=>(if bt158.2=0 then (if (IntKind.u64.wrap (bt158.1 - 1)) < 65536 then ((comb_width.f k (IntKind.u64.wrap (bt158.1 - 1))).bind fun t160=>(some (t160,0))) else ((comb_width.f k ((IntKind.u64.wrap (bt158.1 - 1)) / 65536)).bind fun t161=>(some (wrap64 (t161+16),0)))) else (some (0,bt158.2)))
theorem comb_Cost.mono : ∀ a0 a1 k,LeO (comb_Cost.f k a0 a1) (comb_Cost.f (k+1) a0 a1):=by
 intro a0 a1 k
 unfold comb_Cost.f
 repeat' with_reducible first|apply comb_width.mono|apply yLr|apply yLn|apply yLi|apply yLb|intro _
set_option maxHeartbeats 8000000 in
set_option maxRecDepth 100000 in
theorem comb_Cost.calls (k : Nat) (a0 : Int) (a1 : Int) (r1 : Int) (r2 : Int) (w : World) (h : comb_Cost.f k a0 a1=some (r1,r2)) :
  Calls Try.prog 122 #[.int .i64 a0, .int .i64 a1] w fun e w' => e=.returned (.tuple #[.int .i64 r1, .int .i64 r2])∧Below w.heap.size w w' := by
 have HB:=zm (Below.refl w.heap.size w)
 have H : ((comb_Count.f a0 a1).bind fun bt158=>(if bt158.2=0 then (if (IntKind.u64.wrap (bt158.1 - 1)) < 65536 then ((comb_width.f k (IntKind.u64.wrap (bt158.1 - 1))).bind fun t160=>(some (t160,0))) else ((comb_width.f k ((IntKind.u64.wrap (bt158.1 - 1)) / 65536)).bind fun t161=>(some (wrap64 (t161+16),0)))) else (some (0,bt158.2))))=some (r1,r2):=h
 clear h
 replace H:=ybi H;obtain ⟨⟨t158,t159⟩,A3,H⟩:=H
 try dsimp only at H
 by_cases c4 : t159=0
 ·
  rw [if_pos c4] at H
  have c4b0 : (t159 == 0)=true:=beq_iff_eq.mpr c4
  have c4b1 : (t159 != 0)=false:=bne_eq_false_iff_eq.mpr c4
  clear c4
  by_cases c5 : (IntKind.u64.wrap (t158 - 1)) < 65536
  ·
   rw [if_pos c5] at H
   have c5b0 : decide ((IntKind.u64.wrap (t158 - 1)) < 65536)=true:=decide_eq_true c5
   clear c5
   replace H:=ybi H;obtain ⟨t160,A6,H⟩:=H
   simp only [Option.some.injEq,Prod.mk.injEq] at H
   obtain ⟨rfl,rfl⟩:=H
   go_enter Try.func122,Try.ntmps122
   go_wp2_with (first|((with_reducible refine gate_callee (f:=47) rfl ?_);refine ygl 11 Try.func47 #[.int .i64 a0, .int .i64 a1] ?_;(with_reducible refine (comb_Count.calls a0 a1 t158 t159 _ A3.out).mono ?_);rintro e w7 ⟨rfl,hb⟩;refine ⟨_,rfl, ?_⟩;replace HB:=ybs hb;(try clear hb))|((with_reducible refine gate_callee (f:=124) rfl ?_);refine ygl 22 Try.func124 #[.int .u64 (IntKind.u64.wrap (t158 - 1))] ?_;(with_reducible refine (comb_width.calls k (IntKind.u64.wrap (t158 - 1)) t160 _ A6.out).mono ?_);rintro e w' ⟨rfl,⟨nd,rfl⟩⟩;refine ⟨_,rfl, ?_⟩))
   go_ret2
   exact ⟨ye,yhb⟩
  ·
   rw [if_neg c5] at H
   have c5b0 : decide ((IntKind.u64.wrap (t158 - 1)) < 65536)=false:=decide_eq_false c5
   clear c5
   replace H:=ybi H;obtain ⟨t161,A8,H⟩:=H
   simp only [Option.some.injEq,Prod.mk.injEq] at H
   obtain ⟨rfl,rfl⟩:=H
   go_enter Try.func122,Try.ntmps122
   go_wp2_with (first|((with_reducible refine gate_callee (f:=47) rfl ?_);refine ygl 11 Try.func47 #[.int .i64 a0, .int .i64 a1] ?_;(with_reducible refine (comb_Count.calls a0 a1 t158 t159 _ A3.out).mono ?_);rintro e w9 ⟨rfl,hb⟩;refine ⟨_,rfl, ?_⟩;replace HB:=ybs hb;(try clear hb))|((with_reducible refine gate_callee (f:=124) rfl ?_);refine ygl 25 Try.func124 #[.int .u64 ((IntKind.u64.wrap (t158 - 1)) / 65536)] ?_;(with_reducible refine (comb_width.calls k ((IntKind.u64.wrap (t158 - 1)) / 65536) t161 _ A8.out).mono ?_);rintro e w' ⟨rfl,⟨nd,rfl⟩⟩;refine ⟨_,rfl, ?_⟩))
   go_ret2
   exact ⟨ye,yhb⟩
 ·
  rw [if_neg c4] at H
  have c4b0 : (t159 == 0)=false:=beq_eq_false_iff_ne.mpr c4
  have c4b1 : (t159 != 0)=true:=bne_iff_ne.mpr c4
  simp only [Option.some.injEq,Prod.mk.injEq] at H
  obtain ⟨rfl,rfl⟩:=H
  go_enter Try.func122,Try.ntmps122
  go_wp2_with (first|((with_reducible refine gate_callee (f:=47) rfl ?_);refine ygl 11 Try.func47 #[.int .i64 a0, .int .i64 a1] ?_;(with_reducible refine (comb_Count.calls a0 a1 t158 t159 _ A3.out).mono ?_);rintro e w10 ⟨rfl,hb⟩;refine ⟨_,rfl, ?_⟩;replace HB:=ybs hb;(try clear hb)))
  go_ret2
  exact ⟨ye,yhb⟩
def alloc_cost.j0 : Nat→Int→List Int→Int→Bool→Option (Int × Bool)
 | 0,_,_,_,_=>none
 | k+1,x1,x2,x3,x33=>if x33=true then (some (0,false)) else ((band_Width.f x1).bind fun t165=>(if 0≤x1 then (if x1 < (x2.length : Int) then ((comb_Cost.f k t165 (rd x2 x1)).bind fun bt167=>((band_Width.f x1).bind fun t169=>((comb_Cost.f k t169 (wrap64 ((rd x2 x1)+1))).bind fun bt171=>(some (wrap64 (bt171.1 - bt167.1),decide ((wrap64 (bt171.1 - bt167.1))≤x3)))))) else (none)) else (none)))
def alloc_cost.f (k : Nat) (l0 : List Int) (a1 : Int) (l2 : List Int) (a3 : Int) : Option (Int × Bool):=if 0≤a1 then (if a1 < (l0.length : Int) then (if (rd l0 a1)=0 then (alloc_cost.j0 k a1 l2 a3 true) else (if a1 < (l2.length : Int) then ((alloc_most.f a1).bind fun t164=>(alloc_cost.j0 k a1 l2 a3 (decide ((rd l2 a1) ≥ t164)))) else (none))) else (none)) else (none)
theorem alloc_cost.mono_l : ∀ k,(∀ y0 y1 y2 y3,LeO (alloc_cost.j0 k y0 y1 y2 y3) (alloc_cost.j0 (k+1) y0 y1 y2 y3))
 | 0=>fun _ _ _ _ r h=>by simp [alloc_cost.j0] at h
 | k+1=>by
  have ih0:=alloc_cost.mono_l k
  ·
   intro y0 y1 y2 y3
   unfold alloc_cost.j0
   repeat' with_reducible first|apply ih0|apply comb_Cost.mono|apply yLr|apply yLn|apply yLi|apply yLb|intro _
theorem alloc_cost.mono : ∀ a0 a1 a2 a3 k,LeO (alloc_cost.f k a0 a1 a2 a3) (alloc_cost.f (k+1) a0 a1 a2 a3):=by
 intro a0 a1 a2 a3 k
 have ih0:=alloc_cost.mono_l k
 unfold alloc_cost.f
 repeat' with_reducible first|apply ih0|apply comb_Cost.mono|apply yLr|apply yLn|apply yLi|apply yLb|intro _
def alloc_cost.T1 : Bool × List (List Nat × List Nat):=(true, [([], []),([0], [0]),([1], [1]),([2], [2]),([], []),([3,4], [3,4]),([5], [5]),([6], [6]),([7], [7]),([8], [8]),([9,8], [8,9]),([10,8], [8,10]),([11,8], [8,11]),([8], [8]),([12,13,8], [8,12,13]),([14,8], [8,14]),([8], [8]),([16,8], [8,16]),([17,8], [8,17]),([18,8], [8,18]),([8], [8]),([19,20,8,8], [8,19,20]),([15,21,8], [8,15,21]),([8,22], [8,22])])
def alloc_cost.B1 : List Nat := [0,1,3,7,0,31,63,127,255,511,1023,2047,4095,511,16383,32767,511,66047,197119,459263,511,2032127,4194303,8388607]
theorem alloc_cost.tab1 : rtab .any (opsOf Try.f112 1)=alloc_cost.T1:=by kernel_rfl
theorem alloc_cost.bits1 : waitsOk alloc_cost.T1.2 alloc_cost.B1=true:=by kernel_rfl
def alloc_cost.T3 : Bool × List (List Nat × List Nat):=(true, [([], []),([0], [0]),([], []),([2], [2]),([3], [3]),([4], [4]),([], []),([5,6], [5,6]),([7], [7]),([1,8,1], [1,8]),([9], [9]),([10], [10]),([10], [10]),([11,9,0,1,2,3,4,5,6,7,8,9,10,11], [11]),([12,13,0,1,2,3,4,5,6,7,8,9,10,11,12,13], [12])])
def alloc_cost.B3 : List Nat := [0,1,0,4,12,28,0,124,252,511,1023,2047,2047,4095,16383]
theorem alloc_cost.tab3 : rtab .any (opsOf Try.f112 3)=alloc_cost.T3:=by kernel_rfl
theorem alloc_cost.bits3 : waitsOk alloc_cost.T3.2 alloc_cost.B3=true:=by kernel_rfl
def alloc_cost.T4 : Bool × List (List Nat × List Nat):=(true, [([], []),([0], [0]),([], []),([2], [2]),([3], [3]),([4], [4]),([], []),([5,6], [5,6]),([7], [7]),([8], [8]),([1,9,1], [1,9]),([10], [10]),([11], [11]),([11], [11]),([12,10,0,1,2,3,4,5,6,7,8,9,10,11,12], [12]),([13,14,0,1,2,3,4,5,6,7,8,9,10,11,12,13,14], [13])])
def alloc_cost.B4 : List Nat := [0,1,0,4,12,28,0,124,252,508,1023,2047,4095,4095,8191,32767]
theorem alloc_cost.tab4 : rtab .any (opsOf Try.f112 4)=alloc_cost.T4:=by kernel_rfl
theorem alloc_cost.bits4 : waitsOk alloc_cost.T4.2 alloc_cost.B4=true:=by kernel_rfl
def alloc_cost.T5 : Bool × List (List Nat × List Nat):=(true, [([], []),([], []),([0,1], [0,1]),([], []),([], []),([3,4], [3,4]),([], []),([6], [6]),([7], [7]),([8], [8]),([5,9], [5,9]),([2,0,1,2], [2]),([10,11,0,1,2,3,4,5,6,7,8,9,10,11], [10])])
def alloc_cost.B5 : List Nat := [0,0,3,0,0,24,0,64,192,448,1016,7,4095]
theorem alloc_cost.tab5 : rtab .any (opsOf Try.f112 5)=alloc_cost.T5:=by kernel_rfl
theorem alloc_cost.bits5 : waitsOk alloc_cost.T5.2 alloc_cost.B5=true:=by kernel_rfl
set_option maxHeartbeats 8000000 in
set_option maxRecDepth 100000 in
theorem alloc_cost.calls (k : Nat) (B : Nat) (A0 : Option Addr) (c0 : Nat) (l0 : List Int) (a1 : Int) (A2 : Option Addr) (c2 : Nat) (l2 : List Int) (a3 : Int) (r1 : Int) (r2 : Bool) (w : World) (hr0 : Kd.C (Kd.int .i64) w A0 l0.length l0) (hc0 : l0.length≤c0) (hr2 : Kd.C (Kd.int .i64) w A2 l2.length l2) (hc2 : l2.length≤c2) (hs : w.heap[B]? = some (.cells #[.slice A0 l0.length c0, .slice A2 l2.length c2, .int .i64 a3, .func (.func 74) #[] #[]] 113 (0,0))) (h : alloc_cost.f k l0 a1 l2 a3=some (r1,r2)) :
  Calls Try.prog 112 #[.pointer (some ⟨B,0,none⟩), .int .i64 a1] w fun e w' => e=.returned (.tuple #[.int .i64 r1, .bool r2])∧Below w.heap.size w w' := by
 have HR0:=zm hr0;have HC0:=zm hc0;clear hr0 hc0;have HR2:=zm hr2;have HC2:=zm hc2;clear hr2 hc2
 have hSt : ∀ W,Below w.heap.size w W→(W.cell? ⟨B,0,none⟩=some (.slice A0 l0.length c0)∧W.cell? ⟨B,1,none⟩=some (.slice A2 l2.length c2)∧W.cell? ⟨B,2,none⟩=some (.int .i64 a3)∧W.cell? ⟨B,3,none⟩=some (.func (.func 74) #[] #[])):=fun W hb=>by
  have h9:=zF hs hb
  exact ⟨(zs h9 0).trans rfl,(zs h9 1).trans rfl,(zs h9 2).trans rfl,(zs h9 3).trans rfl⟩
 have HST:=zm hSt;clear hSt hs;have HB:=zm (Below.refl w.heap.size w)
 have H : (if 0≤a1 then (if a1 < (l0.length : Int) then (if (rd l0 a1)=0 then (alloc_cost.j0 k a1 l2 a3 true) else (if a1 < (l2.length : Int) then ((alloc_most.f a1).bind fun t164=>(alloc_cost.j0 k a1 l2 a3 (decide ((rd l2 a1) ≥ t164)))) else (none))) else (none)) else (none))=some (r1,r2):=h
 clear h;have HC5:=zm H;clear H
 go_enter Try.func112,Try.ntmps112
 go_upto_region 1 with (fail)
 go_cut [33] (fun v33 wc => ∃ (kq : Nat) (x33_4 : Bool),v33=.bool x33_4∧Aside0 (alloc_cost.j0 kq a1 l2 a3 x33_4=some (r1,r2))∧Aside0 (kq≤k)∧Aside0 (Below w.heap.size w wc))
 case first =>
  have H:=HC5.out;clear HC5
  replace H:=yif H;obtain ⟨c6,H⟩:=H
  have c6b0 : decide (0≤a1)=true:=decide_eq_true c6
  clear c6
  (first|rw [c6b0]|(simp only [i64_w,i32_w];rw [c6b0])|skip)
  replace H:=yif H;obtain ⟨c7,H⟩:=H
  have c7b0 : decide (a1 < (l0.length : Int))=true:=decide_eq_true c7
  clear c7
  by_cases c8 : (rd l0 a1)=0
  ·
   rw [if_pos c8] at H
   have c8b0 : ((rd l0 a1) == 0)=true:=beq_iff_eq.mpr c8
   have c8b1 : ((rd l0 a1) != 0)=false:=bne_eq_false_iff_eq.mpr c8
   clear c8
   have H' := zm H
   clear H
   try go_wp2
   replace HB:=zm (zf HB.out)
   have p162 : 0≤(a1 : Int):=yt
   have q162 : a1 < (l0.length : Int):=yt
   obtain ⟨ad162,e162,hx162_0⟩:=Kd.at_int HR0.out a1 p162 q162
   have hw162_0:=hx162_0
   cases e162
   replace hx162_0:=yhx HB hx162_0
   replace p162:=eq_true p162
   replace q162:=eq_true q162
   refine yst (fun w' => (w'.cell? ⟨B,0,none⟩=some (.slice (some ad162) l0.length c0)∧w'.cell? ⟨B,1,none⟩=some (.slice A2 l2.length c2)∧w'.cell? ⟨B,2,none⟩=some (.int .i64 a3)∧w'.cell? ⟨B,3,none⟩=some (.func (.func 74) #[] #[]))∧(w'.cell? (ad162.add (a1).toNat)=some (.int .i64 (rd l0 a1)))) [] 24 alloc_cost.tab1 alloc_cost.bits1 (fun hHeld HT_ HW_ => ?_) (hS:=⟨HST.out _ HB.out,((yhx HB hw162_0 :))⟩)
   generalize w.drew=w9 at HB hx162_0 hHeld ⊢
   refine yp 0 10 HT_ ?_
   refine yp 1 11 HT_ ?_
   refine yp 2 12 HT_ ?_
   refine yl 3 13 HT_ HW_ hHeld ?_
   refine yp 4 14 HT_ ?_
   refine yp 5 15 HT_ ?_
   refine yl 6 16 HT_ HW_ hHeld ?_
   refine yp 7 17 HT_ ?_
   refine yp 8 18 HT_ ?_
   refine yu 9 19 HT_ ?_
   refine yu 10 20 HT_ ?_
   refine yu 11 21 HT_ ?_
   refine yu 12 22 HT_ ?_
   refine yu 13 23 HT_ ?_
   refine yu 14 24 HT_ ?_
   refine yu 15 25 HT_ ?_
   refine yu 16 26 HT_ ?_
   refine yu 17 27 HT_ ?_
   refine yu 18 28 HT_ ?_
   refine yu 19 29 HT_ ?_
   refine yu 20 30 HT_ ?_
   refine yu 21 31 HT_ ?_
   refine yu 22 32 HT_ ?_
   refine yp 23 33 HT_ ?_
   refine done_ (done_of HT_.out (by kernel_rfl)) ?_
   try go_wp2
   go_meet
   case rel=>exact ⟨_,(true),yq,H',⟨yo⟩,⟨yhb⟩⟩
  ·
   rw [if_neg c8] at H
   have c8b0 : ((rd l0 a1) == 0)=false:=beq_eq_false_iff_ne.mpr c8
   have c8b1 : ((rd l0 a1) != 0)=true:=bne_iff_ne.mpr c8
   replace H:=yif H;obtain ⟨c10,H⟩:=H
   have c10b0 : decide (a1 < (l2.length : Int))=true:=decide_eq_true c10
   clear c10
   replace H:=ybi H;obtain ⟨t164,A11,H⟩:=H
   have H' := zm H
   clear H
   try go_wp2
   replace HB:=zm (zf HB.out)
   have p162 : 0≤(a1 : Int):=yt
   have q162 : a1 < (l0.length : Int):=yt
   obtain ⟨ad162,e162,hx162_0⟩:=Kd.at_int HR0.out a1 p162 q162
   have hw162_0:=hx162_0
   cases e162
   replace hx162_0:=yhx HB hx162_0
   replace p162:=eq_true p162
   replace q162:=eq_true q162
   have p163 : 0≤(a1 : Int):=yt
   have q163 : a1 < (l2.length : Int):=yt
   obtain ⟨ad163,e163,hx163_0⟩:=Kd.at_int HR2.out a1 p163 q163
   have hw163_0:=hx163_0
   cases e163
   replace hx163_0:=yhx HB hx163_0
   replace p163:=eq_true p163
   replace q163:=eq_true q163
   refine yst (fun w' => (w'.cell? ⟨B,0,none⟩=some (.slice (some ad162) l0.length c0)∧w'.cell? ⟨B,1,none⟩=some (.slice (some ad163) l2.length c2)∧w'.cell? ⟨B,2,none⟩=some (.int .i64 a3)∧w'.cell? ⟨B,3,none⟩=some (.func (.func 74) #[] #[]))∧(w'.cell? (ad162.add (a1).toNat)=some (.int .i64 (rd l0 a1))∧w'.cell? (ad163.add (a1).toNat)=some (.int .i64 (rd l2 a1)))) [] 24 alloc_cost.tab1 alloc_cost.bits1 (fun hHeld HT_ HW_ => ?_) (hS:=⟨HST.out _ HB.out,⟨(yhx HB hw162_0 :),(yhx HB hw163_0 :)⟩⟩)
   generalize w.drew=w12 at HB hx162_0 hx163_0 hHeld ⊢
   refine yp 0 10 HT_ ?_
   refine yp 1 11 HT_ ?_
   refine yp 2 12 HT_ ?_
   refine yl 3 13 HT_ HW_ hHeld ?_
   refine yp 4 14 HT_ ?_
   refine yp 5 15 HT_ ?_
   refine yl 6 16 HT_ HW_ hHeld ?_
   refine yp 7 17 HT_ ?_
   refine yp 8 18 HT_ ?_
   refine yp 9 19 HT_ ?_
   refine yp 10 20 HT_ ?_
   refine yp 11 21 HT_ ?_
   refine yl 12 22 HT_ HW_ hHeld ?_
   refine yp 13 23 HT_ ?_
   refine yp 14 24 HT_ ?_
   refine yp 16 26 HT_ ?_
   refine yp 17 27 HT_ ?_
   refine yp 18 28 HT_ ?_
   refine yl 19 29 HT_ HW_ hHeld ?_
   refine yp 20 30 HT_ ?_
   refine yl 15 25 HT_ HW_ hHeld ?_
   refine yw 21 31 HT_ (fun K hK => ?_)
   refine call_ 74 #[.int .i64 a1] (by rfl) rfl ?hrun ?_
   (case hrun =>
    have he:=fun W=>enters_ Try.func74 (by kernel_rfl) rfl #[.int .i64 a1] W
    unfold execOp
    simp [resolve,Deferred.ofValue,invoke,Act.eval,he])
   with_reducible refine (alloc_most.calls a1 t164 _ A11.out).mono ?_
   rintro e w13 ⟨rfl,hb⟩
   refine ⟨_,rfl, ?_⟩
   replace HB:=ybs hb
   (try clear hb)
   refine hK.out _ _ ⟨HST.out _ HB.out,⟨(yhx HB hw162_0 :),(yhx HB hw163_0 :)⟩⟩ (fun hHeld => ?_)
   clear hK K
   refine ym (some 31) ?_
   refine yp 22 32 HT_ ?_
   refine yp 23 33 HT_ ?_
   refine done_ (done_of HT_.out (by kernel_rfl)) ?_
   try go_wp2
   go_meet
   case rel=>exact ⟨_,(decide ((rd l2 a1) ≥ t164)),yq,H',⟨yo⟩,⟨yhb⟩⟩
 case rest =>
  clear HC5
  try clear c2
  obtain ⟨kq,x33_4,rfl,HA,HJ4,HB⟩:=hcut
  obtain ⟨kj4,rfl⟩:=ysu kq (fun h=>by subst h;exact absurd HA.out (by simp [alloc_cost.j0]))
  have H:=HA.out;clear HA
  simp only [alloc_cost.j0] at H
  by_cases c14 : x33_4=true
  ·
   subst c14
   rw [if_pos rfl] at H
   simp only [Option.some.injEq,Prod.mk.injEq] at H
   obtain ⟨rfl,rfl⟩:=H
   go_wp2
   go_ret2
   exact ⟨ye,yhb⟩
  ·
   replace c14:=Bool.eq_false_iff.mpr c14
   subst c14
   rw [ynf] at H
   replace H:=ybi H;obtain ⟨t165,A15,H⟩:=H
   replace H:=yif H;obtain ⟨c16,H⟩:=H
   have c16b0 : decide (0≤a1)=true:=decide_eq_true c16
   clear c16
   replace H:=yif H;obtain ⟨c17,H⟩:=H
   have c17b0 : decide (a1 < (l2.length : Int))=true:=decide_eq_true c17
   clear c17
   replace H:=ybi H;obtain ⟨⟨t167,t168⟩,A18,H⟩:=H
   try dsimp only at H
   replace H:=ybi H;obtain ⟨t169,A19,H⟩:=H
   replace H:=ybi H;obtain ⟨⟨t171,t172⟩,A20,H⟩:=H
   try dsimp only at H
   simp only [Option.some.injEq,Prod.mk.injEq] at H
   obtain ⟨rfl,rfl⟩:=H
   try go_wp2
   replace HB:=zm (zf HB.out)
   have p166 : 0≤(a1 : Int):=yt
   have q166 : a1 < (l2.length : Int):=yt
   obtain ⟨ad166,e166,hx166_0⟩:=Kd.at_int HR2.out a1 p166 q166
   have hw166_0:=hx166_0
   cases e166
   replace hx166_0:=yhx HB hx166_0
   replace p166:=eq_true p166
   replace q166:=eq_true q166
   refine yst (fun w' => (w'.cell? ⟨B,0,none⟩=some (.slice A0 l0.length c0)∧w'.cell? ⟨B,1,none⟩=some (.slice (some ad166) l2.length c2)∧w'.cell? ⟨B,2,none⟩=some (.int .i64 a3)∧w'.cell? ⟨B,3,none⟩=some (.func (.func 74) #[] #[]))∧(w'.cell? (ad166.add (a1).toNat)=some (.int .i64 (rd l2 a1)))) [] 15 alloc_cost.tab3 alloc_cost.bits3 (fun hHeld HT_ HW_ => ?_) (hS:=⟨HST.out _ HB.out,((yhx HB hw166_0 :))⟩)
   generalize wc.drew=w21 at HB hx166_0 hHeld ⊢
   refine yp 0 35 HT_ ?_
   refine yp 2 37 HT_ ?_
   refine yp 3 38 HT_ ?_
   refine yp 4 39 HT_ ?_
   refine yl 5 40 HT_ HW_ hHeld ?_
   refine yp 6 41 HT_ ?_
   refine yp 7 42 HT_ ?_
   refine yl 8 43 HT_ HW_ hHeld ?_
   refine yw 1 36 HT_ (fun K hK => ?_)
   refine ygs Try.func48 #[.int .i64 a1] ?_
   with_reducible refine (band_Width.calls a1 t165 _ A15.out).mono ?_
   rintro e w22 ⟨rfl,hb⟩
   refine ⟨_,rfl, ?_⟩
   replace HB:=ybs hb
   (try clear hb)
   refine hK.out _ _ ⟨HST.out _ HB.out,((yhx HB hw166_0 :))⟩ (fun hHeld => ?_)
   clear hK K
   refine ym (some 36) ?_
   refine yw 9 44 HT_ (fun K hK => ?_)
   refine ygs Try.func122 #[.int .i64 t165, .int .i64 (rd l2 a1)] ?_
   with_reducible refine (comb_Cost.calls kj4 t165 (rd l2 a1) t167 t168 _ A18.out).mono ?_
   rintro e w23 ⟨rfl,hb⟩
   refine ⟨_,rfl, ?_⟩
   replace HB:=ybs hb
   (try clear hb)
   refine hK.out _ _ ⟨HST.out _ HB.out,((yhx HB hw166_0 :))⟩ (fun hHeld => ?_)
   clear hK K
   refine ym (some 44) ?_
   refine yp 10 34 HT_ ?_
   refine yp 11 45 HT_ ?_
   refine yp 12 46 HT_ ?_
   refine yp 13 6 HT_ ?_
   refine yp 14 7 HT_ ?_
   refine done_ (done_of HT_.out (by kernel_rfl)) ?_
   try go_wp2
   replace HB:=zm (zf HB.out)
   have p170 : 0≤(a1 : Int):=yt
   have q170 : a1 < (l2.length : Int):=yt
   obtain ⟨ad170,e170,hx170_0⟩:=Kd.at_int HR2.out a1 p170 q170
   have hw170_0:=hx170_0
   obtain rfl : ad166=ad170:=(by injection e170)
   replace hx170_0:=yhx HB hx170_0
   replace p170:=eq_true p170
   replace q170:=eq_true q170
   refine yst (fun w' => (w'.cell? ⟨B,0,none⟩=some (.slice A0 l0.length c0)∧w'.cell? ⟨B,1,none⟩=some (.slice (some ad166) l2.length c2)∧w'.cell? ⟨B,2,none⟩=some (.int .i64 a3)∧w'.cell? ⟨B,3,none⟩=some (.func (.func 74) #[] #[]))∧(w'.cell? (ad166.add (a1).toNat)=some (.int .i64 (rd l2 a1)))) [] 16 alloc_cost.tab4 alloc_cost.bits4 (fun hHeld HT_ HW_ => ?_) (hS:=⟨HST.out _ HB.out,((yhx HB hw170_0 :))⟩)
   generalize w23.drew=w24 at HB hx170_0 hHeld ⊢
   refine yp 0 48 HT_ ?_
   refine yp 2 50 HT_ ?_
   refine yp 3 51 HT_ ?_
   refine yp 4 52 HT_ ?_
   refine yl 5 53 HT_ HW_ hHeld ?_
   refine yp 6 54 HT_ ?_
   refine yp 7 55 HT_ ?_
   refine yl 8 56 HT_ HW_ hHeld ?_
   refine yp 9 57 HT_ ?_
   refine yw 1 49 HT_ (fun K hK => ?_)
   refine ygs Try.func48 #[.int .i64 a1] ?_
   with_reducible refine (band_Width.calls a1 t169 _ A19.out).mono ?_
   rintro e w25 ⟨rfl,hb⟩
   refine ⟨_,rfl, ?_⟩
   replace HB:=ybs hb
   (try clear hb)
   refine hK.out _ _ ⟨HST.out _ HB.out,((yhx HB hw170_0 :))⟩ (fun hHeld => ?_)
   clear hK K
   refine ym (some 49) ?_
   refine yw 10 58 HT_ (fun K hK => ?_)
   refine ygs Try.func122 #[.int .i64 t169, .int .i64 (wrap64 ((rd l2 a1)+1))] ?_
   with_reducible refine (comb_Cost.calls kj4 t169 (wrap64 ((rd l2 a1)+1)) t171 t172 _ A20.out).mono ?_
   rintro e w26 ⟨rfl,hb⟩
   refine ⟨_,rfl, ?_⟩
   replace HB:=ybs hb
   (try clear hb)
   refine hK.out _ _ ⟨HST.out _ HB.out,((yhx HB hw170_0 :))⟩ (fun hHeld => ?_)
   clear hK K
   refine ym (some 58) ?_
   refine yp 11 47 HT_ ?_
   refine yp 12 59 HT_ ?_
   refine yp 13 60 HT_ ?_
   refine yp 14 8 HT_ ?_
   refine yp 15 9 HT_ ?_
   refine done_ (done_of HT_.out (by kernel_rfl)) ?_
   try go_wp2
   replace HB:=zm (zf HB.out)
   refine yst (fun w' => (w'.cell? ⟨B,0,none⟩=some (.slice A0 l0.length c0)∧w'.cell? ⟨B,1,none⟩=some (.slice (some ad166) l2.length c2)∧w'.cell? ⟨B,2,none⟩=some (.int .i64 a3)∧w'.cell? ⟨B,3,none⟩=some (.func (.func 74) #[] #[]))∧(True)) [] 13 alloc_cost.tab5 alloc_cost.bits5 (fun hHeld HT_ HW_ => ?_) (hS:=⟨HST.out _ HB.out,trivial⟩)
   generalize w26.drew=w27 at HB hHeld ⊢
   refine yp 0 61 HT_ ?_
   refine yp 1 62 HT_ ?_
   refine yp 2 63 HT_ ?_
   refine yp 3 64 HT_ ?_
   refine yp 4 65 HT_ ?_
   refine yp 5 66 HT_ ?_
   refine yp 6 67 HT_ ?_
   refine yp 7 68 HT_ ?_
   refine yp 8 69 HT_ ?_
   refine yl 9 70 HT_ HW_ hHeld ?_
   refine yp 10 71 HT_ ?_
   refine yp 11 4 HT_ ?_
   refine yp 12 5 HT_ ?_
   refine done_ (done_of HT_.out (by kernel_rfl)) ?_
   try go_wp2
   go_ret2
   exact ⟨ye,yhb⟩
def alloc_worth.f (l0 : List Int) (a1 : Int) (l2 : List Int) (a3 : Int) : Option (Int):=if 0≤a1 then (if a1 < (l0.length : Int) then (if a1 < (l2.length : Int) then ((band_Width.f a1).bind fun t175=>(if t175=0 then (none) else (some (wrap64 ((wrap64 (8 * (rd l0 a1))) - (wrap64 (Int.tdiv (wrap64 (16 * (rd l2 a1))) t175))))))) else (none)) else (none)) else (none)
def alloc_worth.T1 : Bool × List (List Nat × List Nat):=(true, [([], []),([0], [0]),([1], [1]),([2], [2]),([], []),([3,4], [3,4]),([5], [5]),([6], [6]),([], []),([8], [8]),([9], [9]),([10], [10]),([], []),([11,12], [11,12]),([13], [13]),([14], [14]),([], []),([16], [16]),([15,17], [15,17]),([7,18], [7,18]),([19,17,0,1,2,3,4,5,6,7,8,9,10,11,12,13,14,15,16,17,18,19], [19])])
def alloc_worth.B1 : List Nat := [0,1,3,7,0,31,63,127,0,256,768,1792,0,7936,16128,32512,0,65536,261888,524287,1048575]
theorem alloc_worth.tab1 : rtab .any (opsOf Try.f113 1)=alloc_worth.T1:=by kernel_rfl
theorem alloc_worth.bits1 : waitsOk alloc_worth.T1.2 alloc_worth.B1=true:=by kernel_rfl
set_option maxHeartbeats 8000000 in
set_option maxRecDepth 100000 in
theorem alloc_worth.calls (B : Nat) (A0 : Option Addr) (c0 : Nat) (l0 : List Int) (a1 : Int) (A2 : Option Addr) (c2 : Nat) (l2 : List Int) (a3 : Int) (r : Int) (w : World) (hr0 : Kd.C (Kd.int .i64) w A0 l0.length l0) (hc0 : l0.length≤c0) (hr2 : Kd.C (Kd.int .i64) w A2 l2.length l2) (hc2 : l2.length≤c2) (hs : w.heap[B]? = some (.cells #[.slice A0 l0.length c0, .slice A2 l2.length c2, .int .i64 a3, .func (.func 74) #[] #[]] 113 (0,0))) (h : alloc_worth.f l0 a1 l2 a3=some r) :
  Calls Try.prog 113 #[.pointer (some ⟨B,0,none⟩), .int .i64 a1] w fun e w' => e=.returned (.int .i64 r)∧Below w.heap.size w w' := by
 have HR0:=zm hr0;have HC0:=zm hc0;clear hr0 hc0;have HR2:=zm hr2;have HC2:=zm hc2;clear hr2 hc2
 have hSt : ∀ W,Below w.heap.size w W→(W.cell? ⟨B,0,none⟩=some (.slice A0 l0.length c0)∧W.cell? ⟨B,1,none⟩=some (.slice A2 l2.length c2)∧W.cell? ⟨B,2,none⟩=some (.int .i64 a3)∧W.cell? ⟨B,3,none⟩=some (.func (.func 74) #[] #[])):=fun W hb=>by
  have h9:=zF hs hb
  exact ⟨(zs h9 0).trans rfl,(zs h9 1).trans rfl,(zs h9 2).trans rfl,(zs h9 3).trans rfl⟩
 have HST:=zm hSt;clear hSt hs;have HB:=zm (Below.refl w.heap.size w)
 have H : (if 0≤a1 then (if a1 < (l0.length : Int) then (if a1 < (l2.length : Int) then ((band_Width.f a1).bind fun t175=>(if t175=0 then (none) else (some (wrap64 ((wrap64 (8 * (rd l0 a1))) - (wrap64 (Int.tdiv (wrap64 (16 * (rd l2 a1))) t175))))))) else (none)) else (none)) else (none))=some r:=h
 clear h
 replace H:=yif H;obtain ⟨c5,H⟩:=H
 have c5b0 : decide (0≤a1)=true:=decide_eq_true c5
 clear c5
 replace H:=yif H;obtain ⟨c6,H⟩:=H
 have c6b0 : decide (a1 < (l0.length : Int))=true:=decide_eq_true c6
 clear c6
 replace H:=yif H;obtain ⟨c7,H⟩:=H
 have c7b0 : decide (a1 < (l2.length : Int))=true:=decide_eq_true c7
 clear c7
 replace H:=ybi H;obtain ⟨t175,A8,H⟩:=H
 replace H:=yie H;obtain ⟨c9,H⟩:=H
 have c9b0 : (t175 == 0)=false:=beq_eq_false_iff_ne.mpr c9
 have c9b1 : (t175 != 0)=true:=bne_iff_ne.mpr c9
 obtain rfl:=Option.some.inj H
 go_enter Try.func113,Try.ntmps113
 try go_wp2
 replace HB:=zm (zf HB.out)
 have p173 : 0≤(a1 : Int):=yt
 have q173 : a1 < (l0.length : Int):=yt
 obtain ⟨ad173,e173,hx173_0⟩:=Kd.at_int HR0.out a1 p173 q173
 have hw173_0:=hx173_0
 cases e173
 replace hx173_0:=yhx HB hx173_0
 replace p173:=eq_true p173
 replace q173:=eq_true q173
 have p174 : 0≤(a1 : Int):=yt
 have q174 : a1 < (l2.length : Int):=yt
 obtain ⟨ad174,e174,hx174_0⟩:=Kd.at_int HR2.out a1 p174 q174
 have hw174_0:=hx174_0
 cases e174
 replace hx174_0:=yhx HB hx174_0
 replace p174:=eq_true p174
 replace q174:=eq_true q174
 refine yst (fun w' => (w'.cell? ⟨B,0,none⟩=some (.slice (some ad173) l0.length c0)∧w'.cell? ⟨B,1,none⟩=some (.slice (some ad174) l2.length c2)∧w'.cell? ⟨B,2,none⟩=some (.int .i64 a3)∧w'.cell? ⟨B,3,none⟩=some (.func (.func 74) #[] #[]))∧(w'.cell? (ad173.add (a1).toNat)=some (.int .i64 (rd l0 a1))∧w'.cell? (ad174.add (a1).toNat)=some (.int .i64 (rd l2 a1)))) [] 21 alloc_worth.tab1 alloc_worth.bits1 (fun hHeld HT_ HW_ => ?_) (hS:=⟨HST.out _ HB.out,⟨(yhx HB hw173_0 :),(yhx HB hw174_0 :)⟩⟩)
 generalize w.drew=w10 at HB hx173_0 hx174_0 hHeld ⊢
 refine yp 0 5 HT_ ?_
 refine yp 1 6 HT_ ?_
 refine yp 2 7 HT_ ?_
 refine yl 3 8 HT_ HW_ hHeld ?_
 refine yp 4 9 HT_ ?_
 refine yp 5 10 HT_ ?_
 refine yp 8 13 HT_ ?_
 refine yp 9 14 HT_ ?_
 refine yp 10 15 HT_ ?_
 refine yl 11 16 HT_ HW_ hHeld ?_
 refine yp 12 17 HT_ ?_
 refine yp 13 18 HT_ ?_
 refine yp 16 21 HT_ ?_
 refine yl 6 11 HT_ HW_ hHeld ?_
 refine yp 7 12 HT_ ?_
 refine yl 14 19 HT_ HW_ hHeld ?_
 refine yp 15 20 HT_ ?_
 refine yw 17 22 HT_ (fun K hK => ?_)
 refine ygs Try.func48 #[.int .i64 a1] ?_
 with_reducible refine (band_Width.calls a1 t175 _ A8.out).mono ?_
 rintro e w11 ⟨rfl,hb⟩
 refine ⟨_,rfl, ?_⟩
 replace HB:=ybs hb
 (try clear hb)
 refine hK.out _ _ ⟨HST.out _ HB.out,⟨(yhx HB hw173_0 :),(yhx HB hw174_0 :)⟩⟩ (fun hHeld => ?_)
 clear hK K
 refine ym (some 22) ?_
 refine yp 18 23 HT_ ?_
 refine yp 19 24 HT_ ?_
 refine yp 20 4 HT_ ?_
 refine done_ (done_of HT_.out (by kernel_rfl)) ?_
 try go_wp2
 go_ret
 exact ⟨ye,yhb⟩
def alloc_give.l0 : Nat→List Int→List Int→Int→Int→Int→Option (Int × Bool × List Int)
 | 0,_,_,_,_,_=>none
 | k+1,x0,x1,x2,x3,x9=>if x9 < 5 then ((alloc_cost.f k x0 x9 x1 x2).bind fun bt180=>(if bt180.2=true then (if x3 < 0 then (alloc_give.l0 k x0 x1 x2 x9 (wrap64 (x9+1))) else ((alloc_worth.f x0 x9 x1 x2).bind fun t182=>((alloc_worth.f x0 x3 x1 x2).bind fun t183=>(if t182 > t183 then (alloc_give.l0 k x0 x1 x2 x9 (wrap64 (x9+1))) else (alloc_give.l0 k x0 x1 x2 x3 (wrap64 (x9+1))))))) else (alloc_give.l0 k x0 x1 x2 x3 (wrap64 (x9+1))))) else (if x3 < 0 then (some (x2,false,x1)) else ((alloc_cost.f k x0 x3 x1 x2).bind fun bt176=>(if 0≤x3 then (if x3 < (x1.length : Int) then (some (wrap64 (x2 - bt176.1),true,(x1.set (x3 : Int).toNat (wrap64 ((rd x1 x3)+1))))) else (none)) else (none))))
def alloc_give.f (k : Nat) (l0 : List Int) (l1 : List Int) (a2 : Int) : Option (Int × Bool × List Int):=alloc_give.l0 k l0 l1 a2 (-1) 0
theorem alloc_give.mono_l : ∀ k,(∀ y0 y1 y2 y3 y4,LeO (alloc_give.l0 k y0 y1 y2 y3 y4) (alloc_give.l0 (k+1) y0 y1 y2 y3 y4))
 | 0=>fun _ _ _ _ _ r h=>by simp [alloc_give.l0] at h
 | k+1=>by
  have ih0:=alloc_give.mono_l k
  ·
   intro y0 y1 y2 y3 y4
   unfold alloc_give.l0
   repeat' with_reducible first|apply ih0|apply alloc_cost.mono|apply yLr|apply yLn|apply yLi|apply yLb|intro _
theorem alloc_give.mono : ∀ a0 a1 a2 k,LeO (alloc_give.f k a0 a1 a2) (alloc_give.f (k+1) a0 a1 a2):=by
 intro a0 a1 a2 k
 have ih0:=alloc_give.mono_l k
 unfold alloc_give.f
 repeat' with_reducible first|apply ih0|apply alloc_cost.mono|apply yLr|apply yLn|apply yLi|apply yLb|intro _
set_option maxHeartbeats 8000000 in
set_option maxRecDepth 100000 in
theorem alloc_give.calls (k : Nat) (B : Nat) (A0 : Option Addr) (c0 : Nat) (l0 : List Int) (P1_ : Nat→Prop) (u9000_ : Value) (l1 : List Int) (a2 : Int) (r1 : Int) (r2 : Bool) (r3 : List Int) (w0 w : World) (hB : Below w0.heap.size w0 w) (hr0 : ∀ W_,Kept w W_ (fun k_=>P1_ k_)→Kd.C (Kd.int .i64) W_ A0 l0.length l0) (hc0 : l0.length≤c0) (ho1 : Kd.R (Kd.int .i64) 3 w w0.heap.size P1_ u9000_ l1) (hPB : ¬ P1_ B) (hB0 : w0.heap.size≤B) (hs : w.heap[B]? = some (.cells #[.slice A0 l0.length c0,u9000_, .int .i64 a2, .func (.func 74) #[] #[]] 113 (0,0))) (h : alloc_give.f k l0 l1 a2=some (r1,r2,r3)) :
  Calls Try.prog 75 #[.pointer (some ⟨B,0,none⟩)] w fun e w' => e=.returned (.bool r2)∧Kd.R (Kd.int .i64) 3 w' w0.heap.size (fun k_=>(P1_ k_∨w.heap.size≤k_)) u9000_ r3∧Below w0.heap.size w0 w'∧Kept w w' (fun k_=>P1_ k_∨k_=B)∧w'.heap[B]? = some (.cells #[.slice A0 l0.length c0,u9000_, .int .i64 r1, .func (.func 74) #[] #[]] 113 (0,0)):=by
 have HR0:=zm hr0;have HC0:=zm hc0;have HPB:=zm hPB;have HB0:=zm hB0;have HBL:=zm (zD hs);have HS:=zm hs
 have HNE : Aside0 (∀ k_,(P1_ k_∨w.heap.size≤k_)→k_≠B):=⟨fun k_ hk e_=>by
  subst e_
  exact hk.elim hPB (fun h_=>Nat.lt_irrefl _ (zl (zD hs) h_))⟩
 clear hr0 hc0 hPB hB0 hs
 have HO1:=zm (show Kd.R (Kd.int .i64) 3 w w0.heap.size (fun k_=>(P1_ k_∨w.heap.size≤k_)) u9000_ l1 from zG ho1 (fun k_ hk=>(.inl hk)))
 have HK:=zm (Kept.refl w (fun k_=>P1_ k_))
 have HW0:=zm hB.size;have HB:=zm hB;clear hB
 have H : (alloc_give.l0 k l0 l1 a2 (-1) 0)=some (r1,r2,r3):=h
 clear h
 have H' := zm H
 clear H
 go_enter Try.func75,Try.ntmps75
 go_wp2
 go_loopg [3,9] k (fun kq v3 v9 w' => ∃ (x3_1 : Int) (x9_1 : Int),v3=.int .i64 x3_1∧v9=.int .i64 x9_1∧Aside0 (alloc_give.l0 kq l0 l1 a2 x3_1 x9_1=some (r1,r2,r3))∧Aside0 (kq≤k)∧Aside0 (Kd.R (Kd.int .i64) 3 w' w0.heap.size (fun k_=>(P1_ k_∨w.heap.size≤k_)) u9000_ l1)∧Aside0 (Kept w w' (fun k_=>P1_ k_))∧Aside0 (Below w0.heap.size w0 w')∧Aside0 (w'.heap[B]? = some (.cells #[.slice A0 l0.length c0,u9000_, .int .i64 a2, .func (.func 74) #[] #[]] 113 (0,0))))
 case atStart=>exact ⟨((-1)),(0),yq,yq,H',⟨Nat.le_refl _⟩,⟨yr HO1⟩,⟨by repeat (first|(with_reducible first|exact HK.out|apply Kept.alloc|apply Kept.drewN|apply Kept.drew)|exact HK.out)⟩,⟨yhb⟩,⟨(yk HS)⟩⟩
 case round =>
  clear H'
  obtain ⟨x3_1,x9_1,rfl,rfl,HA,HK1,HO_1,HK,HB,HS⟩:=hrel
  obtain ⟨k1,rfl⟩:=ysu gk (fun h=>by subst h;exact absurd HA.out (by simp [alloc_give.l0]))
  have H:=HA.out;clear HA
  simp only [alloc_give.l0] at H
  by_cases c4 : x9_1 < 5
  ·
   rw [if_pos c4] at H
   have c4b0 : decide (x9_1 < 5)=true:=decide_eq_true c4
   clear c4
   replace H:=ybi H;obtain ⟨⟨t180,t181⟩,A5,H⟩:=H
   try dsimp only at H
   by_cases c6 : t181=true
   ·
    subst c6
    rw [if_pos rfl] at H
    by_cases c7 : x3_1 < 0
    ·
     rw [if_pos c7] at H
     have c7b0 : decide (x3_1 < 0)=true:=decide_eq_true c7
     clear c7
     have H' := zm H
     clear H
     obtain ⟨Ao8,co8,eo8⟩:=Kd.R_slice HO_1.out
     subst eo8
     go_wp2_with (first|((with_reducible refine gate_callee (f:=112) rfl ?_);refine ygl 15 Try.func112 #[.pointer (some ⟨B,0,none⟩), .int .i64 x9_1] ?_;(with_reducible refine (alloc_cost.calls k1 B A0 c0 l0 x9_1 Ao8 co8 l1 a2 t180 true _ ?side1 HC0.out ?side3 ?side4 ?side5 A5.out).mono ?_);(case side1=>exact Kd.C_kept_now HR0.out (by repeat (first|(with_reducible first|exact HK.out|apply Kept.alloc|apply Kept.drewN|apply Kept.drew)|exact HK.out)));(case side3=>exact yce (Kd.R_reads' HO_1.out).2.2);(case side4=>exact (Kd.R_reads' HO_1.out).2.1);(case side5=>exact (yk HS));rintro e w9 ⟨rfl,hb⟩;refine ⟨_,rfl, ?_⟩;have n9_:=ybb HS hb;have n0_:=yRb HO_1 hb;have n1_:=zm (Kept.below (S:=(fun k_=>P1_ k_)) (by repeat (first|(with_reducible first|exact HK.out|apply Kept.alloc|apply Kept.drewN|apply Kept.drew)|exact HK.out)) hb);have n2_:=ybs hb;clear HO_1;clear HK;clear HB;clear HS;have HS:=n9_;have HO_1:=n0_;have HK:=n1_;have HB:=n2_;clear n0_ n1_ n2_ n9_;(try clear hb)))
     go_roundg k1
     case measure=>exact yom1 HK1
     case rel=>exact ⟨(x9_1),(wrap64 (x9_1+1)),yq,yq,H',⟨yom1 HK1⟩,⟨yr HO_1⟩,⟨by repeat (first|(with_reducible first|exact HK.out|apply Kept.alloc|apply Kept.drewN|apply Kept.drew)|exact HK.out)⟩,⟨yhb⟩,⟨(yk HS)⟩⟩
    ·
     rw [if_neg c7] at H
     have c7b0 : decide (x3_1 < 0)=false:=decide_eq_false c7
     clear c7
     replace H:=ybi H;obtain ⟨t182,A10,H⟩:=H
     replace H:=ybi H;obtain ⟨t183,A11,H⟩:=H
     by_cases c12 : t182 > t183
     ·
      rw [if_pos c12] at H
      have c12b0 : decide (t183 < t182)=true:=decide_eq_true c12
      clear c12
      have H' := zm H
      clear H
      obtain ⟨Ao13,co13,eo13⟩:=Kd.R_slice HO_1.out
      subst eo13
      go_wp2_with (first|((with_reducible refine gate_callee (f:=112) rfl ?_);refine ygl 15 Try.func112 #[.pointer (some ⟨B,0,none⟩), .int .i64 x9_1] ?_;(with_reducible refine (alloc_cost.calls k1 B A0 c0 l0 x9_1 Ao13 co13 l1 a2 t180 true _ ?side1 HC0.out ?side3 ?side4 ?side5 A5.out).mono ?_);(case side1=>exact Kd.C_kept_now HR0.out (by repeat (first|(with_reducible first|exact HK.out|apply Kept.alloc|apply Kept.drewN|apply Kept.drew)|exact HK.out)));(case side3=>exact yce (Kd.R_reads' HO_1.out).2.2);(case side4=>exact (Kd.R_reads' HO_1.out).2.1);(case side5=>exact (yk HS));rintro e w14 ⟨rfl,hb⟩;refine ⟨_,rfl, ?_⟩;have n9_:=ybb HS hb;have n0_:=yRb HO_1 hb;have n1_:=zm (Kept.below (S:=(fun k_=>P1_ k_)) (by repeat (first|(with_reducible first|exact HK.out|apply Kept.alloc|apply Kept.drewN|apply Kept.drew)|exact HK.out)) hb);have n2_:=ybs hb;clear HO_1;clear HK;clear HB;clear HS;have HS:=n9_;have HO_1:=n0_;have HK:=n1_;have HB:=n2_;clear n0_ n1_ n2_ n9_;(try clear hb))|(go_at_call 113;(with_reducible refine (alloc_worth.calls B A0 c0 l0 x9_1 Ao13 co13 l1 a2 t182 _ ?side1 HC0.out ?side3 ?side4 ?side5 A10.out).mono ?_);(case side1=>exact Kd.C_kept_now HR0.out (by repeat (first|(with_reducible first|exact HK.out|apply Kept.alloc|apply Kept.drewN|apply Kept.drew)|exact HK.out)));(case side3=>exact yce (Kd.R_reads' HO_1.out).2.2);(case side4=>exact (Kd.R_reads' HO_1.out).2.1);(case side5=>exact (yk HS));rintro e w15 ⟨rfl,hb⟩;have n9_:=ybb HS hb;have n0_:=yRb HO_1 hb;have n1_:=zm (Kept.below (S:=(fun k_=>P1_ k_)) (by repeat (first|(with_reducible first|exact HK.out|apply Kept.alloc|apply Kept.drewN|apply Kept.drew)|exact HK.out)) hb);have n2_:=ybs hb;clear HO_1;clear HK;clear HB;clear HS;have HS:=n9_;have HO_1:=n0_;have HK:=n1_;have HB:=n2_;clear n0_ n1_ n2_ n9_;(try clear hb))|(go_at_call 113;(with_reducible refine (alloc_worth.calls B A0 c0 l0 x3_1 Ao13 co13 l1 a2 t183 _ ?side1 HC0.out ?side3 ?side4 ?side5 A11.out).mono ?_);(case side1=>exact Kd.C_kept_now HR0.out (by repeat (first|(with_reducible first|exact HK.out|apply Kept.alloc|apply Kept.drewN|apply Kept.drew)|exact HK.out)));(case side3=>exact yce (Kd.R_reads' HO_1.out).2.2);(case side4=>exact (Kd.R_reads' HO_1.out).2.1);(case side5=>exact (yk HS));rintro e w16 ⟨rfl,hb⟩;have n9_:=ybb HS hb;have n0_:=yRb HO_1 hb;have n1_:=zm (Kept.below (S:=(fun k_=>P1_ k_)) (by repeat (first|(with_reducible first|exact HK.out|apply Kept.alloc|apply Kept.drewN|apply Kept.drew)|exact HK.out)) hb);have n2_:=ybs hb;clear HO_1;clear HK;clear HB;clear HS;have HS:=n9_;have HO_1:=n0_;have HK:=n1_;have HB:=n2_;clear n0_ n1_ n2_ n9_;(try clear hb)))
      go_roundg k1
      case measure=>exact yom1 HK1
      case rel=>exact ⟨(x9_1),(wrap64 (x9_1+1)),yq,yq,H',⟨yom1 HK1⟩,⟨yr HO_1⟩,⟨by repeat (first|(with_reducible first|exact HK.out|apply Kept.alloc|apply Kept.drewN|apply Kept.drew)|exact HK.out)⟩,⟨yhb⟩,⟨(yk HS)⟩⟩
     ·
      rw [if_neg c12] at H
      have c12b0 : decide (t183 < t182)=false:=decide_eq_false c12
      clear c12
      have H' := zm H
      clear H
      obtain ⟨Ao17,co17,eo17⟩:=Kd.R_slice HO_1.out
      subst eo17
      go_wp2_with (first|((with_reducible refine gate_callee (f:=112) rfl ?_);refine ygl 15 Try.func112 #[.pointer (some ⟨B,0,none⟩), .int .i64 x9_1] ?_;(with_reducible refine (alloc_cost.calls k1 B A0 c0 l0 x9_1 Ao17 co17 l1 a2 t180 true _ ?side1 HC0.out ?side3 ?side4 ?side5 A5.out).mono ?_);(case side1=>exact Kd.C_kept_now HR0.out (by repeat (first|(with_reducible first|exact HK.out|apply Kept.alloc|apply Kept.drewN|apply Kept.drew)|exact HK.out)));(case side3=>exact yce (Kd.R_reads' HO_1.out).2.2);(case side4=>exact (Kd.R_reads' HO_1.out).2.1);(case side5=>exact (yk HS));rintro e w18 ⟨rfl,hb⟩;refine ⟨_,rfl, ?_⟩;have n9_:=ybb HS hb;have n0_:=yRb HO_1 hb;have n1_:=zm (Kept.below (S:=(fun k_=>P1_ k_)) (by repeat (first|(with_reducible first|exact HK.out|apply Kept.alloc|apply Kept.drewN|apply Kept.drew)|exact HK.out)) hb);have n2_:=ybs hb;clear HO_1;clear HK;clear HB;clear HS;have HS:=n9_;have HO_1:=n0_;have HK:=n1_;have HB:=n2_;clear n0_ n1_ n2_ n9_;(try clear hb))|(go_at_call 113;(with_reducible refine (alloc_worth.calls B A0 c0 l0 x9_1 Ao17 co17 l1 a2 t182 _ ?side1 HC0.out ?side3 ?side4 ?side5 A10.out).mono ?_);(case side1=>exact Kd.C_kept_now HR0.out (by repeat (first|(with_reducible first|exact HK.out|apply Kept.alloc|apply Kept.drewN|apply Kept.drew)|exact HK.out)));(case side3=>exact yce (Kd.R_reads' HO_1.out).2.2);(case side4=>exact (Kd.R_reads' HO_1.out).2.1);(case side5=>exact (yk HS));rintro e w19 ⟨rfl,hb⟩;have n9_:=ybb HS hb;have n0_:=yRb HO_1 hb;have n1_:=zm (Kept.below (S:=(fun k_=>P1_ k_)) (by repeat (first|(with_reducible first|exact HK.out|apply Kept.alloc|apply Kept.drewN|apply Kept.drew)|exact HK.out)) hb);have n2_:=ybs hb;clear HO_1;clear HK;clear HB;clear HS;have HS:=n9_;have HO_1:=n0_;have HK:=n1_;have HB:=n2_;clear n0_ n1_ n2_ n9_;(try clear hb))|(go_at_call 113;(with_reducible refine (alloc_worth.calls B A0 c0 l0 x3_1 Ao17 co17 l1 a2 t183 _ ?side1 HC0.out ?side3 ?side4 ?side5 A11.out).mono ?_);(case side1=>exact Kd.C_kept_now HR0.out (by repeat (first|(with_reducible first|exact HK.out|apply Kept.alloc|apply Kept.drewN|apply Kept.drew)|exact HK.out)));(case side3=>exact yce (Kd.R_reads' HO_1.out).2.2);(case side4=>exact (Kd.R_reads' HO_1.out).2.1);(case side5=>exact (yk HS));rintro e w20 ⟨rfl,hb⟩;have n9_:=ybb HS hb;have n0_:=yRb HO_1 hb;have n1_:=zm (Kept.below (S:=(fun k_=>P1_ k_)) (by repeat (first|(with_reducible first|exact HK.out|apply Kept.alloc|apply Kept.drewN|apply Kept.drew)|exact HK.out)) hb);have n2_:=ybs hb;clear HO_1;clear HK;clear HB;clear HS;have HS:=n9_;have HO_1:=n0_;have HK:=n1_;have HB:=n2_;clear n0_ n1_ n2_ n9_;(try clear hb)))
      go_roundg k1
      case measure=>exact yom1 HK1
      case rel=>exact ⟨(x3_1),(wrap64 (x9_1+1)),yq,yq,H',⟨yom1 HK1⟩,⟨yr HO_1⟩,⟨by repeat (first|(with_reducible first|exact HK.out|apply Kept.alloc|apply Kept.drewN|apply Kept.drew)|exact HK.out)⟩,⟨yhb⟩,⟨(yk HS)⟩⟩
   ·
    replace c6:=Bool.eq_false_iff.mpr c6
    subst c6
    rw [ynf] at H
    have H' := zm H
    clear H
    obtain ⟨Ao21,co21,eo21⟩:=Kd.R_slice HO_1.out
    subst eo21
    go_wp2_with (first|((with_reducible refine gate_callee (f:=112) rfl ?_);refine ygl 15 Try.func112 #[.pointer (some ⟨B,0,none⟩), .int .i64 x9_1] ?_;(with_reducible refine (alloc_cost.calls k1 B A0 c0 l0 x9_1 Ao21 co21 l1 a2 t180 false _ ?side1 HC0.out ?side3 ?side4 ?side5 A5.out).mono ?_);(case side1=>exact Kd.C_kept_now HR0.out (by repeat (first|(with_reducible first|exact HK.out|apply Kept.alloc|apply Kept.drewN|apply Kept.drew)|exact HK.out)));(case side3=>exact yce (Kd.R_reads' HO_1.out).2.2);(case side4=>exact (Kd.R_reads' HO_1.out).2.1);(case side5=>exact (yk HS));rintro e w22 ⟨rfl,hb⟩;refine ⟨_,rfl, ?_⟩;have n9_:=ybb HS hb;have n0_:=yRb HO_1 hb;have n1_:=zm (Kept.below (S:=(fun k_=>P1_ k_)) (by repeat (first|(with_reducible first|exact HK.out|apply Kept.alloc|apply Kept.drewN|apply Kept.drew)|exact HK.out)) hb);have n2_:=ybs hb;clear HO_1;clear HK;clear HB;clear HS;have HS:=n9_;have HO_1:=n0_;have HK:=n1_;have HB:=n2_;clear n0_ n1_ n2_ n9_;(try clear hb)))
    go_roundg k1
    case measure=>exact yom1 HK1
    case rel=>exact ⟨(x3_1),(wrap64 (x9_1+1)),yq,yq,H',⟨yom1 HK1⟩,⟨yr HO_1⟩,⟨by repeat (first|(with_reducible first|exact HK.out|apply Kept.alloc|apply Kept.drewN|apply Kept.drew)|exact HK.out)⟩,⟨yhb⟩,⟨(yk HS)⟩⟩
  ·
   rw [if_neg c4] at H
   have c4b0 : decide (x9_1 < 5)=false:=decide_eq_false c4
   clear c4
   by_cases c23 : x3_1 < 0
   ·
    rw [if_pos c23] at H
    have c23b0 : decide (x3_1 < 0)=true:=decide_eq_true c23
    clear c23
    simp only [Option.some.injEq,Prod.mk.injEq] at H
    obtain ⟨rfl,rfl,rfl⟩:=H
    go_wp2
    go_ret
    exact ⟨ye,yr HO_1,yhb,Kept.mono (S:=(fun k_=>P1_ k_)) (by repeat (first|(with_reducible first|exact HK.out|apply Kept.alloc|apply Kept.drewN|apply Kept.drew)|exact HK.out)) (fun _ h_ => .inl h_),(yk HS)⟩
   ·
    rw [if_neg c23] at H
    have c23b0 : decide (x3_1 < 0)=false:=decide_eq_false c23
    clear c23
    replace H:=ybi H;obtain ⟨⟨t176,t177⟩,A24,H⟩:=H
    try dsimp only at H
    replace H:=yif H;obtain ⟨c25,H⟩:=H
    have c25b0 : decide (0≤x3_1)=true:=decide_eq_true c25
    clear c25
    replace H:=yif H;obtain ⟨c26,H⟩:=H
    have c26b0 : decide (x3_1 < (l1.length : Int))=true:=decide_eq_true c26
    clear c26
    obtain ⟨y179,hy179⟩ : ∃ y_ : List Int,y_=(l1.set (x3_1 : Int).toNat (wrap64 ((rd l1 x3_1)+1))):=⟨_,rfl⟩
    replace H : (some (wrap64 (a2 - t176),true,y179))=some (r1,r2,r3):=yrw hy179 H
    have Ny179:=zm hy179;clear hy179
    simp only [Option.some.injEq,Prod.mk.injEq] at H
    obtain ⟨rfl,rfl,rfl⟩:=H
    obtain ⟨Ao28,co28,eo28⟩:=Kd.R_slice HO_1.out
    subst eo28
    go_wp2_with (first|((with_reducible refine gate_callee (f:=112) rfl ?_);refine ygl 39 Try.func112 #[.pointer (some ⟨B,0,none⟩), .int .i64 x3_1] ?_;(with_reducible refine (alloc_cost.calls k1 B A0 c0 l0 x3_1 Ao28 co28 l1 a2 t176 t177 _ ?side1 HC0.out ?side3 ?side4 ?side5 A24.out).mono ?_);(case side1=>exact Kd.C_kept_now HR0.out (by repeat (first|(with_reducible first|exact HK.out|apply Kept.alloc|apply Kept.drewN|apply Kept.drew)|exact HK.out)));(case side3=>exact yce (Kd.R_reads' HO_1.out).2.2);(case side4=>exact (Kd.R_reads' HO_1.out).2.1);(case side5=>exact (yk HS));rintro e w29 ⟨rfl,hb⟩;refine ⟨_,rfl, ?_⟩;have n9_:=ybb HS hb;have n0_:=yRb HO_1 hb;have n1_:=zm (Kept.below (S:=(fun k_=>P1_ k_)) (by repeat (first|(with_reducible first|exact HK.out|apply Kept.alloc|apply Kept.drewN|apply Kept.drew)|exact HK.out)) hb);have n2_:=ybs hb;clear HO_1;clear HK;clear HB;clear HS;have HS:=n9_;have HO_1:=n0_;have HK:=n1_;have HB:=n2_;clear n0_ n1_ n2_ n9_;(try clear hb);have hs2 : w29.cell? ⟨B,2,none⟩=some (.int .i64 a2):=(zs HS.out 2).trans rfl;have hsf : w29.frozen? ⟨B,2,none⟩=false:=zx HS.out 2)|((with_reducible refine gate_store (t:=3) (p:=49) rfl ?_);refine store_event (t:=3) (p:=49) (v := ?vo_w12) (w1:=(w29.setCell ⟨B,2,none⟩ (.int .i64 (wrap64 (a2 - t176))))) ?hg ?ho ?hn ?hr ?_;(case ho=>rfl);(case hg=>rfl);(case hn=>rfl);(case hr=>first|(go_simp;done)|(go_simp;rfl));intro w12 hw;have hS12 : w12.heap[B]? = some (.cells #[.slice A0 l0.length c0, .slice Ao28 l1.length co28, .int .i64 (wrap64 (a2 - t176)), .func (.func 74) #[] #[]] 113 (0,0)):=(by rw [hw];exact blk_set HS.out 2 _);have n0_ : Aside0 (Kd.R (Kd.int .i64) 3 w12 w0.heap.size (fun k_=>(P1_ k_∨w.heap.size≤k_)) (.slice Ao28 l1.length co28) l1):=⟨by rw [hw];exact zH HO_1.out HNE.out _⟩;have n1_ : Aside0 (Below w0.heap.size w0 w12):=⟨by rw [hw];exact Below.setCell HB.out HB0.out _⟩;have n2_ : Aside0 (Kept w w12 (fun k_=>P1_ k_∨k_=B)):=⟨by rw [hw];exact Kept.setCell (Kept.mono HK.out (fun _ h_ => .inl h_)) (.inl (.inr rfl)) _⟩;clear HO_1;clear HK;clear HB;clear HS;clear hs2;clear hsf;have HO_1:=n0_;have HB:=n1_;have HK:=n2_;have HS:=zm hS12;have hs1 : w12.cell? ⟨B,1,none⟩=some (.slice Ao28 l1.length co28):=(zs hS12 1).trans rfl;clear hS12 hw n0_ n1_ n2_;have p178 : 0≤(x3_1 : Int):=yt;have q178 : x3_1 < (l1.length : Int):=yt;obtain ⟨ad178,e178,hx178_0⟩:=Kd.at_int (Kd.R_reads' HO_1.out).2.2 x3_1 p178 q178;cases e178;replace p178:=eq_true p178;replace q178:=eq_true q178;have p27 : 0≤(x3_1 : Int):=yt;have q27 : (x3_1 : Int) < ((l1.length : Int) : Int):=yt;obtain ⟨go27,co27,eo27,gb27,gl27,cl27,HG27⟩:=Kd.R_form HO_1.out (by omega);(first|cases eo27|(injection eo27 with ea_ en_ ec_;(first|subst ea_|(injection ea_ with ea_;subst ea_));subst ec_;clear en_));have GB27:=zm gb27;have GG27:=zm HG27;clear gb27 gl27 HG27;have HMgo27:=zm (show (P1_ go27∨w.heap.size≤go27) from (HO_1.out.1 _ rfl));(first|simp only [add_plain] at hx178_0|skip);obtain ⟨hx27_0,hf27_0⟩:=Kd.R_celln 0 HO_1.out (x3_1 : Int) p27 q27;replace p27:=eq_true p27;replace q27:=eq_true q27;obtain ⟨hy30_,hz30_⟩:=Kd.R_celln 0 HO_1.out (x3_1 : Int) (yt) (yt);have HP30:=Kd.R_putg HO_1.out (x3_1 : Int) (wrap64 ((rd l1 x3_1)+1)))|((with_reducible refine gate_store (t:=3) (p:=58) rfl ?_);refine store_event (t:=3) (p:=58) (v := ?vo_w31) (w1:=(w12.setCell ⟨go27,(x3_1 : Int).toNat,none⟩ (.int .i64 (wrap64 ((rd l1 x3_1)+1))))) ?hg ?ho ?hn ?hr ?_;(case ho=>rfl);(case hg=>rfl);(case hn=>rfl);(case hr=>first|(go_simp;done)|(go_simp;rfl));intro w31 hw;have hg : w12.grownBy w31 (some go27):=(by rw [hw];exact HP30.2);have hp_ : Kd.R (Kd.int .i64) 3 w31 w0.heap.size (fun k_=>(P1_ k_∨w.heap.size≤k_)) (.slice (some ⟨go27,0,none⟩) l1.length co28) y179:=(by rw [hw,Ny179.out];exact HP30.1);clear HP30;have n0_:=zm (hp_);have n1_:=zm ((by rw [hw];exact zk (HB.out) GB27.out : Below w0.heap.size w0 w31));have n2_:=zm (Kept.of_grown (S:=(fun k_=>P1_ k_∨k_=B)) hg (by repeat (first|(with_reducible first|exact HK.out|apply Kept.alloc|apply Kept.drewN|apply Kept.drew)|exact HK.out)) (fun k_ e_=>(HO_1.out.1 k_ e_).imp .inl id));have n8_ : Aside0 (w31.heap[B]? = some (.cells #[.slice A0 l0.length c0, .slice (some ⟨go27,0,none⟩) l1.length co28, .int .i64 (wrap64 (a2 - t176)), .func (.func 74) #[] #[]] 113 (0,0))):=⟨by rw [hw];exact zv HS.out (fun e_=>HNE.out _ (HO_1.out.1 go27 rfl) e_.symm) _⟩;clear HS;have HS:=n8_;clear n8_;clear HO_1;clear HB;clear HK;have HO_1:=n0_;have HB:=n1_;have HK:=n2_;clear n0_ n1_ n2_;clear hg hw hp_))
    go_ret
    exact ⟨ye,yr HO_1,yhb,by repeat (first|(with_reducible first|exact HK.out|apply Kept.alloc|apply Kept.drewN|apply Kept.drew)|exact HK.out),(yk HS)⟩
def gain_Right.l0 : Nat→List Int→List Int→Int→Int→Option (Bool)
 | 0,_,_,_,_=>none
 | k+1,x0,x5,x6,x7=>if x7 < x6 then (if 0≤x7 then (if x7 < (x5.length : Int) then (if (rd x5 x7) < 0 then (some false) else (if (rd x5 x7) > 44 then (some false) else (gain_Right.l0 k x0 x5 x6 (wrap64 (x7+1))))) else (none)) else (none)) else (some ((x0.length : Int) == 5))
def gain_Right.f (k : Nat) (l0 : List Int) : Option (Bool):=gain_Right.l0 k l0 l0 (l0.length : Int) 0
theorem gain_Right.mono_l : ∀ k,(∀ y0 y1 y2 y3,LeO (gain_Right.l0 k y0 y1 y2 y3) (gain_Right.l0 (k+1) y0 y1 y2 y3))
 | 0=>fun _ _ _ _ r h=>by simp [gain_Right.l0] at h
 | k+1=>by
  have ih0:=gain_Right.mono_l k
  ·
   intro y0 y1 y2 y3
   unfold gain_Right.l0
   repeat' with_reducible first|apply ih0|apply yLr|apply yLn|apply yLi|apply yLb|intro _
theorem gain_Right.mono : ∀ a0 k,LeO (gain_Right.f k a0) (gain_Right.f (k+1) a0):=by
 intro a0 k
 have ih0:=gain_Right.mono_l k
 unfold gain_Right.f
 repeat' with_reducible first|apply ih0|apply yLr|apply yLn|apply yLi|apply yLb|intro _
set_option maxHeartbeats 8000000 in
set_option maxRecDepth 100000 in
theorem gain_Right.calls (k : Nat) (A0 : Option Addr) (c0 : Nat) (l0 : List Int) (r : Bool) (w : World) (hr0 : Kd.C (Kd.int .i64) w A0 l0.length l0) (hc0 : l0.length≤c0) (h : gain_Right.f k l0=some r) :
  Calls Try.prog 72 #[.slice A0 l0.length c0] w fun e w' => e=.returned (.bool r)∧Drawn0 w w' := by
 have HR0:=zm hr0;have HC0:=zm hc0;clear hr0 hc0
 have H : (gain_Right.l0 k l0 l0 (l0.length : Int) 0)=some r:=h
 clear h
 have H' := zm H
 clear H
 go_enter Try.func72,Try.ntmps72
 go_wp2
 go_loopg [7] k (fun kq v7 w' => ∃ (x7_1 : Int),v7=.int .i64 x7_1∧Aside0 (gain_Right.l0 kq l0 l0 (l0.length : Int) x7_1=some r)∧Aside0 (kq≤k)∧Drawn0 w w')
 case atStart=>exact ⟨(0),yq,H',⟨Nat.le_refl _⟩,yd⟩
 case round =>
  clear H'
  obtain ⟨x7_1,rfl,HA,HK1,⟨m1,rfl⟩⟩:=hrel
  obtain ⟨k1,rfl⟩:=ysu gk (fun h=>by subst h;exact absurd HA.out (by simp [gain_Right.l0]))
  have H:=HA.out;clear HA
  simp only [gain_Right.l0] at H
  by_cases c2 : x7_1 < (l0.length : Int)
  ·
   rw [if_pos c2] at H
   have c2b0 : decide (x7_1 < (l0.length : Int))=true:=decide_eq_true c2
   clear c2
   replace H:=yif H;obtain ⟨c3,H⟩:=H
   have c3b0 : decide (0≤x7_1)=true:=decide_eq_true c3
   clear c3
   replace H:=yif H;obtain ⟨c4,H⟩:=H
   have c4b0 : decide (x7_1 < (l0.length : Int))=true:=decide_eq_true c4
   clear c4
   by_cases c5 : (rd l0 x7_1) < 0
   ·
    rw [if_pos c5] at H
    have c5b0 : decide ((rd l0 x7_1) < 0)=true:=decide_eq_true c5
    clear c5
    obtain rfl:=Option.some.inj H
    obtain ⟨ad149,e149,hx149_0,p149,q149⟩:=yai HR0 x7_1
    cases e149
    go_wp2
    go_ret
    exact ⟨yq,yd⟩
   ·
    rw [if_neg c5] at H
    have c5b0 : decide ((rd l0 x7_1) < 0)=false:=decide_eq_false c5
    clear c5
    by_cases c6 : (rd l0 x7_1) > 44
    ·
     rw [if_pos c6] at H
     have c6b0 : decide (44 < (rd l0 x7_1))=true:=decide_eq_true c6
     clear c6
     obtain rfl:=Option.some.inj H
     obtain ⟨ad149,e149,hx149_0,p149,q149⟩:=yai HR0 x7_1
     cases e149
     go_wp2
     go_ret
     exact ⟨yq,yd⟩
    ·
     rw [if_neg c6] at H
     have c6b0 : decide (44 < (rd l0 x7_1))=false:=decide_eq_false c6
     clear c6
     have H' := zm H
     clear H
     obtain ⟨ad149,e149,hx149_0,p149,q149⟩:=yai HR0 x7_1
     cases e149
     go_wp2
     go_roundg k1
     case measure=>exact yom1 HK1
     case rel=>exact ⟨(wrap64 (x7_1+1)),yq,H',⟨yom1 HK1⟩,yd⟩
  ·
   rw [if_neg c2] at H
   have c2b0 : decide (x7_1 < (l0.length : Int))=false:=decide_eq_false c2
   clear c2
   obtain rfl:=Option.some.inj H
   go_wp2
   go_ret
   exact ⟨yq,yd⟩
mutual
def alloc_Pulses.j0 : Nat→Int→Int→List (List Int)→Bool→Option ((List (List Int)) × Int)
 | 0,_,_,_,_=>none
 | k+1,x0,x1,x2,x21=>if x21=true then (some (([] : List (List Int)),1)) else (alloc_Pulses.l0 k x0 x1 ([] : List (List Int)) x2 (x2.length : Int) 0)
def alloc_Pulses.l0 : Nat→Int→Int→List (List Int)→List (List Int)→Int→Int→Option ((List (List Int)) × Int)
 | 0,_,_,_,_,_,_=>none
 | k+1,x0,x1,x8,x22,x23,x24=>if x24 < x23 then (if 0≤x24 then (if x24 < (x22.length : Int) then ((gain_Right.f k (rd_L2 x22 x24)).bind fun t186=>(if t186=true then ((alloc_Room.f x0 x1).bind fun t190=>(alloc_Pulses.l1 k x0 x1 x8 (rd_L2 x22 x24) (List.replicate 5 0) x22 x23 x24 t190)) else (some (([] : List (List Int)),1)))) else (none)) else (none)) else (some (x8,0))
def alloc_Pulses.l1 : Nat→Int→Int→List (List Int)→List Int→List Int→List (List Int)→Int→Int→Int→Option ((List (List Int)) × Int)
 | 0,_,_,_,_,_,_,_,_,_=>none
 | k+1,x0,x1,x8,x10,x11,x22,x23,x24,x49=>(alloc_give.f k x10 x11 x49).bind fun bt191=>(if bt191.2.1=true then (alloc_Pulses.l1 k x0 x1 x8 x10 bt191.2.2 x22 x23 x24 bt191.1) else (if x8.length < 5864062014805 then (alloc_Pulses.l0 k x0 x1 (x8 ++ [bt191.2.2]) x22 x23 (wrap64 (x24+1))) else (none)))
end
def alloc_Pulses.f (k : Nat) (a0 : Int) (a1 : Int) (l2 : List (List Int)) : Option ((List (List Int)) × Int):=(alloc_Right.f a0 a1).bind fun t184=>(if t184=true then (alloc_Pulses.j0 k a0 a1 l2 ((l2.length : Int) != a1)) else (alloc_Pulses.j0 k a0 a1 l2 true))
theorem alloc_Pulses.mono_l : ∀ k,(∀ y0 y1 y2 y3,LeO (alloc_Pulses.j0 k y0 y1 y2 y3) (alloc_Pulses.j0 (k+1) y0 y1 y2 y3))∧(∀ y0 y1 y2 y3 y4 y5,LeO (alloc_Pulses.l0 k y0 y1 y2 y3 y4 y5) (alloc_Pulses.l0 (k+1) y0 y1 y2 y3 y4 y5))∧(∀ y0 y1 y2 y3 y4 y5 y6 y7 y8,LeO (alloc_Pulses.l1 k y0 y1 y2 y3 y4 y5 y6 y7 y8) (alloc_Pulses.l1 (k+1) y0 y1 y2 y3 y4 y5 y6 y7 y8))
 | 0=>⟨fun _ _ _ _ r h=>by simp [alloc_Pulses.j0] at h,fun _ _ _ _ _ _ r h=>by simp [alloc_Pulses.l0] at h,fun _ _ _ _ _ _ _ _ _ r h=>by simp [alloc_Pulses.l1] at h⟩
 | k+1=>by
  obtain ⟨ih0,ih1,ih2⟩:=alloc_Pulses.mono_l k
  refine ⟨?_, ?_, ?_⟩
  ·
   intro y0 y1 y2 y3
   unfold alloc_Pulses.j0
   repeat' with_reducible first|apply ih0|apply ih1|apply ih2|apply alloc_give.mono|apply gain_Right.mono|apply yLr|apply yLn|apply yLi|apply yLb|intro _
  ·
   intro y0 y1 y2 y3 y4 y5
   unfold alloc_Pulses.l0
   repeat' with_reducible first|apply ih0|apply ih1|apply ih2|apply alloc_give.mono|apply gain_Right.mono|apply yLr|apply yLn|apply yLi|apply yLb|intro _
  ·
   intro y0 y1 y2 y3 y4 y5 y6 y7 y8
   unfold alloc_Pulses.l1
   repeat' with_reducible first|apply ih0|apply ih1|apply ih2|apply alloc_give.mono|apply gain_Right.mono|apply yLr|apply yLn|apply yLi|apply yLb|intro _
theorem alloc_Pulses.mono : ∀ a0 a1 a2 k,LeO (alloc_Pulses.f k a0 a1 a2) (alloc_Pulses.f (k+1) a0 a1 a2):=by
 intro a0 a1 a2 k
 obtain ⟨ih0,ih1,ih2⟩:=alloc_Pulses.mono_l k
 unfold alloc_Pulses.f
 repeat' with_reducible first|apply ih0|apply ih1|apply ih2|apply alloc_give.mono|apply gain_Right.mono|apply yLr|apply yLn|apply yLi|apply yLb|intro _
def alloc_Pulses.T9 : Bool × List (List Nat × List Nat):=(true, [([], []),([], []),([], []),([], []),([2,3], [2,3]),([0,1,4], [0,1,4]),([5], [5]),([6,4,0,1,2,3,4,5,6], [6])])
def alloc_Pulses.B9 : List Nat := [0,0,0,0,12,31,63,127]
theorem alloc_Pulses.tab9 : rtab .any (opsOf Try.f37 9)=alloc_Pulses.T9:=by kernel_rfl
theorem alloc_Pulses.bits9 : waitsOk alloc_Pulses.T9.2 alloc_Pulses.B9=true:=by kernel_rfl
set_option maxHeartbeats 8000000 in
set_option maxRecDepth 100000 in
theorem alloc_Pulses.calls (k : Nat) (a0 : Int) (a1 : Int) (A2 : Option Addr) (c2 : Nat) (l2 : List (List Int)) (r1 : List (List Int)) (r2 : Int) (w : World) (hr2 : Kd.C (Kd.slice 3 (Kd.int .i64)) w A2 l2.length l2) (hc2 : l2.length≤c2) (h : alloc_Pulses.f k a0 a1 l2=some (r1,r2)) :
  Calls Try.prog 37 #[.int .i64 a0, .int .i64 a1, .slice A2 l2.length c2] w fun e w' => ∃ v0_ : Value,e=.returned (.tuple #[v0_, .int .i64 r2])∧Kd.S (Kd.slice 3 (Kd.int .i64)) 55 w' w.heap.size (fun _=>True) v0_ r1∧Below w.heap.size w w' := by
 have HR2:=zm hr2;have HC2:=zm hc2;clear hr2 hc2;have HB:=zm (Below.refl w.heap.size w)
 have H : ((alloc_Right.f a0 a1).bind fun t184=>(if t184=true then (alloc_Pulses.j0 k a0 a1 l2 ((l2.length : Int) != a1)) else (alloc_Pulses.j0 k a0 a1 l2 true)))=some (r1,r2):=h
 clear h;have HC4:=zm H;clear H
 go_enter Try.func37,Try.ntmps37
 go_upto_region 1 with (fail)
 go_cut [21] (fun v21 wc => ∃ (kq : Nat) (x21_3 : Bool),v21=.bool x21_3∧Aside0 (alloc_Pulses.j0 kq a0 a1 l2 x21_3=some (r1,r2))∧Aside0 (kq≤k)∧Aside0 (Below w.heap.size w wc))
 case first =>
  have H:=HC4.out;clear HC4
  replace H:=ybi H;obtain ⟨t184,A5,H⟩:=H
  by_cases c6 : t184=true
  ·
   subst c6
   rw [if_pos rfl] at H
   have H' := zm H
   clear H
   go_wp2_with (first|((with_reducible refine gate_callee (f:=52) rfl ?_);refine ygl 14 Try.func52 #[.int .i64 a0, .int .i64 a1] ?_;(with_reducible refine (alloc_Right.calls a0 a1 true _ A5.out).mono ?_);rintro e w' ⟨rfl,⟨nd,rfl⟩⟩;refine ⟨_,rfl, ?_⟩))
   go_meet
   case rel=>exact ⟨_,(((l2.length : Int) != a1)),yq,H',⟨yo⟩,⟨yhb⟩⟩
  ·
   replace c6:=Bool.eq_false_iff.mpr c6
   subst c6
   rw [ynf] at H
   have H' := zm H
   clear H
   go_wp2_with (first|((with_reducible refine gate_callee (f:=52) rfl ?_);refine ygl 14 Try.func52 #[.int .i64 a0, .int .i64 a1] ?_;(with_reducible refine (alloc_Right.calls a0 a1 false _ A5.out).mono ?_);rintro e w' ⟨rfl,⟨nd,rfl⟩⟩;refine ⟨_,rfl, ?_⟩))
   go_meet
   case rel=>exact ⟨_,(true),yq,H',⟨yo⟩,⟨yhb⟩⟩
 case rest =>
  clear HC4
  try clear c2
  obtain ⟨kq,x21_3,rfl,HA,HJ3,HB⟩:=hcut
  obtain ⟨kj3,rfl⟩:=ysu kq (fun h=>by subst h;exact absurd HA.out (by simp [alloc_Pulses.j0]))
  have H:=HA.out;clear HA
  simp only [alloc_Pulses.j0] at H
  by_cases c7 : x21_3=true
  ·
   subst c7
   rw [if_pos rfl] at H
   simp only [Option.some.injEq,Prod.mk.injEq] at H
   obtain ⟨rfl,rfl⟩:=H
   go_wp2
   go_ret2
   exact ⟨_,ye,yn,yhb⟩
  ·
   replace c7:=Bool.eq_false_iff.mpr c7
   subst c7
   rw [ynf] at H
   have H' := zm H
   clear H
   go_wp2
   go_loopg [8,24] kj3 (fun kq v8 v24 w' => ∃ (x8_2 : List (List Int)) (x24_2 : Int),v24=.int .i64 x24_2∧Aside0 (alloc_Pulses.l0 kq a0 a1 x8_2 l2 (l2.length : Int) x24_2=some (r1,r2))∧Aside0 (kq≤kj3)∧Aside0 (Kd.S (Kd.slice 3 (Kd.int .i64)) 55 w' w.heap.size (fun _=>True) v8 x8_2)∧Aside0 (Below w.heap.size w w'))
   case atStart=>exact ⟨(([] : List (List Int))),(0),yq,H',⟨Nat.le_refl _⟩,⟨yn⟩,⟨yhb⟩⟩
   case round =>
    clear H'
    obtain ⟨x8_2,x24_2,rfl,HA,HK2,HO_8,HB⟩:=hrel
    obtain ⟨k2,rfl⟩:=ysu gk (fun h=>by subst h;exact absurd HA.out (by simp [alloc_Pulses.l0]))
    have H:=HA.out;clear HA
    simp only [alloc_Pulses.l0] at H
    by_cases c8 : x24_2 < (l2.length : Int)
    ·
     rw [if_pos c8] at H
     have c8b0 : decide (x24_2 < (l2.length : Int))=true:=decide_eq_true c8
     clear c8
     replace H:=yif H;obtain ⟨c9,H⟩:=H
     have c9b0 : decide (0≤x24_2)=true:=decide_eq_true c9
     clear c9
     replace H:=yif H;obtain ⟨c10,H⟩:=H
     have c10b0 : decide (x24_2 < (l2.length : Int))=true:=decide_eq_true c10
     clear c10
     replace H:=ybi H;obtain ⟨t186,A11,H⟩:=H
     by_cases c12 : t186=true
     ·
      subst c12
      rw [if_pos rfl] at H
      obtain ⟨y187,hy187⟩ : ∃ y_ : List Int,y_=(List.replicate 5 0):=⟨_,rfl⟩
      replace H : ((alloc_Room.f a0 a1).bind fun t190=>(alloc_Pulses.l1 k2 a0 a1 x8_2 (rd_L2 l2 x24_2) y187 l2 (l2.length : Int) x24_2 t190))=some (r1,r2):=yrw hy187 H
      have Ny187:=zm hy187;clear hy187
      replace H:=ybi H;obtain ⟨t190,A13,H⟩:=H
      have H' := zm H
      clear H
      have p185 : 0≤(x24_2 : Int):=yt
      have q185 : x24_2 < (l2.length : Int):=yt
      obtain ⟨ad185,A185_0,c185_0,e185,hx185_0,hl185_0,hi185_0⟩:=at_L2 HR2.out x24_2 p185 q185
      cases e185
      replace hx185_0:=yhx HB hx185_0
      have HR185_0:=zm hi185_0;have HC185_0:=zm hl185_0;clear hi185_0 hl185_0
      replace p185:=eq_true p185
      replace q185:=eq_true q185
      try go_wp2_with (first|((with_reducible refine gate_callee (f:=72) rfl ?_);refine ygl 29 Try.func72 #[.slice A185_0 (rd_L2 l2 x24_2).length c185_0] ?_;(with_reducible refine (gain_Right.calls k2 _ _ (rd_L2 l2 x24_2) true _ ?side1 HC185_0.out A11.out).mono ?_);(case side1=>exact ycb HR185_0);rintro e w' ⟨rfl,⟨nd,rfl⟩⟩;refine ⟨_,rfl, ?_⟩))
      (try (rw [drewN_self wr];generalize hq_ : World.drewN wr _=wr;have n0_ : Aside0 (Kd.S (Kd.slice 3 (Kd.int .i64)) 55 wr w.heap.size (fun _=>True) u8 x8_2):=⟨by rw [← hq_];exact (yr HO_8)⟩;have n1_ : Aside0 (Below w.heap.size w wr):=⟨by rw [← hq_];exact yhb⟩;clear HO_8 HB hq_;have HO_8:=n0_;have HB:=n1_;clear n0_ n1_))
      replace HO_8:=zm (Kd.S_drew HO_8.out)
      replace HB:=zm (zf HB.out)
      refine yst (fun w' => True) [] 8 alloc_Pulses.tab9 alloc_Pulses.bits9 (fun hHeld HT_ HW_ => ?_) (hS:=trivial)
      generalize wr.drew=w14 at HO_8 HB hHeld ⊢
      refine yp 0 31 HT_ ?_
      refine yp 2 33 HT_ ?_
      refine yp 3 34 HT_ ?_
      refine join_ (σ:=Value) 3 #[true,true,true,true,true,false,false,false] (fun s_ => [(32,s_),(35, .int .i64 t190)]) (fun s_ w' => (Kd.R (Kd.int .i64) 3 w' w.heap.size (fun _=>True) s_ y187)∧(Kd.S (Kd.slice 3 (Kd.int .i64)) 55 w' w.heap.size (fun k_=>some k_≠(s_ : Value).ownBlock) u8 x8_2)∧(Below w.heap.size w w')) ?_ ?_
      rotate_left
      ·
       intro hCont
       refine two_ (i:=1) (j:=4) (Ni:=some 32) (Nj:=some 35) #[true,true,true,true,false,false,false,false] #[true,false,true,true,true,false,false,false] rfl rfl rfl rfl (two_of HT_.out (by kernel_rfl)) (by decide) (by decide) (fun K hK => ?_) (fun K hK => ?_)
       ·
        skip
        refine Kd.R_make_step (Kd.int .i64) _ 3 (by rfl) (N:=32) rfl 55 _ _ rfl 5 rfl rfl Try.underlying55 (.int .i64 0) 8 info3 rfl (by decide) (by omega) 0 (ok:=fun _=>True) (okp:=fun _=>True) rfl (fun _ hk=>hk) trivial (by omega) (by omega) (Below.refl _ _) (Nat.le_refl _) ?_
        intro v188 w15 ho16 hb hg_ hnew_
        clear hg_ hnew_
        (first|rw [← Ny187.out] at ho16|(simp only [Int.reduceToNat] at ho16;rw [← Ny187.out] at ho16))
        replace HO_8:=zm (Kd.S_elder' (yr HO_8) (Kd.R_base ho16) hb)
        have HO189:=zm (Kd.R_lower ho16 (zE yhb))
        replace HB:=ybs hb
        clear hb ho16
        refine hK.out _ _ trivial (fun hHeld => ?_)
        clear hK K
        refine ym (some 32) ?_
        refine yw 4 35 HT_ (fun K hK => ?_)
        refine ygs Try.func73 #[.int .i64 a0, .int .i64 a1] ?_
        with_reducible refine (alloc_Room.calls a0 a1 t190 _ A13.out).mono ?_
        rintro e w' ⟨rfl,⟨nd,rfl⟩⟩
        refine ⟨_,rfl, ?_⟩
        refine hK.out _ _ trivial (fun hHeld => ?_)
        clear hK K
        refine ym (some 35) ?_
        exact norm_ (by simp only [putAll,Act.put,List.setIfInBounds_toArray,List.set_cons_zero,List.set_cons_succ]) (hCont (v188) _ ⟨(yr HO189),(yS0 HO_8),yhb⟩)
       ·
        skip
        refine ygs Try.func73 #[.int .i64 a0, .int .i64 a1] ?_
        with_reducible refine (alloc_Room.calls a0 a1 t190 _ A13.out).mono ?_
        rintro e w' ⟨rfl,⟨nd,rfl⟩⟩
        refine ⟨_,rfl, ?_⟩
        refine hK.out _ _ trivial (fun hHeld => ?_)
        clear hK K
        refine ym (some 35) ?_
        refine yw 1 32 HT_ (fun K hK => ?_)
        refine Kd.R_make_step (Kd.int .i64) _ 3 (by rfl) (N:=32) rfl 55 _ _ rfl 5 rfl rfl Try.underlying55 (.int .i64 0) 8 info3 rfl (by decide) (by omega) 0 (ok:=fun _=>True) (okp:=fun _=>True) rfl (fun _ hk=>hk) trivial (by omega) (by omega) (Below.refl _ _) (Nat.le_refl _) ?_
        intro v188 w15 ho16 hb hg_ hnew_
        clear hg_ hnew_
        (first|rw [← Ny187.out] at ho16|(simp only [Int.reduceToNat] at ho16;rw [← Ny187.out] at ho16))
        replace HO_8:=zm (Kd.S_elder' (yr HO_8) (Kd.R_base ho16) hb)
        have HO189:=zm (Kd.R_lower ho16 (zE yhb))
        replace HB:=ybs hb
        clear hb ho16
        refine hK.out _ _ trivial (fun hHeld => ?_)
        clear hK K
        refine ym (some 32) ?_
        exact norm_ (by simp only [putAll,Act.put,List.setIfInBounds_toArray,List.set_cons_zero,List.set_cons_succ]) (hCont (v188) _ ⟨(yr HO189),(yS0 HO_8),yhb⟩)
      rintro v188 w17 ⟨h0_,h1_,h2_⟩
      have n0_ : Aside0 (Kd.R (Kd.int .i64) 3 w17 w.heap.size (fun _=>True) v188 y187):=⟨h0_⟩
      have n1_ : Aside0 (Kd.S (Kd.slice 3 (Kd.int .i64)) 55 w17 w.heap.size (fun k_=>some k_≠(v188 : Value).ownBlock) u8 x8_2):=⟨h1_⟩
      have n2_ : Aside0 (Below w.heap.size w w17):=⟨h2_⟩
      clear HO_8;clear HB;clear h0_ h1_ h2_;have HO189:=n0_;have HO_8:=n1_;have HB:=n2_;clear n0_ n1_ n2_;have hHeld:=trivial
      refine norm_ (a' := ?_) ?_ ?_
      rotate_left
      ·
       simp only [putAll,Act.put,List.setIfInBounds_toArray,List.set_cons_zero,List.set_cons_succ]
       rfl
      obtain ⟨Av9,cv9,ev9⟩:=Kd.R_slice HO189.out
      refine pure_ (i:=5) (N:=some 36) (v:=.agg #[.slice A185_0 (rd_L2 l2 x24_2).length c185_0,v188, .int .i64 t190, .func (.func 74) #[] #[]]) (a' := ?_) #[true,true,true,true,true,true,false,false] rfl rfl (any_of HT_.out (by kernel_rfl)) (fun _ _ _ h=>h) (Or.inl ⟨by rfl, ?_⟩) ?_ ?_

      ·
       intro w'
       rw [ev9]
       first|(go_simp;done)|(go_simp;with_reducible rfl)|(go_simp;rfl)

      rotate_left
      ·
       simp only [Act.put,List.setIfInBounds_toArray,List.set_cons_zero,List.set_cons_succ,i64_w,i32_w]
       rfl
      refine yw 6 37 HT_ (fun K hK => ?_)
      refine event_step (v:=.pointer (some ⟨w17.heap.size,0,none⟩)) (w1:=w17.alloc (.cells #[.slice A185_0 (rd_L2 l2 x24_2).length c185_0,v188, .int .i64 t190, .func (.func 74) #[] #[]] 113 (0,0))) (by rfl) ?hrun ?_
      (case hrun=>(rw [ev9];first|(go_simp;done)|(go_simp;rfl)))
      clear ev9
      have n0_ : Aside0 (Kd.R (Kd.int .i64) 3 (w17.alloc (.cells #[.slice A185_0 (rd_L2 l2 x24_2).length c185_0,v188, .int .i64 t190, .func (.func 74) #[] #[]] 113 (0,0))) w.heap.size (fun _=>True) v188 y187):=⟨zo HO189.out _⟩
      have n1_ : Aside0 (Kd.S (Kd.slice 3 (Kd.int .i64)) 55 (w17.alloc (.cells #[.slice A185_0 (rd_L2 l2 x24_2).length c185_0,v188, .int .i64 t190, .func (.func 74) #[] #[]] 113 (0,0))) w.heap.size (fun k_=>some k_≠(v188 : Value).ownBlock∧k_≠w17.heap.size) u8 x8_2):=⟨Kd.S_alloc (Kd.S_mono (Kd.S_bound HO_8.out) (fun k_ hk=>⟨hk.1,fun e_=>by have:=hk.2.2.1;omega⟩)) _⟩
      have n2_ : Aside0 (Below w.heap.size w (w17.alloc (.cells #[.slice A185_0 (rd_L2 l2 x24_2).length c185_0,v188, .int .i64 t190, .func (.func 74) #[] #[]] 113 (0,0)))):=⟨ze HB.out _⟩
      have n3_ : Aside0 ((w17.alloc (.cells #[.slice A185_0 (rd_L2 l2 x24_2).length c185_0,v188, .int .i64 t190, .func (.func 74) #[] #[]] 113 (0,0))).heap[w17.heap.size]? = some (.cells #[.slice A185_0 (rd_L2 l2 x24_2).length c185_0,v188, .int .i64 t190, .func (.func 74) #[] #[]] 113 (0,0))):=⟨blk_new _ _⟩
      have HBW:=zm (show w.heap.size≤w17.heap.size from zE HB.out)
      have HKB:=zm (show some w17.heap.size≠(v188 : Value).ownBlock from fun e_=>Nat.lt_irrefl _ (Kd.R_lt HO189.out _ e_.symm))
      clear HO189 HO_8 HB hHeld
      generalize w17.alloc (.cells #[.slice A185_0 (rd_L2 l2 x24_2).length c185_0,v188, .int .i64 t190, .func (.func 74) #[] #[]] 113 (0,0))=w18 at n0_ n1_ n2_ n3_ ⊢
      generalize w17.heap.size=B at n1_ n3_ HBW HKB ⊢
      have HO189:=n0_;have HO_8:=n1_;have HB:=n2_;have HS:=n3_;clear n0_ n1_ n2_ n3_
      refine hK.out _ _ trivial (fun hHeld => ?_)
      clear hK K
      refine ym (some 37) ?_
      refine yp 7 11 HT_ ?_
      refine done_ (done_of HT_.out (by kernel_rfl)) ?_
      try go_wp2
      go_loopg [39] k2 (fun kq v_ w' => ∃ (x11_3 : List Int) (x49_3 : Int),Aside0 (alloc_Pulses.l1 kq a0 a1 x8_2 (rd_L2 l2 x24_2) x11_3 l2 (l2.length : Int) x24_2 x49_3=some (r1,r2))∧Aside0 (kq≤k2)∧Aside0 (Kd.S (Kd.slice 3 (Kd.int .i64)) 55 w' w.heap.size (fun k_=>some k_≠(v188 : Value).ownBlock∧k_≠B) u8 x8_2)∧Aside0 (Kd.R (Kd.int .i64) 3 w' w.heap.size (fun _=>True) v188 x11_3)∧Aside0 (Below w.heap.size w w')∧Aside0 (w'.heap[B]? = some (.cells #[.slice A185_0 (rd_L2 l2 x24_2).length c185_0,v188, .int .i64 x49_3, .func (.func 74) #[] #[]] 113 (0,0))))
      case atStart=>exact ⟨(y187),(t190),H',⟨Nat.le_refl _⟩,⟨yr HO_8⟩,⟨yr HO189⟩,⟨yhb⟩,⟨(yk HS)⟩⟩
      case round =>
       clear H'
       try clear c8b0
       try clear c9b0
       try clear c10b0
       try clear hx185_0
       try clear p185
       try clear q185
       obtain ⟨x11_3,x49_3,HA,HK3,HO_8,HO_11,HB,HS⟩:=hrel
       obtain ⟨k3,rfl⟩:=ysu gk (fun h=>by subst h;exact absurd HA.out (by simp [alloc_Pulses.l1]))
       have H:=HA.out;clear HA
       simp only [alloc_Pulses.l1] at H
       replace H:=ybi H;obtain ⟨⟨t191,t192,t193⟩,A18,H⟩:=H
       try dsimp only at H
       by_cases c19 : t192=true
       ·
        subst c19
        rw [if_pos rfl] at H
        have H' := zm H
        clear H
        obtain ⟨Ao20,co20,eo20⟩:=Kd.R_slice HO_11.out
        subst eo20
        go_wp2_with (first|((with_reducible refine gate_callee (f:=75) rfl ?_);refine ygl 39 Try.func75 #[.pointer (some ⟨B,0,none⟩)] ?_;(with_reducible refine (alloc_give.calls k3 B A185_0 c185_0 (rd_L2 l2 x24_2) (fun k_=>some k_=(.slice Ao20 x11_3.length co20 : Value).ownBlock) (.slice Ao20 x11_3.length co20) x11_3 x49_3 t191 true t193 w _ ?side1 ?side2 HC185_0.out ?side4 ?side5 HBW.out ?side7 A18.out).mono ?_);(case side1=>exact yhb);(case side2=>exact Kd.C_kept_came (Kd.heap_int .i64) HR185_0.out yhb (fun k_ hs_=>(fun e_=>Kd.R_base HO_11.out k_ e_.symm) hs_));(case side4=>exact Kd.R_tight rfl HO_11.out);(case side5=>exact fun e_=>HKB.out e_);(case side7=>exact (yk HS));rintro e w21 ⟨rfl,hy0,hb,hkp,hs9⟩;refine ⟨_,rfl, ?_⟩;have hs1 : w21.cell? ⟨B,1,none⟩=some (.slice Ao20 x11_3.length co20):=(zs hs9 1).trans rfl;have n0_:=zm (Kd.S_mono (ok' := fun k_=>some k_≠(.slice Ao20 x11_3.length co20 : Value).ownBlock∧k_≠B) (Kd.S_keptB (HO_8.out) hkp (fun k_ hk_ hs_=>hs_.elim hk_.1 hk_.2)) (fun k_ hk_=>hk_.1));have n1_:=zm (Kd.R_reok rfl hy0 (fun k_ e_=>HO_11.out.1 k_ e_));have n2_:=zm (hb);clear HO_8;clear HO_11;clear HB;clear HS;have HS:=zm hs9;clear hs9;have HO_8:=n0_;have HO_11:=n1_;have HB:=n2_;clear n0_ n1_ n2_;(try clear hb);(try clear hkp);(try clear hy0)))
        go_roundg k3
        case measure=>exact yom3 HJ3 HK2 HK3
        case rel=>exact ⟨(t193),(t191),H',⟨yom3 HJ3 HK2 HK3⟩,⟨yr HO_8⟩,⟨yr HO_11⟩,⟨yhb⟩,⟨(yk HS)⟩⟩
       ·
        replace c19:=Bool.eq_false_iff.mpr c19
        subst c19
        rw [ynf] at H
        replace H:=yif H;obtain ⟨c22,H⟩:=H
        have LMc22:=zm c22;clear c22
        obtain ⟨y194,hy194⟩ : ∃ y_ : List (List Int),y_=(x8_2 ++ [t193]):=⟨_,rfl⟩
        replace H : (alloc_Pulses.l0 k3 a0 a1 y194 l2 (l2.length : Int) (wrap64 (x24_2+1)))=some (r1,r2):=yrw hy194 H
        have Ny194:=zm hy194;clear hy194
        have H' := zm H
        clear H
        obtain ⟨Ao23,co23,eo23⟩:=Kd.R_slice HO_11.out
        subst eo23
        go_wp2_with (first|((with_reducible refine gate_callee (f:=75) rfl ?_);refine ygl 39 Try.func75 #[.pointer (some ⟨B,0,none⟩)] ?_;(with_reducible refine (alloc_give.calls k3 B A185_0 c185_0 (rd_L2 l2 x24_2) (fun k_=>some k_=(.slice Ao23 x11_3.length co23 : Value).ownBlock) (.slice Ao23 x11_3.length co23) x11_3 x49_3 t191 false t193 w _ ?side1 ?side2 HC185_0.out ?side4 ?side5 HBW.out ?side7 A18.out).mono ?_);(case side1=>exact yhb);(case side2=>exact Kd.C_kept_came (Kd.heap_int .i64) HR185_0.out yhb (fun k_ hs_=>(fun e_=>Kd.R_base HO_11.out k_ e_.symm) hs_));(case side4=>exact Kd.R_tight rfl HO_11.out);(case side5=>exact fun e_=>HKB.out e_);(case side7=>exact (yk HS));rintro e w24 ⟨rfl,hy0,hb,hkp,hs9⟩;refine ⟨_,rfl, ?_⟩;have hs1 : w24.cell? ⟨B,1,none⟩=some (.slice Ao23 x11_3.length co23):=(zs hs9 1).trans rfl;have n0_:=zm (Kd.S_mono (ok' := fun k_=>some k_≠(.slice Ao23 x11_3.length co23 : Value).ownBlock∧k_≠B) (Kd.S_keptB (HO_8.out) hkp (fun k_ hk_ hs_=>hs_.elim hk_.1 hk_.2)) (fun k_ hk_=>hk_.1));have n1_:=zm (Kd.R_reok rfl hy0 (fun k_ e_=>HO_11.out.1 k_ e_));have n2_:=zm (hb);clear HO_8;clear HO_11;clear HB;clear HS;have HS:=zm hs9;clear hs9;have HO_8:=n0_;have HO_11:=n1_;have HB:=n2_;clear n0_ n1_ n2_;(try clear hb);(try clear hkp);(try clear hy0))|((with_reducible refine gate_builtin (b:=.append) (xs := #[.tmp 40, .tmp 45]) rfl ?_);(try (refine gate_guard (by rfl) ?_;dsimp only));at_builtin;refine Kd.S_append (Kd.slice 3 (Kd.int .i64)) (w0:=w) w.heap.size rfl (.tmp 40) (.tmp 45) 25 55 (.slice none 0 0) 24 rfl Try.underlying25 info55 rfl (by decide) (by omega) u8 x8_2 t193 [.slice Ao23 x11_3.length co23] (fun _=>True) (fun k_=>some k_=(.slice Ao23 x11_3.length co23 : Value).ownBlock) rfl rfl ?aP (fun k_ hk_=>((zG (ok' := fun k_=>((fun _=>True)) k_∧some k_≠(u8 : Value).ownBlock) (Kd.R_apart' (HO_11.out) (Kd.S_typed HO_8.out) (by decide)) (fun k_ hk=>⟨trivial,hk.2⟩))).1 k_ hk_.symm) ?aF ?aO ?aB ?aS ?aL ?_;(case aP=>exact Kd.M_row (zG (Kd.R_tight rfl (zG (ok' := fun k_=>((fun _=>True)) k_∧some k_≠(u8 : Value).ownBlock) (Kd.R_apart' (HO_11.out) (Kd.S_typed HO_8.out) (by decide)) (fun k_ hk=>⟨trivial,hk.2⟩))) (fun _ h_=>h_)));(case aB=>exact yhb);(case aF=>exact (fun _ _=>trivial));(case aO=>exact (yS0 HO_8));(case aS=>exact (zE yhb));(case aL=>have:=LMc22.out;omega);intro v195 w25 ho hb hg hat;rw [← Ny194.out] at ho;replace HB:=zm (hb);have HO196:=zm (ho);clear HO_8;clear HO_11;clear ho hb hg hat))
        go_roundg k3
        case measure=>exact yom3 HJ3 HK2 HK3
        case rel=>exact ⟨(y194),(wrap64 (x24_2+1)),yq,H',⟨yom3 HJ3 HK2 HK3⟩,⟨yr HO196⟩,⟨yhb⟩⟩
     ·
      replace c12:=Bool.eq_false_iff.mpr c12
      subst c12
      rw [ynf] at H
      simp only [Option.some.injEq,Prod.mk.injEq] at H
      obtain ⟨rfl,rfl⟩:=H
      have p185 : 0≤(x24_2 : Int):=yt
      have q185 : x24_2 < (l2.length : Int):=yt
      obtain ⟨ad185,A185_0,c185_0,e185,hx185_0,hl185_0,hi185_0⟩:=at_L2 HR2.out x24_2 p185 q185
      cases e185
      replace hx185_0:=yhx HB hx185_0
      have HR185_0:=zm hi185_0;have HC185_0:=zm hl185_0;clear hi185_0 hl185_0
      replace p185:=eq_true p185
      replace q185:=eq_true q185
      go_wp2_with (first|((with_reducible refine gate_callee (f:=72) rfl ?_);refine ygl 29 Try.func72 #[.slice A185_0 (rd_L2 l2 x24_2).length c185_0] ?_;(with_reducible refine (gain_Right.calls k2 _ _ (rd_L2 l2 x24_2) false _ ?side1 HC185_0.out A11.out).mono ?_);(case side1=>exact ycb HR185_0);rintro e w' ⟨rfl,⟨nd,rfl⟩⟩;refine ⟨_,rfl, ?_⟩))
      go_ret2
      exact ⟨_,ye,yn,yhb⟩
    ·
     rw [if_neg c8] at H
     have c8b0 : decide (x24_2 < (l2.length : Int))=false:=decide_eq_false c8
     clear c8
     simp only [Option.some.injEq,Prod.mk.injEq] at H
     obtain ⟨rfl,rfl⟩:=H
     go_wp2
     go_ret2
     exact ⟨_,ye,yr HO_8,yhb⟩
mutual
def cpack_pulses.j0 : Nat→List Int→Int→Bool→Option (Bool)
 | 0,_,_,_=>none
 | k+1,x0,x2,x23=>if x23=true then (some false) else (cpack_pulses.l0 k x2 x0 (x0.length : Int) 0)
def cpack_pulses.l0 : Nat→Int→List Int→Int→Int→Option (Bool)
 | 0,_,_,_,_=>none
 | k+1,x2,x24,x25,x26=>if x26 < x25 then (if 0≤x26 then (if x26 < (x24.length : Int) then (cpack_pulses.l0 k (wrap64 (x2 - (mx (rd x24 x26) (wrap64 (-(rd x24 x26)))))) x24 x25 (wrap64 (x26+1))) else (none)) else (none)) else (some (x2 == 0))
end
def cpack_pulses.f (k : Nat) (l0 : List Int) (a1 : Int) (a2 : Int) : Option (Bool):=(comb_Index.f k l0).bind fun bt281=>(if bt281.2=0 then (cpack_pulses.j0 k l0 a2 ((l0.length : Int) != a1)) else (cpack_pulses.j0 k l0 a2 true))
theorem cpack_pulses.mono_l : ∀ k,(∀ y0 y1 y2,LeO (cpack_pulses.j0 k y0 y1 y2) (cpack_pulses.j0 (k+1) y0 y1 y2))∧(∀ y0 y1 y2 y3,LeO (cpack_pulses.l0 k y0 y1 y2 y3) (cpack_pulses.l0 (k+1) y0 y1 y2 y3))
 | 0=>⟨fun _ _ _ r h=>by simp [cpack_pulses.j0] at h,fun _ _ _ _ r h=>by simp [cpack_pulses.l0] at h⟩
 | k+1=>by
  obtain ⟨ih0,ih1⟩:=cpack_pulses.mono_l k
  refine ⟨?_, ?_⟩
  ·
   intro y0 y1 y2
   unfold cpack_pulses.j0
   repeat' with_reducible first|apply ih0|apply ih1|apply comb_Index.mono|apply yLr|apply yLn|apply yLi|apply yLb|intro _
  ·
   intro y0 y1 y2 y3
   unfold cpack_pulses.l0
   repeat' with_reducible first|apply ih0|apply ih1|apply comb_Index.mono|apply yLr|apply yLn|apply yLi|apply yLb|intro _
theorem cpack_pulses.mono : ∀ a0 a1 a2 k,LeO (cpack_pulses.f k a0 a1 a2) (cpack_pulses.f (k+1) a0 a1 a2):=by
 intro a0 a1 a2 k
 obtain ⟨ih0,ih1⟩:=cpack_pulses.mono_l k
 unfold cpack_pulses.f
 repeat' with_reducible first|apply ih0|apply ih1|apply comb_Index.mono|apply yLr|apply yLn|apply yLi|apply yLb|intro _
set_option maxHeartbeats 8000000 in
set_option maxRecDepth 100000 in
theorem cpack_pulses.calls (k : Nat) (A0 : Option Addr) (c0 : Nat) (l0 : List Int) (a1 : Int) (a2 : Int) (r : Bool) (w : World) (hr0 : Kd.C (Kd.int .i64) w A0 l0.length l0) (hc0 : l0.length≤c0) (h : cpack_pulses.f k l0 a1 a2=some r) :
  Calls Try.prog 59 #[.slice A0 l0.length c0, .int .i64 a1, .int .i64 a2] w fun e w' => e=.returned (.bool r)∧Below w.heap.size w w' := by
 have HR0:=zm hr0;have HC0:=zm hc0;clear hr0 hc0;have HB:=zm (Below.refl w.heap.size w)
 have H : ((comb_Index.f k l0).bind fun bt281=>(if bt281.2=0 then (cpack_pulses.j0 k l0 a2 ((l0.length : Int) != a1)) else (cpack_pulses.j0 k l0 a2 true)))=some r:=h
 clear h
 replace H:=ybi H;obtain ⟨⟨t281,t282⟩,A4,H⟩:=H
 try dsimp only at H
 have HC5:=zm H;clear H
 go_enter Try.func59,Try.ntmps59
 go_upto_region 2 with (first|((with_reducible refine gate_callee (f:=49) rfl ?_);refine ygl 13 Try.func49 #[.slice A0 l0.length c0] ?_;(with_reducible refine (comb_Index.calls k _ _ l0 t281 t282 _ ?side1 HC0.out A4.out).mono ?_);(case side1=>exact yce HR0.out);rintro e w6 ⟨rfl,hb⟩;refine ⟨_,rfl, ?_⟩;replace HB:=ybs hb;(try clear hb)))
 (try simp only [Act.put,List.setIfInBounds_toArray,List.set_cons_zero,List.set_cons_succ])
 go_cut [23] (fun v23 wc => ∃ (kq : Nat) (x23_4 : Bool),v23=.bool x23_4∧Aside0 (cpack_pulses.j0 kq l0 a2 x23_4=some r)∧Aside0 (kq≤k)∧Aside0 (Below w.heap.size w wc))
 case first =>
  have H:=HC5.out;clear HC5
  by_cases c7 : t282=0
  ·
   rw [if_pos c7] at H
   have c7b0 : (t282 == 0)=true:=beq_iff_eq.mpr c7
   have c7b1 : (t282 != 0)=false:=bne_eq_false_iff_eq.mpr c7
   clear c7
   (first|rw [c7b0]|(simp only [i64_w,i32_w];rw [c7b0])|skip)
   have H' := zm H
   clear H
   go_wp2
   go_meet
   case rel=>exact ⟨_,(((l0.length : Int) != a1)),yq,H',⟨yo⟩,⟨yhb⟩⟩
  ·
   rw [if_neg c7] at H
   have c7b0 : (t282 == 0)=false:=beq_eq_false_iff_ne.mpr c7
   have c7b1 : (t282 != 0)=true:=bne_iff_ne.mpr c7
   (first|rw [c7b0]|(simp only [i64_w,i32_w];rw [c7b0])|skip)
   have H' := zm H
   clear H
   go_wp2
   go_meet
   case rel=>exact ⟨_,(true),yq,H',⟨yo⟩,⟨yhb⟩⟩
 case rest =>
  clear HC5
  obtain ⟨kq,x23_4,rfl,HA,HJ4,HB⟩:=hcut
  obtain ⟨kj4,rfl⟩:=ysu kq (fun h=>by subst h;exact absurd HA.out (by simp [cpack_pulses.j0]))
  have H:=HA.out;clear HA
  simp only [cpack_pulses.j0] at H
  by_cases c8 : x23_4=true
  ·
   subst c8
   rw [if_pos rfl] at H
   obtain rfl:=Option.some.inj H
   go_wp2
   go_ret
   exact ⟨ye,yhb⟩
  ·
   replace c8:=Bool.eq_false_iff.mpr c8
   subst c8
   rw [ynf] at H
   have H' := zm H
   clear H
   go_wp2
   go_loopg [2,26] kj4 (fun kq v2 v26 w' => ∃ (x2_2 : Int) (x26_2 : Int),v2=.int .i64 x2_2∧v26=.int .i64 x26_2∧Aside0 (cpack_pulses.l0 kq x2_2 l0 (l0.length : Int) x26_2=some r)∧Aside0 (kq≤kj4)∧Aside0 (Below w.heap.size w w'))
   case atStart=>exact ⟨(a2),(0),yq,yq,H',⟨Nat.le_refl _⟩,⟨yhb⟩⟩
   case round =>
    clear H'
    obtain ⟨x2_2,x26_2,rfl,rfl,HA,HK2,HB⟩:=hrel
    obtain ⟨k2,rfl⟩:=ysu gk (fun h=>by subst h;exact absurd HA.out (by simp [cpack_pulses.l0]))
    have H:=HA.out;clear HA
    simp only [cpack_pulses.l0] at H
    by_cases c9 : x26_2 < (l0.length : Int)
    ·
     rw [if_pos c9] at H
     have c9b0 : decide (x26_2 < (l0.length : Int))=true:=decide_eq_true c9
     clear c9
     replace H:=yif H;obtain ⟨c10,H⟩:=H
     have c10b0 : decide (0≤x26_2)=true:=decide_eq_true c10
     clear c10
     replace H:=yif H;obtain ⟨c11,H⟩:=H
     have c11b0 : decide (x26_2 < (l0.length : Int))=true:=decide_eq_true c11
     clear c11
     obtain ⟨ji12,hji12⟩ : ∃ j_ : Int,(mx (rd l0 x26_2) (wrap64 (-(rd l0 x26_2))))=j_:=⟨_,rfl⟩
     replace H : (cpack_pulses.l0 k2 (wrap64 (x2_2 - (ji12))) l0 (l0.length : Int) (wrap64 (x26_2+1)))=some r:=by first|(rw [hji12] at H;exact H)|(simp only [hji12] at H ⊢; exact H)
     have hji12_ : (if (rd l0 x26_2) < (wrap64 (-(rd l0 x26_2))) then (wrap64 (-(rd l0 x26_2))) else (rd l0 x26_2))=ji12:=hji12
     have H' := zm H
     clear H
     have p283 : 0≤(x26_2 : Int):=yt
     have q283 : x26_2 < (l0.length : Int):=yt
     obtain ⟨ad283,e283,hx283_0⟩:=Kd.at_int HR0.out x26_2 p283 q283
     cases e283
     replace hx283_0:=yhx HB hx283_0
     replace p283:=eq_true p283
     replace q283:=eq_true q283
     go_wp2
     go_roundg k2
     case measure=>exact yom2 HJ4 HK2
     case rel=>exact ⟨(wrap64 (x2_2 - (ji12))),(wrap64 (x26_2+1)),(by first|rfl|(simp;done)|(simp only [← hji12] <;> (first|rfl|simp))|(simp [*];done)),yq,H',⟨yom2 HJ4 HK2⟩,⟨yhb⟩⟩
    ·
     rw [if_neg c9] at H
     have c9b0 : decide (x26_2 < (l0.length : Int))=false:=decide_eq_false c9
     clear c9
     obtain rfl:=Option.some.inj H
     go_wp2
     go_ret
     exact ⟨ye,yhb⟩
mutual
def cpack_Right.j0 : Nat→List (List Int)→Bool→Bool→List (List Int)→List (List (List Int))→Option (Bool)
 | 0,_,_,_,_,_=>none
 | k+1,x7,x29,x285000,x285001,x285002=>if x29=true then (some false) else (cpack_Right.l0 k x7 x285002 (x285002.length : Int) 0)
def cpack_Right.l0 : Nat→List (List Int)→List (List (List Int))→Int→Int→Option (Bool)
 | 0,_,_,_,_=>none
 | k+1,x7,x31,x32,x33=>if x33 < x32 then (if 0≤x33 then (if x33 < (x31.length : Int) then (if ((rd_L4 x31 x33).length : Int)=5 then (cpack_Right.l1 k x7 x33 x31 x32 x33 (rd_L4 x31 x33) ((rd_L4 x31 x33).length : Int) 0) else (some false)) else (none)) else (none)) else (some true)
def cpack_Right.l1 : Nat→List (List Int)→Int→List (List (List Int))→Int→Int→List (List Int)→Int→Int→Option (Bool)
 | 0,_,_,_,_,_,_,_,_=>none
 | k+1,x7,x9,x31,x32,x33,x41,x42,x43=>if x43 < x42 then (if 0≤x43 then (if x43 < (x41.length : Int) then ((band_Width.f x43).bind fun t291=>(if 0≤x9 then (if x9 < (x7.length : Int) then (if x43 < ((rd_L2 x7 x9).length : Int) then ((cpack_pulses.f k (rd_L2 x41 x43) t291 (rd (rd_L2 x7 x9) x43)).bind fun t294=>(if t294=true then (cpack_Right.l1 k x7 x9 x31 x32 x33 x41 x42 (wrap64 (x43+1))) else (some false))) else (none)) else (none)) else (none))) else (none)) else (none)) else (cpack_Right.l0 k x7 x31 x32 (wrap64 (x33+1)))
end
def cpack_Right.f (k : Nat) (a0 : Int) (a1 : Int) (a2_0 : Bool) (l2_1 : List (List Int)) (l2_2 : List (List (List Int))) : Option (Bool):=(alloc_Pulses.f k a0 a1 l2_1).bind fun bt285=>(if bt285.2=0 then (cpack_Right.j0 k bt285.1 ((l2_2.length : Int) != a1) a2_0 l2_1 l2_2) else (cpack_Right.j0 k bt285.1 true a2_0 l2_1 l2_2))
theorem cpack_Right.mono_l : ∀ k,(∀ y0 y1 y2 y3 y4,LeO (cpack_Right.j0 k y0 y1 y2 y3 y4) (cpack_Right.j0 (k+1) y0 y1 y2 y3 y4))∧(∀ y0 y1 y2 y3,LeO (cpack_Right.l0 k y0 y1 y2 y3) (cpack_Right.l0 (k+1) y0 y1 y2 y3))∧(∀ y0 y1 y2 y3 y4 y5 y6 y7,LeO (cpack_Right.l1 k y0 y1 y2 y3 y4 y5 y6 y7) (cpack_Right.l1 (k+1) y0 y1 y2 y3 y4 y5 y6 y7))
 | 0=>⟨fun _ _ _ _ _ r h=>by simp [cpack_Right.j0] at h,fun _ _ _ _ r h=>by simp [cpack_Right.l0] at h,fun _ _ _ _ _ _ _ _ r h=>by simp [cpack_Right.l1] at h⟩
 | k+1=>by
  obtain ⟨ih0,ih1,ih2⟩:=cpack_Right.mono_l k
  refine ⟨?_, ?_, ?_⟩
  ·
   intro y0 y1 y2 y3 y4
   unfold cpack_Right.j0
   repeat' with_reducible first|apply ih0|apply ih1|apply ih2|apply alloc_Pulses.mono|apply cpack_pulses.mono|apply yLr|apply yLn|apply yLi|apply yLb|intro _
  ·
   intro y0 y1 y2 y3
   unfold cpack_Right.l0
   repeat' with_reducible first|apply ih0|apply ih1|apply ih2|apply alloc_Pulses.mono|apply cpack_pulses.mono|apply yLr|apply yLn|apply yLi|apply yLb|intro _
  ·
   intro y0 y1 y2 y3 y4 y5 y6 y7
   unfold cpack_Right.l1
   repeat' with_reducible first|apply ih0|apply ih1|apply ih2|apply alloc_Pulses.mono|apply cpack_pulses.mono|apply yLr|apply yLn|apply yLi|apply yLb|intro _
theorem cpack_Right.mono : ∀ a0 a1 a2 a3 a4 k,LeO (cpack_Right.f k a0 a1 a2 a3 a4) (cpack_Right.f (k+1) a0 a1 a2 a3 a4):=by
 intro a0 a1 a2 a3 a4 k
 obtain ⟨ih0,ih1,ih2⟩:=cpack_Right.mono_l k
 unfold cpack_Right.f
 repeat' with_reducible first|apply ih0|apply ih1|apply ih2|apply alloc_Pulses.mono|apply cpack_pulses.mono|apply yLr|apply yLn|apply yLi|apply yLb|intro _
def cpack_Right.T12 : Bool × List (List Nat × List Nat):=(true, [([], []),([], []),([1], [1]),([], []),([], []),([3,4], [3,4]),([5], [5]),([], []),([6,7], [6,7]),([8], [8]),([0,2,9,2], [0,2,9]),([10], [10])])
def cpack_Right.B12 : List Nat := [0,0,2,0,0,24,56,0,248,504,1023,2047]
theorem cpack_Right.tab12 : rtab .any (opsOf Try.f17 12)=cpack_Right.T12:=by kernel_rfl
theorem cpack_Right.bits12 : waitsOk cpack_Right.T12.2 cpack_Right.B12=true:=by kernel_rfl
set_option maxHeartbeats 8000000 in
set_option maxRecDepth 100000 in
theorem cpack_Right.calls (k : Nat) (a0 : Int) (a1 : Int) (a2_0 : Bool) (A2_1 : Option Addr) (c2_1 : Nat) (l2_1 : List (List Int)) (A2_2 : Option Addr) (c2_2 : Nat) (l2_2 : List (List (List Int))) (r : Bool) (w : World) (hr2_1 : Kd.C (Kd.slice 3 (Kd.int .i64)) w A2_1 l2_1.length l2_1) (hc2_1 : l2_1.length≤c2_1) (hr2_2 : Kd.C (Kd.slice 55 (Kd.slice 3 (Kd.int .i64))) w A2_2 l2_2.length l2_2) (hc2_2 : l2_2.length≤c2_2) (h : cpack_Right.f k a0 a1 a2_0 l2_1 l2_2=some r) :
  Calls Try.prog 17 #[.int .i64 a0, .int .i64 a1, .agg #[.bool a2_0, .slice A2_1 l2_1.length c2_1, .slice A2_2 l2_2.length c2_2]] w fun e w' => e=.returned (.bool r)∧Below w.heap.size w w' := by
 have hu31:=Try.underlying31;have HR2_1:=zm hr2_1;have HC2_1:=zm hc2_1;clear hr2_1 hc2_1;have HR2_2:=zm hr2_2;have HC2_2:=zm hc2_2;clear hr2_2 hc2_2;have HB:=zm (Below.refl w.heap.size w)
 have H : ((alloc_Pulses.f k a0 a1 l2_1).bind fun bt285=>(if bt285.2=0 then (cpack_Right.j0 k bt285.1 ((l2_2.length : Int) != a1) a2_0 l2_1 l2_2) else (cpack_Right.j0 k bt285.1 true a2_0 l2_1 l2_2)))=some r:=h
 clear h
 replace H:=ybi H;obtain ⟨⟨t285,t286⟩,A4,H⟩:=H
 try dsimp only at H
 have HC5:=zm H;clear H
 go_enter Try.func17,Try.ntmps17
 go_upto_region 2 with (first|((with_reducible refine gate_dst (N:=5) rfl ?_);(try (refine gate_guard (by rfl) ?_;dsimp only));refine ybx 5 #[.bool a2_0, .slice A2_1 l2_1.length c2_1, .slice A2_2 l2_2.length c2_2] 31 ?_;intro gb284 hg w6 hbox hb;have BK284:=zm (hbox);have GW284:=ygw hg;have GE284:=ygw hg;replace HB:=ybs hb;clear hb hbox hg;obtain ⟨hcz7_0,hcz7_1,hcz7_2,hfz7_0,hfz7_1,hfz7_2⟩:=yc3 BK284)|((with_reducible refine gate_callee (f:=37) rfl ?_);refine ygl 18 Try.func37 #[.int .i64 a0, .int .i64 a1, .slice A2_1 l2_1.length c2_1] ?_;(with_reducible refine (alloc_Pulses.calls k a0 a1 _ _ l2_1 t285 t286 _ ?side1 HC2_1.out A4.out).mono ?_);(case side1=>exact ycb HR2_1);rintro e w8 ⟨v287,rfl,ho0,hb⟩;refine ⟨_,rfl, ?_⟩;have HO288:=zm (Kd.S_lower ho0 (zE yhb));replace BK284:=ybb BK284 hb;replace HB:=ybs hb;(try clear hb);(try clear ho0)))
 (try simp only [Act.put,List.setIfInBounds_toArray,List.set_cons_zero,List.set_cons_succ])
 go_cut [29] (fun v29 wc => ∃ (kq : Nat) (x29_4 : Bool),v29=.bool x29_4∧Aside0 (cpack_Right.j0 kq t285 x29_4 a2_0 l2_1 l2_2=some r)∧Aside0 (kq≤k)∧Aside0 (Kd.S (Kd.slice 3 (Kd.int .i64)) 55 wc w.heap.size (fun _=>True) v287 t285)∧Aside0 (wc.heap[gb284]? = some (.cells #[.bool a2_0,(.slice A2_1 l2_1.length c2_1),(.slice A2_2 l2_2.length c2_2)] 31 (0,0)))∧Aside0 (Below w.heap.size w wc))
 case first =>
  have H:=HC5.out;clear HC5
  by_cases c9 : t286=0
  ·
   rw [if_pos c9] at H
   have c9b0 : (t286 == 0)=true:=beq_iff_eq.mpr c9
   have c9b1 : (t286 != 0)=false:=bne_eq_false_iff_eq.mpr c9
   clear c9
   (first|rw [c9b0]|(simp only [i64_w,i32_w];rw [c9b0])|skip)
   have H' := zm H
   clear H
   obtain ⟨_,_,_,_,_,_⟩:=yc3 BK284
   go_wp2
   go_meet
   case rel=>exact ⟨_,(((l2_2.length : Int) != a1)),yq,H',⟨yo⟩,⟨yr HO288⟩,⟨yk BK284⟩,⟨yhb⟩⟩
  ·
   rw [if_neg c9] at H
   have c9b0 : (t286 == 0)=false:=beq_eq_false_iff_ne.mpr c9
   have c9b1 : (t286 != 0)=true:=bne_iff_ne.mpr c9
   (first|rw [c9b0]|(simp only [i64_w,i32_w];rw [c9b0])|skip)
   have H' := zm H
   clear H
   go_wp2
   go_meet
   case rel=>exact ⟨_,(true),yq,H',⟨yo⟩,⟨yr HO288⟩,⟨yk BK284⟩,⟨yhb⟩⟩
 case rest =>
  clear HC5
  try clear hcz7_0
  try clear hcz7_1
  try clear hcz7_2
  try clear hfz7_0
  try clear hfz7_1
  try clear hfz7_2
  obtain ⟨kq,x29_4,rfl,HA,HJ4,HO_7,BK284,HB⟩:=hcut
  obtain ⟨kj4,rfl⟩:=ysu kq (fun h=>by subst h;exact absurd HA.out (by simp [cpack_Right.j0]))
  have H:=HA.out;clear HA
  simp only [cpack_Right.j0] at H
  by_cases c11 : x29_4=true
  ·
   subst c11
   rw [if_pos rfl] at H
   obtain rfl:=Option.some.inj H
   go_wp2
   go_ret
   exact ⟨ye,yhb⟩
  ·
   replace c11:=Bool.eq_false_iff.mpr c11
   subst c11
   rw [ynf] at H
   have H' := zm H
   clear H
   obtain ⟨hcz12_0,hcz12_1,hcz12_2,hfz12_0,hfz12_1,hfz12_2⟩:=yc3 BK284
   go_wp2
   go_loopg [33] kj4 (fun kq v33 w' => ∃ (x33_2 : Int),v33=.int .i64 x33_2∧Aside0 (cpack_Right.l0 kq t285 l2_2 (l2_2.length : Int) x33_2=some r)∧Aside0 (kq≤kj4)∧Aside0 (Kd.S (Kd.slice 3 (Kd.int .i64)) 55 w' w.heap.size (fun _=>True) v287 t285)∧Aside0 (w'.heap[gb284]? = some (.cells #[.bool a2_0,(.slice A2_1 l2_1.length c2_1),(.slice A2_2 l2_2.length c2_2)] 31 (0,0)))∧Aside0 (Below w.heap.size w w'))
   case atStart=>exact ⟨(0),yq,H',⟨Nat.le_refl _⟩,⟨yr HO_7⟩,⟨yk BK284⟩,⟨yhb⟩⟩
   case round =>
    clear H'
    try clear hcz12_0
    try clear hcz12_1
    try clear hcz12_2
    try clear hfz12_0
    try clear hfz12_1
    try clear hfz12_2
    obtain ⟨x33_2,rfl,HA,HK2,HO_7,BK284,HB⟩:=hrel
    obtain ⟨k2,rfl⟩:=ysu gk (fun h=>by subst h;exact absurd HA.out (by simp [cpack_Right.l0]))
    have H:=HA.out;clear HA
    simp only [cpack_Right.l0] at H
    by_cases c13 : x33_2 < (l2_2.length : Int)
    ·
     rw [if_pos c13] at H
     have c13b0 : decide (x33_2 < (l2_2.length : Int))=true:=decide_eq_true c13
     clear c13
     replace H:=yif H;obtain ⟨c14,H⟩:=H
     have c14b0 : decide (0≤x33_2)=true:=decide_eq_true c14
     clear c14
     replace H:=yif H;obtain ⟨c15,H⟩:=H
     have c15b0 : decide (x33_2 < (l2_2.length : Int))=true:=decide_eq_true c15
     clear c15
     by_cases c16 : ((rd_L4 l2_2 x33_2).length : Int)=5
     ·
      rw [if_pos c16] at H
      have c16b0 : (((rd_L4 l2_2 x33_2).length : Int) == 5)=true:=beq_iff_eq.mpr c16
      have c16b1 : (((rd_L4 l2_2 x33_2).length : Int) != 5)=false:=bne_eq_false_iff_eq.mpr c16
      clear c16
      have H' := zm H
      clear H
      have p289 : 0≤(x33_2 : Int):=yt
      have q289 : x33_2 < (l2_2.length : Int):=yt
      obtain ⟨ad289,A289_0,c289_0,e289,hx289_0,hl289_0,hi289_0⟩:=at_L4 HR2_2.out x33_2 p289 q289
      cases e289
      replace hx289_0:=yhx HB hx289_0
      have HR289_0:=zm hi289_0;have HC289_0:=zm hl289_0;clear hi289_0 hl289_0
      replace p289:=eq_true p289
      replace q289:=eq_true q289
      go_wp2
      go_loopg [43] k2 (fun kq v43 w' => ∃ (x43_3 : Int),v43=.int .i64 x43_3∧Aside0 (cpack_Right.l1 kq t285 x33_2 l2_2 (l2_2.length : Int) x33_2 (rd_L4 l2_2 x33_2) ((rd_L4 l2_2 x33_2).length : Int) x43_3=some r)∧Aside0 (kq≤k2)∧Aside0 (Kd.S (Kd.slice 3 (Kd.int .i64)) 55 w' w.heap.size (fun _=>True) v287 t285)∧Aside0 (w'.heap[gb284]? = some (.cells #[.bool a2_0,(.slice A2_1 l2_1.length c2_1),(.slice (some ad289) l2_2.length c2_2)] 31 (0,0)))∧Aside0 (Below w.heap.size w w'))
      case atStart=>exact ⟨(0),yq,H',⟨Nat.le_refl _⟩,⟨yr HO_7⟩,⟨yk BK284⟩,⟨yhb⟩⟩
      case round =>
       clear H'
       try clear c13b0
       try clear c14b0
       try clear c15b0
       try clear c16b0
       try clear c16b1
       try clear hx289_0
       try clear p289
       try clear q289
       obtain ⟨x43_3,rfl,HA,HK3,HO_7,BK284,HB⟩:=hrel
       obtain ⟨k3,rfl⟩:=ysu gk (fun h=>by subst h;exact absurd HA.out (by simp [cpack_Right.l1]))
       have H:=HA.out;clear HA
       simp only [cpack_Right.l1] at H
       by_cases c17 : x43_3 < ((rd_L4 l2_2 x33_2).length : Int)
       ·
        rw [if_pos c17] at H
        have c17b0 : decide (x43_3 < ((rd_L4 l2_2 x33_2).length : Int))=true:=decide_eq_true c17
        clear c17
        replace H:=yif H;obtain ⟨c18,H⟩:=H
        have c18b0 : decide (0≤x43_3)=true:=decide_eq_true c18
        clear c18
        replace H:=yif H;obtain ⟨c19,H⟩:=H
        have c19b0 : decide (x43_3 < ((rd_L4 l2_2 x33_2).length : Int))=true:=decide_eq_true c19
        clear c19
        replace H:=ybi H;obtain ⟨t291,A20,H⟩:=H
        replace H:=yif H;obtain ⟨c21,H⟩:=H
        have c21b0 : decide (0≤x33_2)=true:=decide_eq_true c21
        clear c21
        replace H:=yif H;obtain ⟨c22,H⟩:=H
        have c22b0 : decide (x33_2 < (t285.length : Int))=true:=decide_eq_true c22
        clear c22
        replace H:=yif H;obtain ⟨c23,H⟩:=H
        have c23b0 : decide (x43_3 < ((rd_L2 t285 x33_2).length : Int))=true:=decide_eq_true c23
        clear c23
        replace H:=ybi H;obtain ⟨t294,A24,H⟩:=H
        by_cases c25 : t294=true
        ·
         subst c25
         rw [if_pos rfl] at H
         have H' := zm H
         clear H
         have p290 : 0≤(x43_3 : Int):=yt
         have q290 : x43_3 < ((rd_L4 l2_2 x33_2).length : Int):=yt
         obtain ⟨ad290,A290_0,c290_0,e290,hx290_0,hl290_0,hi290_0⟩:=at_L2 HR289_0.out x43_3 p290 q290
         cases e290
         replace hx290_0:=yhx HB hx290_0
         have HR290_0:=zm hi290_0;have HC290_0:=zm hl290_0;clear hi290_0 hl290_0
         replace p290:=eq_true p290
         replace q290:=eq_true q290
         try go_wp2
         replace HO_7:=zm (Kd.S_drew HO_7.out)
         replace BK284:=zm (zj BK284.out)
         replace HB:=zm (zf HB.out)
         obtain ⟨Ao27,co27,eo27⟩:=Kd.S_slice HO_7.out
         (first|subst eo27|(injection eo27 with f1_ f2_ f3_;have f4_:=f1_.symm;have f5_:=f3_.symm;clear f1_ f2_ f3_;subst f4_;subst f5_))
         have p292 : 0≤(x33_2 : Int):=yt
         have q292 : x33_2 < (t285.length : Int):=yt
         obtain ⟨ad292,A292_0,c292_0,e292,hx292_0,hl292_0,hi292_0⟩:=at_L2 (Kd.S_reads' HO_7.out).2.2 x33_2 p292 q292
         cases e292
         obtain ⟨ce292,hce292,hMe292,hcc292⟩:=Kd.S_get HO_7.out [] x33_2 p292 (by first|exact q292|exact yt|(have e_:=(Kd.S_reads' HO_7.out).1;omega))
         obtain ⟨ve292_0,rfl,ge292_0⟩:=hMe292
         have hv292_0:=hcc292 0 _ rfl
         rw [Nat.add_zero,show ((Kd.slice 3 (Kd.int .i64))).sz=1 from rfl,Nat.mul_one] at hv292_0
         replace hv292_0:=Option.some.inj (hv292_0.symm.trans hx292_0)
         rw [hv292_0] at ge292_0
         have HL292_0:=zm (show Kd.R (Kd.int .i64) 3 _ _ _ _ (rd_L2 t285 x33_2) from ge292_0)
         clear hv292_0 ge292_0;clear hcc292 hce292;have HR292_0:=zm hi292_0;have HC292_0:=zm hl292_0;clear hi292_0 hl292_0
         replace p292:=eq_true p292
         replace q292:=eq_true q292
         obtain ⟨ad293,e293,hx293_0,p293,q293⟩:=yai HR292_0 x43_3
         cases e293
         refine yst (fun w' => w'.cell? (ad292.add (x33_2).toNat)=some (.slice (some ad293) (rd_L2 t285 x33_2).length c292_0)∧w'.cell? (ad293.add (x43_3).toNat)=some (.int .i64 (rd (rd_L2 t285 x33_2) x43_3))) [] 12 cpack_Right.tab12 cpack_Right.bits12 (fun hHeld HT_ HW_ => ?_)
         generalize wr.drew=w26 at HO_7 BK284 HB HL292_0 HR292_0 hx292_0 hx293_0 hHeld ⊢
         refine yp 0 48 HT_ ?_
         refine yp 1 49 HT_ ?_
         refine yp 3 51 HT_ ?_
         refine yp 4 52 HT_ ?_
         refine yp 5 53 HT_ ?_
         refine yp 7 55 HT_ ?_
         refine yl 6 54 HT_ HW_ hHeld ?_
         refine yp 8 56 HT_ ?_
         refine yl 9 57 HT_ HW_ hHeld ?_
         refine yw 2 50 HT_ (fun K hK => ?_)
         refine ygs Try.func48 #[.int .i64 x43_3] ?_
         with_reducible refine (band_Width.calls x43_3 t291 _ A20.out).mono ?_
         rintro e w28 ⟨rfl,hb⟩
         have HS0_:=yhs hb hHeld.1
         have HS1_:=yhs hb hHeld.2
         refine ⟨_,rfl, ?_⟩
         replace HO_7:=ySb HO_7 hb
         replace HL292_0:=yRb HL292_0 hb
         replace BK284:=ybb BK284 hb
         replace HR292_0:=yCb HR292_0 hb
         replace HB:=ybs hb
         (try clear hb)
         refine hK.out _ _ yH (fun hHeld => ?_)
         clear hK K
         refine ym (some 50) ?_
         refine yw 10 58 HT_ (fun K hK => ?_)
         refine ygs Try.func59 #[.slice A290_0 (rd_L2 (rd_L4 l2_2 x33_2) x43_3).length c290_0, .int .i64 t291, .int .i64 (rd (rd_L2 t285 x33_2) x43_3)] ?_
         with_reducible refine (cpack_pulses.calls k3 _ _ (rd_L2 (rd_L4 l2_2 x33_2) x43_3) t291 (rd (rd_L2 t285 x33_2) x43_3) true _ ?side1 ?side2 A24.out).mono ?_
         (case side1=>exact ycb HR290_0)
         (case side2=>exact HC290_0.out)
         rintro e w29 ⟨rfl,hb⟩
         have HS0_:=yhs hb hHeld.1
         have HS1_:=yhs hb hHeld.2
         refine ⟨_,rfl, ?_⟩
         replace HO_7:=ySb HO_7 hb
         replace HL292_0:=yRb HL292_0 hb
         replace BK284:=ybb BK284 hb
         replace HR292_0:=yCb HR292_0 hb
         replace HB:=ybs hb
         (try clear hb)
         refine hK.out _ _ yH (fun hHeld => ?_)
         clear hK K
         refine ym (some 58) ?_
         refine yp 11 59 HT_ ?_
         refine done_ (done_of HT_.out (by kernel_rfl)) ?_
         try go_wp2
         go_roundg k3
         case measure=>exact yom3 HJ4 HK2 HK3
         case rel=>exact ⟨(wrap64 (x43_3+1)),yq,H',⟨yom3 HJ4 HK2 HK3⟩,⟨yr HO_7⟩,⟨yk BK284⟩,⟨yhb⟩⟩
        ·
         replace c25:=Bool.eq_false_iff.mpr c25
         subst c25
         rw [ynf] at H
         obtain rfl:=Option.some.inj H
         have p290 : 0≤(x43_3 : Int):=yt
         have q290 : x43_3 < ((rd_L4 l2_2 x33_2).length : Int):=yt
         obtain ⟨ad290,A290_0,c290_0,e290,hx290_0,hl290_0,hi290_0⟩:=at_L2 HR289_0.out x43_3 p290 q290
         cases e290
         replace hx290_0:=yhx HB hx290_0
         have HR290_0:=zm hi290_0;have HC290_0:=zm hl290_0;clear hi290_0 hl290_0
         replace p290:=eq_true p290
         replace q290:=eq_true q290
         try go_wp2
         replace HO_7:=zm (Kd.S_drew HO_7.out)
         replace BK284:=zm (zj BK284.out)
         replace HB:=zm (zf HB.out)
         obtain ⟨Ao31,co31,eo31⟩:=Kd.S_slice HO_7.out
         (first|subst eo31|(injection eo31 with f1_ f2_ f3_;have f4_:=f1_.symm;have f5_:=f3_.symm;clear f1_ f2_ f3_;subst f4_;subst f5_))
         have p292 : 0≤(x33_2 : Int):=yt
         have q292 : x33_2 < (t285.length : Int):=yt
         obtain ⟨ad292,A292_0,c292_0,e292,hx292_0,hl292_0,hi292_0⟩:=at_L2 (Kd.S_reads' HO_7.out).2.2 x33_2 p292 q292
         cases e292
         obtain ⟨ce292,hce292,hMe292,hcc292⟩:=Kd.S_get HO_7.out [] x33_2 p292 (by first|exact q292|exact yt|(have e_:=(Kd.S_reads' HO_7.out).1;omega))
         obtain ⟨ve292_0,rfl,ge292_0⟩:=hMe292
         have hv292_0:=hcc292 0 _ rfl
         rw [Nat.add_zero,show ((Kd.slice 3 (Kd.int .i64))).sz=1 from rfl,Nat.mul_one] at hv292_0
         replace hv292_0:=Option.some.inj (hv292_0.symm.trans hx292_0)
         rw [hv292_0] at ge292_0
         have HL292_0:=zm (show Kd.R (Kd.int .i64) 3 _ _ _ _ (rd_L2 t285 x33_2) from ge292_0)
         clear hv292_0 ge292_0;clear hcc292 hce292;have HR292_0:=zm hi292_0;have HC292_0:=zm hl292_0;clear hi292_0 hl292_0
         replace p292:=eq_true p292
         replace q292:=eq_true q292
         obtain ⟨ad293,e293,hx293_0,p293,q293⟩:=yai HR292_0 x43_3
         cases e293
         refine yst (fun w' => w'.cell? (ad292.add (x33_2).toNat)=some (.slice (some ad293) (rd_L2 t285 x33_2).length c292_0)∧w'.cell? (ad293.add (x43_3).toNat)=some (.int .i64 (rd (rd_L2 t285 x33_2) x43_3))) [] 12 cpack_Right.tab12 cpack_Right.bits12 (fun hHeld HT_ HW_ => ?_)
         generalize wr.drew=w30 at HO_7 BK284 HB HL292_0 HR292_0 hx292_0 hx293_0 hHeld ⊢
         refine yp 0 48 HT_ ?_
         refine yp 1 49 HT_ ?_
         refine yp 3 51 HT_ ?_
         refine yp 4 52 HT_ ?_
         refine yp 5 53 HT_ ?_
         refine yp 7 55 HT_ ?_
         refine yl 6 54 HT_ HW_ hHeld ?_
         refine yp 8 56 HT_ ?_
         refine yl 9 57 HT_ HW_ hHeld ?_
         refine yw 2 50 HT_ (fun K hK => ?_)
         refine ygs Try.func48 #[.int .i64 x43_3] ?_
         with_reducible refine (band_Width.calls x43_3 t291 _ A20.out).mono ?_
         rintro e w32 ⟨rfl,hb⟩
         have HS0_:=yhs hb hHeld.1
         have HS1_:=yhs hb hHeld.2
         refine ⟨_,rfl, ?_⟩
         replace HO_7:=ySb HO_7 hb
         replace HL292_0:=yRb HL292_0 hb
         replace BK284:=ybb BK284 hb
         replace HR292_0:=yCb HR292_0 hb
         replace HB:=ybs hb
         (try clear hb)
         refine hK.out _ _ yH (fun hHeld => ?_)
         clear hK K
         refine ym (some 50) ?_
         refine yw 10 58 HT_ (fun K hK => ?_)
         refine ygs Try.func59 #[.slice A290_0 (rd_L2 (rd_L4 l2_2 x33_2) x43_3).length c290_0, .int .i64 t291, .int .i64 (rd (rd_L2 t285 x33_2) x43_3)] ?_
         with_reducible refine (cpack_pulses.calls k3 _ _ (rd_L2 (rd_L4 l2_2 x33_2) x43_3) t291 (rd (rd_L2 t285 x33_2) x43_3) false _ ?side1 ?side2 A24.out).mono ?_
         (case side1=>exact ycb HR290_0)
         (case side2=>exact HC290_0.out)
         rintro e w33 ⟨rfl,hb⟩
         have HS0_:=yhs hb hHeld.1
         have HS1_:=yhs hb hHeld.2
         refine ⟨_,rfl, ?_⟩
         replace HO_7:=ySb HO_7 hb
         replace HL292_0:=yRb HL292_0 hb
         replace BK284:=ybb BK284 hb
         replace HR292_0:=yCb HR292_0 hb
         replace HB:=ybs hb
         (try clear hb)
         refine hK.out _ _ yH (fun hHeld => ?_)
         clear hK K
         refine ym (some 58) ?_
         refine yp 11 59 HT_ ?_
         refine done_ (done_of HT_.out (by kernel_rfl)) ?_
         try go_wp2
         go_ret
         exact ⟨ye,yhb⟩
       ·
        rw [if_neg c17] at H
        have c17b0 : decide (x43_3 < ((rd_L4 l2_2 x33_2).length : Int))=false:=decide_eq_false c17
        clear c17
        have H' := zm H
        clear H
        go_wp2
        go_roundg k3
        case measure=>exact yom3 HJ4 HK2 HK3
        case rel=>exact ⟨(wrap64 (x33_2+1)),yq,H',⟨yom3 HJ4 HK2 HK3⟩,⟨yr HO_7⟩,⟨yk BK284⟩,⟨yhb⟩⟩
     ·
      rw [if_neg c16] at H
      have c16b0 : (((rd_L4 l2_2 x33_2).length : Int) == 5)=false:=beq_eq_false_iff_ne.mpr c16
      have c16b1 : (((rd_L4 l2_2 x33_2).length : Int) != 5)=true:=bne_iff_ne.mpr c16
      obtain rfl:=Option.some.inj H
      have p289 : 0≤(x33_2 : Int):=yt
      have q289 : x33_2 < (l2_2.length : Int):=yt
      obtain ⟨ad289,A289_0,c289_0,e289,hx289_0,hl289_0,hi289_0⟩:=at_L4 HR2_2.out x33_2 p289 q289
      cases e289
      replace hx289_0:=yhx HB hx289_0
      have HR289_0:=zm hi289_0;have HC289_0:=zm hl289_0;clear hi289_0 hl289_0
      replace p289:=eq_true p289
      replace q289:=eq_true q289
      go_wp2
      go_ret
      exact ⟨ye,yhb⟩
    ·
     rw [if_neg c13] at H
     have c13b0 : decide (x33_2 < (l2_2.length : Int))=false:=decide_eq_false c13
     clear c13
     obtain rfl:=Option.some.inj H
     go_wp2
     go_ret
     exact ⟨ye,yhb⟩
mutual
def ccodec_Decode.l0 : Nat→List (List (List Int))→Int→Int→Bool→List (List Int)→List (List (List Int))→List (List Int)→Option ((List (List Int)) × Int)
 | 0,_,_,_,_,_,_,_=>none
 | k+1,x22,x23,x24,x328000,x328001,x328002,x331000=>if x24 < x23 then (if 0≤x24 then (if x24 < (x22.length : Int) then (ccodec_Decode.l1 k x24 ([] : List Int) ([] : List Int) x22 x23 x24 (rd_L4 x22 x24) ((rd_L4 x22 x24).length : Int) 0 x328000 x328001 x328002 x331000) else (none)) else (none)) else (some (x331000,0))
def ccodec_Decode.l1 : Nat→Int→List Int→List Int→List (List (List Int))→Int→Int→List (List Int)→Int→Int→Bool→List (List Int)→List (List (List Int))→List (List Int)→Option ((List (List Int)) × Int)
 | 0,_,_,_,_,_,_,_,_,_,_,_,_,_=>none
 | k+1,x9,x11,x12,x22,x23,x24,x30,x31,x32,x328000,x328001,x328002,x331000=>if x32 < x31 then (if 0≤x32 then (if x32 < (x30.length : Int) then (if 0≤x9 then (if x9 < (x328001.length : Int) then (if x32 < ((rd_L2 x328001 x9).length : Int) then ((ccodec_next.f k (rd_L2 x30 x32) (rd (rd_L2 x328001 x9) x32) x11).bind fun t335=>(if x12.length+t335.length < 17592186044416 then (ccodec_Decode.l1 k x9 t335 (x12 ++ t335) x22 x23 x24 x30 x31 (wrap64 (x32+1)) x328000 x328001 x328002 x331000) else (none))) else (none)) else (none)) else (none)) else (none)) else (none)) else (if x331000.length < 5864062014805 then (ccodec_Decode.l0 k x22 x23 (wrap64 (x24+1)) x328000 x328001 x328002 (x331000 ++ [x12])) else (none))
end
def ccodec_Decode.f (k : Nat) (a0 : Int) (a1 : Int) (a2_0 : Bool) (l2_1 : List (List Int)) (l2_2 : List (List (List Int))) : Option ((List (List Int)) × Int):=(cpack_Right.f k a0 a1 a2_0 l2_1 l2_2).bind fun t329=>(if t329=true then (ccodec_Decode.l0 k l2_2 (l2_2.length : Int) 0 a2_0 l2_1 l2_2 ([] : List (List Int))) else (some (([] : List (List Int)),1)))
theorem ccodec_Decode.mono_l : ∀ k,(∀ y0 y1 y2 y3 y4 y5 y6,LeO (ccodec_Decode.l0 k y0 y1 y2 y3 y4 y5 y6) (ccodec_Decode.l0 (k+1) y0 y1 y2 y3 y4 y5 y6))∧(∀ y0 y1 y2 y3 y4 y5 y6 y7 y8 y9 y10 y11 y12,LeO (ccodec_Decode.l1 k y0 y1 y2 y3 y4 y5 y6 y7 y8 y9 y10 y11 y12) (ccodec_Decode.l1 (k+1) y0 y1 y2 y3 y4 y5 y6 y7 y8 y9 y10 y11 y12))
 | 0=>⟨fun _ _ _ _ _ _ _ r h=>by simp [ccodec_Decode.l0] at h,fun _ _ _ _ _ _ _ _ _ _ _ _ _ r h=>by simp [ccodec_Decode.l1] at h⟩
 | k+1=>by
  obtain ⟨ih0,ih1⟩:=ccodec_Decode.mono_l k
  refine ⟨?_, ?_⟩
  ·
   intro y0 y1 y2 y3 y4 y5 y6
   unfold ccodec_Decode.l0
   repeat' with_reducible first|apply ih0|apply ih1|apply ccodec_next.mono|apply cpack_Right.mono|apply yLr|apply yLn|apply yLi|apply yLb|intro _
  ·
   intro y0 y1 y2 y3 y4 y5 y6 y7 y8 y9 y10 y11 y12
   unfold ccodec_Decode.l1
   repeat' with_reducible first|apply ih0|apply ih1|apply ccodec_next.mono|apply cpack_Right.mono|apply yLr|apply yLn|apply yLi|apply yLb|intro _
theorem ccodec_Decode.mono : ∀ a0 a1 a2 a3 a4 k,LeO (ccodec_Decode.f k a0 a1 a2 a3 a4) (ccodec_Decode.f (k+1) a0 a1 a2 a3 a4):=by
 intro a0 a1 a2 a3 a4 k
 obtain ⟨ih0,ih1⟩:=ccodec_Decode.mono_l k
 unfold ccodec_Decode.f
 repeat' with_reducible first|apply ih0|apply ih1|apply ccodec_next.mono|apply cpack_Right.mono|apply yLr|apply yLn|apply yLi|apply yLb|intro _
/-- The closure, made: its variable is a block of its own. -/
theorem ccodec_bands.calls (w : World) : Calls Try.prog 64 #[] w fun e w' => ∃ B,e=.returned (.func (.func 101) #[] #[.pointer (some ⟨B,0,none⟩)])∧w.heap.size≤B∧w'.heap[B]? = some (.cells #[.slice none 0 0] 53 (0,0))∧Below w.heap.size w w' := by
 have hmf : ∀ (fn : Fn) (first cap : Array Value) (w : World),(Instr.makeFunc fn first cap).run Try.prog w=.ok (.func fn first cap) w:=fun _ _ _ _=>rfl
 go_enter Try.func64,Try.ntmps64
 go_wp2_with (first|((with_reducible refine gate_dst (N:=1) rfl ?_);refine ybx 1 #[.slice none 0 0] 53 ?_;intro gb hg w5 hbox hb))
 go_ret
 exact ⟨gb,by first|rfl|(simp;done),by rw [hg];exact Nat.le_refl _,hbox,hb⟩
/-- Rows over a call that writes one block, which is none of theirs. -/
theorem ccodec_Decode.R_el {α : Type} {d : Kd α} {e base B : Nat} {ok : Nat→Prop} {W w1 : World} {u v : Value} {xs : List α} (h : d.R e W base (fun k=>ok k∧k≠B) v xs) (hk : Kept W w1 (fun k=>k=B)) (hb : ∀ k,u.ownBlock=some k→W.heap.size≤k) : d.R e w1 base (fun k=>ok k∧some k≠u.ownBlock) v xs :=
 zG (Kd.R_keptB h hk (fun _ hk=>hk.2)) (fun k hk=>⟨hk.1.1,fun e_=>Nat.not_le.2 hk.2.2 (hb k e_.symm)⟩)
theorem ccodec_Decode.S_el {α : Type} {d : Kd α} {e base B : Nat} {ok : Nat→Prop} {W w1 : World} {u v : Value} {xs : List α} (h : Kd.S d e W base ok v xs) (hne : ∀ k,ok k→k≠B) (hk : Kept W w1 (fun k=>k=B)) (hb : ∀ k,u.ownBlock=some k→W.heap.size≤k) : Kd.S d e w1 base (fun k=>ok k∧some k≠u.ownBlock) v xs :=
 Kd.S_mono (Kd.S_keptB h hk hne) (fun k hk=>⟨hk.1,fun e_=>Nat.not_le.2 hk.2.2 (hb k e_.symm)⟩)
set_option maxHeartbeats 8000000 in
set_option maxRecDepth 100000 in
theorem ccodec_Decode.calls (k : Nat) (a0 : Int) (a1 : Int) (a2_0 : Bool) (A2_1 : Option Addr) (c2_1 : Nat) (l2_1 : List (List Int)) (A2_2 : Option Addr) (c2_2 : Nat) (l2_2 : List (List (List Int))) (r1 : List (List Int)) (r2 : Int) (w : World) (hr2_1 : Kd.C (Kd.slice 3 (Kd.int .i64)) w A2_1 l2_1.length l2_1) (hc2_1 : l2_1.length≤c2_1) (hr2_2 : Kd.C (Kd.slice 55 (Kd.slice 3 (Kd.int .i64))) w A2_2 l2_2.length l2_2) (hc2_2 : l2_2.length≤c2_2) (h : ccodec_Decode.f k a0 a1 a2_0 l2_1 l2_2=some (r1,r2)) :
  Calls Try.prog 23 #[.int .i64 a0, .int .i64 a1, .agg #[.bool a2_0, .slice A2_1 l2_1.length c2_1, .slice A2_2 l2_2.length c2_2]] w fun e w' => ∃ v0_ : Value,e=.returned (.tuple #[.agg #[v0_], .int .i64 r2])∧Kd.S (Kd.slice 2 (Kd.int .i64)) 53 w' w.heap.size (fun _=>True) v0_ r1∧Below w.heap.size w w' := by
 have hu31:=Try.underlying31;have hu24:=Try.underlying24;have HR2_1:=zm hr2_1;have HC2_1:=zm hc2_1;clear hr2_1 hc2_1;have HR2_2:=zm hr2_2;have HC2_2:=zm hc2_2;clear hr2_2 hc2_2;have HB:=zm (Below.refl w.heap.size w)
 have H : ((cpack_Right.f k a0 a1 a2_0 l2_1 l2_2).bind fun t329=>(if t329=true then (ccodec_Decode.l0 k l2_2 (l2_2.length : Int) 0 a2_0 l2_1 l2_2 ([] : List (List Int))) else (some (([] : List (List Int)),1))))=some (r1,r2):=h
 clear h
 replace H:=ybi H;obtain ⟨t329,A4,H⟩:=H
 by_cases c5 : t329=true
 ·
  subst c5
  rw [if_pos rfl] at H
  have H' := zm H
  clear H
  go_enter Try.func23,Try.ntmps23
  go_wp2_with (first|((with_reducible refine gate_dst (N:=5) rfl ?_);refine ybx 5 #[.bool a2_0, .slice A2_1 l2_1.length c2_1, .slice A2_2 l2_2.length c2_2] 31 ?_;intro gb327 hg w6 hbox hb;have BK327:=zm (hbox);have GW327:=ygw hg;have GE327:=ygw hg;replace HB:=ybs hb;clear hb hbox hg)|((with_reducible refine gate_dst (N:=6) rfl ?_);refine ybx 6 #[.slice none 0 0] 24 ?_;intro gb328 hg w7 hbox hb;have BK328:=zm (hbox);have GW328:=ygw hg;have GE328:=ygw hg;replace HB:=ybs hb;have NB327_328:=ynl BK327 hg;have NB328_327:=yng BK327 hg;replace BK327:=ybb BK327 hb;clear hb hbox hg;have:=NB327_328.out;have:=NB328_327.out;obtain ⟨hcz9_0,hcz9_1,hcz9_2,hfz9_0,hfz9_1,hfz9_2⟩:=yc3 BK327)|((with_reducible refine gate_callee (f:=17) rfl ?_);refine ygl 18 Try.func17 #[.int .i64 a0, .int .i64 a1, .agg #[.bool a2_0, .slice A2_1 l2_1.length c2_1, .slice A2_2 l2_2.length c2_2]] ?_;(with_reducible refine (cpack_Right.calls k a0 a1 a2_0 _ _ l2_1 _ _ l2_2 true _ ?side1 HC2_1.out ?side3 HC2_2.out A4.out).mono ?_);(case side1=>exact ycb HR2_1);(case side3=>exact ycb HR2_2);rintro e w10 ⟨rfl,hb⟩;refine ⟨_,rfl, ?_⟩;replace BK327:=ybb BK327 hb;replace BK328:=ybb BK328 hb;replace HB:=ybs hb;(try clear hb))|((with_reducible refine gate_dst (N:=8) rfl ?_);refine ybx 8 #[.slice none 0 0] 24 ?_;intro gb330 hg w11 hbox hb;have BK330:=zm (hbox);have GW330:=ygw hg;have GE330:=ygw hg;replace HB:=ybs hb;have NB327_330:=ynl BK327 hg;have NB330_327:=yng BK327 hg;replace BK327:=ybb BK327 hb;have NB328_330:=ynl BK328 hg;have NB330_328:=yng BK328 hg;replace BK328:=ybb BK328 hb;clear hb hbox hg;have:=NB327_330.out;have:=NB330_327.out;obtain ⟨hcz13_0,hcz13_1,hcz13_2,hfz13_0,hfz13_1,hfz13_2⟩:=yc3 BK327))
  go_loopg [24] k (fun kq v24 w' => ∃ (x24_1 : Int) (x331000_1 : List (List Int)) (u331000 : Value),v24=.int .i64 x24_1∧Aside0 (ccodec_Decode.l0 kq l2_2 (l2_2.length : Int) x24_1 a2_0 l2_1 l2_2 x331000_1=some (r1,r2))∧Aside0 (kq≤k)∧Aside0 (Kd.S (Kd.slice 2 (Kd.int .i64)) 53 w' w.heap.size (fun _=>True) u331000 x331000_1)∧Aside0 (w'.heap[gb327]? = some (.cells #[.bool a2_0,(.slice A2_1 l2_1.length c2_1),(.slice A2_2 l2_2.length c2_2)] 31 (0,0)))∧Aside0 (w'.heap[gb328]? = some (.cells #[(.slice none 0 0)] 24 (0,0)))∧Aside0 (w'.heap[gb330]? = some (.cells #[u331000] 24 (0,0)))∧Aside0 (Below w.heap.size w w'))
  case atStart=>exact ⟨(0),(([] : List (List Int))),(.slice none 0 0),yq,H',⟨Nat.le_refl _⟩,⟨yn⟩,⟨yk BK327⟩,⟨yk BK328⟩,⟨yk BK330⟩,⟨yhb⟩⟩
  case round =>
   clear H'
   try clear hcz13_0
   try clear hcz13_1
   try clear hcz13_2
   try clear hcz9_0
   try clear hcz9_1
   try clear hcz9_2
   try clear hfz13_0
   try clear hfz13_1
   try clear hfz13_2
   try clear hfz9_0
   try clear hfz9_1
   try clear hfz9_2
   obtain ⟨x24_1,x331000_1,u331000,rfl,HA,HK1,HO_331000,BK327,BK328,BK330,HB⟩:=hrel
   obtain ⟨k1,rfl⟩:=ysu gk (fun h=>by subst h;exact absurd HA.out (by simp [ccodec_Decode.l0]))
   have H:=HA.out;clear HA
   simp only [ccodec_Decode.l0] at H
   by_cases c14 : x24_1 < (l2_2.length : Int)
   ·
    rw [if_pos c14] at H
    have c14b0 : decide (x24_1 < (l2_2.length : Int))=true:=decide_eq_true c14
    clear c14
    replace H:=yif H;obtain ⟨c15,H⟩:=H
    have c15b0 : decide (0≤x24_1)=true:=decide_eq_true c15
    clear c15
    replace H:=yif H;obtain ⟨c16,H⟩:=H
    have c16b0 : decide (x24_1 < (l2_2.length : Int))=true:=decide_eq_true c16
    clear c16
    have H' := zm H
    clear H
    have p331 : 0≤(x24_1 : Int):=yt
    have q331 : x24_1 < (l2_2.length : Int):=yt
    obtain ⟨ad331,A331_0,c331_0,e331,hx331_0,hl331_0,hi331_0⟩:=at_L4 HR2_2.out x24_1 p331 q331
    cases e331
    replace hx331_0:=yhx HB hx331_0
    have HR331_0:=zm hi331_0;have HC331_0:=zm hl331_0;clear hi331_0 hl331_0
    replace p331:=eq_true p331
    replace q331:=eq_true q331
    go_wp2_with (first|((with_reducible refine gate_callee (f:=64) rfl ?_);refine goesL_ (some 29) rfl rfl Try.func64 (by kernel_rfl) rfl #[] rfl (by first|rfl|simp) ?_;(with_reducible refine (ccodec_bands.calls _).mono ?_);rintro e w9 ⟨B,rfl,hB9,hs9,hb⟩;refine ⟨_,rfl, ?_⟩;have n0_:=zm (Kd.S_below (by (with_reducible repeat (first|apply Kd.S_alloc|apply Kd.S_drewN|apply Kd.S_drew));exact Kd.S_elderB HO_331000.out B hB9) hb);have n1_:=ybb BK327 hb;have n2_:=ybb BK328 hb;have n3_:=ybb BK330 hb;have n4_:=ybs hb;have HBW:=zm (show w.heap.size≤B from Nat.le_trans (zE HB.out) hB9);clear HO_331000 BK327 BK328 BK330 HB;have HO_331000:=n0_;have BK327:=n1_;have BK328:=n2_;have BK330:=n3_;have HB:=n4_;clear n0_ n1_ n2_ n3_ n4_;have HS:=zm hs9;clear hs9 hB9 hb))
    go_loopg [12,32] k1 (fun kq v12 v32 w' => ∃ (x11_2 : List Int) (v11 : Value) (x12_2 : List Int) (x32_2 : Int),v32=.int .i64 x32_2∧Aside0 (ccodec_Decode.l1 kq x24_1 x11_2 x12_2 l2_2 (l2_2.length : Int) x24_1 (rd_L4 l2_2 x24_1) ((rd_L4 l2_2 x24_1).length : Int) x32_2 a2_0 l2_1 l2_2 x331000_1=some (r1,r2))∧Aside0 (kq≤k1)∧Aside0 (Kd.R (Kd.int .i64) 2 w' w.heap.size (fun k_=>some k_≠(v12 : Value).ownBlock) v11 x11_2)∧Aside0 (Kd.R (Kd.int .i64) 2 w' w.heap.size (fun k_=>some k_≠(v11 : Value).ownBlock) v12 x12_2)∧Aside0 (Kd.S (Kd.slice 2 (Kd.int .i64)) 53 w' w.heap.size (fun k_=>(some k_≠(v11 : Value).ownBlock∧k_≠B)∧some k_≠(v12 : Value).ownBlock) u331000 x331000_1)∧Aside0 (w'.heap[gb327]? = some (.cells #[.bool a2_0,(.slice A2_1 l2_1.length c2_1),(.slice (some ad331) l2_2.length c2_2)] 31 (0,0)))∧Aside0 (w'.heap[gb328]? = some (.cells #[(.slice none 0 0)] 24 (0,0)))∧Aside0 (w'.heap[gb330]? = some (.cells #[u331000] 24 (0,0)))∧Aside0 (w'.heap[B]? = some (.cells #[v11] 53 (0,0)))∧Aside0 (Below w.heap.size w w'))
    case atStart=>exact ⟨(([] : List Int)),(.slice none 0 0),(([] : List Int)),(0),yq,H',⟨Nat.le_refl _⟩,⟨yn⟩,⟨yn⟩,⟨yS0 HO_331000⟩,⟨yk BK327⟩,⟨yk BK328⟩,⟨yk BK330⟩,⟨yk HS⟩,⟨yhb⟩⟩
    case round =>
     clear H'
     try clear c14b0
     try clear c15b0
     try clear c16b0
     try clear hx331_0
     try clear p331
     try clear q331
     obtain ⟨x11_2,u11,x12_2,x32_2,rfl,HA,HK2,HO_11,HO_12,HO_331000,BK327,BK328,BK330,HS,HB⟩:=hrel
     obtain ⟨k2,rfl⟩:=ysu gk (fun h=>by subst h;exact absurd HA.out (by simp [ccodec_Decode.l1]))
     have H:=HA.out;clear HA
     simp only [ccodec_Decode.l1] at H
     by_cases c17 : x32_2 < ((rd_L4 l2_2 x24_1).length : Int)
     ·
      rw [if_pos c17] at H
      have c17b0 : decide (x32_2 < ((rd_L4 l2_2 x24_1).length : Int))=true:=decide_eq_true c17
      clear c17
      replace H:=yif H;obtain ⟨c18,H⟩:=H
      have c18b0 : decide (0≤x32_2)=true:=decide_eq_true c18
      clear c18
      replace H:=yif H;obtain ⟨c19,H⟩:=H
      have c19b0 : decide (x32_2 < ((rd_L4 l2_2 x24_1).length : Int))=true:=decide_eq_true c19
      clear c19
      replace H:=yif H;obtain ⟨c20,H⟩:=H
      have c20b0 : decide (0≤x24_1)=true:=decide_eq_true c20
      clear c20
      replace H:=yif H;obtain ⟨c21,H⟩:=H
      have c21b0 : decide (x24_1 < (l2_1.length : Int))=true:=decide_eq_true c21
      clear c21
      replace H:=yif H;obtain ⟨c22,H⟩:=H
      have c22b0 : decide (x32_2 < ((rd_L2 l2_1 x24_1).length : Int))=true:=decide_eq_true c22
      clear c22
      replace H:=ybi H;obtain ⟨t335,A23,H⟩:=H
      replace H:=yif H;obtain ⟨c24,H⟩:=H
      have LMc24:=zm c24;clear c24
      obtain ⟨y338,hy338⟩ : ∃ y_ : List Int,y_=(x12_2 ++ t335):=⟨_,rfl⟩
      replace H : (ccodec_Decode.l1 k2 x24_1 t335 y338 l2_2 (l2_2.length : Int) x24_1 (rd_L4 l2_2 x24_1) ((rd_L4 l2_2 x24_1).length : Int) (wrap64 (x32_2+1)) a2_0 l2_1 l2_2 x331000_1)=some (r1,r2):=yrw hy338 H
      have Ny338:=zm hy338;clear hy338
      have H' := zm H
      clear H
      have p332 : 0≤(x32_2 : Int):=yt
      have q332 : x32_2 < ((rd_L4 l2_2 x24_1).length : Int):=yt
      obtain ⟨ad332,A332_0,c332_0,e332,hx332_0,hl332_0,hi332_0⟩:=at_L2 HR331_0.out x32_2 p332 q332
      cases e332
      replace hx332_0:=yhx HB hx332_0
      have HR332_0:=zm hi332_0;have HC332_0:=zm hl332_0;clear hi332_0 hl332_0
      replace p332:=eq_true p332
      replace q332:=eq_true q332
      have:=NB327_328.out
      have:=NB328_327.out
      have:=NB327_330.out
      have:=NB330_327.out
      obtain ⟨_,_,_,_,_,_⟩:=yc3 BK327
      have p333 : 0≤(x24_1 : Int):=yt
      have q333 : x24_1 < (l2_1.length : Int):=yt
      obtain ⟨ad333,A333_0,c333_0,e333,hx333_0,hl333_0,hi333_0⟩:=at_L2 HR2_1.out x24_1 p333 q333
      cases e333
      replace hx333_0:=yhx HB hx333_0
      have HR333_0:=zm hi333_0;have HC333_0:=zm hl333_0;clear hi333_0 hl333_0
      replace p333:=eq_true p333
      replace q333:=eq_true q333
      have p334 : 0≤(x32_2 : Int):=yt
      have q334 : x32_2 < ((rd_L2 l2_1 x24_1).length : Int):=yt
      obtain ⟨ad334,e334,hx334_0⟩:=Kd.at_int HR333_0.out x32_2 p334 q334
      cases e334
      replace hx334_0:=yhx HB hx334_0
      replace p334:=eq_true p334
      replace q334:=eq_true q334
      obtain ⟨Ao28,co28,eo28⟩:=Kd.R_slice HO_11.out
      subst eo28
      go_wp2_with (first|(go_at_call 101;(with_reducible refine (ccodec_next.calls k2 B _ _ (rd_L2 (rd_L4 l2_2 x24_1) x32_2) (rd (rd_L2 l2_1 x24_1) x32_2) Ao28 co28 x11_2 t335 _ ?side1 HC332_0.out ?side3 ?side4 HS.out A23.out).mono ?_);(case side1=>exact ycb HR332_0);(case side3=>exact yce (Kd.R_reads' HO_11.out).2.2);(case side4=>exact (Kd.R_reads' HO_11.out).2.1);rintro e w29 ⟨v336,rfl,ho0,hkp,hb,hs9⟩;replace HO_331000:=zm (ccodec_Decode.S_el HO_331000.out (fun _ hk_=>hk_.1.2) hkp (Kd.R_base ho0));have HO337:=zm (Kd.R_lower (Kd.R_new' (Kd.R_new' ho0 (Kd.R_lt (yr HO_11))) (Kd.R_lt (yr HO_12))) (zE yhb));replace HO_11:=zm (ccodec_Decode.R_el (Kd.R_types HO_11.out HS.out (by decide)) hkp (Kd.R_base ho0));replace HO_12:=zm (ccodec_Decode.R_el (Kd.R_types HO_12.out HS.out (by decide)) hkp (Kd.R_base ho0));replace BK327:=zm (blk_kept (g:=gb327) BK327.out hkp (blk_ne BK327.out HS.out (by decide)));replace BK328:=zm (blk_kept (g:=gb328) BK328.out hkp (blk_ne BK328.out HS.out (by decide)));replace BK330:=zm (blk_kept (g:=gb330) BK330.out hkp (blk_ne BK330.out HS.out (by decide)));replace HB:=zm (Below.trans yhb (Below.mono hb HBW.out));(try clear hb);(try clear ho0);clear HS hkp;have HS:=zm hs9;clear hs9;obtain ⟨Ao31,co31,eo31⟩:=Kd.R_slice HO337.out;subst eo31)|((with_reducible refine gate_builtin (b:=.append) (xs := #[.tmp 37, .tmp 48]) rfl ?_);at_builtin;refine Kd.R_append_rows (Kd.int .i64) (w0:=w) w.heap.size rfl (.tmp 37) (.tmp 48) 53 2 (.int .i64 0) 8 rfl Try.underlying53 info2 rfl (by decide) (by omega) u12 x12_2 t335 _ _ _ (fun k_=>some k_≠(.slice Ao28 x11_2.length co28 : Value).ownBlock∧some k_≠(.slice Ao31 t335.length co31 : Value).ownBlock) (fun _=>False) rfl rfl ?aO ?aR (fun _ _ h=>h) (fun _ h=>h.elim) ?aF ?aB ?aS ?aL ?_;(case aR=>exact yce (Kd.R_reads' HO337.out).2.2);(case aB=>exact yhb);(case aF=>exact (fun k_ hk=>⟨Kd.fresh' (Kd.R_lt (yr HO_11)) k_ hk,Kd.fresh' (Kd.R_lt (yr HO337)) k_ hk⟩));(case aO=>exact (yr HO_12));(case aS=>exact (zE yhb));(case aL=>have:=LMc24.out;omega);intro v339 w30 ho hb hg hat;rw [← Ny338.out] at ho;have n0_:=zm (Kd.R_after (ok:=(fun k_=>some k_≠(.slice Ao31 t335.length co31 : Value).ownBlock)) (yR0 HO_11) hg hat);have n1_:=zm (Kd.S_after (ok:=(fun k_=>(some k_≠(.slice Ao28 x11_2.length co28 : Value).ownBlock∧k_≠B)∧some k_≠(.slice Ao31 t335.length co31 : Value).ownBlock)) (yS0 HO_331000) hg hat);have n2_:=zm (blk_grown (yk BK327) hg (zu HO_12.out BK327.out (by decide)));have n3_:=zm (blk_grown (yk BK328) hg (zu HO_12.out BK328.out (by decide)));have n4_:=zm (blk_grown (yk BK330) hg (zu HO_12.out BK330.out (by decide)));have n5_:=zm (Kd.R_after (ok:=(fun k_=>some k_≠(.slice Ao28 x11_2.length co28 : Value).ownBlock)) (yR0 HO337) hg hat);have n6_:=zm (hb);have n7_:=zm (ho);have n9_:=zm (blk_grown (g:=B) (yk HS) hg (zu HO_12.out HS.out (by decide)));clear HS;have HS:=n9_;clear n9_;clear HO_11;clear HO_331000;clear BK327;clear BK328;clear BK330;clear HO337;clear HB;clear HO_12;have HO_11:=n0_;have HO_331000:=n1_;have BK327:=n2_;have BK328:=n3_;have BK330:=n4_;have HO337:=n5_;have HB:=n6_;have HO340:=n7_;clear n0_ n1_ n2_ n3_ n4_ n5_ n6_ n7_;clear ho hb hg hat))
      go_roundg k2
      case measure=>exact yom2 HK1 HK2
      case rel=>exact ⟨(t335),(_),(y338),(wrap64 (x32_2+1)),yq,H',⟨yom2 HK1 HK2⟩,⟨yR0 HO337⟩,⟨yR0 HO340⟩,⟨yS0 HO_331000⟩,⟨yk BK327⟩,⟨yk BK328⟩,⟨yk BK330⟩,⟨yk HS⟩,⟨yhb⟩⟩
     ·
      rw [if_neg c17] at H
      have c17b0 : decide (x32_2 < ((rd_L4 l2_2 x24_1).length : Int))=false:=decide_eq_false c17
      clear c17
      replace H:=yif H;obtain ⟨c32,H⟩:=H
      have LMc32:=zm c32;clear c32
      obtain ⟨y341,hy341⟩ : ∃ y_ : List (List Int),y_=(x331000_1 ++ [x12_2]):=⟨_,rfl⟩
      replace H : (ccodec_Decode.l0 k2 l2_2 (l2_2.length : Int) (wrap64 (x24_1+1)) a2_0 l2_1 l2_2 y341)=some (r1,r2):=yrw hy341 H
      have Ny341:=zm hy341;clear hy341
      have H' := zm H
      clear H
      have:=NB330_327.out
      have:=NB327_330.out
      have:=NB330_328.out
      have:=NB328_330.out
      obtain ⟨_,_⟩:=yc1 BK330
      obtain ⟨Ao37,co37,eo37⟩:=Kd.R_slice HO_12.out
      subst eo37
      go_wp2_with (first|((with_reducible refine gate_builtin (b:=.append) (xs := #[.tmp 52, .tmp 54]) rfl ?_);at_builtin;refine Kd.S_append (Kd.slice 2 (Kd.int .i64)) (w0:=w) w.heap.size rfl (.tmp 52) (.tmp 54) 22 53 (.slice none 0 0) 24 rfl Try.underlying22 info53 rfl (by decide) (by omega) u331000 x331000_1 x12_2 [.slice Ao37 x12_2.length co37] (fun k_=>some k_≠(u11 : Value).ownBlock) (fun k_=>some k_=(.slice Ao37 x12_2.length co37 : Value).ownBlock) rfl rfl ?aP (fun k_ hk_=>((zG (ok' := fun k_=>((fun k_=>some k_≠(u11 : Value).ownBlock)) k_∧some k_≠(u331000 : Value).ownBlock) (Kd.R_apart' (HO_12.out) (Kd.S_typed HO_331000.out) (by decide)) (fun k_ hk=>⟨hk.1,hk.2⟩))).1 k_ hk_.symm) ?aF ?aO ?aB ?aS ?aL ?_;(case aP=>exact Kd.M_row (zG (Kd.R_tight rfl (zG (ok' := fun k_=>((fun k_=>some k_≠(u11 : Value).ownBlock)) k_∧some k_≠(u331000 : Value).ownBlock) (Kd.R_apart' (HO_12.out) (Kd.S_typed HO_331000.out) (by decide)) (fun k_ hk=>⟨hk.1,hk.2⟩))) (fun _ h_=>h_)));(case aB=>exact yhb);(case aF=>exact (fun k_ hk=>Kd.fresh' (Kd.R_lt (yr HO_11)) k_ hk));(case aO=>exact (yS0 HO_331000));(case aS=>exact (zE yhb));(case aL=>have:=LMc32.out;omega);intro v342 w36 ho hb hg hat;rw [← Ny341.out] at ho;replace HO_11:=zm (Kd.R_over' (yr HO_11) (Kd.S_typed (yr HO_331000)) (by decide) hg);replace BK327:=zm (blk_grown (yk BK327) hg (Kd.S_ne HO_331000.out BK327.out (by decide)));replace BK328:=zm (blk_grown (yk BK328) hg (Kd.S_ne HO_331000.out BK328.out (by decide)));replace BK330:=zm (blk_grown (yk BK330) hg (Kd.S_ne HO_331000.out BK330.out (by decide)));replace HB:=zm (hb);have HO343:=zm (ho);clear HO_331000;clear HO_12;clear ho hb hg hat;obtain ⟨Ao38,co38,eo38⟩:=Kd.S_slice HO343.out;subst eo38;obtain ⟨_,_⟩:=yc1 BK330))
      go_roundg k2
      case measure=>exact yom2 HK1 HK2
      case rel=>exact ⟨(wrap64 (x24_1+1)),(y341),(.slice Ao38 y341.length co38),yq,H',⟨yom2 HK1 HK2⟩,⟨yS1 HO343 BK330⟩,⟨yk BK327⟩,⟨yk BK328⟩,⟨ykp BK330⟩,⟨yhb⟩⟩
   ·
    rw [if_neg c14] at H
    have c14b0 : decide (x24_1 < (l2_2.length : Int))=false:=decide_eq_false c14
    clear c14
    simp only [Option.some.injEq,Prod.mk.injEq] at H
    obtain ⟨rfl,rfl⟩:=H
    have:=NB330_327.out
    have:=NB327_330.out
    have:=NB330_328.out
    have:=NB328_330.out
    obtain ⟨_,_⟩:=yc1 BK330
    obtain ⟨Ao43,co43,eo43⟩:=Kd.S_slice HO_331000.out
    subst eo43
    have:=NB328_327.out
    have:=NB327_328.out
    obtain ⟨_,_⟩:=yc1 BK328
    go_wp2
    refine bodyPost_ret (results_ct rfl _ _ gb328 24 #[.slice Ao43 x331000_1.length co43] (0,0) _ rfl (ykp BK328) Try.underlying24 rfl (by kernel_rfl)) rfl ?_
    exact ⟨_,ye,yS1 HO_331000 BK328,yhb⟩
 ·
  replace c5:=Bool.eq_false_iff.mpr c5
  subst c5
  rw [ynf] at H
  simp only [Option.some.injEq,Prod.mk.injEq] at H
  obtain ⟨rfl,rfl⟩:=H
  go_enter Try.func23,Try.ntmps23
  go_wp2_with (first|((with_reducible refine gate_dst (N:=5) rfl ?_);refine ybx 5 #[.bool a2_0, .slice A2_1 l2_1.length c2_1, .slice A2_2 l2_2.length c2_2] 31 ?_;intro gb327 hg w46 hbox hb;have BK327:=zm (hbox);have GW327:=ygw hg;have GE327:=ygw hg;replace HB:=ybs hb;clear hb hbox hg)|((with_reducible refine gate_dst (N:=6) rfl ?_);refine ybx 6 #[.slice none 0 0] 24 ?_;intro gb328 hg w47 hbox hb;have BK328:=zm (hbox);have GW328:=ygw hg;have GE328:=ygw hg;replace HB:=ybs hb;have NB327_328:=ynl BK327 hg;have NB328_327:=yng BK327 hg;replace BK327:=ybb BK327 hb;clear hb hbox hg;have:=NB327_328.out;have:=NB328_327.out;obtain ⟨_,_,_,_,_,_⟩:=yc3 BK327)|((with_reducible refine gate_callee (f:=17) rfl ?_);refine ygl 18 Try.func17 #[.int .i64 a0, .int .i64 a1, .agg #[.bool a2_0, .slice A2_1 l2_1.length c2_1, .slice A2_2 l2_2.length c2_2]] ?_;(with_reducible refine (cpack_Right.calls k a0 a1 a2_0 _ _ l2_1 _ _ l2_2 false _ ?side1 HC2_1.out ?side3 HC2_2.out A4.out).mono ?_);(case side1=>exact ycb HR2_1);(case side3=>exact ycb HR2_2);rintro e w50 ⟨rfl,hb⟩;refine ⟨_,rfl, ?_⟩;replace BK327:=ybb BK327 hb;replace BK328:=ybb BK328 hb;replace HB:=ybs hb;(try clear hb);obtain ⟨_,_⟩:=yc1 BK328))
  refine bodyPost_ret (results_ct rfl _ _ gb328 24 #[.slice none 0 0] (0,0) _ rfl (ykp BK328) Try.underlying24 rfl (by kernel_rfl)) rfl ?_
  exact ⟨_,ye,yn,yhb⟩
def num_Log2.l0 : Nat→Int→Int→Option (Int)
 | 0,_,_=>none
 | k+1,x0,x3=>if x0 > 0 then (num_Log2.l0 k (x0 / 2) (wrap64 (x3+1))) else (some x3)
def num_Log2.f (k : Nat) (a0 : Int) : Option (Int):=num_Log2.l0 k a0 (-1)
theorem num_Log2.mono_l : ∀ k,(∀ y0 y1,LeO (num_Log2.l0 k y0 y1) (num_Log2.l0 (k+1) y0 y1))
 | 0=>fun _ _ r h=>by simp [num_Log2.l0] at h
 | k+1=>by
  have ih0:=num_Log2.mono_l k
  ·
   intro y0 y1
   unfold num_Log2.l0
   repeat' with_reducible first|apply ih0|apply yLr|apply yLn|apply yLi|apply yLb|intro _
theorem num_Log2.mono : ∀ a0 k,LeO (num_Log2.f k a0) (num_Log2.f (k+1) a0):=by
 intro a0 k
 have ih0:=num_Log2.mono_l k
 unfold num_Log2.f
 repeat' with_reducible first|apply ih0|apply yLr|apply yLn|apply yLi|apply yLb|intro _
set_option maxHeartbeats 8000000 in
set_option maxRecDepth 100000 in
theorem num_Log2.calls (k : Nat) (a0 : Int) (r : Int) (w : World) (h : num_Log2.f k a0=some r) :
  Calls Try.prog 121 #[.int .u64 a0] w fun e w' => e=.returned (.int .i64 r)∧Drawn0 w w' := by
 have H : (num_Log2.l0 k a0 (-1))=some r:=h
 clear h
 have H' := zm H
 clear H
 go_enter Try.func121,Try.ntmps121
 go_wp2
 go_loopg [0,3] k (fun kq v0 v3 w' => ∃ (x0_1 : Int) (x3_1 : Int),v0=.int .u64 x0_1∧v3=.int .i64 x3_1∧Aside0 (num_Log2.l0 kq x0_1 x3_1=some r)∧Aside0 (kq≤k)∧Drawn0 w w')
 case atStart=>exact ⟨(a0),((-1)),yq,yq,H',⟨Nat.le_refl _⟩,yd⟩
 case round =>
  clear H'
  obtain ⟨x0_1,x3_1,rfl,rfl,HA,HK1,⟨m1,rfl⟩⟩:=hrel
  obtain ⟨k1,rfl⟩:=ysu gk (fun h=>by subst h;exact absurd HA.out (by simp [num_Log2.l0]))
  have H:=HA.out;clear HA
  simp only [num_Log2.l0] at H
  by_cases c2 : x0_1 > 0
  ·
   rw [if_pos c2] at H
   have c2b0 : decide (0 < x0_1)=true:=decide_eq_true c2
   clear c2
   have H' := zm H
   clear H
   go_wp2
   go_roundg k1
   case measure=>exact yom1 HK1
   case rel=>exact ⟨(x0_1 / 2),(wrap64 (x3_1+1)),yq,yq,H',⟨yom1 HK1⟩,yd⟩
  ·
   rw [if_neg c2] at H
   have c2b0 : decide (0 < x0_1)=false:=decide_eq_false c2
   clear c2
   obtain rfl:=Option.some.inj H
   go_wp2
   go_ret
   exact ⟨yq,yd⟩
def band_gain.f (k : Nat) (a0 : Int) : Option (Int):=(num_Log2.f k a0).bind fun t135=>(some (wrap64 (t135+1)))
theorem band_gain.mono : ∀ a0 k,LeO (band_gain.f k a0) (band_gain.f (k+1) a0):=by
 intro a0 k
 unfold band_gain.f
 repeat' with_reducible first|apply num_Log2.mono|apply yLr|apply yLn|apply yLi|apply yLb|intro _
set_option maxHeartbeats 8000000 in
set_option maxRecDepth 100000 in
theorem band_gain.calls (k : Nat) (a0 : Int) (r : Int) (w : World) (h : band_gain.f k a0=some r) :
  Calls Try.prog 110 #[.int .u64 a0] w fun e w' => e=.returned (.int .i64 r)∧Drawn0 w w' := by
 have H : ((num_Log2.f k a0).bind fun t135=>(some (wrap64 (t135+1))))=some r:=h
 clear h
 replace H:=ybi H;obtain ⟨t135,A2,H⟩:=H
 obtain rfl:=Option.some.inj H
 go_enter Try.func110,Try.ntmps110
 go_wp2_with (first|((with_reducible refine gate_callee (f:=121) rfl ?_);refine ygl 4 Try.func121 #[.int .u64 a0] ?_;(with_reducible refine (num_Log2.calls k a0 t135 _ A2.out).mono ?_);rintro e w' ⟨rfl,⟨nd,rfl⟩⟩;refine ⟨_,rfl, ?_⟩))
 go_ret
 exact ⟨yq,yd⟩
def pvq_fair.l0 : Nat→List Int→List Int→Int→Int→Option (Bool)
 | 0,_,_,_,_=>none
 | k+1,x0,x5,x6,x7=>if x7 < x6 then (if 0≤x7 then (if x7 < (x5.length : Int) then ((num_Clamp.f (rd x5 x7) (-1048576) 1048576).bind fun t107=>(if (rd x5 x7)=t107 then (pvq_fair.l0 k x0 x5 x6 (wrap64 (x7+1))) else (some false))) else (none)) else (none)) else (if (x0.length : Int) ≥ 1 then (some (decide ((x0.length : Int)≤16))) else (some false))
def pvq_fair.f (k : Nat) (l0 : List Int) : Option (Bool):=pvq_fair.l0 k l0 l0 (l0.length : Int) 0
theorem pvq_fair.mono_l : ∀ k,(∀ y0 y1 y2 y3,LeO (pvq_fair.l0 k y0 y1 y2 y3) (pvq_fair.l0 (k+1) y0 y1 y2 y3))
 | 0=>fun _ _ _ _ r h=>by simp [pvq_fair.l0] at h
 | k+1=>by
  have ih0:=pvq_fair.mono_l k
  ·
   intro y0 y1 y2 y3
   unfold pvq_fair.l0
   repeat' with_reducible first|apply ih0|apply yLr|apply yLn|apply yLi|apply yLb|intro _
theorem pvq_fair.mono : ∀ a0 k,LeO (pvq_fair.f k a0) (pvq_fair.f (k+1) a0):=by
 intro a0 k
 have ih0:=pvq_fair.mono_l k
 unfold pvq_fair.f
 repeat' with_reducible first|apply ih0|apply yLr|apply yLn|apply yLi|apply yLb|intro _
set_option maxHeartbeats 8000000 in
set_option maxRecDepth 100000 in
theorem pvq_fair.calls (k : Nat) (A0 : Option Addr) (c0 : Nat) (l0 : List Int) (r : Bool) (w : World) (hr0 : Kd.C (Kd.int .i64) w A0 l0.length l0) (hc0 : l0.length≤c0) (h : pvq_fair.f k l0=some r) :
  Calls Try.prog 78 #[.slice A0 l0.length c0] w fun e w' => e=.returned (.bool r)∧Drawn0 w w' := by
 have HR0:=zm hr0;have HC0:=zm hc0;clear hr0 hc0
 have H : (pvq_fair.l0 k l0 l0 (l0.length : Int) 0)=some r:=h
 clear h
 have H' := zm H
 clear H
 go_enter Try.func78,Try.ntmps78
 go_wp2
 go_loopg [7] k (fun kq v7 w' => ∃ (x7_1 : Int),v7=.int .i64 x7_1∧Aside0 (pvq_fair.l0 kq l0 l0 (l0.length : Int) x7_1=some r)∧Aside0 (kq≤k)∧Drawn0 w w')
 case atStart=>exact ⟨(0),yq,H',⟨Nat.le_refl _⟩,yd⟩
 case round =>
  clear H'
  obtain ⟨x7_1,rfl,HA,HK1,⟨m1,rfl⟩⟩:=hrel
  obtain ⟨k1,rfl⟩:=ysu gk (fun h=>by subst h;exact absurd HA.out (by simp [pvq_fair.l0]))
  have H:=HA.out;clear HA
  simp only [pvq_fair.l0] at H
  by_cases c2 : x7_1 < (l0.length : Int)
  ·
   rw [if_pos c2] at H
   have c2b0 : decide (x7_1 < (l0.length : Int))=true:=decide_eq_true c2
   clear c2
   replace H:=yif H;obtain ⟨c3,H⟩:=H
   have c3b0 : decide (0≤x7_1)=true:=decide_eq_true c3
   clear c3
   replace H:=yif H;obtain ⟨c4,H⟩:=H
   have c4b0 : decide (x7_1 < (l0.length : Int))=true:=decide_eq_true c4
   clear c4
   replace H:=ybi H;obtain ⟨t107,A5,H⟩:=H
   by_cases c6 : (rd l0 x7_1)=t107
   ·
    rw [if_pos c6] at H
    have c6b0 : ((rd l0 x7_1) == t107)=true:=beq_iff_eq.mpr c6
    have c6b1 : ((rd l0 x7_1) != t107)=false:=bne_eq_false_iff_eq.mpr c6
    clear c6
    have H' := zm H
    clear H
    obtain ⟨ad106,e106,hx106_0,p106,q106⟩:=yai HR0 x7_1
    cases e106
    go_wp2_with (first|((with_reducible refine gate_callee (f:=95) rfl ?_);refine ygl 13 Try.func95 #[.int .i64 (rd l0 x7_1), .int .i64 (-1048576), .int .i64 1048576] ?_;(with_reducible refine (num_Clamp.calls (rd l0 x7_1) (-1048576) 1048576 t107 _ A5.out).mono ?_);rintro e w' ⟨rfl,⟨nd,rfl⟩⟩;refine ⟨_,rfl, ?_⟩))
    go_roundg k1
    case measure=>exact yom1 HK1
    case rel=>exact ⟨(wrap64 (x7_1+1)),yq,H',⟨yom1 HK1⟩,yd⟩
   ·
    rw [if_neg c6] at H
    have c6b0 : ((rd l0 x7_1) == t107)=false:=beq_eq_false_iff_ne.mpr c6
    have c6b1 : ((rd l0 x7_1) != t107)=true:=bne_iff_ne.mpr c6
    obtain rfl:=Option.some.inj H
    obtain ⟨ad106,e106,hx106_0,p106,q106⟩:=yai HR0 x7_1
    cases e106
    go_wp2_with (first|((with_reducible refine gate_callee (f:=95) rfl ?_);refine ygl 13 Try.func95 #[.int .i64 (rd l0 x7_1), .int .i64 (-1048576), .int .i64 1048576] ?_;(with_reducible refine (num_Clamp.calls (rd l0 x7_1) (-1048576) 1048576 t107 _ A5.out).mono ?_);rintro e w' ⟨rfl,⟨nd,rfl⟩⟩;refine ⟨_,rfl, ?_⟩))
    go_ret
    exact ⟨yq,yd⟩
  ·
   rw [if_neg c2] at H
   have c2b0 : decide (x7_1 < (l0.length : Int))=false:=decide_eq_false c2
   clear c2
   by_cases c7 : (l0.length : Int) ≥ 1
   ·
    rw [if_pos c7] at H
    have c7b0 : decide (1≤(l0.length : Int))=true:=decide_eq_true c7
    have c7b1 : decide (1≤l0.length)=true:=decide_eq_true (by omega)
    clear c7
    obtain rfl:=Option.some.inj H
    go_wp2
    go_ret
    exact ⟨yq,yd⟩
   ·
    rw [if_neg c7] at H
    have c7b0 : decide (1≤(l0.length : Int))=false:=decide_eq_false c7
    have c7b1 : decide (1≤l0.length)=false:=decide_eq_false (by omega)
    clear c7
    obtain rfl:=Option.some.inj H
    go_wp2
    go_ret
    exact ⟨yq,yd⟩
end Go.Proofs.Ytifkhfnmbiefaaa.Prt
