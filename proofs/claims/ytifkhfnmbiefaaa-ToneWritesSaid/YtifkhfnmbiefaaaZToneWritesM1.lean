-- Functions of the program and of the document as plain Lean, each with the proof that the code comes to it. Written by a program of this session (wip/tools/myprint.py, pack.py) over the kit's printer; Lean checks it.
import Derived.Test.YtifkhfnmbiefaaaZToneWritesPrt0
import Derived.Test.YtifkhfnmbiefaaaZToneWritesSh2
import Derived.Test.YtifkhfnmbiefaaaZToneWritesSh
import Derived.Test.YtifkhfnmbiefaaaZToneWritesWMore
import Derived.Laws.Rows
import Derived.Laws.Tables
import Derived.Deep.WholeRow
namespace Go.Proofs.Ytifkhfnmbiefaaa.Prt
open Go.RowKit Go.Proofs.YtifkhfnmbiefaaaW.PrintWords Go.Proofs.YtifkhfnmbiefaaaW.PrintLast Go.Proofs.YtifkhfnmbiefaaaW.PrintMore
attribute [local go_sem] max2_int min2_int max_two min_two max_three min_three max_four min_four   -- for this text's walks alone
set_option linter.unusedVariables false
set_option linter.unusedSimpArgs false


def alloc_Right.f (a0 : Int) (a1 : Int) : Option (Bool):=if a1=1 then (if a0 ≥ 11 then (some (decide (a0≤60))) else (some false)) else (if a1=2 then (if a0 ≥ 17 then (some (decide (a0≤60))) else (some false)) else (some false))
set_option maxHeartbeats 8000000 in
set_option maxRecDepth 100000 in
theorem alloc_Right.calls (a0 : Int) (a1 : Int) (r : Bool) (w : World) (h : alloc_Right.f a0 a1=some r) :
  Calls Try.prog 52 #[.int .i64 a0, .int .i64 a1] w fun e w' => e=.returned (.bool r)∧Drawn0 w w' := by
 have H:=h
 unfold alloc_Right.f at H
 clear h
 by_cases c3 : a1=1
 ·
  rw [if_pos c3] at H
  obtain ⟨aa,ac⟩:=yE c3
  clear c3
  by_cases c4 : a0 ≥ 11
  ·
   rw [if_pos c4] at H
   have ae:=yDl c4
   clear c4
   obtain rfl:=Option.some.inj H
   go_enter Try.func52,Try.ntmps52
   go_wp2
   go_ret
   exact ⟨yq,yd⟩
  rw [if_neg c4] at H
  have ae:=yGl c4
  clear c4
  obtain rfl:=Option.some.inj H
  go_enter Try.func52,Try.ntmps52
  go_wp2
  go_ret
  exact ⟨yq,yd⟩
 rw [if_neg c3] at H
 obtain ⟨aa,ac⟩:=yF c3
 by_cases c5 : a1=2
 ·
  rw [if_pos c5] at H
  obtain ⟨af,ag⟩:=yE c5
  clear c5
  by_cases c6 : a0 ≥ 17
  ·
   rw [if_pos c6] at H
   have ah:=yDl c6
   clear c6
   obtain rfl:=Option.some.inj H
   go_enter Try.func52,Try.ntmps52
   go_wp2
   go_ret
   exact ⟨yq,yd⟩
  rw [if_neg c6] at H
  have ah:=yGl c6
  clear c6
  obtain rfl:=Option.some.inj H
  go_enter Try.func52,Try.ntmps52
  go_wp2
  go_ret
  exact ⟨yq,yd⟩
 rw [if_neg c5] at H
 obtain ⟨af,ag⟩:=yF c5
 obtain rfl:=Option.some.inj H
 go_enter Try.func52,Try.ntmps52
 go_wp2
 go_ret
 exact ⟨yq,yd⟩
def gain_Most.f (a0 : Bool) : Option (Int):=if a0=true then (some 30) else (some 45)
set_option maxHeartbeats 8000000 in
set_option maxRecDepth 100000 in
theorem gain_Most.calls (a0 : Bool) (r : Int) (w : World) (h : gain_Most.f a0=some r) :
  Calls Try.prog 111 #[.bool a0] w fun e w' => e=.returned (.int .i64 r)∧Drawn0 w w' := by
 have H:=h
 unfold gain_Most.f at H
 clear h
 by_cases c2 : a0=true
 ·
  subst c2
  rw [if_pos rfl] at H
  obtain rfl:=Option.some.inj H
  go_enter Try.func111,Try.ntmps111
  go_wp2
  go_ret
  exact ⟨yq,yd⟩
 replace c2:=Bool.eq_false_iff.mpr c2
 subst c2
 rw [ynf] at H
 obtain rfl:=Option.some.inj H
 go_enter Try.func111,Try.ntmps111
 go_wp2
 go_ret
 exact ⟨yq,yd⟩
def alloc_Room.f (a0 : Int) (a1 : Int) : Option (Int):=(alloc_Right.f a0 a1).bind fun aa=>(if aa=true then ((gain_Most.f false).bind fun ac=>(if a1=0 then (none) else (some (wrap64 (Int.tdiv (wrap64 ((wrap64 ((wrap64 (8 * a0)) - 41)) - (wrap64 (ac * a1)))) a1))))) else (some 0))
set_option maxHeartbeats 8000000 in
set_option maxRecDepth 100000 in
theorem alloc_Room.calls (a0 : Int) (a1 : Int) (r : Int) (w : World) (h : alloc_Room.f a0 a1=some r) :
  Calls Try.prog 73 #[.int .i64 a0, .int .i64 a1] w fun e w' => e=.returned (.int .i64 r)∧Drawn0 w w' := by
 have H:=h
 unfold alloc_Room.f at H
 clear h
 replace H:=ybi H;obtain ⟨aa,A3,H⟩:=H
 by_cases c4 : aa=true
 ·
  subst c4
  rw [if_pos rfl] at H
  replace H:=ybi H;obtain ⟨ac,A5,H⟩:=H
  replace H:=yie H;obtain ⟨c6,H⟩:=H
  obtain ⟨ae,af⟩:=yF c6
  obtain rfl:=Option.some.inj H
  go_enter Try.func73,Try.ntmps73
  go_wp2_with (first|((with_reducible refine gate_callee (f:=52) rfl ?_);refine ygl 7 Try.func52 #[.int .i64 a0, .int .i64 a1] ?_;(with_reducible refine (alloc_Right.calls a0 a1 true _ A3.out).mono ?_);rintro e w' ⟨rfl,⟨nd,rfl⟩⟩;refine ⟨_,rfl, ?_⟩)|((with_reducible refine gate_callee (f:=111) rfl ?_);refine ygl 12 Try.func111 #[.bool false] ?_;(with_reducible refine (gain_Most.calls false ac _ A5.out).mono ?_);rintro e w' ⟨rfl,⟨nd,rfl⟩⟩;refine ⟨_,rfl, ?_⟩))
  go_ret
  exact ⟨yq,yd⟩
 replace c4:=Bool.eq_false_iff.mpr c4
 subst c4
 rw [ynf] at H
 obtain rfl:=Option.some.inj H
 go_enter Try.func73,Try.ntmps73
 go_wp2_with (first|((with_reducible refine gate_callee (f:=52) rfl ?_);refine ygl 7 Try.func52 #[.int .i64 a0, .int .i64 a1] ?_;(with_reducible refine (alloc_Right.calls a0 a1 false _ A3.out).mono ?_);rintro e w' ⟨rfl,⟨nd,rfl⟩⟩;refine ⟨_,rfl, ?_⟩))
 go_ret
 exact ⟨yq,yd⟩
def band_there.f (a0 : Int) : Option (Bool):=if a0 ≥ 0 then (some (decide (a0 < 5))) else (some false)
set_option maxHeartbeats 8000000 in
set_option maxRecDepth 100000 in
theorem band_there.calls (a0 : Int) (r : Bool) (w : World) (h : band_there.f a0=some r) :
  Calls Try.prog 90 #[.int .i64 a0] w fun e w' => e=.returned (.bool r)∧Drawn0 w w' := by
 have H:=h
 unfold band_there.f at H
 clear h
 by_cases c2 : a0 ≥ 0
 ·
  rw [if_pos c2] at H
  have aa:=yDl c2
  clear c2
  obtain rfl:=Option.some.inj H
  go_enter Try.func90,Try.ntmps90
  go_wp2
  go_ret
  exact ⟨yq,yd⟩
 rw [if_neg c2] at H
 have aa:=yGl c2
 clear c2
 obtain rfl:=Option.some.inj H
 go_enter Try.func90,Try.ntmps90
 go_wp2
 go_ret
 exact ⟨yq,yd⟩
def band_From.f (a0 : Int) : Option (Int):=(band_there.f a0).bind fun af=>(if af=true then (if a0=0 then (some 0) else (if 0≤(wrap64 (a0 - 1)) then (some (shl .i64 1 (wrap64 (a0 - 1)))) else (none))) else (some 0))
set_option maxHeartbeats 8000000 in
set_option maxRecDepth 100000 in
theorem band_From.calls (a0 : Int) (r : Int) (w : World) (h : band_From.f a0=some r) :
  Calls Try.prog 77 #[.int .i64 a0] w fun e w' => e=.returned (.int .i64 r)∧Drawn0 w w' := by
 have H:=h
 unfold band_From.f at H
 clear h
 replace H:=ybi H;obtain ⟨af,A2,H⟩:=H
 by_cases c3 : af=true
 ·
  subst c3
  rw [if_pos rfl] at H
  by_cases c4 : a0=0
  ·
   rw [if_pos c4] at H
   obtain ⟨ag,ah⟩:=yE c4
   clear c4
   obtain rfl:=Option.some.inj H
   go_enter Try.func77,Try.ntmps77
   go_wp2_with (first|((with_reducible refine gate_callee (f:=90) rfl ?_);refine ygl 4 Try.func90 #[.int .i64 a0] ?_;(with_reducible refine (band_there.calls a0 true _ A2.out).mono ?_);rintro e w' ⟨rfl,⟨nd,rfl⟩⟩;refine ⟨_,rfl, ?_⟩))
   go_ret
   exact ⟨yq,yd⟩
  rw [if_neg c4] at H
  obtain ⟨ag,ah⟩:=yF c4
  obtain ⟨ji5,ac⟩ : ∃ j_ : Int,(wrap64 (a0 - 1))=j_:=⟨_,rfl⟩
  (first|rw [ac] at H|simp only [ac] at H)
  (try rw [ac] at A2)
  have hji5w : (IntKind.i64.wrap (a0 - 1))=ji5:=(i64_w _).trans ac
  replace H:=yif H;obtain ⟨c6,H⟩:=H
  have ai:=eq_true c6
  have aj : decide (0≤(ji5))=true:=decide_eq_true c6
  clear c6
  obtain ⟨ji7,aa⟩ : ∃ j_ : Int,(shl .i64 1 (ji5))=j_:=⟨_,rfl⟩
  (first|rw [aa] at H|simp only [aa] at H)
  (try rw [aa] at A2)
  have ae : (IntKind.i64.wrap (1 * 2 ^ min (ji5).toNat 64))=ji7:=aa
  have hji7z : (ji5)≤64→(IntKind.i64.wrap (1 * 2 ^ (ji5).toNat))=ji7:=shl_small aa
  have hji7u : (IntKind.i64.wrap (2 ^ min (ji5).toNat 64))=ji7:=by have h_:=ae;rw [Int.one_mul] at h_;exact h_
  have hji7v : (ji5)≤64→(IntKind.i64.wrap (2 ^ (ji5).toNat))=ji7:=fun hle_=>by have h_:=hji7z hle_;rw [Int.one_mul] at h_;exact h_
  have hji7y : (wrap64 (1 * 2 ^ min (ji5).toNat 64))=ji7:=(i64_w _).symm.trans ae
  have hji7x : (ji5)≤64→(wrap64 (1 * 2 ^ (ji5).toNat))=ji7:=fun h_=>(i64_w _).symm.trans (hji7z h_)
  obtain rfl:=Option.some.inj H
  go_enter Try.func77,Try.ntmps77
  go_wp2_with (first|((with_reducible refine gate_callee (f:=90) rfl ?_);refine ygl 4 Try.func90 #[.int .i64 a0] ?_;(with_reducible refine (band_there.calls a0 true _ A2.out).mono ?_);rintro e w' ⟨rfl,⟨nd,rfl⟩⟩;refine ⟨_,rfl, ?_⟩))
  go_ret
  exact ⟨by first|rfl|(simp;done)|(simp only [← ac, ← aa] <;> (first|rfl|simp))|(simp [*];done),yd⟩
 replace c3:=Bool.eq_false_iff.mpr c3
 subst c3
 rw [ynf] at H
 obtain rfl:=Option.some.inj H
 go_enter Try.func77,Try.ntmps77
 go_wp2_with (first|((with_reducible refine gate_callee (f:=90) rfl ?_);refine ygl 4 Try.func90 #[.int .i64 a0] ?_;(with_reducible refine (band_there.calls a0 false _ A2.out).mono ?_);rintro e w' ⟨rfl,⟨nd,rfl⟩⟩;refine ⟨_,rfl, ?_⟩))
 go_ret
 exact ⟨yq,yd⟩
def band_Width.f (a0 : Int) : Option (Int):=(band_there.f a0).bind fun ae=>(if ae=true then ((band_From.f a0).bind fun ac=>(some (mx 1 ac))) else (some 0))
set_option maxHeartbeats 8000000 in
set_option maxRecDepth 100000 in
theorem band_Width.calls (a0 : Int) (r : Int) (w : World) (h : band_Width.f a0=some r) :
  Calls Try.prog 48 #[.int .i64 a0] w fun e w' => e=.returned (.int .i64 r)∧Below w.heap.size w w' := by
 have HB:=zm (Below.refl w.heap.size w);have H:=h
 unfold band_Width.f at H
 clear h
 replace H:=ybi H;obtain ⟨ae,A2,H⟩:=H
 by_cases c3 : ae=true
 ·
  subst c3
  rw [if_pos rfl] at H
  replace H:=ybi H;obtain ⟨ac,A4,H⟩:=H
  obtain ⟨ji5,aa⟩ : ∃ j_ : Int,(mx 1 ac)=j_:=⟨_,rfl⟩
  (first|rw [aa] at H|simp only [aa] at H)
  (try rw [aa] at A2)
  (try rw [aa] at A4)
  (try (have hji5l : 1≤ji5:=by (rw [← aa];unfold mx;(repeat' split) <;> omega)))
  (try (have hji5m : 0≤ji5:=by omega))
  have af : (if 1 < ac then ac else 1)=ji5:=aa
  obtain rfl:=Option.some.inj H
  go_enter Try.func48,Try.ntmps48
  go_wp2_with (first|((with_reducible refine gate_callee (f:=90) rfl ?_);refine ygl 4 Try.func90 #[.int .i64 a0] ?_;(with_reducible refine (band_there.calls a0 true _ A2.out).mono ?_);rintro e w' ⟨rfl,⟨nd,rfl⟩⟩;refine ⟨_,rfl, ?_⟩)|((with_reducible refine gate_callee (f:=77) rfl ?_);refine ygl 7 Try.func77 #[.int .i64 a0] ?_;(with_reducible refine (band_From.calls a0 ac _ A4.out).mono ?_);rintro e w' ⟨rfl,⟨nd,rfl⟩⟩;refine ⟨_,rfl, ?_⟩))
  go_ret
  exact ⟨by first|rfl|(simp [errW_none,errW_some] <;> rfl)|(simp only [← aa];first|rfl|(simp [errW_none,errW_some] <;> rfl))|(simp [*,errW_none,errW_some] <;> rfl),yhb⟩
 replace c3:=Bool.eq_false_iff.mpr c3
 subst c3
 rw [ynf] at H
 obtain rfl:=Option.some.inj H
 go_enter Try.func48,Try.ntmps48
 go_wp2_with (first|((with_reducible refine gate_callee (f:=90) rfl ?_);refine ygl 4 Try.func90 #[.int .i64 a0] ?_;(with_reducible refine (band_there.calls a0 false _ A2.out).mono ?_);rintro e w' ⟨rfl,⟨nd,rfl⟩⟩;refine ⟨_,rfl, ?_⟩))
 go_ret
 exact ⟨ye,yhb⟩
def alloc_most.f (a0 : Int) : Option (Int):=(band_Width.f a0).bind fun aa=>(if aa=1 then (some 1) else (some 12))
set_option maxHeartbeats 8000000 in
set_option maxRecDepth 100000 in
theorem alloc_most.calls (a0 : Int) (r : Int) (w : World) (h : alloc_most.f a0=some r) :
  Calls Try.prog 74 #[.int .i64 a0] w fun e w' => e=.returned (.int .i64 r)∧Below w.heap.size w w' := by
 have HB:=zm (Below.refl w.heap.size w);have H:=h
 unfold alloc_most.f at H
 clear h
 replace H:=ybi H;obtain ⟨aa,A2,H⟩:=H
 by_cases c3 : aa=1
 ·
  rw [if_pos c3] at H
  obtain ⟨ac,ae⟩:=yE c3
  clear c3
  obtain rfl:=Option.some.inj H
  go_enter Try.func74,Try.ntmps74
  go_wp2_with (first|((with_reducible refine gate_callee (f:=48) rfl ?_);refine ygl 4 Try.func48 #[.int .i64 a0] ?_;(with_reducible refine (band_Width.calls a0 aa _ A2.out).mono ?_);rintro e w4 ⟨rfl,hb⟩;refine ⟨_,rfl, ?_⟩;replace HB:=ybs hb;(try clear hb)))
  go_ret
  exact ⟨ye,yhb⟩
 rw [if_neg c3] at H
 obtain ⟨ac,ae⟩:=yF c3
 obtain rfl:=Option.some.inj H
 go_enter Try.func74,Try.ntmps74
 go_wp2_with (first|((with_reducible refine gate_callee (f:=48) rfl ?_);refine ygl 4 Try.func48 #[.int .i64 a0] ?_;(with_reducible refine (band_Width.calls a0 aa _ A2.out).mono ?_);rintro e w5 ⟨rfl,hb⟩;refine ⟨_,rfl, ?_⟩;replace HB:=ybs hb;(try clear hb)))
 go_ret
 exact ⟨ye,yhb⟩
def comb_fair.f (a0 : Int) (a1 : Int) : Option (Bool):=if a0 ≥ 1 then (if a0≤16 then (if a1 ≥ 0 then (some (decide (a1≤12))) else (some false)) else (some false)) else (some false)
set_option maxHeartbeats 8000000 in
set_option maxRecDepth 100000 in
theorem comb_fair.calls (a0 : Int) (a1 : Int) (r : Bool) (w : World) (h : comb_fair.f a0 a1=some r) :
  Calls Try.prog 88 #[.int .i64 a0, .int .i64 a1] w fun e w' => e=.returned (.bool r)∧Drawn0 w w' := by
 have H:=h
 unfold comb_fair.f at H
 clear h
 by_cases c3 : a0 ≥ 1
 ·
  rw [if_pos c3] at H
  have aa:=yDl c3
  clear c3
  by_cases c4 : a0≤16
  ·
   rw [if_pos c4] at H
   have ac:=yD c4
   clear c4
   by_cases c5 : a1 ≥ 0
   ·
    rw [if_pos c5] at H
    have ae:=yDl c5
    clear c5
    obtain rfl:=Option.some.inj H
    go_enter Try.func88,Try.ntmps88
    go_wp2
    go_ret
    exact ⟨yq,yd⟩
   rw [if_neg c5] at H
   have ae:=yGl c5
   clear c5
   obtain rfl:=Option.some.inj H
   go_enter Try.func88,Try.ntmps88
   go_wp2
   go_ret
   exact ⟨yq,yd⟩
  rw [if_neg c4] at H
  have ac:=yG c4
  clear c4
  obtain rfl:=Option.some.inj H
  go_enter Try.func88,Try.ntmps88
  go_wp2
  go_ret
  exact ⟨yq,yd⟩
 rw [if_neg c3] at H
 have aa:=yGl c3
 clear c3
 obtain rfl:=Option.some.inj H
 go_enter Try.func88,Try.ntmps88
 go_wp2
 go_ret
 exact ⟨yq,yd⟩
end Go.Proofs.Ytifkhfnmbiefaaa.Prt

namespace Go.Proofs.Ytifkhfnmbiefaaa.Prt
open Go Go.RowKit Go.Proofs.YtifkhfnmbiefaaaW.PrintWords Go.Proofs.YtifkhfnmbiefaaaW.PrintLast Go.Proofs.YtifkhfnmbiefaaaW.PrintMore
set_option linter.unusedVariables false
set_option linter.unusedSimpArgs false


set_option maxRecDepth 20000 in
theorem comb_table.zeroes : ∃ Z : Array Value,(∀ W,(zeroValue 130).run Try.prog W=.ok (.agg Z) W)∧Z.toList=encs (Value.int .u64) (List.replicate 221 0):=⟨_,fun _=>rfl,by rfl⟩
/-- A block of numbers, as its cells. -/
def ABl (xs : List Int) : Array Value:=(encs (Value.int .u64) xs).toArray
theorem ABl_get {xs : List Int} {i : Nat} (h : i < xs.length) : (ABl xs)[i]? = some (.int .u64 (xs.getD i 0)):=by
 unfold ABl
 rw [List.getElem?_toArray]
 exact encs_get xs i h
theorem ABl_set (xs : List Int) (i : Nat) (v : Int) : (ABl xs).setIfInBounds i (.int .u64 v)=ABl (xs.set i v):=by
 unfold ABl encs
 rw [List.setIfInBounds_toArray,List.map_set]
theorem ABl_size (xs : List Int) : (ABl xs).size=xs.length:=by
 unfold ABl
 rw [List.size_toArray,encs_length]
theorem ABl_one (xs : List Int) : (ABl xs).all (·.oneCell')=true:=by
 rw [Array.all_eq_true_iff_forall_mem]
 intro v hv
 unfold ABl encs at hv
 rw [List.mem_toArray,List.mem_map] at hv
 obtain ⟨n,_,rfl⟩:=hv
 rfl
section
variable {P : Program}
/-- A whole array is stored, cell by cell. -/
theorem storeCells_row (w : World) (g : Nat) (t ty : TypeId) (old cells : Array Value) (hg : w.heap[g]? = some (.cells old t (0,0))) (hi : (P.info? ty).map (·.size)=some cells.size) (ho : old.size=cells.size) (h1 : cells.all (·.oneCell')=true) :
  (storeCells ⟨g,0,none⟩ cells.toList 0).run P w=.ok () (w.setRow g cells):=by
 have h:=run_storeVar_row (P:=P) w g t ty old cells hg hi ho h1
 cases hq : P.info? ty with
 | none=>simp [hq] at hi
 | some i =>
  have hs : cells.size=i.size:=by
   simp [hq] at hi
   omega
  simpa [storeVar,sizeOf,typeInfo,hq,Value.cells,hs] using h
end
theorem below_row {w0 w : World} {B g : Nat} (h : Below B w0 w) (hg : B≤g) (cs : Array Value) : Below B w0 (w.setRow g cs):=⟨h.os,h.tape,h.output,by rw [setRow_size];exact h.size,fun k hk=>(setRow_other _ _ _ _ (by omega)).trans (h.block k hk)⟩
namespace comb_table
def new (xs : List Int) (n k : Nat) : Int:=IntKind.u64.wrap (IntKind.u64.wrap (xs.getD ((n-1)*13+k) 0+xs.getD (n*13+(k-1)) 0)+xs.getD ((n-1)*13+(k-1)) 0)
/-- Row n made up to place k. -/
def U (xs : List Int) (n : Nat) : Nat→List Int
 | 0=>xs.set (n*13) 1
 | k+1=>(U xs n k).set (n*13+(k+1)) (new (U xs n k) n (k+1))
/-- The rows up to n made. -/
def T : Nat→List Int
 | 0=>(List.replicate 221 0).set 0 1
 | n+1=>U (T n) (n+1) 12
theorem U_len (xs : List Int) (n : Nat) : ∀ k,(U xs n k).length=xs.length
 | 0=>by rw [U,List.length_set]
 | k+1=>by rw [U,List.length_set,U_len xs n k]
theorem T_len : ∀ n,(T n).length=221
 | 0=>by rw [T,List.length_set,List.length_replicate]
 | n+1=>by rw [T,U_len,T_len n]
theorem size16 : (Try.prog.info? 130).map (·.size)=some (ABl (T 16)).size:=by
 rw [ABl_size,T_len]
 kernel_rfl
def T10 : Bool × List (List Nat × List Nat):=(true, [([], []),([], []),([], []),([2], [2]),([], []),([3], [3]),([5,4], [4,5]),([6], [6]),([], []),([], []),([9], [9]),([8], [8]),([11,10], [10,11]),([12], [12]),([7,13], [7,13]),([], []),([15], [15]),([], []),([17], [17]),([16], [16]),([19,18], [18,19]),([20], [20]),([14,21], [14,21]),([0], [0]),([23,1,0,1,2,3,4,5,6,7,8,9,10,11,12,13,14,15,16,17,18,19,20,21,22], [1,23]),([24,22,0,1,2,3,4,5,6,7,8,9,10,11,12,13,14,15,16,17,18,19,20,21,22], [22,24])])
def B10 : List Nat := [0,0,0,4,0,12,60,124,0,0,512,256,3840,7936,16380,0,32768,0,131072,98304,1015808,2064384,4194300,1,16777215,33554431]
theorem tab10 : rtab .any (opsOf Try.f89 10)=T10:=by kernel_rfl
theorem bits10 : waitsOk T10.2 B10=true:=by kernel_rfl
end comb_table
set_option maxHeartbeats 8000000 in
set_option maxRecDepth 100000 in
theorem comb_table.made (w : World) : Calls Try.prog 89 #[] w fun e w' => e=.returned (.agg (ABl (comb_table.T 16)))∧Below w.heap.size w w' := by
 obtain ⟨Z,hz,hZ⟩:=comb_table.zeroes
 have hZ' : Aside0 (Z=ABl (List.replicate 221 0)):=⟨by
  unfold ABl
  rw [← hZ]⟩
 clear hZ
 have hb2 : ((w.alloc (.cells Z 130)).alloc (.cells Z 130)).heap[w.heap.size+1]? = some (.cells Z 130 (0,0)):=by
  have:=blk_new (w.alloc (.cells Z 130)) (.cells Z 130)
  simpa using this
 have hc1 : ((w.alloc (.cells Z 130)).alloc (.cells Z 130)).cell? ⟨w.heap.size+1,0,none⟩=some (.int .u64 0):=by
  rw [zs hb2 0,hZ'.out,ABl_get (by rw [List.length_replicate];decide)]
  rfl
 have hf1 : ((w.alloc (.cells Z 130)).alloc (.cells Z 130)).frozen? ⟨w.heap.size+1,0,none⟩=false:=zx hb2 0
 have hb1 : (((w.alloc (.cells Z 130)).alloc (.cells (Z.setIfInBounds 0 (.int .u64 1)) 130))).heap[w.heap.size+1]? = some (.cells (ABl (comb_table.T 0)) 130 (0,0)):=by
  have h0 : Z.setIfInBounds 0 (.int .u64 1)=ABl (comb_table.T 0):=by
   rw [hZ'.out,ABl_set]
   rfl
  have e1 : (w.alloc (.cells Z 130)).heap.size=w.heap.size+1:=by simp
  have h1:=blk_new (w.alloc (.cells Z 130)) (.cells (ABl (comb_table.T 0)) 130)
  rw [e1] at h1
  rw [h0]
  exact h1
 have hb0 : (((w.alloc (.cells Z 130)).alloc (.cells (Z.setIfInBounds 0 (.int .u64 1)) 130))).heap[w.heap.size]? = some (.cells Z 130 (0,0)):=zi (blk_new w _) _
 have HB : Aside0 (Below w.heap.size w ((w.alloc (.cells Z 130)).alloc (.cells (Z.setIfInBounds 0 (.int .u64 1)) 130))):=⟨ze (ze (Below.refl _ _) _) _⟩
 clear hb2
 go_enter Try.func89,Try.ntmps89
 go_wp2
 clear hc1 hf1
 generalize ((w.alloc (.cells Z 130)).alloc (.cells (Z.setIfInBounds 0 (.int .u64 1)) 130))=W1 at hb1 hb0 HB ⊢
 have HC:=zm hb1;have HZ0:=zm hb0;clear hb1 hb0
 go_loopg [2] 16 (fun kq v2 w' => ∃ (n : Nat) (x : Int),v2=.int .i64 x∧Aside0 (x=((n+1 : Nat) : Int))∧Aside0 (n+kq=16)∧Aside0 (w'.heap[w.heap.size+1]? = some (.cells (ABl (comb_table.T n)) 130 (0,0)))∧Aside0 (w'.heap[w.heap.size]? = some (.cells Z 130 (0,0)))∧Aside0 (Below w.heap.size w w'))
 case atStart=>exact ⟨0,1,rfl,⟨rfl⟩,⟨rfl⟩,HC,HZ0,HB⟩
 case round =>
  clear HC HZ0 HB
  obtain ⟨n,x,rfl,HX,HN,HC,HZ0,HB⟩:=hrel
  by_cases c9 : x≤16
  ·
   have ai : decide (x≤16)=true:=decide_eq_true c9
   have hx0 : (0≤x)=True:=eq_true (by have:=HX.out;omega)
   have hx1 : (x < 17)=True:=eq_true (by omega)
   have hxn : x.toNat=n+1:=by have:=HX.out;omega
   obtain ⟨n',rfl⟩ : ∃ q,gk=q+1:=⟨gk - 1,by have:=HN.out;have:=HX.out;omega⟩
   have ae : n < 16:=by have:=HX.out;omega
   have hcl : wr.cell? ⟨w.heap.size+1,x.toNat * 13,none⟩=some (.int .u64 ((comb_table.T n).getD (x.toNat * 13) 0)):=by
    rw [zs HC.out,ABl_get (by rw [comb_table.T_len];omega)]
   have hfr : wr.frozen? ⟨w.heap.size+1,x.toNat * 13,none⟩=false:=zx HC.out _
   have HXN:=zm hxn;have aa:=zm ae;clear c9 hxn ae
   go_wp2
   have n1_ : Aside0 ((wr.setCell ⟨w.heap.size+1,x.toNat * 13,none⟩ (.int .u64 1)).heap[w.heap.size+1]? = some (.cells (ABl (comb_table.U (comb_table.T n) (n+1) 0)) 130 (0,0))):=⟨by
    have h1:=blk_set HC.out (x.toNat * 13) (.int .u64 1)
    rw [ABl_set,HXN.out] at h1
    rw [HXN.out]
    exact h1⟩
   have n2_ : Aside0 ((wr.setCell ⟨w.heap.size+1,x.toNat * 13,none⟩ (.int .u64 1)).heap[w.heap.size]? = some (.cells Z 130 (0,0))):=⟨zv HZ0.out (by simp) _⟩
   have n3_ : Aside0 (Below w.heap.size w (wr.setCell ⟨w.heap.size+1,x.toNat * 13,none⟩ (.int .u64 1))):=⟨zk HB.out (by omega)⟩
   clear HC HZ0 HB hcl hfr
   generalize (wr.setCell ⟨w.heap.size+1,x.toNat * 13,none⟩ (.int .u64 1))=W2 at n1_ n2_ n3_ ⊢
   go_loopg [3] 12 (fun kq v3 w' => ∃ (j : Nat) (y : Int),v3=.int .i64 y∧Aside0 (y=((j+1 : Nat) : Int))∧Aside0 (j+kq=12)∧Aside0 (w'.heap[w.heap.size+1]? = some (.cells (ABl (comb_table.U (comb_table.T n) (n+1) j)) 130 (0,0)))∧Aside0 (w'.heap[w.heap.size]? = some (.cells Z 130 (0,0)))∧Aside0 (Below w.heap.size w w'))
   case atStart=>exact ⟨0,1,rfl,⟨rfl⟩,⟨rfl⟩,n1_,n2_,n3_⟩
   case round =>
    clear n1_ n2_ n3_
    obtain ⟨j,y,rfl,HY,HJ,HC,HZ0,HB⟩:=hrel
    by_cases c16 : y≤12
    ·
     have af : decide (y≤12)=true:=decide_eq_true c16
     have hy0 : (0≤y)=True:=eq_true (by have:=HY.out;omega)
     have hy1 : (y < 13)=True:=eq_true (by omega)
     have hyn : y.toNat=j+1:=by have:=HY.out;omega
     have hj11 : j < 12:=by have:=HY.out;omega
     obtain ⟨j',rfl⟩ : ∃ q,gk=q+1:=⟨gk - 1,by have:=HJ.out;omega⟩
     obtain ⟨xm,hxm⟩ : ∃ j_ : Int,wrap64 (x - 1)=j_:=⟨_,rfl⟩
     have hxmw : (IntKind.i64.wrap (x - 1))=xm:=(i64_w _).trans hxm
     obtain ⟨ym,hym⟩ : ∃ j_ : Int,wrap64 (y - 1)=j_:=⟨_,rfl⟩
     have hymw : (IntKind.i64.wrap (y - 1))=ym:=(i64_w _).trans hym
     have hxe : xm=(n : Int):=by rw [← hxm];have:=HX.out;have:=aa.out;unfold wrap64;omega
     have hye : ym=(j : Int):=by rw [← hym];have:=HY.out;unfold wrap64;omega
     have hxm0 : (0≤xm)=True:=eq_true (by omega)
     have hxm1 : (xm < 17)=True:=eq_true (by have:=aa.out;omega)
     have hym0 : (0≤ym)=True:=eq_true (by omega)
     have hym1 : (ym < 13)=True:=eq_true (by omega)
     have hxmn : xm.toNat=n:=by omega
     have hymn : ym.toNat=j:=by omega
     have ac:=zm hj11;have HYN:=zm hyn;have HXM:=zm hxmn;have HYM:=zm hymn
     obtain ⟨X,hXd⟩ : ∃ X,X=comb_table.U (comb_table.T n) (n+1) j:=⟨_,rfl⟩
     have hXl : X.length=221:=by rw [hXd,comb_table.U_len,comb_table.T_len]
     rw [← hXd] at HC
     have HXD:=zm hXd;have HXL:=zm hXl;clear hXd hXl c16 hyn hj11 hxmn hymn hxe hye hxm hym
     try go_wp2
     have n1_:=zm (zj HC.out);have n2_:=zm (zj HZ0.out);have n3_:=zm (zf HB.out);clear HC HZ0 HB;have HC:=n1_;have HZ0:=n2_;have HB:=n3_;clear n1_ n2_ n3_
     obtain ⟨va,hva⟩ : ∃ v_,v_=X.getD (xm.toNat * 13+y.toNat) 0:=⟨_,rfl⟩
     obtain ⟨vb,hvb⟩ : ∃ v_,v_=X.getD (x.toNat * 13+ym.toNat) 0:=⟨_,rfl⟩
     obtain ⟨vc,hvc⟩ : ∃ v_,v_=X.getD (xm.toNat * 13+ym.toNat) 0:=⟨_,rfl⟩
     have HVA:=zm hva;have HVB:=zm hvb;have HVC:=zm hvc;clear hva hvb hvc
     have hx1 : wr.drew.cell? ⟨w.heap.size+1,xm.toNat * 13+y.toNat,none⟩=some (.int .u64 va):=by
      rw [zs HC.out,HVA.out,ABl_get (by have:=HXL.out;have:=HXM.out;have:=HYN.out;have:=aa.out;have:=ac.out;omega)]
     have hx2 : wr.drew.cell? ⟨w.heap.size+1,x.toNat * 13+ym.toNat,none⟩=some (.int .u64 vb):=by
      rw [zs HC.out,HVB.out,ABl_get (by have:=HXL.out;have:=HXN.out;have:=HYM.out;have:=aa.out;have:=ac.out;omega)]
     have hx3 : wr.drew.cell? ⟨w.heap.size+1,xm.toNat * 13+ym.toNat,none⟩=some (.int .u64 vc):=by
      rw [zs HC.out,HVC.out,ABl_get (by have:=HXL.out;have:=HXM.out;have:=HYM.out;have:=aa.out;have:=ac.out;omega)]
     have hx4 : wr.drew.cell? ⟨w.heap.size+1,x.toNat * 13+y.toNat,none⟩=some (.int .u64 (X.getD (x.toNat * 13+y.toNat) 0)):=by
      rw [zs HC.out,ABl_get (by have:=HXL.out;have:=HXN.out;have:=HYN.out;have:=aa.out;have:=ac.out;omega)]
     have hf4 : wr.drew.frozen? ⟨w.heap.size+1,x.toNat * 13+y.toNat,none⟩=false:=zx HC.out _
     refine yst (fun w' => w'.cell? ⟨w.heap.size+1,xm.toNat * 13+y.toNat,none⟩=some (.int .u64 va)∧w'.cell? ⟨w.heap.size+1,x.toNat * 13+ym.toNat,none⟩=some (.int .u64 vb)∧w'.cell? ⟨w.heap.size+1,xm.toNat * 13+ym.toNat,none⟩=some (.int .u64 vc)) [25] 26 comb_table.tab10 comb_table.bits10 (fun hHeld HT_ HW_ => ?_) (hS:=⟨hx1,hx2,hx3⟩)
     generalize wr.drew=w30 at HC HZ0 HB hx1 hx2 hx3 hx4 hf4 hHeld ⊢
     refine yp 0 17 HT_ ?_
     refine yp 1 18 HT_ ?_
     refine yp 2 19 HT_ ?_
     refine yp 3 20 HT_ ?_
     refine yp 4 21 HT_ ?_
     refine yp 5 22 HT_ ?_
     refine yp 6 23 HT_ ?_
     refine yp 8 25 HT_ ?_
     refine yp 9 26 HT_ ?_
     refine yp 10 27 HT_ ?_
     refine yp 11 28 HT_ ?_
     refine yp 12 29 HT_ ?_
     refine yp 15 32 HT_ ?_
     refine yp 16 33 HT_ ?_
     refine yp 17 34 HT_ ?_
     refine yp 18 35 HT_ ?_
     refine yp 19 36 HT_ ?_
     refine yp 20 37 HT_ ?_
     refine yp 23 40 HT_ ?_
     refine yl 7 24 HT_ HW_ hHeld ?_
     refine yl 13 30 HT_ HW_ hHeld ?_
     refine yp 14 31 HT_ ?_
     refine yl 21 38 HT_ HW_ hHeld ?_
     refine yp 22 39 HT_ ?_
     refine yp 24 41 HT_ ?_
     refine last_ (i:=25) (N:=none) #[true,true,true,true,true,true,true,true,true,true,true,true,true,true,true,true,true,true,true,true,true,true,true,true,true,true] rfl rfl (one_of HT_.out (by kernel_rfl)) (by decide) (fun K hK => ?_)
     refine skip_ (w1 := ?_) (by rfl) rfl ?_ ?_
     rotate_left
     ·
      go_simp
      rfl
     refine hK.out _ _ ?_
     clear hK K
     refine done_ (done_of HT_.out (by kernel_rfl)) ?_
     try go_wp2
     go_roundg j'
     case measure=>omega
     case rel=>exact ⟨j+1,_,rfl,⟨by have:=HY.out;have:=ac.out;unfold wrap64;omega⟩,⟨yom1 HJ⟩,⟨by
      have h1:=blk_set HC.out (x.toNat * 13+y.toNat) (.int .u64 (comb_table.new X (n+1) (j+1)))
      rw [ABl_set] at h1
      have h2 : X.set (x.toNat * 13+y.toNat) (comb_table.new X (n+1) (j+1))=comb_table.U (comb_table.T n) (n+1) (j+1):=by
       rw [HXN.out,HYN.out,HXD.out]
       rfl
      have h3 : comb_table.new X (n+1) (j+1)=IntKind.u64.wrap (IntKind.u64.wrap (va+vb)+vc):=by
       rw [HVA.out,HVB.out,HVC.out,HXN.out,HYN.out,HXM.out,HYM.out]
       rfl
      rw [h2,h3] at h1
      exact h1⟩,⟨zv HZ0.out (by simp) _⟩,⟨zk HB.out (by omega)⟩⟩
    have af : decide (y≤12)=false:=decide_eq_false c16
    have hj12 : j=12:=by have:=HY.out;have:=HJ.out;omega
    have aj:=zm hj12;clear c16 hj12
    go_wp2
    go_roundg n'
    case measure=>omega
    case rel=>exact ⟨n+1,_,rfl,⟨by have:=HX.out;have:=aa.out;unfold wrap64;omega⟩,⟨yom1 HN⟩,⟨by rw [HC.out,aj.out];rfl⟩,HZ0,HB⟩
  have ai : decide (x≤16)=false:=decide_eq_false c9
  have ag : n=16:=by have:=HX.out;have:=HN.out;omega
  have ak:=zm ag;clear c9 ag
  have ah : wr.heap[w.heap.size+1]? = some (.cells (ABl (comb_table.T 16)) 130 (0,0)):=by
   rw [← ak.out]
   exact HC.out
  have HF:=zm ah;clear ah HC
  go_wp2
  refine wp_load_row 130 (.tmp 1) rfl (w.heap.size+1) rfl 130 _ (0,0) (.array 17 128) HF.out Try.underlying130 rfl comb_table.size16 ?_
  have hst:=storeCells_row (P:=Try.prog) wr w.heap.size 130 130 Z (ABl (comb_table.T 16)) HZ0.out comb_table.size16 (by rw [hZ'.out,ABl_size,ABl_size,comb_table.T_len,List.length_replicate]) (ABl_one _)
  go_wp2
  (try simp only [Exit.inBlock,Exit.then])
  refine bodyPost_ret (results_cell_row rfl _ _ w.heap.size 130 (ABl (comb_table.T 16)) (0,0) (.array 17 128) rfl (setRow_heap _ _ _ _ _ _ HZ0.out) Try.underlying130 rfl comb_table.size16) rfl ?_
  exact ⟨rfl,below_row HB.out (Nat.le_refl _) _⟩

/-- What place k of row n holds. -/
def comb_table.f (a0 a1 : Int) : Option Int:=if 0≤a0 then (if a0 < 17 then (if 0≤a1 then (if a1 < 13 then some ((comb_table.T 16).getD (a0.toNat * 13+a1.toNat) 0) else none) else none) else none) else none
theorem comb_table.parts {n k t : Int} (h : comb_table.f n k=some t) : 0≤n∧n < 17∧0≤k∧k < 13∧t=(comb_table.T 16).getD (n.toNat * 13+k.toNat) 0:=by
 unfold comb_table.f at h
 split at h
 ·
  split at h
  ·
   split at h
   ·
    split at h
    ·
     exact ⟨by assumption,by assumption,by assumption,by assumption,(Option.some.inj h).symm⟩
    exact absurd h (by simp)
   exact absurd h (by simp)
  exact absurd h (by simp)
 exact absurd h (by simp)
theorem comb_table.inn {n k t : Int} (h : comb_table.f n k=some t) : ((0≤n)=True)∧((n < 17)=True)∧((0≤k)=True)∧((k < 13)=True):=by
 obtain ⟨h0,h1,h2,h3,_⟩:=comb_table.parts h
 exact ⟨eq_true h0,eq_true h1,eq_true h2,eq_true h3⟩
theorem comb_table.look {W : World} {g : Nat} (hg : W.heap[g]? = some (.cells (ABl (comb_table.T 16)) 130 (0,0))) {n k t : Int} (h : comb_table.f n k=some t) : W.cell? ⟨g,n.toNat * 13+k.toNat,none⟩=some (.int .u64 t):=by
 obtain ⟨h0,h1,h2,h3,ht⟩:=comb_table.parts h
 rw [ht,zs hg,ABl_get (by rw [comb_table.T_len];omega)]
set_option maxRecDepth 100000 in
theorem comb_table.zsize : ∃ Z : Array Value,(∀ W,(zeroValue 130).run Try.prog W=.ok (.agg Z) W)∧Aside0 (Z.size=(ABl (comb_table.T 16)).size):=by
 obtain ⟨Z,hz,hZ⟩:=comb_table.zeroes
 refine ⟨Z,hz,⟨?_⟩⟩
 have h:=congrArg List.length hZ
 rw [Array.length_toList,encs_length,List.length_replicate] at h
 exact h.trans (by rw [ABl_size,comb_table.T_len])
end Go.Proofs.Ytifkhfnmbiefaaa.Prt

namespace Go.Proofs.Ytifkhfnmbiefaaa.Prt
open Go.RowKit Go.Proofs.YtifkhfnmbiefaaaW.PrintWords Go.Proofs.YtifkhfnmbiefaaaW.PrintLast Go.Proofs.YtifkhfnmbiefaaaW.PrintMore
attribute [local go_sem] max2_int min2_int max_two min_two max_three min_three max_four min_four   -- for this text's walks alone
set_option linter.unusedVariables false
set_option linter.unusedSimpArgs false


def comb_Count.f (a0 : Int) (a1 : Int) : Option (Int × Int):=(comb_fair.f a0 a1).bind fun ae=>(if ae=true then ((comb_table.f a0 a1).bind fun ac=>(some (ac,0))) else (some (0,1)))
set_option maxHeartbeats 8000000 in
set_option maxRecDepth 100000 in
theorem comb_Count.calls (a0 : Int) (a1 : Int) (r1 : Int) (r2 : Int) (w : World) (h : comb_Count.f a0 a1=some (r1,r2)) :
  Calls Try.prog 47 #[.int .i64 a0, .int .i64 a1] w fun e w' => e=.returned (.tuple #[.int .u64 r1, .int .i64 r2])∧Below w.heap.size w w' := by
 have HB:=zm (Below.refl w.heap.size w);have H:=h
 unfold comb_Count.f at H
 clear h
 replace H:=ybi H;obtain ⟨ae,A3,H⟩:=H
 by_cases c4 : ae=true
 ·
  subst c4
  rw [if_pos rfl] at H
  obtain ⟨ag,aa⟩ : ∃ y_ : List Int,y_=(([0] : List Int)):=⟨_,rfl⟩
  replace H : ((comb_table.f a0 a1).bind fun ac=>(some (ac,0)))=some (r1,r2):=yrw aa H
  have af:=zm aa;clear aa
  replace H:=ybi H;obtain ⟨ac,A5,H⟩:=H
  simp only [Option.some.injEq,Prod.mk.injEq] at H
  obtain ⟨rfl,rfl⟩:=H
  go_enter Try.func47,Try.ntmps47
  obtain ⟨Z,hz,HZs⟩:=comb_table.zsize
  obtain ⟨ia0,ib0,ic0,id0⟩:=comb_table.inn A5.out
  go_wp2_with (first|((with_reducible refine gate_callee (f:=88) rfl ?_);refine ygl 9 Try.func88 #[.int .i64 a0, .int .i64 a1] ?_;(with_reducible refine (comb_fair.calls a0 a1 true _ A3.out).mono ?_);rintro e w' ⟨rfl,⟨nd,rfl⟩⟩;refine ⟨_,rfl, ?_⟩)|((with_reducible refine gate_callee (f:=89) rfl ?_);refine goesL_ (some 11) rfl rfl Try.func89 (by kernel_rfl) rfl #[] rfl (by first|rfl|simp) ?_;(with_reducible refine (comb_table.made _).mono ?_);rintro e w5 ⟨rfl,hb5⟩;refine ⟨_,rfl, ?_⟩;have hst:=run_storeCells_new (P:=Try.prog) w5 130 Z (ABl (comb_table.T 16)) comb_table.size16 HZs.out (ABl_one _);have n1_:=zm (ze (zJ yhb hb5) (.cells (ABl (comb_table.T 16)) 130));clear HB;have HB:=n1_;clear n1_;have hbn:=zm (blk_new w5 (.cells (ABl (comb_table.T 16)) 130));have hcl0:=comb_table.look hbn.out A5.out))
  go_ret2
  exact ⟨ye,yhb⟩
 replace c4:=Bool.eq_false_iff.mpr c4
 subst c4
 rw [ynf] at H
 simp only [Option.some.injEq,Prod.mk.injEq] at H
 obtain ⟨rfl,rfl⟩:=H
 go_enter Try.func47,Try.ntmps47
 go_wp2_with (first|((with_reducible refine gate_callee (f:=88) rfl ?_);refine ygl 9 Try.func88 #[.int .i64 a0, .int .i64 a1] ?_;(with_reducible refine (comb_fair.calls a0 a1 false _ A3.out).mono ?_);rintro e w' ⟨rfl,⟨nd,rfl⟩⟩;refine ⟨_,rfl, ?_⟩))
 go_ret2
 exact ⟨ye,yhb⟩
def comb_width.l0 : Nat→Int→Int→Option (Int)
 | 0,_,_=>none
 | k+1,x0,x3=>if x0 > 0 then (comb_width.l0 k (x0 / 2) (wrap64 (x3+1))) else (some x3)
def comb_width.f (k : Nat) (a0 : Int) : Option (Int):=comb_width.l0 k a0 0
theorem comb_width.mono_l : ∀ k,(∀ y0 y1,LeO (comb_width.l0 k y0 y1) (comb_width.l0 (k+1) y0 y1))
 | 0=>fun _ _ r h=>by simp [comb_width.l0] at h
 | k+1=>by
  have ih0:=comb_width.mono_l k
  ·
   intro y0 y1
   unfold comb_width.l0
   repeat' with_reducible first|apply ih0|apply yLr|apply yLn|apply yLi|apply yLb|intro _
theorem comb_width.mono : ∀ a0 k,LeO (comb_width.f k a0) (comb_width.f (k+1) a0):=by
 intro a0 k
 have ih0:=comb_width.mono_l k
 unfold comb_width.f
 repeat' with_reducible first|apply ih0|apply yLr|apply yLn|apply yLi|apply yLb|intro _
set_option maxHeartbeats 8000000 in
set_option maxRecDepth 100000 in
theorem comb_width.calls (k : Nat) (a0 : Int) (r : Int) (w : World) (h : comb_width.f k a0=some r) :
  Calls Try.prog 124 #[.int .u64 a0] w fun e w' => e=.returned (.int .i64 r)∧Drawn0 w w' := by
 have H:=h
 unfold comb_width.f at H
 clear h
 have H' := zm H
 clear H
 go_enter Try.func124,Try.ntmps124
 go_wp2
 go_loopg [0,3] k (fun kq v0 v3 w' => ∃ (aa : Int) (ac : Int),v0=.int .u64 aa∧v3=.int .i64 ac∧Aside0 (comb_width.l0 kq aa ac=some r)∧Aside0 (kq≤k)∧Drawn0 w w')
 case atStart=>exact ⟨(a0),(0),yq,yq,H',⟨Nat.le_refl _⟩,yd⟩
 case round =>
  clear H'
  obtain ⟨aa,ac,rfl,rfl,HA,HK1,⟨m1,rfl⟩⟩:=hrel
  obtain ⟨k1,rfl⟩:=ysu gk (fun h=>by subst h;exact absurd HA.out (by simp [comb_width.l0]))
  have H:=HA.out;clear HA
  simp only [comb_width.l0] at H
  by_cases c2 : aa > 0
  ·
   rw [if_pos c2] at H
   have ae:=yDs c2
   clear c2
   have H' := zm H
   clear H
   go_wp2
   go_roundg k1
   case measure=>exact yom1 HK1
   case rel=>exact ⟨(aa / 2),(wrap64 (ac+1)),yq,yq,H',⟨yom1 HK1⟩,yd⟩
  rw [if_neg c2] at H
  have ae:=yGs c2
  clear c2
  obtain rfl:=Option.some.inj H
  go_wp2
  go_ret
  exact ⟨yq,yd⟩
def comb_Cost.f (k : Nat) (a0 : Int) (a1 : Int) : Option (Int × Int):=(comb_Count.f a0 a1).bind fun aa=>(if aa.2=0 then (if (IntKind.u64.wrap (aa.1 - 1)) < 65536 then ((comb_width.f k (IntKind.u64.wrap (aa.1 - 1))).bind fun af=>(some (af,0))) else ((comb_width.f k ((IntKind.u64.wrap (aa.1 - 1)) / 65536)).bind fun ag=>(some (wrap64 (ag+16),0)))) else (some (0,aa.2)))
theorem comb_Cost.mono : ∀ a0 a1 k,LeO (comb_Cost.f k a0 a1) (comb_Cost.f (k+1) a0 a1):=by
 intro a0 a1 k
 unfold comb_Cost.f
 repeat' with_reducible first|apply comb_width.mono|apply yLr|apply yLn|apply yLi|apply yLb|intro _
set_option maxHeartbeats 8000000 in
set_option maxRecDepth 100000 in
theorem comb_Cost.calls (k : Nat) (a0 : Int) (a1 : Int) (r1 : Int) (r2 : Int) (w : World) (h : comb_Cost.f k a0 a1=some (r1,r2)) :
  Calls Try.prog 122 #[.int .i64 a0, .int .i64 a1] w fun e w' => e=.returned (.tuple #[.int .i64 r1, .int .i64 r2])∧Below w.heap.size w w' := by
 have HB:=zm (Below.refl w.heap.size w);have H:=h
 unfold comb_Cost.f at H
 clear h
 replace H:=ybi H;obtain ⟨⟨ac,ae⟩,A3,H⟩:=H
 try dsimp only at H
 by_cases c4 : ae=0
 ·
  rw [if_pos c4] at H
  obtain ⟨ah,ai⟩:=yE c4
  clear c4
  by_cases c5 : (IntKind.u64.wrap (ac - 1)) < 65536
  ·
   rw [if_pos c5] at H
   have aj:=yD c5
   clear c5
   replace H:=ybi H;obtain ⟨af,A6,H⟩:=H
   simp only [Option.some.injEq,Prod.mk.injEq] at H
   obtain ⟨rfl,rfl⟩:=H
   go_enter Try.func122,Try.ntmps122
   go_wp2_with (first|((with_reducible refine gate_callee (f:=47) rfl ?_);refine ygl 11 Try.func47 #[.int .i64 a0, .int .i64 a1] ?_;(with_reducible refine (comb_Count.calls a0 a1 ac ae _ A3.out).mono ?_);rintro e w7 ⟨rfl,hb⟩;refine ⟨_,rfl, ?_⟩;replace HB:=ybs hb;(try clear hb))|((with_reducible refine gate_callee (f:=124) rfl ?_);refine ygl 22 Try.func124 #[.int .u64 (IntKind.u64.wrap (ac - 1))] ?_;(with_reducible refine (comb_width.calls k (IntKind.u64.wrap (ac - 1)) af _ A6.out).mono ?_);rintro e w' ⟨rfl,⟨nd,rfl⟩⟩;refine ⟨_,rfl, ?_⟩))
   go_ret2
   exact ⟨ye,yhb⟩
  rw [if_neg c5] at H
  have aj:=yG c5
  clear c5
  replace H:=ybi H;obtain ⟨ag,A8,H⟩:=H
  simp only [Option.some.injEq,Prod.mk.injEq] at H
  obtain ⟨rfl,rfl⟩:=H
  go_enter Try.func122,Try.ntmps122
  go_wp2_with (first|((with_reducible refine gate_callee (f:=47) rfl ?_);refine ygl 11 Try.func47 #[.int .i64 a0, .int .i64 a1] ?_;(with_reducible refine (comb_Count.calls a0 a1 ac ae _ A3.out).mono ?_);rintro e w9 ⟨rfl,hb⟩;refine ⟨_,rfl, ?_⟩;replace HB:=ybs hb;(try clear hb))|((with_reducible refine gate_callee (f:=124) rfl ?_);refine ygl 25 Try.func124 #[.int .u64 ((IntKind.u64.wrap (ac - 1)) / 65536)] ?_;(with_reducible refine (comb_width.calls k ((IntKind.u64.wrap (ac - 1)) / 65536) ag _ A8.out).mono ?_);rintro e w' ⟨rfl,⟨nd,rfl⟩⟩;refine ⟨_,rfl, ?_⟩))
  go_ret2
  exact ⟨ye,yhb⟩
 rw [if_neg c4] at H
 obtain ⟨ah,ai⟩:=yF c4
 simp only [Option.some.injEq,Prod.mk.injEq] at H
 obtain ⟨rfl,rfl⟩:=H
 go_enter Try.func122,Try.ntmps122
 go_wp2_with (first|((with_reducible refine gate_callee (f:=47) rfl ?_);refine ygl 11 Try.func47 #[.int .i64 a0, .int .i64 a1] ?_;(with_reducible refine (comb_Count.calls a0 a1 ac ae _ A3.out).mono ?_);rintro e w10 ⟨rfl,hb⟩;refine ⟨_,rfl, ?_⟩;replace HB:=ybs hb;(try clear hb)))
 go_ret2
 exact ⟨ye,yhb⟩
def alloc_cost.j0 : Nat→Int→List Int→Int→Bool→Option (Int × Bool)
 | 0,_,_,_,_=>none
 | k+1,x1,x2,x3,x33=>if x33=true then (some (0,false)) else ((band_Width.f x1).bind fun al=>(if 0≤x1 then (if x1 < (x2.length : Int) then ((comb_Cost.f k al (rd x2 x1)).bind fun ap=>((band_Width.f x1).bind fun am=>((comb_Cost.f k am (wrap64 ((rd x2 x1)+1))).bind fun aq=>(some (wrap64 (aq.1 - ap.1),decide ((wrap64 (aq.1 - ap.1))≤x3)))))) else (none)) else (none)))
def alloc_cost.f (k : Nat) (l0 : List Int) (a1 : Int) (l2 : List Int) (a3 : Int) : Option (Int × Bool):=if 0≤a1 then (if a1 < (l0.length : Int) then (if (rd l0 a1)=0 then (alloc_cost.j0 k a1 l2 a3 true) else (if a1 < (l2.length : Int) then ((alloc_most.f a1).bind fun ao=>(alloc_cost.j0 k a1 l2 a3 (decide ((rd l2 a1) ≥ ao)))) else (none))) else (none)) else (none)
theorem alloc_cost.mono_l : ∀ k,(∀ y0 y1 y2 y3,LeO (alloc_cost.j0 k y0 y1 y2 y3) (alloc_cost.j0 (k+1) y0 y1 y2 y3))
 | 0=>fun _ _ _ _ r h=>by simp [alloc_cost.j0] at h
 | k+1=>by
  have ih0:=alloc_cost.mono_l k
  ·
   intro y0 y1 y2 y3
   unfold alloc_cost.j0
   repeat' with_reducible first|apply ih0|apply comb_Cost.mono|apply yLr|apply yLn|apply yLi|apply yLb|intro _
theorem alloc_cost.mono : ∀ a0 a1 a2 a3 k,LeO (alloc_cost.f k a0 a1 a2 a3) (alloc_cost.f (k+1) a0 a1 a2 a3):=by
 intro a0 a1 a2 a3 k
 have ih0:=alloc_cost.mono_l k
 unfold alloc_cost.f
 repeat' with_reducible first|apply ih0|apply comb_Cost.mono|apply yLr|apply yLn|apply yLi|apply yLb|intro _
def alloc_cost.T1 : Bool × List (List Nat × List Nat):=(true, [([], []),([0], [0]),([1], [1]),([2], [2]),([], []),([3,4], [3,4]),([5], [5]),([6], [6]),([7], [7]),([8], [8]),([9,8], [8,9]),([10,8], [8,10]),([11,8], [8,11]),([8], [8]),([12,13,8], [8,12,13]),([14,8], [8,14]),([8], [8]),([16,8], [8,16]),([17,8], [8,17]),([18,8], [8,18]),([8], [8]),([19,20,8,8], [8,19,20]),([15,21,8], [8,15,21]),([8,22], [8,22])])
def alloc_cost.B1 : List Nat := [0,1,3,7,0,31,63,127,255,511,1023,2047,4095,511,16383,32767,511,66047,197119,459263,511,2032127,4194303,8388607]
theorem alloc_cost.tab1 : rtab .any (opsOf Try.f112 1)=alloc_cost.T1:=by kernel_rfl
theorem alloc_cost.bits1 : waitsOk alloc_cost.T1.2 alloc_cost.B1=true:=by kernel_rfl
def alloc_cost.T3 : Bool × List (List Nat × List Nat):=(true, [([], []),([0], [0]),([], []),([2], [2]),([3], [3]),([4], [4]),([], []),([5,6], [5,6]),([7], [7]),([1,8,1], [1,8]),([9], [9]),([10], [10]),([10], [10]),([11,9,0,1,2,3,4,5,6,7,8,9,10,11], [11]),([12,13,0,1,2,3,4,5,6,7,8,9,10,11,12,13], [12])])
def alloc_cost.B3 : List Nat := [0,1,0,4,12,28,0,124,252,511,1023,2047,2047,4095,16383]
theorem alloc_cost.tab3 : rtab .any (opsOf Try.f112 3)=alloc_cost.T3:=by kernel_rfl
theorem alloc_cost.bits3 : waitsOk alloc_cost.T3.2 alloc_cost.B3=true:=by kernel_rfl
def alloc_cost.T4 : Bool × List (List Nat × List Nat):=(true, [([], []),([0], [0]),([], []),([2], [2]),([3], [3]),([4], [4]),([], []),([5,6], [5,6]),([7], [7]),([8], [8]),([1,9,1], [1,9]),([10], [10]),([11], [11]),([11], [11]),([12,10,0,1,2,3,4,5,6,7,8,9,10,11,12], [12]),([13,14,0,1,2,3,4,5,6,7,8,9,10,11,12,13,14], [13])])
def alloc_cost.B4 : List Nat := [0,1,0,4,12,28,0,124,252,508,1023,2047,4095,4095,8191,32767]
theorem alloc_cost.tab4 : rtab .any (opsOf Try.f112 4)=alloc_cost.T4:=by kernel_rfl
theorem alloc_cost.bits4 : waitsOk alloc_cost.T4.2 alloc_cost.B4=true:=by kernel_rfl
def alloc_cost.T5 : Bool × List (List Nat × List Nat):=(true, [([], []),([], []),([0,1], [0,1]),([], []),([], []),([3,4], [3,4]),([], []),([6], [6]),([7], [7]),([8], [8]),([5,9], [5,9]),([2,0,1,2], [2]),([10,11,0,1,2,3,4,5,6,7,8,9,10,11], [10])])
def alloc_cost.B5 : List Nat := [0,0,3,0,0,24,0,64,192,448,1016,7,4095]
theorem alloc_cost.tab5 : rtab .any (opsOf Try.f112 5)=alloc_cost.T5:=by kernel_rfl
theorem alloc_cost.bits5 : waitsOk alloc_cost.T5.2 alloc_cost.B5=true:=by kernel_rfl
set_option maxHeartbeats 8000000 in
set_option maxRecDepth 100000 in
theorem alloc_cost.calls (k : Nat) (B : Nat) (A0 : Option Addr) (c0 : Nat) (l0 : List Int) (a1 : Int) (A2 : Option Addr) (c2 : Nat) (l2 : List Int) (a3 : Int) (r1 : Int) (r2 : Bool) (w : World) (hr0 : Kd.C (Kd.int .i64) w A0 l0.length l0) (hc0 : l0.length≤c0) (hr2 : Kd.C (Kd.int .i64) w A2 l2.length l2) (hc2 : l2.length≤c2) (hs : w.heap[B]? = some (.cells #[.slice A0 l0.length c0, .slice A2 l2.length c2, .int .i64 a3, .func (.func 74) #[] #[]] 113 (0,0))) (h : alloc_cost.f k l0 a1 l2 a3=some (r1,r2)) :
  Calls Try.prog 112 #[.pointer (some ⟨B,0,none⟩), .int .i64 a1] w fun e w' => e=.returned (.tuple #[.int .i64 r1, .bool r2])∧Below w.heap.size w w' := by
 have HR0:=zm hr0;have HC0:=zm hc0;clear hr0 hc0;have HR2:=zm hr2;have HC2:=zm hc2;clear hr2 hc2
 have hSt : ∀ W,Below w.heap.size w W→(W.cell? ⟨B,0,none⟩=some (.slice A0 l0.length c0)∧W.cell? ⟨B,1,none⟩=some (.slice A2 l2.length c2)∧W.cell? ⟨B,2,none⟩=some (.int .i64 a3)∧W.cell? ⟨B,3,none⟩=some (.func (.func 74) #[] #[])):=fun W hb=>by
  have h9:=zF hs hb
  exact ⟨(zs h9 0).trans rfl,(zs h9 1).trans rfl,(zs h9 2).trans rfl,(zs h9 3).trans rfl⟩
 have HST:=zm hSt;clear hSt hs;have HB:=zm (Below.refl w.heap.size w);have H:=h
 unfold alloc_cost.f at H
 clear h;have HC5:=zm H;clear H
 go_enter Try.func112,Try.ntmps112
 go_upto_region 1 with (fail)
 go_cut [33] (fun v33 wc => ∃ (kq : Nat) (ak : Bool),v33=.bool ak∧Aside0 (alloc_cost.j0 kq a1 l2 a3 ak=some (r1,r2))∧Aside0 (kq≤k)∧Aside0 (Below w.heap.size w wc))
 case first =>
  have H:=HC5.out;clear HC5
  replace H:=yif H;obtain ⟨c6,H⟩:=H
  have aD : decide (0≤a1)=true:=decide_eq_true c6
  clear c6
  (first|rw [aD]|(simp only [i64_w,i32_w];rw [aD])|skip)
  replace H:=yif H;obtain ⟨c7,H⟩:=H
  have aX : decide (a1 < (l0.length : Int))=true:=decide_eq_true c7
  clear c7
  by_cases c8 : (rd l0 a1)=0
  ·
   rw [if_pos c8] at H
   obtain ⟨aG,aH⟩:=yE c8
   clear c8
   have H' := zm H
   clear H
   try go_wp2
   replace HB:=zm (zf HB.out)
   have ai : 0≤(a1 : Int):=yt
   have aj : a1 < (l0.length : Int):=yt
   obtain ⟨ah,av,aa⟩:=Kd.at_int HR0.out a1 ai aj
   have hw162_0:=aa
   cases av
   replace aa:=yhx HB aa
   replace ai:=eq_true ai
   replace aj:=eq_true aj
   refine yst (fun w' => (w'.cell? ⟨B,0,none⟩=some (.slice (some ah) l0.length c0)∧w'.cell? ⟨B,1,none⟩=some (.slice A2 l2.length c2)∧w'.cell? ⟨B,2,none⟩=some (.int .i64 a3)∧w'.cell? ⟨B,3,none⟩=some (.func (.func 74) #[] #[]))∧(w'.cell? (ah.add (a1).toNat)=some (.int .i64 (rd l0 a1)))) [] 24 alloc_cost.tab1 alloc_cost.bits1 (fun hHeld HT_ HW_ => ?_) (hS:=⟨HST.out _ HB.out,((yhx HB hw162_0 :))⟩)
   generalize w.drew=w9 at HB aa hHeld ⊢
   refine yp 0 10 HT_ ?_
   refine yp 1 11 HT_ ?_
   refine yp 2 12 HT_ ?_
   refine yl 3 13 HT_ HW_ hHeld ?_
   refine yp 4 14 HT_ ?_
   refine yp 5 15 HT_ ?_
   refine yl 6 16 HT_ HW_ hHeld ?_
   refine yp 7 17 HT_ ?_
   refine yp 8 18 HT_ ?_
   refine yu 9 19 HT_ ?_
   refine yu 10 20 HT_ ?_
   refine yu 11 21 HT_ ?_
   refine yu 12 22 HT_ ?_
   refine yu 13 23 HT_ ?_
   refine yu 14 24 HT_ ?_
   refine yu 15 25 HT_ ?_
   refine yu 16 26 HT_ ?_
   refine yu 17 27 HT_ ?_
   refine yu 18 28 HT_ ?_
   refine yu 19 29 HT_ ?_
   refine yu 20 30 HT_ ?_
   refine yu 21 31 HT_ ?_
   refine yu 22 32 HT_ ?_
   refine yp 23 33 HT_ ?_
   refine done_ (done_of HT_.out (by kernel_rfl)) ?_
   try go_wp2
   go_meet
   case rel=>exact ⟨_,(true),yq,H',⟨yo⟩,⟨yhb⟩⟩
  rw [if_neg c8] at H
  obtain ⟨aG,aH⟩:=yF c8
  replace H:=yif H;obtain ⟨c10,H⟩:=H
  have aU : decide (a1 < (l2.length : Int))=true:=decide_eq_true c10
  clear c10
  replace H:=ybi H;obtain ⟨ao,A11,H⟩:=H
  have H' := zm H
  clear H
  try go_wp2
  replace HB:=zm (zf HB.out)
  have ai : 0≤(a1 : Int):=yt
  have aj : a1 < (l0.length : Int):=yt
  obtain ⟨ah,av,aa⟩:=Kd.at_int HR0.out a1 ai aj
  have hw162_0:=aa
  cases av
  replace aa:=yhx HB aa
  replace ai:=eq_true ai
  replace aj:=eq_true aj
  have aw : 0≤(a1 : Int):=yt
  have ax : a1 < (l2.length : Int):=yt
  obtain ⟨au,aI,ac⟩:=Kd.at_int HR2.out a1 aw ax
  have hw163_0:=ac
  cases aI
  replace ac:=yhx HB ac
  replace aw:=eq_true aw
  replace ax:=eq_true ax
  refine yst (fun w' => (w'.cell? ⟨B,0,none⟩=some (.slice (some ah) l0.length c0)∧w'.cell? ⟨B,1,none⟩=some (.slice (some au) l2.length c2)∧w'.cell? ⟨B,2,none⟩=some (.int .i64 a3)∧w'.cell? ⟨B,3,none⟩=some (.func (.func 74) #[] #[]))∧(w'.cell? (ah.add (a1).toNat)=some (.int .i64 (rd l0 a1))∧w'.cell? (au.add (a1).toNat)=some (.int .i64 (rd l2 a1)))) [] 24 alloc_cost.tab1 alloc_cost.bits1 (fun hHeld HT_ HW_ => ?_) (hS:=⟨HST.out _ HB.out,⟨(yhx HB hw162_0 :),(yhx HB hw163_0 :)⟩⟩)
  generalize w.drew=w12 at HB aa ac hHeld ⊢
  refine yp 0 10 HT_ ?_
  refine yp 1 11 HT_ ?_
  refine yp 2 12 HT_ ?_
  refine yl 3 13 HT_ HW_ hHeld ?_
  refine yp 4 14 HT_ ?_
  refine yp 5 15 HT_ ?_
  refine yl 6 16 HT_ HW_ hHeld ?_
  refine yp 7 17 HT_ ?_
  refine yp 8 18 HT_ ?_
  refine yp 9 19 HT_ ?_
  refine yp 10 20 HT_ ?_
  refine yp 11 21 HT_ ?_
  refine yl 12 22 HT_ HW_ hHeld ?_
  refine yp 13 23 HT_ ?_
  refine yp 14 24 HT_ ?_
  refine yp 16 26 HT_ ?_
  refine yp 17 27 HT_ ?_
  refine yp 18 28 HT_ ?_
  refine yl 19 29 HT_ HW_ hHeld ?_
  refine yp 20 30 HT_ ?_
  refine yl 15 25 HT_ HW_ hHeld ?_
  refine yw 21 31 HT_ (fun K hK => ?_)
  refine call_ 74 #[.int .i64 a1] (by rfl) rfl ?hrun ?_
  (case hrun =>
   have he:=fun W=>enters_ Try.func74 (by kernel_rfl) rfl #[.int .i64 a1] W
   unfold execOp
   simp [resolve,Deferred.ofValue,invoke,Act.eval,he])
  with_reducible refine (alloc_most.calls a1 ao _ A11.out).mono ?_
  rintro e w13 ⟨rfl,hb⟩
  refine ⟨_,rfl, ?_⟩
  replace HB:=ybs hb
  (try clear hb)
  refine hK.out _ _ ⟨HST.out _ HB.out,⟨(yhx HB hw162_0 :),(yhx HB hw163_0 :)⟩⟩ (fun hHeld => ?_)
  clear hK K
  refine ym (some 31) ?_
  refine yp 22 32 HT_ ?_
  refine yp 23 33 HT_ ?_
  refine done_ (done_of HT_.out (by kernel_rfl)) ?_
  try go_wp2
  go_meet
  case rel=>exact ⟨_,(decide ((rd l2 a1) ≥ ao)),yq,H',⟨yo⟩,⟨yhb⟩⟩
 case rest =>
  clear HC5
  try clear c2
  obtain ⟨kq,ak,rfl,HA,HJ4,HB⟩:=hcut
  obtain ⟨kj4,rfl⟩:=ysu kq (fun h=>by subst h;exact absurd HA.out (by simp [alloc_cost.j0]))
  have H:=HA.out;clear HA
  simp only [alloc_cost.j0] at H
  by_cases c14 : ak=true
  ·
   subst c14
   rw [if_pos rfl] at H
   simp only [Option.some.injEq,Prod.mk.injEq] at H
   obtain ⟨rfl,rfl⟩:=H
   go_wp2
   go_ret2
   exact ⟨ye,yhb⟩
  replace c14:=Bool.eq_false_iff.mpr c14
  subst c14
  rw [ynf] at H
  replace H:=ybi H;obtain ⟨al,A15,H⟩:=H
  replace H:=yif H;obtain ⟨c16,H⟩:=H
  have aV : decide (0≤a1)=true:=decide_eq_true c16
  clear c16
  replace H:=yif H;obtain ⟨c17,H⟩:=H
  have aW : decide (a1 < (l2.length : Int))=true:=decide_eq_true c17
  clear c17
  replace H:=ybi H;obtain ⟨⟨aJ,aK⟩,A18,H⟩:=H
  try dsimp only at H
  replace H:=ybi H;obtain ⟨am,A19,H⟩:=H
  replace H:=ybi H;obtain ⟨⟨aM,aN⟩,A20,H⟩:=H
  try dsimp only at H
  simp only [Option.some.injEq,Prod.mk.injEq] at H
  obtain ⟨rfl,rfl⟩:=H
  try go_wp2
  replace HB:=zm (zf HB.out)
  have ay : 0≤(a1 : Int):=yt
  have az : a1 < (l2.length : Int):=yt
  obtain ⟨ag,aQ,ae⟩:=Kd.at_int HR2.out a1 ay az
  have hw166_0:=ae
  cases aQ
  replace ae:=yhx HB ae
  replace ay:=eq_true ay
  replace az:=eq_true az
  refine yst (fun w' => (w'.cell? ⟨B,0,none⟩=some (.slice A0 l0.length c0)∧w'.cell? ⟨B,1,none⟩=some (.slice (some ag) l2.length c2)∧w'.cell? ⟨B,2,none⟩=some (.int .i64 a3)∧w'.cell? ⟨B,3,none⟩=some (.func (.func 74) #[] #[]))∧(w'.cell? (ag.add (a1).toNat)=some (.int .i64 (rd l2 a1)))) [] 15 alloc_cost.tab3 alloc_cost.bits3 (fun hHeld HT_ HW_ => ?_) (hS:=⟨HST.out _ HB.out,((yhx HB hw166_0 :))⟩)
  generalize wc.drew=w21 at HB ae hHeld ⊢
  refine yp 0 35 HT_ ?_
  refine yp 2 37 HT_ ?_
  refine yp 3 38 HT_ ?_
  refine yp 4 39 HT_ ?_
  refine yl 5 40 HT_ HW_ hHeld ?_
  refine yp 6 41 HT_ ?_
  refine yp 7 42 HT_ ?_
  refine yl 8 43 HT_ HW_ hHeld ?_
  refine yw 1 36 HT_ (fun K hK => ?_)
  refine ygs Try.func48 #[.int .i64 a1] ?_
  with_reducible refine (band_Width.calls a1 al _ A15.out).mono ?_
  rintro e w22 ⟨rfl,hb⟩
  refine ⟨_,rfl, ?_⟩
  replace HB:=ybs hb
  (try clear hb)
  refine hK.out _ _ ⟨HST.out _ HB.out,((yhx HB hw166_0 :))⟩ (fun hHeld => ?_)
  clear hK K
  refine ym (some 36) ?_
  refine yw 9 44 HT_ (fun K hK => ?_)
  refine ygs Try.func122 #[.int .i64 al, .int .i64 (rd l2 a1)] ?_
  with_reducible refine (comb_Cost.calls kj4 al (rd l2 a1) aJ aK _ A18.out).mono ?_
  rintro e w23 ⟨rfl,hb⟩
  refine ⟨_,rfl, ?_⟩
  replace HB:=ybs hb
  (try clear hb)
  refine hK.out _ _ ⟨HST.out _ HB.out,((yhx HB hw166_0 :))⟩ (fun hHeld => ?_)
  clear hK K
  refine ym (some 44) ?_
  refine yp 10 34 HT_ ?_
  refine yp 11 45 HT_ ?_
  refine yp 12 46 HT_ ?_
  refine yp 13 6 HT_ ?_
  refine yp 14 7 HT_ ?_
  refine done_ (done_of HT_.out (by kernel_rfl)) ?_
  try go_wp2
  replace HB:=zm (zf HB.out)
  have aA : 0≤(a1 : Int):=yt
  have aC : a1 < (l2.length : Int):=yt
  obtain ⟨aE,aT,af⟩:=Kd.at_int HR2.out a1 aA aC
  have hw170_0:=af
  obtain rfl : ag=aE:=(by injection aT)
  replace af:=yhx HB af
  replace aA:=eq_true aA
  replace aC:=eq_true aC
  refine yst (fun w' => (w'.cell? ⟨B,0,none⟩=some (.slice A0 l0.length c0)∧w'.cell? ⟨B,1,none⟩=some (.slice (some ag) l2.length c2)∧w'.cell? ⟨B,2,none⟩=some (.int .i64 a3)∧w'.cell? ⟨B,3,none⟩=some (.func (.func 74) #[] #[]))∧(w'.cell? (ag.add (a1).toNat)=some (.int .i64 (rd l2 a1)))) [] 16 alloc_cost.tab4 alloc_cost.bits4 (fun hHeld HT_ HW_ => ?_) (hS:=⟨HST.out _ HB.out,((yhx HB hw170_0 :))⟩)
  generalize w23.drew=w24 at HB af hHeld ⊢
  refine yp 0 48 HT_ ?_
  refine yp 2 50 HT_ ?_
  refine yp 3 51 HT_ ?_
  refine yp 4 52 HT_ ?_
  refine yl 5 53 HT_ HW_ hHeld ?_
  refine yp 6 54 HT_ ?_
  refine yp 7 55 HT_ ?_
  refine yl 8 56 HT_ HW_ hHeld ?_
  refine yp 9 57 HT_ ?_
  refine yw 1 49 HT_ (fun K hK => ?_)
  refine ygs Try.func48 #[.int .i64 a1] ?_
  with_reducible refine (band_Width.calls a1 am _ A19.out).mono ?_
  rintro e w25 ⟨rfl,hb⟩
  refine ⟨_,rfl, ?_⟩
  replace HB:=ybs hb
  (try clear hb)
  refine hK.out _ _ ⟨HST.out _ HB.out,((yhx HB hw170_0 :))⟩ (fun hHeld => ?_)
  clear hK K
  refine ym (some 49) ?_
  refine yw 10 58 HT_ (fun K hK => ?_)
  refine ygs Try.func122 #[.int .i64 am, .int .i64 (wrap64 ((rd l2 a1)+1))] ?_
  with_reducible refine (comb_Cost.calls kj4 am (wrap64 ((rd l2 a1)+1)) aM aN _ A20.out).mono ?_
  rintro e w26 ⟨rfl,hb⟩
  refine ⟨_,rfl, ?_⟩
  replace HB:=ybs hb
  (try clear hb)
  refine hK.out _ _ ⟨HST.out _ HB.out,((yhx HB hw170_0 :))⟩ (fun hHeld => ?_)
  clear hK K
  refine ym (some 58) ?_
  refine yp 11 47 HT_ ?_
  refine yp 12 59 HT_ ?_
  refine yp 13 60 HT_ ?_
  refine yp 14 8 HT_ ?_
  refine yp 15 9 HT_ ?_
  refine done_ (done_of HT_.out (by kernel_rfl)) ?_
  try go_wp2
  replace HB:=zm (zf HB.out)
  refine yst (fun w' => (w'.cell? ⟨B,0,none⟩=some (.slice A0 l0.length c0)∧w'.cell? ⟨B,1,none⟩=some (.slice (some ag) l2.length c2)∧w'.cell? ⟨B,2,none⟩=some (.int .i64 a3)∧w'.cell? ⟨B,3,none⟩=some (.func (.func 74) #[] #[]))∧(True)) [] 13 alloc_cost.tab5 alloc_cost.bits5 (fun hHeld HT_ HW_ => ?_) (hS:=⟨HST.out _ HB.out,trivial⟩)
  generalize w26.drew=w27 at HB hHeld ⊢
  refine yp 0 61 HT_ ?_
  refine yp 1 62 HT_ ?_
  refine yp 2 63 HT_ ?_
  refine yp 3 64 HT_ ?_
  refine yp 4 65 HT_ ?_
  refine yp 5 66 HT_ ?_
  refine yp 6 67 HT_ ?_
  refine yp 7 68 HT_ ?_
  refine yp 8 69 HT_ ?_
  refine yl 9 70 HT_ HW_ hHeld ?_
  refine yp 10 71 HT_ ?_
  refine yp 11 4 HT_ ?_
  refine yp 12 5 HT_ ?_
  refine done_ (done_of HT_.out (by kernel_rfl)) ?_
  try go_wp2
  go_ret2
  exact ⟨ye,yhb⟩
def alloc_worth.f (l0 : List Int) (a1 : Int) (l2 : List Int) (a3 : Int) : Option (Int):=if 0≤a1 then (if a1 < (l0.length : Int) then (if a1 < (l2.length : Int) then ((band_Width.f a1).bind fun ae=>(if ae=0 then (none) else (some (wrap64 ((wrap64 (8 * (rd l0 a1))) - (wrap64 (Int.tdiv (wrap64 (16 * (rd l2 a1))) ae))))))) else (none)) else (none)) else (none)
def alloc_worth.T1 : Bool × List (List Nat × List Nat):=(true, [([], []),([0], [0]),([1], [1]),([2], [2]),([], []),([3,4], [3,4]),([5], [5]),([6], [6]),([], []),([8], [8]),([9], [9]),([10], [10]),([], []),([11,12], [11,12]),([13], [13]),([14], [14]),([], []),([16], [16]),([15,17], [15,17]),([7,18], [7,18]),([19,17,0,1,2,3,4,5,6,7,8,9,10,11,12,13,14,15,16,17,18,19], [19])])
def alloc_worth.B1 : List Nat := [0,1,3,7,0,31,63,127,0,256,768,1792,0,7936,16128,32512,0,65536,261888,524287,1048575]
theorem alloc_worth.tab1 : rtab .any (opsOf Try.f113 1)=alloc_worth.T1:=by kernel_rfl
theorem alloc_worth.bits1 : waitsOk alloc_worth.T1.2 alloc_worth.B1=true:=by kernel_rfl
set_option maxHeartbeats 8000000 in
set_option maxRecDepth 100000 in
theorem alloc_worth.calls (B : Nat) (A0 : Option Addr) (c0 : Nat) (l0 : List Int) (a1 : Int) (A2 : Option Addr) (c2 : Nat) (l2 : List Int) (a3 : Int) (r : Int) (w : World) (hr0 : Kd.C (Kd.int .i64) w A0 l0.length l0) (hc0 : l0.length≤c0) (hr2 : Kd.C (Kd.int .i64) w A2 l2.length l2) (hc2 : l2.length≤c2) (hs : w.heap[B]? = some (.cells #[.slice A0 l0.length c0, .slice A2 l2.length c2, .int .i64 a3, .func (.func 74) #[] #[]] 113 (0,0))) (h : alloc_worth.f l0 a1 l2 a3=some r) :
  Calls Try.prog 113 #[.pointer (some ⟨B,0,none⟩), .int .i64 a1] w fun e w' => e=.returned (.int .i64 r)∧Below w.heap.size w w' := by
 have HR0:=zm hr0;have HC0:=zm hc0;clear hr0 hc0;have HR2:=zm hr2;have HC2:=zm hc2;clear hr2 hc2
 have hSt : ∀ W,Below w.heap.size w W→(W.cell? ⟨B,0,none⟩=some (.slice A0 l0.length c0)∧W.cell? ⟨B,1,none⟩=some (.slice A2 l2.length c2)∧W.cell? ⟨B,2,none⟩=some (.int .i64 a3)∧W.cell? ⟨B,3,none⟩=some (.func (.func 74) #[] #[])):=fun W hb=>by
  have h9:=zF hs hb
  exact ⟨(zs h9 0).trans rfl,(zs h9 1).trans rfl,(zs h9 2).trans rfl,(zs h9 3).trans rfl⟩
 have HST:=zm hSt;clear hSt hs;have HB:=zm (Below.refl w.heap.size w);have H:=h
 unfold alloc_worth.f at H
 clear h
 replace H:=yif H;obtain ⟨c5,H⟩:=H
 have ao : decide (0≤a1)=true:=decide_eq_true c5
 clear c5
 replace H:=yif H;obtain ⟨c6,H⟩:=H
 have ap : decide (a1 < (l0.length : Int))=true:=decide_eq_true c6
 clear c6
 replace H:=yif H;obtain ⟨c7,H⟩:=H
 have aq : decide (a1 < (l2.length : Int))=true:=decide_eq_true c7
 clear c7
 replace H:=ybi H;obtain ⟨ae,A8,H⟩:=H
 replace H:=yie H;obtain ⟨c9,H⟩:=H
 obtain ⟨au,av⟩:=yF c9
 obtain rfl:=Option.some.inj H
 go_enter Try.func113,Try.ntmps113
 try go_wp2
 replace HB:=zm (zf HB.out)
 have ah : 0≤(a1 : Int):=yt
 have ai : a1 < (l0.length : Int):=yt
 obtain ⟨af,al,aa⟩:=Kd.at_int HR0.out a1 ah ai
 have hw173_0:=aa
 cases al
 replace aa:=yhx HB aa
 replace ah:=eq_true ah
 replace ai:=eq_true ai
 have aj : 0≤(a1 : Int):=yt
 have ak : a1 < (l2.length : Int):=yt
 obtain ⟨ag,am,ac⟩:=Kd.at_int HR2.out a1 aj ak
 have hw174_0:=ac
 cases am
 replace ac:=yhx HB ac
 replace aj:=eq_true aj
 replace ak:=eq_true ak
 refine yst (fun w' => (w'.cell? ⟨B,0,none⟩=some (.slice (some af) l0.length c0)∧w'.cell? ⟨B,1,none⟩=some (.slice (some ag) l2.length c2)∧w'.cell? ⟨B,2,none⟩=some (.int .i64 a3)∧w'.cell? ⟨B,3,none⟩=some (.func (.func 74) #[] #[]))∧(w'.cell? (af.add (a1).toNat)=some (.int .i64 (rd l0 a1))∧w'.cell? (ag.add (a1).toNat)=some (.int .i64 (rd l2 a1)))) [] 21 alloc_worth.tab1 alloc_worth.bits1 (fun hHeld HT_ HW_ => ?_) (hS:=⟨HST.out _ HB.out,⟨(yhx HB hw173_0 :),(yhx HB hw174_0 :)⟩⟩)
 generalize w.drew=w10 at HB aa ac hHeld ⊢
 refine yp 0 5 HT_ ?_
 refine yp 1 6 HT_ ?_
 refine yp 2 7 HT_ ?_
 refine yl 3 8 HT_ HW_ hHeld ?_
 refine yp 4 9 HT_ ?_
 refine yp 5 10 HT_ ?_
 refine yp 8 13 HT_ ?_
 refine yp 9 14 HT_ ?_
 refine yp 10 15 HT_ ?_
 refine yl 11 16 HT_ HW_ hHeld ?_
 refine yp 12 17 HT_ ?_
 refine yp 13 18 HT_ ?_
 refine yp 16 21 HT_ ?_
 refine yl 6 11 HT_ HW_ hHeld ?_
 refine yp 7 12 HT_ ?_
 refine yl 14 19 HT_ HW_ hHeld ?_
 refine yp 15 20 HT_ ?_
 refine yw 17 22 HT_ (fun K hK => ?_)
 refine ygs Try.func48 #[.int .i64 a1] ?_
 with_reducible refine (band_Width.calls a1 ae _ A8.out).mono ?_
 rintro e w11 ⟨rfl,hb⟩
 refine ⟨_,rfl, ?_⟩
 replace HB:=ybs hb
 (try clear hb)
 refine hK.out _ _ ⟨HST.out _ HB.out,⟨(yhx HB hw173_0 :),(yhx HB hw174_0 :)⟩⟩ (fun hHeld => ?_)
 clear hK K
 refine ym (some 22) ?_
 refine yp 18 23 HT_ ?_
 refine yp 19 24 HT_ ?_
 refine yp 20 4 HT_ ?_
 refine done_ (done_of HT_.out (by kernel_rfl)) ?_
 try go_wp2
 go_ret
 exact ⟨ye,yhb⟩
def alloc_give.l0 : Nat→List Int→List Int→Int→Int→Int→Option (Int × Bool × List Int)
 | 0,_,_,_,_,_=>none
 | k+1,x0,x1,x2,x3,x9=>if x9 < 5 then ((alloc_cost.f k x0 x9 x1 x2).bind fun aG=>(if aG.2=true then (if x3 < 0 then (alloc_give.l0 k x0 x1 x2 x9 (wrap64 (x9+1))) else ((alloc_worth.f x0 x9 x1 x2).bind fun am=>((alloc_worth.f x0 x3 x1 x2).bind fun ao=>(if am > ao then (alloc_give.l0 k x0 x1 x2 x9 (wrap64 (x9+1))) else (alloc_give.l0 k x0 x1 x2 x3 (wrap64 (x9+1))))))) else (alloc_give.l0 k x0 x1 x2 x3 (wrap64 (x9+1))))) else (if x3 < 0 then (some (x2,false,x1)) else ((alloc_cost.f k x0 x3 x1 x2).bind fun aH=>(if 0≤x3 then (if x3 < (x1.length : Int) then (some (wrap64 (x2 - aH.1),true,(x1.set (x3 : Int).toNat (wrap64 ((rd x1 x3)+1))))) else (none)) else (none))))
def alloc_give.f (k : Nat) (l0 : List Int) (l1 : List Int) (a2 : Int) : Option (Int × Bool × List Int):=alloc_give.l0 k l0 l1 a2 (-1) 0
theorem alloc_give.mono_l : ∀ k,(∀ y0 y1 y2 y3 y4,LeO (alloc_give.l0 k y0 y1 y2 y3 y4) (alloc_give.l0 (k+1) y0 y1 y2 y3 y4))
 | 0=>fun _ _ _ _ _ r h=>by simp [alloc_give.l0] at h
 | k+1=>by
  have ih0:=alloc_give.mono_l k
  ·
   intro y0 y1 y2 y3 y4
   unfold alloc_give.l0
   repeat' with_reducible first|apply ih0|apply alloc_cost.mono|apply yLr|apply yLn|apply yLi|apply yLb|intro _
theorem alloc_give.mono : ∀ a0 a1 a2 k,LeO (alloc_give.f k a0 a1 a2) (alloc_give.f (k+1) a0 a1 a2):=by
 intro a0 a1 a2 k
 have ih0:=alloc_give.mono_l k
 unfold alloc_give.f
 repeat' with_reducible first|apply ih0|apply alloc_cost.mono|apply yLr|apply yLn|apply yLi|apply yLb|intro _
set_option maxHeartbeats 8000000 in
set_option maxRecDepth 100000 in
theorem alloc_give.calls (k : Nat) (B : Nat) (A0 : Option Addr) (c0 : Nat) (l0 : List Int) (P1_ : Nat→Prop) (aj : Value) (l1 : List Int) (a2 : Int) (r1 : Int) (r2 : Bool) (r3 : List Int) (w0 w : World) (hB : Below w0.heap.size w0 w) (hr0 : ∀ W_,Kept w W_ (fun k_=>P1_ k_)→Kd.C (Kd.int .i64) W_ A0 l0.length l0) (hc0 : l0.length≤c0) (ho1 : Kd.R (Kd.int .i64) 3 w w0.heap.size P1_ aj l1) (hPB : ¬ P1_ B) (hB0 : w0.heap.size≤B) (hs : w.heap[B]? = some (.cells #[.slice A0 l0.length c0,aj, .int .i64 a2, .func (.func 74) #[] #[]] 113 (0,0))) (h : alloc_give.f k l0 l1 a2=some (r1,r2,r3)) :
  Calls Try.prog 75 #[.pointer (some ⟨B,0,none⟩)] w fun e w' => e=.returned (.bool r2)∧Kd.R (Kd.int .i64) 3 w' w0.heap.size (fun k_=>(P1_ k_∨w.heap.size≤k_)) aj r3∧Below w0.heap.size w0 w'∧Kept w w' (fun k_=>P1_ k_∨k_=B)∧w'.heap[B]? = some (.cells #[.slice A0 l0.length c0,aj, .int .i64 r1, .func (.func 74) #[] #[]] 113 (0,0)):=by
 have HR0:=zm hr0;have HC0:=zm hc0;have HPB:=zm hPB;have HB0:=zm hB0;have HBL:=zm (zD hs);have HS:=zm hs
 have HNE : Aside0 (∀ k_,(P1_ k_∨w.heap.size≤k_)→k_≠B):=⟨fun k_ hk e_=>by
  subst e_
  exact hk.elim hPB (fun h_=>Nat.lt_irrefl _ (zl (zD hs) h_))⟩
 clear hr0 hc0 hPB hB0 hs
 have HO1:=zm (show Kd.R (Kd.int .i64) 3 w w0.heap.size (fun k_=>(P1_ k_∨w.heap.size≤k_)) aj l1 from zG ho1 (fun k_ hk=>(.inl hk)))
 have HK:=zm (Kept.refl w (fun k_=>P1_ k_))
 have HW0:=zm hB.size;have HB:=zm hB;clear hB;have H:=h
 unfold alloc_give.f at H
 clear h
 have H' := zm H
 clear H
 go_enter Try.func75,Try.ntmps75
 go_wp2
 go_loopg [3,9] k (fun kq v3 v9 w' => ∃ (ac : Int) (ai : Int),v3=.int .i64 ac∧v9=.int .i64 ai∧Aside0 (alloc_give.l0 kq l0 l1 a2 ac ai=some (r1,r2,r3))∧Aside0 (kq≤k)∧Aside0 (Kd.R (Kd.int .i64) 3 w' w0.heap.size (fun k_=>(P1_ k_∨w.heap.size≤k_)) aj l1)∧Aside0 (Kept w w' (fun k_=>P1_ k_))∧Aside0 (Below w0.heap.size w0 w')∧Aside0 (w'.heap[B]? = some (.cells #[.slice A0 l0.length c0,aj, .int .i64 a2, .func (.func 74) #[] #[]] 113 (0,0))))
 case atStart=>exact ⟨((-1)),(0),yq,yq,H',⟨Nat.le_refl _⟩,⟨yr HO1⟩,⟨by repeat (first|(with_reducible first|exact HK.out|apply Kept.alloc|apply Kept.drewN|apply Kept.drew)|exact HK.out)⟩,⟨yhb⟩,⟨(yk HS)⟩⟩
 case round =>
  clear H'
  obtain ⟨ac,ai,rfl,rfl,HA,HK1,aa,HK,HB,HS⟩:=hrel
  obtain ⟨k1,rfl⟩:=ysu gk (fun h=>by subst h;exact absurd HA.out (by simp [alloc_give.l0]))
  have H:=HA.out;clear HA
  simp only [alloc_give.l0] at H
  by_cases c4 : ai < 5
  ·
   rw [if_pos c4] at H
   have aU:=yD c4
   clear c4
   replace H:=ybi H;obtain ⟨⟨au,aV⟩,A5,H⟩:=H
   try dsimp only at H
   by_cases c6 : aV=true
   ·
    subst c6
    rw [if_pos rfl] at H
    by_cases c7 : ac < 0
    ·
     rw [if_pos c7] at H
     have aW:=yD c7
     clear c7
     have H' := zm H
     clear H
     obtain ⟨Ao8,co8,eo8⟩:=Kd.R_slice aa.out
     subst eo8
     go_wp2_with (first|((with_reducible refine gate_callee (f:=112) rfl ?_);refine ygl 15 Try.func112 #[.pointer (some ⟨B,0,none⟩), .int .i64 ai] ?_;(with_reducible refine (alloc_cost.calls k1 B A0 c0 l0 ai Ao8 co8 l1 a2 au true _ ?ae HC0.out ?af ?ag ?ah A5.out).mono ?_);(case ae=>exact Kd.C_kept_now HR0.out (by repeat (first|(with_reducible first|exact HK.out|apply Kept.alloc|apply Kept.drewN|apply Kept.drew)|exact HK.out)));(case af=>exact yce (Kd.R_reads' aa.out).2.2);(case ag=>exact (Kd.R_reads' aa.out).2.1);(case ah=>exact (yk HS));rintro e w9 ⟨rfl,hb⟩;refine ⟨_,rfl, ?_⟩;have n9_:=ybb HS hb;have n0_:=yRb aa hb;have n1_:=zm (Kept.below (S:=(fun k_=>P1_ k_)) (by repeat (first|(with_reducible first|exact HK.out|apply Kept.alloc|apply Kept.drewN|apply Kept.drew)|exact HK.out)) hb);have n2_:=ybs hb;clear aa;clear HK;clear HB;clear HS;have HS:=n9_;have aa:=n0_;have HK:=n1_;have HB:=n2_;clear n0_ n1_ n2_ n9_;(try clear hb)))
     go_roundg k1
     case measure=>exact yom1 HK1
     case rel=>exact ⟨(ai),(wrap64 (ai+1)),yq,yq,H',⟨yom1 HK1⟩,⟨yr aa⟩,⟨by repeat (first|(with_reducible first|exact HK.out|apply Kept.alloc|apply Kept.drewN|apply Kept.drew)|exact HK.out)⟩,⟨yhb⟩,⟨(yk HS)⟩⟩
    rw [if_neg c7] at H
    have aW:=yG c7
    clear c7
    replace H:=ybi H;obtain ⟨am,A10,H⟩:=H
    replace H:=ybi H;obtain ⟨ao,A11,H⟩:=H
    by_cases c12 : am > ao
    ·
     rw [if_pos c12] at H
     have aI:=yDs c12
     clear c12
     have H' := zm H
     clear H
     obtain ⟨ax,ay,aX⟩:=Kd.R_slice aa.out
     subst aX
     go_wp2_with (first|((with_reducible refine gate_callee (f:=112) rfl ?_);refine ygl 15 Try.func112 #[.pointer (some ⟨B,0,none⟩), .int .i64 ai] ?_;(with_reducible refine (alloc_cost.calls k1 B A0 c0 l0 ai ax ay l1 a2 au true _ ?ae HC0.out ?af ?ag ?ah A5.out).mono ?_);(case ae=>exact Kd.C_kept_now HR0.out (by repeat (first|(with_reducible first|exact HK.out|apply Kept.alloc|apply Kept.drewN|apply Kept.drew)|exact HK.out)));(case af=>exact yce (Kd.R_reads' aa.out).2.2);(case ag=>exact (Kd.R_reads' aa.out).2.1);(case ah=>exact (yk HS));rintro e w14 ⟨rfl,hb⟩;refine ⟨_,rfl, ?_⟩;have n9_:=ybb HS hb;have n0_:=yRb aa hb;have n1_:=zm (Kept.below (S:=(fun k_=>P1_ k_)) (by repeat (first|(with_reducible first|exact HK.out|apply Kept.alloc|apply Kept.drewN|apply Kept.drew)|exact HK.out)) hb);have n2_:=ybs hb;clear aa;clear HK;clear HB;clear HS;have HS:=n9_;have aa:=n0_;have HK:=n1_;have HB:=n2_;clear n0_ n1_ n2_ n9_;(try clear hb))|(go_at_call 113;(with_reducible refine (alloc_worth.calls B A0 c0 l0 ai ax ay l1 a2 am _ ?ae HC0.out ?af ?ag ?ah A10.out).mono ?_);(case ae=>exact Kd.C_kept_now HR0.out (by repeat (first|(with_reducible first|exact HK.out|apply Kept.alloc|apply Kept.drewN|apply Kept.drew)|exact HK.out)));(case af=>exact yce (Kd.R_reads' aa.out).2.2);(case ag=>exact (Kd.R_reads' aa.out).2.1);(case ah=>exact (yk HS));rintro e w15 ⟨rfl,hb⟩;have n9_:=ybb HS hb;have n0_:=yRb aa hb;have n1_:=zm (Kept.below (S:=(fun k_=>P1_ k_)) (by repeat (first|(with_reducible first|exact HK.out|apply Kept.alloc|apply Kept.drewN|apply Kept.drew)|exact HK.out)) hb);have n2_:=ybs hb;clear aa;clear HK;clear HB;clear HS;have HS:=n9_;have aa:=n0_;have HK:=n1_;have HB:=n2_;clear n0_ n1_ n2_ n9_;(try clear hb))|(go_at_call 113;(with_reducible refine (alloc_worth.calls B A0 c0 l0 ac ax ay l1 a2 ao _ ?ae HC0.out ?af ?ag ?ah A11.out).mono ?_);(case ae=>exact Kd.C_kept_now HR0.out (by repeat (first|(with_reducible first|exact HK.out|apply Kept.alloc|apply Kept.drewN|apply Kept.drew)|exact HK.out)));(case af=>exact yce (Kd.R_reads' aa.out).2.2);(case ag=>exact (Kd.R_reads' aa.out).2.1);(case ah=>exact (yk HS));rintro e w16 ⟨rfl,hb⟩;have n9_:=ybb HS hb;have n0_:=yRb aa hb;have n1_:=zm (Kept.below (S:=(fun k_=>P1_ k_)) (by repeat (first|(with_reducible first|exact HK.out|apply Kept.alloc|apply Kept.drewN|apply Kept.drew)|exact HK.out)) hb);have n2_:=ybs hb;clear aa;clear HK;clear HB;clear HS;have HS:=n9_;have aa:=n0_;have HK:=n1_;have HB:=n2_;clear n0_ n1_ n2_ n9_;(try clear hb)))
     go_roundg k1
     case measure=>exact yom1 HK1
     case rel=>exact ⟨(ai),(wrap64 (ai+1)),yq,yq,H',⟨yom1 HK1⟩,⟨yr aa⟩,⟨by repeat (first|(with_reducible first|exact HK.out|apply Kept.alloc|apply Kept.drewN|apply Kept.drew)|exact HK.out)⟩,⟨yhb⟩,⟨(yk HS)⟩⟩
    rw [if_neg c12] at H
    have aI:=yGs c12
    clear c12
    have H' := zm H
    clear H
    obtain ⟨az,aA,aY⟩:=Kd.R_slice aa.out
    subst aY
    go_wp2_with (first|((with_reducible refine gate_callee (f:=112) rfl ?_);refine ygl 15 Try.func112 #[.pointer (some ⟨B,0,none⟩), .int .i64 ai] ?_;(with_reducible refine (alloc_cost.calls k1 B A0 c0 l0 ai az aA l1 a2 au true _ ?ae HC0.out ?af ?ag ?ah A5.out).mono ?_);(case ae=>exact Kd.C_kept_now HR0.out (by repeat (first|(with_reducible first|exact HK.out|apply Kept.alloc|apply Kept.drewN|apply Kept.drew)|exact HK.out)));(case af=>exact yce (Kd.R_reads' aa.out).2.2);(case ag=>exact (Kd.R_reads' aa.out).2.1);(case ah=>exact (yk HS));rintro e w18 ⟨rfl,hb⟩;refine ⟨_,rfl, ?_⟩;have n9_:=ybb HS hb;have n0_:=yRb aa hb;have n1_:=zm (Kept.below (S:=(fun k_=>P1_ k_)) (by repeat (first|(with_reducible first|exact HK.out|apply Kept.alloc|apply Kept.drewN|apply Kept.drew)|exact HK.out)) hb);have n2_:=ybs hb;clear aa;clear HK;clear HB;clear HS;have HS:=n9_;have aa:=n0_;have HK:=n1_;have HB:=n2_;clear n0_ n1_ n2_ n9_;(try clear hb))|(go_at_call 113;(with_reducible refine (alloc_worth.calls B A0 c0 l0 ai az aA l1 a2 am _ ?ae HC0.out ?af ?ag ?ah A10.out).mono ?_);(case ae=>exact Kd.C_kept_now HR0.out (by repeat (first|(with_reducible first|exact HK.out|apply Kept.alloc|apply Kept.drewN|apply Kept.drew)|exact HK.out)));(case af=>exact yce (Kd.R_reads' aa.out).2.2);(case ag=>exact (Kd.R_reads' aa.out).2.1);(case ah=>exact (yk HS));rintro e w19 ⟨rfl,hb⟩;have n9_:=ybb HS hb;have n0_:=yRb aa hb;have n1_:=zm (Kept.below (S:=(fun k_=>P1_ k_)) (by repeat (first|(with_reducible first|exact HK.out|apply Kept.alloc|apply Kept.drewN|apply Kept.drew)|exact HK.out)) hb);have n2_:=ybs hb;clear aa;clear HK;clear HB;clear HS;have HS:=n9_;have aa:=n0_;have HK:=n1_;have HB:=n2_;clear n0_ n1_ n2_ n9_;(try clear hb))|(go_at_call 113;(with_reducible refine (alloc_worth.calls B A0 c0 l0 ac az aA l1 a2 ao _ ?ae HC0.out ?af ?ag ?ah A11.out).mono ?_);(case ae=>exact Kd.C_kept_now HR0.out (by repeat (first|(with_reducible first|exact HK.out|apply Kept.alloc|apply Kept.drewN|apply Kept.drew)|exact HK.out)));(case af=>exact yce (Kd.R_reads' aa.out).2.2);(case ag=>exact (Kd.R_reads' aa.out).2.1);(case ah=>exact (yk HS));rintro e w20 ⟨rfl,hb⟩;have n9_:=ybb HS hb;have n0_:=yRb aa hb;have n1_:=zm (Kept.below (S:=(fun k_=>P1_ k_)) (by repeat (first|(with_reducible first|exact HK.out|apply Kept.alloc|apply Kept.drewN|apply Kept.drew)|exact HK.out)) hb);have n2_:=ybs hb;clear aa;clear HK;clear HB;clear HS;have HS:=n9_;have aa:=n0_;have HK:=n1_;have HB:=n2_;clear n0_ n1_ n2_ n9_;(try clear hb)))
    go_roundg k1
    case measure=>exact yom1 HK1
    case rel=>exact ⟨(ac),(wrap64 (ai+1)),yq,yq,H',⟨yom1 HK1⟩,⟨yr aa⟩,⟨by repeat (first|(with_reducible first|exact HK.out|apply Kept.alloc|apply Kept.drewN|apply Kept.drew)|exact HK.out)⟩,⟨yhb⟩,⟨(yk HS)⟩⟩
   replace c6:=Bool.eq_false_iff.mpr c6
   subst c6
   rw [ynf] at H
   have H' := zm H
   clear H
   obtain ⟨aZ,a7,a8⟩:=Kd.R_slice aa.out
   subst a8
   go_wp2_with (first|((with_reducible refine gate_callee (f:=112) rfl ?_);refine ygl 15 Try.func112 #[.pointer (some ⟨B,0,none⟩), .int .i64 ai] ?_;(with_reducible refine (alloc_cost.calls k1 B A0 c0 l0 ai aZ a7 l1 a2 au false _ ?ae HC0.out ?af ?ag ?ah A5.out).mono ?_);(case ae=>exact Kd.C_kept_now HR0.out (by repeat (first|(with_reducible first|exact HK.out|apply Kept.alloc|apply Kept.drewN|apply Kept.drew)|exact HK.out)));(case af=>exact yce (Kd.R_reads' aa.out).2.2);(case ag=>exact (Kd.R_reads' aa.out).2.1);(case ah=>exact (yk HS));rintro e w22 ⟨rfl,hb⟩;refine ⟨_,rfl, ?_⟩;have n9_:=ybb HS hb;have n0_:=yRb aa hb;have n1_:=zm (Kept.below (S:=(fun k_=>P1_ k_)) (by repeat (first|(with_reducible first|exact HK.out|apply Kept.alloc|apply Kept.drewN|apply Kept.drew)|exact HK.out)) hb);have n2_:=ybs hb;clear aa;clear HK;clear HB;clear HS;have HS:=n9_;have aa:=n0_;have HK:=n1_;have HB:=n2_;clear n0_ n1_ n2_ n9_;(try clear hb)))
   go_roundg k1
   case measure=>exact yom1 HK1
   case rel=>exact ⟨(ac),(wrap64 (ai+1)),yq,yq,H',⟨yom1 HK1⟩,⟨yr aa⟩,⟨by repeat (first|(with_reducible first|exact HK.out|apply Kept.alloc|apply Kept.drewN|apply Kept.drew)|exact HK.out)⟩,⟨yhb⟩,⟨(yk HS)⟩⟩
  rw [if_neg c4] at H
  have aU:=yG c4
  clear c4
  by_cases c23 : ac < 0
  ·
   rw [if_pos c23] at H
   have aJ:=yD c23
   clear c23
   simp only [Option.some.injEq,Prod.mk.injEq] at H
   obtain ⟨rfl,rfl,rfl⟩:=H
   go_wp2
   go_ret
   exact ⟨ye,yr aa,yhb,Kept.mono (S:=(fun k_=>P1_ k_)) (by repeat (first|(with_reducible first|exact HK.out|apply Kept.alloc|apply Kept.drewN|apply Kept.drew)|exact HK.out)) (fun _ h_ => .inl h_),(yk HS)⟩
  rw [if_neg c23] at H
  have aJ:=yG c23
  clear c23
  replace H:=ybi H;obtain ⟨⟨ap,a9⟩,A24,H⟩:=H
  try dsimp only at H
  replace H:=yif H;obtain ⟨c25,H⟩:=H
  have bh : decide (0≤ac)=true:=decide_eq_true c25
  clear c25
  replace H:=yif H;obtain ⟨c26,H⟩:=H
  have bi : decide (ac < (l1.length : Int))=true:=decide_eq_true c26
  clear c26
  obtain ⟨aK,aq⟩ : ∃ y_ : List Int,y_=(l1.set (ac : Int).toNat (wrap64 ((rd l1 ac)+1))):=⟨_,rfl⟩
  replace H : (some (wrap64 (a2 - ap),true,aK))=some (r1,r2,r3):=yrw aq H
  have aM:=zm aq;clear aq
  simp only [Option.some.injEq,Prod.mk.injEq] at H
  obtain ⟨rfl,rfl,rfl⟩:=H
  obtain ⟨av,al,ba⟩:=Kd.R_slice aa.out
  subst ba
  go_wp2_with (first|((with_reducible refine gate_callee (f:=112) rfl ?_);refine ygl 39 Try.func112 #[.pointer (some ⟨B,0,none⟩), .int .i64 ac] ?_;(with_reducible refine (alloc_cost.calls k1 B A0 c0 l0 ac av al l1 a2 ap a9 _ ?ae HC0.out ?af ?ag ?ah A24.out).mono ?_);(case ae=>exact Kd.C_kept_now HR0.out (by repeat (first|(with_reducible first|exact HK.out|apply Kept.alloc|apply Kept.drewN|apply Kept.drew)|exact HK.out)));(case af=>exact yce (Kd.R_reads' aa.out).2.2);(case ag=>exact (Kd.R_reads' aa.out).2.1);(case ah=>exact (yk HS));rintro e w29 ⟨rfl,hb⟩;refine ⟨_,rfl, ?_⟩;have n9_:=ybb HS hb;have n0_:=yRb aa hb;have n1_:=zm (Kept.below (S:=(fun k_=>P1_ k_)) (by repeat (first|(with_reducible first|exact HK.out|apply Kept.alloc|apply Kept.drewN|apply Kept.drew)|exact HK.out)) hb);have n2_:=ybs hb;clear aa;clear HK;clear HB;clear HS;have HS:=n9_;have aa:=n0_;have HK:=n1_;have HB:=n2_;clear n0_ n1_ n2_ n9_;(try clear hb);have hs2 : w29.cell? ⟨B,2,none⟩=some (.int .i64 a2):=(zs HS.out 2).trans rfl;have hsf : w29.frozen? ⟨B,2,none⟩=false:=zx HS.out 2)|((with_reducible refine gate_store (t:=3) (p:=49) rfl ?_);refine store_event (t:=3) (p:=49) (v := ?vo_w12) (w1:=(w29.setCell ⟨B,2,none⟩ (.int .i64 (wrap64 (a2 - ap))))) ?hg ?ho ?hn ?hr ?_;(case ho=>rfl);(case hg=>rfl);(case hn=>rfl);(case hr=>first|(go_simp;done)|(go_simp;rfl));intro w12 hw;have hS12 : w12.heap[B]? = some (.cells #[.slice A0 l0.length c0, .slice av l1.length al, .int .i64 (wrap64 (a2 - ap)), .func (.func 74) #[] #[]] 113 (0,0)):=(by rw [hw];exact blk_set HS.out 2 _);have n0_ : Aside0 (Kd.R (Kd.int .i64) 3 w12 w0.heap.size (fun k_=>(P1_ k_∨w.heap.size≤k_)) (.slice av l1.length al) l1):=⟨by rw [hw];exact zH aa.out HNE.out _⟩;have n1_ : Aside0 (Below w0.heap.size w0 w12):=⟨by rw [hw];exact Below.setCell HB.out HB0.out _⟩;have n2_ : Aside0 (Kept w w12 (fun k_=>P1_ k_∨k_=B)):=⟨by rw [hw];exact Kept.setCell (Kept.mono HK.out (fun _ h_ => .inl h_)) (.inl (.inr rfl)) _⟩;clear aa;clear HK;clear HB;clear HS;clear hs2;clear hsf;have aa:=n0_;have HB:=n1_;have HK:=n2_;have HS:=zm hS12;have hs1 : w12.cell? ⟨B,1,none⟩=some (.slice av l1.length al):=(zs hS12 1).trans rfl;clear hS12 hw n0_ n1_ n2_;have aC : 0≤(ac : Int):=yt;have aD : ac < (l1.length : Int):=yt;obtain ⟨bj,bb,aw⟩:=Kd.at_int (Kd.R_reads' aa.out).2.2 ac aC aD;cases bb;replace aC:=eq_true aC;replace aD:=eq_true aD;have p27 : 0≤(ac : Int):=yt;have q27 : (ac : Int) < ((l1.length : Int) : Int):=yt;obtain ⟨ak,bl,aN,aQ,bc,bm,aT⟩:=Kd.R_form aa.out (by omega);(first|cases aN|(injection aN with ea_ en_ ec_;(first|subst ea_|(injection ea_ with ea_;subst ea_));subst ec_;clear en_));have bd:=zm aQ;have bn:=zm aT;clear aQ bc aT;have HMgo27:=zm (show (P1_ ak∨w.heap.size≤ak) from (aa.out.1 _ rfl));(first|simp only [add_plain] at aw|skip);obtain ⟨bf,bg⟩:=Kd.R_celln 0 aa.out (ac : Int) p27 q27;replace p27:=eq_true p27;replace q27:=eq_true q27;obtain ⟨bk,hz30_⟩:=Kd.R_celln 0 aa.out (ac : Int) (yt) (yt);have aE:=Kd.R_putg aa.out (ac : Int) (wrap64 ((rd l1 ac)+1)))|((with_reducible refine gate_store (t:=3) (p:=58) rfl ?_);refine store_event (t:=3) (p:=58) (v := ?vo_w31) (w1:=(w12.setCell ⟨ak,(ac : Int).toNat,none⟩ (.int .i64 (wrap64 ((rd l1 ac)+1))))) ?hg ?ho ?hn ?hr ?_;(case ho=>rfl);(case hg=>rfl);(case hn=>rfl);(case hr=>first|(go_simp;done)|(go_simp;rfl));intro w31 hw;have hg : w12.grownBy w31 (some ak):=(by rw [hw];exact aE.2);have hp_ : Kd.R (Kd.int .i64) 3 w31 w0.heap.size (fun k_=>(P1_ k_∨w.heap.size≤k_)) (.slice (some ⟨ak,0,none⟩) l1.length al) aK:=(by rw [hw,aM.out];exact aE.1);clear aE;have n0_:=zm (hp_);have n1_:=zm ((by rw [hw];exact zk (HB.out) bd.out : Below w0.heap.size w0 w31));have n2_:=zm (Kept.of_grown (S:=(fun k_=>P1_ k_∨k_=B)) hg (by repeat (first|(with_reducible first|exact HK.out|apply Kept.alloc|apply Kept.drewN|apply Kept.drew)|exact HK.out)) (fun k_ e_=>(aa.out.1 k_ e_).imp .inl id));have n8_ : Aside0 (w31.heap[B]? = some (.cells #[.slice A0 l0.length c0, .slice (some ⟨ak,0,none⟩) l1.length al, .int .i64 (wrap64 (a2 - ap)), .func (.func 74) #[] #[]] 113 (0,0))):=⟨by rw [hw];exact zv HS.out (fun e_=>HNE.out _ (aa.out.1 ak rfl) e_.symm) _⟩;clear HS;have HS:=n8_;clear n8_;clear aa;clear HB;clear HK;have aa:=n0_;have HB:=n1_;have HK:=n2_;clear n0_ n1_ n2_;clear hg hw hp_))
  go_ret
  exact ⟨ye,yr aa,yhb,by repeat (first|(with_reducible first|exact HK.out|apply Kept.alloc|apply Kept.drewN|apply Kept.drew)|exact HK.out),(yk HS)⟩
def gain_Right.l0 : Nat→List Int→List Int→Int→Int→Option (Bool)
 | 0,_,_,_,_=>none
 | k+1,x0,x5,x6,x7=>if x7 < x6 then (if 0≤x7 then (if x7 < (x5.length : Int) then (if (rd x5 x7) < 0 then (some false) else (if (rd x5 x7) > 44 then (some false) else (gain_Right.l0 k x0 x5 x6 (wrap64 (x7+1))))) else (none)) else (none)) else (some ((x0.length : Int) == 5))
def gain_Right.f (k : Nat) (l0 : List Int) : Option (Bool):=gain_Right.l0 k l0 l0 (l0.length : Int) 0
theorem gain_Right.mono_l : ∀ k,(∀ y0 y1 y2 y3,LeO (gain_Right.l0 k y0 y1 y2 y3) (gain_Right.l0 (k+1) y0 y1 y2 y3))
 | 0=>fun _ _ _ _ r h=>by simp [gain_Right.l0] at h
 | k+1=>by
  have ih0:=gain_Right.mono_l k
  ·
   intro y0 y1 y2 y3
   unfold gain_Right.l0
   repeat' with_reducible first|apply ih0|apply yLr|apply yLn|apply yLi|apply yLb|intro _
theorem gain_Right.mono : ∀ a0 k,LeO (gain_Right.f k a0) (gain_Right.f (k+1) a0):=by
 intro a0 k
 have ih0:=gain_Right.mono_l k
 unfold gain_Right.f
 repeat' with_reducible first|apply ih0|apply yLr|apply yLn|apply yLi|apply yLb|intro _
set_option maxHeartbeats 8000000 in
set_option maxRecDepth 100000 in
theorem gain_Right.calls (k : Nat) (A0 : Option Addr) (c0 : Nat) (l0 : List Int) (r : Bool) (w : World) (hr0 : Kd.C (Kd.int .i64) w A0 l0.length l0) (hc0 : l0.length≤c0) (h : gain_Right.f k l0=some r) :
  Calls Try.prog 72 #[.slice A0 l0.length c0] w fun e w' => e=.returned (.bool r)∧Drawn0 w w' := by
 have HR0:=zm hr0;have HC0:=zm hc0;clear hr0 hc0;have H:=h
 unfold gain_Right.f at H
 clear h
 have H' := zm H
 clear H
 go_enter Try.func72,Try.ntmps72
 go_wp2
 go_loopg [7] k (fun kq v7 w' => ∃ (aa : Int),v7=.int .i64 aa∧Aside0 (gain_Right.l0 kq l0 l0 (l0.length : Int) aa=some r)∧Aside0 (kq≤k)∧Drawn0 w w')
 case atStart=>exact ⟨(0),yq,H',⟨Nat.le_refl _⟩,yd⟩
 case round =>
  clear H'
  obtain ⟨aa,rfl,HA,HK1,⟨m1,rfl⟩⟩:=hrel
  obtain ⟨k1,rfl⟩:=ysu gk (fun h=>by subst h;exact absurd HA.out (by simp [gain_Right.l0]))
  have H:=HA.out;clear HA
  simp only [gain_Right.l0] at H
  by_cases c2 : aa < (l0.length : Int)
  ·
   rw [if_pos c2] at H
   have ai:=yD c2
   clear c2
   replace H:=yif H;obtain ⟨c3,H⟩:=H
   have al : decide (0≤aa)=true:=decide_eq_true c3
   clear c3
   replace H:=yif H;obtain ⟨c4,H⟩:=H
   have am : decide (aa < (l0.length : Int))=true:=decide_eq_true c4
   clear c4
   by_cases c5 : (rd l0 aa) < 0
   ·
    rw [if_pos c5] at H
    have aj:=yD c5
    clear c5
    obtain rfl:=Option.some.inj H
    obtain ⟨af,ae,ac,ag,ah⟩:=yai HR0 aa
    cases ae
    go_wp2
    go_ret
    exact ⟨yq,yd⟩
   rw [if_neg c5] at H
   have aj:=yG c5
   clear c5
   by_cases c6 : (rd l0 aa) > 44
   ·
    rw [if_pos c6] at H
    have ak:=yDs c6
    clear c6
    obtain rfl:=Option.some.inj H
    obtain ⟨af,ae,ac,ag,ah⟩:=yai HR0 aa
    cases ae
    go_wp2
    go_ret
    exact ⟨yq,yd⟩
   rw [if_neg c6] at H
   have ak:=yGs c6
   clear c6
   have H' := zm H
   clear H
   obtain ⟨af,ae,ac,ag,ah⟩:=yai HR0 aa
   cases ae
   go_wp2
   go_roundg k1
   case measure=>exact yom1 HK1
   case rel=>exact ⟨(wrap64 (aa+1)),yq,H',⟨yom1 HK1⟩,yd⟩
  rw [if_neg c2] at H
  have ai:=yG c2
  clear c2
  obtain rfl:=Option.some.inj H
  go_wp2
  go_ret
  exact ⟨yq,yd⟩
mutual
def alloc_Pulses.j0 : Nat→Int→Int→List (List Int)→Bool→Option ((List (List Int)) × Int)
 | 0,_,_,_,_=>none
 | k+1,x0,x1,x2,x21=>if x21=true then (some (([] : List (List Int)),1)) else (alloc_Pulses.l0 k x0 x1 ([] : List (List Int)) x2 (x2.length : Int) 0)
def alloc_Pulses.l0 : Nat→Int→Int→List (List Int)→List (List Int)→Int→Int→Option ((List (List Int)) × Int)
 | 0,_,_,_,_,_,_=>none
 | k+1,x0,x1,x8,x22,x23,x24=>if x24 < x23 then (if 0≤x24 then (if x24 < (x22.length : Int) then ((gain_Right.f k (rd_L2 x22 x24)).bind fun aW=>(if aW=true then ((alloc_Room.f x0 x1).bind fun ak=>(alloc_Pulses.l1 k x0 x1 x8 (rd_L2 x22 x24) (List.replicate 5 0) x22 x23 x24 ak)) else (some (([] : List (List Int)),1)))) else (none)) else (none)) else (some (x8,0))
def alloc_Pulses.l1 : Nat→Int→Int→List (List Int)→List Int→List Int→List (List Int)→Int→Int→Int→Option ((List (List Int)) × Int)
 | 0,_,_,_,_,_,_,_,_,_=>none
 | k+1,x0,x1,x8,x10,x11,x22,x23,x24,x49=>(alloc_give.f k x10 x11 x49).bind fun aA=>(if aA.2.1=true then (alloc_Pulses.l1 k x0 x1 x8 x10 aA.2.2 x22 x23 x24 aA.1) else (if x8.length < 5864062014805 then (alloc_Pulses.l0 k x0 x1 (x8 ++ [aA.2.2]) x22 x23 (wrap64 (x24+1))) else (none)))
end
def alloc_Pulses.f (k : Nat) (a0 : Int) (a1 : Int) (l2 : List (List Int)) : Option ((List (List Int)) × Int):=(alloc_Right.f a0 a1).bind fun aX=>(if aX=true then (alloc_Pulses.j0 k a0 a1 l2 ((l2.length : Int) != a1)) else (alloc_Pulses.j0 k a0 a1 l2 true))
theorem alloc_Pulses.mono_l : ∀ k,(∀ y0 y1 y2 y3,LeO (alloc_Pulses.j0 k y0 y1 y2 y3) (alloc_Pulses.j0 (k+1) y0 y1 y2 y3))∧(∀ y0 y1 y2 y3 y4 y5,LeO (alloc_Pulses.l0 k y0 y1 y2 y3 y4 y5) (alloc_Pulses.l0 (k+1) y0 y1 y2 y3 y4 y5))∧(∀ y0 y1 y2 y3 y4 y5 y6 y7 y8,LeO (alloc_Pulses.l1 k y0 y1 y2 y3 y4 y5 y6 y7 y8) (alloc_Pulses.l1 (k+1) y0 y1 y2 y3 y4 y5 y6 y7 y8))
 | 0=>⟨fun _ _ _ _ r h=>by simp [alloc_Pulses.j0] at h,fun _ _ _ _ _ _ r h=>by simp [alloc_Pulses.l0] at h,fun _ _ _ _ _ _ _ _ _ r h=>by simp [alloc_Pulses.l1] at h⟩
 | k+1=>by
  obtain ⟨ih0,ih1,ih2⟩:=alloc_Pulses.mono_l k
  refine ⟨?_, ?_, ?_⟩
  ·
   intro y0 y1 y2 y3
   unfold alloc_Pulses.j0
   repeat' with_reducible first|apply ih0|apply ih1|apply ih2|apply alloc_give.mono|apply gain_Right.mono|apply yLr|apply yLn|apply yLi|apply yLb|intro _
  ·
   intro y0 y1 y2 y3 y4 y5
   unfold alloc_Pulses.l0
   repeat' with_reducible first|apply ih0|apply ih1|apply ih2|apply alloc_give.mono|apply gain_Right.mono|apply yLr|apply yLn|apply yLi|apply yLb|intro _
  intro y0 y1 y2 y3 y4 y5 y6 y7 y8
  unfold alloc_Pulses.l1
  repeat' with_reducible first|apply ih0|apply ih1|apply ih2|apply alloc_give.mono|apply gain_Right.mono|apply yLr|apply yLn|apply yLi|apply yLb|intro _
theorem alloc_Pulses.mono : ∀ a0 a1 a2 k,LeO (alloc_Pulses.f k a0 a1 a2) (alloc_Pulses.f (k+1) a0 a1 a2):=by
 intro a0 a1 a2 k
 obtain ⟨ih0,ih1,ih2⟩:=alloc_Pulses.mono_l k
 unfold alloc_Pulses.f
 repeat' with_reducible first|apply ih0|apply ih1|apply ih2|apply alloc_give.mono|apply gain_Right.mono|apply yLr|apply yLn|apply yLi|apply yLb|intro _
def alloc_Pulses.T9 : Bool × List (List Nat × List Nat):=(true, [([], []),([], []),([], []),([], []),([2,3], [2,3]),([0,1,4], [0,1,4]),([5], [5]),([6,4,0,1,2,3,4,5,6], [6])])
def alloc_Pulses.B9 : List Nat := [0,0,0,0,12,31,63,127]
theorem alloc_Pulses.tab9 : rtab .any (opsOf Try.f37 9)=alloc_Pulses.T9:=by kernel_rfl
theorem alloc_Pulses.bits9 : waitsOk alloc_Pulses.T9.2 alloc_Pulses.B9=true:=by kernel_rfl
set_option maxHeartbeats 8000000 in
set_option maxRecDepth 100000 in
theorem alloc_Pulses.calls (k : Nat) (a0 : Int) (a1 : Int) (A2 : Option Addr) (c2 : Nat) (l2 : List (List Int)) (r1 : List (List Int)) (r2 : Int) (w : World) (hr2 : Kd.C (Kd.slice 3 (Kd.int .i64)) w A2 l2.length l2) (hc2 : l2.length≤c2) (h : alloc_Pulses.f k a0 a1 l2=some (r1,r2)) :
  Calls Try.prog 37 #[.int .i64 a0, .int .i64 a1, .slice A2 l2.length c2] w fun e w' => ∃ v0_ : Value,e=.returned (.tuple #[v0_, .int .i64 r2])∧Kd.S (Kd.slice 3 (Kd.int .i64)) 55 w' w.heap.size (fun _=>True) v0_ r1∧Below w.heap.size w w' := by
 have HR2:=zm hr2;have HC2:=zm hc2;clear hr2 hc2;have HB:=zm (Below.refl w.heap.size w);have H:=h
 unfold alloc_Pulses.f at H
 clear h;have HC4:=zm H;clear H
 go_enter Try.func37,Try.ntmps37
 go_upto_region 1 with (fail)
 go_cut [21] (fun v21 wc => ∃ (kq : Nat) (aC : Bool),v21=.bool aC∧Aside0 (alloc_Pulses.j0 kq a0 a1 l2 aC=some (r1,r2))∧Aside0 (kq≤k)∧Aside0 (Below w.heap.size w wc))
 case first =>
  have H:=HC4.out;clear HC4
  replace H:=ybi H;obtain ⟨aX,A5,H⟩:=H
  by_cases c6 : aX=true
  ·
   subst c6
   rw [if_pos rfl] at H
   have H' := zm H
   clear H
   go_wp2_with (first|((with_reducible refine gate_callee (f:=52) rfl ?_);refine ygl 14 Try.func52 #[.int .i64 a0, .int .i64 a1] ?_;(with_reducible refine (alloc_Right.calls a0 a1 true _ A5.out).mono ?_);rintro e w' ⟨rfl,⟨nd,rfl⟩⟩;refine ⟨_,rfl, ?_⟩))
   go_meet
   case rel=>exact ⟨_,(((l2.length : Int) != a1)),yq,H',⟨yo⟩,⟨yhb⟩⟩
  replace c6:=Bool.eq_false_iff.mpr c6
  subst c6
  rw [ynf] at H
  have H' := zm H
  clear H
  go_wp2_with (first|((with_reducible refine gate_callee (f:=52) rfl ?_);refine ygl 14 Try.func52 #[.int .i64 a0, .int .i64 a1] ?_;(with_reducible refine (alloc_Right.calls a0 a1 false _ A5.out).mono ?_);rintro e w' ⟨rfl,⟨nd,rfl⟩⟩;refine ⟨_,rfl, ?_⟩))
  go_meet
  case rel=>exact ⟨_,(true),yq,H',⟨yo⟩,⟨yhb⟩⟩
 case rest =>
  clear HC4
  try clear c2
  obtain ⟨kq,aC,rfl,HA,HJ3,HB⟩:=hcut
  obtain ⟨kj3,rfl⟩:=ysu kq (fun h=>by subst h;exact absurd HA.out (by simp [alloc_Pulses.j0]))
  have H:=HA.out;clear HA
  simp only [alloc_Pulses.j0] at H
  by_cases c7 : aC=true
  ·
   subst c7
   rw [if_pos rfl] at H
   simp only [Option.some.injEq,Prod.mk.injEq] at H
   obtain ⟨rfl,rfl⟩:=H
   go_wp2
   go_ret2
   exact ⟨_,ye,yn,yhb⟩
  replace c7:=Bool.eq_false_iff.mpr c7
  subst c7
  rw [ynf] at H
  have H' := zm H
  clear H
  go_wp2
  go_loopg [8,24] kj3 (fun kq v8 v24 w' => ∃ (av : List (List Int)) (aa : Int),v24=.int .i64 aa∧Aside0 (alloc_Pulses.l0 kq a0 a1 av l2 (l2.length : Int) aa=some (r1,r2))∧Aside0 (kq≤kj3)∧Aside0 (Kd.S (Kd.slice 3 (Kd.int .i64)) 55 w' w.heap.size (fun _=>True) v8 av)∧Aside0 (Below w.heap.size w w'))
  case atStart=>exact ⟨(([] : List (List Int))),(0),yq,H',⟨Nat.le_refl _⟩,⟨yn⟩,⟨yhb⟩⟩
  case round =>
   clear H'
   obtain ⟨av,aa,rfl,HA,HK2,ac,HB⟩:=hrel
   obtain ⟨k2,rfl⟩:=ysu gk (fun h=>by subst h;exact absurd HA.out (by simp [alloc_Pulses.l0]))
   have H:=HA.out;clear HA
   simp only [alloc_Pulses.l0] at H
   by_cases c8 : aa < (l2.length : Int)
   ·
    rw [if_pos c8] at H
    have a7:=yD c8
    clear c8
    replace H:=yif H;obtain ⟨c9,H⟩:=H
    have bd : decide (0≤aa)=true:=decide_eq_true c9
    clear c9
    replace H:=yif H;obtain ⟨c10,H⟩:=H
    have a8 : decide (aa < (l2.length : Int))=true:=decide_eq_true c10
    clear c10
    replace H:=ybi H;obtain ⟨aW,A11,H⟩:=H
    by_cases c12 : aW=true
    ·
     subst c12
     rw [if_pos rfl] at H
     obtain ⟨aH,aI⟩ : ∃ y_ : List Int,y_=(List.replicate 5 0):=⟨_,rfl⟩
     replace H : ((alloc_Room.f a0 a1).bind fun ak=>(alloc_Pulses.l1 k2 a0 a1 av (rd_L2 l2 aa) aH l2 (l2.length : Int) aa ak))=some (r1,r2):=yrw aI H
     have aD:=zm aI;clear aI
     replace H:=ybi H;obtain ⟨ak,A13,H⟩:=H
     have H' := zm H
     clear H
     have ax : 0≤(aa : Int):=yt
     have ay : aa < (l2.length : Int):=yt
     obtain ⟨a9,ae,af,aY,aj,am,ao⟩:=at_L2 HR2.out aa ax ay
     cases aY
     replace aj:=yhx HB aj
     have ap:=zm ao;have aq:=zm am;clear ao am
     replace ax:=eq_true ax
     replace ay:=eq_true ay
     try go_wp2_with (first|((with_reducible refine gate_callee (f:=72) rfl ?_);refine ygl 29 Try.func72 #[.slice ae (rd_L2 l2 aa).length af] ?_;(with_reducible refine (gain_Right.calls k2 _ _ (rd_L2 l2 aa) true _ ?aw aq.out A11.out).mono ?_);(case aw=>exact ycb ap);rintro e w' ⟨rfl,⟨nd,rfl⟩⟩;refine ⟨_,rfl, ?_⟩))
     (try (rw [drewN_self wr];generalize hq_ : World.drewN wr _=wr;replace ac:=ySq hq_ ac;replace HB:=ysq hq_;clear hq_))
     replace ac:=zm (Kd.S_drew ac.out)
     replace HB:=zm (zf HB.out)
     refine yst (fun w' => True) [] 8 alloc_Pulses.tab9 alloc_Pulses.bits9 (fun hHeld HT_ HW_ => ?_) (hS:=trivial)
     generalize wr.drew=w14 at ac HB hHeld ⊢
     refine yp 0 31 HT_ ?_
     refine yp 2 33 HT_ ?_
     refine yp 3 34 HT_ ?_
     refine join_ (σ:=Value) 3 #[true,true,true,true,true,false,false,false] (fun s_ => [(32,s_),(35, .int .i64 ak)]) (fun s_ w' => (Kd.R (Kd.int .i64) 3 w' w.heap.size (fun _=>True) s_ aH)∧(Kd.S (Kd.slice 3 (Kd.int .i64)) 55 w' w.heap.size (fun k_=>some k_≠(s_ : Value).ownBlock) u8 av)∧(Below w.heap.size w w')) ?_ ?_
     rotate_left
     ·
      intro hCont
      refine two_ (i:=1) (j:=4) (Ni:=some 32) (Nj:=some 35) #[true,true,true,true,false,false,false,false] #[true,false,true,true,true,false,false,false] rfl rfl rfl rfl (two_of HT_.out (by kernel_rfl)) (by decide) (by decide) (fun K hK => ?_) (fun K hK => ?_)
      ·
       skip
       refine Kd.R_make_step (Kd.int .i64) _ 3 (by rfl) (N:=32) rfl 55 _ _ rfl 5 rfl rfl Try.underlying55 (.int .i64 0) 8 info3 rfl (by decide) (by omega) 0 (ok:=fun _=>True) (okp:=fun _=>True) rfl (fun _ hk=>hk) trivial (by omega) (by omega) (Below.refl _ _) (Nat.le_refl _) ?_
       intro ai w15 au hb hg_ hnew_
       clear hg_ hnew_
       (first|rw [← aD.out] at au|(simp only [Int.reduceToNat] at au;rw [← aD.out] at au))
       replace ac:=zm (Kd.S_elder' (yr ac) (Kd.R_base au) hb)
       have al:=zm (Kd.R_lower au (zE yhb))
       replace HB:=ybs hb
       clear hb au
       refine hK.out _ _ trivial (fun hHeld => ?_)
       clear hK K
       refine ym (some 32) ?_
       refine yw 4 35 HT_ (fun K hK => ?_)
       refine ygs Try.func73 #[.int .i64 a0, .int .i64 a1] ?_
       with_reducible refine (alloc_Room.calls a0 a1 ak _ A13.out).mono ?_
       rintro e w' ⟨rfl,⟨nd,rfl⟩⟩
       refine ⟨_,rfl, ?_⟩
       refine hK.out _ _ trivial (fun hHeld => ?_)
       clear hK K
       refine ym (some 35) ?_
       exact norm_ (by simp only [putAll,Act.put,List.setIfInBounds_toArray,List.set_cons_zero,List.set_cons_succ]) (hCont (ai) _ ⟨(yr al),(yS0 ac),yhb⟩)
      skip
      refine ygs Try.func73 #[.int .i64 a0, .int .i64 a1] ?_
      with_reducible refine (alloc_Room.calls a0 a1 ak _ A13.out).mono ?_
      rintro e w' ⟨rfl,⟨nd,rfl⟩⟩
      refine ⟨_,rfl, ?_⟩
      refine hK.out _ _ trivial (fun hHeld => ?_)
      clear hK K
      refine ym (some 35) ?_
      refine yw 1 32 HT_ (fun K hK => ?_)
      refine Kd.R_make_step (Kd.int .i64) _ 3 (by rfl) (N:=32) rfl 55 _ _ rfl 5 rfl rfl Try.underlying55 (.int .i64 0) 8 info3 rfl (by decide) (by omega) 0 (ok:=fun _=>True) (okp:=fun _=>True) rfl (fun _ hk=>hk) trivial (by omega) (by omega) (Below.refl _ _) (Nat.le_refl _) ?_
      intro ai w15 au hb hg_ hnew_
      clear hg_ hnew_
      (first|rw [← aD.out] at au|(simp only [Int.reduceToNat] at au;rw [← aD.out] at au))
      replace ac:=zm (Kd.S_elder' (yr ac) (Kd.R_base au) hb)
      have al:=zm (Kd.R_lower au (zE yhb))
      replace HB:=ybs hb
      clear hb au
      refine hK.out _ _ trivial (fun hHeld => ?_)
      clear hK K
      refine ym (some 32) ?_
      exact norm_ (by simp only [putAll,Act.put,List.setIfInBounds_toArray,List.set_cons_zero,List.set_cons_succ]) (hCont (ai) _ ⟨(yr al),(yS0 ac),yhb⟩)
     rintro ai w17 ⟨h0_,h1_,h2_⟩
     have n0_ : Aside0 (Kd.R (Kd.int .i64) 3 w17 w.heap.size (fun _=>True) ai aH):=⟨h0_⟩
     have n1_ : Aside0 (Kd.S (Kd.slice 3 (Kd.int .i64)) 55 w17 w.heap.size (fun k_=>some k_≠(ai : Value).ownBlock) u8 av):=⟨h1_⟩
     have n2_ : Aside0 (Below w.heap.size w w17):=⟨h2_⟩
     clear ac HB h0_ h1_ h2_;have al:=n0_;have ac:=n1_;have HB:=n2_;clear n0_ n1_ n2_;have hHeld:=trivial
     refine norm_ (a' := ?_) ?_ ?_
     rotate_left
     ·
      simp only [putAll,Act.put,List.setIfInBounds_toArray,List.set_cons_zero,List.set_cons_succ]
      rfl
     obtain ⟨Av9,cv9,ev9⟩:=Kd.R_slice al.out
     refine pure_ (i:=5) (N:=some 36) (v:=.agg #[.slice ae (rd_L2 l2 aa).length af,ai, .int .i64 ak, .func (.func 74) #[] #[]]) (a' := ?_) #[true,true,true,true,true,true,false,false] rfl rfl (any_of HT_.out (by kernel_rfl)) (fun _ _ _ h=>h) (Or.inl ⟨by rfl, ?_⟩) ?_ ?_

     ·
      intro w'
      rw [ev9]
      first|(go_simp;done)|(go_simp;with_reducible rfl)|(go_simp;rfl)

     rotate_left
     ·
      simp only [Act.put,List.setIfInBounds_toArray,List.set_cons_zero,List.set_cons_succ,i64_w,i32_w]
      rfl
     refine yw 6 37 HT_ (fun K hK => ?_)
     refine event_step (v:=.pointer (some ⟨w17.heap.size,0,none⟩)) (w1:=w17.alloc (.cells #[.slice ae (rd_L2 l2 aa).length af,ai, .int .i64 ak, .func (.func 74) #[] #[]] 113 (0,0))) (by rfl) ?hrun ?_
     (case hrun=>(rw [ev9];first|(go_simp;done)|(go_simp;rfl)))
     clear ev9
     have n0_ : Aside0 (Kd.R (Kd.int .i64) 3 (w17.alloc (.cells #[.slice ae (rd_L2 l2 aa).length af,ai, .int .i64 ak, .func (.func 74) #[] #[]] 113 (0,0))) w.heap.size (fun _=>True) ai aH):=⟨zo al.out _⟩
     have n1_ : Aside0 (Kd.S (Kd.slice 3 (Kd.int .i64)) 55 (w17.alloc (.cells #[.slice ae (rd_L2 l2 aa).length af,ai, .int .i64 ak, .func (.func 74) #[] #[]] 113 (0,0))) w.heap.size (fun k_=>some k_≠(ai : Value).ownBlock∧k_≠w17.heap.size) u8 av):=⟨Kd.S_alloc (Kd.S_mono (Kd.S_bound ac.out) (fun k_ hk=>⟨hk.1,fun e_=>by have:=hk.2.2.1;omega⟩)) _⟩
     have n2_ : Aside0 (Below w.heap.size w (w17.alloc (.cells #[.slice ae (rd_L2 l2 aa).length af,ai, .int .i64 ak, .func (.func 74) #[] #[]] 113 (0,0)))):=⟨ze HB.out _⟩
     have n3_ : Aside0 ((w17.alloc (.cells #[.slice ae (rd_L2 l2 aa).length af,ai, .int .i64 ak, .func (.func 74) #[] #[]] 113 (0,0))).heap[w17.heap.size]? = some (.cells #[.slice ae (rd_L2 l2 aa).length af,ai, .int .i64 ak, .func (.func 74) #[] #[]] 113 (0,0))):=⟨blk_new _ _⟩
     have HBW:=zm (show w.heap.size≤w17.heap.size from zE HB.out)
     have HKB:=zm (show some w17.heap.size≠(ai : Value).ownBlock from fun e_=>Nat.lt_irrefl _ (Kd.R_lt al.out _ e_.symm))
     clear al ac HB hHeld
     generalize w17.alloc (.cells #[.slice ae (rd_L2 l2 aa).length af,ai, .int .i64 ak, .func (.func 74) #[] #[]] 113 (0,0))=w18 at n0_ n1_ n2_ n3_ ⊢
     generalize w17.heap.size=B at n1_ n3_ HBW HKB ⊢
     have al:=n0_;have ac:=n1_;have HB:=n2_;have HS:=n3_;clear n0_ n1_ n2_ n3_
     refine hK.out _ _ trivial (fun hHeld => ?_)
     clear hK K
     refine ym (some 37) ?_
     refine yp 7 11 HT_ ?_
     refine done_ (done_of HT_.out (by kernel_rfl)) ?_
     try go_wp2
     go_loopg [39] k2 (fun kq v_ w' => ∃ (ah : List Int) (az : Int),Aside0 (alloc_Pulses.l1 kq a0 a1 av (rd_L2 l2 aa) ah l2 (l2.length : Int) aa az=some (r1,r2))∧Aside0 (kq≤k2)∧Aside0 (Kd.S (Kd.slice 3 (Kd.int .i64)) 55 w' w.heap.size (fun k_=>some k_≠(ai : Value).ownBlock∧k_≠B) u8 av)∧Aside0 (Kd.R (Kd.int .i64) 3 w' w.heap.size (fun _=>True) ai ah)∧Aside0 (Below w.heap.size w w')∧Aside0 (w'.heap[B]? = some (.cells #[.slice ae (rd_L2 l2 aa).length af,ai, .int .i64 az, .func (.func 74) #[] #[]] 113 (0,0))))
     case atStart=>exact ⟨(aH),(ak),H',⟨Nat.le_refl _⟩,⟨yr ac⟩,⟨yr al⟩,⟨yhb⟩,⟨(yk HS)⟩⟩
     case round =>
      clear H'
      try clear a7
      try clear bd
      try clear a8
      try clear aj
      try clear ax
      try clear ay
      obtain ⟨ah,az,HA,HK3,ac,ag,HB,HS⟩:=hrel
      obtain ⟨k3,rfl⟩:=ysu gk (fun h=>by subst h;exact absurd HA.out (by simp [alloc_Pulses.l1]))
      have H:=HA.out;clear HA
      simp only [alloc_Pulses.l1] at H
      replace H:=ybi H;obtain ⟨⟨aZ,bf,aJ⟩,A18,H⟩:=H
      try dsimp only at H
      by_cases c19 : bf=true
      ·
       subst c19
       rw [if_pos rfl] at H
       have H' := zm H
       clear H
       obtain ⟨aU,aV,bg⟩:=Kd.R_slice ag.out
       subst bg
       go_wp2_with (first|((with_reducible refine gate_callee (f:=75) rfl ?_);refine ygl 39 Try.func75 #[.pointer (some ⟨B,0,none⟩)] ?_;(with_reducible refine (alloc_give.calls k3 B ae af (rd_L2 l2 aa) (fun k_=>some k_=(.slice aU ah.length aV : Value).ownBlock) (.slice aU ah.length aV) ah az aZ true aJ w _ ?aw ?aK aq.out ?aM ?aN HBW.out ?aQ A18.out).mono ?_);(case aw=>exact yhb);(case aK=>exact Kd.C_kept_came (Kd.heap_int .i64) ap.out yhb (fun k_ hs_=>(fun e_=>Kd.R_base ag.out k_ e_.symm) hs_));(case aM=>exact Kd.R_tight rfl ag.out);(case aN=>exact fun e_=>HKB.out e_);(case aQ=>exact (yk HS));rintro e w21 ⟨rfl,hy0,hb,hkp,hs9⟩;refine ⟨_,rfl, ?_⟩;have hs1 : w21.cell? ⟨B,1,none⟩=some (.slice aU ah.length aV):=(zs hs9 1).trans rfl;have n0_:=zm (Kd.S_mono (ok' := fun k_=>some k_≠(.slice aU ah.length aV : Value).ownBlock∧k_≠B) (Kd.S_keptB (ac.out) hkp (fun k_ hk_ hs_=>hs_.elim hk_.1 hk_.2)) (fun k_ hk_=>hk_.1));have n1_:=zm (Kd.R_reok rfl hy0 (fun k_ e_=>ag.out.1 k_ e_));have n2_:=zm (hb);clear ac;clear ag;clear HB;clear HS;have HS:=zm hs9;clear hs9;have ac:=n0_;have ag:=n1_;have HB:=n2_;clear n0_ n1_ n2_;(try clear hb);(try clear hkp);(try clear hy0)))
       go_roundg k3
       case measure=>exact yom3 HJ3 HK2 HK3
       case rel=>exact ⟨(aJ),(aZ),H',⟨yom3 HJ3 HK2 HK3⟩,⟨yr ac⟩,⟨yr ag⟩,⟨yhb⟩,⟨(yk HS)⟩⟩
      replace c19:=Bool.eq_false_iff.mpr c19
      subst c19
      rw [ynf] at H
      replace H:=yif H;obtain ⟨c22,H⟩:=H
      have LMc22:=zm c22;clear c22
      obtain ⟨ba,aT⟩ : ∃ y_ : List (List Int),y_=(av ++ [aJ]):=⟨_,rfl⟩
      replace H : (alloc_Pulses.l0 k3 a0 a1 ba l2 (l2.length : Int) (wrap64 (aa+1)))=some (r1,r2):=yrw aT H
      have bb:=zm aT;clear aT
      have H' := zm H
      clear H
      obtain ⟨aE,aG,bh⟩:=Kd.R_slice ag.out
      subst bh
      go_wp2_with (first|((with_reducible refine gate_callee (f:=75) rfl ?_);refine ygl 39 Try.func75 #[.pointer (some ⟨B,0,none⟩)] ?_;(with_reducible refine (alloc_give.calls k3 B ae af (rd_L2 l2 aa) (fun k_=>some k_=(.slice aE ah.length aG : Value).ownBlock) (.slice aE ah.length aG) ah az aZ false aJ w _ ?aw ?aK aq.out ?aM ?aN HBW.out ?aQ A18.out).mono ?_);(case aw=>exact yhb);(case aK=>exact Kd.C_kept_came (Kd.heap_int .i64) ap.out yhb (fun k_ hs_=>(fun e_=>Kd.R_base ag.out k_ e_.symm) hs_));(case aM=>exact Kd.R_tight rfl ag.out);(case aN=>exact fun e_=>HKB.out e_);(case aQ=>exact (yk HS));rintro e w24 ⟨rfl,hy0,hb,hkp,hs9⟩;refine ⟨_,rfl, ?_⟩;have hs1 : w24.cell? ⟨B,1,none⟩=some (.slice aE ah.length aG):=(zs hs9 1).trans rfl;have n0_:=zm (Kd.S_mono (ok' := fun k_=>some k_≠(.slice aE ah.length aG : Value).ownBlock∧k_≠B) (Kd.S_keptB (ac.out) hkp (fun k_ hk_ hs_=>hs_.elim hk_.1 hk_.2)) (fun k_ hk_=>hk_.1));have n1_:=zm (Kd.R_reok rfl hy0 (fun k_ e_=>ag.out.1 k_ e_));have n2_:=zm (hb);clear ac;clear ag;clear HB;clear HS;have HS:=zm hs9;clear hs9;have ac:=n0_;have ag:=n1_;have HB:=n2_;clear n0_ n1_ n2_;(try clear hb);(try clear hkp);(try clear hy0))|((with_reducible refine gate_builtin (b:=.append) (xs := #[.tmp 40, .tmp 45]) rfl ?_);(try (refine gate_guard (by rfl) ?_;dsimp only));at_builtin;refine Kd.S_append (Kd.slice 3 (Kd.int .i64)) (w0:=w) w.heap.size rfl (.tmp 40) (.tmp 45) 25 55 (.slice none 0 0) 24 rfl Try.underlying25 info55 rfl (by decide) (by omega) u8 av aJ [.slice aE ah.length aG] (fun _=>True) (fun k_=>some k_=(.slice aE ah.length aG : Value).ownBlock) rfl rfl ?aP (fun k_ hk_=>((zG (ok' := fun k_=>((fun _=>True)) k_∧some k_≠(u8 : Value).ownBlock) (Kd.R_apart' (ag.out) (Kd.S_typed ac.out) (by decide)) (fun k_ hk=>⟨trivial,hk.2⟩))).1 k_ hk_.symm) ?aF ?aO ?aB ?aS ?aL ?_;(case aP=>exact Kd.M_row (zG (Kd.R_tight rfl (zG (ok' := fun k_=>((fun _=>True)) k_∧some k_≠(u8 : Value).ownBlock) (Kd.R_apart' (ag.out) (Kd.S_typed ac.out) (by decide)) (fun k_ hk=>⟨trivial,hk.2⟩))) (fun _ h_=>h_)));(case aB=>exact yhb);(case aF=>exact (fun _ _=>trivial));(case aO=>exact (yS0 ac));(case aS=>exact (zE yhb));(case aL=>have:=LMc22.out;omega);intro bi w25 ho hb hg hat;rw [← bb.out] at ho;replace HB:=zm (hb);have bc:=zm (ho);clear ac;clear ag;clear ho hb hg hat))
      go_roundg k3
      case measure=>exact yom3 HJ3 HK2 HK3
      case rel=>exact ⟨(ba),(wrap64 (aa+1)),yq,H',⟨yom3 HJ3 HK2 HK3⟩,⟨yr bc⟩,⟨yhb⟩⟩
    replace c12:=Bool.eq_false_iff.mpr c12
    subst c12
    rw [ynf] at H
    simp only [Option.some.injEq,Prod.mk.injEq] at H
    obtain ⟨rfl,rfl⟩:=H
    have ax : 0≤(aa : Int):=yt
    have ay : aa < (l2.length : Int):=yt
    obtain ⟨a9,ae,af,aY,aj,am,ao⟩:=at_L2 HR2.out aa ax ay
    cases aY
    replace aj:=yhx HB aj
    have ap:=zm ao;have aq:=zm am;clear ao am
    replace ax:=eq_true ax
    replace ay:=eq_true ay
    go_wp2_with (first|((with_reducible refine gate_callee (f:=72) rfl ?_);refine ygl 29 Try.func72 #[.slice ae (rd_L2 l2 aa).length af] ?_;(with_reducible refine (gain_Right.calls k2 _ _ (rd_L2 l2 aa) false _ ?aw aq.out A11.out).mono ?_);(case aw=>exact ycb ap);rintro e w' ⟨rfl,⟨nd,rfl⟩⟩;refine ⟨_,rfl, ?_⟩))
    go_ret2
    exact ⟨_,ye,yn,yhb⟩
   rw [if_neg c8] at H
   have a7:=yG c8
   clear c8
   simp only [Option.some.injEq,Prod.mk.injEq] at H
   obtain ⟨rfl,rfl⟩:=H
   go_wp2
   go_ret2
   exact ⟨_,ye,yr ac,yhb⟩
def num_Log2.l0 : Nat→Int→Int→Option (Int)
 | 0,_,_=>none
 | k+1,x0,x3=>if x0 > 0 then (num_Log2.l0 k (x0 / 2) (wrap64 (x3+1))) else (some x3)
def num_Log2.f (k : Nat) (a0 : Int) : Option (Int):=num_Log2.l0 k a0 (-1)
theorem num_Log2.mono_l : ∀ k,(∀ y0 y1,LeO (num_Log2.l0 k y0 y1) (num_Log2.l0 (k+1) y0 y1))
 | 0=>fun _ _ r h=>by simp [num_Log2.l0] at h
 | k+1=>by
  have ih0:=num_Log2.mono_l k
  ·
   intro y0 y1
   unfold num_Log2.l0
   repeat' with_reducible first|apply ih0|apply yLr|apply yLn|apply yLi|apply yLb|intro _
theorem num_Log2.mono : ∀ a0 k,LeO (num_Log2.f k a0) (num_Log2.f (k+1) a0):=by
 intro a0 k
 have ih0:=num_Log2.mono_l k
 unfold num_Log2.f
 repeat' with_reducible first|apply ih0|apply yLr|apply yLn|apply yLi|apply yLb|intro _
set_option maxHeartbeats 8000000 in
set_option maxRecDepth 100000 in
theorem num_Log2.calls (k : Nat) (a0 : Int) (r : Int) (w : World) (h : num_Log2.f k a0=some r) :
  Calls Try.prog 121 #[.int .u64 a0] w fun e w' => e=.returned (.int .i64 r)∧Drawn0 w w' := by
 have H:=h
 unfold num_Log2.f at H
 clear h
 have H' := zm H
 clear H
 go_enter Try.func121,Try.ntmps121
 go_wp2
 go_loopg [0,3] k (fun kq v0 v3 w' => ∃ (aa : Int) (ac : Int),v0=.int .u64 aa∧v3=.int .i64 ac∧Aside0 (num_Log2.l0 kq aa ac=some r)∧Aside0 (kq≤k)∧Drawn0 w w')
 case atStart=>exact ⟨(a0),((-1)),yq,yq,H',⟨Nat.le_refl _⟩,yd⟩
 case round =>
  clear H'
  obtain ⟨aa,ac,rfl,rfl,HA,HK1,⟨m1,rfl⟩⟩:=hrel
  obtain ⟨k1,rfl⟩:=ysu gk (fun h=>by subst h;exact absurd HA.out (by simp [num_Log2.l0]))
  have H:=HA.out;clear HA
  simp only [num_Log2.l0] at H
  by_cases c2 : aa > 0
  ·
   rw [if_pos c2] at H
   have ae:=yDs c2
   clear c2
   have H' := zm H
   clear H
   go_wp2
   go_roundg k1
   case measure=>exact yom1 HK1
   case rel=>exact ⟨(aa / 2),(wrap64 (ac+1)),yq,yq,H',⟨yom1 HK1⟩,yd⟩
  rw [if_neg c2] at H
  have ae:=yGs c2
  clear c2
  obtain rfl:=Option.some.inj H
  go_wp2
  go_ret
  exact ⟨yq,yd⟩
def band_gain.f (k : Nat) (a0 : Int) : Option (Int):=(num_Log2.f k a0).bind fun aa=>(some (wrap64 (aa+1)))
theorem band_gain.mono : ∀ a0 k,LeO (band_gain.f k a0) (band_gain.f (k+1) a0):=by
 intro a0 k
 unfold band_gain.f
 repeat' with_reducible first|apply num_Log2.mono|apply yLr|apply yLn|apply yLi|apply yLb|intro _
set_option maxHeartbeats 8000000 in
set_option maxRecDepth 100000 in
theorem band_gain.calls (k : Nat) (a0 : Int) (r : Int) (w : World) (h : band_gain.f k a0=some r) :
  Calls Try.prog 110 #[.int .u64 a0] w fun e w' => e=.returned (.int .i64 r)∧Drawn0 w w' := by
 have H:=h
 unfold band_gain.f at H
 clear h
 replace H:=ybi H;obtain ⟨aa,A2,H⟩:=H
 obtain rfl:=Option.some.inj H
 go_enter Try.func110,Try.ntmps110
 go_wp2_with (first|((with_reducible refine gate_callee (f:=121) rfl ?_);refine ygl 4 Try.func121 #[.int .u64 a0] ?_;(with_reducible refine (num_Log2.calls k a0 aa _ A2.out).mono ?_);rintro e w' ⟨rfl,⟨nd,rfl⟩⟩;refine ⟨_,rfl, ?_⟩))
 go_ret
 exact ⟨yq,yd⟩
def num_Clamp.f (a0 : Int) (a1 : Int) (a2 : Int) : Option (Int):=if a0 < a1 then (some a1) else (if a0 > a2 then (some a2) else (some a0))
set_option maxHeartbeats 8000000 in
set_option maxRecDepth 100000 in
theorem num_Clamp.calls (a0 : Int) (a1 : Int) (a2 : Int) (r : Int) (w : World) (h : num_Clamp.f a0 a1 a2=some r) :
  Calls Try.prog 95 #[.int .i64 a0, .int .i64 a1, .int .i64 a2] w fun e w' => e=.returned (.int .i64 r)∧Drawn0 w w' := by
 have H:=h
 unfold num_Clamp.f at H
 clear h
 by_cases c4 : a0 < a1
 ·
  rw [if_pos c4] at H
  have aa:=yD c4
  clear c4
  obtain rfl:=Option.some.inj H
  go_enter Try.func95,Try.ntmps95
  go_wp2
  go_ret
  exact ⟨yq,yd⟩
 rw [if_neg c4] at H
 have aa:=yG c4
 clear c4
 by_cases c5 : a0 > a2
 ·
  rw [if_pos c5] at H
  have ac:=yDs c5
  clear c5
  obtain rfl:=Option.some.inj H
  go_enter Try.func95,Try.ntmps95
  go_wp2
  go_ret
  exact ⟨yq,yd⟩
 rw [if_neg c5] at H
 have ac:=yGs c5
 clear c5
 obtain rfl:=Option.some.inj H
 go_enter Try.func95,Try.ntmps95
 go_wp2
 go_ret
 exact ⟨yq,yd⟩
def pvq_fair.l0 : Nat→List Int→List Int→Int→Int→Option (Bool)
 | 0,_,_,_,_=>none
 | k+1,x0,x5,x6,x7=>if x7 < x6 then (if 0≤x7 then (if x7 < (x5.length : Int) then ((num_Clamp.f (rd x5 x7) (-1048576) 1048576).bind fun ac=>(if (rd x5 x7)=ac then (pvq_fair.l0 k x0 x5 x6 (wrap64 (x7+1))) else (some false))) else (none)) else (none)) else (if (x0.length : Int) ≥ 1 then (some (decide ((x0.length : Int)≤16))) else (some false))
def pvq_fair.f (k : Nat) (l0 : List Int) : Option (Bool):=pvq_fair.l0 k l0 l0 (l0.length : Int) 0
theorem pvq_fair.mono_l : ∀ k,(∀ y0 y1 y2 y3,LeO (pvq_fair.l0 k y0 y1 y2 y3) (pvq_fair.l0 (k+1) y0 y1 y2 y3))
 | 0=>fun _ _ _ _ r h=>by simp [pvq_fair.l0] at h
 | k+1=>by
  have ih0:=pvq_fair.mono_l k
  ·
   intro y0 y1 y2 y3
   unfold pvq_fair.l0
   repeat' with_reducible first|apply ih0|apply yLr|apply yLn|apply yLi|apply yLb|intro _
theorem pvq_fair.mono : ∀ a0 k,LeO (pvq_fair.f k a0) (pvq_fair.f (k+1) a0):=by
 intro a0 k
 have ih0:=pvq_fair.mono_l k
 unfold pvq_fair.f
 repeat' with_reducible first|apply ih0|apply yLr|apply yLn|apply yLi|apply yLb|intro _
set_option maxHeartbeats 8000000 in
set_option maxRecDepth 100000 in
theorem pvq_fair.calls (k : Nat) (A0 : Option Addr) (c0 : Nat) (l0 : List Int) (r : Bool) (w : World) (hr0 : Kd.C (Kd.int .i64) w A0 l0.length l0) (hc0 : l0.length≤c0) (h : pvq_fair.f k l0=some r) :
  Calls Try.prog 78 #[.slice A0 l0.length c0] w fun e w' => e=.returned (.bool r)∧Drawn0 w w' := by
 have HR0:=zm hr0;have HC0:=zm hc0;clear hr0 hc0;have H:=h
 unfold pvq_fair.f at H
 clear h
 have H' := zm H
 clear H
 go_enter Try.func78,Try.ntmps78
 go_wp2
 go_loopg [7] k (fun kq v7 w' => ∃ (aa : Int),v7=.int .i64 aa∧Aside0 (pvq_fair.l0 kq l0 l0 (l0.length : Int) aa=some r)∧Aside0 (kq≤k)∧Drawn0 w w')
 case atStart=>exact ⟨(0),yq,H',⟨Nat.le_refl _⟩,yd⟩
 case round =>
  clear H'
  obtain ⟨aa,rfl,HA,HK1,⟨m1,rfl⟩⟩:=hrel
  obtain ⟨k1,rfl⟩:=ysu gk (fun h=>by subst h;exact absurd HA.out (by simp [pvq_fair.l0]))
  have H:=HA.out;clear HA
  simp only [pvq_fair.l0] at H
  by_cases c2 : aa < (l0.length : Int)
  ·
   rw [if_pos c2] at H
   have ah:=yD c2
   clear c2
   replace H:=yif H;obtain ⟨c3,H⟩:=H
   have ap : decide (0≤aa)=true:=decide_eq_true c3
   clear c3
   replace H:=yif H;obtain ⟨c4,H⟩:=H
   have aq : decide (aa < (l0.length : Int))=true:=decide_eq_true c4
   clear c4
   replace H:=ybi H;obtain ⟨ac,A5,H⟩:=H
   by_cases c6 : (rd l0 aa)=ac
   ·
    rw [if_pos c6] at H
    obtain ⟨ai,aj⟩:=yE c6
    clear c6
    have H' := zm H
    clear H
    obtain ⟨ag,af,ae,ak,al⟩:=yai HR0 aa
    cases af
    go_wp2_with (first|((with_reducible refine gate_callee (f:=95) rfl ?_);refine ygl 13 Try.func95 #[.int .i64 (rd l0 aa), .int .i64 (-1048576), .int .i64 1048576] ?_;(with_reducible refine (num_Clamp.calls (rd l0 aa) (-1048576) 1048576 ac _ A5.out).mono ?_);rintro e w' ⟨rfl,⟨nd,rfl⟩⟩;refine ⟨_,rfl, ?_⟩))
    go_roundg k1
    case measure=>exact yom1 HK1
    case rel=>exact ⟨(wrap64 (aa+1)),yq,H',⟨yom1 HK1⟩,yd⟩
   rw [if_neg c6] at H
   obtain ⟨ai,aj⟩:=yF c6
   obtain rfl:=Option.some.inj H
   obtain ⟨ag,af,ae,ak,al⟩:=yai HR0 aa
   cases af
   go_wp2_with (first|((with_reducible refine gate_callee (f:=95) rfl ?_);refine ygl 13 Try.func95 #[.int .i64 (rd l0 aa), .int .i64 (-1048576), .int .i64 1048576] ?_;(with_reducible refine (num_Clamp.calls (rd l0 aa) (-1048576) 1048576 ac _ A5.out).mono ?_);rintro e w' ⟨rfl,⟨nd,rfl⟩⟩;refine ⟨_,rfl, ?_⟩))
   go_ret
   exact ⟨yq,yd⟩
  rw [if_neg c2] at H
  have ah:=yG c2
  clear c2
  by_cases c7 : (l0.length : Int) ≥ 1
  ·
   rw [if_pos c7] at H
   have am:=yDl c7
   have ao : decide (1≤l0.length)=true:=decide_eq_true (by omega)
   clear c7
   obtain rfl:=Option.some.inj H
   go_wp2
   go_ret
   exact ⟨yq,yd⟩
  rw [if_neg c7] at H
  have am:=yGl c7
  have ao : decide (1≤l0.length)=false:=decide_eq_false (by omega)
  clear c7
  obtain rfl:=Option.some.inj H
  go_wp2
  go_ret
  exact ⟨yq,yd⟩
def pvq_Square.l0 : Nat→Int→List Int→Int→Int→Option (Int × Int)
 | 0,_,_,_,_=>none
 | k+1,x4,x10,x11,x12=>if x12 < x11 then (if 0≤x12 then (if x12 < (x10.length : Int) then (pvq_Square.l0 k (IntKind.u64.wrap (x4+(IntKind.u64.wrap (wrap64 ((rd x10 x12) * (rd x10 x12)))))) x10 x11 (wrap64 (x12+1))) else (none)) else (none)) else (some (x4,0))
def pvq_Square.f (k : Nat) (l0 : List Int) : Option (Int × Int):=(pvq_fair.f k l0).bind fun af=>(if af=true then (pvq_Square.l0 k 0 l0 (l0.length : Int) 0) else (some (0,1)))
theorem pvq_Square.mono_l : ∀ k,(∀ y0 y1 y2 y3,LeO (pvq_Square.l0 k y0 y1 y2 y3) (pvq_Square.l0 (k+1) y0 y1 y2 y3))
 | 0=>fun _ _ _ _ r h=>by simp [pvq_Square.l0] at h
 | k+1=>by
  have ih0:=pvq_Square.mono_l k
  ·
   intro y0 y1 y2 y3
   unfold pvq_Square.l0
   repeat' with_reducible first|apply ih0|apply pvq_fair.mono|apply yLr|apply yLn|apply yLi|apply yLb|intro _
theorem pvq_Square.mono : ∀ a0 k,LeO (pvq_Square.f k a0) (pvq_Square.f (k+1) a0):=by
 intro a0 k
 have ih0:=pvq_Square.mono_l k
 unfold pvq_Square.f
 repeat' with_reducible first|apply ih0|apply pvq_fair.mono|apply yLr|apply yLn|apply yLi|apply yLb|intro _
set_option maxHeartbeats 8000000 in
set_option maxRecDepth 100000 in
theorem pvq_Square.calls (k : Nat) (A0 : Option Addr) (c0 : Nat) (l0 : List Int) (r1 : Int) (r2 : Int) (w : World) (hr0 : Kd.C (Kd.int .i64) w A0 l0.length l0) (hc0 : l0.length≤c0) (h : pvq_Square.f k l0=some (r1,r2)) :
  Calls Try.prog 76 #[.slice A0 l0.length c0] w fun e w' => e=.returned (.tuple #[.int .u64 r1, .int .i64 r2])∧Drawn0 w w' := by
 have HR0:=zm hr0;have HC0:=zm hc0;clear hr0 hc0;have H:=h
 unfold pvq_Square.f at H
 clear h
 replace H:=ybi H;obtain ⟨af,A2,H⟩:=H
 by_cases c3 : af=true
 ·
  subst c3
  rw [if_pos rfl] at H
  have H' := zm H
  clear H
  go_enter Try.func76,Try.ntmps76
  go_wp2_with (first|((with_reducible refine gate_callee (f:=78) rfl ?_);refine ygl 8 Try.func78 #[.slice A0 l0.length c0] ?_;(with_reducible refine (pvq_fair.calls k _ _ l0 true _ ?ac HC0.out A2.out).mono ?_);(case ac=>exact yce HR0.out);rintro e w' ⟨rfl,⟨nd,rfl⟩⟩;refine ⟨_,rfl, ?_⟩))
  go_loopg [4,12] k (fun kq v4 v12 w' => ∃ (ae : Int) (aa : Int),v4=.int .u64 ae∧v12=.int .i64 aa∧Aside0 (pvq_Square.l0 kq ae l0 (l0.length : Int) aa=some (r1,r2))∧Aside0 (kq≤k)∧Drawn0 w w')
  case atStart=>exact ⟨(0),(0),yq,yq,H',⟨Nat.le_refl _⟩,yd⟩
  case round =>
   clear H'
   obtain ⟨ae,aa,rfl,rfl,HA,HK1,⟨m1,rfl⟩⟩:=hrel
   obtain ⟨k1,rfl⟩:=ysu gk (fun h=>by subst h;exact absurd HA.out (by simp [pvq_Square.l0]))
   have H:=HA.out;clear HA
   simp only [pvq_Square.l0] at H
   by_cases c4 : aa < (l0.length : Int)
   ·
    rw [if_pos c4] at H
    have ah:=yD c4
    clear c4
    replace H:=yif H;obtain ⟨c5,H⟩:=H
    have ak : decide (0≤aa)=true:=decide_eq_true c5
    clear c5
    replace H:=yif H;obtain ⟨c6,H⟩:=H
    have al : decide (aa < (l0.length : Int))=true:=decide_eq_true c6
    clear c6
    have H' := zm H
    clear H
    obtain ⟨aj,ai,ag,am,ao⟩:=yai HR0 aa
    cases ai
    go_wp2
    go_roundg k1
    case measure=>exact yom1 HK1
    case rel=>exact ⟨(IntKind.u64.wrap (ae+(IntKind.u64.wrap (wrap64 ((rd l0 aa) * (rd l0 aa)))))),(wrap64 (aa+1)),yq,yq,H',⟨yom1 HK1⟩,yd⟩
   rw [if_neg c4] at H
   have ah:=yG c4
   clear c4
   simp only [Option.some.injEq,Prod.mk.injEq] at H
   obtain ⟨rfl,rfl⟩:=H
   go_wp2
   go_ret2
   exact ⟨yq,yd⟩
 replace c3:=Bool.eq_false_iff.mpr c3
 subst c3
 rw [ynf] at H
 simp only [Option.some.injEq,Prod.mk.injEq] at H
 obtain ⟨rfl,rfl⟩:=H
 go_enter Try.func76,Try.ntmps76
 go_wp2_with (first|((with_reducible refine gate_callee (f:=78) rfl ?_);refine ygl 8 Try.func78 #[.slice A0 l0.length c0] ?_;(with_reducible refine (pvq_fair.calls k _ _ l0 false _ ?ac HC0.out A2.out).mono ?_);(case ac=>exact yce HR0.out);rintro e w' ⟨rfl,⟨nd,rfl⟩⟩;refine ⟨_,rfl, ?_⟩))
 go_ret2
 exact ⟨yq,yd⟩
def band_Gain.f (k : Nat) (l0 : List Int) : Option (Int × Int):=(pvq_Square.f k l0).bind fun af=>(if af.2=0 then (if (l0.length : Int) > 8 then (some (0,1)) else ((band_gain.f k af.1).bind fun ag=>(some (ag,0)))) else (some (0,1)))
theorem band_Gain.mono : ∀ a0 k,LeO (band_Gain.f k a0) (band_Gain.f (k+1) a0):=by
 intro a0 k
 unfold band_Gain.f
 repeat' with_reducible first|apply band_gain.mono|apply pvq_Square.mono|apply yLr|apply yLn|apply yLi|apply yLb|intro _
set_option maxHeartbeats 8000000 in
set_option maxRecDepth 100000 in
theorem band_Gain.calls (k : Nat) (A0 : Option Addr) (c0 : Nat) (l0 : List Int) (r1 : Int) (r2 : Int) (w : World) (hr0 : Kd.C (Kd.int .i64) w A0 l0.length l0) (hc0 : l0.length≤c0) (h : band_Gain.f k l0=some (r1,r2)) :
  Calls Try.prog 71 #[.slice A0 l0.length c0] w fun e w' => e=.returned (.tuple #[.int .i64 r1, .int .i64 r2])∧Drawn0 w w' := by
 have HR0:=zm hr0;have HC0:=zm hc0;clear hr0 hc0;have H:=h
 unfold band_Gain.f at H
 clear h
 replace H:=ybi H;obtain ⟨⟨ac,ae⟩,A2,H⟩:=H
 try dsimp only at H
 by_cases c3 : ae=0
 ·
  rw [if_pos c3] at H
  obtain ⟨ah,ai⟩:=yE c3
  clear c3
  by_cases c4 : (l0.length : Int) > 8
  ·
   rw [if_pos c4] at H
   have aj:=yDs c4
   have ak : decide (8 < l0.length)=true:=decide_eq_true (by omega)
   clear c4
   simp only [Option.some.injEq,Prod.mk.injEq] at H
   obtain ⟨rfl,rfl⟩:=H
   go_enter Try.func71,Try.ntmps71
   go_wp2_with (first|((with_reducible refine gate_callee (f:=76) rfl ?_);refine ygl 8 Try.func76 #[.slice A0 l0.length c0] ?_;(with_reducible refine (pvq_Square.calls k _ _ l0 ac ae _ ?aa HC0.out A2.out).mono ?_);(case aa=>exact yce HR0.out);rintro e w' ⟨rfl,⟨nd,rfl⟩⟩;refine ⟨_,rfl, ?_⟩))
   go_ret2
   exact ⟨yq,yd⟩
  rw [if_neg c4] at H
  have aj:=yGs c4
  have ak : decide (8 < l0.length)=false:=decide_eq_false (by omega)
  clear c4
  replace H:=ybi H;obtain ⟨ag,A5,H⟩:=H
  simp only [Option.some.injEq,Prod.mk.injEq] at H
  obtain ⟨rfl,rfl⟩:=H
  go_enter Try.func71,Try.ntmps71
  go_wp2_with (first|((with_reducible refine gate_callee (f:=76) rfl ?_);refine ygl 8 Try.func76 #[.slice A0 l0.length c0] ?_;(with_reducible refine (pvq_Square.calls k _ _ l0 ac ae _ ?aa HC0.out A2.out).mono ?_);(case aa=>exact yce HR0.out);rintro e w' ⟨rfl,⟨nd,rfl⟩⟩;refine ⟨_,rfl, ?_⟩)|((with_reducible refine gate_callee (f:=110) rfl ?_);refine ygl 19 Try.func110 #[.int .u64 ac] ?_;(with_reducible refine (band_gain.calls k ac ag _ A5.out).mono ?_);rintro e w' ⟨rfl,⟨nd,rfl⟩⟩;refine ⟨_,rfl, ?_⟩))
  go_ret2
  exact ⟨yq,yd⟩
 rw [if_neg c3] at H
 obtain ⟨ah,ai⟩:=yF c3
 simp only [Option.some.injEq,Prod.mk.injEq] at H
 obtain ⟨rfl,rfl⟩:=H
 go_enter Try.func71,Try.ntmps71
 go_wp2_with (first|((with_reducible refine gate_callee (f:=76) rfl ?_);refine ygl 8 Try.func76 #[.slice A0 l0.length c0] ?_;(with_reducible refine (pvq_Square.calls k _ _ l0 ac ae _ ?aa HC0.out A2.out).mono ?_);(case aa=>exact yce HR0.out);rintro e w' ⟨rfl,⟨nd,rfl⟩⟩;refine ⟨_,rfl, ?_⟩))
 go_ret2
 exact ⟨yq,yd⟩
mutual
def band_Split.j0 : Nat→List Int→Bool→Option ((List (List Int)) × Int)
 | 0,_,_=>none
 | k+1,x0,x22=>if x22=true then (some (([] : List (List Int)),1)) else ((some (([] : List Int) : List Int)).bind fun ai=>(if ai.length+x0.length < 17592186044416 then (band_Split.l0 k (ai ++ x0) ([] : List (List Int)) 0) else (none)))
def band_Split.l0 : Nat→List Int→List (List Int)→Int→Option ((List (List Int)) × Int)
 | 0,_,_,_=>none
 | k+1,x6,x7,x26=>if x26 < 5 then ((band_From.f x26).bind fun aa=>((band_Width.f x26).bind fun ae=>(if 0≤aa then (if aa≤(wrap64 (aa+ae)) then (if (wrap64 (aa+ae))≤(x6.length : Int) then (if x7.length < 5864062014805 then (band_Split.l0 k x6 (x7 ++ [((x6.take ((wrap64 (aa+ae)) : Int).toNat).drop (aa : Int).toNat)]) (wrap64 (x26+1))) else (none)) else (none)) else (none)) else (none)))) else (some (x7,0))
end
def band_Split.f (k : Nat) (l0 : List Int) : Option ((List (List Int)) × Int):=(pvq_Square.f k l0).bind fun aD=>(if aD.2=0 then (band_Split.j0 k l0 ((l0.length : Int) != 16)) else (band_Split.j0 k l0 true))
theorem band_Split.mono_l : ∀ k,(∀ y0 y1,LeO (band_Split.j0 k y0 y1) (band_Split.j0 (k+1) y0 y1))∧(∀ y0 y1 y2,LeO (band_Split.l0 k y0 y1 y2) (band_Split.l0 (k+1) y0 y1 y2))
 | 0=>⟨fun _ _ r h=>by simp [band_Split.j0] at h,fun _ _ _ r h=>by simp [band_Split.l0] at h⟩
 | k+1=>by
  obtain ⟨ih0,ih1⟩:=band_Split.mono_l k
  refine ⟨?_, ?_⟩
  ·
   intro y0 y1
   unfold band_Split.j0
   repeat' with_reducible first|apply ih0|apply ih1|apply pvq_Square.mono|apply yLr|apply yLn|apply yLi|apply yLb|intro _
  intro y0 y1 y2
  unfold band_Split.l0
  repeat' with_reducible first|apply ih0|apply ih1|apply pvq_Square.mono|apply yLr|apply yLn|apply yLi|apply yLb|intro _
theorem band_Split.mono : ∀ a0 k,LeO (band_Split.f k a0) (band_Split.f (k+1) a0):=by
 intro a0 k
 obtain ⟨ih0,ih1⟩:=band_Split.mono_l k
 unfold band_Split.f
 repeat' with_reducible first|apply ih0|apply ih1|apply pvq_Square.mono|apply yLr|apply yLn|apply yLi|apply yLb|intro _
/-- A cut with a capacity: all[lo:hi:hi]. -/
theorem band_Split.cut3 {P : Program} (t e : TypeId) (kl kh km : IntKind) {i : TypeInfo} (ht : P.underlying t=some (.slice e)) (hi : P.info? e=some i) (size : Nat) (hsz : i.size=size) (A : Option Addr) (n c : Nat) (lo hi' : Int) (h0 : 0≤lo) (h1 : lo≤hi') (h2 : hi'≤c) :
  ∀ W : World,(Instr.slice t (.slice A n c) (some (.int kl lo)) (some (.int kh hi')) (some (.int km hi'))).run P W=.ok (.slice (if hi'.toNat=lo.toNat then A else A.map (·.add (lo.toNat * size))) (hi'.toNat - lo.toNat) (hi'.toNat - lo.toNat)) W:=by
 intro W
 have hel : P.elem t=e:=by simp [Program.elem,ht]
 have hu : P.underlying t=some (.slice (P.elem t)):=by rw [hel];exact ht
 rw [run_slice_lhm W t A n c hu kl kh km lo hi' hi' h0 h1 (Int.le_refl _) h2,hel]
 simp [sizeOf,typeInfo,hi,hsz,sliced,Result.andThen]
set_option maxHeartbeats 8000000 in
set_option maxRecDepth 100000 in
theorem band_Split.calls (k : Nat) (A0 : Option Addr) (c0 : Nat) (l0 : List Int) (r1 : List (List Int)) (r2 : Int) (w : World) (hr0 : Kd.C (Kd.int .i64) w A0 l0.length l0) (hc0 : l0.length≤c0) (h : band_Split.f k l0=some (r1,r2)) :
  Calls Try.prog 38 #[.slice A0 l0.length c0] w fun e w' => ∃ v0_ : Value,e=.returned (.tuple #[v0_, .int .i64 r2])∧Kd.N (Kd.slice 2 (Kd.int .i64)) 53 w' w.heap.size (fun k_=>(w.heap.size≤k_)) v0_ r1∧Below w.heap.size w w' := by
 have HR0:=zm hr0;have HC0:=zm hc0;clear hr0 hc0;have HB:=zm (Below.refl w.heap.size w);have H:=h
 unfold band_Split.f at H
 clear h
 replace H:=ybi H;obtain ⟨⟨aT,aE⟩,A2,H⟩:=H
 try dsimp only at H
 have HC3:=zm H;clear H
 go_enter Try.func38,Try.ntmps38
 go_upto_region 2 with (first|((with_reducible refine gate_callee (f:=76) rfl ?_);refine ygl 13 Try.func76 #[.slice A0 l0.length c0] ?_;(with_reducible refine (pvq_Square.calls k _ _ l0 aT aE _ ?aG HC0.out A2.out).mono ?_);(case aG=>exact yce HR0.out);rintro e w' ⟨rfl,⟨nd,rfl⟩⟩;refine ⟨_,rfl, ?_⟩))
 (try simp only [Act.put,List.setIfInBounds_toArray,List.set_cons_zero,List.set_cons_succ])
 go_cut [22] (fun v22 wc => ∃ (kq : Nat) (al : Bool),v22=.bool al∧Aside0 (band_Split.j0 kq l0 al=some (r1,r2))∧Aside0 (kq≤k)∧Aside0 (Below w.heap.size w wc))
 case first =>
  have H:=HC3.out;clear HC3
  by_cases c4 : aE=0
  ·
   rw [if_pos c4] at H
   obtain ⟨ao,aU⟩:=yE c4
   clear c4
   (first|rw [ao]|(simp only [i64_w,i32_w];rw [ao])|skip)
   have H' := zm H
   clear H
   go_wp2
   go_meet
   case rel=>exact ⟨_,(((l0.length : Int) != 16)),yq,H',⟨yo⟩,⟨yhb⟩⟩
  rw [if_neg c4] at H
  obtain ⟨ao,aU⟩:=yF c4
  (first|rw [ao]|(simp only [i64_w,i32_w];rw [ao])|skip)
  have H' := zm H
  clear H
  go_wp2
  go_meet
  case rel=>exact ⟨_,(true),yq,H',⟨yo⟩,⟨yhb⟩⟩
 case rest =>
  clear HC3
  obtain ⟨kq,al,rfl,HA,HJ2,HB⟩:=hcut
  obtain ⟨kj2,rfl⟩:=ysu kq (fun h=>by subst h;exact absurd HA.out (by simp [band_Split.j0]))
  have H:=HA.out;clear HA
  simp only [band_Split.j0] at H
  by_cases c5 : al=true
  ·
   subst c5
   rw [if_pos rfl] at H
   simp only [Option.some.injEq,Prod.mk.injEq] at H
   obtain ⟨rfl,rfl⟩:=H
   go_wp2
   go_ret2
   exact ⟨_,ye,yn,yhb⟩
  replace c5:=Bool.eq_false_iff.mpr c5
  subst c5
  rw [ynf] at H
  obtain ⟨ai,ap⟩ : ∃ y_ : List Int,y_=(([] : List Int)):=⟨_,rfl⟩
  replace H : (if ai.length+l0.length < 17592186044416 then (band_Split.l0 kj2 (ai ++ l0) ([] : List (List Int)) 0) else (none))=some (r1,r2):=yrw ap H
  have ax:=zm ap;clear ap
  replace H:=yif H;obtain ⟨c6,H⟩:=H
  have LMc6:=zm c6;clear c6
  obtain ⟨ag,aq⟩ : ∃ y_ : List Int,y_=(ai ++ l0):=⟨_,rfl⟩
  replace H : (band_Split.l0 kj2 ag ([] : List (List Int)) 0)=some (r1,r2):=yrw aq H
  have aH:=zm aq;clear aq
  have H' := zm H
  clear H
  go_wp2_with (first|((with_reducible refine gate_dst (N:=23) rfl ?_);(try (refine gate_guard (by rfl) ?_;dsimp only));refine Kd.R_lit (Kd.int .i64) _ 2 ?hg (N:=23) ?hd (xs:=([] : List Int)) (inner := []) (ok:=fun _=>True) (okp:=fun _=>True) ?hr ?hp (fun _ hk=>hk) trivial (Below.refl _ _) (Nat.le_refl _) (by simp) ?_;(case hd=>rfl);(case hg=>rfl);(case hr=>first|(go_simp;done)|(go_simp;rfl));(case hp=>exact (Reps.none _ _));intro aV w7 ho8 hb hg_ hnew_;clear hg_ hnew_;(first|rw [← ax.out] at ho8|(simp only [Int.reduceToNat] at ho8;rw [← ax.out] at ho8));have ay:=zm (Kd.R_lower (Kd.R_newM (M:=fun k_=>(w.heap.size≤k_)) ho8 (zE yhb) (fun k_ h_=>h_)) (zE yhb));replace HB:=ybs hb;clear hb ho8)|((with_reducible refine gate_builtin (b:=.append) (xs := #[.tmp 23, .tmp 24]) rfl ?_);(try (refine gate_guard (by rfl) ?_;dsimp only));at_builtin;refine Kd.R_append_rows (Kd.int .i64) (w0:=w) w.heap.size rfl (.tmp 23) (.tmp 24) 53 2 (.int .i64 0) 8 rfl Try.underlying53 info2 rfl (by decide) (by omega) aV ai l0 _ _ _ (fun k_=>(w.heap.size≤k_)) (fun _=>False) rfl rfl ?aO ?aR (fun _ _ h=>h) (fun _ h=>h.elim) ?aF ?aB ?aS ?aL ?_;(case aR=>exact ycb HR0);(case aB=>exact yhb);(case aF=>exact (fun k_ hk=>(Nat.le_trans (zE yhb) hk)));(case aO=>exact (yR0 ay));(case aS=>exact (zE yhb));(case aL=>have:=LMc6.out;omega);intro aW w9 ho hb hg hat;rw [← aH.out] at ho;replace HB:=zm (hb);have aI:=zm (ho);clear ay;clear ho hb hg hat))
  go_loopg [7,26] kj2 (fun kq v7 v26 w' => ∃ (aj : List (List Int)) (ac : Int),v26=.int .i64 ac∧Aside0 (band_Split.l0 kq ag aj ac=some (r1,r2))∧Aside0 (kq≤kj2)∧Aside0 (Kd.R (Kd.int .i64) 2 w' w.heap.size (fun k_=>(w.heap.size≤k_)) aW ag)∧Aside0 (Kd.N (Kd.slice 2 (Kd.int .i64)) 53 w' w.heap.size (fun k_=>(w.heap.size≤k_)) v7 aj)∧Aside0 (Below w.heap.size w w'))
  case atStart=>exact ⟨(([] : List (List Int))),(0),yq,H',⟨Nat.le_refl _⟩,⟨yr aI⟩,⟨yn⟩,⟨yhb⟩⟩
  case round =>
   clear H'
   obtain ⟨aj,ac,rfl,HA,HK2,ah,ak,HB⟩:=hrel
   obtain ⟨k2,rfl⟩:=ysu gk (fun h=>by subst h;exact absurd HA.out (by simp [band_Split.l0]))
   have H:=HA.out;clear HA
   simp only [band_Split.l0] at H
   by_cases c10 : ac < 5
   ·
    rw [if_pos c10] at H
    have aJ:=yD c10
    clear c10
    replace H:=ybi H;obtain ⟨aa,A11,H⟩:=H
    replace H:=ybi H;obtain ⟨ae,A12,H⟩:=H
    replace H:=yif H;obtain ⟨c13,H⟩:=H
    have aZ:=eq_true c13
    have a7 : decide (0≤aa)=true:=decide_eq_true c13
    clear c13
    replace H:=yif H;obtain ⟨c14,H⟩:=H
    have a8:=eq_true c14
    have a9 : decide (aa≤(wrap64 (aa+ae)))=true:=decide_eq_true c14
    replace H:=yif H;obtain ⟨c15,H⟩:=H
    have ba:=eq_true c15
    have bb : decide ((wrap64 (aa+ae))≤(ag.length : Int))=true:=decide_eq_true c15
    obtain ⟨af,au⟩ : ∃ y_ : List Int,y_=((ag.take ((wrap64 (aa+ae)) : Int).toNat).drop (aa : Int).toNat):=⟨_,rfl⟩
    replace H : (if aj.length < 5864062014805 then (band_Split.l0 k2 ag (aj ++ [af]) (wrap64 (ac+1))) else (none))=some (r1,r2):=yrw au H
    have az:=zm au;clear au
    replace H:=yif H;obtain ⟨c16,H⟩:=H
    have LMc16:=zm c16;clear c16
    obtain ⟨aK,av⟩ : ∃ y_ : List (List Int),y_=(aj ++ [af]):=⟨_,rfl⟩
    replace H : (band_Split.l0 k2 ag aK (wrap64 (ac+1)))=some (r1,r2):=yrw av H
    have aM:=zm av;clear av
    have H' := zm H
    clear H
    go_wp2_with (first|((with_reducible refine gate_callee (f:=77) rfl ?_);refine ygl 30 Try.func77 #[.int .i64 ac] ?_;(with_reducible refine (band_From.calls ac aa _ A11.out).mono ?_);rintro e w' ⟨rfl,⟨nd,rfl⟩⟩;refine ⟨_,rfl, ?_⟩)|((with_reducible refine gate_callee (f:=48) rfl ?_);refine ygl 32 Try.func48 #[.int .i64 ac] ?_;(with_reducible refine (band_Width.calls ac ae _ A12.out).mono ?_);rintro e w17 ⟨rfl,hb⟩;refine ⟨_,rfl, ?_⟩;replace ah:=yRb ah hb;replace ak:=yNb ak hb;replace HB:=ybs hb;(try clear hb);obtain ⟨aw,aN,aX⟩:=Kd.R_slice ah.out;subst aX;have q18 : ((wrap64 (aa+ae)) : Int)≤((ag.length : Int) : Int):=yt;obtain ⟨i018,aA,_,hsz18,_⟩:=info_parts info2;have hroom18 : ag.length≤aN:=(Kd.R_reads' ah.out).2.1;have hC18 : Kd.F (Kd.int .i64) _ _ aw ag.length ag:=(Kd.V_at (base:=w.heap.size) (Kd.R_V (Kd.R_apart' (ah.out) (Kd.N_typed ak.out) (by decide)))).2.2;have ql18 : (aa : Int)≤((wrap64 (aa+ae)) : Int):=yt;have aY : (0 : Int)≤(aa : Int):=yt;have hcut18:=band_Split.cut3 (P:=Try.prog) 53 2 .i64 .i64 .i64 Try.underlying53 aA 1 hsz18 aw ag.length aN aa (wrap64 (aa+ae)) aY ql18 (by omega);have hr18:=Kd.F_cut (m:=(aa : Int).toNat) (c:=((wrap64 (aa+ae)) : Int).toNat) (Kd.F_take (m:=((wrap64 (aa+ae)) : Int).toNat) hC18 (by omega)) (by rw [List.length_take];omega) (by rw [List.length_take];omega);obtain ⟨A18,hA18⟩ : ∃ A1,A1=(if ((wrap64 (aa+ae)) : Int).toNat=(aa : Int).toNat then aw else (aw : Option Addr).map (·.add ((aa : Int).toNat * 1))):=⟨_,rfl⟩;have aC : af.length=((wrap64 (aa+ae)) : Int).toNat - (aa : Int).toNat:=(by rw [az.out,List.length_drop,List.length_take] <;> omega);rw [show ((ag).take ((wrap64 (aa+ae)) : Int).toNat).drop (aa : Int).toNat=af from az.out.symm] at hr18;replace hr18 : Kd.F (Kd.int .i64) _ _ A18 af.length af:=(by rw [hA18];exact hr18);rw [← aC, ← hA18] at hcut18;have am:=zm (show Kd.V (Kd.int .i64) 2 _ w.heap.size _ (.slice A18 af.length af.length) af from Kd.V_mk (Nat.le_refl _) hr18);have bc:=zm (show af.length≤af.length from Nat.le_refl _);clear hr18 hC18 hroom18 aA hsz18;have KY18:=zm aC;have KA18:=zm hA18;clear aC hA18;replace q18:=eq_true q18)|((with_reducible refine gate_builtin (b:=.append) (xs := #[.tmp 33, .tmp 43]) rfl ?_);(try (refine gate_guard (by rfl) ?_;dsimp only));at_builtin;refine Kd.N_append (Kd.slice 2 (Kd.int .i64)) (w0:=w) w.heap.size rfl (.tmp 33) (.tmp 43) 22 53 (.slice none 0 0) 24 rfl Try.underlying22 info53 rfl (by decide) (by omega) u7 aj af [.slice A18 af.length af.length] (fun k_=>(w.heap.size≤k_)) (fun k_=>((fun k_=>(w.heap.size≤k_))) k_∧some k_≠(u7 : Value).ownBlock) rfl rfl ?aP (fun _ hk=>hk) ?aF ?aO ?aB ?aS ?aL ?_;(case aP=>exact (Kd.FK_slice_mk (Kd.V_reads' (zy (ok' := (fun k_=>((fun k_=>(w.heap.size≤k_))) k_∧some k_≠(u7 : Value).ownBlock)) (am.out) (fun k_ hk=>⟨hk.1,hk.2⟩))).2.1 (Kd.V_F (zy (ok' := (fun k_=>((fun k_=>(w.heap.size≤k_))) k_∧some k_≠(u7 : Value).ownBlock)) (am.out) (fun k_ hk=>⟨hk.1,hk.2⟩)))));(case aB=>exact yhb);(case aF=>exact (fun k_ hk=>(Nat.le_trans (zE yhb) hk)));(case aO=>exact (yr ak));(case aS=>exact (zE yhb));(case aL=>have:=LMc16.out;omega);intro bd w20 ho hb hg hat;rw [← aM.out] at ho;replace ah:=zm (Kd.R_over' (yr ah) (Kd.N_typed (yr ak)) (by decide) hg);replace am:=zm (Kd.V_afterv (ok:=(fun k_=>(w.heap.size≤k_))) (yr am) hg hat);replace HB:=zm (hb);have aQ:=zm (ho);clear ak;clear ho hb hg hat))
    go_roundg k2
    case measure=>exact yom2 HJ2 HK2
    case rel=>exact ⟨(aK),(wrap64 (ac+1)),yq,H',⟨yom2 HJ2 HK2⟩,⟨yr ah⟩,⟨yr aQ⟩,⟨yhb⟩⟩
   rw [if_neg c10] at H
   have aJ:=yG c10
   clear c10
   simp only [Option.some.injEq,Prod.mk.injEq] at H
   obtain ⟨rfl,rfl⟩:=H
   go_wp2
   go_ret2
   exact ⟨_,ye,yr ak,yhb⟩
def band_Gains.l0 : Nat→List Int→List (List Int)→Int→Int→Option (List Int × Int)
 | 0,_,_,_,_=>none
 | k+1,x6,x19,x20,x21=>if x21 < x20 then (if 0≤x21 then (if x21 < (x19.length : Int) then ((band_Gain.f k (rd_L1 x19 x21)).bind fun aC=>(if x6.length < 17592186044416 then (band_Gains.l0 k (x6 ++ [aC.1]) x19 x20 (wrap64 (x21+1))) else (none))) else (none)) else (none)) else (some (x6,0))
def band_Gains.f (k : Nat) (l0 : List Int) : Option (List Int × Int):=(band_Split.f k l0).bind fun ag=>(if ag.2=0 then (band_Gains.l0 k ([] : List Int) ag.1 (ag.1.length : Int) 0) else (some (([] : List Int),ag.2)))
theorem band_Gains.mono_l : ∀ k,(∀ y0 y1 y2 y3,LeO (band_Gains.l0 k y0 y1 y2 y3) (band_Gains.l0 (k+1) y0 y1 y2 y3))
 | 0=>fun _ _ _ _ r h=>by simp [band_Gains.l0] at h
 | k+1=>by
  have ih0:=band_Gains.mono_l k
  ·
   intro y0 y1 y2 y3
   unfold band_Gains.l0
   repeat' with_reducible first|apply ih0|apply band_Gain.mono|apply band_Split.mono|apply yLr|apply yLn|apply yLi|apply yLb|intro _
theorem band_Gains.mono : ∀ a0 k,LeO (band_Gains.f k a0) (band_Gains.f (k+1) a0):=by
 intro a0 k
 have ih0:=band_Gains.mono_l k
 unfold band_Gains.f
 repeat' with_reducible first|apply ih0|apply band_Gain.mono|apply band_Split.mono|apply yLr|apply yLn|apply yLi|apply yLb|intro _
set_option maxHeartbeats 8000000 in
set_option maxRecDepth 100000 in
theorem band_Gains.calls (k : Nat) (A0 : Option Addr) (c0 : Nat) (l0 : List Int) (r1 : List Int) (r2 : Int) (w : World) (hr0 : Kd.C (Kd.int .i64) w A0 l0.length l0) (hc0 : l0.length≤c0) (h : band_Gains.f k l0=some (r1,r2)) :
  Calls Try.prog 36 #[.slice A0 l0.length c0] w fun e w' => ∃ v0_ : Value,e=.returned (.tuple #[v0_, .int .i64 r2])∧Kd.R (Kd.int .i64) 3 w' w.heap.size (fun _=>True) v0_ r1∧Below w.heap.size w w' := by
 have HR0:=zm hr0;have HC0:=zm hc0;clear hr0 hc0;have HB:=zm (Below.refl w.heap.size w);have H:=h
 unfold band_Gains.f at H
 clear h
 replace H:=ybi H;obtain ⟨⟨ac,ax⟩,A2,H⟩:=H
 try dsimp only at H
 by_cases c3 : ax=0
 ·
  rw [if_pos c3] at H
  obtain ⟨aD,aE⟩:=yE c3
  clear c3
  have H' := zm H
  clear H
  go_enter Try.func36,Try.ntmps36
  go_wp2_with (first|((with_reducible refine gate_callee (f:=38) rfl ?_);refine ygl 13 Try.func38 #[.slice A0 l0.length c0] ?_;(with_reducible refine (band_Split.calls k _ _ l0 ac ax _ ?af HC0.out A2.out).mono ?_);(case af=>exact yce HR0.out);rintro e w4 ⟨aK,rfl,ho0,hb⟩;refine ⟨_,rfl, ?_⟩;have ak:=zm (Kd.N_lower (Kd.N_mono (ok' := fun k_=>True) ho0 (fun k_ hk_=>trivial)) (zE yhb));replace HB:=ybs hb;(try clear hb);(try clear ho0);obtain ⟨Ao5,co5,eo5⟩:=Kd.N_slice ak.out;subst eo5))
  go_loopg [6,21] k (fun kq v6 v21 w' => ∃ (al : List Int) (aa : Int),v21=.int .i64 aa∧Aside0 (band_Gains.l0 kq al ac (ac.length : Int) aa=some (r1,r2))∧Aside0 (kq≤k)∧Aside0 (Kd.R (Kd.int .i64) 3 w' w.heap.size (fun _=>True) v6 al)∧Aside0 (Kd.N (Kd.slice 2 (Kd.int .i64)) 53 w' w.heap.size (fun k_=>some k_≠(v6 : Value).ownBlock) (.slice Ao5 ac.length co5) ac)∧Aside0 (Below w.heap.size w w'))
  case atStart=>exact ⟨(([] : List Int)),(0),yq,H',⟨Nat.le_refl _⟩,⟨yn⟩,⟨yN0 ak⟩,⟨yhb⟩⟩
  case round =>
   clear H'
   try clear aD
   try clear aE
   obtain ⟨al,aa,rfl,HA,HK1,ay,ae,HB⟩:=hrel
   obtain ⟨k1,rfl⟩:=ysu gk (fun h=>by subst h;exact absurd HA.out (by simp [band_Gains.l0]))
   have H:=HA.out;clear HA
   simp only [band_Gains.l0] at H
   by_cases c6 : aa < (ac.length : Int)
   ·
    rw [if_pos c6] at H
    have aM:=yD c6
    clear c6
    replace H:=yif H;obtain ⟨c7,H⟩:=H
    have aT : decide (0≤aa)=true:=decide_eq_true c7
    clear c7
    replace H:=yif H;obtain ⟨c8,H⟩:=H
    have aU : decide (aa < (ac.length : Int))=true:=decide_eq_true c8
    clear c8
    replace H:=ybi H;obtain ⟨⟨ao,aN⟩,A9,H⟩:=H
    try dsimp only at H
    replace H:=yif H;obtain ⟨c10,H⟩:=H
    have LMc10:=zm c10;clear c10
    obtain ⟨aG,am⟩ : ∃ y_ : List Int,y_=(al ++ [ao]):=⟨_,rfl⟩
    replace H : (band_Gains.l0 k1 aG ac (ac.length : Int) (wrap64 (aa+1)))=some (r1,r2):=yrw am H
    have aH:=zm am;clear am
    have H' := zm H
    clear H
    have ap : 0≤(aa : Int):=yt
    have aq : aa < (ac.length : Int):=yt
    obtain ⟨aI,az,aA,aQ,au,ah,ai⟩:=at_L1 (Kd.N_reads' ae.out).2.2 aa ap aq
    cases aQ
    obtain ⟨ce143,hce143,hMe143,hcc143⟩:=Kd.N_get ae.out [] aa ap (by first|exact aq|exact yt|(have e_:=(Kd.N_reads' ae.out).1;omega))
    obtain ⟨ua143_0,uc143_0,rfl,ul143_0,ge143_0⟩:=Kd.FK_slice_open hMe143
    have hv143_0:=hcc143 0 _ rfl
    rw [Nat.add_zero,show ((Kd.slice 2 (Kd.int .i64))).sz=1 from rfl,Nat.mul_one] at hv143_0
    replace hv143_0:=Option.some.inj (hv143_0.symm.trans au)
    injection hv143_0 with hva_ hvn_ hvc_
    rw [hva_] at ge143_0
    rw [hvc_] at ul143_0
    have aj:=zm (show Kd.V (Kd.int .i64) 2 _ w.heap.size _ _ (rd_L1 ac aa) from Kd.V_mk ul143_0 ge143_0)
    clear hva_ hvn_ hvc_ ge143_0 ul143_0 hcc143 hce143;have av:=zm ai;have aw:=zm ah;clear ai ah
    replace ap:=eq_true ap
    replace aq:=eq_true aq
    go_wp2_with (first|((with_reducible refine gate_callee (f:=71) rfl ?_);refine ygl 27 Try.func71 #[.slice az (rd_L1 ac aa).length aA] ?_;(with_reducible refine (band_Gain.calls k1 _ _ (rd_L1 ac aa) ao aN _ ?af aw.out A9.out).mono ?_);(case af=>exact yce (yrc av));rintro e w' ⟨rfl,⟨nd,rfl⟩⟩;refine ⟨_,rfl, ?_⟩)|((with_reducible refine gate_builtin (b:=.append) (xs := #[.tmp 30, .tmp 32]) rfl ?_);at_builtin;refine Kd.R_append (Kd.int .i64) (w0:=w) w.heap.size rfl (.tmp 30) (.tmp 32) 55 3 (.int .i64 0) 8 rfl Try.underlying55 info3 rfl (by decide) (by omega) u6 al ao [.int .i64 ao] (fun _=>True) (fun _=>False) rfl rfl ?aP (fun _ hk=>hk.elim) ?aF ?aO ?aB ?aS ?aL ?_;(case aP=>exact rfl);(case aB=>exact yhb);(case aF=>exact (fun _ _=>trivial));(case aO=>exact (yr ay));(case aS=>exact (zE yhb));(case aL=>have:=LMc10.out;omega);intro aV w11 ho hb hg hat;rw [← aH.out] at ho;replace ae:=zm (Kd.N_afterv (ok:=(fun _=>True)) (yN0 ae) hg hat);replace aj:=zm (Kd.V_afterv (ok:=(fun k_=>some k_≠(.slice (some aI) ac.length co5 : Value).ownBlock)) (yV0 aj) hg hat);replace HB:=zm (hb);have aJ:=zm (ho);clear ay;clear ho hb hg hat))
    go_roundg k1
    case measure=>exact yom1 HK1
    case rel=>exact ⟨(aG),(wrap64 (aa+1)),yq,H',⟨yom1 HK1⟩,⟨yr aJ⟩,⟨yN0 ae⟩,⟨yhb⟩⟩
   rw [if_neg c6] at H
   have aM:=yG c6
   clear c6
   simp only [Option.some.injEq,Prod.mk.injEq] at H
   obtain ⟨rfl,rfl⟩:=H
   go_wp2
   go_ret2
   exact ⟨_,ye,yr ay,yhb⟩
 rw [if_neg c3] at H
 obtain ⟨aD,aE⟩:=yF c3
 simp only [Option.some.injEq,Prod.mk.injEq] at H
 obtain ⟨rfl,rfl⟩:=H
 go_enter Try.func36,Try.ntmps36
 go_wp2_with (first|((with_reducible refine gate_callee (f:=38) rfl ?_);refine ygl 13 Try.func38 #[.slice A0 l0.length c0] ?_;(with_reducible refine (band_Split.calls k _ _ l0 ac ax _ ?af HC0.out A2.out).mono ?_);(case af=>exact yce HR0.out);rintro e w12 ⟨aK,rfl,ho0,hb⟩;refine ⟨_,rfl, ?_⟩;have ak:=zm (Kd.N_lower (Kd.N_mono (ok' := fun k_=>True) ho0 (fun k_ hk_=>trivial)) (zE yhb));replace HB:=ybs hb;(try clear hb);(try clear ho0)))
 go_ret2
 exact ⟨_,ye,yn,yhb⟩
mutual
def ccodec_Right.j0 : Nat→Bool→List (List Int)→Option (Bool)
 | 0,_,_=>none
 | k+1,x21,ap=>if x21=true then (some false) else (ccodec_Right.l0 k ap (ap.length : Int) 0)
def ccodec_Right.l0 : Nat→List (List Int)→Int→Int→Option (Bool)
 | 0,_,_,_=>none
 | k+1,x23,x24,x25=>if x25 < x24 then (if 0≤x25 then (if x25 < (x23.length : Int) then ((band_Split.f k (rd_L1 x23 x25)).bind fun aG=>(if aG.2=0 then (ccodec_Right.l0 k x23 x24 (wrap64 (x25+1))) else (some false))) else (none)) else (none)) else (some true)
end
def ccodec_Right.f (k : Nat) (a0 : Int) (a1 : Int) (ac : List (List Int)) : Option (Bool):=(alloc_Right.f a0 a1).bind fun aC=>(if aC=true then (ccodec_Right.j0 k ((ac.length : Int) != a1) ac) else (ccodec_Right.j0 k true ac))
theorem ccodec_Right.mono_l : ∀ k,(∀ y0 y1,LeO (ccodec_Right.j0 k y0 y1) (ccodec_Right.j0 (k+1) y0 y1))∧(∀ y0 y1 y2,LeO (ccodec_Right.l0 k y0 y1 y2) (ccodec_Right.l0 (k+1) y0 y1 y2))
 | 0=>⟨fun _ _ r h=>by simp [ccodec_Right.j0] at h,fun _ _ _ r h=>by simp [ccodec_Right.l0] at h⟩
 | k+1=>by
  obtain ⟨ih0,ih1⟩:=ccodec_Right.mono_l k
  refine ⟨?_, ?_⟩
  ·
   intro y0 y1
   unfold ccodec_Right.j0
   repeat' with_reducible first|apply ih0|apply ih1|apply band_Split.mono|apply yLr|apply yLn|apply yLi|apply yLb|intro _
  intro y0 y1 y2
  unfold ccodec_Right.l0
  repeat' with_reducible first|apply ih0|apply ih1|apply band_Split.mono|apply yLr|apply yLn|apply yLi|apply yLb|intro _
theorem ccodec_Right.mono : ∀ a0 a1 a2 k,LeO (ccodec_Right.f k a0 a1 a2) (ccodec_Right.f (k+1) a0 a1 a2):=by
 intro a0 a1 a2 k
 obtain ⟨ih0,ih1⟩:=ccodec_Right.mono_l k
 unfold ccodec_Right.f
 repeat' with_reducible first|apply ih0|apply ih1|apply band_Split.mono|apply yLr|apply yLn|apply yLi|apply yLb|intro _
set_option maxHeartbeats 8000000 in
set_option maxRecDepth 100000 in
theorem ccodec_Right.calls (k : Nat) (a0 : Int) (a1 : Int) (av : Option Addr) (aw : Nat) (ac : List (List Int)) (r : Bool) (w : World) (hr2_0 : Kd.C (Kd.slice 2 (Kd.int .i64)) w av ac.length ac) (hc2_0 : ac.length≤aw) (h : ccodec_Right.f k a0 a1 ac=some r) :
  Calls Try.prog 20 #[.int .i64 a0, .int .i64 a1, .agg #[.slice av ac.length aw]] w fun e w' => e=.returned (.bool r)∧Below w.heap.size w w' := by
 have hu24:=Try.underlying24;have aA:=zm hr2_0;have aT:=zm hc2_0;clear hr2_0 hc2_0;have HB:=zm (Below.refl w.heap.size w);have H:=h
 unfold ccodec_Right.f at H
 clear h;have HC4:=zm H;clear H
 go_enter Try.func20,Try.ntmps20
 go_upto_region 1 with (first|((with_reducible refine gate_dst (N:=5) rfl ?_);(try (refine gate_guard (by rfl) ?_;dsimp only));refine ybx 5 #[.slice av ac.length aw] 24 ?_;intro aq hg w5 hbox hb;have ae:=zm (hbox);have aU:=ygw hg;have aV:=ygw hg;replace HB:=ybs hb;clear hb hbox hg))
 (try simp only [Act.put,List.setIfInBounds_toArray,List.set_cons_zero,List.set_cons_succ])
 go_cut [21] (fun v21 wc => ∃ (kq : Nat) (au : Bool),v21=.bool au∧Aside0 (ccodec_Right.j0 kq au ac=some r)∧Aside0 (kq≤k)∧Aside0 (wc.heap[aq]? = some (.cells #[(.slice av ac.length aw)] 24 (0,0)))∧Aside0 (Below w.heap.size w wc))
 case first =>
  have H:=HC4.out;clear HC4
  replace H:=ybi H;obtain ⟨aC,A6,H⟩:=H
  by_cases c7 : aC=true
  ·
   subst c7
   rw [if_pos rfl] at H
   have H' := zm H
   clear H
   go_wp2_with (first|((with_reducible refine gate_callee (f:=52) rfl ?_);refine ygl 13 Try.func52 #[.int .i64 a0, .int .i64 a1] ?_;(with_reducible refine (alloc_Right.calls a0 a1 true _ A6.out).mono ?_);rintro e w' ⟨rfl,⟨nd,rfl⟩⟩;refine ⟨_,rfl, ?_⟩;obtain ⟨_,_⟩:=yc1 ae))
   go_meet
   case rel=>exact ⟨_,(((ac.length : Int) != a1)),yq,H',⟨yo⟩,⟨yk ae⟩,⟨yhb⟩⟩
  replace c7:=Bool.eq_false_iff.mpr c7
  subst c7
  rw [ynf] at H
  have H' := zm H
  clear H
  go_wp2_with (first|((with_reducible refine gate_callee (f:=52) rfl ?_);refine ygl 13 Try.func52 #[.int .i64 a0, .int .i64 a1] ?_;(with_reducible refine (alloc_Right.calls a0 a1 false _ A6.out).mono ?_);rintro e w' ⟨rfl,⟨nd,rfl⟩⟩;refine ⟨_,rfl, ?_⟩))
  go_meet
  case rel=>exact ⟨_,(true),yq,H',⟨yo⟩,⟨yk ae⟩,⟨yhb⟩⟩
 case rest =>
  clear HC4
  obtain ⟨kq,au,rfl,HA,HJ3,ae,HB⟩:=hcut
  obtain ⟨kj3,rfl⟩:=ysu kq (fun h=>by subst h;exact absurd HA.out (by simp [ccodec_Right.j0]))
  have H:=HA.out;clear HA
  simp only [ccodec_Right.j0] at H
  by_cases c9 : au=true
  ·
   subst c9
   rw [if_pos rfl] at H
   obtain rfl:=Option.some.inj H
   go_wp2
   go_ret
   exact ⟨ye,yhb⟩
  replace c9:=Bool.eq_false_iff.mpr c9
  subst c9
  rw [ynf] at H
  have H' := zm H
  clear H
  obtain ⟨ay,az⟩:=yc1 ae
  go_wp2
  go_loopg [25] kj3 (fun kq v25 w' => ∃ (aa : Int),v25=.int .i64 aa∧Aside0 (ccodec_Right.l0 kq ac (ac.length : Int) aa=some r)∧Aside0 (kq≤kj3)∧Aside0 (w'.heap[aq]? = some (.cells #[(.slice av ac.length aw)] 24 (0,0)))∧Aside0 (Below w.heap.size w w'))
  case atStart=>exact ⟨(0),yq,H',⟨Nat.le_refl _⟩,⟨yk ae⟩,⟨yhb⟩⟩
  case round =>
   clear H'
   try clear ay
   try clear az
   obtain ⟨aa,rfl,HA,HK2,ae,HB⟩:=hrel
   obtain ⟨k2,rfl⟩:=ysu gk (fun h=>by subst h;exact absurd HA.out (by simp [ccodec_Right.l0]))
   have H:=HA.out;clear HA
   simp only [ccodec_Right.l0] at H
   by_cases c11 : aa < (ac.length : Int)
   ·
    rw [if_pos c11] at H
    have aH:=yD c11
    clear c11
    replace H:=yif H;obtain ⟨c12,H⟩:=H
    have aW : decide (0≤aa)=true:=decide_eq_true c12
    clear c12
    replace H:=yif H;obtain ⟨c13,H⟩:=H
    have aX : decide (aa < (ac.length : Int))=true:=decide_eq_true c13
    clear c13
    replace H:=ybi H;obtain ⟨⟨aI,aD⟩,A14,H⟩:=H
    try dsimp only at H
    by_cases c15 : aD=0
    ·
     rw [if_pos c15] at H
     obtain ⟨aJ,aK⟩:=yE c15
     clear c15
     have H' := zm H
     clear H
     have ak : 0≤(aa : Int):=yt
     have al : aa < (ac.length : Int):=yt
     obtain ⟨aM,am,ao,aE,af,ag,ah⟩:=at_L1 aA.out aa ak al
     cases aE
     replace af:=yhx HB af
     have ai:=zm ah;have aj:=zm ag;clear ah ag
     replace ak:=eq_true ak
     replace al:=eq_true al
     go_wp2_with (first|((with_reducible refine gate_callee (f:=38) rfl ?_);refine ygl 31 Try.func38 #[.slice am (rd_L1 ac aa).length ao] ?_;(with_reducible refine (band_Split.calls k2 _ _ (rd_L1 ac aa) aI aD _ ?ax aj.out A14.out).mono ?_);(case ax=>exact ycb ai);rintro e w16 ⟨aQ,rfl,ho0,hb⟩;refine ⟨_,rfl, ?_⟩;have aN:=zm (Kd.N_lower (Kd.N_mono (ok' := fun k_=>k_≠aq) ho0 (fun k_ hk_=>(Kd.freshB (yk ae) k_ hk_))) (zE yhb));replace ae:=ybb ae hb;replace HB:=ybs hb;(try clear hb);(try clear ho0)))
     go_roundg k2
     case measure=>exact yom2 HJ3 HK2
     case rel=>exact ⟨(wrap64 (aa+1)),yq,H',⟨yom2 HJ3 HK2⟩,⟨yk ae⟩,⟨yhb⟩⟩
    rw [if_neg c15] at H
    obtain ⟨aJ,aK⟩:=yF c15
    obtain rfl:=Option.some.inj H
    have ak : 0≤(aa : Int):=yt
    have al : aa < (ac.length : Int):=yt
    obtain ⟨aM,am,ao,aE,af,ag,ah⟩:=at_L1 aA.out aa ak al
    cases aE
    replace af:=yhx HB af
    have ai:=zm ah;have aj:=zm ag;clear ah ag
    replace ak:=eq_true ak
    replace al:=eq_true al
    go_wp2_with (first|((with_reducible refine gate_callee (f:=38) rfl ?_);refine ygl 31 Try.func38 #[.slice am (rd_L1 ac aa).length ao] ?_;(with_reducible refine (band_Split.calls k2 _ _ (rd_L1 ac aa) aI aD _ ?ax aj.out A14.out).mono ?_);(case ax=>exact ycb ai);rintro e w17 ⟨aQ,rfl,ho0,hb⟩;refine ⟨_,rfl, ?_⟩;have aN:=zm (Kd.N_lower (Kd.N_mono (ok' := fun k_=>k_≠aq) ho0 (fun k_ hk_=>(Kd.freshB (yk ae) k_ hk_))) (zE yhb));replace ae:=ybb ae hb;replace HB:=ybs hb;(try clear hb);(try clear ho0)))
    go_ret
    exact ⟨ye,yhb⟩
   rw [if_neg c11] at H
   have aH:=yG c11
   clear c11
   obtain rfl:=Option.some.inj H
   go_wp2
   go_ret
   exact ⟨ye,yhb⟩
def pvq_above.f (ac : Int) (ah : Int) (ae : Int) (ai : Int) : Option (Bool):=some (decide ((wrap64 ((wrap64 (ac * ac)) * ai)) > (wrap64 ((wrap64 (ae * ae)) * ah))))
set_option maxHeartbeats 8000000 in
set_option maxRecDepth 100000 in
theorem pvq_above.calls (ac : Int) (ah : Int) (ae : Int) (ai : Int) (r : Bool) (w : World) (h : pvq_above.f ac ah ae ai=some r) :
  Calls Try.prog 115 #[.agg #[.int .i64 ac, .int .i64 ah], .agg #[.int .i64 ae, .int .i64 ai]] w fun e w' => e=.returned (.bool r)∧Below w.heap.size w w' := by
 have hu117:=Try.underlying117;have HB:=zm (Below.refl w.heap.size w);have H:=h
 unfold pvq_above.f at H
 clear h
 obtain rfl:=Option.some.inj H
 go_enter Try.func115,Try.ntmps115
 go_wp2_with (first|((with_reducible refine gate_dst (N:=2) rfl ?_);refine ybx 2 #[.int .i64 ac, .int .i64 ah] 117 ?_;intro ak hg w3 hbox hb;have aa:=zm (hbox);have al:=ygw hg;have am:=ygw hg;replace HB:=ybs hb;clear hb hbox hg)|((with_reducible refine gate_dst (N:=3) rfl ?_);refine ybx 3 #[.int .i64 ae, .int .i64 ai] 117 ?_;intro ao hg w4 hbox hb;have aj:=zm (hbox);have ap:=ygw hg;have aq:=ygw hg;replace HB:=ybs hb;have af:=ynl aa hg;have ag:=yng aa hg;replace aa:=ybb aa hb;clear hb hbox hg;have:=af.out;have:=ag.out;obtain ⟨_,_,_,_⟩:=yc2 aa;obtain ⟨_,_,_,_⟩:=yc2 aj))
 go_ret
 exact ⟨ye,yhb⟩
def pvq_best.l0 : Nat→List (S117)→Int→Int→Int→Option (Int)
 | 0,_,_,_,_=>none
 | k+1,x0,x3,x7,x8=>if x8 < x7 then (if 0≤x8 then (if x8 < (x0.length : Int) then (if 0≤x3 then (if x3 < (x0.length : Int) then (if (!(((rd_T117 x0 x8).f0) == ((rd_T117 x0 x3).f0)) || (!(((rd_T117 x0 x8).f1) == ((rd_T117 x0 x3).f1))))=true then ((pvq_above.f ((rd_T117 x0 x8).f0) ((rd_T117 x0 x8).f1) ((rd_T117 x0 x3).f0) ((rd_T117 x0 x3).f1)).bind fun aH=>(if aH=true then (pvq_best.l0 k x0 x8 x7 (wrap64 (x8+1))) else (pvq_best.l0 k x0 x3 x7 (wrap64 (x8+1))))) else (pvq_best.l0 k x0 x3 x7 (wrap64 (x8+1)))) else (none)) else (none)) else (none)) else (none)) else (some x3)
def pvq_best.f (k : Nat) (l0 : List (S117)) : Option (Int):=pvq_best.l0 k l0 0 (l0.length : Int) 0
theorem pvq_best.mono_l : ∀ k,(∀ y0 y1 y2 y3,LeO (pvq_best.l0 k y0 y1 y2 y3) (pvq_best.l0 (k+1) y0 y1 y2 y3))
 | 0=>fun _ _ _ _ r h=>by simp [pvq_best.l0] at h
 | k+1=>by
  have ih0:=pvq_best.mono_l k
  ·
   intro y0 y1 y2 y3
   unfold pvq_best.l0
   repeat' with_reducible first|apply ih0|apply yLr|apply yLn|apply yLi|apply yLb|intro _
theorem pvq_best.mono : ∀ a0 k,LeO (pvq_best.f k a0) (pvq_best.f (k+1) a0):=by
 intro a0 k
 have ih0:=pvq_best.mono_l k
 unfold pvq_best.f
 repeat' with_reducible first|apply ih0|apply yLr|apply yLn|apply yLi|apply yLb|intro _
def pvq_best.T6 : Bool × List (List Nat × List Nat):=(true, [([], []),([], []),([0,1], [0,1]),([2], [2]),([], []),([], []),([4,5], [4,5]),([6], [6]),([3,7], [3,7]),([8], [8]),([9], [9]),([9], [9]),([9], [9]),([11,12,9], [9,11,12]),([13,9], [9,13]),([9], [9]),([9], [9]),([15,16,9], [9,15,16]),([17,9], [9,17]),([10,14,18,9,9], [9,10,14,18]),([9,19], [9,19])])
def pvq_best.B6 : List Nat := [0,0,3,7,0,0,48,112,255,511,1023,1023,1023,7167,15359,1023,1023,99327,230399,524287,1048575]
theorem pvq_best.tab6 : rtab .any (opsOf Try.f81 6)=pvq_best.T6:=by kernel_rfl
theorem pvq_best.bits6 : waitsOk pvq_best.T6.2 pvq_best.B6=true:=by kernel_rfl
set_option maxHeartbeats 8000000 in
set_option maxRecDepth 100000 in
theorem pvq_best.calls (k : Nat) (A0 : Option Addr) (c0 : Nat) (l0 : List (S117)) (r : Int) (w : World) (hr0 : Kd.C k117 w A0 l0.length l0) (hc0 : l0.length≤c0) (h : pvq_best.f k l0=some r) :
  Calls Try.prog 81 #[.slice A0 l0.length c0] w fun e w' => e=.returned (.int .i64 r)∧Below w.heap.size w w' := by
 have hu117:=Try.underlying117;have HR0:=zm hr0;have HC0:=zm hc0;clear hr0 hc0;have HB:=zm (Below.refl w.heap.size w);have H:=h
 unfold pvq_best.f at H
 clear h
 have H' := zm H
 clear H
 go_enter Try.func81,Try.ntmps81
 go_wp2
 go_loopg [3,8] k (fun kq v3 v8 w' => ∃ (ac : Int) (aa : Int),v3=.int .i64 ac∧v8=.int .i64 aa∧Aside0 (pvq_best.l0 kq l0 ac (l0.length : Int) aa=some r)∧Aside0 (kq≤k)∧Aside0 (Below w.heap.size w w'))
 case atStart=>exact ⟨(0),(0),yq,yq,H',⟨Nat.le_refl _⟩,⟨yhb⟩⟩
 case round =>
  clear H'
  obtain ⟨ac,aa,rfl,rfl,HA,HK1,HB⟩:=hrel
  obtain ⟨k1,rfl⟩:=ysu gk (fun h=>by subst h;exact absurd HA.out (by simp [pvq_best.l0]))
  have H:=HA.out;clear HA
  simp only [pvq_best.l0] at H
  by_cases c2 : aa < (l0.length : Int)
  ·
   rw [if_pos c2] at H
   have aK:=yD c2
   clear c2
   replace H:=yif H;obtain ⟨c3,H⟩:=H
   have aM : decide (0≤aa)=true:=decide_eq_true c3
   clear c3
   replace H:=yif H;obtain ⟨c4,H⟩:=H
   have aN : decide (aa < (l0.length : Int))=true:=decide_eq_true c4
   clear c4
   replace H:=yif H;obtain ⟨c5,H⟩:=H
   have aQ : decide (0≤ac)=true:=decide_eq_true c5
   clear c5
   replace H:=yif H;obtain ⟨c6,H⟩:=H
   have aT : decide (ac < (l0.length : Int))=true:=decide_eq_true c6
   clear c6
   by_cases c7 : (!(((rd_T117 l0 aa).f0) == ((rd_T117 l0 ac).f0)) || (!(((rd_T117 l0 aa).f1) == ((rd_T117 l0 ac).f1))))=true
   ·
    rw [if_pos c7] at H
    have aG : (!(((rd_T117 l0 aa).f0) == ((rd_T117 l0 ac).f0)) || (!(((rd_T117 l0 aa).f1) == ((rd_T117 l0 ac).f1))))=true:=c7
    clear c7
    replace H:=ybi H;obtain ⟨aH,A8,H⟩:=H
    by_cases c9 : aH=true
    ·
     subst c9
     rw [if_pos rfl] at H
     have H' := zm H
     clear H
     try go_wp2
     replace HB:=zm (zf HB.out)
     have ao : 0≤(aa : Int):=yt
     have ap : aa < (l0.length : Int):=yt
     obtain ⟨ae,aA,af,ag⟩:=at_T117 HR0.out aa ao ap
     have hw209_1:=ag;have hw209_0:=af
     cases aA
     replace af:=yhx HB af
     replace ag:=yhx HB ag
     replace ao:=eq_true ao
     replace ap:=eq_true ap
     have aq : 0≤(ac : Int):=yt
     have au : ac < (l0.length : Int):=yt
     obtain ⟨av,aC,ah,ai⟩:=at_T117 HR0.out ac aq au
     have hw210_1:=ai;have hw210_0:=ah
     obtain rfl : ae=av:=(by injection aC)
     replace ah:=yhx HB ah
     replace ai:=yhx HB ai
     replace aq:=eq_true aq
     replace au:=eq_true au
     have aw : 0≤(aa : Int):=yt
     have ax : aa < (l0.length : Int):=yt
     obtain ⟨aD,aI,aj,ak⟩:=at_T117 HR0.out aa aw ax
     have hw211_1:=ak;have hw211_0:=aj
     obtain rfl : ae=aD:=(by injection aI)
     replace aj:=yhx HB aj
     replace ak:=yhx HB ak
     replace aw:=eq_true aw
     replace ax:=eq_true ax
     have ay : 0≤(ac : Int):=yt
     have az : ac < (l0.length : Int):=yt
     obtain ⟨aE,aJ,al,am⟩:=at_T117 HR0.out ac ay az
     have hw212_1:=am;have hw212_0:=al
     obtain rfl : ae=aE:=(by injection aJ)
     replace al:=yhx HB al
     replace am:=yhx HB am
     replace ay:=eq_true ay
     replace az:=eq_true az
     refine yst (fun w' => w'.cell? (ae.add ((aa).toNat * 2))=some (.int .i64 ((rd_T117 l0 aa).f0))∧w'.cell? ⟨(ae.add ((aa).toNat * 2)).block,(ae.add ((aa).toNat * 2)).off+1,none⟩=some (.int .i64 ((rd_T117 l0 aa).f1))∧w'.cell? (ae.add ((ac).toNat * 2))=some (.int .i64 ((rd_T117 l0 ac).f0))∧w'.cell? ⟨(ae.add ((ac).toNat * 2)).block,(ae.add ((ac).toNat * 2)).off+1,none⟩=some (.int .i64 ((rd_T117 l0 ac).f1))∧w'.cell? (ae.add ((aa).toNat * 2))=some (.int .i64 ((rd_T117 l0 aa).f0))∧w'.cell? ⟨(ae.add ((aa).toNat * 2)).block,(ae.add ((aa).toNat * 2)).off+1,none⟩=some (.int .i64 ((rd_T117 l0 aa).f1))∧w'.cell? (ae.add ((ac).toNat * 2))=some (.int .i64 ((rd_T117 l0 ac).f0))∧w'.cell? ⟨(ae.add ((ac).toNat * 2)).block,(ae.add ((ac).toNat * 2)).off+1,none⟩=some (.int .i64 ((rd_T117 l0 ac).f1))) [] 21 pvq_best.tab6 pvq_best.bits6 (fun hHeld HT_ HW_ => ?_)
     generalize wr.drew=w10 at HB af ag ah ai aj ak al am hHeld ⊢
     refine yp 0 11 HT_ ?_
     refine yp 1 12 HT_ ?_
     refine yp 2 13 HT_ ?_
     refine yp 4 15 HT_ ?_
     refine yp 5 16 HT_ ?_
     refine yp 6 17 HT_ ?_
     refine yl 3 14 HT_ HW_ hHeld ?_
     refine yl 7 18 HT_ HW_ hHeld ?_
     refine pure_ (i:=8) (N:=some 19) (v:=.bool true) (a' := ?_) #[true,true,true,true,true,true,true,true,true,false,false,false,false,false,false,false,false,false,false,false,false] rfl rfl (any_of HT_.out (by kernel_rfl)) (fun _ _ _ h=>h) (Or.inl ⟨by rfl, ?_⟩) ?_ ?_

     ·
      intro w'
      go_simp
      (rcases Decidable.em ((rd_T117 l0 aa).f0=(rd_T117 l0 ac).f0) with e0_|e0_ <;> rcases Decidable.em ((rd_T117 l0 aa).f1=(rd_T117 l0 ac).f1) with e1_|e1_ <;> simp [e0_,e1_] at aG ⊢)
     rotate_left
     ·
      simp only [Act.put,List.setIfInBounds_toArray,List.set_cons_zero,List.set_cons_succ,i64_w,i32_w]
      rfl
     refine yp 9 20 HT_ ?_
     refine yp 10 21 HT_ ?_
     refine yp 11 22 HT_ ?_
     refine yp 12 23 HT_ ?_
     refine yp 13 24 HT_ ?_
     refine yp 15 26 HT_ ?_
     refine yp 16 27 HT_ ?_
     refine yp 17 28 HT_ ?_
     refine yl 14 25 HT_ HW_ hHeld ?_
     refine yl 18 29 HT_ HW_ hHeld ?_
     refine yw 19 30 HT_ (fun K hK => ?_)
     refine call_ 115 #[.agg #[.int .i64 ((rd_T117 l0 aa).f0), .int .i64 ((rd_T117 l0 aa).f1)], .agg #[.int .i64 ((rd_T117 l0 ac).f0), .int .i64 ((rd_T117 l0 ac).f1)]] (by rfl) rfl ?hrun ?_
     (case hrun =>
      have he:=fun x W=>enters_ Try.func115 (by kernel_rfl) rfl x W
      unfold execOp
      simp [resolve,Deferred.ofValue,invoke,Act.eval,he])
     with_reducible refine (pvq_above.calls ((rd_T117 l0 aa).f0) ((rd_T117 l0 aa).f1) ((rd_T117 l0 ac).f0) ((rd_T117 l0 ac).f1) true _ A8.out).mono ?_
     rintro e w11 ⟨rfl,hb⟩
     refine ⟨_,rfl, ?_⟩
     replace HB:=ybs hb
     (try clear hb)
     refine hK.out _ _ yH (fun hHeld => ?_)
     clear hK K
     refine ym (some 30) ?_
     refine yp 20 31 HT_ ?_
     refine done_ (done_of HT_.out (by kernel_rfl)) ?_
     try go_wp2
     go_roundg k1
     case measure=>exact yom1 HK1
     case rel=>exact ⟨(aa),(wrap64 (aa+1)),yq,yq,H',⟨yom1 HK1⟩,⟨yhb⟩⟩
    replace c9:=Bool.eq_false_iff.mpr c9
    subst c9
    rw [ynf] at H
    have H' := zm H
    clear H
    try go_wp2
    replace HB:=zm (zf HB.out)
    have ao : 0≤(aa : Int):=yt
    have ap : aa < (l0.length : Int):=yt
    obtain ⟨ae,aA,af,ag⟩:=at_T117 HR0.out aa ao ap
    have hw209_1:=ag;have hw209_0:=af
    cases aA
    replace af:=yhx HB af
    replace ag:=yhx HB ag
    replace ao:=eq_true ao
    replace ap:=eq_true ap
    have aq : 0≤(ac : Int):=yt
    have au : ac < (l0.length : Int):=yt
    obtain ⟨av,aC,ah,ai⟩:=at_T117 HR0.out ac aq au
    have hw210_1:=ai;have hw210_0:=ah
    obtain rfl : ae=av:=(by injection aC)
    replace ah:=yhx HB ah
    replace ai:=yhx HB ai
    replace aq:=eq_true aq
    replace au:=eq_true au
    have aw : 0≤(aa : Int):=yt
    have ax : aa < (l0.length : Int):=yt
    obtain ⟨aD,aI,aj,ak⟩:=at_T117 HR0.out aa aw ax
    have hw211_1:=ak;have hw211_0:=aj
    obtain rfl : ae=aD:=(by injection aI)
    replace aj:=yhx HB aj
    replace ak:=yhx HB ak
    replace aw:=eq_true aw
    replace ax:=eq_true ax
    have ay : 0≤(ac : Int):=yt
    have az : ac < (l0.length : Int):=yt
    obtain ⟨aE,aJ,al,am⟩:=at_T117 HR0.out ac ay az
    have hw212_1:=am;have hw212_0:=al
    obtain rfl : ae=aE:=(by injection aJ)
    replace al:=yhx HB al
    replace am:=yhx HB am
    replace ay:=eq_true ay
    replace az:=eq_true az
    refine yst (fun w' => w'.cell? (ae.add ((aa).toNat * 2))=some (.int .i64 ((rd_T117 l0 aa).f0))∧w'.cell? ⟨(ae.add ((aa).toNat * 2)).block,(ae.add ((aa).toNat * 2)).off+1,none⟩=some (.int .i64 ((rd_T117 l0 aa).f1))∧w'.cell? (ae.add ((ac).toNat * 2))=some (.int .i64 ((rd_T117 l0 ac).f0))∧w'.cell? ⟨(ae.add ((ac).toNat * 2)).block,(ae.add ((ac).toNat * 2)).off+1,none⟩=some (.int .i64 ((rd_T117 l0 ac).f1))∧w'.cell? (ae.add ((aa).toNat * 2))=some (.int .i64 ((rd_T117 l0 aa).f0))∧w'.cell? ⟨(ae.add ((aa).toNat * 2)).block,(ae.add ((aa).toNat * 2)).off+1,none⟩=some (.int .i64 ((rd_T117 l0 aa).f1))∧w'.cell? (ae.add ((ac).toNat * 2))=some (.int .i64 ((rd_T117 l0 ac).f0))∧w'.cell? ⟨(ae.add ((ac).toNat * 2)).block,(ae.add ((ac).toNat * 2)).off+1,none⟩=some (.int .i64 ((rd_T117 l0 ac).f1))) [] 21 pvq_best.tab6 pvq_best.bits6 (fun hHeld HT_ HW_ => ?_)
    generalize wr.drew=w12 at HB af ag ah ai aj ak al am hHeld ⊢
    refine yp 0 11 HT_ ?_
    refine yp 1 12 HT_ ?_
    refine yp 2 13 HT_ ?_
    refine yp 4 15 HT_ ?_
    refine yp 5 16 HT_ ?_
    refine yp 6 17 HT_ ?_
    refine yl 3 14 HT_ HW_ hHeld ?_
    refine yl 7 18 HT_ HW_ hHeld ?_
    refine pure_ (i:=8) (N:=some 19) (v:=.bool true) (a' := ?_) #[true,true,true,true,true,true,true,true,true,false,false,false,false,false,false,false,false,false,false,false,false] rfl rfl (any_of HT_.out (by kernel_rfl)) (fun _ _ _ h=>h) (Or.inl ⟨by rfl, ?_⟩) ?_ ?_

    ·
     intro w'
     go_simp
     (rcases Decidable.em ((rd_T117 l0 aa).f0=(rd_T117 l0 ac).f0) with e0_|e0_ <;> rcases Decidable.em ((rd_T117 l0 aa).f1=(rd_T117 l0 ac).f1) with e1_|e1_ <;> simp [e0_,e1_] at aG ⊢)
    rotate_left
    ·
     simp only [Act.put,List.setIfInBounds_toArray,List.set_cons_zero,List.set_cons_succ,i64_w,i32_w]
     rfl
    refine yp 9 20 HT_ ?_
    refine yp 10 21 HT_ ?_
    refine yp 11 22 HT_ ?_
    refine yp 12 23 HT_ ?_
    refine yp 13 24 HT_ ?_
    refine yp 15 26 HT_ ?_
    refine yp 16 27 HT_ ?_
    refine yp 17 28 HT_ ?_
    refine yl 14 25 HT_ HW_ hHeld ?_
    refine yl 18 29 HT_ HW_ hHeld ?_
    refine yw 19 30 HT_ (fun K hK => ?_)
    refine call_ 115 #[.agg #[.int .i64 ((rd_T117 l0 aa).f0), .int .i64 ((rd_T117 l0 aa).f1)], .agg #[.int .i64 ((rd_T117 l0 ac).f0), .int .i64 ((rd_T117 l0 ac).f1)]] (by rfl) rfl ?hrun ?_
    (case hrun =>
     have he:=fun x W=>enters_ Try.func115 (by kernel_rfl) rfl x W
     unfold execOp
     simp [resolve,Deferred.ofValue,invoke,Act.eval,he])
    with_reducible refine (pvq_above.calls ((rd_T117 l0 aa).f0) ((rd_T117 l0 aa).f1) ((rd_T117 l0 ac).f0) ((rd_T117 l0 ac).f1) false _ A8.out).mono ?_
    rintro e w13 ⟨rfl,hb⟩
    refine ⟨_,rfl, ?_⟩
    replace HB:=ybs hb
    (try clear hb)
    refine hK.out _ _ yH (fun hHeld => ?_)
    clear hK K
    refine ym (some 30) ?_
    refine yp 20 31 HT_ ?_
    refine done_ (done_of HT_.out (by kernel_rfl)) ?_
    try go_wp2
    go_roundg k1
    case measure=>exact yom1 HK1
    case rel=>exact ⟨(ac),(wrap64 (aa+1)),yq,yq,H',⟨yom1 HK1⟩,⟨yhb⟩⟩
   rw [if_neg c7] at H
   have aG : (!(((rd_T117 l0 aa).f0) == ((rd_T117 l0 ac).f0)) || (!(((rd_T117 l0 aa).f1) == ((rd_T117 l0 ac).f1))))=false:=by simpa using c7
   clear c7
   have H' := zm H
   clear H
   try go_wp2
   replace HB:=zm (zf HB.out)
   have ao : 0≤(aa : Int):=yt
   have ap : aa < (l0.length : Int):=yt
   obtain ⟨ae,aA,af,ag⟩:=at_T117 HR0.out aa ao ap
   have hw209_1:=ag;have hw209_0:=af
   cases aA
   replace af:=yhx HB af
   replace ag:=yhx HB ag
   replace ao:=eq_true ao
   replace ap:=eq_true ap
   have aq : 0≤(ac : Int):=yt
   have au : ac < (l0.length : Int):=yt
   obtain ⟨av,aC,ah,ai⟩:=at_T117 HR0.out ac aq au
   have hw210_1:=ai;have hw210_0:=ah
   obtain rfl : ae=av:=(by injection aC)
   replace ah:=yhx HB ah
   replace ai:=yhx HB ai
   replace aq:=eq_true aq
   replace au:=eq_true au
   refine yst (fun w' => w'.cell? (ae.add ((aa).toNat * 2))=some (.int .i64 ((rd_T117 l0 aa).f0))∧w'.cell? ⟨(ae.add ((aa).toNat * 2)).block,(ae.add ((aa).toNat * 2)).off+1,none⟩=some (.int .i64 ((rd_T117 l0 aa).f1))∧w'.cell? (ae.add ((ac).toNat * 2))=some (.int .i64 ((rd_T117 l0 ac).f0))∧w'.cell? ⟨(ae.add ((ac).toNat * 2)).block,(ae.add ((ac).toNat * 2)).off+1,none⟩=some (.int .i64 ((rd_T117 l0 ac).f1))) [] 21 pvq_best.tab6 pvq_best.bits6 (fun hHeld HT_ HW_ => ?_)
   generalize wr.drew=w14 at HB af ag ah ai hHeld ⊢
   refine yp 0 11 HT_ ?_
   refine yp 1 12 HT_ ?_
   refine yp 2 13 HT_ ?_
   refine yp 4 15 HT_ ?_
   refine yp 5 16 HT_ ?_
   refine yp 6 17 HT_ ?_
   refine yl 3 14 HT_ HW_ hHeld ?_
   refine yl 7 18 HT_ HW_ hHeld ?_
   refine pure_ (i:=8) (N:=some 19) (v:=.bool false) (a' := ?_) #[true,true,true,true,true,true,true,true,true,false,false,false,false,false,false,false,false,false,false,false,false] rfl rfl (any_of HT_.out (by kernel_rfl)) (fun _ _ _ h=>h) (Or.inl ⟨by rfl, ?_⟩) ?_ ?_

   ·
    intro w'
    go_simp
    (rcases Decidable.em ((rd_T117 l0 aa).f0=(rd_T117 l0 ac).f0) with e0_|e0_ <;> rcases Decidable.em ((rd_T117 l0 aa).f1=(rd_T117 l0 ac).f1) with e1_|e1_ <;> simp [e0_,e1_] at aG ⊢)
   rotate_left
   ·
    simp only [Act.put,List.setIfInBounds_toArray,List.set_cons_zero,List.set_cons_succ,i64_w,i32_w]
    rfl
   refine yp 9 20 HT_ ?_
   refine yu 10 21 HT_ ?_
   refine yu 11 22 HT_ ?_
   refine yu 12 23 HT_ ?_
   refine yu 13 24 HT_ ?_
   refine yu 14 25 HT_ ?_
   refine yu 15 26 HT_ ?_
   refine yu 16 27 HT_ ?_
   refine yu 17 28 HT_ ?_
   refine yu 18 29 HT_ ?_
   refine yu 19 30 HT_ ?_
   refine yp 20 31 HT_ ?_
   refine done_ (done_of HT_.out (by kernel_rfl)) ?_
   try go_wp2
   go_roundg k1
   case measure=>exact yom1 HK1
   case rel=>exact ⟨(ac),(wrap64 (aa+1)),yq,yq,H',⟨yom1 HK1⟩,⟨yhb⟩⟩
  rw [if_neg c2] at H
  have aK:=yG c2
  clear c2
  obtain rfl:=Option.some.inj H
  go_wp2
  go_ret
  exact ⟨ye,yhb⟩
def num_Shift.f (a0 : Int) (a1 : Int) : Option (Int × Int):=if a1 < 0 then (some (0,1)) else (if a1 > 62 then (some (0,1)) else (if 0≤(IntKind.u64.wrap (a1)) then (some (shr .i64 a0 (IntKind.u64.wrap (a1)),0)) else (none)))
set_option maxHeartbeats 8000000 in
set_option maxRecDepth 100000 in
theorem num_Shift.calls (a0 : Int) (a1 : Int) (r1 : Int) (r2 : Int) (w : World) (h : num_Shift.f a0 a1=some (r1,r2)) :
  Calls Try.prog 114 #[.int .i64 a0, .int .i64 a1] w fun e w' => e=.returned (.tuple #[.int .i64 r1, .int .i64 r2])∧Drawn0 w w' := by
 have H:=h
 unfold num_Shift.f at H
 clear h
 by_cases c3 : a1 < 0
 ·
  rw [if_pos c3] at H
  have ae:=yD c3
  clear c3
  simp only [Option.some.injEq,Prod.mk.injEq] at H
  obtain ⟨rfl,rfl⟩:=H
  go_enter Try.func114,Try.ntmps114
  go_wp2
  go_ret2
  exact ⟨yq,yd⟩
 rw [if_neg c3] at H
 have ae:=yG c3
 clear c3
 by_cases c4 : a1 > 62
 ·
  rw [if_pos c4] at H
  have af:=yDs c4
  clear c4
  simp only [Option.some.injEq,Prod.mk.injEq] at H
  obtain ⟨rfl,rfl⟩:=H
  go_enter Try.func114,Try.ntmps114
  go_wp2
  go_ret2
  exact ⟨yq,yd⟩
 rw [if_neg c4] at H
 have af:=yGs c4
 clear c4
 obtain ⟨ji5,ac⟩ : ∃ j_ : Int,(IntKind.u64.wrap (a1))=j_:=⟨_,rfl⟩
 (first|rw [ac] at H|simp only [ac] at H)
 replace H:=yif H;obtain ⟨c6,H⟩:=H
 have ah:=eq_true c6
 have ai : decide (0≤(ji5))=true:=decide_eq_true c6
 clear c6
 obtain ⟨ji7,aa⟩ : ∃ j_ : Int,(shr .i64 a0 (ji5))=j_:=⟨_,rfl⟩
 (first|rw [aa] at H|simp only [aa] at H)
 have ag : (a0 / 2 ^ min (ji5).toNat 64)=ji7:=aa
 have hji7z : (ji5)≤64→(a0 / 2 ^ (ji5).toNat)=ji7:=shr_small aa
 simp only [Option.some.injEq,Prod.mk.injEq] at H
 obtain ⟨rfl,rfl⟩:=H
 go_enter Try.func114,Try.ntmps114
 go_wp2
 go_ret2
 exact ⟨by first|rfl|(simp;done)|(simp only [← ac, ← aa] <;> (first|rfl|simp))|(simp [*];done),yd⟩
mutual
def pvq_sizes.l0 : Nat→List Int→Int→List Int→Int→Int→Option (List Int)
 | 0,_,_,_,_,_=>none
 | k+1,x0,x3,x10,x11,x12=>if x12 < x11 then (if 0≤x12 then (if x12 < (x10.length : Int) then (pvq_sizes.l0 k x0 (mx (mx x3 (rd x10 x12)) (wrap64 (-(rd x10 x12)))) x10 x11 (wrap64 (x12+1))) else (none)) else (none)) else (pvq_sizes.l1 k x0 x3 0)
def pvq_sizes.l1 : Nat→List Int→Int→Int→Option (List Int)
 | 0,_,_,_=>none
 | k+1,x0,x3,x6=>if 0≤x6 then (if (shr .i64 x3 x6) ≥ 262144 then (pvq_sizes.l1 k x0 x3 (wrap64 (x6+1))) else (if 0≤(x0.length : Int) then (if ((x0.length : Int) : Int).toNat≤35184372088832 then (pvq_sizes.l2 k x6 (List.replicate ((x0.length : Int) : Int).toNat 0) x0 (x0.length : Int) 0) else (none)) else (none))) else (none)
def pvq_sizes.l2 : Nat→Int→List Int→List Int→Int→Int→Option (List Int)
 | 0,_,_,_,_,_=>none
 | k+1,x6,x7,x31,x32,x33=>if x33 < x32 then (if 0≤x33 then (if x33 < (x31.length : Int) then ((num_Shift.f (mx (rd x31 x33) (wrap64 (-(rd x31 x33)))) x6).bind fun aH=>(if x33 < (x7.length : Int) then (pvq_sizes.l2 k x6 (x7.set (x33 : Int).toNat aH.1) x31 x32 (wrap64 (x33+1))) else (none))) else (none)) else (none)) else (some x7)
end
def pvq_sizes.f (k : Nat) (l0 : List Int) : Option (List Int):=pvq_sizes.l0 k l0 0 l0 (l0.length : Int) 0
theorem pvq_sizes.mono_l : ∀ k,(∀ y0 y1 y2 y3 y4,LeO (pvq_sizes.l0 k y0 y1 y2 y3 y4) (pvq_sizes.l0 (k+1) y0 y1 y2 y3 y4))∧(∀ y0 y1 y2,LeO (pvq_sizes.l1 k y0 y1 y2) (pvq_sizes.l1 (k+1) y0 y1 y2))∧(∀ y0 y1 y2 y3 y4,LeO (pvq_sizes.l2 k y0 y1 y2 y3 y4) (pvq_sizes.l2 (k+1) y0 y1 y2 y3 y4))
 | 0=>⟨fun _ _ _ _ _ r h=>by simp [pvq_sizes.l0] at h,fun _ _ _ r h=>by simp [pvq_sizes.l1] at h,fun _ _ _ _ _ r h=>by simp [pvq_sizes.l2] at h⟩
 | k+1=>by
  obtain ⟨ih0,ih1,ih2⟩:=pvq_sizes.mono_l k
  refine ⟨?_, ?_, ?_⟩
  ·
   intro y0 y1 y2 y3 y4
   unfold pvq_sizes.l0
   repeat' with_reducible first|apply ih0|apply ih1|apply ih2|apply yLr|apply yLn|apply yLi|apply yLb|intro _
  ·
   intro y0 y1 y2
   unfold pvq_sizes.l1
   repeat' with_reducible first|apply ih0|apply ih1|apply ih2|apply yLr|apply yLn|apply yLi|apply yLb|intro _
  intro y0 y1 y2 y3 y4
  unfold pvq_sizes.l2
  repeat' with_reducible first|apply ih0|apply ih1|apply ih2|apply yLr|apply yLn|apply yLi|apply yLb|intro _
theorem pvq_sizes.mono : ∀ a0 k,LeO (pvq_sizes.f k a0) (pvq_sizes.f (k+1) a0):=by
 intro a0 k
 obtain ⟨ih0,ih1,ih2⟩:=pvq_sizes.mono_l k
 unfold pvq_sizes.f
 repeat' with_reducible first|apply ih0|apply ih1|apply ih2|apply yLr|apply yLn|apply yLi|apply yLb|intro _
set_option maxHeartbeats 8000000 in
set_option maxRecDepth 100000 in
theorem pvq_sizes.calls (k : Nat) (A0 : Option Addr) (c0 : Nat) (l0 : List Int) (r : List Int) (w : World) (hr0 : Kd.C (Kd.int .i64) w A0 l0.length l0) (hc0 : l0.length≤c0) (h : pvq_sizes.f k l0=some r) :
  Calls Try.prog 79 #[.slice A0 l0.length c0] w fun e w' => ∃ v0_ : Value,e=.returned (v0_)∧Kd.R (Kd.int .i64) 2 w' w.heap.size (fun _=>True) v0_ r∧Below w.heap.size w w' := by
 have HR0:=zm hr0;have HC0:=zm hc0;clear hr0 hc0;have HB:=zm (Below.refl w.heap.size w);have H:=h
 unfold pvq_sizes.f at H
 clear h
 have H' := zm H
 clear H
 go_enter Try.func79,Try.ntmps79
 go_wp2
 go_loopg [3,12] k (fun kq v3 v12 w' => ∃ (af : Int) (ac : Int),v3=.int .i64 af∧v12=.int .i64 ac∧Aside0 (pvq_sizes.l0 kq l0 af l0 (l0.length : Int) ac=some r)∧Aside0 (kq≤k)∧Aside0 (Below w.heap.size w w'))
 case atStart=>exact ⟨(0),(0),yq,yq,H',⟨Nat.le_refl _⟩,⟨yhb⟩⟩
 case round =>
  clear H'
  obtain ⟨af,ac,rfl,rfl,HA,HK1,HB⟩:=hrel
  obtain ⟨k1,rfl⟩:=ysu gk (fun h=>by subst h;exact absurd HA.out (by simp [pvq_sizes.l0]))
  have H:=HA.out;clear HA
  simp only [pvq_sizes.l0] at H
  by_cases c2 : ac < (l0.length : Int)
  ·
   rw [if_pos c2] at H
   have aI:=yD c2
   clear c2
   replace H:=yif H;obtain ⟨c3,H⟩:=H
   have a7 : decide (0≤ac)=true:=decide_eq_true c3
   clear c3
   replace H:=yif H;obtain ⟨c4,H⟩:=H
   have a8 : decide (ac < (l0.length : Int))=true:=decide_eq_true c4
   clear c4
   obtain ⟨ji5,ay⟩ : ∃ j_ : Int,(mx af (rd l0 ac))=j_:=⟨_,rfl⟩
   (first|rw [ay] at H|simp only [ay] at H)
   have bm : (if af < (rd l0 ac) then (rd l0 ac) else af)=ji5:=ay
   obtain ⟨ji6,aq⟩ : ∃ j_ : Int,(mx (ji5) (wrap64 (-(rd l0 ac))))=j_:=⟨_,rfl⟩
   (first|rw [aq] at H|simp only [aq] at H)
   have bn : (if (ji5) < (wrap64 (-(rd l0 ac))) then (wrap64 (-(rd l0 ac))) else (ji5))=ji6:=aq
   have H' := zm H
   clear H
   have au : 0≤(ac : Int):=yt
   have av : ac < (l0.length : Int):=yt
   obtain ⟨bo,a9,ag⟩:=Kd.at_int HR0.out ac au av
   cases a9
   replace ag:=yhx HB ag
   replace au:=eq_true au
   replace av:=eq_true av
   go_wp2
   go_roundg k1
   case measure=>exact yom1 HK1
   case rel=>exact ⟨(ji6),(wrap64 (ac+1)),(by first|rfl|(simp;done)|(simp only [← aq] <;> (first|rfl|simp))|(simp [*];done)),yq,H',⟨yom1 HK1⟩,⟨yhb⟩⟩
  rw [if_neg c2] at H
  have aI:=yG c2
  clear c2
  have H' := zm H
  clear H
  go_wp2
  go_loopg [6] k1 (fun kq v6 w' => ∃ (ae : Int),v6=.int .i64 ae∧Aside0 (pvq_sizes.l1 kq l0 af ae=some r)∧Aside0 (kq≤k1)∧Aside0 (Below w.heap.size w w'))
  case atStart=>exact ⟨(0),yq,H',⟨Nat.le_refl _⟩,⟨yhb⟩⟩
  case round =>
   clear H'
   try clear aI
   try clear a7
   try clear a8
   try clear ag
   try clear au
   try clear av
   obtain ⟨ae,rfl,HA,HK2,HB⟩:=hrel
   obtain ⟨k2,rfl⟩:=ysu gk (fun h=>by subst h;exact absurd HA.out (by simp [pvq_sizes.l1]))
   have H:=HA.out;clear HA
   simp only [pvq_sizes.l1] at H
   replace H:=yif H;obtain ⟨c7,H⟩:=H
   have ba:=eq_true c7
   have bb : decide (0≤ae)=true:=decide_eq_true c7
   clear c7
   obtain ⟨ji8,al⟩ : ∃ j_ : Int,(shr .i64 af ae)=j_:=⟨_,rfl⟩
   (first|rw [al] at H|simp only [al] at H)
   have bp : (af / 2 ^ min ae.toNat 64)=ji8:=al
   have hji8z : ae≤64→(af / 2 ^ ae.toNat)=ji8:=shr_small al
   by_cases c9 : (ji8) ≥ 262144
   ·
    rw [if_pos c9] at H
    have aJ:=yDl c9
    clear c9
    have H' := zm H
    clear H
    go_wp2
    go_roundg k2
    case measure=>exact yom2 HK1 HK2
    case rel=>exact ⟨(wrap64 (ae+1)),yq,H',⟨yom2 HK1 HK2⟩,⟨yhb⟩⟩
   rw [if_neg c9] at H
   have aJ:=yGl c9
   clear c9
   replace H:=yif H;obtain ⟨c10,H⟩:=H
   have aK:=eq_true c10
   have aM : decide (0≤(l0.length : Int))=true:=decide_eq_true c10
   clear c10
   replace H:=yif H;obtain ⟨c11,H⟩:=H
   have aN:=eq_true c11
   have aQ : decide (((l0.length : Int) : Int).toNat≤35184372088832)=true:=decide_eq_true c11
   clear c11
   obtain ⟨aT,am⟩ : ∃ y_ : List Int,y_=(List.replicate ((l0.length : Int) : Int).toNat 0):=⟨_,rfl⟩
   replace H : (pvq_sizes.l2 k2 ae aT l0 (l0.length : Int) 0)=some r:=yrw am H
   have ax:=zm am;clear am
   have H' := zm H
   clear H
   go_wp2_with (first|((with_reducible refine gate_dst (N:=30) rfl ?_);refine Kd.R_make (Kd.int .i64) _ 2 rfl (N:=30) rfl 53 _ _ rfl (l0.length : Int) rfl rfl Try.underlying53 (.int .i64 0) 8 info2 rfl (by decide) (by omega) 0 (ok:=fun _=>True) (okp:=fun _=>True) rfl (fun _ hk=>hk) trivial (yt) (Nat.le_trans (Nat.mul_le_mul_right _ (yt : (l0.length : Int).toNat≤35184372088832)) (by omega)) (Below.refl _ _) (Nat.le_refl _) ?_;intro bc w12 ao hb hg_ hnew_;clear hg_ hnew_;(first|rw [← ax.out] at ao|(simp only [Int.reduceToNat] at ao;rw [← ax.out] at ao));have aU:=zm (Kd.R_lower ao (zE yhb));replace HB:=ybs hb;clear hb ao))
   go_loopg [33] k2 (fun kq v33 w' => ∃ (ai : List Int) (aa : Int),v33=.int .i64 aa∧Aside0 (pvq_sizes.l2 kq ae ai l0 (l0.length : Int) aa=some r)∧Aside0 (kq≤k2)∧Aside0 (Kd.R (Kd.int .i64) 2 w' w.heap.size (fun _=>True) bc ai)∧Aside0 (Below w.heap.size w w'))
   case atStart=>exact ⟨(aT),(0),yq,H',⟨Nat.le_refl _⟩,⟨yr aU⟩,⟨yhb⟩⟩
   case round =>
    clear H'
    try clear ba
    try clear bb
    try clear aJ
    try clear aK
    try clear aM
    try clear aN
    try clear aQ
    obtain ⟨ai,aa,rfl,HA,HK3,ah,HB⟩:=hrel
    obtain ⟨k3,rfl⟩:=ysu gk (fun h=>by subst h;exact absurd HA.out (by simp [pvq_sizes.l2]))
    have H:=HA.out;clear HA
    simp only [pvq_sizes.l2] at H
    by_cases c14 : aa < (l0.length : Int)
    ·
     rw [if_pos c14] at H
     have aV:=yD c14
     clear c14
     replace H:=yif H;obtain ⟨c15,H⟩:=H
     have bq : decide (0≤aa)=true:=decide_eq_true c15
     clear c15
     replace H:=yif H;obtain ⟨c16,H⟩:=H
     have br : decide (aa < (l0.length : Int))=true:=decide_eq_true c16
     clear c16
     obtain ⟨az,aj⟩ : ∃ j_ : Int,(mx (rd l0 aa) (wrap64 (-(rd l0 aa))))=j_:=⟨_,rfl⟩
     (first|rw [aj] at H|simp only [aj] at H)
     have bd : (if (rd l0 aa) < (wrap64 (-(rd l0 aa))) then (wrap64 (-(rd l0 aa))) else (rd l0 aa))=az:=aj
     replace H:=ybi H;obtain ⟨⟨aw,bf⟩,A18,H⟩:=H
     try dsimp only at H
     replace H:=yif H;obtain ⟨c19,H⟩:=H
     have bs : decide (aa < (ai.length : Int))=true:=decide_eq_true c19
     clear c19
     obtain ⟨aA,ap⟩ : ∃ y_ : List Int,y_=(ai.set (aa : Int).toNat aw):=⟨_,rfl⟩
     replace H : (pvq_sizes.l2 k3 ae aA l0 (l0.length : Int) (wrap64 (aa+1)))=some r:=yrw ap H
     have aW:=zm ap;clear ap
     have H' := zm H
     clear H
     have aC : 0≤(aa : Int):=yt
     have aD : aa < (l0.length : Int):=yt
     obtain ⟨bu,bg,ak⟩:=Kd.at_int HR0.out aa aC aD
     cases bg
     replace ak:=yhx HB ak
     replace aC:=eq_true aC
     replace aD:=eq_true aD
     go_wp2_with (first|((with_reducible refine gate_callee (f:=114) rfl ?_);refine goesL_ (some 46) rfl rfl Try.func114 (by kernel_rfl) rfl #[.int .i64 az, .int .i64 ae] rfl (by (try simp only [List.map_toArray,List.map_cons,List.map_nil]);first|done|(simp only [aj];rfl)|rfl|(simp only [List.length_drop,List.length_take];rfl)) ?_;(with_reducible refine (num_Shift.calls az ae aw bf _ A18.out).mono ?_);rintro e w' ⟨rfl,⟨nd,rfl⟩⟩;refine ⟨_,rfl, ?_⟩;(try (rw [drewN_self wr];generalize hq_ : World.drewN wr _=wr;replace ah:=yRq hq_ ah;replace HB:=ysq hq_;clear hq_));have p20 : 0≤(aa : Int):=yt;have q20 : (aa : Int) < ((ai.length : Int) : Int):=yt;obtain ⟨aE,bh,aX,aY,bi,bw,aZ⟩:=Kd.R_form ah.out (by omega);(first|cases aX|(injection aX with ea_ en_ ec_;(first|subst ea_|(injection ea_ with ea_;subst ea_));subst ec_;clear en_));have bj:=zm aY;have bx:=zm aZ;clear aY bi aZ;obtain ⟨bk,bl⟩:=Kd.R_celln 0 ah.out (aa : Int) p20 q20;replace p20:=eq_true p20;replace q20:=eq_true q20;obtain ⟨bv,hz21_⟩:=Kd.R_celln 0 ah.out (aa : Int) (yt) (yt);have aG:=Kd.R_putg ah.out (aa : Int) aw)|((with_reducible refine gate_store (t:=2) (p:=49) rfl ?_);refine store_event (t:=2) (p:=49) (v := ?vo_w22) (w1:=(wr.setCell ⟨aE,(aa : Int).toNat,none⟩ (.int .i64 aw))) ?hg ?ho ?hn ?hr ?_;(case ho=>rfl);(case hg=>rfl);(case hn=>rfl);(case hr=>first|(go_simp;done)|(go_simp;rfl));intro w22 hw;have hg : wr.grownBy w22 (some aE):=(by rw [hw];exact aG.2);have hp_ : Kd.R (Kd.int .i64) 2 w22 w.heap.size (fun _=>True) (.slice (some ⟨aE,0,none⟩) ai.length bh) aA:=(by rw [hw,aW.out];exact aG.1);clear aG;replace ah:=zm (hp_);replace HB:=zm ((by rw [hw];exact zk (HB.out) bj.out : Below w.heap.size w w22));clear hg hw hp_))
     go_roundg k3
     case measure=>exact yom3 HK1 HK2 HK3
     case rel=>exact ⟨(aA),(wrap64 (aa+1)),yq,H',⟨yom3 HK1 HK2 HK3⟩,⟨yr ah⟩,⟨yhb⟩⟩
    rw [if_neg c14] at H
    have aV:=yG c14
    clear c14
    obtain rfl:=Option.some.inj H
    go_wp2
    go_ret
    exact ⟨_,by first|rfl|(simp [errW_none,errW_some] <;> rfl)|(simp only [← al];first|rfl|(simp [errW_none,errW_some] <;> rfl))|(simp [*,errW_none,errW_some] <;> rfl),yr ah,yhb⟩
def pvq_with.f (ac : Int) (ae : Int) (a1 : Int) (a2 : Int) : Option (Int × Int):=some (wrap64 (ac+a1),wrap64 (ae+(wrap64 ((wrap64 (2 * a2))+1))))
set_option maxHeartbeats 8000000 in
set_option maxRecDepth 100000 in
theorem pvq_with.calls (ac : Int) (ae : Int) (a1 : Int) (a2 : Int) (r1 : Int) (r2 : Int) (w : World) (h : pvq_with.f ac ae a1 a2=some (r1,r2)) :
  Calls Try.prog 80 #[.agg #[.int .i64 ac, .int .i64 ae], .int .i64 a1, .int .i64 a2] w fun e w' => e=.returned (.agg #[.int .i64 r1, .int .i64 r2])∧Below w.heap.size w w' := by
 have hu117:=Try.underlying117;have HB:=zm (Below.refl w.heap.size w);have H:=h
 unfold pvq_with.f at H
 clear h
 simp only [Option.some.injEq,Prod.mk.injEq] at H
 obtain ⟨rfl,rfl⟩:=H
 go_enter Try.func80,Try.ntmps80
 go_wp2_with (first|((with_reducible refine gate_dst (N:=3) rfl ?_);refine ybx 3 #[.int .i64 ac, .int .i64 ae] 117 ?_;intro aj hg w4 hbox hb;have aa:=zm (hbox);have ak:=ygw hg;have al:=ygw hg;replace HB:=ybs hb;clear hb hbox hg)|((with_reducible refine gate_dst (N:=6) rfl ?_);refine ybx 6 #[.int .i64 0, .int .i64 0] 117 ?_;intro ai hg w5 hbox hb;have ah:=zm (hbox);have am:=ygw hg;have ao:=ygw hg;replace HB:=ybs hb;have af:=ynl aa hg;have ag:=yng aa hg;replace aa:=ybb aa hb;clear hb hbox hg;have:=af.out;have:=ag.out;obtain ⟨_,_,_,_⟩:=yc2 aa;obtain ⟨_,_,_,_⟩:=yc2 ah))
 refine bodyPost_ret (results_cell_row rfl _ _ ai 117 #[.int .i64 (wrap64 (ac+a1)), .int .i64 (wrap64 (ae+(wrap64 ((wrap64 (2 * a2))+1))))] (0,0) _ rfl (ykp ah) Try.underlying117 rfl (by kernel_rfl)) rfl ?_
 exact ⟨ye,yhb⟩
mutual
def pvq_Search.j0 : Nat→List Int→Int→Bool→Option (List Int × Int)
 | 0,_,_,_=>none
 | k+1,x0,x1,x25=>if x25=true then (some (([] : List Int),1)) else ((pvq_sizes.f k x0).bind fun aq=>(if 0≤(x0.length : Int) then (if ((x0.length : Int) : Int).toNat≤35184372088832 then (pvq_Search.l0 k x0 aq (List.replicate ((x0.length : Int) : Int).toNat 0) x1 0 0 0) else (none)) else (none)))
def pvq_Search.l0 : Nat→List Int→List Int→List Int→Int→Int→Int→Int→Option (List Int × Int)
 | 0,_,_,_,_,_,_,_=>none
 | k+1,x0,x6,x7,x33,x34,aD,aE=>if x34 < x33 then (if 0≤(x0.length : Int) then (if ((x0.length : Int) : Int).toNat≤17592186044416 then ((some (List.replicate ((x0.length : Int) : Int).toNat z117 : List (S117))).bind fun aG=>(pvq_Search.l1 k x0 x6 x7 aG x33 x34 (aG.length : Int) 0 aD aE)) else (none)) else (none)) else (pvq_Search.l2 k x7 x0 (x0.length : Int) 0)
def pvq_Search.l1 : Nat→List Int→List Int→List Int→List (S117)→Int→Int→Int→Int→Int→Int→Option (List Int × Int)
 | 0,_,_,_,_,_,_,_,_,_,_=>none
 | k+1,x0,x6,x7,x10,x33,x34,x40,x41,aD,aE=>if x41 < x40 then (if 0≤x41 then (if x41 < (x6.length : Int) then (if x41 < (x7.length : Int) then ((pvq_with.f aD aE (rd x6 x41) (rd x7 x41)).bind fun bo=>(if x41 < (x10.length : Int) then (pvq_Search.l1 k x0 x6 x7 (x10.set (x41 : Int).toNat (⟨bo.1,bo.2⟩ : S117)) x33 x34 x40 (wrap64 (x41+1)) aD aE) else (none))) else (none)) else (none)) else (none)) else ((pvq_best.f k x10).bind fun ai=>(if 0≤ai then (if ai < (x10.length : Int) then (if ai < (x7.length : Int) then (pvq_Search.l0 k x0 x6 (x7.set (ai : Int).toNat (wrap64 ((rd x7 ai)+1))) x33 (wrap64 (x34+1)) ((rd_T117 x10 ai).f0) ((rd_T117 x10 ai).f1)) else (none)) else (none)) else (none)))
def pvq_Search.l2 : Nat→List Int→List Int→Int→Int→Option (List Int × Int)
 | 0,_,_,_,_=>none
 | k+1,x7,x73,x74,x75=>if x75 < x74 then (if 0≤x75 then (if x75 < (x73.length : Int) then (if (rd x73 x75) < 0 then (if x75 < (x7.length : Int) then (pvq_Search.l2 k (x7.set (x75 : Int).toNat (wrap64 (-(rd x7 x75)))) x73 x74 (wrap64 (x75+1))) else (none)) else (pvq_Search.l2 k x7 x73 x74 (wrap64 (x75+1)))) else (none)) else (none)) else (some (x7,0))
end
def pvq_Search.f (k : Nat) (l0 : List Int) (a1 : Int) : Option (List Int × Int):=(pvq_fair.f k l0).bind fun bx=>(if bx=true then (if a1 < 0 then (pvq_Search.j0 k l0 a1 true) else (pvq_Search.j0 k l0 a1 (decide (a1 > 12)))) else (pvq_Search.j0 k l0 a1 true))
theorem pvq_Search.mono_l : ∀ k,(∀ y0 y1 y2,LeO (pvq_Search.j0 k y0 y1 y2) (pvq_Search.j0 (k+1) y0 y1 y2))∧(∀ y0 y1 y2 y3 y4 y5 y6,LeO (pvq_Search.l0 k y0 y1 y2 y3 y4 y5 y6) (pvq_Search.l0 (k+1) y0 y1 y2 y3 y4 y5 y6))∧(∀ y0 y1 y2 y3 y4 y5 y6 y7 y8 y9,LeO (pvq_Search.l1 k y0 y1 y2 y3 y4 y5 y6 y7 y8 y9) (pvq_Search.l1 (k+1) y0 y1 y2 y3 y4 y5 y6 y7 y8 y9))∧(∀ y0 y1 y2 y3,LeO (pvq_Search.l2 k y0 y1 y2 y3) (pvq_Search.l2 (k+1) y0 y1 y2 y3))
 | 0=>⟨fun _ _ _ r h=>by simp [pvq_Search.j0] at h,fun _ _ _ _ _ _ _ r h=>by simp [pvq_Search.l0] at h,fun _ _ _ _ _ _ _ _ _ _ r h=>by simp [pvq_Search.l1] at h,fun _ _ _ _ r h=>by simp [pvq_Search.l2] at h⟩
 | k+1=>by
  obtain ⟨ih0,ih1,ih2,ih3⟩:=pvq_Search.mono_l k
  refine ⟨?_, ?_, ?_, ?_⟩
  ·
   intro y0 y1 y2
   unfold pvq_Search.j0
   repeat' with_reducible first|apply ih0|apply ih1|apply ih2|apply ih3|apply pvq_best.mono|apply pvq_fair.mono|apply pvq_sizes.mono|apply yLr|apply yLn|apply yLi|apply yLb|intro _
  ·
   intro y0 y1 y2 y3 y4 y5 y6
   unfold pvq_Search.l0
   repeat' with_reducible first|apply ih0|apply ih1|apply ih2|apply ih3|apply pvq_best.mono|apply pvq_fair.mono|apply pvq_sizes.mono|apply yLr|apply yLn|apply yLi|apply yLb|intro _
  ·
   intro y0 y1 y2 y3 y4 y5 y6 y7 y8 y9
   unfold pvq_Search.l1
   repeat' with_reducible first|apply ih0|apply ih1|apply ih2|apply ih3|apply pvq_best.mono|apply pvq_fair.mono|apply pvq_sizes.mono|apply yLr|apply yLn|apply yLi|apply yLb|intro _
  intro y0 y1 y2 y3
  unfold pvq_Search.l2
  repeat' with_reducible first|apply ih0|apply ih1|apply ih2|apply ih3|apply pvq_best.mono|apply pvq_fair.mono|apply pvq_sizes.mono|apply yLr|apply yLn|apply yLi|apply yLb|intro _
theorem pvq_Search.mono : ∀ a0 a1 k,LeO (pvq_Search.f k a0 a1) (pvq_Search.f (k+1) a0 a1):=by
 intro a0 a1 k
 obtain ⟨ih0,ih1,ih2,ih3⟩:=pvq_Search.mono_l k
 unfold pvq_Search.f
 repeat' with_reducible first|apply ih0|apply ih1|apply ih2|apply ih3|apply pvq_best.mono|apply pvq_fair.mono|apply pvq_sizes.mono|apply yLr|apply yLn|apply yLi|apply yLb|intro _
def pvq_Search.T12 : Bool × List (List Nat × List Nat):=(true, [([], []),([], []),([], []),([], []),([], []),([3,4], [3,4]),([5], [5]),([], []),([], []),([7,8], [7,8]),([9], [9]),([2,6,10], [2,6,10]),([0,1,0,1,2,3,4,5,6,7,8,9,10,11], [0,1]),([12,11,11,0,1,2,3,4,5,6,7,8,9,10,11], [11,12])])
def pvq_Search.B12 : List Nat := [0,0,0,0,0,24,56,0,0,384,896,2044,4095,8191]
theorem pvq_Search.tab12 : rtab .any (opsOf Try.f39 12)=pvq_Search.T12:=by kernel_rfl
theorem pvq_Search.bits12 : waitsOk pvq_Search.T12.2 pvq_Search.B12=true:=by kernel_rfl
set_option maxHeartbeats 8000000 in
set_option maxRecDepth 100000 in
theorem pvq_Search.calls (k : Nat) (A0 : Option Addr) (c0 : Nat) (l0 : List Int) (a1 : Int) (r1 : List Int) (r2 : Int) (w : World) (hr0 : Kd.C (Kd.int .i64) w A0 l0.length l0) (hc0 : l0.length≤c0) (h : pvq_Search.f k l0 a1=some (r1,r2)) :
  Calls Try.prog 39 #[.slice A0 l0.length c0, .int .i64 a1] w fun e w' => ∃ v0_ : Value,e=.returned (.tuple #[v0_, .int .i64 r2])∧Kd.R (Kd.int .i64) 3 w' w.heap.size (fun _=>True) v0_ r1∧Below w.heap.size w w' := by
 have hu117:=Try.underlying117;have HR0:=zm hr0;have HC0:=zm hc0;clear hr0 hc0;have HB:=zm (Below.refl w.heap.size w);have H:=h
 unfold pvq_Search.f at H
 clear h;have HC3:=zm H;clear H
 go_enter Try.func39,Try.ntmps39
 go_upto_region 1 with (fail)
 go_cut [25] (fun v25 wc => ∃ (kq : Nat) (aU : Bool),v25=.bool aU∧Aside0 (pvq_Search.j0 kq l0 a1 aU=some (r1,r2))∧Aside0 (kq≤k)∧Aside0 (Below w.heap.size w wc))
 case first =>
  have H:=HC3.out;clear HC3
  replace H:=ybi H;obtain ⟨bx,A4,H⟩:=H
  by_cases c5 : bx=true
  ·
   subst c5
   rw [if_pos rfl] at H
   by_cases c6 : a1 < 0
   ·
    rw [if_pos c6] at H
    have aW:=yD c6
    clear c6
    (first|rw [aW]|(simp only [i64_w,i32_w];rw [aW])|skip)
    have H' := zm H
    clear H
    go_wp2_with (first|((with_reducible refine gate_callee (f:=78) rfl ?_);refine ygl 16 Try.func78 #[.slice A0 l0.length c0] ?_;(with_reducible refine (pvq_fair.calls k _ _ l0 true _ ?av HC0.out A4.out).mono ?_);(case av=>exact ycb HR0);rintro e w' ⟨rfl,⟨nd,rfl⟩⟩;refine ⟨_,rfl, ?_⟩))
    go_meet
    case rel=>exact ⟨_,(true),yq,H',⟨yo⟩,⟨yhb⟩⟩
   rw [if_neg c6] at H
   have aW:=yG c6
   clear c6
   (first|rw [aW]|(simp only [i64_w,i32_w];rw [aW])|skip)
   have H' := zm H
   clear H
   go_wp2_with (first|((with_reducible refine gate_callee (f:=78) rfl ?_);refine ygl 16 Try.func78 #[.slice A0 l0.length c0] ?_;(with_reducible refine (pvq_fair.calls k _ _ l0 true _ ?av HC0.out A4.out).mono ?_);(case av=>exact ycb HR0);rintro e w' ⟨rfl,⟨nd,rfl⟩⟩;refine ⟨_,rfl, ?_⟩))
   go_meet
   case rel=>exact ⟨_,(decide (a1 > 12)),yq,H',⟨yo⟩,⟨yhb⟩⟩
  replace c5:=Bool.eq_false_iff.mpr c5
  subst c5
  rw [ynf] at H
  have H' := zm H
  clear H
  go_wp2_with (first|((with_reducible refine gate_callee (f:=78) rfl ?_);refine ygl 16 Try.func78 #[.slice A0 l0.length c0] ?_;(with_reducible refine (pvq_fair.calls k _ _ l0 false _ ?av HC0.out A4.out).mono ?_);(case av=>exact ycb HR0);rintro e w' ⟨rfl,⟨nd,rfl⟩⟩;refine ⟨_,rfl, ?_⟩))
  go_meet
  case rel=>exact ⟨_,(true),yq,H',⟨yo⟩,⟨yhb⟩⟩
 case rest =>
  clear HC3
  obtain ⟨kq,aU,rfl,HA,HJ2,HB⟩:=hcut
  obtain ⟨kj2,rfl⟩:=ysu kq (fun h=>by subst h;exact absurd HA.out (by simp [pvq_Search.j0]))
  have H:=HA.out;clear HA
  simp only [pvq_Search.j0] at H
  by_cases c7 : aU=true
  ·
   subst c7
   rw [if_pos rfl] at H
   simp only [Option.some.injEq,Prod.mk.injEq] at H
   obtain ⟨rfl,rfl⟩:=H
   go_wp2
   go_ret2
   exact ⟨_,ye,yn,yhb⟩
  replace c7:=Bool.eq_false_iff.mpr c7
  subst c7
  rw [ynf] at H
  replace H:=ybi H;obtain ⟨aq,A8,H⟩:=H
  replace H:=yif H;obtain ⟨c9,H⟩:=H
  have cp:=eq_true c9
  have cq : decide (0≤(l0.length : Int))=true:=decide_eq_true c9
  clear c9
  replace H:=yif H;obtain ⟨c10,H⟩:=H
  have bS:=eq_true c10
  have bT : decide (((l0.length : Int) : Int).toNat≤35184372088832)=true:=decide_eq_true c10
  clear c10
  obtain ⟨bf,aX⟩ : ∃ y_ : List Int,y_=(List.replicate ((l0.length : Int) : Int).toNat 0):=⟨_,rfl⟩
  replace H : (pvq_Search.l0 kj2 l0 aq bf a1 0 0 0)=some (r1,r2):=yrw aX H
  have aV:=zm aX;clear aX
  have H' := zm H
  clear H
  try go_wp2
  replace HB:=zm (zf HB.out)
  refine start_ (n:=7) (S:=fun w' => True) (ds := []) #[false,false,false,false,false,false,false] (by kernel_rfl) rfl rfl trivial (fun hHeld => ?_)
  generalize wc.drew=w11 at HB hHeld ⊢
  refine pure_ (i:=0) (N:=some 26) (v := ?_) (a' := ?_) #[true,false,false,false,false,false,false] rfl rfl (by kernel_rfl) (fun _ _ _ h=>h) (Or.inl ⟨by rfl, ?_⟩) ?_ ?_
  rotate_left
  ·
   intro w'
   go_simp
   with_reducible rfl
  rotate_left
  ·
   simp only [Act.put,List.setIfInBounds_toArray,List.set_cons_zero,List.set_cons_succ,i64_w,i32_w]
   rfl
  refine pure_ (i:=2) (N:=some 28) (v := ?_) (a' := ?_) #[true,false,true,false,false,false,false] rfl rfl (by kernel_rfl) (fun _ _ _ h=>h) (Or.inl ⟨by rfl, ?_⟩) ?_ ?_
  rotate_left
  ·
   intro w'
   go_simp
   with_reducible rfl
  rotate_left
  ·
   simp only [Act.put,List.setIfInBounds_toArray,List.set_cons_zero,List.set_cons_succ,i64_w,i32_w]
   rfl
  refine pure_ (i:=3) (N:=some 29) (v := ?_) (a' := ?_) #[true,false,true,true,false,false,false] rfl rfl (by kernel_rfl) (fun _ _ _ h=>h) (Or.inl ⟨by rfl, ?_⟩) ?_ ?_
  rotate_left
  ·
   intro w'
   go_simp
   with_reducible rfl
  rotate_left
  ·
   simp only [Act.put,List.setIfInBounds_toArray,List.set_cons_zero,List.set_cons_succ,i64_w,i32_w]
   rfl
  refine join_ (σ:=Value × Value) 1 #[true,true,true,true,true,true,false] (fun s_ => [(27,s_.1),(30,s_.2),(6,s_.1)]) (fun s_ w' => (Kd.R (Kd.int .i64) 2 w' w.heap.size (fun _=>True) s_.1 aq)∧(Kd.R (Kd.int .i64) 3 w' w.heap.size (fun _=>True) s_.2 bf)∧(Below w.heap.size w w')) ?_ ?_
  rotate_left
  ·
   intro hCont
   refine two_ (i:=1) (j:=4) (Ni:=some 27) (Nj:=some 30) #[true,true,true,true,false,false,false] #[true,false,true,true,true,false,false] rfl rfl rfl rfl (by kernel_rfl) (by decide) (by decide) (fun K hK => ?_) (fun K hK => ?_)
   ·
    skip
    refine ygs Try.func79 #[.slice A0 l0.length c0] ?_
    with_reducible refine (pvq_sizes.calls kj2 _ _ l0 aq _ ?av ?aI A8.out).mono ?_
    (case av=>exact ycb HR0)
    (case aI=>exact HC0.out)
    rintro e w12 ⟨aJ,rfl,ho0,hb⟩
    refine ⟨_,rfl, ?_⟩
    have ax:=zm (Kd.R_lower ho0 (zE yhb))
    replace HB:=ybs hb
    (try clear hb)
    (try clear ho0)
    refine hK.out _ _ trivial (fun hHeld => ?_)
    clear hK K
    refine ym (some 27) ?_
    refine pure_ (i:=5) (N:=some 6) (v := ?_) (a' := ?_) #[true,true,true,true,false,true,false] rfl rfl (by kernel_rfl) (fun _ _ _ h=>h) (Or.inl ⟨by rfl, ?_⟩) ?_ ?_
    rotate_left
    ·
     intro w'
     go_simp
     with_reducible rfl
    rotate_left
    ·
     simp only [Act.put,List.setIfInBounds_toArray,List.set_cons_zero,List.set_cons_succ,i64_w,i32_w]
     rfl
    refine one_ (i:=4) (N:=some 30) #[true,true,true,true,true,true,false] rfl rfl (by kernel_rfl) (by decide) (fun K hK => ?_)
    refine Kd.R_make_step (Kd.int .i64) _ 3 (by rfl) (N:=30) rfl 55 _ _ rfl (l0.length : Int) rfl rfl Try.underlying55 (.int .i64 0) 8 info3 rfl (by decide) (by omega) 0 (ok:=fun _=>True) (okp:=fun _=>True) rfl (fun _ hk=>hk) trivial (yt) (Nat.le_trans (Nat.mul_le_mul_right _ (yt : (l0.length : Int).toNat≤35184372088832)) (by omega)) (Below.refl _ _) (Nat.le_refl _) ?_
    intro aH w13 aY hb hg_ hnew_
    clear hg_ hnew_
    (first|rw [← aV.out] at aY|(simp only [Int.reduceToNat] at aY;rw [← aV.out] at aY))
    replace ax:=yRb ax hb
    have ay:=zm (Kd.R_lower aY (zE yhb))
    replace HB:=ybs hb
    clear hb aY
    refine hK.out _ _ trivial (fun hHeld => ?_)
    clear hK K
    refine ym (some 30) ?_
    exact norm_ (by simp only [putAll,Act.put,List.setIfInBounds_toArray,List.set_cons_zero,List.set_cons_succ]) (hCont (aJ,aH) _ ⟨(yr ax),(yr ay),yhb⟩)
   skip
   refine Kd.R_make_step (Kd.int .i64) _ 3 (by rfl) (N:=30) rfl 55 _ _ rfl (l0.length : Int) rfl rfl Try.underlying55 (.int .i64 0) 8 info3 rfl (by decide) (by omega) 0 (ok:=fun _=>True) (okp:=fun _=>True) rfl (fun _ hk=>hk) trivial (yt) (Nat.le_trans (Nat.mul_le_mul_right _ (yt : (l0.length : Int).toNat≤35184372088832)) (by omega)) (Below.refl _ _) (Nat.le_refl _) ?_
   intro aH w12 aZ hb hg_ hnew_
   clear hg_ hnew_
   (first|rw [← aV.out] at aZ|(simp only [Int.reduceToNat] at aZ;rw [← aV.out] at aZ))
   have ay:=zm (Kd.R_lower aZ (zE yhb))
   replace HB:=ybs hb
   clear hb aZ
   refine hK.out _ _ trivial (fun hHeld => ?_)
   clear hK K
   refine ym (some 30) ?_
   refine one_ (i:=1) (N:=some 27) #[true,true,true,true,true,false,false] rfl rfl (by kernel_rfl) (by decide) (fun K hK => ?_)
   refine ygs Try.func79 #[.slice A0 l0.length c0] ?_
   with_reducible refine (pvq_sizes.calls kj2 _ _ l0 aq _ ?av ?aI A8.out).mono ?_
   (case av=>exact ycb HR0)
   (case aI=>exact HC0.out)
   rintro e w14 ⟨aJ,rfl,ho0,hb⟩
   refine ⟨_,rfl, ?_⟩
   replace ay:=yRb ay hb
   have ax:=zm (Kd.R_lower ho0 (zE yhb))
   replace HB:=ybs hb
   (try clear hb)
   (try clear ho0)
   refine hK.out _ _ trivial (fun hHeld => ?_)
   clear hK K
   refine ym (some 27) ?_
   refine pure_ (i:=5) (N:=some 6) (v := ?_) (a' := ?_) #[true,true,true,true,true,true,false] rfl rfl (by kernel_rfl) (fun _ _ _ h=>h) (Or.inl ⟨by rfl, ?_⟩) ?_ ?_
   rotate_left
   ·
    intro w'
    go_simp
    with_reducible rfl
   rotate_left
   ·
    simp only [Act.put,List.setIfInBounds_toArray,List.set_cons_zero,List.set_cons_succ,i64_w,i32_w]
    rfl
   exact norm_ (by simp only [putAll,Act.put,List.setIfInBounds_toArray,List.set_cons_zero,List.set_cons_succ]) (hCont (aJ,aH) _ ⟨(yr ax),(yr ay),yhb⟩)
  rintro ⟨aJ,aH⟩ w15 ⟨h0_,h1_,h2_⟩
  have n0_ : Aside0 (Kd.R (Kd.int .i64) 2 w15 w.heap.size (fun _=>True) aJ aq):=⟨h0_⟩
  have n1_ : Aside0 (Kd.R (Kd.int .i64) 3 w15 w.heap.size (fun _=>True) aH bf):=⟨h1_⟩
  have n2_ : Aside0 (Below w.heap.size w w15):=⟨h2_⟩
  clear HB h0_ h1_ h2_;have ax:=n0_;have ay:=n1_;have HB:=n2_;clear n0_ n1_ n2_;have hHeld:=trivial
  refine norm_ (a' := ?_) ?_ ?_
  rotate_left
  ·
   simp only [putAll,Act.put,List.setIfInBounds_toArray,List.set_cons_zero,List.set_cons_succ]
   rfl
  refine pure_ (i:=6) (N:=some 7) (v := ?_) (a' := ?_) #[true,true,true,true,true,true,true] rfl rfl (by kernel_rfl) (fun _ _ _ h=>h) (Or.inl ⟨by rfl, ?_⟩) ?_ ?_
  rotate_left
  ·
   intro w'
   go_simp
   with_reducible rfl
  rotate_left
  ·
   simp only [Act.put,List.setIfInBounds_toArray,List.set_cons_zero,List.set_cons_succ,i64_w,i32_w]
   rfl
  refine done_ (by kernel_rfl) ?_
  try go_wp2_with (first|((with_reducible refine gate_dst (N:=8) rfl ?_);refine ybx 8 #[.int .i64 0, .int .i64 0] 117 ?_;intro aw hg w16 hbox hb;replace ax:=yRb ax hb;replace ay:=yRb ay hb;have ac:=zm (hbox);have cO:=ygw hg;have cP:=ygw hg;replace HB:=ybs hb;clear hb hbox hg;obtain ⟨bg,bh,bi,bj⟩:=yc2 ac))
  go_loopg [9,34] kj2 (fun kq v9 v34 w' => ∃ (ap : List Int) (az : Int) (aj : Int) (ak : Int),v9=.func (.func 80) #[.agg #[.int .i64 aj, .int .i64 ak]] #[]∧v34=.int .i64 az∧Aside0 (pvq_Search.l0 kq l0 aq ap a1 az aj ak=some (r1,r2))∧Aside0 (kq≤kj2)∧Aside0 (Kd.R (Kd.int .i64) 2 w' w.heap.size (fun _=>True) aJ aq)∧Aside0 (Kd.R (Kd.int .i64) 3 w' w.heap.size (fun _=>True) aH ap)∧Aside0 (w'.heap[aw]? = some (.cells #[.int .i64 aj, .int .i64 ak] 117 (0,0)))∧Aside0 (Below w.heap.size w w'))
  case atStart=>exact ⟨(bf),(0),(0),(0),yq,yq,H',⟨Nat.le_refl _⟩,⟨yr ax⟩,⟨yr ay⟩,⟨yk ac⟩,⟨yhb⟩⟩
  case round =>
   clear H'
   try clear cp
   try clear cq
   try clear bS
   try clear bT
   try clear bg
   try clear bh
   try clear bi
   try clear bj
   obtain ⟨ap,az,aj,ak,rfl,rfl,HA,HK2,au,af,ac,HB⟩:=hrel
   obtain ⟨k2,rfl⟩:=ysu gk (fun h=>by subst h;exact absurd HA.out (by simp [pvq_Search.l0]))
   have H:=HA.out;clear HA
   simp only [pvq_Search.l0] at H
   by_cases c18 : az < a1
   ·
    rw [if_pos c18] at H
    have a7:=yD c18
    clear c18
    replace H:=yif H;obtain ⟨c19,H⟩:=H
    have bp:=eq_true c19
    have bq : decide (0≤(l0.length : Int))=true:=decide_eq_true c19
    clear c19
    replace H:=yif H;obtain ⟨c20,H⟩:=H
    have br:=eq_true c20
    have bs : decide (((l0.length : Int) : Int).toNat≤17592186044416)=true:=decide_eq_true c20
    clear c20
    obtain ⟨aG,a8⟩ : ∃ y_ : List (S117),y_=(List.replicate ((l0.length : Int) : Int).toNat z117):=⟨_,rfl⟩
    replace H : (pvq_Search.l1 k2 l0 aq ap aG a1 az (aG.length : Int) 0 aj ak)=some (r1,r2):=yrw a8 H
    have bu:=zm a8;clear a8
    have H' := zm H
    clear H
    go_wp2_with (first|((with_reducible refine gate_dst (N:=38) rfl ?_);refine Kd.R_make k117 _ 117 rfl (N:=38) rfl 119 _ _ rfl (l0.length : Int) rfl rfl Try.underlying119 (.agg #[(.int .i64 0),(.int .i64 0)]) 16 info117 rfl (by decide) (by omega) z117 (ok:=fun _=>True) (okp:=fun _=>True) (k117_mkM _ _ _ z117 ) (fun _ hk=>hk) trivial (yt) (Nat.le_trans (Nat.mul_le_mul_right _ (yt : (l0.length : Int).toNat≤17592186044416)) (by omega)) (Below.refl _ _) (Nat.le_refl _) ?_;intro dd w21 a9 hb hg_ hnew_;clear hg_ hnew_;(first|rw [← bu.out] at a9|(simp only [Int.reduceToNat] at a9;rw [← bu.out] at a9));replace au:=yRb au hb;replace af:=yRb af hb;have bv:=zm (Kd.R_lower (Kd.R_newB a9 (g:=aw) (o:=.cells #[.int .i64 aj, .int .i64 ak] 117 (0,0)) (yk ac)) (zE yhb));replace ac:=ybb ac hb;replace HB:=ybs hb;clear hb a9;obtain ⟨bU,bz,cr⟩:=Kd.R_slice bv.out;subst cr))
    go_loopg [41] k2 (fun kq v41 w' => ∃ (ag : List (S117)) (aa : Int) (al : Int) (am : Int),v41=.int .i64 aa∧Aside0 (al=aj)∧Aside0 (am=ak)∧Aside0 (pvq_Search.l1 kq l0 aq ap ag a1 az (aG.length : Int) aa al am=some (r1,r2))∧Aside0 (kq≤k2)∧Aside0 (Kd.R (Kd.int .i64) 2 w' w.heap.size (fun _=>True) aJ aq)∧Aside0 (Kd.R (Kd.int .i64) 3 w' w.heap.size (fun _=>True) aH ap)∧Aside0 (Kd.R k117 117 w' w.heap.size (fun k_=>k_≠aw) (.slice bU aG.length bz) ag)∧Aside0 (w'.heap[aw]? = some (.cells #[.int .i64 al, .int .i64 am] 117 (0,0)))∧Aside0 (Below w.heap.size w w'))
    case atStart=>exact ⟨(aG),(0),(aj),(ak),yq,⟨rfl⟩,⟨rfl⟩,H',⟨Nat.le_refl _⟩,⟨yr au⟩,⟨yr af⟩,⟨yR0 bv⟩,⟨yk ac⟩,⟨yhb⟩⟩
    case round =>
     clear H'
     try clear a7
     try clear bp
     try clear bq
     try clear br
     try clear bs
     obtain ⟨ag,aa,al,am,rfl,hq0,hq1,HA,HK3,au,af,ah,ac,HB⟩:=hrel
     have ao:=(Kd.R_reads' ah.out).1
     rw [ao] at ah
     (try simp only [ao])
     (try simp only [ao] at ac)
     (try simp only [ao] at au)
     (try simp only [ao] at af)
     obtain ⟨k3,rfl⟩:=ysu gk (fun h=>by subst h;exact absurd HA.out (by simp [pvq_Search.l1]))
     have H:=HA.out;clear HA
     simp only [pvq_Search.l1] at H
     by_cases c24 : aa < (aG.length : Int)
     ·
      rw [if_pos c24] at H
      have bw:=yD c24
      clear c24
      replace H:=yif H;obtain ⟨c25,H⟩:=H
      have cQ : decide (0≤aa)=true:=decide_eq_true c25
      clear c25
      replace H:=yif H;obtain ⟨c26,H⟩:=H
      have cR : decide (aa < (aq.length : Int))=true:=decide_eq_true c26
      clear c26
      replace H:=yif H;obtain ⟨c27,H⟩:=H
      have cS : decide (aa < (ap.length : Int))=true:=decide_eq_true c27
      clear c27
      replace H:=ybi H;obtain ⟨⟨aM,aN⟩,A28,H⟩:=H
      try dsimp only at H
      replace H:=yif H;obtain ⟨c29,H⟩:=H
      have cT : decide (aa < (ag.length : Int))=true:=decide_eq_true c29
      clear c29
      obtain ⟨bV,ba⟩ : ∃ y_ : List (S117),y_=(ag.set (aa : Int).toNat (⟨aM,aN⟩ : S117)):=⟨_,rfl⟩
      replace H : (pvq_Search.l1 k3 l0 aq ap bV a1 az (aG.length : Int) (wrap64 (aa+1)) al am)=some (r1,r2):=yrw ba H
      have bW:=zm ba;clear ba
      have H' := zm H
      clear H
      try go_wp2
      replace au:=zm (zq au.out)
      replace af:=zm (zq af.out)
      replace ah:=zm (zq ah.out)
      replace ac:=zm (zj ac.out)
      replace HB:=zm (zf HB.out)
      obtain ⟨de,df,bX⟩:=Kd.R_slice au.out
      (first|subst bX|(injection bX with f1_ f2_ f3_;have f4_:=f1_.symm;have f5_:=f3_.symm;clear f1_ f2_ f3_;subst f4_;subst f5_))
      have bA : 0≤(aa : Int):=yt
      have bB : aa < (aq.length : Int):=yt
      obtain ⟨bY,ct,bk⟩:=Kd.at_int (Kd.R_reads' au.out).2.2 aa bA bB
      cases ct
      replace bA:=eq_true bA
      replace bB:=eq_true bB
      obtain ⟨dg,dh,bZ⟩:=Kd.R_slice af.out
      (first|subst bZ|(injection bZ with f1_ f2_ f3_;have f4_:=f1_.symm;have f5_:=f3_.symm;clear f1_ f2_ f3_;subst f4_;subst f5_))
      have bC : 0≤(aa : Int):=yt
      have bD : aa < (ap.length : Int):=yt
      obtain ⟨b4,cu,bl⟩:=Kd.at_int (Kd.R_reads' af.out).2.2 aa bC bD
      cases cu
      replace bC:=eq_true bC
      replace bD:=eq_true bD
      refine yst (fun w' => w'.cell? ⟨aw,0,none⟩=some (.int .i64 al)∧w'.cell? ⟨aw,1,none⟩=some (.int .i64 am)∧w'.cell? (bY.add (aa).toNat)=some (.int .i64 (rd aq aa))∧w'.cell? (b4.add (aa).toNat)=some (.int .i64 (rd ap aa))) [13] 14 pvq_Search.tab12 pvq_Search.bits12 (fun hHeld HT_ HW_ => ?_)
      generalize wr.drew=w31 at au af ah ac HB bk bl hHeld ⊢
      refine yp 0 44 HT_ ?_
      refine yp 1 45 HT_ ?_
      refine yp 3 47 HT_ ?_
      refine yp 4 48 HT_ ?_
      refine yp 5 49 HT_ ?_
      refine yp 7 51 HT_ ?_
      refine yp 8 52 HT_ ?_
      refine yp 9 53 HT_ ?_
      refine yp 2 46 HT_ ?_
      refine yl 6 50 HT_ HW_ hHeld ?_
      refine yl 10 54 HT_ HW_ hHeld ?_
      refine yw 11 55 HT_ (fun K hK => ?_)
      refine call_ 80 #[.agg #[.int .i64 al, .int .i64 am], .int .i64 (rd aq aa), .int .i64 (rd ap aa)] (by rfl) rfl ?hrun ?_
      (case hrun =>
       have he:=fun x W=>enters_ Try.func80 (by kernel_rfl) rfl x W
       rw [hq0.out,hq1.out]
       unfold execOp
       simp [resolve,Deferred.ofValue,invoke,Act.eval,he])
      with_reducible refine (pvq_with.calls al am (rd aq aa) (rd ap aa) aM aN _ A28.out).mono ?_
      rintro e w34 ⟨rfl,hb⟩
      have di:=yhs hb hHeld.2.2.1
      have dj:=yhs hb hHeld.2.2.2
      refine ⟨_,rfl, ?_⟩
      replace au:=yRb au hb
      replace af:=yRb af hb
      replace ah:=yRb ah hb
      replace ac:=ybb ac hb
      replace HB:=ybs hb
      (try clear hb)
      have p30 : 0≤(aa : Int):=yt
      have q30 : (aa : Int) < ((ag.length : Int) : Int):=yt
      obtain ⟨aK,dk,b5,b6,cv,dl,b7⟩:=Kd.R_form ah.out (by omega)
      (first|cases b5|(injection b5 with ea_ en_ ec_;(first|subst ea_|(injection ea_ with ea_;subst ea_));subst ec_;clear en_))
      have dm:=zm b6;have b8:=zm b7;clear b6 cv b7
      obtain ⟨ce30,hcl30,hM30,hcc30,hfr30⟩:=Kd.R_elem ah.out z117 (aa : Int) p30 q30
      obtain rfl:=k117_openM hM30
      have cw : World.cell? _ ⟨aK,(aa : Int).toNat * 2,none⟩=some (.int .i64 ((rd_T117 ag aa).f0)):=hcc30 0 _ rfl
      have cx : World.cell? _ ⟨aK,(aa : Int).toNat * 2+1,none⟩=some (.int .i64 ((rd_T117 ag aa).f1)):=hcc30 1 _ rfl
      have cy : World.frozen? _ ⟨aK,(aa : Int).toNat * 2,none⟩=false:=hfr30 0
      have cz : World.frozen? _ ⟨aK,(aa : Int).toNat * 2+1,none⟩=false:=hfr30 1
      clear hcl30 hcc30 hfr30 hM30
      replace p30:=eq_true p30
      replace q30:=eq_true q30
      obtain ⟨ce35,hcl35,hM35,hcc35,hfr35⟩:=Kd.R_elem ah.out z117 (aa : Int) (yt) (by have h_ : (aa : Int) < ((ag.length : Int) : Int):=yt;first|exact h_|(have e_:=(Kd.R_reads' ah.out).1;omega)|simpa using h_)
      obtain rfl:=k117_openM hM35
      have bE:=(Kd.R_seg ah.out (aa : Int) (yt) (by have h_ : (aa : Int) < ((ag.length : Int) : Int):=yt;first|exact h_|(have e_:=(Kd.R_reads' ah.out).1;omega)|simpa using h_) (seg := [.int .i64 aM, .int .i64 aN]) (j:=0) hcl35 hcc35 (show 2≤2 from by decide) (x' := (⟨aM,aN⟩ : S117)) (k117_mkM _ _ _ (⟨aM,aN⟩ : S117) ) (fun _ hk=>hk)).1
      rw [← bW.out] at bE
      have HQ35:=zm bE;clear hcl35 hcc35 hfr35 hM35 bE
      refine hK.out _ _ yH (fun hHeld => ?_)
      clear hK K
      refine ym (some 55) ?_
      refine yp 12 56 HT_ ?_
      refine last_ (i:=13) (N:=none) #[true,true,true,true,true,true,true,true,true,true,true,true,true,true] rfl rfl (one_of HT_.out (by kernel_rfl)) (by decide) (fun K hK => ?_)
      refine skip_ (w1 := ?_) (by rfl) rfl ?_ ?_
      rotate_left
      ·
       go_simp
       rfl
      refine hK.out _ _ ?_
      clear hK K
      refine done_ (done_of HT_.out (by kernel_rfl)) ?_
      try go_wp2
      (try simp only [← ao])
      go_roundg k3
      case measure=>exact yom3 HJ2 HK2 HK3
      case rel=>exact ⟨(bV),(wrap64 (aa+1)),(al),(am),yq,hq0,hq1,H',⟨yom3 HJ2 HK2 HK3⟩,⟨by (try simp only [ao]);(with_reducible repeat (first|apply zo|apply zp|apply zq));exact zG (zH (p:=⟨aK,(aa : Int).toNat * 2+1,none⟩) (zH (p:=⟨aK,(aa : Int).toNat * 2,none⟩) (Kd.R_types au.out b8.out (by decide)) (fun _ hk=>hk.2) (.int .i64 aM)) (fun _ hk=>hk.2) (.int .i64 aN)) (fun _ hk=>trivial)⟩,⟨by (try simp only [ao]);(with_reducible repeat (first|apply zo|apply zp|apply zq));exact zG (zH (p:=⟨aK,(aa : Int).toNat * 2+1,none⟩) (zH (p:=⟨aK,(aa : Int).toNat * 2,none⟩) (Kd.R_types af.out b8.out (by decide)) (fun _ hk=>hk.2) (.int .i64 aM)) (fun _ hk=>hk.2) (.int .i64 aN)) (fun _ hk=>trivial)⟩,⟨by (try simp only [ao]);(with_reducible repeat (first|apply zo|apply zp|apply zq));exact HQ35.out⟩,⟨by (try simp only [ao]);(with_reducible repeat (first|refine zh ?_ _|refine zj ?_|refine zi ?_ _));refine zv ?_ (by have h_:=Kd.R_away ah.out (fun _ hk=>hk);intro e_;exact h_ (by rw [e_];rfl)) _;(with_reducible repeat (first|refine zh ?_ _|refine zj ?_|refine zi ?_ _));refine zv ?_ (by have h_:=Kd.R_away ah.out (fun _ hk=>hk);intro e_;exact h_ (by rw [e_];rfl)) _;(with_reducible repeat (first|refine zh ?_ _|refine zj ?_|refine zi ?_ _));exact ac.out⟩,⟨yhb⟩⟩
     rw [if_neg c24] at H
     have bw:=yG c24
     have c24x0 : decide (aa < (ag.length : Int))=false:=by rw [← ao];exact bw
     clear c24
     replace H:=ybi H;obtain ⟨ai,A36,H⟩:=H
     replace H:=yif H;obtain ⟨c37,H⟩:=H
     have cU : decide (0≤ai)=true:=decide_eq_true c37
     clear c37
     replace H:=yif H;obtain ⟨c38,H⟩:=H
     have cV : decide (ai < (ag.length : Int))=true:=decide_eq_true c38
     clear c38
     replace H:=yif H;obtain ⟨c39,H⟩:=H
     have cW : decide (ai < (ap.length : Int))=true:=decide_eq_true c39
     clear c39
     obtain ⟨bF,bb⟩ : ∃ y_ : List Int,y_=(ap.set (ai : Int).toNat (wrap64 ((rd ap ai)+1))):=⟨_,rfl⟩
     replace H : (pvq_Search.l0 k3 l0 aq bF a1 (wrap64 (az+1)) ((rd_T117 ag ai).f0) ((rd_T117 ag ai).f1))=some (r1,r2):=yrw bb H
     have b9:=zm bb;clear bb
     have H' := zm H
     clear H
     go_wp2_with (first|((with_reducible refine gate_callee (f:=81) rfl ?_);refine ygl 59 Try.func81 #[.slice bU ag.length bz] ?_;(with_reducible refine (pvq_best.calls k3 _ _ ag ai _ ?av ?aI A36.out).mono ?_);(case av=>exact yce (Kd.R_reads' ah.out).2.2);(case aI=>exact (Kd.R_reads' ah.out).2.1);rintro e w41 ⟨rfl,hb⟩;refine ⟨_,rfl, ?_⟩;replace au:=yRb au hb;replace af:=yRb af hb;replace ah:=yRb ah hb;replace ac:=ybb ac hb;replace HB:=ybs hb;(try clear hb);have bG : 0≤(ai : Int):=yt;have bH : ai < (ag.length : Int):=yt;obtain ⟨ca,cA,cn,co⟩:=at_T117 (Kd.R_reads' ah.out).2.2 ai bG bH;cases cA;replace bG:=eq_true bG;replace bH:=eq_true bH;obtain ⟨_,_,_,_⟩:=yc2 ac)|((with_reducible refine gate_store (t:=117) (p:=8) rfl ?_);refine store_event (t:=117) (p:=8) (v := ?vo_w43) (w1:=((w41.setCell ⟨aw,0,none⟩ (.int .i64 ((rd_T117 ag ai).f0))).setCell ⟨aw,1,none⟩ (.int .i64 ((rd_T117 ag ai).f1)))) ?hg ?ho ?hn ?hr ?_;(case ho=>rfl);(case hg=>rfl);(case hn=>rfl);(case hr=>first|(go_simp;done)|(go_simp;rfl));intro w43 hw;replace au : Aside0 (Kd.R (Kd.int .i64) 2 w43 w.heap.size (fun _=>True) aJ aq):=⟨(by rw [hw];exact (yR1 au ac))⟩;replace af : Aside0 (Kd.R (Kd.int .i64) 3 w43 w.heap.size (fun _=>True) aH ap):=⟨(by rw [hw];exact (yR1 af ac))⟩;replace ah : Aside0 (Kd.R k117 117 w43 w.heap.size (fun k_=>k_≠aw) (.slice (some ca) ag.length bz) ag):=⟨(by rw [hw];exact (yR0 ah))⟩;replace ac : Aside0 (w43.heap[aw]? = some (.cells #[.int .i64 ((rd_T117 ag ai).f0), .int .i64 ((rd_T117 ag ai).f1)] 117 (0,0))):=⟨(by rw [hw];exact (ykp ac))⟩;replace HB : Aside0 (Below w.heap.size w w43):=⟨(by rw [hw];exact yhb)⟩;clear hw;obtain ⟨_,_,_,_⟩:=yc2 ac;obtain ⟨dp,bI,cB⟩:=Kd.R_slice af.out;subst cB;have bJ : 0≤(ai : Int):=yt;have bK : ai < (ap.length : Int):=yt;obtain ⟨cX,cC,bm⟩:=Kd.at_int (Kd.R_reads' af.out).2.2 ai bJ bK;cases cC;replace bJ:=eq_true bJ;replace bK:=eq_true bK;have p40 : 0≤(ai : Int):=yt;have q40 : (ai : Int) < ((ap.length : Int) : Int):=yt;obtain ⟨bc,dq,cb,ce,cD,dr,cf⟩:=Kd.R_form af.out (by omega);(first|cases cb|(injection cb with ea_ en_ ec_;(first|subst ea_|(injection ea_ with ea_;subst ea_));subst ec_;clear en_));have cE:=zm ce;have dt:=zm cf;clear ce cD cf;(first|simp only [add_plain] at bm|skip);obtain ⟨cF,cG⟩:=Kd.R_celln 0 af.out (ai : Int) p40 q40;replace p40:=eq_true p40;replace q40:=eq_true q40;obtain ⟨cY,hz46_⟩:=Kd.R_celln 0 af.out (ai : Int) (yt) (yt);have bL:=Kd.R_putg af.out (ai : Int) (wrap64 ((rd ap ai)+1)))|((with_reducible refine gate_store (t:=3) (p:=71) rfl ?_);refine store_event (t:=3) (p:=71) (v := ?vo_w47) (w1:=(w43.setCell ⟨bc,(ai : Int).toNat,none⟩ (.int .i64 (wrap64 ((rd ap ai)+1))))) ?hg ?ho ?hn ?hr ?_;(case ho=>rfl);(case hg=>rfl);(case hn=>rfl);(case hr=>first|(go_simp;done)|(go_simp;rfl));intro w47 hw;have hg : w43.grownBy w47 (some bc):=(by rw [hw];exact bL.2);have hp_ : Kd.R (Kd.int .i64) 3 w47 w.heap.size (fun _=>True) (.slice (some ⟨bc,0,none⟩) ap.length bI) bF:=(by rw [hw,b9.out];exact bL.1);clear bL;replace au:=zm (Kd.R_over' (v:=(.slice (some ⟨bc,0,none⟩) ap.length bI)) (yr au) (Kd.R_typed af.out) (by decide) hg);replace ah:=zm (Kd.R_over' (v:=(.slice (some ⟨bc,0,none⟩) ap.length bI)) (yr ah) (Kd.R_typed af.out) (by decide) hg);replace ac:=zm (blk_grown (yk ac) hg (zu af.out ac.out (by decide)));replace af:=zm (hp_);replace HB:=zm ((by rw [hw];exact zk (HB.out) cE.out : Below w.heap.size w w47));clear hg hw hp_))
     (try simp only [← ao])
     go_roundg k3
     case measure=>exact yom3 HJ2 HK2 HK3
     case rel=>exact ⟨(bF),(wrap64 (az+1)),((rd_T117 ag ai).f0),((rd_T117 ag ai).f1),yq,yq,H',⟨yom3 HJ2 HK2 HK3⟩,⟨by (try simp only [ao]);(with_reducible repeat (first|apply zo|apply zp|apply zq));exact au.out⟩,⟨by (try simp only [ao]);(with_reducible repeat (first|apply zo|apply zp|apply zq));exact af.out⟩,⟨by (try simp only [ao]);(with_reducible repeat (first|refine zh ?_ _|refine zj ?_|refine zi ?_ _));exact ac.out⟩,⟨yhb⟩⟩
   rw [if_neg c18] at H
   have a7:=yG c18
   clear c18
   have H' := zm H
   clear H
   go_wp2
   go_loopg [75] k2 (fun kq v75 w' => ∃ (aC : List Int) (ae : Int),v75=.int .i64 ae∧Aside0 (pvq_Search.l2 kq aC l0 (l0.length : Int) ae=some (r1,r2))∧Aside0 (kq≤k2)∧Aside0 (Kd.R (Kd.int .i64) 3 w' w.heap.size (fun _=>True) aH aC)∧Aside0 (w'.heap[aw]? = some (.cells #[.int .i64 aj, .int .i64 ak] 117 (0,0)))∧Aside0 (Below w.heap.size w w'))
   case atStart=>exact ⟨(ap),(0),yq,H',⟨Nat.le_refl _⟩,⟨yr af⟩,⟨yk ac⟩,⟨yhb⟩⟩
   case round =>
    clear H'
    try clear a7
    try clear bp
    try clear bq
    try clear br
    try clear bs
    obtain ⟨aC,ae,rfl,HA,HK3,af,ac,HB⟩:=hrel
    obtain ⟨k3,rfl⟩:=ysu gk (fun h=>by subst h;exact absurd HA.out (by simp [pvq_Search.l2]))
    have H:=HA.out;clear HA
    simp only [pvq_Search.l2] at H
    by_cases c48 : ae < (l0.length : Int)
    ·
     rw [if_pos c48] at H
     have cg:=yD c48
     clear c48
     replace H:=yif H;obtain ⟨c49,H⟩:=H
     have cZ : decide (0≤ae)=true:=decide_eq_true c49
     clear c49
     replace H:=yif H;obtain ⟨c50,H⟩:=H
     have da : decide (ae < (l0.length : Int))=true:=decide_eq_true c50
     clear c50
     by_cases c51 : (rd l0 ae) < 0
     ·
      rw [if_pos c51] at H
      have ch:=yD c51
      clear c51
      replace H:=yif H;obtain ⟨c52,H⟩:=H
      have db : decide (ae < (aC.length : Int))=true:=decide_eq_true c52
      clear c52
      obtain ⟨bM,bd⟩ : ∃ y_ : List Int,y_=(aC.set (ae : Int).toNat (wrap64 (-(rd aC ae)))):=⟨_,rfl⟩
      replace H : (pvq_Search.l2 k3 bM l0 (l0.length : Int) (wrap64 (ae+1)))=some (r1,r2):=yrw bd H
      have ci:=zm bd;clear bd
      have H' := zm H
      clear H
      have aQ : 0≤(ae : Int):=yt
      have aT : ae < (l0.length : Int):=yt
      obtain ⟨cj,bN,aA⟩:=Kd.at_int HR0.out ae aQ aT
      cases bN
      replace aA:=yhx HB aA
      replace aQ:=eq_true aQ
      replace aT:=eq_true aT
      obtain ⟨du,cH,cI⟩:=Kd.R_slice af.out
      subst cI
      have bO : 0≤(ae : Int):=yt
      have bP : ae < (aC.length : Int):=yt
      obtain ⟨dc,cJ,bn⟩:=Kd.at_int (Kd.R_reads' af.out).2.2 ae bO bP
      cases cJ
      replace bO:=eq_true bO
      replace bP:=eq_true bP
      have p53 : 0≤(ae : Int):=yt
      have q53 : (ae : Int) < ((aC.length : Int) : Int):=yt
      obtain ⟨bQ,dv,ck,cl,cK,dw,cm⟩:=Kd.R_form af.out (by omega)
      (first|cases ck|(injection ck with ea_ en_ ec_;(first|subst ea_|(injection ea_ with ea_;subst ea_));subst ec_;clear en_))
      have cL:=zm cl;have dx:=zm cm;clear cl cK cm
      (first|simp only [add_plain] at bn|skip)
      obtain ⟨cM,cN⟩:=Kd.R_celln 0 af.out (ae : Int) p53 q53
      replace p53:=eq_true p53
      replace q53:=eq_true q53
      have bR:=Kd.R_putg af.out (ae : Int) (wrap64 (-(rd aC ae)))
      go_wp2_with (first|((with_reducible refine gate_store (t:=3) (p:=89) rfl ?_);refine store_event (t:=3) (p:=89) (v := ?vo_w56) (w1:=(wr.setCell ⟨bQ,(ae : Int).toNat,none⟩ (.int .i64 (wrap64 (-(rd aC ae)))))) ?hg ?ho ?hn ?hr ?_;(case ho=>rfl);(case hg=>rfl);(case hn=>rfl);(case hr=>first|(go_simp;done)|(go_simp;rfl));intro w56 hw;have hg : wr.grownBy w56 (some bQ):=(by rw [hw];exact bR.2);have hp_ : Kd.R (Kd.int .i64) 3 w56 w.heap.size (fun _=>True) (.slice (some ⟨bQ,0,none⟩) aC.length cH) bM:=(by rw [hw,ci.out];exact bR.1);clear bR;replace ac:=zm (blk_grown (yk ac) hg (zu af.out ac.out (by decide)));replace af:=zm (hp_);replace HB:=zm ((by rw [hw];exact zk (HB.out) cL.out : Below w.heap.size w w56));clear hg hw hp_))
      go_roundg k3
      case measure=>exact yom3 HJ2 HK2 HK3
      case rel=>exact ⟨(bM),(wrap64 (ae+1)),yq,H',⟨yom3 HJ2 HK2 HK3⟩,⟨yr af⟩,⟨yk ac⟩,⟨yhb⟩⟩
     rw [if_neg c51] at H
     have ch:=yG c51
     clear c51
     have H' := zm H
     clear H
     have aQ : 0≤(ae : Int):=yt
     have aT : ae < (l0.length : Int):=yt
     obtain ⟨cj,bN,aA⟩:=Kd.at_int HR0.out ae aQ aT
     cases bN
     replace aA:=yhx HB aA
     replace aQ:=eq_true aQ
     replace aT:=eq_true aT
     go_wp2
     go_roundg k3
     case measure=>exact yom3 HJ2 HK2 HK3
     case rel=>exact ⟨(aC),(wrap64 (ae+1)),yq,H',⟨yom3 HJ2 HK2 HK3⟩,⟨yr af⟩,⟨yk ac⟩,⟨yhb⟩⟩
    rw [if_neg c48] at H
    have cg:=yG c48
    clear c48
    simp only [Option.some.injEq,Prod.mk.injEq] at H
    obtain ⟨rfl,rfl⟩:=H
    go_wp2
    go_ret2
    exact ⟨_,ye,yr af,yhb⟩
mutual
def ccodec_Encode.l0 : Nat→Int→Int→List (List Int)→Int→Int→List (List Int)→Bool→List (List Int)→Option (Bool × (List (List Int)) × (List (List (List Int))) × Int)
 | 0,_,_,_,_,_,_,_,_=>none
 | k+1,x0,x1,x35,x36,x37,ba,aA,ay=>if x37 < x36 then (if 0≤x37 then (if x37 < (x35.length : Int) then ((band_Gains.f k (rd_L1 x35 x37)).bind fun cK=>(if ay.length < 5864062014805 then (ccodec_Encode.l0 k x0 x1 x35 x36 (wrap64 (x37+1)) ba aA (ay ++ [cK.1])) else (none))) else (none)) else (none)) else ((alloc_Pulses.f k x0 x1 ay).bind fun cL=>(ccodec_Encode.l1 k cL.1 ba (ba.length : Int) 0 aA ay ([] : List (List (List Int)))))
def ccodec_Encode.l1 : Nat→List (List Int)→List (List Int)→Int→Int→Bool→List (List Int)→List (List (List Int))→Option (Bool × (List (List Int)) × (List (List (List Int))) × Int)
 | 0,_,_,_,_,_,_,_=>none
 | k+1,x15,x62,x63,x64,aA,ay,aV=>if x64 < x63 then (if 0≤x64 then (if x64 < (x62.length : Int) then ((band_Split.f k (rd_L1 x62 x64)).bind fun cu=>(ccodec_Encode.l2 k x15 x64 ([] : List (List Int)) x62 x63 x64 cu.1 (cu.1.length : Int) 0 aA ay aV)) else (none)) else (none)) else (some (aA,ay,aV,0))
def ccodec_Encode.l2 : Nat→List (List Int)→Int→List (List Int)→List (List Int)→Int→Int→List (List Int)→Int→Int→Bool→List (List Int)→List (List (List Int))→Option (Bool × (List (List Int)) × (List (List (List Int))) × Int)
 | 0,_,_,_,_,_,_,_,_,_,_,_,_=>none
 | k+1,x15,x17,x21,x62,x63,x64,x74,x75,x76,aA,ay,aV=>if x76 < x75 then (if 0≤x76 then (if x76 < (x74.length : Int) then (if 0≤x17 then (if x17 < (x15.length : Int) then (if x76 < ((rd_L2 x15 x17).length : Int) then ((pvq_Search.f k (rd_L1 x74 x76) (rd (rd_L2 x15 x17) x76)).bind fun cM=>(if x21.length < 5864062014805 then (ccodec_Encode.l2 k x15 x17 (x21 ++ [cM.1]) x62 x63 x64 x74 x75 (wrap64 (x76+1)) aA ay aV) else (none))) else (none)) else (none)) else (none)) else (none)) else (none)) else (if aV.length < 5864062014805 then (ccodec_Encode.l1 k x15 x62 x63 (wrap64 (x64+1)) aA ay (aV ++ [x21])) else (none))
end
def ccodec_Encode.f (k : Nat) (a0 : Int) (a1 : Int) (am : List (List Int)) (a3 : Bool) : Option (Bool × (List (List Int)) × (List (List (List Int))) × Int):=(ccodec_Right.f k a0 a1 am).bind fun cB=>(if cB=true then (ccodec_Encode.l0 k a0 a1 am (am.length : Int) 0 am a3 ([] : List (List Int))) else (some (false,([] : List (List Int)),([] : List (List (List Int))),1)))
theorem ccodec_Encode.mono_l : ∀ k,(∀ y0 y1 y2 y3 y4 y5 y6 y7,LeO (ccodec_Encode.l0 k y0 y1 y2 y3 y4 y5 y6 y7) (ccodec_Encode.l0 (k+1) y0 y1 y2 y3 y4 y5 y6 y7))∧(∀ y0 y1 y2 y3 y4 y5 y6,LeO (ccodec_Encode.l1 k y0 y1 y2 y3 y4 y5 y6) (ccodec_Encode.l1 (k+1) y0 y1 y2 y3 y4 y5 y6))∧(∀ y0 y1 y2 y3 y4 y5 y6 y7 y8 y9 y10 y11,LeO (ccodec_Encode.l2 k y0 y1 y2 y3 y4 y5 y6 y7 y8 y9 y10 y11) (ccodec_Encode.l2 (k+1) y0 y1 y2 y3 y4 y5 y6 y7 y8 y9 y10 y11))
 | 0=>⟨fun _ _ _ _ _ _ _ _ r h=>by simp [ccodec_Encode.l0] at h,fun _ _ _ _ _ _ _ r h=>by simp [ccodec_Encode.l1] at h,fun _ _ _ _ _ _ _ _ _ _ _ _ r h=>by simp [ccodec_Encode.l2] at h⟩
 | k+1=>by
  obtain ⟨ih0,ih1,ih2⟩:=ccodec_Encode.mono_l k
  refine ⟨?_, ?_, ?_⟩
  ·
   intro y0 y1 y2 y3 y4 y5 y6 y7
   unfold ccodec_Encode.l0
   repeat' with_reducible first|apply ih0|apply ih1|apply ih2|apply alloc_Pulses.mono|apply band_Gains.mono|apply band_Split.mono|apply ccodec_Right.mono|apply pvq_Search.mono|apply yLr|apply yLn|apply yLi|apply yLb|intro _
  ·
   intro y0 y1 y2 y3 y4 y5 y6
   unfold ccodec_Encode.l1
   repeat' with_reducible first|apply ih0|apply ih1|apply ih2|apply alloc_Pulses.mono|apply band_Gains.mono|apply band_Split.mono|apply ccodec_Right.mono|apply pvq_Search.mono|apply yLr|apply yLn|apply yLi|apply yLb|intro _
  intro y0 y1 y2 y3 y4 y5 y6 y7 y8 y9 y10 y11
  unfold ccodec_Encode.l2
  repeat' with_reducible first|apply ih0|apply ih1|apply ih2|apply alloc_Pulses.mono|apply band_Gains.mono|apply band_Split.mono|apply ccodec_Right.mono|apply pvq_Search.mono|apply yLr|apply yLn|apply yLi|apply yLb|intro _
theorem ccodec_Encode.mono : ∀ a0 a1 a2 a3 k,LeO (ccodec_Encode.f k a0 a1 a2 a3) (ccodec_Encode.f (k+1) a0 a1 a2 a3):=by
 intro a0 a1 a2 a3 k
 obtain ⟨ih0,ih1,ih2⟩:=ccodec_Encode.mono_l k
 unfold ccodec_Encode.f
 repeat' with_reducible first|apply ih0|apply ih1|apply ih2|apply alloc_Pulses.mono|apply band_Gains.mono|apply band_Split.mono|apply ccodec_Right.mono|apply pvq_Search.mono|apply yLr|apply yLn|apply yLi|apply yLb|intro _
set_option maxHeartbeats 8000000 in
set_option maxRecDepth 100000 in
theorem ccodec_Encode.calls (k : Nat) (a0 : Int) (a1 : Int) (bi : Option Addr) (bb : Nat) (am : List (List Int)) (a3 : Bool) (r1 : Bool) (r2 : List (List Int)) (r3 : List (List (List Int))) (r4 : Int) (w : World) (hr2_0 : Kd.C (Kd.slice 2 (Kd.int .i64)) w bi am.length am) (hc2_0 : am.length≤bb) (h : ccodec_Encode.f k a0 a1 am a3=some (r1,r2,r3,r4)) :
  Calls Try.prog 13 #[.int .i64 a0, .int .i64 a1, .agg #[.slice bi am.length bb], .bool a3] w fun e w' => ∃ v1_ v2_ : Value,e=.returned (.tuple #[.agg #[.bool r1,v1_,v2_], .int .i64 r4])∧Kd.N (Kd.slice 3 (Kd.int .i64)) 55 w' w.heap.size (fun k_=>(w.heap.size≤k_)∧some k_≠(v2_ : Value).ownBlock) v1_ r2∧Kd.N (Kd.slice 55 (Kd.slice 3 (Kd.int .i64))) 25 w' w.heap.size (fun k_=>(w.heap.size≤k_)∧some k_≠(v1_ : Value).ownBlock) v2_ r3∧Below w.heap.size w w' := by
 have hu24:=Try.underlying24;have hu31:=Try.underlying31;have bl:=zm hr2_0;have cv:=zm hc2_0;clear hr2_0 hc2_0;have HB:=zm (Below.refl w.heap.size w);have H:=h
 unfold ccodec_Encode.f at H
 clear h
 replace H:=ybi H;obtain ⟨cB,A5,H⟩:=H
 by_cases c6 : cB=true
 ·
  subst c6
  rw [if_pos rfl] at H
  have H' := zm H
  clear H
  go_enter Try.func13,Try.ntmps13
  go_wp2_with (first|((with_reducible refine gate_dst (N:=6) rfl ?_);refine ybx 6 #[.slice bi am.length bb] 24 ?_;intro ak hg w7 hbox hb;have ae:=zm (hbox);have cN:=ygw hg;have cO:=ygw hg;replace HB:=ybs hb;clear hb hbox hg)|((with_reducible refine gate_dst (N:=8) rfl ?_);refine ybx 8 #[.bool false, .slice none 0 0, .slice none 0 0] 31 ?_;intro aj hg w8 hbox hb;have af:=zm (hbox);have cP:=ygw hg;have cQ:=ygw hg;replace HB:=ybs hb;have aD:=ynl ae hg;have aE:=yng ae hg;replace ae:=ybb ae hb;clear hb hbox hg;have:=aD.out;have:=aE.out;obtain ⟨bB,bC⟩:=yc1 ae)|((with_reducible refine gate_callee (f:=20) rfl ?_);refine ygl 29 Try.func20 #[.int .i64 a0, .int .i64 a1, .agg #[.slice bi am.length bb]] ?_;(with_reducible refine (ccodec_Right.calls k a0 a1 _ _ am true _ ?aT cv.out A5.out).mono ?_);(case aT=>exact ycb bl);rintro e w11 ⟨rfl,hb⟩;refine ⟨_,rfl, ?_⟩;replace ae:=ybb ae hb;replace af:=ybb af hb;replace HB:=ybs hb;(try clear hb))|((with_reducible refine gate_dst (N:=10) rfl ?_);refine ybx 10 #[.bool false, .slice none 0 0, .slice none 0 0] 31 ?_;intro al hg w12 hbox hb;have ai:=zm (hbox);have dL:=ygw hg;have dM:=ygw hg;replace HB:=ybs hb;have aG:=ynl ae hg;have aH:=yng ae hg;replace ae:=ybb ae hb;have aI:=ynl af hg;have aJ:=yng af hg;replace af:=ybb af hb;clear hb hbox hg;have:=aH.out;have:=aG.out;have:=aJ.out;have:=aI.out;obtain ⟨bD,bE,bF,bG,bH,bI⟩:=yc3 ai;obtain ⟨bJ,bK⟩:=yc1 ae))
  go_loopg [37] k (fun kq v37 w' => ∃ (aK : Int) (aa : List (List Int)) (aQ : Value),v37=.int .i64 aK∧Aside0 (ccodec_Encode.l0 kq a0 a1 am (am.length : Int) aK am a3 aa=some (r1,r2,r3,r4))∧Aside0 (kq≤k)∧Aside0 (Kd.N (Kd.slice 3 (Kd.int .i64)) 55 w' w.heap.size (fun k_=>(w.heap.size≤k_)∧k_≠ak∧k_≠aj∧k_≠al) aQ aa)∧Aside0 (w'.heap[ak]? = some (.cells #[(.slice bi am.length bb)] 24 (0,0)))∧Aside0 (w'.heap[aj]? = some (.cells #[.bool false,(.slice none 0 0),(.slice none 0 0)] 31 (0,0)))∧Aside0 (w'.heap[al]? = some (.cells #[.bool a3,aQ,(.slice none 0 0)] 31 (0,0)))∧Aside0 (Below w.heap.size w w'))
  case atStart=>exact ⟨(0),(([] : List (List Int))),(.slice none 0 0),yq,H',⟨Nat.le_refl _⟩,⟨yn⟩,⟨yk ae⟩,⟨yk af⟩,⟨ykp ai⟩,⟨yhb⟩⟩
  case round =>
   clear H'
   try clear bB
   try clear bD
   try clear bE
   try clear bF
   try clear bJ
   try clear bC
   try clear bG
   try clear bH
   try clear bI
   try clear bK
   obtain ⟨aK,aa,aQ,rfl,HA,HK1,ac,ae,af,ai,HB⟩:=hrel
   obtain ⟨k1,rfl⟩:=ysu gk (fun h=>by subst h;exact absurd HA.out (by simp [ccodec_Encode.l0]))
   have H:=HA.out;clear HA
   simp only [ccodec_Encode.l0] at H
   by_cases c17 : aK < (am.length : Int)
   ·
    rw [if_pos c17] at H
    have cw:=yD c17
    clear c17
    replace H:=yif H;obtain ⟨c18,H⟩:=H
    have cR : decide (0≤aK)=true:=decide_eq_true c18
    clear c18
    replace H:=yif H;obtain ⟨c19,H⟩:=H
    have cS : decide (aK < (am.length : Int))=true:=decide_eq_true c19
    clear c19
    replace H:=ybi H;obtain ⟨⟨bL,dg⟩,A20,H⟩:=H
    try dsimp only at H
    replace H:=yif H;obtain ⟨c21,H⟩:=H
    have LMc21:=zm c21;clear c21
    obtain ⟨cC,bx⟩ : ∃ y_ : List (List Int),y_=(aa ++ [bL]):=⟨_,rfl⟩
    replace H : (ccodec_Encode.l0 k1 a0 a1 am (am.length : Int) (wrap64 (aK+1)) am a3 cC)=some (r1,r2,r3,r4):=yrw bx H
    have cT:=zm bx;clear bx
    have H' := zm H
    clear H
    have bM : 0≤(aK : Int):=yt
    have bN : aK < (am.length : Int):=yt
    obtain ⟨dN,cD,cE,dh,bc,bm,bn⟩:=at_L1 bl.out aK bM bN
    cases dh
    replace bc:=yhx HB bc
    have bO:=zm bn;have bP:=zm bm;clear bn bm
    replace bM:=eq_true bM
    replace bN:=eq_true bN
    go_wp2_with (first|((with_reducible refine gate_callee (f:=36) rfl ?_);refine ygl 43 Try.func36 #[.slice cD (rd_L1 am aK).length cE] ?_;(with_reducible refine (band_Gains.calls k1 _ _ (rd_L1 am aK) bL dg _ ?aT bP.out A20.out).mono ?_);(case aT=>exact ycb bO);rintro e w22 ⟨dU,rfl,ho0,hb⟩;refine ⟨_,rfl, ?_⟩;replace ac:=zm (Kd.N_elder' (yr ac) (Kd.R_base ho0) hb);have bo:=zm (Kd.R_lower (Kd.R_newM (M:=fun k_=>(w.heap.size≤k_)) ho0 (zE yhb) (fun k_ h_=>h_)) (zE yhb));replace ae:=ybb ae hb;replace af:=ybb af hb;replace ai:=ybb ai hb;replace HB:=ybs hb;(try clear hb);(try clear ho0);have:=aH.out;have:=aG.out;have:=aJ.out;have:=aI.out;obtain ⟨bQ,bR,bS,bT,bU,bV⟩:=yc3 ai;obtain ⟨di,dj,dk⟩:=Kd.R_slice bo.out;subst dk)|((with_reducible refine gate_builtin (b:=.append) (xs := #[.tmp 47, .tmp 49]) rfl ?_);at_builtin;refine Kd.N_append (Kd.slice 3 (Kd.int .i64)) (w0:=w) w.heap.size rfl (.tmp 47) (.tmp 49) 25 55 (.slice none 0 0) 24 rfl Try.underlying25 info55 rfl (by decide) (by omega) aQ aa bL [.slice di bL.length dj] (fun k_=>(w.heap.size≤k_)∧k_≠ak∧k_≠aj∧k_≠al) (fun k_=>((fun k_=>(w.heap.size≤k_)∧k_≠ak∧k_≠aj∧k_≠al)) k_∧some k_≠(aQ : Value).ownBlock) rfl rfl ?aP (fun _ hk=>hk) ?aF ?aO ?aB ?aS ?aL ?_;(case aP=>exact (Kd.FK_slice_mk (Kd.R_reads' (zG (ok' := (fun k_=>((fun k_=>(w.heap.size≤k_)∧k_≠ak∧k_≠aj∧k_≠al)) k_∧some k_≠(aQ : Value).ownBlock)) (Kd.R_types (Kd.R_types (Kd.R_types (Kd.R_apart' (bo.out) (Kd.N_typed ac.out) (by decide)) ae.out (by decide)) af.out (by decide)) ai.out (by decide)) (fun k_ hk=>⟨⟨hk.1.1.1.1.1,⟨hk.1.1.2,⟨hk.1.2,hk.2⟩⟩⟩,hk.1.1.1.2⟩))).2.1 (Kd.R_F (zG (ok' := (fun k_=>((fun k_=>(w.heap.size≤k_)∧k_≠ak∧k_≠aj∧k_≠al)) k_∧some k_≠(aQ : Value).ownBlock)) (Kd.R_types (Kd.R_types (Kd.R_types (Kd.R_apart' (bo.out) (Kd.N_typed ac.out) (by decide)) ae.out (by decide)) af.out (by decide)) ai.out (by decide)) (fun k_ hk=>⟨⟨hk.1.1.1.1.1,⟨hk.1.1.2,⟨hk.1.2,hk.2⟩⟩⟩,hk.1.1.1.2⟩)))));(case aB=>exact yhb);(case aF=>exact (fun k_ hk=>⟨(Nat.le_trans (zE yhb) hk),Kd.freshB (yk ae) k_ hk,Kd.freshB (yk af) k_ hk,Kd.freshB (yk ai) k_ hk⟩));(case aO=>exact (yN0 ac));(case aS=>exact (zE yhb));(case aL=>have:=LMc21.out;omega);intro dV w26 ho hb hg hat;rw [← cT.out] at ho;replace ae:=zm (blk_grown (yk ae) hg (Kd.N_ne ac.out ae.out (by decide)));replace af:=zm (blk_grown (yk af) hg (Kd.N_ne ac.out af.out (by decide)));replace ai:=zm (blk_grown (yk ai) hg (Kd.N_ne ac.out ai.out (by decide)));replace HB:=zm (hb);have cx:=zm (ho);clear ac;clear bo;clear ho hb hg hat;obtain ⟨dl,dm,dp⟩:=Kd.N_slice cx.out;subst dp;obtain ⟨bW,bX,bY,bZ,b4,b5⟩:=yc3 ai))
    go_roundg k1
    case measure=>exact yom1 HK1
    case rel=>exact ⟨(wrap64 (aK+1)),(cC),(.slice dl cC.length dm),yq,H',⟨yom1 HK1⟩,⟨yN0 cx⟩,⟨yk ae⟩,⟨yk af⟩,⟨ykp ai⟩,⟨yhb⟩⟩
   rw [if_neg c17] at H
   have cw:=yG c17
   clear c17
   replace H:=ybi H;obtain ⟨⟨az,dq⟩,A30,H⟩:=H
   try dsimp only at H
   have H' := zm H
   clear H
   have:=aH.out
   have:=aG.out
   have:=aJ.out
   have:=aI.out
   obtain ⟨b6,b7,b8,b9,ca,cb⟩:=yc3 ai
   obtain ⟨av,aw,dr⟩:=Kd.N_slice ac.out
   subst dr
   go_wp2_with (first|((with_reducible refine gate_callee (f:=37) rfl ?_);refine ygl 58 Try.func37 #[.int .i64 a0, .int .i64 a1, .slice av aa.length aw] ?_;(with_reducible refine (alloc_Pulses.calls k1 a0 a1 _ _ aa az dq _ ?aT ?cU A30.out).mono ?_);(case aT=>exact yce (Kd.N_reads' ac.out).2.2);(case cU=>exact (Kd.N_reads' ac.out).2.1);rintro e w35 ⟨aW,rfl,ho0,hb⟩;refine ⟨_,rfl, ?_⟩;have cV:=zm (Kd.N_lower (Kd.N_mono (ok' := fun k_=>(w.heap.size≤k_)∧some k_≠(.slice av aa.length aw : Value).ownBlock∧k_≠ak∧k_≠aj∧k_≠al) (Kd.S_N (Kd.S_bound ho0)) (fun k_ hk_=>⟨(Nat.le_trans (zE yhb) hk_.2.1),(Kd.fresh' (Kd.N_lt (yr ac)) k_ hk_.2.1),(Kd.freshB (yk ae) k_ hk_.2.1),(Kd.freshB (yk af) k_ hk_.2.1),(Kd.freshB (yk ai) k_ hk_.2.1)⟩)) (zE yhb));replace ac:=zm (Kd.N_elder' (yr ac) (Kd.S_base ho0) hb);replace ae:=ybb ae hb;replace af:=ybb af hb;replace ai:=ybb ai hb;replace HB:=ybs hb;(try clear hb);(try clear ho0);have:=aD.out;have:=aE.out;obtain ⟨ce,cf⟩:=yc1 ae))
   go_loopg [64] k1 (fun kq v64 w' => ∃ (ao : Int) (ap : List (List (List Int))) (ah : Value),v64=.int .i64 ao∧Aside0 (ccodec_Encode.l1 kq az am (am.length : Int) ao a3 aa ap=some (r1,r2,r3,r4))∧Aside0 (kq≤k1)∧Aside0 (Kd.N (Kd.slice 3 (Kd.int .i64)) 55 w' w.heap.size (fun k_=>(w.heap.size≤k_)∧some k_≠((.slice av aa.length aw) : Value).ownBlock∧some k_≠(ah : Value).ownBlock∧k_≠ak∧k_≠aj∧k_≠al) aW az)∧Aside0 (Kd.N (Kd.slice 3 (Kd.int .i64)) 55 w' w.heap.size (fun k_=>(w.heap.size≤k_)∧some k_≠(aW : Value).ownBlock∧some k_≠(ah : Value).ownBlock∧k_≠ak∧k_≠aj∧k_≠al) (.slice av aa.length aw) aa)∧Aside0 (Kd.N (Kd.slice 55 (Kd.slice 3 (Kd.int .i64))) 25 w' w.heap.size (fun k_=>(w.heap.size≤k_)∧some k_≠(aW : Value).ownBlock∧some k_≠((.slice av aa.length aw) : Value).ownBlock∧k_≠ak∧k_≠aj∧k_≠al) ah ap)∧Aside0 (w'.heap[ak]? = some (.cells #[(.slice bi am.length bb)] 24 (0,0)))∧Aside0 (w'.heap[aj]? = some (.cells #[.bool false,(.slice none 0 0),(.slice none 0 0)] 31 (0,0)))∧Aside0 (w'.heap[al]? = some (.cells #[.bool a3,(.slice av aa.length aw),ah] 31 (0,0)))∧Aside0 (Below w.heap.size w w'))
   case atStart=>exact ⟨(0),(([] : List (List (List Int)))),(.slice none 0 0),yq,H',⟨Nat.le_refl _⟩,⟨yN0 cV⟩,⟨yN0 ac⟩,⟨yn⟩,⟨yk ae⟩,⟨yk af⟩,⟨yk ai⟩,⟨yhb⟩⟩
   case round =>
    clear H'
    try clear cw
    try clear cR
    try clear cS
    try clear bQ
    try clear bR
    try clear bS
    try clear bW
    try clear bX
    try clear bY
    try clear b6
    try clear b7
    try clear b8
    try clear ce
    try clear bT
    try clear bU
    try clear bV
    try clear bZ
    try clear b4
    try clear b5
    try clear b9
    try clear ca
    try clear cb
    try clear cf
    try clear bc
    try clear bM
    try clear bN
    obtain ⟨ao,ap,ah,rfl,HA,HK2,aq,ac,ag,ae,af,ai,HB⟩:=hrel
    obtain ⟨k2,rfl⟩:=ysu gk (fun h=>by subst h;exact absurd HA.out (by simp [ccodec_Encode.l1]))
    have H:=HA.out;clear HA
    simp only [ccodec_Encode.l1] at H
    by_cases c38 : ao < (am.length : Int)
    ·
     rw [if_pos c38] at H
     have cy:=yD c38
     clear c38
     replace H:=yif H;obtain ⟨c39,H⟩:=H
     have cW : decide (0≤ao)=true:=decide_eq_true c39
     clear c39
     replace H:=yif H;obtain ⟨c40,H⟩:=H
     have cX : decide (ao < (am.length : Int))=true:=decide_eq_true c40
     clear c40
     replace H:=ybi H;obtain ⟨⟨au,dt⟩,A41,H⟩:=H
     try dsimp only at H
     have H' := zm H
     clear H
     have cg : 0≤(ao : Int):=yt
     have ch : ao < (am.length : Int):=yt
     obtain ⟨cY,cF,cG,du,bd,bp,bq⟩:=at_L1 bl.out ao cg ch
     cases du
     replace bd:=yhx HB bd
     have ci:=zm bq;have cj:=zm bp;clear bq bp
     replace cg:=eq_true cg
     replace ch:=eq_true ch
     go_wp2_with (first|((with_reducible refine gate_callee (f:=38) rfl ?_);refine ygl 71 Try.func38 #[.slice cF (rd_L1 am ao).length cG] ?_;(with_reducible refine (band_Split.calls k2 _ _ (rd_L1 am ao) au dt _ ?aT cj.out A41.out).mono ?_);(case aT=>exact ycb ci);rintro e w42 ⟨dW,rfl,ho0,hb⟩;refine ⟨_,rfl, ?_⟩;have cz:=zm (Kd.N_lower (Kd.N_mono (ok' := fun k_=>(w.heap.size≤k_)∧some k_≠(aW : Value).ownBlock∧some k_≠(.slice av aa.length aw : Value).ownBlock∧some k_≠(ah : Value).ownBlock∧k_≠ak∧k_≠aj∧k_≠al) ho0 (fun k_ hk_=>⟨(Nat.le_trans (zE yhb) hk_),(Kd.fresh' (Kd.N_lt (yr aq)) k_ hk_),(Kd.fresh' (Kd.N_lt (yr ac)) k_ hk_),(Kd.fresh' (Kd.N_lt (yr ag)) k_ hk_),(Kd.freshB (yk ae) k_ hk_),(Kd.freshB (yk af) k_ hk_),(Kd.freshB (yk ai) k_ hk_)⟩)) (zE yhb));replace aq:=zm (Kd.N_elder' (yr aq) (Kd.N_base ho0) hb);replace ac:=zm (Kd.N_elder' (yr ac) (Kd.N_base ho0) hb);replace ag:=zm (Kd.N_elder' (yr ag) (Kd.N_base ho0) hb);replace ae:=ybb ae hb;replace af:=ybb af hb;replace ai:=ybb ai hb;replace HB:=ybs hb;(try clear hb);(try clear ho0);obtain ⟨a8,aM,dv⟩:=Kd.N_slice cz.out;subst dv))
     go_loopg [21,76] k2 (fun kq v21 v76 w' => ∃ (aU : List (List Int)) (ax : Int),v76=.int .i64 ax∧Aside0 (ccodec_Encode.l2 kq az ao aU am (am.length : Int) ao au (au.length : Int) ax a3 aa ap=some (r1,r2,r3,r4))∧Aside0 (kq≤k2)∧Aside0 (Kd.N (Kd.slice 3 (Kd.int .i64)) 55 w' w.heap.size (fun k_=>(w.heap.size≤k_)∧some k_≠(v21 : Value).ownBlock∧some k_≠((.slice a8 au.length aM) : Value).ownBlock∧some k_≠((.slice av aa.length aw) : Value).ownBlock∧some k_≠(ah : Value).ownBlock∧k_≠ak∧k_≠aj∧k_≠al) aW az)∧Aside0 (Kd.N (Kd.slice 3 (Kd.int .i64)) 55 w' w.heap.size (fun k_=>(w.heap.size≤k_)∧some k_≠(aW : Value).ownBlock∧some k_≠((.slice a8 au.length aM) : Value).ownBlock∧some k_≠((.slice av aa.length aw) : Value).ownBlock∧some k_≠(ah : Value).ownBlock∧k_≠ak∧k_≠aj∧k_≠al) v21 aU)∧Aside0 (Kd.N (Kd.slice 2 (Kd.int .i64)) 53 w' w.heap.size (fun k_=>(w.heap.size≤k_)∧some k_≠(aW : Value).ownBlock∧some k_≠(v21 : Value).ownBlock∧some k_≠((.slice av aa.length aw) : Value).ownBlock∧some k_≠(ah : Value).ownBlock∧k_≠ak∧k_≠aj∧k_≠al) (.slice a8 au.length aM) au)∧Aside0 (Kd.N (Kd.slice 3 (Kd.int .i64)) 55 w' w.heap.size (fun k_=>(w.heap.size≤k_)∧some k_≠(aW : Value).ownBlock∧some k_≠(v21 : Value).ownBlock∧some k_≠((.slice a8 au.length aM) : Value).ownBlock∧some k_≠(ah : Value).ownBlock∧k_≠ak∧k_≠aj∧k_≠al) (.slice av aa.length aw) aa)∧Aside0 (Kd.N (Kd.slice 55 (Kd.slice 3 (Kd.int .i64))) 25 w' w.heap.size (fun k_=>(w.heap.size≤k_)∧some k_≠(aW : Value).ownBlock∧some k_≠(v21 : Value).ownBlock∧some k_≠((.slice a8 au.length aM) : Value).ownBlock∧some k_≠((.slice av aa.length aw) : Value).ownBlock∧k_≠ak∧k_≠aj∧k_≠al) ah ap)∧Aside0 (w'.heap[ak]? = some (.cells #[(.slice (some cY) am.length bb)] 24 (0,0)))∧Aside0 (w'.heap[aj]? = some (.cells #[.bool false,(.slice none 0 0),(.slice none 0 0)] 31 (0,0)))∧Aside0 (w'.heap[al]? = some (.cells #[.bool a3,(.slice av aa.length aw),ah] 31 (0,0)))∧Aside0 (Below w.heap.size w w'))
     case atStart=>exact ⟨(([] : List (List Int))),(0),yq,H',⟨Nat.le_refl _⟩,⟨yN0 aq⟩,⟨yn⟩,⟨yN0 cz⟩,⟨yN0 ac⟩,⟨yN0 ag⟩,⟨yk ae⟩,⟨yk af⟩,⟨yk ai⟩,⟨yhb⟩⟩
     case round =>
      clear H'
      try clear cy
      try clear cW
      try clear cX
      try clear bd
      try clear cg
      try clear ch
      obtain ⟨aU,ax,rfl,HA,HK3,aq,aN,aC,ac,ag,ae,af,ai,HB⟩:=hrel
      obtain ⟨k3,rfl⟩:=ysu gk (fun h=>by subst h;exact absurd HA.out (by simp [ccodec_Encode.l2]))
      have H:=HA.out;clear HA
      simp only [ccodec_Encode.l2] at H
      by_cases c44 : ax < (au.length : Int)
      ·
       rw [if_pos c44] at H
       have cZ:=yD c44
       clear c44
       replace H:=yif H;obtain ⟨c45,H⟩:=H
       have dO : decide (0≤ax)=true:=decide_eq_true c45
       clear c45
       replace H:=yif H;obtain ⟨c46,H⟩:=H
       have dP : decide (ax < (au.length : Int))=true:=decide_eq_true c46
       clear c46
       replace H:=yif H;obtain ⟨c47,H⟩:=H
       have dQ : decide (0≤ao)=true:=decide_eq_true c47
       clear c47
       replace H:=yif H;obtain ⟨c48,H⟩:=H
       have dR : decide (ao < (az.length : Int))=true:=decide_eq_true c48
       clear c48
       replace H:=yif H;obtain ⟨c49,H⟩:=H
       have dS : decide (ax < ((rd_L2 az ao).length : Int))=true:=decide_eq_true c49
       clear c49
       replace H:=ybi H;obtain ⟨⟨a9,dw⟩,A50,H⟩:=H
       try dsimp only at H
       replace H:=yif H;obtain ⟨c51,H⟩:=H
       have LMc51:=zm c51;clear c51
       obtain ⟨da,bz⟩ : ∃ y_ : List (List Int),y_=(aU ++ [a9]):=⟨_,rfl⟩
       replace H : (ccodec_Encode.l2 k3 az ao da am (am.length : Int) ao au (au.length : Int) (wrap64 (ax+1)) a3 aa ap)=some (r1,r2,r3,r4):=yrw bz H
       have db:=zm bz;clear bz
       have H' := zm H
       clear H
       have ck : 0≤(ax : Int):=yt
       have cl : ax < (au.length : Int):=yt
       obtain ⟨aX,cH,cI,dx,cm,br,bs⟩:=at_L1 (Kd.N_reads' aC.out).2.2 ax ck cl
       cases dx
       obtain ⟨ce258,hce258,hMe258,hcc258⟩:=Kd.N_get aC.out [] ax ck (by first|exact cl|exact yt|(have e_:=(Kd.N_reads' aC.out).1;omega))
       obtain ⟨ua258_0,uc258_0,rfl,ul258_0,ge258_0⟩:=Kd.FK_slice_open hMe258
       have hv258_0:=hcc258 0 _ rfl
       rw [Nat.add_zero,show ((Kd.slice 2 (Kd.int .i64))).sz=1 from rfl,Nat.mul_one] at hv258_0
       replace hv258_0:=Option.some.inj (hv258_0.symm.trans cm)
       injection hv258_0 with hva_ hvn_ hvc_
       rw [hva_] at ge258_0
       rw [hvc_] at ul258_0
       have aZ:=zm (show Kd.V (Kd.int .i64) 2 _ w.heap.size _ _ (rd_L1 au ax) from Kd.V_mk ul258_0 ge258_0)
       clear hva_ hvn_ hvc_ ge258_0 ul258_0 hcc258 hce258;have bf:=zm bs;have cn:=zm br;clear bs br
       replace ck:=eq_true ck
       replace cl:=eq_true cl
       obtain ⟨dX,bg,dy⟩:=Kd.N_slice aq.out
       subst dy
       have co : 0≤(ao : Int):=yt
       have cp : ao < (az.length : Int):=yt
       obtain ⟨aY,dz,dA,dB,cq,bu,bv⟩:=at_L2 (Kd.N_reads' aq.out).2.2 ao co cp
       cases dB
       obtain ⟨ce259,hce259,hMe259,hcc259⟩:=Kd.N_get aq.out [] ao co (by first|exact cp|exact yt|(have e_:=(Kd.N_reads' aq.out).1;omega))
       obtain ⟨ua259_0,uc259_0,rfl,ul259_0,ge259_0⟩:=Kd.FK_slice_open hMe259
       have hv259_0:=hcc259 0 _ rfl
       rw [Nat.add_zero,show ((Kd.slice 3 (Kd.int .i64))).sz=1 from rfl,Nat.mul_one] at hv259_0
       replace hv259_0:=Option.some.inj (hv259_0.symm.trans cq)
       injection hv259_0 with hva_ hvn_ hvc_
       rw [hva_] at ge259_0
       rw [hvc_] at ul259_0
       have a7:=zm (show Kd.V (Kd.int .i64) 3 _ w.heap.size _ _ (rd_L2 az ao) from Kd.V_mk ul259_0 ge259_0)
       clear hva_ hvn_ hvc_ ge259_0 ul259_0 hcc259 hce259;have bh:=zm bv;have de:=zm bu;clear bv bu
       replace co:=eq_true co
       replace cp:=eq_true cp
       obtain ⟨dT,dC,df,dY,dZ⟩:=yai bh ax
       cases dC
       go_wp2_with (first|((with_reducible refine gate_callee (f:=39) rfl ?_);refine ygl 90 Try.func39 #[.slice cH (rd_L1 au ax).length cI, .int .i64 (rd (rd_L2 az ao) ax)] ?_;(with_reducible refine (pvq_Search.calls k3 _ _ (rd_L1 au ax) (rd (rd_L2 az ao) ax) a9 dw _ ?aT cn.out A50.out).mono ?_);(case aT=>exact yce (yrc bf));rintro e w53 ⟨d5,rfl,ho0,hb⟩;refine ⟨_,rfl, ?_⟩;replace aq:=zm (Kd.N_elder' (yr aq) (Kd.R_base ho0) hb);replace aN:=zm (Kd.N_elder' (yr aN) (Kd.R_base ho0) hb);replace aC:=zm (Kd.N_elder' (yr aC) (Kd.R_base ho0) hb);replace ac:=zm (Kd.N_elder' (yr ac) (Kd.R_base ho0) hb);replace ag:=zm (Kd.N_elder' (yr ag) (Kd.R_base ho0) hb);replace aZ:=zm (Kd.V_elder' (yr aZ) (Kd.R_base ho0) hb);replace a7:=zm (Kd.V_elder' (yr a7) (Kd.R_base ho0) hb);have bw:=zm (Kd.R_lower (Kd.R_newM (M:=fun k_=>(w.heap.size≤k_)) ho0 (zE yhb) (fun k_ h_=>h_)) (zE yhb));replace ae:=ybb ae hb;replace af:=ybb af hb;replace ai:=ybb ai hb;replace bf:=yCb bf hb;replace bh:=yCb bh hb;replace HB:=ybs hb;(try clear hb);(try clear ho0);obtain ⟨bj,bk,dD⟩:=Kd.R_slice bw.out;subst dD)|((with_reducible refine gate_builtin (b:=.append) (xs := #[.tmp 93, .tmp 95]) rfl ?_);at_builtin;refine Kd.N_append (Kd.slice 3 (Kd.int .i64)) (w0:=w) w.heap.size rfl (.tmp 93) (.tmp 95) 25 55 (.slice none 0 0) 24 rfl Try.underlying25 info55 rfl (by decide) (by omega) u21 aU a9 [.slice bj a9.length bk] (fun k_=>(w.heap.size≤k_)∧some k_≠(.slice (some aY) az.length bg : Value).ownBlock∧some k_≠(.slice (some aX) au.length aM : Value).ownBlock∧some k_≠(.slice av aa.length aw : Value).ownBlock∧some k_≠(ah : Value).ownBlock∧k_≠ak∧k_≠aj∧k_≠al) (fun k_=>((fun k_=>(w.heap.size≤k_)∧some k_≠(.slice (some aY) az.length bg : Value).ownBlock∧some k_≠(.slice (some aX) au.length aM : Value).ownBlock∧some k_≠(.slice av aa.length aw : Value).ownBlock∧some k_≠(ah : Value).ownBlock∧k_≠ak∧k_≠aj∧k_≠al)) k_∧some k_≠(u21 : Value).ownBlock) rfl rfl ?aP (fun _ hk=>hk) ?aF ?aO ?aB ?aS ?aL ?_;(case aP=>exact (Kd.FK_slice_mk (Kd.R_reads' (zG (ok' := (fun k_=>((fun k_=>(w.heap.size≤k_)∧some k_≠(.slice (some aY) az.length bg : Value).ownBlock∧some k_≠(.slice (some aX) au.length aM : Value).ownBlock∧some k_≠(.slice av aa.length aw : Value).ownBlock∧some k_≠(ah : Value).ownBlock∧k_≠ak∧k_≠aj∧k_≠al)) k_∧some k_≠(u21 : Value).ownBlock)) (Kd.R_types (Kd.R_types (Kd.R_types (Kd.R_apart' (Kd.R_apart' (Kd.R_apart' (Kd.R_apart' (Kd.R_apart' (bw.out) (Kd.N_typed aq.out) (by decide)) (Kd.N_typed aC.out) (by decide)) (Kd.N_typed ac.out) (by decide)) (Kd.N_typed ag.out) (by decide)) (Kd.N_typed aN.out) (by decide)) ae.out (by decide)) af.out (by decide)) ai.out (by decide)) (fun k_ hk=>⟨⟨hk.1.1.1.1.1.1.1.1.1,⟨hk.1.1.1.1.1.1.1.2,⟨hk.1.1.1.1.1.1.2,⟨hk.1.1.1.1.1.2,⟨hk.1.1.1.1.2,⟨hk.1.1.2,⟨hk.1.2,hk.2⟩⟩⟩⟩⟩⟩⟩,hk.1.1.1.2⟩))).2.1 (Kd.R_F (zG (ok' := (fun k_=>((fun k_=>(w.heap.size≤k_)∧some k_≠(.slice (some aY) az.length bg : Value).ownBlock∧some k_≠(.slice (some aX) au.length aM : Value).ownBlock∧some k_≠(.slice av aa.length aw : Value).ownBlock∧some k_≠(ah : Value).ownBlock∧k_≠ak∧k_≠aj∧k_≠al)) k_∧some k_≠(u21 : Value).ownBlock)) (Kd.R_types (Kd.R_types (Kd.R_types (Kd.R_apart' (Kd.R_apart' (Kd.R_apart' (Kd.R_apart' (Kd.R_apart' (bw.out) (Kd.N_typed aq.out) (by decide)) (Kd.N_typed aC.out) (by decide)) (Kd.N_typed ac.out) (by decide)) (Kd.N_typed ag.out) (by decide)) (Kd.N_typed aN.out) (by decide)) ae.out (by decide)) af.out (by decide)) ai.out (by decide)) (fun k_ hk=>⟨⟨hk.1.1.1.1.1.1.1.1.1,⟨hk.1.1.1.1.1.1.1.2,⟨hk.1.1.1.1.1.1.2,⟨hk.1.1.1.1.1.2,⟨hk.1.1.1.1.2,⟨hk.1.1.2,⟨hk.1.2,hk.2⟩⟩⟩⟩⟩⟩⟩,hk.1.1.1.2⟩)))));(case aB=>exact yhb);(case aF=>exact (fun k_ hk=>⟨(Nat.le_trans (zE yhb) hk),Kd.fresh' (Kd.N_lt (yr aq)) k_ hk,Kd.fresh' (Kd.N_lt (yr aC)) k_ hk,Kd.fresh' (Kd.N_lt (yr ac)) k_ hk,Kd.fresh' (Kd.N_lt (yr ag)) k_ hk,Kd.freshB (yk ae) k_ hk,Kd.freshB (yk af) k_ hk,Kd.freshB (yk ai) k_ hk⟩));(case aO=>exact (yN0 aN));(case aS=>exact (zE yhb));(case aL=>have:=LMc51.out;omega);intro d6 w54 ho hb hg hat;rw [← db.out] at ho;replace aq:=zm (Kd.N_afterv (ok:=(fun k_=>(w.heap.size≤k_)∧some k_≠(.slice (some aX) au.length aM : Value).ownBlock∧some k_≠(.slice av aa.length aw : Value).ownBlock∧some k_≠(ah : Value).ownBlock∧some k_≠(.slice bj a9.length bk : Value).ownBlock∧k_≠ak∧k_≠aj∧k_≠al)) (yN0 aq) hg hat);replace aC:=zm (Kd.N_afterv (ok:=(fun k_=>(w.heap.size≤k_)∧some k_≠(.slice (some aY) az.length bg : Value).ownBlock∧some k_≠(.slice av aa.length aw : Value).ownBlock∧some k_≠(ah : Value).ownBlock∧some k_≠(.slice bj a9.length bk : Value).ownBlock∧k_≠ak∧k_≠aj∧k_≠al)) (yN0 aC) hg hat);replace ac:=zm (Kd.N_afterv (ok:=(fun k_=>(w.heap.size≤k_)∧some k_≠(.slice (some aY) az.length bg : Value).ownBlock∧some k_≠(.slice (some aX) au.length aM : Value).ownBlock∧some k_≠(ah : Value).ownBlock∧some k_≠(.slice bj a9.length bk : Value).ownBlock∧k_≠ak∧k_≠aj∧k_≠al)) (yN0 ac) hg hat);replace ag:=zm (Kd.N_afterv (ok:=(fun k_=>(w.heap.size≤k_)∧some k_≠(.slice (some aY) az.length bg : Value).ownBlock∧some k_≠(.slice (some aX) au.length aM : Value).ownBlock∧some k_≠(.slice av aa.length aw : Value).ownBlock∧some k_≠(.slice bj a9.length bk : Value).ownBlock∧k_≠ak∧k_≠aj∧k_≠al)) (yN0 ag) hg hat);replace ae:=zm (blk_grown (yk ae) hg (Kd.N_ne aN.out ae.out (by decide)));replace af:=zm (blk_grown (yk af) hg (Kd.N_ne aN.out af.out (by decide)));replace ai:=zm (blk_grown (yk ai) hg (Kd.N_ne aN.out ai.out (by decide)));replace aZ:=zm (Kd.V_afterv (ok:=(fun k_=>(w.heap.size≤k_)∧some k_≠(.slice (some aY) az.length bg : Value).ownBlock∧some k_≠(.slice (some aX) au.length aM : Value).ownBlock∧some k_≠(.slice av aa.length aw : Value).ownBlock∧some k_≠(ah : Value).ownBlock∧some k_≠(.slice bj a9.length bk : Value).ownBlock∧k_≠ak∧k_≠aj∧k_≠al)) (yV0 aZ) hg hat);replace a7:=zm (Kd.V_afterv (ok:=(fun k_=>(w.heap.size≤k_)∧some k_≠(.slice (some aY) az.length bg : Value).ownBlock∧some k_≠(.slice (some aX) au.length aM : Value).ownBlock∧some k_≠(.slice av aa.length aw : Value).ownBlock∧some k_≠(ah : Value).ownBlock∧some k_≠(.slice bj a9.length bk : Value).ownBlock∧k_≠ak∧k_≠aj∧k_≠al)) (yV0 a7) hg hat);replace HB:=zm (hb);have dc:=zm (ho);clear aN;clear bw;clear ho hb hg hat))
       go_roundg k3
       case measure=>exact yom3 HK1 HK2 HK3
       case rel=>exact ⟨(da),(wrap64 (ax+1)),yq,H',⟨yom3 HK1 HK2 HK3⟩,⟨yN0 aq⟩,⟨yr dc⟩,⟨yN0 aC⟩,⟨yN0 ac⟩,⟨yN0 ag⟩,⟨yk ae⟩,⟨yk af⟩,⟨yk ai⟩,⟨yhb⟩⟩
      rw [if_neg c44] at H
      have cZ:=yG c44
      clear c44
      replace H:=yif H;obtain ⟨c56,H⟩:=H
      have LMc56:=zm c56;clear c56
      obtain ⟨cJ,bA⟩ : ∃ y_ : List (List (List Int)),y_=(ap ++ [aU]):=⟨_,rfl⟩
      replace H : (ccodec_Encode.l1 k3 az am (am.length : Int) (wrap64 (ao+1)) a3 aa cJ)=some (r1,r2,r3,r4):=yrw bA H
      have dd:=zm bA;clear bA
      have H' := zm H
      clear H
      have:=aH.out
      have:=aG.out
      have:=aJ.out
      have:=aI.out
      obtain ⟨_,_,_,_,_,_⟩:=yc3 ai
      obtain ⟨cr,ct,dE⟩:=Kd.N_slice aN.out
      subst dE
      go_wp2_with (first|((with_reducible refine gate_builtin (b:=.append) (xs := #[.tmp 99, .tmp 101]) rfl ?_);at_builtin;refine Kd.N_append (Kd.slice 55 (Kd.slice 3 (Kd.int .i64))) (w0:=w) w.heap.size rfl (.tmp 99) (.tmp 101) 29 25 (.slice none 0 0) 24 rfl Try.underlying29 info25 rfl (by decide) (by omega) ah ap aU [.slice cr aU.length ct] (fun k_=>(w.heap.size≤k_)∧some k_≠(aW : Value).ownBlock∧some k_≠(.slice a8 au.length aM : Value).ownBlock∧some k_≠(.slice av aa.length aw : Value).ownBlock∧k_≠ak∧k_≠aj∧k_≠al) (fun k_=>((fun k_=>(w.heap.size≤k_)∧some k_≠(aW : Value).ownBlock∧some k_≠(.slice a8 au.length aM : Value).ownBlock∧some k_≠(.slice av aa.length aw : Value).ownBlock∧k_≠ak∧k_≠aj∧k_≠al)) k_∧some k_≠(ah : Value).ownBlock) rfl rfl ?aP (fun _ hk=>hk) ?aF ?aO ?aB ?aS ?aL ?_;(case aP=>exact (Kd.FK_slice_mk (Kd.N_reads' (Kd.N_mono (ok' := (fun k_=>((fun k_=>(w.heap.size≤k_)∧some k_≠(aW : Value).ownBlock∧some k_≠(.slice a8 au.length aM : Value).ownBlock∧some k_≠(.slice av aa.length aw : Value).ownBlock∧k_≠ak∧k_≠aj∧k_≠al)) k_∧some k_≠(ah : Value).ownBlock)) (aN.out) (fun k_ hk=>⟨⟨hk.1,⟨hk.2.1,⟨hk.2.2.1,⟨hk.2.2.2.1,⟨hk.2.2.2.2.2.1,⟨hk.2.2.2.2.2.2.1,hk.2.2.2.2.2.2.2⟩⟩⟩⟩⟩⟩,hk.2.2.2.2.1⟩))).2.1 (Kd.N_F (Kd.N_mono (ok' := (fun k_=>((fun k_=>(w.heap.size≤k_)∧some k_≠(aW : Value).ownBlock∧some k_≠(.slice a8 au.length aM : Value).ownBlock∧some k_≠(.slice av aa.length aw : Value).ownBlock∧k_≠ak∧k_≠aj∧k_≠al)) k_∧some k_≠(ah : Value).ownBlock)) (aN.out) (fun k_ hk=>⟨⟨hk.1,⟨hk.2.1,⟨hk.2.2.1,⟨hk.2.2.2.1,⟨hk.2.2.2.2.2.1,⟨hk.2.2.2.2.2.2.1,hk.2.2.2.2.2.2.2⟩⟩⟩⟩⟩⟩,hk.2.2.2.2.1⟩)))));(case aB=>exact yhb);(case aF=>exact (fun k_ hk=>⟨(Nat.le_trans (zE yhb) hk),Kd.fresh' (Kd.N_lt (yr aq)) k_ hk,Kd.fresh' (Kd.N_lt (yr aC)) k_ hk,Kd.fresh' (Kd.N_lt (yr ac)) k_ hk,Kd.freshB (yk ae) k_ hk,Kd.freshB (yk af) k_ hk,Kd.freshB (yk ai) k_ hk⟩));(case aO=>exact (yN0 ag));(case aS=>exact (zE yhb));(case aL=>have:=LMc56.out;omega);intro d7 w60 ho hb hg hat;rw [← dd.out] at ho;replace aq:=zm (Kd.N_afterv (ok:=(fun k_=>(w.heap.size≤k_)∧some k_≠(.slice cr aU.length ct : Value).ownBlock∧some k_≠(.slice a8 au.length aM : Value).ownBlock∧some k_≠(.slice av aa.length aw : Value).ownBlock∧k_≠ak∧k_≠aj∧k_≠al)) (yN0 aq) hg hat);replace aC:=zm (Kd.N_afterv (ok:=(fun k_=>(w.heap.size≤k_)∧some k_≠(aW : Value).ownBlock∧some k_≠(.slice cr aU.length ct : Value).ownBlock∧some k_≠(.slice av aa.length aw : Value).ownBlock∧k_≠ak∧k_≠aj∧k_≠al)) (yN0 aC) hg hat);replace ac:=zm (Kd.N_afterv (ok:=(fun k_=>(w.heap.size≤k_)∧some k_≠(aW : Value).ownBlock∧some k_≠(.slice cr aU.length ct : Value).ownBlock∧some k_≠(.slice a8 au.length aM : Value).ownBlock∧k_≠ak∧k_≠aj∧k_≠al)) (yN0 ac) hg hat);replace ae:=zm (blk_grown (yk ae) hg (Kd.N_ne ag.out ae.out (by decide)));replace af:=zm (blk_grown (yk af) hg (Kd.N_ne ag.out af.out (by decide)));replace ai:=zm (blk_grown (yk ai) hg (Kd.N_ne ag.out ai.out (by decide)));replace HB:=zm (hb);have cA:=zm (ho);clear ag;clear aN;clear ho hb hg hat;obtain ⟨dF,dG,dH⟩:=Kd.N_slice cA.out;subst dH;obtain ⟨_,_,_,_,_,_⟩:=yc3 ai))
      go_roundg k3
      case measure=>exact yom3 HK1 HK2 HK3
      case rel=>exact ⟨(wrap64 (ao+1)),(cJ),(.slice dF cJ.length dG),yq,H',⟨yom3 HK1 HK2 HK3⟩,⟨yN0 aq⟩,⟨yN0 ac⟩,⟨yN0 cA⟩,⟨yk ae⟩,⟨yk af⟩,⟨ykp ai⟩,⟨yhb⟩⟩
    rw [if_neg c38] at H
    have cy:=yG c38
    clear c38
    simp only [Option.some.injEq,Prod.mk.injEq] at H
    obtain ⟨rfl,rfl,rfl,rfl⟩:=H
    have:=aH.out
    have:=aG.out
    have:=aJ.out
    have:=aI.out
    obtain ⟨_,_,_,_,_,_⟩:=yc3 ai
    have:=aE.out
    have:=aD.out
    obtain ⟨_,_,_,_,_,_⟩:=yc3 af
    obtain ⟨dI,dJ,dK⟩:=Kd.N_slice ag.out
    subst dK
    go_wp2
    refine bodyPost_ret (results_ct rfl _ _ aj 31 #[.bool a3, .slice av aa.length aw, .slice dI ap.length dJ] (0,0) _ rfl (ykp af) Try.underlying31 rfl (by kernel_rfl)) rfl ?_
    exact ⟨_,_,ye,yN0 ac,yN0 ag,yhb⟩
 replace c6:=Bool.eq_false_iff.mpr c6
 subst c6
 rw [ynf] at H
 simp only [Option.some.injEq,Prod.mk.injEq] at H
 obtain ⟨rfl,rfl,rfl,rfl⟩:=H
 go_enter Try.func13,Try.ntmps13
 go_wp2_with (first|((with_reducible refine gate_dst (N:=6) rfl ?_);refine ybx 6 #[.slice bi am.length bb] 24 ?_;intro ak hg w70 hbox hb;have ae:=zm (hbox);have cN:=ygw hg;have cO:=ygw hg;replace HB:=ybs hb;clear hb hbox hg)|((with_reducible refine gate_dst (N:=8) rfl ?_);refine ybx 8 #[.bool false, .slice none 0 0, .slice none 0 0] 31 ?_;intro aj hg w71 hbox hb;have af:=zm (hbox);have cP:=ygw hg;have cQ:=ygw hg;replace HB:=ybs hb;have aD:=ynl ae hg;have aE:=yng ae hg;replace ae:=ybb ae hb;clear hb hbox hg;have:=aD.out;have:=aE.out;obtain ⟨_,_⟩:=yc1 ae)|((with_reducible refine gate_callee (f:=20) rfl ?_);refine ygl 29 Try.func20 #[.int .i64 a0, .int .i64 a1, .agg #[.slice bi am.length bb]] ?_;(with_reducible refine (ccodec_Right.calls k a0 a1 _ _ am false _ ?aT cv.out A5.out).mono ?_);(case aT=>exact ycb bl);rintro e w74 ⟨rfl,hb⟩;refine ⟨_,rfl, ?_⟩;replace ae:=ybb ae hb;replace af:=ybb af hb;replace HB:=ybs hb;(try clear hb);obtain ⟨_,_,_,_,_,_⟩:=yc3 af))
 refine bodyPost_ret (results_ct rfl _ _ aj 31 #[.bool false, .slice none 0 0, .slice none 0 0] (0,0) _ rfl (ykp af) Try.underlying31 rfl (by kernel_rfl)) rfl ?_
 exact ⟨_,_,ye,yn,yn,yhb⟩
def coder_at.f (l0 : List Int) (a1 : Int) : Option (Int):=if a1 ≥ (l0.length : Int) then (some 0) else (if 0≤a1 then (if a1 < (l0.length : Int) then (some (IntKind.u64.wrap (rd l0 a1))) else (none)) else (none))
set_option maxHeartbeats 8000000 in
set_option maxRecDepth 100000 in
theorem coder_at.calls (A0 : Option Addr) (c0 : Nat) (l0 : List Int) (a1 : Int) (r : Int) (w : World) (hr0 : Kd.C (Kd.int .u8) w A0 l0.length l0) (hc0 : l0.length≤c0) (h : coder_at.f l0 a1=some r) :
  Calls Try.prog 93 #[.slice A0 l0.length c0, .int .i64 a1] w fun e w' => e=.returned (.int .u64 r)∧Drawn0 w w' := by
 have HR0:=zm hr0;have HC0:=zm hc0;clear hr0 hc0;have H:=h
 unfold coder_at.f at H
 clear h
 by_cases c3 : a1 ≥ (l0.length : Int)
 ·
  rw [if_pos c3] at H
  have ac:=yDl c3
  clear c3
  obtain rfl:=Option.some.inj H
  go_enter Try.func93,Try.ntmps93
  go_wp2
  go_ret
  exact ⟨yq,yd⟩
 rw [if_neg c3] at H
 have ac:=yGl c3
 clear c3
 replace H:=yif H;obtain ⟨c4,H⟩:=H
 have ag : decide (0≤a1)=true:=decide_eq_true c4
 clear c4
 replace H:=yif H;obtain ⟨c5,H⟩:=H
 have ah : decide (a1 < (l0.length : Int))=true:=decide_eq_true c5
 clear c5
 obtain rfl:=Option.some.inj H
 obtain ⟨af,ae,aa,ai,aj⟩:=yai HR0 a1
 cases ae
 go_enter Try.func93,Try.ntmps93
 go_wp2
 go_ret
 exact ⟨yq,yd⟩
def coder_Open.f (l0 : List Int) : Option (Int × Int × List Int × Int):=(coder_at.f l0 0).bind fun af=>((coder_at.f l0 1).bind fun ag=>((coder_at.f l0 2).bind fun ah=>((coder_at.f l0 3).bind fun ai=>(some (Go.bits .or .u64 (Go.bits .or .u64 (Go.bits .or .u64 (IntKind.u64.wrap (af * 16777216)) (IntKind.u64.wrap (ag * 65536))) (IntKind.u64.wrap (ah * 256))) ai,4294967295,l0,4)))))
set_option maxHeartbeats 8000000 in
set_option maxRecDepth 100000 in
theorem coder_Open.calls (P0_ : Nat→Prop) (A0 : Option Addr) (c0 : Nat) (l0 : List Int) (r1 : Int) (r2 : Int) (r3 : List Int) (r4 : Int) (w : World) (hs0 : Kd.V (Kd.int .u8) 5 w w.heap.size (fun k_=>P0_ k_) (.slice A0 l0.length c0) l0) (h : coder_Open.f l0=some (r1,r2,r3,r4)) :
  Calls Try.prog 53 #[.slice A0 l0.length c0] w fun e w' => ∃ v2_ : Value,e=.returned (.agg #[.int .u64 r1, .int .u32 r2,v2_, .int .i64 r4])∧Kd.V (Kd.int .u8) 5 w' w.heap.size (fun k_=>(P0_ k_∨w.heap.size≤k_)) v2_ r3∧Below w.heap.size w w' := by
 have hu88:=Try.underlying88
 have HO0:=zm (show Kd.V (Kd.int .u8) 5 w w.heap.size (fun k_=>(P0_ k_∨w.heap.size≤k_)) (.slice A0 l0.length c0) l0 from zy hs0 (fun k_ hk => .inl hk))
 have HB:=zm (Below.refl w.heap.size w);have H:=h
 unfold coder_Open.f at H
 clear h
 replace H:=ybi H;obtain ⟨af,A2,H⟩:=H
 replace H:=ybi H;obtain ⟨ag,A3,H⟩:=H
 replace H:=ybi H;obtain ⟨ah,A4,H⟩:=H
 replace H:=ybi H;obtain ⟨ai,A5,H⟩:=H
 simp only [Option.some.injEq,Prod.mk.injEq] at H
 obtain ⟨rfl,rfl,rfl,rfl⟩:=H
 go_enter Try.func53,Try.ntmps53
 go_wp2_with (first|((with_reducible refine gate_dst (N:=2) rfl ?_);refine ybx 2 #[.int .u64 0, .int .u32 0, .slice none 0 0, .int .i64 0] 88 ?_;intro aj hg w6 hbox hb;replace HO0:=yVe HO0 hg hb;have aa:=zm (hbox);have ak:=ygw hg;have al:=ygw hg;replace HB:=ybs hb;clear hb hbox hg)|((with_reducible refine gate_callee (f:=93) rfl ?_);refine ygl 4 Try.func93 #[.slice A0 l0.length c0, .int .i64 0] ?_;(with_reducible refine (coder_at.calls _ _ l0 0 af _ ?ac ?ae A2.out).mono ?_);(case ac=>exact yce (Kd.V_reads' HO0.out).2.2);(case ae=>exact (Kd.V_reads' HO0.out).2.1);rintro e w' ⟨rfl,⟨nd,rfl⟩⟩;refine ⟨_,rfl, ?_⟩;(try (rw [drewN_self w6];generalize hq_ : World.drewN w6 _=w6;replace HO0:=yVq hq_ HO0;replace aa:=ykq hq_ aa;replace HB:=ysq hq_;clear hq_)))|((with_reducible refine gate_callee (f:=93) rfl ?_);refine ygl 7 Try.func93 #[.slice A0 l0.length c0, .int .i64 1] ?_;(with_reducible refine (coder_at.calls _ _ l0 1 ag _ ?ac ?ae A3.out).mono ?_);(case ac=>exact yce (Kd.V_reads' HO0.out).2.2);(case ae=>exact (Kd.V_reads' HO0.out).2.1);rintro e w' ⟨rfl,⟨nd,rfl⟩⟩;refine ⟨_,rfl, ?_⟩;(try (rw [drewN_self w6];generalize hq_ : World.drewN w6 _=w6;replace HO0:=yVq hq_ HO0;replace aa:=ykq hq_ aa;replace HB:=ysq hq_;clear hq_)))|((with_reducible refine gate_callee (f:=93) rfl ?_);refine ygl 11 Try.func93 #[.slice A0 l0.length c0, .int .i64 2] ?_;(with_reducible refine (coder_at.calls _ _ l0 2 ah _ ?ac ?ae A4.out).mono ?_);(case ac=>exact yce (Kd.V_reads' HO0.out).2.2);(case ae=>exact (Kd.V_reads' HO0.out).2.1);rintro e w' ⟨rfl,⟨nd,rfl⟩⟩;refine ⟨_,rfl, ?_⟩;(try (rw [drewN_self w6];generalize hq_ : World.drewN w6 _=w6;replace HO0:=yVq hq_ HO0;replace aa:=ykq hq_ aa;replace HB:=ysq hq_;clear hq_)))|((with_reducible refine gate_callee (f:=93) rfl ?_);refine ygl 15 Try.func93 #[.slice A0 l0.length c0, .int .i64 3] ?_;(with_reducible refine (coder_at.calls _ _ l0 3 ai _ ?ac ?ae A5.out).mono ?_);(case ac=>exact yce (Kd.V_reads' HO0.out).2.2);(case ae=>exact (Kd.V_reads' HO0.out).2.1);rintro e w' ⟨rfl,⟨nd,rfl⟩⟩;refine ⟨_,rfl, ?_⟩;(try (rw [drewN_self w6];generalize hq_ : World.drewN w6 _=w6;replace HO0:=yVq hq_ HO0;replace aa:=ykq hq_ aa;replace HB:=ysq hq_;clear hq_));obtain ⟨_,_,_,_,_,_,_,_⟩:=yc4 aa))
 refine bodyPost_ret (results_cell_row rfl _ _ aj 88 #[.int .u64 (Go.bits .or .u64 (Go.bits .or .u64 (Go.bits .or .u64 (IntKind.u64.wrap (af * 16777216)) (IntKind.u64.wrap (ag * 65536))) (IntKind.u64.wrap (ah * 256))) ai), .int .u32 4294967295, .slice A0 l0.length c0, .int .i64 4] (0,0) _ rfl (ykp aa) Try.underlying88 rfl (by kernel_rfl)) rfl ?_
 exact ⟨_,ye,yV0 HO0,yhb⟩
def coder_RightDec.f (ac : Int) (ae : Int) (aa : List Int) (ag : Int) : Option (Bool):=if ac≤4294967295 then (if ae ≥ 16777216 then (some (decide (ag ≥ 0))) else (some false)) else (some false)
set_option maxHeartbeats 8000000 in
set_option maxRecDepth 100000 in
theorem coder_RightDec.calls (ac : Int) (ae : Int) (ah : Option Addr) (ai : Nat) (aa : List Int) (ag : Int) (r : Bool) (w : World) (hr0_2 : Kd.C (Kd.int .u8) w ah aa.length aa) (hc0_2 : aa.length≤ai) (h : coder_RightDec.f ac ae aa ag=some r) :
  Calls Try.prog 117 #[.agg #[.int .u64 ac, .int .u32 ae, .slice ah aa.length ai, .int .i64 ag]] w fun e w' => e=.returned (.bool r)∧Below w.heap.size w w' := by
 have hu88:=Try.underlying88;have ap:=zm hr0_2;have aq:=zm hc0_2;clear hr0_2 hc0_2;have HB:=zm (Below.refl w.heap.size w);have H:=h
 unfold coder_RightDec.f at H
 clear h
 by_cases c2 : ac≤4294967295
 ·
  rw [if_pos c2] at H
  have am:=yD c2
  clear c2
  by_cases c3 : ae ≥ 16777216
  ·
   rw [if_pos c3] at H
   have ao:=yDl c3
   clear c3
   obtain rfl:=Option.some.inj H
   go_enter Try.func117,Try.ntmps117
   go_wp2_with (first|((with_reducible refine gate_dst (N:=1) rfl ?_);refine ybx 1 #[.int .u64 ac, .int .u32 ae, .slice ah aa.length ai, .int .i64 ag] 88 ?_;intro aj hg w4 hbox hb;have af:=zm (hbox);have ak:=ygw hg;have al:=ygw hg;replace HB:=ybs hb;clear hb hbox hg;obtain ⟨_,_,_,_,_,_,_,_⟩:=yc4 af))
   go_ret
   exact ⟨ye,yhb⟩
  rw [if_neg c3] at H
  have ao:=yGl c3
  clear c3
  obtain rfl:=Option.some.inj H
  go_enter Try.func117,Try.ntmps117
  go_wp2_with (first|((with_reducible refine gate_dst (N:=1) rfl ?_);refine ybx 1 #[.int .u64 ac, .int .u32 ae, .slice ah aa.length ai, .int .i64 ag] 88 ?_;intro aj hg w6 hbox hb;have af:=zm (hbox);have ak:=ygw hg;have al:=ygw hg;replace HB:=ybs hb;clear hb hbox hg;obtain ⟨_,_,_,_,_,_,_,_⟩:=yc4 af))
  go_ret
  exact ⟨ye,yhb⟩
 rw [if_neg c2] at H
 have am:=yG c2
 clear c2
 obtain rfl:=Option.some.inj H
 go_enter Try.func117,Try.ntmps117
 go_wp2_with (first|((with_reducible refine gate_dst (N:=1) rfl ?_);refine ybx 1 #[.int .u64 ac, .int .u32 ae, .slice ah aa.length ai, .int .i64 ag] 88 ?_;intro aj hg w8 hbox hb;have af:=zm (hbox);have ak:=ygw hg;have al:=ygw hg;replace HB:=ybs hb;clear hb hbox hg;obtain ⟨_,_,_,_,_,_,_,_⟩:=yc4 af))
 go_ret
 exact ⟨ye,yhb⟩
def coder_good.f (ai : Int) (aj : Int) (ah : List Int) (ak : Int) : Option (Int × Int × List Int × Int):=(coder_RightDec.f ai aj ah ak).bind fun av=>(if av=true then (some (ai,aj,ah,ak)) else ((coder_Open.f ([] : List Int)).bind fun al=>(some (al.1,al.2.1,al.2.2.1,al.2.2.2))))
set_option maxHeartbeats 8000000 in
set_option maxRecDepth 100000 in
theorem coder_good.calls (ai : Int) (aj : Int) (au : Nat→Prop) (ao : Option Addr) (ap : Nat) (ah : List Int) (ak : Int) (r1 : Int) (r2 : Int) (r3 : List Int) (r4 : Int) (w : World) (aJ : Kd.V (Kd.int .u8) 5 w w.heap.size (fun k_=>au k_) (.slice ao ah.length ap) ah) (h : coder_good.f ai aj ah ak=some (r1,r2,r3,r4)) :
  Calls Try.prog 94 #[.agg #[.int .u64 ai, .int .u32 aj, .slice ao ah.length ap, .int .i64 ak]] w fun e w' => ∃ v2_ : Value,e=.returned (.agg #[.int .u64 r1, .int .u32 r2,v2_, .int .i64 r4])∧Kd.V (Kd.int .u8) 5 w' w.heap.size (fun k_=>(au k_∨w.heap.size≤k_)) v2_ r3∧Below w.heap.size w w' := by
 have hu88:=Try.underlying88
 have ac:=zm (show Kd.V (Kd.int .u8) 5 w w.heap.size (fun k_=>(au k_∨w.heap.size≤k_)) (.slice ao ah.length ap) ah from zy aJ (fun k_ hk => .inl hk))
 have HB:=zm (Below.refl w.heap.size w);have H:=h
 unfold coder_good.f at H
 clear h
 replace H:=ybi H;obtain ⟨av,A2,H⟩:=H
 by_cases c3 : av=true
 ·
  subst c3
  rw [if_pos rfl] at H
  simp only [Option.some.injEq,Prod.mk.injEq] at H
  obtain ⟨rfl,rfl,rfl,rfl⟩:=H
  go_enter Try.func94,Try.ntmps94
  go_wp2_with (first|((with_reducible refine gate_dst (N:=1) rfl ?_);refine ybx 1 #[.int .u64 ai, .int .u32 aj, .slice ao ah.length ap, .int .i64 ak] 88 ?_;intro aw hg w4 hbox hb;replace ac:=yVe ac hg hb;have aa:=zm (hbox);have aE:=ygw hg;have aG:=ygw hg;replace HB:=ybs hb;clear hb hbox hg)|((with_reducible refine gate_dst (N:=2) rfl ?_);refine ybx 2 #[.int .u64 0, .int .u32 0, .slice none 0 0, .int .i64 0] 88 ?_;intro am hg w5 hbox hb;replace ac:=yVe ac hg hb;have ae:=zm (hbox);have aH:=ygw hg;have aI:=ygw hg;replace HB:=ybs hb;have af:=ynl aa hg;have ag:=yng aa hg;replace aa:=ybb aa hb;clear hb hbox hg;have:=af.out;have:=ag.out;obtain ⟨_,_,_,_,_,_,_,_⟩:=yc4 aa)|((with_reducible refine gate_callee (f:=117) rfl ?_);refine ygl 4 Try.func117 #[.agg #[.int .u64 ai, .int .u32 aj, .slice ao ah.length ap, .int .i64 ak]] ?_;(with_reducible refine (coder_RightDec.calls ai aj _ _ ah ak true _ ?aq ?ax A2.out).mono ?_);(case aq=>exact yce (Kd.V_reads' ac.out).2.2);(case ax=>exact (Kd.V_reads' ac.out).2.1);rintro e w8 ⟨rfl,hb⟩;refine ⟨_,rfl, ?_⟩;replace ac:=yVb ac hb;replace aa:=ybb aa hb;replace ae:=ybb ae hb;replace HB:=ybs hb;(try clear hb);obtain ⟨_,_,_,_,_,_,_,_⟩:=yc4 aa;obtain ⟨_,_,_,_,_,_,_,_⟩:=yc4 ae))
  refine bodyPost_ret (results_cell_row rfl _ _ am 88 #[.int .u64 ai, .int .u32 aj, .slice ao ah.length ap, .int .i64 ak] (0,0) _ rfl (ykp ae) Try.underlying88 rfl (by kernel_rfl)) rfl ?_
  exact ⟨_,ye,yV0 ac,yhb⟩
 replace c3:=Bool.eq_false_iff.mpr c3
 subst c3
 rw [ynf] at H
 replace H:=ybi H;obtain ⟨⟨az,aA,aC,aD⟩,A11,H⟩:=H
 try dsimp only at H
 simp only [Option.some.injEq,Prod.mk.injEq] at H
 obtain ⟨rfl,rfl,rfl,rfl⟩:=H
 go_enter Try.func94,Try.ntmps94
 go_wp2_with (first|((with_reducible refine gate_dst (N:=1) rfl ?_);refine ybx 1 #[.int .u64 ai, .int .u32 aj, .slice ao ah.length ap, .int .i64 ak] 88 ?_;intro aw hg w12 hbox hb;replace ac:=yVe ac hg hb;have aa:=zm (hbox);have aE:=ygw hg;have aG:=ygw hg;replace HB:=ybs hb;clear hb hbox hg)|((with_reducible refine gate_dst (N:=2) rfl ?_);refine ybx 2 #[.int .u64 0, .int .u32 0, .slice none 0 0, .int .i64 0] 88 ?_;intro am hg w13 hbox hb;replace ac:=yVe ac hg hb;have ae:=zm (hbox);have aH:=ygw hg;have aI:=ygw hg;replace HB:=ybs hb;have af:=ynl aa hg;have ag:=yng aa hg;replace aa:=ybb aa hb;clear hb hbox hg;have:=af.out;have:=ag.out;obtain ⟨_,_,_,_,_,_,_,_⟩:=yc4 aa)|((with_reducible refine gate_callee (f:=117) rfl ?_);refine ygl 4 Try.func117 #[.agg #[.int .u64 ai, .int .u32 aj, .slice ao ah.length ap, .int .i64 ak]] ?_;(with_reducible refine (coder_RightDec.calls ai aj _ _ ah ak false _ ?aq ?ax A2.out).mono ?_);(case aq=>exact yce (Kd.V_reads' ac.out).2.2);(case ax=>exact (Kd.V_reads' ac.out).2.1);rintro e w16 ⟨rfl,hb⟩;refine ⟨_,rfl, ?_⟩;replace ac:=yVb ac hb;replace aa:=ybb aa hb;replace ae:=ybb ae hb;replace HB:=ybs hb;(try clear hb))|((with_reducible refine gate_callee (f:=53) rfl ?_);refine ygl 6 Try.func53 #[.slice none 0 0] ?_;(refine (coder_Open.calls (fun k_=>False) _ _ ([] : List Int) az aA aC aD _ ?aq A11.out).mono ?_);(case aq=>exact Kd.V_nil _ _ _ _ _);rintro e w17 ⟨aQ,rfl,ho0,hb⟩;refine ⟨_,rfl, ?_⟩;replace ac:=yVb ac hb;have ay:=yho (fun k_=>(au k_∨w.heap.size≤k_)∧k_≠aw∧k_≠am) ho0 (fun k_ hk_=>⟨Or.elim hk_ (fun hs_=>(hs_).elim) (fun hn_=>(.inr (Nat.le_trans (zE yhb) hn_))),yoB aa hk_,yoB ae hk_⟩);replace aa:=ybb aa hb;replace ae:=ybb ae hb;replace HB:=ybs hb;(try clear hb);(try clear ho0);obtain ⟨_,_,_,_,_,_,_,_⟩:=yc4 ae;obtain ⟨aK,aM,aN⟩:=Kd.V_slice ay.out;subst aN))
 refine bodyPost_ret (results_cell_row rfl _ _ am 88 #[.int .u64 az, .int .u32 aA, .slice aK aC.length aM, .int .i64 aD] (0,0) _ rfl (ykp ae) Try.underlying88 rfl (by kernel_rfl)) rfl ?_
 exact ⟨_,ye,yV0 ay,yhb⟩
end Go.Proofs.Ytifkhfnmbiefaaa.Prt
