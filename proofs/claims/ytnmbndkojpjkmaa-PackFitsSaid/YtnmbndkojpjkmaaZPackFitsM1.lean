-- Functions of the program and of the document as plain Lean, each with the proof that the code comes to it. Written by a program of this session (wip/tools/myprint.py, pack.py) over the kit's printer; Lean checks it.
import Derived.Test.YtnmbndkojpjkmaaZPackFitsPrt0
import Derived.Test.YtnmbndkojpjkmaaZPackFitsSh2
import Derived.Test.YtnmbndkojpjkmaaZPackFitsSh
import Derived.Test.YtnmbndkojpjkmaaZPackFitsWMore
import Derived.Laws.Rows
import Derived.Laws.Tables
import Derived.Deep.WholeRow
namespace Go.Proofs.Ytnmbndkojpjkmaa.Prt
open Go.RowKit Go.Proofs.YtnmbndkojpjkmaaW.PrintWords Go.Proofs.YtnmbndkojpjkmaaW.PrintLast Go.Proofs.YtnmbndkojpjkmaaW.PrintMore
attribute [local go_sem] max2_int min2_int max_two min_two max_three min_three max_four min_four   -- for this text's walks alone
set_option linter.unusedVariables false
set_option linter.unusedSimpArgs false


def alloc_Right.f (a0 : Int) (a1 : Int) : Option (Bool):=if a1=1 then (if a0 ≥ 11 then (some (decide (a0≤60))) else (some false)) else (if a1=2 then (if a0 ≥ 17 then (some (decide (a0≤60))) else (some false)) else (some false))
set_option maxHeartbeats 8000000 in
set_option maxRecDepth 100000 in
theorem alloc_Right.calls (a0 : Int) (a1 : Int) (r : Bool) (w : World) (h : alloc_Right.f a0 a1=some r) :
  Calls Try.prog 48 #[.int .i64 a0, .int .i64 a1] w fun e w' => e=.returned (.bool r)∧Drawn0 w w' := by
 have H:=h
 unfold alloc_Right.f at H
 clear h
 by_cases c3 : a1=1
 ·
  rw [if_pos c3] at H
  obtain ⟨aa,ac⟩:=yE c3
  clear c3
  by_cases c4 : a0 ≥ 11
  ·
   rw [if_pos c4] at H
   have ae:=yDl c4
   clear c4
   obtain rfl:=Option.some.inj H
   go_enter Try.func48,Try.ntmps48
   go_wp2
   go_ret
   exact ⟨yq,yd⟩
  rw [if_neg c4] at H
  have ae:=yGl c4
  clear c4
  obtain rfl:=Option.some.inj H
  go_enter Try.func48,Try.ntmps48
  go_wp2
  go_ret
  exact ⟨yq,yd⟩
 rw [if_neg c3] at H
 obtain ⟨aa,ac⟩:=yF c3
 by_cases c5 : a1=2
 ·
  rw [if_pos c5] at H
  obtain ⟨af,ag⟩:=yE c5
  clear c5
  by_cases c6 : a0 ≥ 17
  ·
   rw [if_pos c6] at H
   have ah:=yDl c6
   clear c6
   obtain rfl:=Option.some.inj H
   go_enter Try.func48,Try.ntmps48
   go_wp2
   go_ret
   exact ⟨yq,yd⟩
  rw [if_neg c6] at H
  have ah:=yGl c6
  clear c6
  obtain rfl:=Option.some.inj H
  go_enter Try.func48,Try.ntmps48
  go_wp2
  go_ret
  exact ⟨yq,yd⟩
 rw [if_neg c5] at H
 obtain ⟨af,ag⟩:=yF c5
 obtain rfl:=Option.some.inj H
 go_enter Try.func48,Try.ntmps48
 go_wp2
 go_ret
 exact ⟨yq,yd⟩
def gain_Most.f (a0 : Bool) : Option (Int):=if a0=true then (some 30) else (some 45)
set_option maxHeartbeats 8000000 in
set_option maxRecDepth 100000 in
theorem gain_Most.calls (a0 : Bool) (r : Int) (w : World) (h : gain_Most.f a0=some r) :
  Calls Try.prog 92 #[.bool a0] w fun e w' => e=.returned (.int .i64 r)∧Drawn0 w w' := by
 have H:=h
 unfold gain_Most.f at H
 clear h
 by_cases c2 : a0=true
 ·
  subst c2
  rw [if_pos rfl] at H
  obtain rfl:=Option.some.inj H
  go_enter Try.func92,Try.ntmps92
  go_wp2
  go_ret
  exact ⟨yq,yd⟩
 replace c2:=Bool.eq_false_iff.mpr c2
 subst c2
 rw [ynf] at H
 obtain rfl:=Option.some.inj H
 go_enter Try.func92,Try.ntmps92
 go_wp2
 go_ret
 exact ⟨yq,yd⟩
def alloc_Room.f (a0 : Int) (a1 : Int) : Option (Int):=(alloc_Right.f a0 a1).bind fun aa=>(if aa=true then ((gain_Most.f false).bind fun ac=>(if a1=0 then (none) else (some (wrap64 (Int.tdiv (wrap64 ((wrap64 ((wrap64 (8 * a0)) - 41)) - (wrap64 (ac * a1)))) a1))))) else (some 0))
set_option maxHeartbeats 8000000 in
set_option maxRecDepth 100000 in
theorem alloc_Room.calls (a0 : Int) (a1 : Int) (r : Int) (w : World) (h : alloc_Room.f a0 a1=some r) :
  Calls Try.prog 68 #[.int .i64 a0, .int .i64 a1] w fun e w' => e=.returned (.int .i64 r)∧Drawn0 w w' := by
 have H:=h
 unfold alloc_Room.f at H
 clear h
 obtain ⟨aa,A3,H⟩:=ybi H
 by_cases c4 : aa=true
 ·
  subst c4
  rw [if_pos rfl] at H
  obtain ⟨ac,A5,H⟩:=ybi H
  obtain ⟨c6,H⟩:=yie H
  obtain ⟨ae,af⟩:=yF c6
  obtain rfl:=Option.some.inj H
  go_enter Try.func68,Try.ntmps68
  go_wp2_with (first|((with_reducible refine gate_callee (f:=48) rfl ?_);refine ygl 7 Try.func48 #[.int .i64 a0, .int .i64 a1] ?_;(with_reducible refine (alloc_Right.calls a0 a1 true _ A3.out).mono ?_);rintro e w' ⟨rfl,⟨nd,rfl⟩⟩;refine ⟨_,rfl, ?_⟩)|((with_reducible refine gate_callee (f:=92) rfl ?_);refine ygl 12 Try.func92 #[.bool false] ?_;(with_reducible refine (gain_Most.calls false ac _ A5.out).mono ?_);rintro e w' ⟨rfl,⟨nd,rfl⟩⟩;refine ⟨_,rfl, ?_⟩))
  go_ret
  exact ⟨yq,yd⟩
 replace c4:=Bool.eq_false_iff.mpr c4
 subst c4
 rw [ynf] at H
 obtain rfl:=Option.some.inj H
 go_enter Try.func68,Try.ntmps68
 go_wp2_with (first|((with_reducible refine gate_callee (f:=48) rfl ?_);refine ygl 7 Try.func48 #[.int .i64 a0, .int .i64 a1] ?_;(with_reducible refine (alloc_Right.calls a0 a1 false _ A3.out).mono ?_);rintro e w' ⟨rfl,⟨nd,rfl⟩⟩;refine ⟨_,rfl, ?_⟩))
 go_ret
 exact ⟨yq,yd⟩
def band_there.f (a0 : Int) : Option (Bool):=if a0 ≥ 0 then (some (decide (a0 < 5))) else (some false)
set_option maxHeartbeats 8000000 in
set_option maxRecDepth 100000 in
theorem band_there.calls (a0 : Int) (r : Bool) (w : World) (h : band_there.f a0=some r) :
  Calls Try.prog 73 #[.int .i64 a0] w fun e w' => e=.returned (.bool r)∧Drawn0 w w' := by
 have H:=h
 unfold band_there.f at H
 clear h
 by_cases c2 : a0 ≥ 0
 ·
  rw [if_pos c2] at H
  have aa:=yDl c2
  clear c2
  obtain rfl:=Option.some.inj H
  go_enter Try.func73,Try.ntmps73
  go_wp2
  go_ret
  exact ⟨yq,yd⟩
 rw [if_neg c2] at H
 have aa:=yGl c2
 clear c2
 obtain rfl:=Option.some.inj H
 go_enter Try.func73,Try.ntmps73
 go_wp2
 go_ret
 exact ⟨yq,yd⟩
def band_From.f (a0 : Int) : Option (Int):=(band_there.f a0).bind fun af=>(if af=true then (if a0=0 then (some 0) else (if 0≤(wrap64 (a0 - 1)) then (some (shl .i64 1 (wrap64 (a0 - 1)))) else (none))) else (some 0))
set_option maxHeartbeats 8000000 in
set_option maxRecDepth 100000 in
theorem band_From.calls (a0 : Int) (r : Int) (w : World) (h : band_From.f a0=some r) :
  Calls Try.prog 74 #[.int .i64 a0] w fun e w' => e=.returned (.int .i64 r)∧Drawn0 w w' := by
 have H:=h
 unfold band_From.f at H
 clear h
 obtain ⟨af,A2,H⟩:=ybi H
 by_cases c3 : af=true
 ·
  subst c3
  rw [if_pos rfl] at H
  by_cases c4 : a0=0
  ·
   rw [if_pos c4] at H
   obtain ⟨ag,ah⟩:=yE c4
   clear c4
   obtain rfl:=Option.some.inj H
   go_enter Try.func74,Try.ntmps74
   go_wp2_with (first|((with_reducible refine gate_callee (f:=73) rfl ?_);refine ygl 4 Try.func73 #[.int .i64 a0] ?_;(with_reducible refine (band_there.calls a0 true _ A2.out).mono ?_);rintro e w' ⟨rfl,⟨nd,rfl⟩⟩;refine ⟨_,rfl, ?_⟩))
   go_ret
   exact ⟨yq,yd⟩
  rw [if_neg c4] at H
  obtain ⟨ag,ah⟩:=yF c4
  obtain ⟨ji5,ac⟩ : ∃ j_ : Int,(wrap64 (a0 - 1))=j_:=⟨_,rfl⟩
  (first|rw [ac] at H|simp only [ac] at H)
  (try rw [ac] at A2)
  have hji5w : (IntKind.i64.wrap (a0 - 1))=ji5:=(i64_w _).trans ac
  obtain ⟨c6,H⟩:=yif H
  have ai:=eq_true c6
  have aj : decide (0≤(ji5))=true:=decide_eq_true c6
  clear c6
  obtain ⟨ji7,aa⟩ : ∃ j_ : Int,(shl .i64 1 (ji5))=j_:=⟨_,rfl⟩
  (first|rw [aa] at H|simp only [aa] at H)
  (try rw [aa] at A2)
  have ae : (IntKind.i64.wrap (1 * 2 ^ min (ji5).toNat 64))=ji7:=aa
  have hji7z : (ji5)≤64→(IntKind.i64.wrap (1 * 2 ^ (ji5).toNat))=ji7:=shl_small aa
  have hji7u : (IntKind.i64.wrap (2 ^ min (ji5).toNat 64))=ji7:=by have h_:=ae;rw [Int.one_mul] at h_;exact h_
  have hji7v : (ji5)≤64→(IntKind.i64.wrap (2 ^ (ji5).toNat))=ji7:=fun hle_=>by have h_:=hji7z hle_;rw [Int.one_mul] at h_;exact h_
  have hji7y : (wrap64 (1 * 2 ^ min (ji5).toNat 64))=ji7:=(i64_w _).symm.trans ae
  have hji7x : (ji5)≤64→(wrap64 (1 * 2 ^ (ji5).toNat))=ji7:=fun h_=>(i64_w _).symm.trans (hji7z h_)
  obtain rfl:=Option.some.inj H
  go_enter Try.func74,Try.ntmps74
  go_wp2_with (first|((with_reducible refine gate_callee (f:=73) rfl ?_);refine ygl 4 Try.func73 #[.int .i64 a0] ?_;(with_reducible refine (band_there.calls a0 true _ A2.out).mono ?_);rintro e w' ⟨rfl,⟨nd,rfl⟩⟩;refine ⟨_,rfl, ?_⟩))
  go_ret
  exact ⟨by first|rfl|(simp;done)|(simp only [← ac, ← aa] <;> (first|rfl|simp))|(simp [*];done),yd⟩
 replace c3:=Bool.eq_false_iff.mpr c3
 subst c3
 rw [ynf] at H
 obtain rfl:=Option.some.inj H
 go_enter Try.func74,Try.ntmps74
 go_wp2_with (first|((with_reducible refine gate_callee (f:=73) rfl ?_);refine ygl 4 Try.func73 #[.int .i64 a0] ?_;(with_reducible refine (band_there.calls a0 false _ A2.out).mono ?_);rintro e w' ⟨rfl,⟨nd,rfl⟩⟩;refine ⟨_,rfl, ?_⟩))
 go_ret
 exact ⟨yq,yd⟩
def band_Width.f (a0 : Int) : Option (Int):=(band_there.f a0).bind fun ae=>(if ae=true then ((band_From.f a0).bind fun ac=>(some (mx 1 ac))) else (some 0))
set_option maxHeartbeats 8000000 in
set_option maxRecDepth 100000 in
theorem band_Width.calls (a0 : Int) (r : Int) (w : World) (h : band_Width.f a0=some r) :
  Calls Try.prog 32 #[.int .i64 a0] w fun e w' => e=.returned (.int .i64 r)∧Below w.heap.size w w' := by
 have HB:=zm (Below.refl w.heap.size w);have H:=h
 unfold band_Width.f at H
 clear h
 obtain ⟨ae,A2,H⟩:=ybi H
 by_cases c3 : ae=true
 ·
  subst c3
  rw [if_pos rfl] at H
  obtain ⟨ac,A4,H⟩:=ybi H
  obtain ⟨ji5,aa⟩ : ∃ j_ : Int,(mx 1 ac)=j_:=⟨_,rfl⟩
  (first|rw [aa] at H|simp only [aa] at H)
  (try rw [aa] at A2)
  (try rw [aa] at A4)
  (try (have hji5l : 1≤ji5:=by (rw [← aa];unfold mx;(repeat' split) <;> omega)))
  (try (have hji5m : 0≤ji5:=by omega))
  have af : (if 1 < ac then ac else 1)=ji5:=aa
  obtain rfl:=Option.some.inj H
  go_enter Try.func32,Try.ntmps32
  go_wp2_with (first|((with_reducible refine gate_callee (f:=73) rfl ?_);refine ygl 4 Try.func73 #[.int .i64 a0] ?_;(with_reducible refine (band_there.calls a0 true _ A2.out).mono ?_);rintro e w' ⟨rfl,⟨nd,rfl⟩⟩;refine ⟨_,rfl, ?_⟩)|((with_reducible refine gate_callee (f:=74) rfl ?_);refine ygl 7 Try.func74 #[.int .i64 a0] ?_;(with_reducible refine (band_From.calls a0 ac _ A4.out).mono ?_);rintro e w' ⟨rfl,⟨nd,rfl⟩⟩;refine ⟨_,rfl, ?_⟩))
  go_ret
  exact ⟨by first|rfl|(simp [errW_none,errW_some] <;> rfl)|(simp only [← aa];first|rfl|(simp [errW_none,errW_some] <;> rfl))|(simp [*,errW_none,errW_some] <;> rfl),yhb⟩
 replace c3:=Bool.eq_false_iff.mpr c3
 subst c3
 rw [ynf] at H
 obtain rfl:=Option.some.inj H
 go_enter Try.func32,Try.ntmps32
 go_wp2_with (first|((with_reducible refine gate_callee (f:=73) rfl ?_);refine ygl 4 Try.func73 #[.int .i64 a0] ?_;(with_reducible refine (band_there.calls a0 false _ A2.out).mono ?_);rintro e w' ⟨rfl,⟨nd,rfl⟩⟩;refine ⟨_,rfl, ?_⟩))
 go_ret
 exact ⟨ye,yhb⟩
def alloc_most.f (a0 : Int) : Option (Int):=(band_Width.f a0).bind fun aa=>(if aa=1 then (some 1) else (some 12))
set_option maxHeartbeats 8000000 in
set_option maxRecDepth 100000 in
theorem alloc_most.calls (a0 : Int) (r : Int) (w : World) (h : alloc_most.f a0=some r) :
  Calls Try.prog 69 #[.int .i64 a0] w fun e w' => e=.returned (.int .i64 r)∧Below w.heap.size w w' := by
 have HB:=zm (Below.refl w.heap.size w);have H:=h
 unfold alloc_most.f at H
 clear h
 obtain ⟨aa,A2,H⟩:=ybi H
 by_cases c3 : aa=1
 ·
  rw [if_pos c3] at H
  obtain ⟨ac,ae⟩:=yE c3
  clear c3
  obtain rfl:=Option.some.inj H
  go_enter Try.func69,Try.ntmps69
  go_wp2_with (first|((with_reducible refine gate_callee (f:=32) rfl ?_);refine ygl 4 Try.func32 #[.int .i64 a0] ?_;(with_reducible refine (band_Width.calls a0 aa _ A2.out).mono ?_);rintro e w4 ⟨rfl,hb⟩;refine ⟨_,rfl, ?_⟩;replace HB:=ybs hb;(try clear hb)))
  go_ret
  exact ⟨ye,yhb⟩
 rw [if_neg c3] at H
 obtain ⟨ac,ae⟩:=yF c3
 obtain rfl:=Option.some.inj H
 go_enter Try.func69,Try.ntmps69
 go_wp2_with (first|((with_reducible refine gate_callee (f:=32) rfl ?_);refine ygl 4 Try.func32 #[.int .i64 a0] ?_;(with_reducible refine (band_Width.calls a0 aa _ A2.out).mono ?_);rintro e w5 ⟨rfl,hb⟩;refine ⟨_,rfl, ?_⟩;replace HB:=ybs hb;(try clear hb)))
 go_ret
 exact ⟨ye,yhb⟩
def comb_fair.f (a0 : Int) (a1 : Int) : Option (Bool):=if a0 ≥ 1 then (if a0≤16 then (if a1 ≥ 0 then (some (decide (a1≤12))) else (some false)) else (some false)) else (some false)
set_option maxHeartbeats 8000000 in
set_option maxRecDepth 100000 in
theorem comb_fair.calls (a0 : Int) (a1 : Int) (r : Bool) (w : World) (h : comb_fair.f a0 a1=some r) :
  Calls Try.prog 71 #[.int .i64 a0, .int .i64 a1] w fun e w' => e=.returned (.bool r)∧Drawn0 w w' := by
 have H:=h
 unfold comb_fair.f at H
 clear h
 by_cases c3 : a0 ≥ 1
 ·
  rw [if_pos c3] at H
  have aa:=yDl c3
  clear c3
  by_cases c4 : a0≤16
  ·
   rw [if_pos c4] at H
   have ac:=yD c4
   clear c4
   by_cases c5 : a1 ≥ 0
   ·
    rw [if_pos c5] at H
    have ae:=yDl c5
    clear c5
    obtain rfl:=Option.some.inj H
    go_enter Try.func71,Try.ntmps71
    go_wp2
    go_ret
    exact ⟨yq,yd⟩
   rw [if_neg c5] at H
   have ae:=yGl c5
   clear c5
   obtain rfl:=Option.some.inj H
   go_enter Try.func71,Try.ntmps71
   go_wp2
   go_ret
   exact ⟨yq,yd⟩
  rw [if_neg c4] at H
  have ac:=yG c4
  clear c4
  obtain rfl:=Option.some.inj H
  go_enter Try.func71,Try.ntmps71
  go_wp2
  go_ret
  exact ⟨yq,yd⟩
 rw [if_neg c3] at H
 have aa:=yGl c3
 clear c3
 obtain rfl:=Option.some.inj H
 go_enter Try.func71,Try.ntmps71
 go_wp2
 go_ret
 exact ⟨yq,yd⟩
end Go.Proofs.Ytnmbndkojpjkmaa.Prt

namespace Go.Proofs.Ytnmbndkojpjkmaa.Prt
open Go Go.RowKit Go.Proofs.YtnmbndkojpjkmaaW.PrintWords Go.Proofs.YtnmbndkojpjkmaaW.PrintLast Go.Proofs.YtnmbndkojpjkmaaW.PrintMore
set_option linter.unusedVariables false
set_option linter.unusedSimpArgs false


set_option maxRecDepth 20000 in
theorem comb_table.zeroes : ∃ Z : Array Value,(∀ W,(zeroValue 118).run Try.prog W=.ok (.agg Z) W)∧Z.toList=encs (Value.int .u64) (List.replicate 221 0):=⟨_,fun _=>rfl,by rfl⟩
/-- A block of numbers, as its cells. -/
def ABl (xs : List Int) : Array Value:=(encs (Value.int .u64) xs).toArray
theorem ABl_get {xs : List Int} {i : Nat} (h : i < xs.length) : (ABl xs)[i]? = some (.int .u64 (xs.getD i 0)):=by
 unfold ABl
 rw [List.getElem?_toArray]
 exact encs_get xs i h
theorem ABl_set (xs : List Int) (i : Nat) (v : Int) : (ABl xs).setIfInBounds i (.int .u64 v)=ABl (xs.set i v):=by
 unfold ABl encs
 rw [List.setIfInBounds_toArray,List.map_set]
theorem ABl_size (xs : List Int) : (ABl xs).size=xs.length:=by
 unfold ABl
 rw [List.size_toArray,encs_length]
theorem ABl_one (xs : List Int) : (ABl xs).all (·.oneCell')=true:=by
 rw [Array.all_eq_true_iff_forall_mem]
 intro v hv
 unfold ABl encs at hv
 rw [List.mem_toArray,List.mem_map] at hv
 obtain ⟨n,_,rfl⟩:=hv
 rfl
section
variable {P : Program}
/-- A whole array is stored, cell by cell. -/
theorem storeCells_row (w : World) (g : Nat) (t ty : TypeId) (old cells : Array Value) (hg : w.heap[g]? = some (.cells old t (0,0))) (hi : (P.info? ty).map (·.size)=some cells.size) (ho : old.size=cells.size) (h1 : cells.all (·.oneCell')=true) :
  (storeCells ⟨g,0,none⟩ cells.toList 0).run P w=.ok () (w.setRow g cells):=by
 have h:=run_storeVar_row (P:=P) w g t ty old cells hg hi ho h1
 cases hq : P.info? ty with
 | none=>simp [hq] at hi
 | some i =>
  have hs : cells.size=i.size:=by
   simp [hq] at hi
   omega
  simpa [storeVar,sizeOf,typeInfo,hq,Value.cells,hs] using h
end
theorem below_row {w0 w : World} {B g : Nat} (h : Below B w0 w) (hg : B≤g) (cs : Array Value) : Below B w0 (w.setRow g cs):=⟨h.os,h.tape,h.output,by rw [setRow_size];exact h.size,fun k hk=>(setRow_other _ _ _ _ (by omega)).trans (h.block k hk)⟩
namespace comb_table
def new (xs : List Int) (n k : Nat) : Int:=IntKind.u64.wrap (IntKind.u64.wrap (xs.getD ((n-1)*13+k) 0+xs.getD (n*13+(k-1)) 0)+xs.getD ((n-1)*13+(k-1)) 0)
/-- Row n made up to place k. -/
def U (xs : List Int) (n : Nat) : Nat→List Int
 | 0=>xs.set (n*13) 1
 | k+1=>(U xs n k).set (n*13+(k+1)) (new (U xs n k) n (k+1))
/-- The rows up to n made. -/
def T : Nat→List Int
 | 0=>(List.replicate 221 0).set 0 1
 | n+1=>U (T n) (n+1) 12
theorem U_len (xs : List Int) (n : Nat) : ∀ k,(U xs n k).length=xs.length
 | 0=>by rw [U,List.length_set]
 | k+1=>by rw [U,List.length_set,U_len xs n k]
theorem T_len : ∀ n,(T n).length=221
 | 0=>by rw [T,List.length_set,List.length_replicate]
 | n+1=>by rw [T,U_len,T_len n]
theorem size16 : (Try.prog.info? 118).map (·.size)=some (ABl (T 16)).size:=by
 rw [ABl_size,T_len]
 kernel_rfl
def T10 : Bool × List (List Nat × List Nat):=(true, [([], []),([], []),([], []),([2], [2]),([], []),([3], [3]),([5,4], [4,5]),([6], [6]),([], []),([], []),([9], [9]),([8], [8]),([11,10], [10,11]),([12], [12]),([7,13], [7,13]),([], []),([15], [15]),([], []),([17], [17]),([16], [16]),([19,18], [18,19]),([20], [20]),([14,21], [14,21]),([0], [0]),([23,1,0,1,2,3,4,5,6,7,8,9,10,11,12,13,14,15,16,17,18,19,20,21,22], [1,23]),([24,22,0,1,2,3,4,5,6,7,8,9,10,11,12,13,14,15,16,17,18,19,20,21,22], [22,24])])
def B10 : List Nat := [0,0,0,4,0,12,60,124,0,0,512,256,3840,7936,16380,0,32768,0,131072,98304,1015808,2064384,4194300,1,16777215,33554431]
theorem tab10 : rtab .any (opsOf Try.f72 10)=T10:=by kernel_rfl
theorem bits10 : waitsOk T10.2 B10=true:=by kernel_rfl
end comb_table
set_option maxHeartbeats 8000000 in
set_option maxRecDepth 100000 in
theorem comb_table.made (w : World) : Calls Try.prog 72 #[] w fun e w' => e=.returned (.agg (ABl (comb_table.T 16)))∧Below w.heap.size w w' := by
 obtain ⟨Z,hz,hZ⟩:=comb_table.zeroes
 have hZ' : Aside0 (Z=ABl (List.replicate 221 0)):=⟨by
  unfold ABl
  rw [← hZ]⟩
 clear hZ
 have hb2 : ((w.alloc (.cells Z 118)).alloc (.cells Z 118)).heap[w.heap.size+1]? = some (.cells Z 118 (0,0)):=by
  have:=blk_new (w.alloc (.cells Z 118)) (.cells Z 118)
  simpa using this
 have hc1 : ((w.alloc (.cells Z 118)).alloc (.cells Z 118)).cell? ⟨w.heap.size+1,0,none⟩=some (.int .u64 0):=by
  rw [zs hb2 0,hZ'.out,ABl_get (by rw [List.length_replicate];decide)]
  rfl
 have hf1 : ((w.alloc (.cells Z 118)).alloc (.cells Z 118)).frozen? ⟨w.heap.size+1,0,none⟩=false:=zx hb2 0
 have hb1 : (((w.alloc (.cells Z 118)).alloc (.cells (Z.setIfInBounds 0 (.int .u64 1)) 118))).heap[w.heap.size+1]? = some (.cells (ABl (comb_table.T 0)) 118 (0,0)):=by
  have h0 : Z.setIfInBounds 0 (.int .u64 1)=ABl (comb_table.T 0):=by
   rw [hZ'.out,ABl_set]
   rfl
  have e1 : (w.alloc (.cells Z 118)).heap.size=w.heap.size+1:=by simp
  have h1:=blk_new (w.alloc (.cells Z 118)) (.cells (ABl (comb_table.T 0)) 118)
  rw [e1] at h1
  rw [h0]
  exact h1
 have hb0 : (((w.alloc (.cells Z 118)).alloc (.cells (Z.setIfInBounds 0 (.int .u64 1)) 118))).heap[w.heap.size]? = some (.cells Z 118 (0,0)):=zi (blk_new w _) _
 have HB : Aside0 (Below w.heap.size w ((w.alloc (.cells Z 118)).alloc (.cells (Z.setIfInBounds 0 (.int .u64 1)) 118))):=⟨ze (ze (Below.refl _ _) _) _⟩
 clear hb2
 go_enter Try.func72,Try.ntmps72
 go_wp2
 clear hc1 hf1
 generalize ((w.alloc (.cells Z 118)).alloc (.cells (Z.setIfInBounds 0 (.int .u64 1)) 118))=W1 at hb1 hb0 HB ⊢
 have HC:=zm hb1;have HZ0:=zm hb0;clear hb1 hb0
 go_loopg [2] 16 (fun kq v2 w' => ∃ (n : Nat) (x : Int),v2=.int .i64 x∧Aside0 (x=((n+1 : Nat) : Int))∧Aside0 (n+kq=16)∧Aside0 (w'.heap[w.heap.size+1]? = some (.cells (ABl (comb_table.T n)) 118 (0,0)))∧Aside0 (w'.heap[w.heap.size]? = some (.cells Z 118 (0,0)))∧Aside0 (Below w.heap.size w w'))
 case atStart=>exact ⟨0,1,rfl,⟨rfl⟩,⟨rfl⟩,HC,HZ0,HB⟩
 case round =>
  clear HC HZ0 HB
  obtain ⟨n,x,rfl,HX,HN,HC,HZ0,HB⟩:=hrel
  by_cases c9 : x≤16
  ·
   have ai : decide (x≤16)=true:=decide_eq_true c9
   have hx0 : (0≤x)=True:=eq_true (by have:=HX.out;omega)
   have hx1 : (x < 17)=True:=eq_true (by omega)
   have hxn : x.toNat=n+1:=by have:=HX.out;omega
   obtain ⟨n',rfl⟩ : ∃ q,gk=q+1:=⟨gk - 1,by have:=HN.out;have:=HX.out;omega⟩
   have ae : n < 16:=by have:=HX.out;omega
   have hcl : wr.cell? ⟨w.heap.size+1,x.toNat * 13,none⟩=some (.int .u64 ((comb_table.T n).getD (x.toNat * 13) 0)):=by
    rw [zs HC.out,ABl_get (by rw [comb_table.T_len];omega)]
   have hfr : wr.frozen? ⟨w.heap.size+1,x.toNat * 13,none⟩=false:=zx HC.out _
   have HXN:=zm hxn;have aa:=zm ae;clear c9 hxn ae
   go_wp2
   have n1_ : Aside0 ((wr.setCell ⟨w.heap.size+1,x.toNat * 13,none⟩ (.int .u64 1)).heap[w.heap.size+1]? = some (.cells (ABl (comb_table.U (comb_table.T n) (n+1) 0)) 118 (0,0))):=⟨by
    have h1:=blk_set HC.out (x.toNat * 13) (.int .u64 1)
    rw [ABl_set,HXN.out] at h1
    rw [HXN.out]
    exact h1⟩
   have n2_ : Aside0 ((wr.setCell ⟨w.heap.size+1,x.toNat * 13,none⟩ (.int .u64 1)).heap[w.heap.size]? = some (.cells Z 118 (0,0))):=⟨zv HZ0.out (by simp) _⟩
   have n3_ : Aside0 (Below w.heap.size w (wr.setCell ⟨w.heap.size+1,x.toNat * 13,none⟩ (.int .u64 1))):=⟨zk HB.out (by omega)⟩
   clear HC HZ0 HB hcl hfr
   generalize (wr.setCell ⟨w.heap.size+1,x.toNat * 13,none⟩ (.int .u64 1))=W2 at n1_ n2_ n3_ ⊢
   go_loopg [3] 12 (fun kq v3 w' => ∃ (j : Nat) (y : Int),v3=.int .i64 y∧Aside0 (y=((j+1 : Nat) : Int))∧Aside0 (j+kq=12)∧Aside0 (w'.heap[w.heap.size+1]? = some (.cells (ABl (comb_table.U (comb_table.T n) (n+1) j)) 118 (0,0)))∧Aside0 (w'.heap[w.heap.size]? = some (.cells Z 118 (0,0)))∧Aside0 (Below w.heap.size w w'))
   case atStart=>exact ⟨0,1,rfl,⟨rfl⟩,⟨rfl⟩,n1_,n2_,n3_⟩
   case round =>
    clear n1_ n2_ n3_
    obtain ⟨j,y,rfl,HY,HJ,HC,HZ0,HB⟩:=hrel
    by_cases c16 : y≤12
    ·
     have af : decide (y≤12)=true:=decide_eq_true c16
     have hy0 : (0≤y)=True:=eq_true (by have:=HY.out;omega)
     have hy1 : (y < 13)=True:=eq_true (by omega)
     have hyn : y.toNat=j+1:=by have:=HY.out;omega
     have hj11 : j < 12:=by have:=HY.out;omega
     obtain ⟨j',rfl⟩ : ∃ q,gk=q+1:=⟨gk - 1,by have:=HJ.out;omega⟩
     obtain ⟨xm,hxm⟩ : ∃ j_ : Int,wrap64 (x - 1)=j_:=⟨_,rfl⟩
     have hxmw : (IntKind.i64.wrap (x - 1))=xm:=(i64_w _).trans hxm
     obtain ⟨ym,hym⟩ : ∃ j_ : Int,wrap64 (y - 1)=j_:=⟨_,rfl⟩
     have hymw : (IntKind.i64.wrap (y - 1))=ym:=(i64_w _).trans hym
     have hxe : xm=(n : Int):=by rw [← hxm];have:=HX.out;have:=aa.out;unfold wrap64;omega
     have hye : ym=(j : Int):=by rw [← hym];have:=HY.out;unfold wrap64;omega
     have hxm0 : (0≤xm)=True:=eq_true (by omega)
     have hxm1 : (xm < 17)=True:=eq_true (by have:=aa.out;omega)
     have hym0 : (0≤ym)=True:=eq_true (by omega)
     have hym1 : (ym < 13)=True:=eq_true (by omega)
     have hxmn : xm.toNat=n:=by omega
     have hymn : ym.toNat=j:=by omega
     have ac:=zm hj11;have HYN:=zm hyn;have HXM:=zm hxmn;have HYM:=zm hymn
     obtain ⟨X,hXd⟩ : ∃ X,X=comb_table.U (comb_table.T n) (n+1) j:=⟨_,rfl⟩
     have hXl : X.length=221:=by rw [hXd,comb_table.U_len,comb_table.T_len]
     rw [← hXd] at HC
     have HXD:=zm hXd;have HXL:=zm hXl;clear hXd hXl c16 hyn hj11 hxmn hymn hxe hye hxm hym
     try go_wp2
     have n1_:=zm (zj HC.out);have n2_:=zm (zj HZ0.out);have n3_:=zm (zf HB.out);clear HC HZ0 HB;have HC:=n1_;have HZ0:=n2_;have HB:=n3_;clear n1_ n2_ n3_
     obtain ⟨va,hva⟩ : ∃ v_,v_=X.getD (xm.toNat * 13+y.toNat) 0:=⟨_,rfl⟩
     obtain ⟨vb,hvb⟩ : ∃ v_,v_=X.getD (x.toNat * 13+ym.toNat) 0:=⟨_,rfl⟩
     obtain ⟨vc,hvc⟩ : ∃ v_,v_=X.getD (xm.toNat * 13+ym.toNat) 0:=⟨_,rfl⟩
     have HVA:=zm hva;have HVB:=zm hvb;have HVC:=zm hvc;clear hva hvb hvc
     have hx1 : wr.drew.cell? ⟨w.heap.size+1,xm.toNat * 13+y.toNat,none⟩=some (.int .u64 va):=by
      rw [zs HC.out,HVA.out,ABl_get (by have:=HXL.out;have:=HXM.out;have:=HYN.out;have:=aa.out;have:=ac.out;omega)]
     have hx2 : wr.drew.cell? ⟨w.heap.size+1,x.toNat * 13+ym.toNat,none⟩=some (.int .u64 vb):=by
      rw [zs HC.out,HVB.out,ABl_get (by have:=HXL.out;have:=HXN.out;have:=HYM.out;have:=aa.out;have:=ac.out;omega)]
     have hx3 : wr.drew.cell? ⟨w.heap.size+1,xm.toNat * 13+ym.toNat,none⟩=some (.int .u64 vc):=by
      rw [zs HC.out,HVC.out,ABl_get (by have:=HXL.out;have:=HXM.out;have:=HYM.out;have:=aa.out;have:=ac.out;omega)]
     have hx4 : wr.drew.cell? ⟨w.heap.size+1,x.toNat * 13+y.toNat,none⟩=some (.int .u64 (X.getD (x.toNat * 13+y.toNat) 0)):=by
      rw [zs HC.out,ABl_get (by have:=HXL.out;have:=HXN.out;have:=HYN.out;have:=aa.out;have:=ac.out;omega)]
     have hf4 : wr.drew.frozen? ⟨w.heap.size+1,x.toNat * 13+y.toNat,none⟩=false:=zx HC.out _
     refine yst (fun w' => w'.cell? ⟨w.heap.size+1,xm.toNat * 13+y.toNat,none⟩=some (.int .u64 va)∧w'.cell? ⟨w.heap.size+1,x.toNat * 13+ym.toNat,none⟩=some (.int .u64 vb)∧w'.cell? ⟨w.heap.size+1,xm.toNat * 13+ym.toNat,none⟩=some (.int .u64 vc)) [25] 26 comb_table.tab10 comb_table.bits10 (fun hHeld HT_ HW_ => ?_) (hS:=⟨hx1,hx2,hx3⟩)
     generalize wr.drew=w30 at HC HZ0 HB hx1 hx2 hx3 hx4 hf4 hHeld ⊢
     refine yp 0 17 HT_ ?_
     refine yp 1 18 HT_ ?_
     refine yp 2 19 HT_ ?_
     refine yp 3 20 HT_ ?_
     refine yp 4 21 HT_ ?_
     refine yp 5 22 HT_ ?_
     refine yp 6 23 HT_ ?_
     refine yp 8 25 HT_ ?_
     refine yp 9 26 HT_ ?_
     refine yp 10 27 HT_ ?_
     refine yp 11 28 HT_ ?_
     refine yp 12 29 HT_ ?_
     refine yp 15 32 HT_ ?_
     refine yp 16 33 HT_ ?_
     refine yp 17 34 HT_ ?_
     refine yp 18 35 HT_ ?_
     refine yp 19 36 HT_ ?_
     refine yp 20 37 HT_ ?_
     refine yp 23 40 HT_ ?_
     refine yl 7 24 HT_ HW_ hHeld ?_
     refine yl 13 30 HT_ HW_ hHeld ?_
     refine yp 14 31 HT_ ?_
     refine yl 21 38 HT_ HW_ hHeld ?_
     refine yp 22 39 HT_ ?_
     refine yp 24 41 HT_ ?_
     refine last_ (i:=25) (N:=none) #[true,true,true,true,true,true,true,true,true,true,true,true,true,true,true,true,true,true,true,true,true,true,true,true,true,true] rfl rfl (one_of HT_.out (by kernel_rfl)) (by decide) (fun K hK => ?_)
     refine skip_ (w1 := ?_) (by rfl) rfl ?_ ?_
     rotate_left
     ·
      go_simp
      rfl
     refine hK.out _ _ ?_
     clear hK K
     refine done_ (done_of HT_.out (by kernel_rfl)) ?_
     try go_wp2
     go_roundg j'
     case measure=>omega
     case rel=>exact ⟨j+1,_,rfl,⟨by have:=HY.out;have:=ac.out;unfold wrap64;omega⟩,⟨yom1 HJ⟩,⟨by
      have h1:=blk_set HC.out (x.toNat * 13+y.toNat) (.int .u64 (comb_table.new X (n+1) (j+1)))
      rw [ABl_set] at h1
      have h2 : X.set (x.toNat * 13+y.toNat) (comb_table.new X (n+1) (j+1))=comb_table.U (comb_table.T n) (n+1) (j+1):=by
       rw [HXN.out,HYN.out,HXD.out]
       rfl
      have h3 : comb_table.new X (n+1) (j+1)=IntKind.u64.wrap (IntKind.u64.wrap (va+vb)+vc):=by
       rw [HVA.out,HVB.out,HVC.out,HXN.out,HYN.out,HXM.out,HYM.out]
       rfl
      rw [h2,h3] at h1
      exact h1⟩,⟨zv HZ0.out (by simp) _⟩,⟨zk HB.out (by omega)⟩⟩
    have af : decide (y≤12)=false:=decide_eq_false c16
    have hj12 : j=12:=by have:=HY.out;have:=HJ.out;omega
    have aj:=zm hj12;clear c16 hj12
    go_wp2
    go_roundg n'
    case measure=>omega
    case rel=>exact ⟨n+1,_,rfl,⟨by have:=HX.out;have:=aa.out;unfold wrap64;omega⟩,⟨yom1 HN⟩,⟨by rw [HC.out,aj.out];rfl⟩,HZ0,HB⟩
  have ai : decide (x≤16)=false:=decide_eq_false c9
  have ag : n=16:=by have:=HX.out;have:=HN.out;omega
  have ak:=zm ag;clear c9 ag
  have ah : wr.heap[w.heap.size+1]? = some (.cells (ABl (comb_table.T 16)) 118 (0,0)):=by
   rw [← ak.out]
   exact HC.out
  have HF:=zm ah;clear ah HC
  go_wp2
  refine wp_load_row 118 (.tmp 1) rfl (w.heap.size+1) rfl 118 _ (0,0) (.array 17 116) HF.out Try.underlying118 rfl comb_table.size16 ?_
  have hst:=storeCells_row (P:=Try.prog) wr w.heap.size 118 118 Z (ABl (comb_table.T 16)) HZ0.out comb_table.size16 (by rw [hZ'.out,ABl_size,ABl_size,comb_table.T_len,List.length_replicate]) (ABl_one _)
  go_wp2
  (try simp only [Exit.inBlock,Exit.then])
  refine bodyPost_ret (results_cell_row rfl _ _ w.heap.size 118 (ABl (comb_table.T 16)) (0,0) (.array 17 116) rfl (setRow_heap _ _ _ _ _ _ HZ0.out) Try.underlying118 rfl comb_table.size16) rfl ?_
  exact ⟨rfl,below_row HB.out (Nat.le_refl _) _⟩

/-- What place k of row n holds. -/
def comb_table.f (a0 a1 : Int) : Option Int:=if 0≤a0 then (if a0 < 17 then (if 0≤a1 then (if a1 < 13 then some ((comb_table.T 16).getD (a0.toNat * 13+a1.toNat) 0) else none) else none) else none) else none
theorem comb_table.parts {n k t : Int} (h : comb_table.f n k=some t) : 0≤n∧n < 17∧0≤k∧k < 13∧t=(comb_table.T 16).getD (n.toNat * 13+k.toNat) 0:=by
 unfold comb_table.f at h
 split at h
 ·
  split at h
  ·
   split at h
   ·
    split at h
    ·
     exact ⟨by assumption,by assumption,by assumption,by assumption,(Option.some.inj h).symm⟩
    exact absurd h (by simp)
   exact absurd h (by simp)
  exact absurd h (by simp)
 exact absurd h (by simp)
theorem comb_table.inn {n k t : Int} (h : comb_table.f n k=some t) : ((0≤n)=True)∧((n < 17)=True)∧((0≤k)=True)∧((k < 13)=True):=by
 obtain ⟨h0,h1,h2,h3,_⟩:=comb_table.parts h
 exact ⟨eq_true h0,eq_true h1,eq_true h2,eq_true h3⟩
theorem comb_table.look {W : World} {g : Nat} (hg : W.heap[g]? = some (.cells (ABl (comb_table.T 16)) 118 (0,0))) {n k t : Int} (h : comb_table.f n k=some t) : W.cell? ⟨g,n.toNat * 13+k.toNat,none⟩=some (.int .u64 t):=by
 obtain ⟨h0,h1,h2,h3,ht⟩:=comb_table.parts h
 rw [ht,zs hg,ABl_get (by rw [comb_table.T_len];omega)]
set_option maxRecDepth 100000 in
theorem comb_table.zsize : ∃ Z : Array Value,(∀ W,(zeroValue 118).run Try.prog W=.ok (.agg Z) W)∧Aside0 (Z.size=(ABl (comb_table.T 16)).size):=by
 obtain ⟨Z,hz,hZ⟩:=comb_table.zeroes
 refine ⟨Z,hz,⟨?_⟩⟩
 have h:=congrArg List.length hZ
 rw [Array.length_toList,encs_length,List.length_replicate] at h
 exact h.trans (by rw [ABl_size,comb_table.T_len])
end Go.Proofs.Ytnmbndkojpjkmaa.Prt

namespace Go.Proofs.Ytnmbndkojpjkmaa.Prt
open Go.RowKit Go.Proofs.YtnmbndkojpjkmaaW.PrintWords Go.Proofs.YtnmbndkojpjkmaaW.PrintLast Go.Proofs.YtnmbndkojpjkmaaW.PrintMore
attribute [local go_sem] max2_int min2_int max_two min_two max_three min_three max_four min_four   -- for this text's walks alone
set_option linter.unusedVariables false
set_option linter.unusedSimpArgs false


def comb_Count.f (a0 : Int) (a1 : Int) : Option (Int × Int):=(comb_fair.f a0 a1).bind fun ae=>(if ae=true then ((comb_table.f a0 a1).bind fun ac=>(some (ac,0))) else (some (0,1)))
set_option maxHeartbeats 8000000 in
set_option maxRecDepth 100000 in
theorem comb_Count.calls (a0 : Int) (a1 : Int) (r1 : Int) (r2 : Int) (w : World) (h : comb_Count.f a0 a1=some (r1,r2)) :
  Calls Try.prog 31 #[.int .i64 a0, .int .i64 a1] w fun e w' => e=.returned (.tuple #[.int .u64 r1, .int .i64 r2])∧Below w.heap.size w w' := by
 have HB:=zm (Below.refl w.heap.size w);have H:=h
 unfold comb_Count.f at H
 clear h
 obtain ⟨ae,A3,H⟩:=ybi H
 by_cases c4 : ae=true
 ·
  subst c4
  rw [if_pos rfl] at H
  obtain ⟨ag,aa⟩ : ∃ y_ : List Int,y_=(([0] : List Int)):=⟨_,rfl⟩
  replace H : ((comb_table.f a0 a1).bind fun ac=>(some (ac,0)))=some (r1,r2):=yrw aa H
  have af:=zm aa;clear aa
  obtain ⟨ac,A5,H⟩:=ybi H
  simp only [Option.some.injEq,Prod.mk.injEq] at H
  obtain ⟨rfl,rfl⟩:=H
  go_enter Try.func31,Try.ntmps31
  obtain ⟨Z,hz,HZs⟩:=comb_table.zsize
  obtain ⟨ia0,ib0,ic0,id0⟩:=comb_table.inn A5.out
  go_wp2_with (first|((with_reducible refine gate_callee (f:=71) rfl ?_);refine ygl 9 Try.func71 #[.int .i64 a0, .int .i64 a1] ?_;(with_reducible refine (comb_fair.calls a0 a1 true _ A3.out).mono ?_);rintro e w' ⟨rfl,⟨nd,rfl⟩⟩;refine ⟨_,rfl, ?_⟩)|((with_reducible refine gate_callee (f:=72) rfl ?_);refine goesL_ (some 11) rfl rfl Try.func72 (by kernel_rfl) rfl #[] rfl (by first|rfl|simp) ?_;(with_reducible refine (comb_table.made _).mono ?_);rintro e w5 ⟨rfl,hb5⟩;refine ⟨_,rfl, ?_⟩;have hst:=run_storeCells_new (P:=Try.prog) w5 118 Z (ABl (comb_table.T 16)) comb_table.size16 HZs.out (ABl_one _);have n1_:=zm (ze (zJ yhb hb5) (.cells (ABl (comb_table.T 16)) 118));clear HB;have HB:=n1_;clear n1_;have hbn:=zm (blk_new w5 (.cells (ABl (comb_table.T 16)) 118));have hcl0:=comb_table.look hbn.out A5.out))
  go_ret2
  exact ⟨ye,yhb⟩
 replace c4:=Bool.eq_false_iff.mpr c4
 subst c4
 rw [ynf] at H
 simp only [Option.some.injEq,Prod.mk.injEq] at H
 obtain ⟨rfl,rfl⟩:=H
 go_enter Try.func31,Try.ntmps31
 go_wp2_with (first|((with_reducible refine gate_callee (f:=71) rfl ?_);refine ygl 9 Try.func71 #[.int .i64 a0, .int .i64 a1] ?_;(with_reducible refine (comb_fair.calls a0 a1 false _ A3.out).mono ?_);rintro e w' ⟨rfl,⟨nd,rfl⟩⟩;refine ⟨_,rfl, ?_⟩))
 go_ret2
 exact ⟨ye,yhb⟩
def comb_width.l0 : Nat→Int→Int→Option (Int)
 | 0,_,_=>none
 | k+1,x0,x3=>if x0 > 0 then (comb_width.l0 k (x0 / 2) (wrap64 (x3+1))) else (some x3)
def comb_width.f (k : Nat) (a0 : Int) : Option (Int):=comb_width.l0 k a0 0
theorem comb_width.mono_l : ∀ k,(∀ y0 y1,LeO (comb_width.l0 k y0 y1) (comb_width.l0 (k+1) y0 y1))
 | 0=>fun _ _ r h=>by simp [comb_width.l0] at h
 | k+1=>by
  have ih0:=comb_width.mono_l k
  ·
   intro y0 y1
   unfold comb_width.l0
   repeat' with_reducible first|apply ih0|apply yLr|apply yLn|apply yLi|apply yLb|intro _
theorem comb_width.mono : ∀ a0 k,LeO (comb_width.f k a0) (comb_width.f (k+1) a0):=by
 intro a0 k
 have ih0:=comb_width.mono_l k
 unfold comb_width.f
 repeat' with_reducible first|apply ih0|apply yLr|apply yLn|apply yLi|apply yLb|intro _
set_option maxHeartbeats 8000000 in
set_option maxRecDepth 100000 in
theorem comb_width.calls (k : Nat) (a0 : Int) (r : Int) (w : World) (h : comb_width.f k a0=some r) :
  Calls Try.prog 100 #[.int .u64 a0] w fun e w' => e=.returned (.int .i64 r)∧Drawn0 w w' := by
 have H:=h
 unfold comb_width.f at H
 clear h
 have H' := zm H
 clear H
 go_enter Try.func100,Try.ntmps100
 go_wp2
 go_loopg [0,3] k (fun kq v0 v3 w' => ∃ (aa : Int) (ac : Int),v0=.int .u64 aa∧v3=.int .i64 ac∧Aside0 (comb_width.l0 kq aa ac=some r)∧Aside0 (kq≤k)∧Drawn0 w w')
 case atStart=>exact ⟨(a0),(0),yq,yq,H',⟨Nat.le_refl _⟩,yd⟩
 case round =>
  clear H'
  obtain ⟨aa,ac,rfl,rfl,HA,HK1,⟨m1,rfl⟩⟩:=hrel
  obtain ⟨k1,rfl⟩:=ysu gk (fun h=>by subst h;exact absurd HA.out (by simp [comb_width.l0]))
  have H:=HA.out;clear HA
  simp only [comb_width.l0] at H
  by_cases c2 : aa > 0
  ·
   rw [if_pos c2] at H
   have ae:=yDs c2
   clear c2
   have H' := zm H
   clear H
   go_wp2
   go_roundg k1
   case measure=>exact yom1 HK1
   case rel=>exact ⟨(aa / 2),(wrap64 (ac+1)),yq,yq,H',⟨yom1 HK1⟩,yd⟩
  rw [if_neg c2] at H
  have ae:=yGs c2
  clear c2
  obtain rfl:=Option.some.inj H
  go_wp2
  go_ret
  exact ⟨yq,yd⟩
def comb_Cost.f (k : Nat) (a0 : Int) (a1 : Int) : Option (Int × Int):=(comb_Count.f a0 a1).bind fun aa=>(if aa.2=0 then (if (IntKind.u64.wrap (aa.1 - 1)) < 65536 then ((comb_width.f k (IntKind.u64.wrap (aa.1 - 1))).bind fun af=>(some (af,0))) else ((comb_width.f k ((IntKind.u64.wrap (aa.1 - 1)) / 65536)).bind fun ag=>(some (wrap64 (ag+16),0)))) else (some (0,aa.2)))
theorem comb_Cost.mono : ∀ a0 a1 k,LeO (comb_Cost.f k a0 a1) (comb_Cost.f (k+1) a0 a1):=by
 intro a0 a1 k
 unfold comb_Cost.f
 repeat' with_reducible first|apply comb_width.mono|apply yLr|apply yLn|apply yLi|apply yLb|intro _
set_option maxHeartbeats 8000000 in
set_option maxRecDepth 100000 in
theorem comb_Cost.calls (k : Nat) (a0 : Int) (a1 : Int) (r1 : Int) (r2 : Int) (w : World) (h : comb_Cost.f k a0 a1=some (r1,r2)) :
  Calls Try.prog 98 #[.int .i64 a0, .int .i64 a1] w fun e w' => e=.returned (.tuple #[.int .i64 r1, .int .i64 r2])∧Below w.heap.size w w' := by
 have HB:=zm (Below.refl w.heap.size w);have H:=h
 unfold comb_Cost.f at H
 clear h
 obtain ⟨⟨ac,ae⟩,A3,H⟩:=ybi H
 try dsimp only at H
 by_cases c4 : ae=0
 ·
  rw [if_pos c4] at H
  obtain ⟨ah,ai⟩:=yE c4
  clear c4
  by_cases c5 : (IntKind.u64.wrap (ac - 1)) < 65536
  ·
   rw [if_pos c5] at H
   have aj:=yD c5
   clear c5
   obtain ⟨af,A6,H⟩:=ybi H
   simp only [Option.some.injEq,Prod.mk.injEq] at H
   obtain ⟨rfl,rfl⟩:=H
   go_enter Try.func98,Try.ntmps98
   go_wp2_with (first|((with_reducible refine gate_callee (f:=31) rfl ?_);refine ygl 11 Try.func31 #[.int .i64 a0, .int .i64 a1] ?_;(with_reducible refine (comb_Count.calls a0 a1 ac ae _ A3.out).mono ?_);rintro e w7 ⟨rfl,hb⟩;refine ⟨_,rfl, ?_⟩;replace HB:=ybs hb;(try clear hb))|((with_reducible refine gate_callee (f:=100) rfl ?_);refine ygl 22 Try.func100 #[.int .u64 (IntKind.u64.wrap (ac - 1))] ?_;(with_reducible refine (comb_width.calls k (IntKind.u64.wrap (ac - 1)) af _ A6.out).mono ?_);rintro e w' ⟨rfl,⟨nd,rfl⟩⟩;refine ⟨_,rfl, ?_⟩))
   go_ret2
   exact ⟨ye,yhb⟩
  rw [if_neg c5] at H
  have aj:=yG c5
  clear c5
  obtain ⟨ag,A8,H⟩:=ybi H
  simp only [Option.some.injEq,Prod.mk.injEq] at H
  obtain ⟨rfl,rfl⟩:=H
  go_enter Try.func98,Try.ntmps98
  go_wp2_with (first|((with_reducible refine gate_callee (f:=31) rfl ?_);refine ygl 11 Try.func31 #[.int .i64 a0, .int .i64 a1] ?_;(with_reducible refine (comb_Count.calls a0 a1 ac ae _ A3.out).mono ?_);rintro e w9 ⟨rfl,hb⟩;refine ⟨_,rfl, ?_⟩;replace HB:=ybs hb;(try clear hb))|((with_reducible refine gate_callee (f:=100) rfl ?_);refine ygl 25 Try.func100 #[.int .u64 ((IntKind.u64.wrap (ac - 1)) / 65536)] ?_;(with_reducible refine (comb_width.calls k ((IntKind.u64.wrap (ac - 1)) / 65536) ag _ A8.out).mono ?_);rintro e w' ⟨rfl,⟨nd,rfl⟩⟩;refine ⟨_,rfl, ?_⟩))
  go_ret2
  exact ⟨ye,yhb⟩
 rw [if_neg c4] at H
 obtain ⟨ah,ai⟩:=yF c4
 simp only [Option.some.injEq,Prod.mk.injEq] at H
 obtain ⟨rfl,rfl⟩:=H
 go_enter Try.func98,Try.ntmps98
 go_wp2_with (first|((with_reducible refine gate_callee (f:=31) rfl ?_);refine ygl 11 Try.func31 #[.int .i64 a0, .int .i64 a1] ?_;(with_reducible refine (comb_Count.calls a0 a1 ac ae _ A3.out).mono ?_);rintro e w10 ⟨rfl,hb⟩;refine ⟨_,rfl, ?_⟩;replace HB:=ybs hb;(try clear hb)))
 go_ret2
 exact ⟨ye,yhb⟩
def alloc_cost.j0 : Nat→Int→List Int→Int→Bool→Option (Int × Bool)
 | 0,_,_,_,_=>none
 | k+1,x1,x2,x3,x33=>if x33=true then (some (0,false)) else ((band_Width.f x1).bind fun al=>(if 0≤x1 then (if x1 < (x2.length : Int) then ((comb_Cost.f k al (rd x2 x1)).bind fun ap=>((band_Width.f x1).bind fun am=>((comb_Cost.f k am (wrap64 ((rd x2 x1)+1))).bind fun aq=>(some (wrap64 (aq.1 - ap.1),decide ((wrap64 (aq.1 - ap.1))≤x3)))))) else (none)) else (none)))
def alloc_cost.f (k : Nat) (l0 : List Int) (a1 : Int) (l2 : List Int) (a3 : Int) : Option (Int × Bool):=if 0≤a1 then (if a1 < (l0.length : Int) then (if (rd l0 a1)=0 then (alloc_cost.j0 k a1 l2 a3 true) else (if a1 < (l2.length : Int) then ((alloc_most.f a1).bind fun ao=>(alloc_cost.j0 k a1 l2 a3 (decide ((rd l2 a1) ≥ ao)))) else (none))) else (none)) else (none)
theorem alloc_cost.mono_l : ∀ k,(∀ y0 y1 y2 y3,LeO (alloc_cost.j0 k y0 y1 y2 y3) (alloc_cost.j0 (k+1) y0 y1 y2 y3))
 | 0=>fun _ _ _ _ r h=>by simp [alloc_cost.j0] at h
 | k+1=>by
  have ih0:=alloc_cost.mono_l k
  ·
   intro y0 y1 y2 y3
   unfold alloc_cost.j0
   repeat' with_reducible first|apply ih0|apply comb_Cost.mono|apply yLr|apply yLn|apply yLi|apply yLb|intro _
theorem alloc_cost.mono : ∀ a0 a1 a2 a3 k,LeO (alloc_cost.f k a0 a1 a2 a3) (alloc_cost.f (k+1) a0 a1 a2 a3):=by
 intro a0 a1 a2 a3 k
 have ih0:=alloc_cost.mono_l k
 unfold alloc_cost.f
 repeat' with_reducible first|apply ih0|apply comb_Cost.mono|apply yLr|apply yLn|apply yLi|apply yLb|intro _
def alloc_cost.T1 : Bool × List (List Nat × List Nat):=(true, [([], []),([0], [0]),([1], [1]),([2], [2]),([], []),([3,4], [3,4]),([5], [5]),([6], [6]),([7], [7]),([8], [8]),([9,8], [8,9]),([10,8], [8,10]),([11,8], [8,11]),([8], [8]),([12,13,8], [8,12,13]),([14,8], [8,14]),([8], [8]),([16,8], [8,16]),([17,8], [8,17]),([18,8], [8,18]),([8], [8]),([19,20,8,8], [8,19,20]),([15,21,8], [8,15,21]),([8,22], [8,22])])
def alloc_cost.B1 : List Nat := [0,1,3,7,0,31,63,127,255,511,1023,2047,4095,511,16383,32767,511,66047,197119,459263,511,2032127,4194303,8388607]
theorem alloc_cost.tab1 : rtab .any (opsOf Try.f93 1)=alloc_cost.T1:=by kernel_rfl
theorem alloc_cost.bits1 : waitsOk alloc_cost.T1.2 alloc_cost.B1=true:=by kernel_rfl
def alloc_cost.T3 : Bool × List (List Nat × List Nat):=(true, [([], []),([0], [0]),([], []),([2], [2]),([3], [3]),([4], [4]),([], []),([5,6], [5,6]),([7], [7]),([1,8,1], [1,8]),([9], [9]),([10], [10]),([10], [10]),([11,9,0,1,2,3,4,5,6,7,8,9,10,11], [11]),([12,13,0,1,2,3,4,5,6,7,8,9,10,11,12,13], [12])])
def alloc_cost.B3 : List Nat := [0,1,0,4,12,28,0,124,252,511,1023,2047,2047,4095,16383]
theorem alloc_cost.tab3 : rtab .any (opsOf Try.f93 3)=alloc_cost.T3:=by kernel_rfl
theorem alloc_cost.bits3 : waitsOk alloc_cost.T3.2 alloc_cost.B3=true:=by kernel_rfl
def alloc_cost.T4 : Bool × List (List Nat × List Nat):=(true, [([], []),([0], [0]),([], []),([2], [2]),([3], [3]),([4], [4]),([], []),([5,6], [5,6]),([7], [7]),([8], [8]),([1,9,1], [1,9]),([10], [10]),([11], [11]),([11], [11]),([12,10,0,1,2,3,4,5,6,7,8,9,10,11,12], [12]),([13,14,0,1,2,3,4,5,6,7,8,9,10,11,12,13,14], [13])])
def alloc_cost.B4 : List Nat := [0,1,0,4,12,28,0,124,252,508,1023,2047,4095,4095,8191,32767]
theorem alloc_cost.tab4 : rtab .any (opsOf Try.f93 4)=alloc_cost.T4:=by kernel_rfl
theorem alloc_cost.bits4 : waitsOk alloc_cost.T4.2 alloc_cost.B4=true:=by kernel_rfl
def alloc_cost.T5 : Bool × List (List Nat × List Nat):=(true, [([], []),([], []),([0,1], [0,1]),([], []),([], []),([3,4], [3,4]),([], []),([6], [6]),([7], [7]),([8], [8]),([5,9], [5,9]),([2,0,1,2], [2]),([10,11,0,1,2,3,4,5,6,7,8,9,10,11], [10])])
def alloc_cost.B5 : List Nat := [0,0,3,0,0,24,0,64,192,448,1016,7,4095]
theorem alloc_cost.tab5 : rtab .any (opsOf Try.f93 5)=alloc_cost.T5:=by kernel_rfl
theorem alloc_cost.bits5 : waitsOk alloc_cost.T5.2 alloc_cost.B5=true:=by kernel_rfl
set_option maxHeartbeats 8000000 in
set_option maxRecDepth 100000 in
theorem alloc_cost.calls (k : Nat) (B : Nat) (A0 : Option Addr) (c0 : Nat) (l0 : List Int) (a1 : Int) (A2 : Option Addr) (c2 : Nat) (l2 : List Int) (a3 : Int) (r1 : Int) (r2 : Bool) (w : World) (hr0 : Kd.C (Kd.int .i64) w A0 l0.length l0) (hc0 : l0.length≤c0) (hr2 : Kd.C (Kd.int .i64) w A2 l2.length l2) (hc2 : l2.length≤c2) (hs : w.heap[B]? = some (.cells #[.slice A0 l0.length c0, .slice A2 l2.length c2, .int .i64 a3, .func (.func 69) #[] #[]] 115 (0,0))) (h : alloc_cost.f k l0 a1 l2 a3=some (r1,r2)) :
  Calls Try.prog 93 #[.pointer (some ⟨B,0,none⟩), .int .i64 a1] w fun e w' => e=.returned (.tuple #[.int .i64 r1, .bool r2])∧Below w.heap.size w w' := by
 have HR0:=zm hr0;have HC0:=zm hc0;clear hr0 hc0;have HR2:=zm hr2;have HC2:=zm hc2;clear hr2 hc2
 have hSt : ∀ W,Below w.heap.size w W→(W.cell? ⟨B,0,none⟩=some (.slice A0 l0.length c0)∧W.cell? ⟨B,1,none⟩=some (.slice A2 l2.length c2)∧W.cell? ⟨B,2,none⟩=some (.int .i64 a3)∧W.cell? ⟨B,3,none⟩=some (.func (.func 69) #[] #[])):=fun W hb=>by
  have h9:=zF hs hb
  exact ⟨(zs h9 0).trans rfl,(zs h9 1).trans rfl,(zs h9 2).trans rfl,(zs h9 3).trans rfl⟩
 have HST:=zm hSt;clear hSt hs;have HB:=zm (Below.refl w.heap.size w);have H:=h
 unfold alloc_cost.f at H
 clear h;have HC5:=zm H;clear H
 go_enter Try.func93,Try.ntmps93
 go_upto_region 1 with (fail)
 go_cut [33] (fun v33 wc => ∃ (kq : Nat) (ak : Bool),v33=.bool ak∧Aside0 (alloc_cost.j0 kq a1 l2 a3 ak=some (r1,r2))∧Aside0 (kq≤k)∧Aside0 (Below w.heap.size w wc))
 case first =>
  have H:=HC5.out;clear HC5
  obtain ⟨c6,H⟩:=yif H
  have aD : decide (0≤a1)=true:=decide_eq_true c6
  clear c6
  (first|rw [aD]|(simp only [i64_w,i32_w];rw [aD])|skip)
  obtain ⟨c7,H⟩:=yif H
  have aX : decide (a1 < (l0.length : Int))=true:=decide_eq_true c7
  clear c7
  by_cases c8 : (rd l0 a1)=0
  ·
   rw [if_pos c8] at H
   obtain ⟨aG,aH⟩:=yE c8
   clear c8
   have H' := zm H
   clear H
   try go_wp2
   replace HB:=zm (zf HB.out)
   have ai : 0≤(a1 : Int):=yt
   have aj : a1 < (l0.length : Int):=yt
   obtain ⟨ah,av,aa⟩:=Kd.at_int HR0.out a1 ai aj
   have hw123_0:=aa
   cases av
   replace aa:=yhx HB aa
   replace ai:=eq_true ai
   replace aj:=eq_true aj
   refine yst (fun w' => (w'.cell? ⟨B,0,none⟩=some (.slice (some ah) l0.length c0)∧w'.cell? ⟨B,1,none⟩=some (.slice A2 l2.length c2)∧w'.cell? ⟨B,2,none⟩=some (.int .i64 a3)∧w'.cell? ⟨B,3,none⟩=some (.func (.func 69) #[] #[]))∧(w'.cell? (ah.add (a1).toNat)=some (.int .i64 (rd l0 a1)))) [] 24 alloc_cost.tab1 alloc_cost.bits1 (fun hHeld HT_ HW_ => ?_) (hS:=⟨HST.out _ HB.out,((yhx HB hw123_0 :))⟩)
   generalize w.drew=w9 at HB aa hHeld ⊢
   refine yp 0 10 HT_ ?_
   refine yp 1 11 HT_ ?_
   refine yp 2 12 HT_ ?_
   refine yl 3 13 HT_ HW_ hHeld ?_
   refine yp 4 14 HT_ ?_
   refine yp 5 15 HT_ ?_
   refine yl 6 16 HT_ HW_ hHeld ?_
   refine yp 7 17 HT_ ?_
   refine yp 8 18 HT_ ?_
   refine yu 9 19 HT_ ?_
   refine yu 10 20 HT_ ?_
   refine yu 11 21 HT_ ?_
   refine yu 12 22 HT_ ?_
   refine yu 13 23 HT_ ?_
   refine yu 14 24 HT_ ?_
   refine yu 15 25 HT_ ?_
   refine yu 16 26 HT_ ?_
   refine yu 17 27 HT_ ?_
   refine yu 18 28 HT_ ?_
   refine yu 19 29 HT_ ?_
   refine yu 20 30 HT_ ?_
   refine yu 21 31 HT_ ?_
   refine yu 22 32 HT_ ?_
   refine yp 23 33 HT_ ?_
   refine done_ (done_of HT_.out (by kernel_rfl)) ?_
   try go_wp2
   go_meet
   case rel=>exact ⟨_,(true),yq,H',⟨yo⟩,⟨yhb⟩⟩
  rw [if_neg c8] at H
  obtain ⟨aG,aH⟩:=yF c8
  obtain ⟨c10,H⟩:=yif H
  have aU : decide (a1 < (l2.length : Int))=true:=decide_eq_true c10
  clear c10
  obtain ⟨ao,A11,H⟩:=ybi H
  have H' := zm H
  clear H
  try go_wp2
  replace HB:=zm (zf HB.out)
  have ai : 0≤(a1 : Int):=yt
  have aj : a1 < (l0.length : Int):=yt
  obtain ⟨ah,av,aa⟩:=Kd.at_int HR0.out a1 ai aj
  have hw123_0:=aa
  cases av
  replace aa:=yhx HB aa
  replace ai:=eq_true ai
  replace aj:=eq_true aj
  have aw : 0≤(a1 : Int):=yt
  have ax : a1 < (l2.length : Int):=yt
  obtain ⟨au,aI,ac⟩:=Kd.at_int HR2.out a1 aw ax
  have hw124_0:=ac
  cases aI
  replace ac:=yhx HB ac
  replace aw:=eq_true aw
  replace ax:=eq_true ax
  refine yst (fun w' => (w'.cell? ⟨B,0,none⟩=some (.slice (some ah) l0.length c0)∧w'.cell? ⟨B,1,none⟩=some (.slice (some au) l2.length c2)∧w'.cell? ⟨B,2,none⟩=some (.int .i64 a3)∧w'.cell? ⟨B,3,none⟩=some (.func (.func 69) #[] #[]))∧(w'.cell? (ah.add (a1).toNat)=some (.int .i64 (rd l0 a1))∧w'.cell? (au.add (a1).toNat)=some (.int .i64 (rd l2 a1)))) [] 24 alloc_cost.tab1 alloc_cost.bits1 (fun hHeld HT_ HW_ => ?_) (hS:=⟨HST.out _ HB.out,⟨(yhx HB hw123_0 :),(yhx HB hw124_0 :)⟩⟩)
  generalize w.drew=w12 at HB aa ac hHeld ⊢
  refine yp 0 10 HT_ ?_
  refine yp 1 11 HT_ ?_
  refine yp 2 12 HT_ ?_
  refine yl 3 13 HT_ HW_ hHeld ?_
  refine yp 4 14 HT_ ?_
  refine yp 5 15 HT_ ?_
  refine yl 6 16 HT_ HW_ hHeld ?_
  refine yp 7 17 HT_ ?_
  refine yp 8 18 HT_ ?_
  refine yp 9 19 HT_ ?_
  refine yp 10 20 HT_ ?_
  refine yp 11 21 HT_ ?_
  refine yl 12 22 HT_ HW_ hHeld ?_
  refine yp 13 23 HT_ ?_
  refine yp 14 24 HT_ ?_
  refine yp 16 26 HT_ ?_
  refine yp 17 27 HT_ ?_
  refine yp 18 28 HT_ ?_
  refine yl 19 29 HT_ HW_ hHeld ?_
  refine yp 20 30 HT_ ?_
  refine yl 15 25 HT_ HW_ hHeld ?_
  refine yw 21 31 HT_ (fun K hK => ?_)
  refine call_ 69 #[.int .i64 a1] (by rfl) rfl ?hrun ?_
  (case hrun =>
   have he:=fun W=>enters_ Try.func69 (by kernel_rfl) rfl #[.int .i64 a1] W
   unfold execOp
   simp [resolve,Deferred.ofValue,invoke,Act.eval,he])
  with_reducible refine (alloc_most.calls a1 ao _ A11.out).mono ?_
  rintro e w13 ⟨rfl,hb⟩
  refine ⟨_,rfl, ?_⟩
  replace HB:=ybs hb
  (try clear hb)
  refine hK.out _ _ ⟨HST.out _ HB.out,⟨(yhx HB hw123_0 :),(yhx HB hw124_0 :)⟩⟩ (fun hHeld => ?_)
  clear hK K
  refine ym (some 31) ?_
  refine yp 22 32 HT_ ?_
  refine yp 23 33 HT_ ?_
  refine done_ (done_of HT_.out (by kernel_rfl)) ?_
  try go_wp2
  go_meet
  case rel=>exact ⟨_,(decide ((rd l2 a1) ≥ ao)),yq,H',⟨yo⟩,⟨yhb⟩⟩
 case rest =>
  clear HC5
  try clear c2
  obtain ⟨kq,ak,rfl,HA,HJ4,HB⟩:=hcut
  obtain ⟨kj4,rfl⟩:=ysu kq (fun h=>by subst h;exact absurd HA.out (by simp [alloc_cost.j0]))
  have H:=HA.out;clear HA
  simp only [alloc_cost.j0] at H
  by_cases c14 : ak=true
  ·
   subst c14
   rw [if_pos rfl] at H
   simp only [Option.some.injEq,Prod.mk.injEq] at H
   obtain ⟨rfl,rfl⟩:=H
   go_wp2
   go_ret2
   exact ⟨ye,yhb⟩
  replace c14:=Bool.eq_false_iff.mpr c14
  subst c14
  rw [ynf] at H
  obtain ⟨al,A15,H⟩:=ybi H
  obtain ⟨c16,H⟩:=yif H
  have aV : decide (0≤a1)=true:=decide_eq_true c16
  clear c16
  obtain ⟨c17,H⟩:=yif H
  have aW : decide (a1 < (l2.length : Int))=true:=decide_eq_true c17
  clear c17
  obtain ⟨⟨aJ,aK⟩,A18,H⟩:=ybi H
  try dsimp only at H
  obtain ⟨am,A19,H⟩:=ybi H
  obtain ⟨⟨aM,aN⟩,A20,H⟩:=ybi H
  try dsimp only at H
  simp only [Option.some.injEq,Prod.mk.injEq] at H
  obtain ⟨rfl,rfl⟩:=H
  try go_wp2
  replace HB:=zm (zf HB.out)
  have ay : 0≤(a1 : Int):=yt
  have az : a1 < (l2.length : Int):=yt
  obtain ⟨ag,aQ,ae⟩:=Kd.at_int HR2.out a1 ay az
  have hw127_0:=ae
  cases aQ
  replace ae:=yhx HB ae
  replace ay:=eq_true ay
  replace az:=eq_true az
  refine yst (fun w' => (w'.cell? ⟨B,0,none⟩=some (.slice A0 l0.length c0)∧w'.cell? ⟨B,1,none⟩=some (.slice (some ag) l2.length c2)∧w'.cell? ⟨B,2,none⟩=some (.int .i64 a3)∧w'.cell? ⟨B,3,none⟩=some (.func (.func 69) #[] #[]))∧(w'.cell? (ag.add (a1).toNat)=some (.int .i64 (rd l2 a1)))) [] 15 alloc_cost.tab3 alloc_cost.bits3 (fun hHeld HT_ HW_ => ?_) (hS:=⟨HST.out _ HB.out,((yhx HB hw127_0 :))⟩)
  generalize wc.drew=w21 at HB ae hHeld ⊢
  refine yp 0 35 HT_ ?_
  refine yp 2 37 HT_ ?_
  refine yp 3 38 HT_ ?_
  refine yp 4 39 HT_ ?_
  refine yl 5 40 HT_ HW_ hHeld ?_
  refine yp 6 41 HT_ ?_
  refine yp 7 42 HT_ ?_
  refine yl 8 43 HT_ HW_ hHeld ?_
  refine yw 1 36 HT_ (fun K hK => ?_)
  refine ygs Try.func32 #[.int .i64 a1] ?_
  with_reducible refine (band_Width.calls a1 al _ A15.out).mono ?_
  rintro e w22 ⟨rfl,hb⟩
  refine ⟨_,rfl, ?_⟩
  replace HB:=ybs hb
  (try clear hb)
  refine hK.out _ _ ⟨HST.out _ HB.out,((yhx HB hw127_0 :))⟩ (fun hHeld => ?_)
  clear hK K
  refine ym (some 36) ?_
  refine yw 9 44 HT_ (fun K hK => ?_)
  refine ygs Try.func98 #[.int .i64 al, .int .i64 (rd l2 a1)] ?_
  with_reducible refine (comb_Cost.calls kj4 al (rd l2 a1) aJ aK _ A18.out).mono ?_
  rintro e w23 ⟨rfl,hb⟩
  refine ⟨_,rfl, ?_⟩
  replace HB:=ybs hb
  (try clear hb)
  refine hK.out _ _ ⟨HST.out _ HB.out,((yhx HB hw127_0 :))⟩ (fun hHeld => ?_)
  clear hK K
  refine ym (some 44) ?_
  refine yp 10 34 HT_ ?_
  refine yp 11 45 HT_ ?_
  refine yp 12 46 HT_ ?_
  refine yp 13 6 HT_ ?_
  refine yp 14 7 HT_ ?_
  refine done_ (done_of HT_.out (by kernel_rfl)) ?_
  try go_wp2
  replace HB:=zm (zf HB.out)
  have aA : 0≤(a1 : Int):=yt
  have aC : a1 < (l2.length : Int):=yt
  obtain ⟨aE,aT,af⟩:=Kd.at_int HR2.out a1 aA aC
  have hw131_0:=af
  obtain rfl : ag=aE:=(by injection aT)
  replace af:=yhx HB af
  replace aA:=eq_true aA
  replace aC:=eq_true aC
  refine yst (fun w' => (w'.cell? ⟨B,0,none⟩=some (.slice A0 l0.length c0)∧w'.cell? ⟨B,1,none⟩=some (.slice (some ag) l2.length c2)∧w'.cell? ⟨B,2,none⟩=some (.int .i64 a3)∧w'.cell? ⟨B,3,none⟩=some (.func (.func 69) #[] #[]))∧(w'.cell? (ag.add (a1).toNat)=some (.int .i64 (rd l2 a1)))) [] 16 alloc_cost.tab4 alloc_cost.bits4 (fun hHeld HT_ HW_ => ?_) (hS:=⟨HST.out _ HB.out,((yhx HB hw131_0 :))⟩)
  generalize w23.drew=w24 at HB af hHeld ⊢
  refine yp 0 48 HT_ ?_
  refine yp 2 50 HT_ ?_
  refine yp 3 51 HT_ ?_
  refine yp 4 52 HT_ ?_
  refine yl 5 53 HT_ HW_ hHeld ?_
  refine yp 6 54 HT_ ?_
  refine yp 7 55 HT_ ?_
  refine yl 8 56 HT_ HW_ hHeld ?_
  refine yp 9 57 HT_ ?_
  refine yw 1 49 HT_ (fun K hK => ?_)
  refine ygs Try.func32 #[.int .i64 a1] ?_
  with_reducible refine (band_Width.calls a1 am _ A19.out).mono ?_
  rintro e w25 ⟨rfl,hb⟩
  refine ⟨_,rfl, ?_⟩
  replace HB:=ybs hb
  (try clear hb)
  refine hK.out _ _ ⟨HST.out _ HB.out,((yhx HB hw131_0 :))⟩ (fun hHeld => ?_)
  clear hK K
  refine ym (some 49) ?_
  refine yw 10 58 HT_ (fun K hK => ?_)
  refine ygs Try.func98 #[.int .i64 am, .int .i64 (wrap64 ((rd l2 a1)+1))] ?_
  with_reducible refine (comb_Cost.calls kj4 am (wrap64 ((rd l2 a1)+1)) aM aN _ A20.out).mono ?_
  rintro e w26 ⟨rfl,hb⟩
  refine ⟨_,rfl, ?_⟩
  replace HB:=ybs hb
  (try clear hb)
  refine hK.out _ _ ⟨HST.out _ HB.out,((yhx HB hw131_0 :))⟩ (fun hHeld => ?_)
  clear hK K
  refine ym (some 58) ?_
  refine yp 11 47 HT_ ?_
  refine yp 12 59 HT_ ?_
  refine yp 13 60 HT_ ?_
  refine yp 14 8 HT_ ?_
  refine yp 15 9 HT_ ?_
  refine done_ (done_of HT_.out (by kernel_rfl)) ?_
  try go_wp2
  replace HB:=zm (zf HB.out)
  refine yst (fun w' => (w'.cell? ⟨B,0,none⟩=some (.slice A0 l0.length c0)∧w'.cell? ⟨B,1,none⟩=some (.slice (some ag) l2.length c2)∧w'.cell? ⟨B,2,none⟩=some (.int .i64 a3)∧w'.cell? ⟨B,3,none⟩=some (.func (.func 69) #[] #[]))∧(True)) [] 13 alloc_cost.tab5 alloc_cost.bits5 (fun hHeld HT_ HW_ => ?_) (hS:=⟨HST.out _ HB.out,trivial⟩)
  generalize w26.drew=w27 at HB hHeld ⊢
  refine yp 0 61 HT_ ?_
  refine yp 1 62 HT_ ?_
  refine yp 2 63 HT_ ?_
  refine yp 3 64 HT_ ?_
  refine yp 4 65 HT_ ?_
  refine yp 5 66 HT_ ?_
  refine yp 6 67 HT_ ?_
  refine yp 7 68 HT_ ?_
  refine yp 8 69 HT_ ?_
  refine yl 9 70 HT_ HW_ hHeld ?_
  refine yp 10 71 HT_ ?_
  refine yp 11 4 HT_ ?_
  refine yp 12 5 HT_ ?_
  refine done_ (done_of HT_.out (by kernel_rfl)) ?_
  try go_wp2
  go_ret2
  exact ⟨ye,yhb⟩
def alloc_worth.f (l0 : List Int) (a1 : Int) (l2 : List Int) (a3 : Int) : Option (Int):=if 0≤a1 then (if a1 < (l0.length : Int) then (if a1 < (l2.length : Int) then ((band_Width.f a1).bind fun ae=>(if ae=0 then (none) else (some (wrap64 ((wrap64 (8 * (rd l0 a1))) - (wrap64 (Int.tdiv (wrap64 (16 * (rd l2 a1))) ae))))))) else (none)) else (none)) else (none)
def alloc_worth.T1 : Bool × List (List Nat × List Nat):=(true, [([], []),([0], [0]),([1], [1]),([2], [2]),([], []),([3,4], [3,4]),([5], [5]),([6], [6]),([], []),([8], [8]),([9], [9]),([10], [10]),([], []),([11,12], [11,12]),([13], [13]),([14], [14]),([], []),([16], [16]),([15,17], [15,17]),([7,18], [7,18]),([19,17,0,1,2,3,4,5,6,7,8,9,10,11,12,13,14,15,16,17,18,19], [19])])
def alloc_worth.B1 : List Nat := [0,1,3,7,0,31,63,127,0,256,768,1792,0,7936,16128,32512,0,65536,261888,524287,1048575]
theorem alloc_worth.tab1 : rtab .any (opsOf Try.f94 1)=alloc_worth.T1:=by kernel_rfl
theorem alloc_worth.bits1 : waitsOk alloc_worth.T1.2 alloc_worth.B1=true:=by kernel_rfl
set_option maxHeartbeats 8000000 in
set_option maxRecDepth 100000 in
theorem alloc_worth.calls (B : Nat) (A0 : Option Addr) (c0 : Nat) (l0 : List Int) (a1 : Int) (A2 : Option Addr) (c2 : Nat) (l2 : List Int) (a3 : Int) (r : Int) (w : World) (hr0 : Kd.C (Kd.int .i64) w A0 l0.length l0) (hc0 : l0.length≤c0) (hr2 : Kd.C (Kd.int .i64) w A2 l2.length l2) (hc2 : l2.length≤c2) (hs : w.heap[B]? = some (.cells #[.slice A0 l0.length c0, .slice A2 l2.length c2, .int .i64 a3, .func (.func 69) #[] #[]] 115 (0,0))) (h : alloc_worth.f l0 a1 l2 a3=some r) :
  Calls Try.prog 94 #[.pointer (some ⟨B,0,none⟩), .int .i64 a1] w fun e w' => e=.returned (.int .i64 r)∧Below w.heap.size w w' := by
 have HR0:=zm hr0;have HC0:=zm hc0;clear hr0 hc0;have HR2:=zm hr2;have HC2:=zm hc2;clear hr2 hc2
 have hSt : ∀ W,Below w.heap.size w W→(W.cell? ⟨B,0,none⟩=some (.slice A0 l0.length c0)∧W.cell? ⟨B,1,none⟩=some (.slice A2 l2.length c2)∧W.cell? ⟨B,2,none⟩=some (.int .i64 a3)∧W.cell? ⟨B,3,none⟩=some (.func (.func 69) #[] #[])):=fun W hb=>by
  have h9:=zF hs hb
  exact ⟨(zs h9 0).trans rfl,(zs h9 1).trans rfl,(zs h9 2).trans rfl,(zs h9 3).trans rfl⟩
 have HST:=zm hSt;clear hSt hs;have HB:=zm (Below.refl w.heap.size w);have H:=h
 unfold alloc_worth.f at H
 clear h
 obtain ⟨c5,H⟩:=yif H
 have ao : decide (0≤a1)=true:=decide_eq_true c5
 clear c5
 obtain ⟨c6,H⟩:=yif H
 have ap : decide (a1 < (l0.length : Int))=true:=decide_eq_true c6
 clear c6
 obtain ⟨c7,H⟩:=yif H
 have aq : decide (a1 < (l2.length : Int))=true:=decide_eq_true c7
 clear c7
 obtain ⟨ae,A8,H⟩:=ybi H
 obtain ⟨c9,H⟩:=yie H
 obtain ⟨au,av⟩:=yF c9
 obtain rfl:=Option.some.inj H
 go_enter Try.func94,Try.ntmps94
 try go_wp2
 replace HB:=zm (zf HB.out)
 have ah : 0≤(a1 : Int):=yt
 have ai : a1 < (l0.length : Int):=yt
 obtain ⟨af,al,aa⟩:=Kd.at_int HR0.out a1 ah ai
 have hw134_0:=aa
 cases al
 replace aa:=yhx HB aa
 replace ah:=eq_true ah
 replace ai:=eq_true ai
 have aj : 0≤(a1 : Int):=yt
 have ak : a1 < (l2.length : Int):=yt
 obtain ⟨ag,am,ac⟩:=Kd.at_int HR2.out a1 aj ak
 have hw135_0:=ac
 cases am
 replace ac:=yhx HB ac
 replace aj:=eq_true aj
 replace ak:=eq_true ak
 refine yst (fun w' => (w'.cell? ⟨B,0,none⟩=some (.slice (some af) l0.length c0)∧w'.cell? ⟨B,1,none⟩=some (.slice (some ag) l2.length c2)∧w'.cell? ⟨B,2,none⟩=some (.int .i64 a3)∧w'.cell? ⟨B,3,none⟩=some (.func (.func 69) #[] #[]))∧(w'.cell? (af.add (a1).toNat)=some (.int .i64 (rd l0 a1))∧w'.cell? (ag.add (a1).toNat)=some (.int .i64 (rd l2 a1)))) [] 21 alloc_worth.tab1 alloc_worth.bits1 (fun hHeld HT_ HW_ => ?_) (hS:=⟨HST.out _ HB.out,⟨(yhx HB hw134_0 :),(yhx HB hw135_0 :)⟩⟩)
 generalize w.drew=w10 at HB aa ac hHeld ⊢
 refine yp 0 5 HT_ ?_
 refine yp 1 6 HT_ ?_
 refine yp 2 7 HT_ ?_
 refine yl 3 8 HT_ HW_ hHeld ?_
 refine yp 4 9 HT_ ?_
 refine yp 5 10 HT_ ?_
 refine yp 8 13 HT_ ?_
 refine yp 9 14 HT_ ?_
 refine yp 10 15 HT_ ?_
 refine yl 11 16 HT_ HW_ hHeld ?_
 refine yp 12 17 HT_ ?_
 refine yp 13 18 HT_ ?_
 refine yp 16 21 HT_ ?_
 refine yl 6 11 HT_ HW_ hHeld ?_
 refine yp 7 12 HT_ ?_
 refine yl 14 19 HT_ HW_ hHeld ?_
 refine yp 15 20 HT_ ?_
 refine yw 17 22 HT_ (fun K hK => ?_)
 refine ygs Try.func32 #[.int .i64 a1] ?_
 with_reducible refine (band_Width.calls a1 ae _ A8.out).mono ?_
 rintro e w11 ⟨rfl,hb⟩
 refine ⟨_,rfl, ?_⟩
 replace HB:=ybs hb
 (try clear hb)
 refine hK.out _ _ ⟨HST.out _ HB.out,⟨(yhx HB hw134_0 :),(yhx HB hw135_0 :)⟩⟩ (fun hHeld => ?_)
 clear hK K
 refine ym (some 22) ?_
 refine yp 18 23 HT_ ?_
 refine yp 19 24 HT_ ?_
 refine yp 20 4 HT_ ?_
 refine done_ (done_of HT_.out (by kernel_rfl)) ?_
 try go_wp2
 go_ret
 exact ⟨ye,yhb⟩
def alloc_give.l0 : Nat→List Int→List Int→Int→Int→Int→Option (Int × Bool × List Int)
 | 0,_,_,_,_,_=>none
 | k+1,x0,x1,x2,x3,x9=>if x9 < 5 then ((alloc_cost.f k x0 x9 x1 x2).bind fun aG=>(if aG.2=true then (if x3 < 0 then (alloc_give.l0 k x0 x1 x2 x9 (wrap64 (x9+1))) else ((alloc_worth.f x0 x9 x1 x2).bind fun am=>((alloc_worth.f x0 x3 x1 x2).bind fun ao=>(if am > ao then (alloc_give.l0 k x0 x1 x2 x9 (wrap64 (x9+1))) else (alloc_give.l0 k x0 x1 x2 x3 (wrap64 (x9+1))))))) else (alloc_give.l0 k x0 x1 x2 x3 (wrap64 (x9+1))))) else (if x3 < 0 then (some (x2,false,x1)) else ((alloc_cost.f k x0 x3 x1 x2).bind fun aH=>(if 0≤x3 then (if x3 < (x1.length : Int) then (some (wrap64 (x2 - aH.1),true,(x1.set (x3 : Int).toNat (wrap64 ((rd x1 x3)+1))))) else (none)) else (none))))
def alloc_give.f (k : Nat) (l0 : List Int) (l1 : List Int) (a2 : Int) : Option (Int × Bool × List Int):=alloc_give.l0 k l0 l1 a2 (-1) 0
theorem alloc_give.mono_l : ∀ k,(∀ y0 y1 y2 y3 y4,LeO (alloc_give.l0 k y0 y1 y2 y3 y4) (alloc_give.l0 (k+1) y0 y1 y2 y3 y4))
 | 0=>fun _ _ _ _ _ r h=>by simp [alloc_give.l0] at h
 | k+1=>by
  have ih0:=alloc_give.mono_l k
  ·
   intro y0 y1 y2 y3 y4
   unfold alloc_give.l0
   repeat' with_reducible first|apply ih0|apply alloc_cost.mono|apply yLr|apply yLn|apply yLi|apply yLb|intro _
theorem alloc_give.mono : ∀ a0 a1 a2 k,LeO (alloc_give.f k a0 a1 a2) (alloc_give.f (k+1) a0 a1 a2):=by
 intro a0 a1 a2 k
 have ih0:=alloc_give.mono_l k
 unfold alloc_give.f
 repeat' with_reducible first|apply ih0|apply alloc_cost.mono|apply yLr|apply yLn|apply yLi|apply yLb|intro _
set_option maxHeartbeats 8000000 in
set_option maxRecDepth 100000 in
theorem alloc_give.calls (k : Nat) (B : Nat) (A0 : Option Addr) (c0 : Nat) (l0 : List Int) (P1_ : Nat→Prop) (aj : Value) (l1 : List Int) (a2 : Int) (r1 : Int) (r2 : Bool) (r3 : List Int) (w0 w : World) (hB : Below w0.heap.size w0 w) (hr0 : ∀ W_,Kept w W_ (fun k_=>P1_ k_)→Kd.C (Kd.int .i64) W_ A0 l0.length l0) (hc0 : l0.length≤c0) (ho1 : Kd.R (Kd.int .i64) 3 w w0.heap.size P1_ aj l1) (hPB : ¬ P1_ B) (hB0 : w0.heap.size≤B) (hs : w.heap[B]? = some (.cells #[.slice A0 l0.length c0,aj, .int .i64 a2, .func (.func 69) #[] #[]] 115 (0,0))) (h : alloc_give.f k l0 l1 a2=some (r1,r2,r3)) :
  Calls Try.prog 70 #[.pointer (some ⟨B,0,none⟩)] w fun e w' => e=.returned (.bool r2)∧Kd.R (Kd.int .i64) 3 w' w0.heap.size (fun k_=>(P1_ k_∨w.heap.size≤k_)) aj r3∧Below w0.heap.size w0 w'∧Kept w w' (fun k_=>P1_ k_∨k_=B)∧w'.heap[B]? = some (.cells #[.slice A0 l0.length c0,aj, .int .i64 r1, .func (.func 69) #[] #[]] 115 (0,0)):=by
 have HR0:=zm hr0;have HC0:=zm hc0;have HPB:=zm hPB;have HB0:=zm hB0;have HBL:=zm (zD hs);have HS:=zm hs
 have HNE : Aside0 (∀ k_,(P1_ k_∨w.heap.size≤k_)→k_≠B):=⟨fun k_ hk e_=>by
  subst e_
  exact hk.elim hPB (fun h_=>Nat.lt_irrefl _ (zl (zD hs) h_))⟩
 clear hr0 hc0 hPB hB0 hs
 have HO1:=zm (show Kd.R (Kd.int .i64) 3 w w0.heap.size (fun k_=>(P1_ k_∨w.heap.size≤k_)) aj l1 from zG ho1 (fun k_ hk=>(.inl hk)))
 have HK:=zm (Kept.refl w (fun k_=>P1_ k_))
 have HW0:=zm hB.size;have HB:=zm hB;clear hB;have H:=h
 unfold alloc_give.f at H
 clear h
 have H' := zm H
 clear H
 go_enter Try.func70,Try.ntmps70
 go_wp2
 go_loopg [3,9] k (fun kq v3 v9 w' => ∃ (ac : Int) (ai : Int),v3=.int .i64 ac∧v9=.int .i64 ai∧Aside0 (alloc_give.l0 kq l0 l1 a2 ac ai=some (r1,r2,r3))∧Aside0 (kq≤k)∧Aside0 (Kd.R (Kd.int .i64) 3 w' w0.heap.size (fun k_=>(P1_ k_∨w.heap.size≤k_)) aj l1)∧Aside0 (Kept w w' (fun k_=>P1_ k_))∧Aside0 (Below w0.heap.size w0 w')∧Aside0 (w'.heap[B]? = some (.cells #[.slice A0 l0.length c0,aj, .int .i64 a2, .func (.func 69) #[] #[]] 115 (0,0))))
 case atStart=>exact ⟨((-1)),(0),yq,yq,H',⟨Nat.le_refl _⟩,⟨yr HO1⟩,⟨by repeat (first|(with_reducible first|exact HK.out|apply Kept.alloc|apply Kept.drewN|apply Kept.drew)|exact HK.out)⟩,⟨yhb⟩,⟨(yk HS)⟩⟩
 case round =>
  clear H'
  obtain ⟨ac,ai,rfl,rfl,HA,HK1,aa,HK,HB,HS⟩:=hrel
  obtain ⟨k1,rfl⟩:=ysu gk (fun h=>by subst h;exact absurd HA.out (by simp [alloc_give.l0]))
  have H:=HA.out;clear HA
  simp only [alloc_give.l0] at H
  by_cases c4 : ai < 5
  ·
   rw [if_pos c4] at H
   have aU:=yD c4
   clear c4
   obtain ⟨⟨au,aV⟩,A5,H⟩:=ybi H
   try dsimp only at H
   by_cases c6 : aV=true
   ·
    subst c6
    rw [if_pos rfl] at H
    by_cases c7 : ac < 0
    ·
     rw [if_pos c7] at H
     have aW:=yD c7
     clear c7
     have H' := zm H
     clear H
     obtain ⟨Ao8,co8,eo8⟩:=Kd.R_slice aa.out
     subst eo8
     go_wp2_with (first|((with_reducible refine gate_callee (f:=93) rfl ?_);refine ygl 15 Try.func93 #[.pointer (some ⟨B,0,none⟩), .int .i64 ai] ?_;(with_reducible refine (alloc_cost.calls k1 B A0 c0 l0 ai Ao8 co8 l1 a2 au true _ ?ae HC0.out ?af ?ag ?ah A5.out).mono ?_);(case ae=>exact Kd.C_kept_now HR0.out (by repeat (first|(with_reducible first|exact HK.out|apply Kept.alloc|apply Kept.drewN|apply Kept.drew)|exact HK.out)));(case af=>exact yce (Kd.R_reads' aa.out).2.2);(case ag=>exact (Kd.R_reads' aa.out).2.1);(case ah=>exact (yk HS));rintro e w9 ⟨rfl,hb⟩;refine ⟨_,rfl, ?_⟩;have n9_:=ybb HS hb;have n0_:=yRb aa hb;have n1_:=zm (Kept.below (S:=(fun k_=>P1_ k_)) (by repeat (first|(with_reducible first|exact HK.out|apply Kept.alloc|apply Kept.drewN|apply Kept.drew)|exact HK.out)) hb);have n2_:=ybs hb;clear aa;clear HK;clear HB;clear HS;have HS:=n9_;have aa:=n0_;have HK:=n1_;have HB:=n2_;clear n0_ n1_ n2_ n9_;(try clear hb)))
     go_roundg k1
     case measure=>exact yom1 HK1
     case rel=>exact ⟨(ai),(wrap64 (ai+1)),yq,yq,H',⟨yom1 HK1⟩,⟨yr aa⟩,⟨by repeat (first|(with_reducible first|exact HK.out|apply Kept.alloc|apply Kept.drewN|apply Kept.drew)|exact HK.out)⟩,⟨yhb⟩,⟨(yk HS)⟩⟩
    rw [if_neg c7] at H
    have aW:=yG c7
    clear c7
    obtain ⟨am,A10,H⟩:=ybi H
    obtain ⟨ao,A11,H⟩:=ybi H
    by_cases c12 : am > ao
    ·
     rw [if_pos c12] at H
     have aI:=yDs c12
     clear c12
     have H' := zm H
     clear H
     obtain ⟨ax,ay,aX⟩:=Kd.R_slice aa.out
     subst aX
     go_wp2_with (first|((with_reducible refine gate_callee (f:=93) rfl ?_);refine ygl 15 Try.func93 #[.pointer (some ⟨B,0,none⟩), .int .i64 ai] ?_;(with_reducible refine (alloc_cost.calls k1 B A0 c0 l0 ai ax ay l1 a2 au true _ ?ae HC0.out ?af ?ag ?ah A5.out).mono ?_);(case ae=>exact Kd.C_kept_now HR0.out (by repeat (first|(with_reducible first|exact HK.out|apply Kept.alloc|apply Kept.drewN|apply Kept.drew)|exact HK.out)));(case af=>exact yce (Kd.R_reads' aa.out).2.2);(case ag=>exact (Kd.R_reads' aa.out).2.1);(case ah=>exact (yk HS));rintro e w14 ⟨rfl,hb⟩;refine ⟨_,rfl, ?_⟩;have n9_:=ybb HS hb;have n0_:=yRb aa hb;have n1_:=zm (Kept.below (S:=(fun k_=>P1_ k_)) (by repeat (first|(with_reducible first|exact HK.out|apply Kept.alloc|apply Kept.drewN|apply Kept.drew)|exact HK.out)) hb);have n2_:=ybs hb;clear aa;clear HK;clear HB;clear HS;have HS:=n9_;have aa:=n0_;have HK:=n1_;have HB:=n2_;clear n0_ n1_ n2_ n9_;(try clear hb))|(go_at_call 94;(with_reducible refine (alloc_worth.calls B A0 c0 l0 ai ax ay l1 a2 am _ ?ae HC0.out ?af ?ag ?ah A10.out).mono ?_);(case ae=>exact Kd.C_kept_now HR0.out (by repeat (first|(with_reducible first|exact HK.out|apply Kept.alloc|apply Kept.drewN|apply Kept.drew)|exact HK.out)));(case af=>exact yce (Kd.R_reads' aa.out).2.2);(case ag=>exact (Kd.R_reads' aa.out).2.1);(case ah=>exact (yk HS));rintro e w15 ⟨rfl,hb⟩;have n9_:=ybb HS hb;have n0_:=yRb aa hb;have n1_:=zm (Kept.below (S:=(fun k_=>P1_ k_)) (by repeat (first|(with_reducible first|exact HK.out|apply Kept.alloc|apply Kept.drewN|apply Kept.drew)|exact HK.out)) hb);have n2_:=ybs hb;clear aa;clear HK;clear HB;clear HS;have HS:=n9_;have aa:=n0_;have HK:=n1_;have HB:=n2_;clear n0_ n1_ n2_ n9_;(try clear hb))|(go_at_call 94;(with_reducible refine (alloc_worth.calls B A0 c0 l0 ac ax ay l1 a2 ao _ ?ae HC0.out ?af ?ag ?ah A11.out).mono ?_);(case ae=>exact Kd.C_kept_now HR0.out (by repeat (first|(with_reducible first|exact HK.out|apply Kept.alloc|apply Kept.drewN|apply Kept.drew)|exact HK.out)));(case af=>exact yce (Kd.R_reads' aa.out).2.2);(case ag=>exact (Kd.R_reads' aa.out).2.1);(case ah=>exact (yk HS));rintro e w16 ⟨rfl,hb⟩;have n9_:=ybb HS hb;have n0_:=yRb aa hb;have n1_:=zm (Kept.below (S:=(fun k_=>P1_ k_)) (by repeat (first|(with_reducible first|exact HK.out|apply Kept.alloc|apply Kept.drewN|apply Kept.drew)|exact HK.out)) hb);have n2_:=ybs hb;clear aa;clear HK;clear HB;clear HS;have HS:=n9_;have aa:=n0_;have HK:=n1_;have HB:=n2_;clear n0_ n1_ n2_ n9_;(try clear hb)))
     go_roundg k1
     case measure=>exact yom1 HK1
     case rel=>exact ⟨(ai),(wrap64 (ai+1)),yq,yq,H',⟨yom1 HK1⟩,⟨yr aa⟩,⟨by repeat (first|(with_reducible first|exact HK.out|apply Kept.alloc|apply Kept.drewN|apply Kept.drew)|exact HK.out)⟩,⟨yhb⟩,⟨(yk HS)⟩⟩
    rw [if_neg c12] at H
    have aI:=yGs c12
    clear c12
    have H' := zm H
    clear H
    obtain ⟨az,aA,aY⟩:=Kd.R_slice aa.out
    subst aY
    go_wp2_with (first|((with_reducible refine gate_callee (f:=93) rfl ?_);refine ygl 15 Try.func93 #[.pointer (some ⟨B,0,none⟩), .int .i64 ai] ?_;(with_reducible refine (alloc_cost.calls k1 B A0 c0 l0 ai az aA l1 a2 au true _ ?ae HC0.out ?af ?ag ?ah A5.out).mono ?_);(case ae=>exact Kd.C_kept_now HR0.out (by repeat (first|(with_reducible first|exact HK.out|apply Kept.alloc|apply Kept.drewN|apply Kept.drew)|exact HK.out)));(case af=>exact yce (Kd.R_reads' aa.out).2.2);(case ag=>exact (Kd.R_reads' aa.out).2.1);(case ah=>exact (yk HS));rintro e w18 ⟨rfl,hb⟩;refine ⟨_,rfl, ?_⟩;have n9_:=ybb HS hb;have n0_:=yRb aa hb;have n1_:=zm (Kept.below (S:=(fun k_=>P1_ k_)) (by repeat (first|(with_reducible first|exact HK.out|apply Kept.alloc|apply Kept.drewN|apply Kept.drew)|exact HK.out)) hb);have n2_:=ybs hb;clear aa;clear HK;clear HB;clear HS;have HS:=n9_;have aa:=n0_;have HK:=n1_;have HB:=n2_;clear n0_ n1_ n2_ n9_;(try clear hb))|(go_at_call 94;(with_reducible refine (alloc_worth.calls B A0 c0 l0 ai az aA l1 a2 am _ ?ae HC0.out ?af ?ag ?ah A10.out).mono ?_);(case ae=>exact Kd.C_kept_now HR0.out (by repeat (first|(with_reducible first|exact HK.out|apply Kept.alloc|apply Kept.drewN|apply Kept.drew)|exact HK.out)));(case af=>exact yce (Kd.R_reads' aa.out).2.2);(case ag=>exact (Kd.R_reads' aa.out).2.1);(case ah=>exact (yk HS));rintro e w19 ⟨rfl,hb⟩;have n9_:=ybb HS hb;have n0_:=yRb aa hb;have n1_:=zm (Kept.below (S:=(fun k_=>P1_ k_)) (by repeat (first|(with_reducible first|exact HK.out|apply Kept.alloc|apply Kept.drewN|apply Kept.drew)|exact HK.out)) hb);have n2_:=ybs hb;clear aa;clear HK;clear HB;clear HS;have HS:=n9_;have aa:=n0_;have HK:=n1_;have HB:=n2_;clear n0_ n1_ n2_ n9_;(try clear hb))|(go_at_call 94;(with_reducible refine (alloc_worth.calls B A0 c0 l0 ac az aA l1 a2 ao _ ?ae HC0.out ?af ?ag ?ah A11.out).mono ?_);(case ae=>exact Kd.C_kept_now HR0.out (by repeat (first|(with_reducible first|exact HK.out|apply Kept.alloc|apply Kept.drewN|apply Kept.drew)|exact HK.out)));(case af=>exact yce (Kd.R_reads' aa.out).2.2);(case ag=>exact (Kd.R_reads' aa.out).2.1);(case ah=>exact (yk HS));rintro e w20 ⟨rfl,hb⟩;have n9_:=ybb HS hb;have n0_:=yRb aa hb;have n1_:=zm (Kept.below (S:=(fun k_=>P1_ k_)) (by repeat (first|(with_reducible first|exact HK.out|apply Kept.alloc|apply Kept.drewN|apply Kept.drew)|exact HK.out)) hb);have n2_:=ybs hb;clear aa;clear HK;clear HB;clear HS;have HS:=n9_;have aa:=n0_;have HK:=n1_;have HB:=n2_;clear n0_ n1_ n2_ n9_;(try clear hb)))
    go_roundg k1
    case measure=>exact yom1 HK1
    case rel=>exact ⟨(ac),(wrap64 (ai+1)),yq,yq,H',⟨yom1 HK1⟩,⟨yr aa⟩,⟨by repeat (first|(with_reducible first|exact HK.out|apply Kept.alloc|apply Kept.drewN|apply Kept.drew)|exact HK.out)⟩,⟨yhb⟩,⟨(yk HS)⟩⟩
   replace c6:=Bool.eq_false_iff.mpr c6
   subst c6
   rw [ynf] at H
   have H' := zm H
   clear H
   obtain ⟨aZ,a7,a8⟩:=Kd.R_slice aa.out
   subst a8
   go_wp2_with (first|((with_reducible refine gate_callee (f:=93) rfl ?_);refine ygl 15 Try.func93 #[.pointer (some ⟨B,0,none⟩), .int .i64 ai] ?_;(with_reducible refine (alloc_cost.calls k1 B A0 c0 l0 ai aZ a7 l1 a2 au false _ ?ae HC0.out ?af ?ag ?ah A5.out).mono ?_);(case ae=>exact Kd.C_kept_now HR0.out (by repeat (first|(with_reducible first|exact HK.out|apply Kept.alloc|apply Kept.drewN|apply Kept.drew)|exact HK.out)));(case af=>exact yce (Kd.R_reads' aa.out).2.2);(case ag=>exact (Kd.R_reads' aa.out).2.1);(case ah=>exact (yk HS));rintro e w22 ⟨rfl,hb⟩;refine ⟨_,rfl, ?_⟩;have n9_:=ybb HS hb;have n0_:=yRb aa hb;have n1_:=zm (Kept.below (S:=(fun k_=>P1_ k_)) (by repeat (first|(with_reducible first|exact HK.out|apply Kept.alloc|apply Kept.drewN|apply Kept.drew)|exact HK.out)) hb);have n2_:=ybs hb;clear aa;clear HK;clear HB;clear HS;have HS:=n9_;have aa:=n0_;have HK:=n1_;have HB:=n2_;clear n0_ n1_ n2_ n9_;(try clear hb)))
   go_roundg k1
   case measure=>exact yom1 HK1
   case rel=>exact ⟨(ac),(wrap64 (ai+1)),yq,yq,H',⟨yom1 HK1⟩,⟨yr aa⟩,⟨by repeat (first|(with_reducible first|exact HK.out|apply Kept.alloc|apply Kept.drewN|apply Kept.drew)|exact HK.out)⟩,⟨yhb⟩,⟨(yk HS)⟩⟩
  rw [if_neg c4] at H
  have aU:=yG c4
  clear c4
  by_cases c23 : ac < 0
  ·
   rw [if_pos c23] at H
   have aJ:=yD c23
   clear c23
   simp only [Option.some.injEq,Prod.mk.injEq] at H
   obtain ⟨rfl,rfl,rfl⟩:=H
   go_wp2
   go_ret
   exact ⟨ye,yr aa,yhb,Kept.mono (S:=(fun k_=>P1_ k_)) (by repeat (first|(with_reducible first|exact HK.out|apply Kept.alloc|apply Kept.drewN|apply Kept.drew)|exact HK.out)) (fun _ h_ => .inl h_),(yk HS)⟩
  rw [if_neg c23] at H
  have aJ:=yG c23
  clear c23
  obtain ⟨⟨ap,a9⟩,A24,H⟩:=ybi H
  try dsimp only at H
  obtain ⟨c25,H⟩:=yif H
  have bh : decide (0≤ac)=true:=decide_eq_true c25
  clear c25
  obtain ⟨c26,H⟩:=yif H
  have bi : decide (ac < (l1.length : Int))=true:=decide_eq_true c26
  clear c26
  obtain ⟨aK,aq⟩ : ∃ y_ : List Int,y_=(l1.set (ac : Int).toNat (wrap64 ((rd l1 ac)+1))):=⟨_,rfl⟩
  replace H : (some (wrap64 (a2 - ap),true,aK))=some (r1,r2,r3):=yrw aq H
  have aM:=zm aq;clear aq
  simp only [Option.some.injEq,Prod.mk.injEq] at H
  obtain ⟨rfl,rfl,rfl⟩:=H
  obtain ⟨av,al,ba⟩:=Kd.R_slice aa.out
  subst ba
  go_wp2_with (first|((with_reducible refine gate_callee (f:=93) rfl ?_);refine ygl 39 Try.func93 #[.pointer (some ⟨B,0,none⟩), .int .i64 ac] ?_;(with_reducible refine (alloc_cost.calls k1 B A0 c0 l0 ac av al l1 a2 ap a9 _ ?ae HC0.out ?af ?ag ?ah A24.out).mono ?_);(case ae=>exact Kd.C_kept_now HR0.out (by repeat (first|(with_reducible first|exact HK.out|apply Kept.alloc|apply Kept.drewN|apply Kept.drew)|exact HK.out)));(case af=>exact yce (Kd.R_reads' aa.out).2.2);(case ag=>exact (Kd.R_reads' aa.out).2.1);(case ah=>exact (yk HS));rintro e w29 ⟨rfl,hb⟩;refine ⟨_,rfl, ?_⟩;have n9_:=ybb HS hb;have n0_:=yRb aa hb;have n1_:=zm (Kept.below (S:=(fun k_=>P1_ k_)) (by repeat (first|(with_reducible first|exact HK.out|apply Kept.alloc|apply Kept.drewN|apply Kept.drew)|exact HK.out)) hb);have n2_:=ybs hb;clear aa;clear HK;clear HB;clear HS;have HS:=n9_;have aa:=n0_;have HK:=n1_;have HB:=n2_;clear n0_ n1_ n2_ n9_;(try clear hb);have hs2 : w29.cell? ⟨B,2,none⟩=some (.int .i64 a2):=(zs HS.out 2).trans rfl;have hsf : w29.frozen? ⟨B,2,none⟩=false:=zx HS.out 2)|((with_reducible refine gate_store (t:=3) (p:=49) rfl ?_);refine store_event (t:=3) (p:=49) (v := ?vo_w12) (w1:=(w29.setCell ⟨B,2,none⟩ (.int .i64 (wrap64 (a2 - ap))))) ?hg ?ho ?hn ?hr ?_;(case ho=>rfl);(case hg=>rfl);(case hn=>rfl);(case hr=>first|(go_simp;done)|(go_simp;rfl));intro w12 hw;have hS12 : w12.heap[B]? = some (.cells #[.slice A0 l0.length c0, .slice av l1.length al, .int .i64 (wrap64 (a2 - ap)), .func (.func 69) #[] #[]] 115 (0,0)):=(by rw [hw];exact blk_set HS.out 2 _);have n0_ : Aside0 (Kd.R (Kd.int .i64) 3 w12 w0.heap.size (fun k_=>(P1_ k_∨w.heap.size≤k_)) (.slice av l1.length al) l1):=⟨by rw [hw];exact zH aa.out HNE.out _⟩;have n1_ : Aside0 (Below w0.heap.size w0 w12):=⟨by rw [hw];exact Below.setCell HB.out HB0.out _⟩;have n2_ : Aside0 (Kept w w12 (fun k_=>P1_ k_∨k_=B)):=⟨by rw [hw];exact Kept.setCell (Kept.mono HK.out (fun _ h_ => .inl h_)) (.inl (.inr rfl)) _⟩;clear aa;clear HK;clear HB;clear HS;clear hs2;clear hsf;have aa:=n0_;have HB:=n1_;have HK:=n2_;have HS:=zm hS12;have hs1 : w12.cell? ⟨B,1,none⟩=some (.slice av l1.length al):=(zs hS12 1).trans rfl;clear hS12 hw n0_ n1_ n2_;have aC : 0≤(ac : Int):=yt;have aD : ac < (l1.length : Int):=yt;obtain ⟨bj,bb,aw⟩:=Kd.at_int (Kd.R_reads' aa.out).2.2 ac aC aD;cases bb;replace aC:=eq_true aC;replace aD:=eq_true aD;have p27 : 0≤(ac : Int):=yt;have q27 : (ac : Int) < ((l1.length : Int) : Int):=yt;obtain ⟨ak,bl,aN,aQ,bc,bm,aT⟩:=Kd.R_form aa.out (by omega);(first|cases aN|(injection aN with ea_ en_ ec_;(first|subst ea_|(injection ea_ with ea_;subst ea_));subst ec_;clear en_));have bd:=zm aQ;have bn:=zm aT;clear aQ bc aT;have HMgo27:=zm (show (P1_ ak∨w.heap.size≤ak) from (aa.out.1 _ rfl));(first|simp only [add_plain] at aw|skip);obtain ⟨bf,bg⟩:=Kd.R_celln 0 aa.out (ac : Int) p27 q27;replace p27:=eq_true p27;replace q27:=eq_true q27;obtain ⟨bk,hz30_⟩:=Kd.R_celln 0 aa.out (ac : Int) (yt) (yt);have aE:=Kd.R_putg aa.out (ac : Int) (wrap64 ((rd l1 ac)+1)))|((with_reducible refine gate_store (t:=3) (p:=58) rfl ?_);refine store_event (t:=3) (p:=58) (v := ?vo_w31) (w1:=(w12.setCell ⟨ak,(ac : Int).toNat,none⟩ (.int .i64 (wrap64 ((rd l1 ac)+1))))) ?hg ?ho ?hn ?hr ?_;(case ho=>rfl);(case hg=>rfl);(case hn=>rfl);(case hr=>first|(go_simp;done)|(go_simp;rfl));intro w31 hw;have hg : w12.grownBy w31 (some ak):=(by rw [hw];exact aE.2);have hp_ : Kd.R (Kd.int .i64) 3 w31 w0.heap.size (fun k_=>(P1_ k_∨w.heap.size≤k_)) (.slice (some ⟨ak,0,none⟩) l1.length al) aK:=(by rw [hw,aM.out];exact aE.1);clear aE;have n0_:=zm (hp_);have n1_:=zm ((by rw [hw];exact zk (HB.out) bd.out : Below w0.heap.size w0 w31));have n2_:=zm (Kept.of_grown (S:=(fun k_=>P1_ k_∨k_=B)) hg (by repeat (first|(with_reducible first|exact HK.out|apply Kept.alloc|apply Kept.drewN|apply Kept.drew)|exact HK.out)) (fun k_ e_=>(aa.out.1 k_ e_).imp .inl id));have n8_ : Aside0 (w31.heap[B]? = some (.cells #[.slice A0 l0.length c0, .slice (some ⟨ak,0,none⟩) l1.length al, .int .i64 (wrap64 (a2 - ap)), .func (.func 69) #[] #[]] 115 (0,0))):=⟨by rw [hw];exact zv HS.out (fun e_=>HNE.out _ (aa.out.1 ak rfl) e_.symm) _⟩;clear HS;have HS:=n8_;clear n8_;clear aa;clear HB;clear HK;have aa:=n0_;have HB:=n1_;have HK:=n2_;clear n0_ n1_ n2_;clear hg hw hp_))
  go_ret
  exact ⟨ye,yr aa,yhb,by repeat (first|(with_reducible first|exact HK.out|apply Kept.alloc|apply Kept.drewN|apply Kept.drew)|exact HK.out),(yk HS)⟩
def gain_Right.l0 : Nat→List Int→List Int→Int→Int→Option (Bool)
 | 0,_,_,_,_=>none
 | k+1,x0,x5,x6,x7=>if x7 < x6 then (if 0≤x7 then (if x7 < (x5.length : Int) then (if (rd x5 x7) < 0 then (some false) else (if (rd x5 x7) > 44 then (some false) else (gain_Right.l0 k x0 x5 x6 (wrap64 (x7+1))))) else (none)) else (none)) else (some ((x0.length : Int) == 5))
def gain_Right.f (k : Nat) (l0 : List Int) : Option (Bool):=gain_Right.l0 k l0 l0 (l0.length : Int) 0
theorem gain_Right.mono_l : ∀ k,(∀ y0 y1 y2 y3,LeO (gain_Right.l0 k y0 y1 y2 y3) (gain_Right.l0 (k+1) y0 y1 y2 y3))
 | 0=>fun _ _ _ _ r h=>by simp [gain_Right.l0] at h
 | k+1=>by
  have ih0:=gain_Right.mono_l k
  ·
   intro y0 y1 y2 y3
   unfold gain_Right.l0
   repeat' with_reducible first|apply ih0|apply yLr|apply yLn|apply yLi|apply yLb|intro _
theorem gain_Right.mono : ∀ a0 k,LeO (gain_Right.f k a0) (gain_Right.f (k+1) a0):=by
 intro a0 k
 have ih0:=gain_Right.mono_l k
 unfold gain_Right.f
 repeat' with_reducible first|apply ih0|apply yLr|apply yLn|apply yLi|apply yLb|intro _
set_option maxHeartbeats 8000000 in
set_option maxRecDepth 100000 in
theorem gain_Right.calls (k : Nat) (A0 : Option Addr) (c0 : Nat) (l0 : List Int) (r : Bool) (w : World) (hr0 : Kd.C (Kd.int .i64) w A0 l0.length l0) (hc0 : l0.length≤c0) (h : gain_Right.f k l0=some r) :
  Calls Try.prog 62 #[.slice A0 l0.length c0] w fun e w' => e=.returned (.bool r)∧Drawn0 w w' := by
 have HR0:=zm hr0;have HC0:=zm hc0;clear hr0 hc0;have H:=h
 unfold gain_Right.f at H
 clear h
 have H' := zm H
 clear H
 go_enter Try.func62,Try.ntmps62
 go_wp2
 go_loopg [7] k (fun kq v7 w' => ∃ (aa : Int),v7=.int .i64 aa∧Aside0 (gain_Right.l0 kq l0 l0 (l0.length : Int) aa=some r)∧Aside0 (kq≤k)∧Drawn0 w w')
 case atStart=>exact ⟨(0),yq,H',⟨Nat.le_refl _⟩,yd⟩
 case round =>
  clear H'
  obtain ⟨aa,rfl,HA,HK1,⟨m1,rfl⟩⟩:=hrel
  obtain ⟨k1,rfl⟩:=ysu gk (fun h=>by subst h;exact absurd HA.out (by simp [gain_Right.l0]))
  have H:=HA.out;clear HA
  simp only [gain_Right.l0] at H
  by_cases c2 : aa < (l0.length : Int)
  ·
   rw [if_pos c2] at H
   have ai:=yD c2
   clear c2
   obtain ⟨c3,H⟩:=yif H
   have al : decide (0≤aa)=true:=decide_eq_true c3
   clear c3
   obtain ⟨c4,H⟩:=yif H
   have am : decide (aa < (l0.length : Int))=true:=decide_eq_true c4
   clear c4
   by_cases c5 : (rd l0 aa) < 0
   ·
    rw [if_pos c5] at H
    have aj:=yD c5
    clear c5
    obtain rfl:=Option.some.inj H
    obtain ⟨af,ae,ac,ag,ah⟩:=yai HR0 aa
    cases ae
    go_wp2
    go_ret
    exact ⟨yq,yd⟩
   rw [if_neg c5] at H
   have aj:=yG c5
   clear c5
   by_cases c6 : (rd l0 aa) > 44
   ·
    rw [if_pos c6] at H
    have ak:=yDs c6
    clear c6
    obtain rfl:=Option.some.inj H
    obtain ⟨af,ae,ac,ag,ah⟩:=yai HR0 aa
    cases ae
    go_wp2
    go_ret
    exact ⟨yq,yd⟩
   rw [if_neg c6] at H
   have ak:=yGs c6
   clear c6
   have H' := zm H
   clear H
   obtain ⟨af,ae,ac,ag,ah⟩:=yai HR0 aa
   cases ae
   go_wp2
   go_roundg k1
   case measure=>exact yom1 HK1
   case rel=>exact ⟨(wrap64 (aa+1)),yq,H',⟨yom1 HK1⟩,yd⟩
  rw [if_neg c2] at H
  have ai:=yG c2
  clear c2
  obtain rfl:=Option.some.inj H
  go_wp2
  go_ret
  exact ⟨yq,yd⟩
mutual
def alloc_Pulses.j0 : Nat→Int→Int→List (List Int)→Bool→Option ((List (List Int)) × Int)
 | 0,_,_,_,_=>none
 | k+1,x0,x1,x2,x21=>if x21=true then (some (([] : List (List Int)),1)) else (alloc_Pulses.l0 k x0 x1 ([] : List (List Int)) x2 (x2.length : Int) 0)
def alloc_Pulses.l0 : Nat→Int→Int→List (List Int)→List (List Int)→Int→Int→Option ((List (List Int)) × Int)
 | 0,_,_,_,_,_,_=>none
 | k+1,x0,x1,x8,x22,x23,x24=>if x24 < x23 then (if 0≤x24 then (if x24 < (x22.length : Int) then ((gain_Right.f k (rd_L1 x22 x24)).bind fun aW=>(if aW=true then ((alloc_Room.f x0 x1).bind fun ak=>(alloc_Pulses.l1 k x0 x1 x8 (rd_L1 x22 x24) (List.replicate 5 0) x22 x23 x24 ak)) else (some (([] : List (List Int)),1)))) else (none)) else (none)) else (some (x8,0))
def alloc_Pulses.l1 : Nat→Int→Int→List (List Int)→List Int→List Int→List (List Int)→Int→Int→Int→Option ((List (List Int)) × Int)
 | 0,_,_,_,_,_,_,_,_,_=>none
 | k+1,x0,x1,x8,x10,x11,x22,x23,x24,x49=>(alloc_give.f k x10 x11 x49).bind fun aA=>(if aA.2.1=true then (alloc_Pulses.l1 k x0 x1 x8 x10 aA.2.2 x22 x23 x24 aA.1) else (if x8.length < 5864062014805 then (alloc_Pulses.l0 k x0 x1 (x8 ++ [aA.2.2]) x22 x23 (wrap64 (x24+1))) else (none)))
end
def alloc_Pulses.f (k : Nat) (a0 : Int) (a1 : Int) (l2 : List (List Int)) : Option ((List (List Int)) × Int):=(alloc_Right.f a0 a1).bind fun aX=>(if aX=true then (alloc_Pulses.j0 k a0 a1 l2 ((l2.length : Int) != a1)) else (alloc_Pulses.j0 k a0 a1 l2 true))
theorem alloc_Pulses.mono_l : ∀ k,(∀ y0 y1 y2 y3,LeO (alloc_Pulses.j0 k y0 y1 y2 y3) (alloc_Pulses.j0 (k+1) y0 y1 y2 y3))∧(∀ y0 y1 y2 y3 y4 y5,LeO (alloc_Pulses.l0 k y0 y1 y2 y3 y4 y5) (alloc_Pulses.l0 (k+1) y0 y1 y2 y3 y4 y5))∧(∀ y0 y1 y2 y3 y4 y5 y6 y7 y8,LeO (alloc_Pulses.l1 k y0 y1 y2 y3 y4 y5 y6 y7 y8) (alloc_Pulses.l1 (k+1) y0 y1 y2 y3 y4 y5 y6 y7 y8))
 | 0=>⟨fun _ _ _ _ r h=>by simp [alloc_Pulses.j0] at h,fun _ _ _ _ _ _ r h=>by simp [alloc_Pulses.l0] at h,fun _ _ _ _ _ _ _ _ _ r h=>by simp [alloc_Pulses.l1] at h⟩
 | k+1=>by
  obtain ⟨ih0,ih1,ih2⟩:=alloc_Pulses.mono_l k
  refine ⟨?_, ?_, ?_⟩
  ·
   intro y0 y1 y2 y3
   unfold alloc_Pulses.j0
   repeat' with_reducible first|apply ih0|apply ih1|apply ih2|apply alloc_give.mono|apply gain_Right.mono|apply yLr|apply yLn|apply yLi|apply yLb|intro _
  ·
   intro y0 y1 y2 y3 y4 y5
   unfold alloc_Pulses.l0
   repeat' with_reducible first|apply ih0|apply ih1|apply ih2|apply alloc_give.mono|apply gain_Right.mono|apply yLr|apply yLn|apply yLi|apply yLb|intro _
  intro y0 y1 y2 y3 y4 y5 y6 y7 y8
  unfold alloc_Pulses.l1
  repeat' with_reducible first|apply ih0|apply ih1|apply ih2|apply alloc_give.mono|apply gain_Right.mono|apply yLr|apply yLn|apply yLi|apply yLb|intro _
theorem alloc_Pulses.mono : ∀ a0 a1 a2 k,LeO (alloc_Pulses.f k a0 a1 a2) (alloc_Pulses.f (k+1) a0 a1 a2):=by
 intro a0 a1 a2 k
 obtain ⟨ih0,ih1,ih2⟩:=alloc_Pulses.mono_l k
 unfold alloc_Pulses.f
 repeat' with_reducible first|apply ih0|apply ih1|apply ih2|apply alloc_give.mono|apply gain_Right.mono|apply yLr|apply yLn|apply yLi|apply yLb|intro _
def alloc_Pulses.T9 : Bool × List (List Nat × List Nat):=(true, [([], []),([], []),([], []),([], []),([2,3], [2,3]),([0,1,4], [0,1,4]),([5], [5]),([6,4,0,1,2,3,4,5,6], [6])])
def alloc_Pulses.B9 : List Nat := [0,0,0,0,12,31,63,127]
theorem alloc_Pulses.tab9 : rtab .any (opsOf Try.f30 9)=alloc_Pulses.T9:=by kernel_rfl
theorem alloc_Pulses.bits9 : waitsOk alloc_Pulses.T9.2 alloc_Pulses.B9=true:=by kernel_rfl
set_option maxHeartbeats 8000000 in
set_option maxRecDepth 100000 in
theorem alloc_Pulses.calls (k : Nat) (a0 : Int) (a1 : Int) (A2 : Option Addr) (c2 : Nat) (l2 : List (List Int)) (r1 : List (List Int)) (r2 : Int) (w : World) (hr2 : Kd.C (Kd.slice 3 (Kd.int .i64)) w A2 l2.length l2) (hc2 : l2.length≤c2) (h : alloc_Pulses.f k a0 a1 l2=some (r1,r2)) :
  Calls Try.prog 30 #[.int .i64 a0, .int .i64 a1, .slice A2 l2.length c2] w fun e w' => ∃ v0_ : Value,e=.returned (.tuple #[v0_, .int .i64 r2])∧Kd.S (Kd.slice 3 (Kd.int .i64)) 49 w' w.heap.size (fun _=>True) v0_ r1∧Below w.heap.size w w' := by
 have HR2:=zm hr2;have HC2:=zm hc2;clear hr2 hc2;have HB:=zm (Below.refl w.heap.size w);have H:=h
 unfold alloc_Pulses.f at H
 clear h;have HC4:=zm H;clear H
 go_enter Try.func30,Try.ntmps30
 go_upto_region 1 with (fail)
 go_cut [21] (fun v21 wc => ∃ (kq : Nat) (aC : Bool),v21=.bool aC∧Aside0 (alloc_Pulses.j0 kq a0 a1 l2 aC=some (r1,r2))∧Aside0 (kq≤k)∧Aside0 (Below w.heap.size w wc))
 case first =>
  have H:=HC4.out;clear HC4
  obtain ⟨aX,A5,H⟩:=ybi H
  by_cases c6 : aX=true
  ·
   subst c6
   rw [if_pos rfl] at H
   have H' := zm H
   clear H
   go_wp2_with (first|((with_reducible refine gate_callee (f:=48) rfl ?_);refine ygl 14 Try.func48 #[.int .i64 a0, .int .i64 a1] ?_;(with_reducible refine (alloc_Right.calls a0 a1 true _ A5.out).mono ?_);rintro e w' ⟨rfl,⟨nd,rfl⟩⟩;refine ⟨_,rfl, ?_⟩))
   go_meet
   case rel=>exact ⟨_,(((l2.length : Int) != a1)),yq,H',⟨yo⟩,⟨yhb⟩⟩
  replace c6:=Bool.eq_false_iff.mpr c6
  subst c6
  rw [ynf] at H
  have H' := zm H
  clear H
  go_wp2_with (first|((with_reducible refine gate_callee (f:=48) rfl ?_);refine ygl 14 Try.func48 #[.int .i64 a0, .int .i64 a1] ?_;(with_reducible refine (alloc_Right.calls a0 a1 false _ A5.out).mono ?_);rintro e w' ⟨rfl,⟨nd,rfl⟩⟩;refine ⟨_,rfl, ?_⟩))
  go_meet
  case rel=>exact ⟨_,(true),yq,H',⟨yo⟩,⟨yhb⟩⟩
 case rest =>
  clear HC4
  try clear c2
  obtain ⟨kq,aC,rfl,HA,HJ3,HB⟩:=hcut
  obtain ⟨kj3,rfl⟩:=ysu kq (fun h=>by subst h;exact absurd HA.out (by simp [alloc_Pulses.j0]))
  have H:=HA.out;clear HA
  simp only [alloc_Pulses.j0] at H
  by_cases c7 : aC=true
  ·
   subst c7
   rw [if_pos rfl] at H
   simp only [Option.some.injEq,Prod.mk.injEq] at H
   obtain ⟨rfl,rfl⟩:=H
   go_wp2
   go_ret2
   exact ⟨_,ye,yn,yhb⟩
  replace c7:=Bool.eq_false_iff.mpr c7
  subst c7
  rw [ynf] at H
  have H' := zm H
  clear H
  go_wp2
  go_loopg [8,24] kj3 (fun kq v8 v24 w' => ∃ (av : List (List Int)) (aa : Int),v24=.int .i64 aa∧Aside0 (alloc_Pulses.l0 kq a0 a1 av l2 (l2.length : Int) aa=some (r1,r2))∧Aside0 (kq≤kj3)∧Aside0 (Kd.S (Kd.slice 3 (Kd.int .i64)) 49 w' w.heap.size (fun _=>True) v8 av)∧Aside0 (Below w.heap.size w w'))
  case atStart=>exact ⟨(([] : List (List Int))),(0),yq,H',⟨Nat.le_refl _⟩,⟨yn⟩,⟨yhb⟩⟩
  case round =>
   clear H'
   obtain ⟨av,aa,rfl,HA,HK2,ac,HB⟩:=hrel
   obtain ⟨k2,rfl⟩:=ysu gk (fun h=>by subst h;exact absurd HA.out (by simp [alloc_Pulses.l0]))
   have H:=HA.out;clear HA
   simp only [alloc_Pulses.l0] at H
   by_cases c8 : aa < (l2.length : Int)
   ·
    rw [if_pos c8] at H
    have a7:=yD c8
    clear c8
    obtain ⟨c9,H⟩:=yif H
    have bd : decide (0≤aa)=true:=decide_eq_true c9
    clear c9
    obtain ⟨c10,H⟩:=yif H
    have a8 : decide (aa < (l2.length : Int))=true:=decide_eq_true c10
    clear c10
    obtain ⟨aW,A11,H⟩:=ybi H
    by_cases c12 : aW=true
    ·
     subst c12
     rw [if_pos rfl] at H
     obtain ⟨aH,aI⟩ : ∃ y_ : List Int,y_=(List.replicate 5 0):=⟨_,rfl⟩
     replace H : ((alloc_Room.f a0 a1).bind fun ak=>(alloc_Pulses.l1 k2 a0 a1 av (rd_L1 l2 aa) aH l2 (l2.length : Int) aa ak))=some (r1,r2):=yrw aI H
     have aD:=zm aI;clear aI
     obtain ⟨ak,A13,H⟩:=ybi H
     have H' := zm H
     clear H
     have ax : 0≤(aa : Int):=yt
     have ay : aa < (l2.length : Int):=yt
     obtain ⟨a9,ae,af,aY,aj,am,ao⟩:=at_L1 HR2.out aa ax ay
     cases aY
     replace aj:=yhx HB aj
     have ap:=zm ao;have aq:=zm am;clear ao am
     replace ax:=eq_true ax
     replace ay:=eq_true ay
     try go_wp2_with (first|((with_reducible refine gate_callee (f:=62) rfl ?_);refine ygl 29 Try.func62 #[.slice ae (rd_L1 l2 aa).length af] ?_;(with_reducible refine (gain_Right.calls k2 _ _ (rd_L1 l2 aa) true _ ?aw aq.out A11.out).mono ?_);(case aw=>exact ycb ap);rintro e w' ⟨rfl,⟨nd,rfl⟩⟩;refine ⟨_,rfl, ?_⟩))
     (try (rw [drewN_self wr];generalize hq_ : World.drewN wr _=wr;replace ac:=ySq hq_ ac;replace HB:=ysq hq_;clear hq_))
     replace ac:=zm (Kd.S_drew ac.out)
     replace HB:=zm (zf HB.out)
     refine yst (fun w' => True) [] 8 alloc_Pulses.tab9 alloc_Pulses.bits9 (fun hHeld HT_ HW_ => ?_) (hS:=trivial)
     generalize wr.drew=w14 at ac HB hHeld ⊢
     refine yp 0 31 HT_ ?_
     refine yp 2 33 HT_ ?_
     refine yp 3 34 HT_ ?_
     refine join_ (σ:=Value) 3 #[true,true,true,true,true,false,false,false] (fun s_ => [(32,s_),(35, .int .i64 ak)]) (fun s_ w' => (Kd.R (Kd.int .i64) 3 w' w.heap.size (fun _=>True) s_ aH)∧(Kd.S (Kd.slice 3 (Kd.int .i64)) 49 w' w.heap.size (fun k_=>some k_≠(s_ : Value).ownBlock) u8 av)∧(Below w.heap.size w w')) ?_ ?_
     rotate_left
     ·
      intro hCont
      refine two_ (i:=1) (j:=4) (Ni:=some 32) (Nj:=some 35) #[true,true,true,true,false,false,false,false] #[true,false,true,true,true,false,false,false] rfl rfl rfl rfl (two_of HT_.out (by kernel_rfl)) (by decide) (by decide) (fun K hK => ?_) (fun K hK => ?_)
      ·
       skip
       refine Kd.R_make_step (Kd.int .i64) _ 3 (by rfl) (N:=32) rfl 49 _ _ rfl 5 rfl rfl Try.underlying49 (.int .i64 0) 8 info3 rfl (by decide) (by omega) 0 (ok:=fun _=>True) (okp:=fun _=>True) rfl (fun _ hk=>hk) trivial (by omega) (by omega) (Below.refl _ _) (Nat.le_refl _) ?_
       intro ai w15 au hb hg_ hnew_
       clear hg_ hnew_
       (first|rw [← aD.out] at au|(simp only [Int.reduceToNat] at au;rw [← aD.out] at au))
       replace ac:=zm (Kd.S_elder' (yr ac) (Kd.R_base au) hb)
       have al:=zm (Kd.R_lower au (zE yhb))
       replace HB:=ybs hb
       clear hb au
       refine hK.out _ _ trivial (fun hHeld => ?_)
       clear hK K
       refine ym (some 32) ?_
       refine yw 4 35 HT_ (fun K hK => ?_)
       refine ygs Try.func68 #[.int .i64 a0, .int .i64 a1] ?_
       with_reducible refine (alloc_Room.calls a0 a1 ak _ A13.out).mono ?_
       rintro e w' ⟨rfl,⟨nd,rfl⟩⟩
       refine ⟨_,rfl, ?_⟩
       refine hK.out _ _ trivial (fun hHeld => ?_)
       clear hK K
       refine ym (some 35) ?_
       exact norm_ (by simp only [putAll,Act.put,List.setIfInBounds_toArray,List.set_cons_zero,List.set_cons_succ]) (hCont (ai) _ ⟨(yr al),(yS0 ac),yhb⟩)
      skip
      refine ygs Try.func68 #[.int .i64 a0, .int .i64 a1] ?_
      with_reducible refine (alloc_Room.calls a0 a1 ak _ A13.out).mono ?_
      rintro e w' ⟨rfl,⟨nd,rfl⟩⟩
      refine ⟨_,rfl, ?_⟩
      refine hK.out _ _ trivial (fun hHeld => ?_)
      clear hK K
      refine ym (some 35) ?_
      refine yw 1 32 HT_ (fun K hK => ?_)
      refine Kd.R_make_step (Kd.int .i64) _ 3 (by rfl) (N:=32) rfl 49 _ _ rfl 5 rfl rfl Try.underlying49 (.int .i64 0) 8 info3 rfl (by decide) (by omega) 0 (ok:=fun _=>True) (okp:=fun _=>True) rfl (fun _ hk=>hk) trivial (by omega) (by omega) (Below.refl _ _) (Nat.le_refl _) ?_
      intro ai w15 au hb hg_ hnew_
      clear hg_ hnew_
      (first|rw [← aD.out] at au|(simp only [Int.reduceToNat] at au;rw [← aD.out] at au))
      replace ac:=zm (Kd.S_elder' (yr ac) (Kd.R_base au) hb)
      have al:=zm (Kd.R_lower au (zE yhb))
      replace HB:=ybs hb
      clear hb au
      refine hK.out _ _ trivial (fun hHeld => ?_)
      clear hK K
      refine ym (some 32) ?_
      exact norm_ (by simp only [putAll,Act.put,List.setIfInBounds_toArray,List.set_cons_zero,List.set_cons_succ]) (hCont (ai) _ ⟨(yr al),(yS0 ac),yhb⟩)
     rintro ai w17 ⟨h0_,h1_,h2_⟩
     have n0_ : Aside0 (Kd.R (Kd.int .i64) 3 w17 w.heap.size (fun _=>True) ai aH):=⟨h0_⟩
     have n1_ : Aside0 (Kd.S (Kd.slice 3 (Kd.int .i64)) 49 w17 w.heap.size (fun k_=>some k_≠(ai : Value).ownBlock) u8 av):=⟨h1_⟩
     have n2_ : Aside0 (Below w.heap.size w w17):=⟨h2_⟩
     clear ac HB h0_ h1_ h2_;have al:=n0_;have ac:=n1_;have HB:=n2_;clear n0_ n1_ n2_;have hHeld:=trivial
     refine norm_ (a' := ?_) ?_ ?_
     rotate_left
     ·
      simp only [putAll,Act.put,List.setIfInBounds_toArray,List.set_cons_zero,List.set_cons_succ]
      rfl
     obtain ⟨Av9,cv9,ev9⟩:=Kd.R_slice al.out
     refine pure_ (i:=5) (N:=some 36) (v:=.agg #[.slice ae (rd_L1 l2 aa).length af,ai, .int .i64 ak, .func (.func 69) #[] #[]]) (a' := ?_) #[true,true,true,true,true,true,false,false] rfl rfl (any_of HT_.out (by kernel_rfl)) (fun _ _ _ h=>h) (Or.inl ⟨by rfl, ?_⟩) ?_ ?_

     ·
      intro w'
      rw [ev9]
      first|(go_simp;done)|(go_simp;with_reducible rfl)|(go_simp;rfl)

     rotate_left
     ·
      simp only [Act.put,List.setIfInBounds_toArray,List.set_cons_zero,List.set_cons_succ,i64_w,i32_w]
      rfl
     refine yw 6 37 HT_ (fun K hK => ?_)
     refine event_step (v:=.pointer (some ⟨w17.heap.size,0,none⟩)) (w1:=w17.alloc (.cells #[.slice ae (rd_L1 l2 aa).length af,ai, .int .i64 ak, .func (.func 69) #[] #[]] 115 (0,0))) (by rfl) ?hrun ?_
     (case hrun=>(rw [ev9];first|(go_simp;done)|(go_simp;rfl)))
     clear ev9
     have n0_ : Aside0 (Kd.R (Kd.int .i64) 3 (w17.alloc (.cells #[.slice ae (rd_L1 l2 aa).length af,ai, .int .i64 ak, .func (.func 69) #[] #[]] 115 (0,0))) w.heap.size (fun _=>True) ai aH):=⟨zo al.out _⟩
     have n1_ : Aside0 (Kd.S (Kd.slice 3 (Kd.int .i64)) 49 (w17.alloc (.cells #[.slice ae (rd_L1 l2 aa).length af,ai, .int .i64 ak, .func (.func 69) #[] #[]] 115 (0,0))) w.heap.size (fun k_=>some k_≠(ai : Value).ownBlock∧k_≠w17.heap.size) u8 av):=⟨Kd.S_alloc (Kd.S_mono (Kd.S_bound ac.out) (fun k_ hk=>⟨hk.1,fun e_=>by have:=hk.2.2.1;omega⟩)) _⟩
     have n2_ : Aside0 (Below w.heap.size w (w17.alloc (.cells #[.slice ae (rd_L1 l2 aa).length af,ai, .int .i64 ak, .func (.func 69) #[] #[]] 115 (0,0)))):=⟨ze HB.out _⟩
     have n3_ : Aside0 ((w17.alloc (.cells #[.slice ae (rd_L1 l2 aa).length af,ai, .int .i64 ak, .func (.func 69) #[] #[]] 115 (0,0))).heap[w17.heap.size]? = some (.cells #[.slice ae (rd_L1 l2 aa).length af,ai, .int .i64 ak, .func (.func 69) #[] #[]] 115 (0,0))):=⟨blk_new _ _⟩
     have HBW:=zm (show w.heap.size≤w17.heap.size from zE HB.out)
     have HKB:=zm (show some w17.heap.size≠(ai : Value).ownBlock from fun e_=>Nat.lt_irrefl _ (Kd.R_lt al.out _ e_.symm))
     clear al ac HB hHeld
     generalize w17.alloc (.cells #[.slice ae (rd_L1 l2 aa).length af,ai, .int .i64 ak, .func (.func 69) #[] #[]] 115 (0,0))=w18 at n0_ n1_ n2_ n3_ ⊢
     generalize w17.heap.size=B at n1_ n3_ HBW HKB ⊢
     have al:=n0_;have ac:=n1_;have HB:=n2_;have HS:=n3_;clear n0_ n1_ n2_ n3_
     refine hK.out _ _ trivial (fun hHeld => ?_)
     clear hK K
     refine ym (some 37) ?_
     refine yp 7 11 HT_ ?_
     refine done_ (done_of HT_.out (by kernel_rfl)) ?_
     try go_wp2
     go_loopg [39] k2 (fun kq v_ w' => ∃ (ah : List Int) (az : Int),Aside0 (alloc_Pulses.l1 kq a0 a1 av (rd_L1 l2 aa) ah l2 (l2.length : Int) aa az=some (r1,r2))∧Aside0 (kq≤k2)∧Aside0 (Kd.S (Kd.slice 3 (Kd.int .i64)) 49 w' w.heap.size (fun k_=>some k_≠(ai : Value).ownBlock∧k_≠B) u8 av)∧Aside0 (Kd.R (Kd.int .i64) 3 w' w.heap.size (fun _=>True) ai ah)∧Aside0 (Below w.heap.size w w')∧Aside0 (w'.heap[B]? = some (.cells #[.slice ae (rd_L1 l2 aa).length af,ai, .int .i64 az, .func (.func 69) #[] #[]] 115 (0,0))))
     case atStart=>exact ⟨(aH),(ak),H',⟨Nat.le_refl _⟩,⟨yr ac⟩,⟨yr al⟩,⟨yhb⟩,⟨(yk HS)⟩⟩
     case round =>
      clear H'
      try clear a7
      try clear bd
      try clear a8
      try clear aj
      try clear ax
      try clear ay
      obtain ⟨ah,az,HA,HK3,ac,ag,HB,HS⟩:=hrel
      obtain ⟨k3,rfl⟩:=ysu gk (fun h=>by subst h;exact absurd HA.out (by simp [alloc_Pulses.l1]))
      have H:=HA.out;clear HA
      simp only [alloc_Pulses.l1] at H
      obtain ⟨⟨aZ,bf,aJ⟩,A18,H⟩:=ybi H
      try dsimp only at H
      by_cases c19 : bf=true
      ·
       subst c19
       rw [if_pos rfl] at H
       have H' := zm H
       clear H
       obtain ⟨aU,aV,bg⟩:=Kd.R_slice ag.out
       subst bg
       go_wp2_with (first|((with_reducible refine gate_callee (f:=70) rfl ?_);refine ygl 39 Try.func70 #[.pointer (some ⟨B,0,none⟩)] ?_;(with_reducible refine (alloc_give.calls k3 B ae af (rd_L1 l2 aa) (fun k_=>some k_=(.slice aU ah.length aV : Value).ownBlock) (.slice aU ah.length aV) ah az aZ true aJ w _ ?aw ?aK aq.out ?aM ?aN HBW.out ?aQ A18.out).mono ?_);(case aw=>exact yhb);(case aK=>exact Kd.C_kept_came (Kd.heap_int .i64) ap.out yhb (fun k_ hs_=>(fun e_=>Kd.R_base ag.out k_ e_.symm) hs_));(case aM=>exact Kd.R_tight rfl ag.out);(case aN=>exact fun e_=>HKB.out e_);(case aQ=>exact (yk HS));rintro e w21 ⟨rfl,hy0,hb,hkp,hs9⟩;refine ⟨_,rfl, ?_⟩;have hs1 : w21.cell? ⟨B,1,none⟩=some (.slice aU ah.length aV):=(zs hs9 1).trans rfl;have n0_:=zm (Kd.S_mono (ok' := fun k_=>some k_≠(.slice aU ah.length aV : Value).ownBlock∧k_≠B) (Kd.S_keptB (ac.out) hkp (fun k_ hk_ hs_=>hs_.elim hk_.1 hk_.2)) (fun k_ hk_=>hk_.1));have n1_:=zm (Kd.R_reok rfl hy0 (fun k_ e_=>ag.out.1 k_ e_));have n2_:=zm (hb);clear ac;clear ag;clear HB;clear HS;have HS:=zm hs9;clear hs9;have ac:=n0_;have ag:=n1_;have HB:=n2_;clear n0_ n1_ n2_;(try clear hb);(try clear hkp);(try clear hy0)))
       go_roundg k3
       case measure=>exact yom3 HJ3 HK2 HK3
       case rel=>exact ⟨(aJ),(aZ),H',⟨yom3 HJ3 HK2 HK3⟩,⟨yr ac⟩,⟨yr ag⟩,⟨yhb⟩,⟨(yk HS)⟩⟩
      replace c19:=Bool.eq_false_iff.mpr c19
      subst c19
      rw [ynf] at H
      obtain ⟨c22,H⟩:=yif H
      have LMc22:=zm c22;clear c22
      obtain ⟨ba,aT⟩ : ∃ y_ : List (List Int),y_=(av ++ [aJ]):=⟨_,rfl⟩
      replace H : (alloc_Pulses.l0 k3 a0 a1 ba l2 (l2.length : Int) (wrap64 (aa+1)))=some (r1,r2):=yrw aT H
      have bb:=zm aT;clear aT
      have H' := zm H
      clear H
      obtain ⟨aE,aG,bh⟩:=Kd.R_slice ag.out
      subst bh
      go_wp2_with (first|((with_reducible refine gate_callee (f:=70) rfl ?_);refine ygl 39 Try.func70 #[.pointer (some ⟨B,0,none⟩)] ?_;(with_reducible refine (alloc_give.calls k3 B ae af (rd_L1 l2 aa) (fun k_=>some k_=(.slice aE ah.length aG : Value).ownBlock) (.slice aE ah.length aG) ah az aZ false aJ w _ ?aw ?aK aq.out ?aM ?aN HBW.out ?aQ A18.out).mono ?_);(case aw=>exact yhb);(case aK=>exact Kd.C_kept_came (Kd.heap_int .i64) ap.out yhb (fun k_ hs_=>(fun e_=>Kd.R_base ag.out k_ e_.symm) hs_));(case aM=>exact Kd.R_tight rfl ag.out);(case aN=>exact fun e_=>HKB.out e_);(case aQ=>exact (yk HS));rintro e w24 ⟨rfl,hy0,hb,hkp,hs9⟩;refine ⟨_,rfl, ?_⟩;have hs1 : w24.cell? ⟨B,1,none⟩=some (.slice aE ah.length aG):=(zs hs9 1).trans rfl;have n0_:=zm (Kd.S_mono (ok' := fun k_=>some k_≠(.slice aE ah.length aG : Value).ownBlock∧k_≠B) (Kd.S_keptB (ac.out) hkp (fun k_ hk_ hs_=>hs_.elim hk_.1 hk_.2)) (fun k_ hk_=>hk_.1));have n1_:=zm (Kd.R_reok rfl hy0 (fun k_ e_=>ag.out.1 k_ e_));have n2_:=zm (hb);clear ac;clear ag;clear HB;clear HS;have HS:=zm hs9;clear hs9;have ac:=n0_;have ag:=n1_;have HB:=n2_;clear n0_ n1_ n2_;(try clear hb);(try clear hkp);(try clear hy0))|((with_reducible refine gate_builtin (b:=.append) (xs := #[.tmp 40, .tmp 45]) rfl ?_);(try (refine gate_guard (by rfl) ?_;dsimp only));at_builtin;refine Kd.S_append (Kd.slice 3 (Kd.int .i64)) (w0:=w) w.heap.size rfl (.tmp 40) (.tmp 45) 22 49 (.slice none 0 0) 24 rfl Try.underlying22 info49 rfl (by decide) (by omega) u8 av aJ [.slice aE ah.length aG] (fun _=>True) (fun k_=>some k_=(.slice aE ah.length aG : Value).ownBlock) rfl rfl ?aP (fun k_ hk_=>((zG (ok' := fun k_=>((fun _=>True)) k_∧some k_≠(u8 : Value).ownBlock) (Kd.R_apart' (ag.out) (Kd.S_typed ac.out) (by decide)) (fun k_ hk=>⟨trivial,hk.2⟩))).1 k_ hk_.symm) ?aF ?aO ?aB ?aS ?aL ?_;(case aP=>exact Kd.M_row (zG (Kd.R_tight rfl (zG (ok' := fun k_=>((fun _=>True)) k_∧some k_≠(u8 : Value).ownBlock) (Kd.R_apart' (ag.out) (Kd.S_typed ac.out) (by decide)) (fun k_ hk=>⟨trivial,hk.2⟩))) (fun _ h_=>h_)));(case aB=>exact yhb);(case aF=>exact (fun _ _=>trivial));(case aO=>exact (yS0 ac));(case aS=>exact (zE yhb));(case aL=>have:=LMc22.out;omega);intro bi w25 ho hb hg hat;rw [← bb.out] at ho;replace HB:=zm (hb);have bc:=zm (ho);clear ac;clear ag;clear ho hb hg hat))
      go_roundg k3
      case measure=>exact yom3 HJ3 HK2 HK3
      case rel=>exact ⟨(ba),(wrap64 (aa+1)),yq,H',⟨yom3 HJ3 HK2 HK3⟩,⟨yr bc⟩,⟨yhb⟩⟩
    replace c12:=Bool.eq_false_iff.mpr c12
    subst c12
    rw [ynf] at H
    simp only [Option.some.injEq,Prod.mk.injEq] at H
    obtain ⟨rfl,rfl⟩:=H
    have ax : 0≤(aa : Int):=yt
    have ay : aa < (l2.length : Int):=yt
    obtain ⟨a9,ae,af,aY,aj,am,ao⟩:=at_L1 HR2.out aa ax ay
    cases aY
    replace aj:=yhx HB aj
    have ap:=zm ao;have aq:=zm am;clear ao am
    replace ax:=eq_true ax
    replace ay:=eq_true ay
    go_wp2_with (first|((with_reducible refine gate_callee (f:=62) rfl ?_);refine ygl 29 Try.func62 #[.slice ae (rd_L1 l2 aa).length af] ?_;(with_reducible refine (gain_Right.calls k2 _ _ (rd_L1 l2 aa) false _ ?aw aq.out A11.out).mono ?_);(case aw=>exact ycb ap);rintro e w' ⟨rfl,⟨nd,rfl⟩⟩;refine ⟨_,rfl, ?_⟩))
    go_ret2
    exact ⟨_,ye,yn,yhb⟩
   rw [if_neg c8] at H
   have a7:=yG c8
   clear c8
   simp only [Option.some.injEq,Prod.mk.injEq] at H
   obtain ⟨rfl,rfl⟩:=H
   go_wp2
   go_ret2
   exact ⟨_,ye,yr ac,yhb⟩
def coder_New.f  : Option (Int × Int × List Int):=some (0,4294967295,([] : List Int))
set_option maxHeartbeats 8000000 in
set_option maxRecDepth 100000 in
theorem coder_New.calls  (r1 : Int) (r2 : Int) (r3 : List Int) (w : World) (h : coder_New.f  = some (r1,r2,r3)) :
  Calls Try.prog 27 #[] w fun e w' => ∃ v2_ : Value,e=.returned (.agg #[.int .u64 r1, .int .u32 r2,v2_])∧Kd.R (Kd.int .u8) 5 w' w.heap.size (fun _=>True) v2_ r3∧Below w.heap.size w w' := by
 have hu54:=Try.underlying54;have HB:=zm (Below.refl w.heap.size w);have H:=h
 unfold coder_New.f at H
 clear h
 simp only [Option.some.injEq,Prod.mk.injEq] at H
 obtain ⟨rfl,rfl,rfl⟩:=H
 go_enter Try.func27,Try.ntmps27
 go_wp2_with (first|((with_reducible refine gate_dst (N:=0) rfl ?_);refine ybx 0 #[.int .u64 0, .int .u32 0, .slice none 0 0] 54 ?_;intro ac hg w1 hbox hb;have aa:=zm (hbox);have ae:=ygw hg;have af:=ygw hg;replace HB:=ybs hb;clear hb hbox hg;obtain ⟨_,_,_,_,_,_⟩:=yc3 aa))
 refine bodyPost_ret (results_cell_row rfl _ _ ac 54 #[.int .u64 0, .int .u32 4294967295, .slice none 0 0] (0,0) _ rfl (ykp aa) Try.underlying54 rfl (by kernel_rfl)) rfl ?_
 exact ⟨_,ye,yn,yhb⟩
def coder_RightEnc.f (ac : Int) (ae : Int) (aa : List Int) : Option (Bool):=if ac≤4294967295 then (if ae ≥ 16777216 then (some (decide ((aa.length : Int)≤4000))) else (some false)) else (some false)
set_option maxHeartbeats 8000000 in
set_option maxRecDepth 100000 in
theorem coder_RightEnc.calls (ac : Int) (ae : Int) (ag : Option Addr) (ah : Nat) (aa : List Int) (r : Bool) (w : World) (hr0_2 : Kd.C (Kd.int .u8) w ag aa.length aa) (hc0_2 : aa.length≤ah) (h : coder_RightEnc.f ac ae aa=some r) :
  Calls Try.prog 91 #[.agg #[.int .u64 ac, .int .u32 ae, .slice ag aa.length ah]] w fun e w' => e=.returned (.bool r)∧Below w.heap.size w w' := by
 have hu54:=Try.underlying54;have ao:=zm hr0_2;have ap:=zm hc0_2;clear hr0_2 hc0_2;have HB:=zm (Below.refl w.heap.size w);have H:=h
 unfold coder_RightEnc.f at H
 clear h
 by_cases c2 : ac≤4294967295
 ·
  rw [if_pos c2] at H
  have al:=yD c2
  clear c2
  by_cases c3 : ae ≥ 16777216
  ·
   rw [if_pos c3] at H
   have am:=yDl c3
   clear c3
   obtain rfl:=Option.some.inj H
   go_enter Try.func91,Try.ntmps91
   go_wp2_with (first|((with_reducible refine gate_dst (N:=1) rfl ?_);(try (refine gate_guard (by rfl) ?_;dsimp only));refine ybx 1 #[.int .u64 ac, .int .u32 ae, .slice ag aa.length ah] 54 ?_;intro ai hg w4 hbox hb;have af:=zm (hbox);have aj:=ygw hg;have ak:=ygw hg;replace HB:=ybs hb;clear hb hbox hg;obtain ⟨_,_,_,_,_,_⟩:=yc3 af))
   go_ret
   exact ⟨ye,yhb⟩
  rw [if_neg c3] at H
  have am:=yGl c3
  clear c3
  obtain rfl:=Option.some.inj H
  go_enter Try.func91,Try.ntmps91
  go_wp2_with (first|((with_reducible refine gate_dst (N:=1) rfl ?_);(try (refine gate_guard (by rfl) ?_;dsimp only));refine ybx 1 #[.int .u64 ac, .int .u32 ae, .slice ag aa.length ah] 54 ?_;intro ai hg w6 hbox hb;have af:=zm (hbox);have aj:=ygw hg;have ak:=ygw hg;replace HB:=ybs hb;clear hb hbox hg;obtain ⟨_,_,_,_,_,_⟩:=yc3 af))
  go_ret
  exact ⟨ye,yhb⟩
 rw [if_neg c2] at H
 have al:=yG c2
 clear c2
 obtain rfl:=Option.some.inj H
 go_enter Try.func91,Try.ntmps91
 go_wp2_with (first|((with_reducible refine gate_dst (N:=1) rfl ?_);(try (refine gate_guard (by rfl) ?_;dsimp only));refine ybx 1 #[.int .u64 ac, .int .u32 ae, .slice ag aa.length ah] 54 ?_;intro ai hg w8 hbox hb;have af:=zm (hbox);have aj:=ygw hg;have ak:=ygw hg;replace HB:=ybs hb;clear hb hbox hg;obtain ⟨_,_,_,_,_,_⟩:=yc3 af))
 go_ret
 exact ⟨ye,yhb⟩
def coder_own.f (af : Int) (ag : Int) (ae : List Int) : Option (Int × Int × List Int):=(coder_RightEnc.f af ag ae).bind fun aD=>(if aD=true then ((some (([] : List Int) : List Int)).bind fun aj=>(if aj.length+ae.length < 140737488355328 then (some (af,ag,(aj ++ ae))) else (none))) else ((coder_New.f).bind fun ao=>(some (ao.1,ao.2.1,ao.2.2))))
set_option maxHeartbeats 8000000 in
set_option maxRecDepth 100000 in
theorem coder_own.calls (af : Int) (ag : Int) (al : Option Addr) (am : Nat) (ae : List Int) (r1 : Int) (r2 : Int) (r3 : List Int) (w : World) (hr0_2 : Kd.C (Kd.int .u8) w al ae.length ae) (hc0_2 : ae.length≤am) (h : coder_own.f af ag ae=some (r1,r2,r3)) :
  Calls Try.prog 63 #[.agg #[.int .u64 af, .int .u32 ag, .slice al ae.length am]] w fun e w' => ∃ v2_ : Value,e=.returned (.agg #[.int .u64 r1, .int .u32 r2,v2_])∧Kd.R (Kd.int .u8) 5 w' w.heap.size (fun _=>True) v2_ r3∧Below w.heap.size w w' := by
 have hu54:=Try.underlying54;have ap:=zm hr0_2;have ay:=zm hc0_2;clear hr0_2 hc0_2;have HB:=zm (Below.refl w.heap.size w);have H:=h
 unfold coder_own.f at H
 clear h
 obtain ⟨aD,A2,H⟩:=ybi H
 by_cases c3 : aD=true
 ·
  subst c3
  rw [if_pos rfl] at H
  obtain ⟨aj,aq⟩ : ∃ y_ : List Int,y_=(([] : List Int)):=⟨_,rfl⟩
  replace H : (if aj.length+ae.length < 140737488355328 then (some (af,ag,(aj ++ ae))) else (none))=some (r1,r2,r3):=yrw aq H
  have az:=zm aq;clear aq
  obtain ⟨c4,H⟩:=yif H
  have LMc4:=zm c4;clear c4
  obtain ⟨aE,au⟩ : ∃ y_ : List Int,y_=(aj ++ ae):=⟨_,rfl⟩
  replace H : (some (af,ag,aE))=some (r1,r2,r3):=yrw au H
  have aG:=zm au;clear au
  simp only [Option.some.injEq,Prod.mk.injEq] at H
  obtain ⟨rfl,rfl,rfl⟩:=H
  go_enter Try.func63,Try.ntmps63
  go_wp2_with (first|((with_reducible refine gate_dst (N:=1) rfl ?_);refine ybx 1 #[.int .u64 af, .int .u32 ag, .slice al ae.length am] 54 ?_;intro aH hg w5 hbox hb;have aa:=zm (hbox);have aI:=ygw hg;have aJ:=ygw hg;replace HB:=ybs hb;clear hb hbox hg)|((with_reducible refine gate_dst (N:=2) rfl ?_);refine ybx 2 #[.int .u64 0, .int .u32 0, .slice none 0 0] 54 ?_;intro av hg w6 hbox hb;have ac:=zm (hbox);have aK:=ygw hg;have aM:=ygw hg;replace HB:=ybs hb;have ah:=ynl aa hg;have ai:=yng aa hg;replace aa:=ybb aa hb;clear hb hbox hg;have:=ah.out;have:=ai.out;obtain ⟨_,_,_,_,_,_⟩:=yc3 aa)|((with_reducible refine gate_callee (f:=91) rfl ?_);refine ygl 4 Try.func91 #[.agg #[.int .u64 af, .int .u32 ag, .slice al ae.length am]] ?_;(with_reducible refine (coder_RightEnc.calls af ag _ _ ae true _ ?aw ay.out A2.out).mono ?_);(case aw=>exact ycb ap);rintro e w9 ⟨rfl,hb⟩;refine ⟨_,rfl, ?_⟩;replace aa:=ybb aa hb;replace ac:=ybb ac hb;replace HB:=ybs hb;(try clear hb))|((with_reducible refine gate_dst (N:=7) rfl ?_);refine Kd.R_lit (Kd.int .u8) _ 5 ?hg (N:=7) ?hd (xs:=([] : List Int)) (inner := []) (ok:=fun _=>True) (okp:=fun _=>True) ?hr ?hp (fun _ hk=>hk) trivial (Below.refl _ _) (Nat.le_refl _) (by simp) ?_;(case hd=>rfl);(case hg=>rfl);(case hr=>first|(go_simp;done)|(go_simp;rfl));(case hp=>exact (Reps.none _ _));intro aU w10 ax hb hg_ hnew_;clear hg_ hnew_;(first|rw [← az.out] at ax|(simp only [Int.reduceToNat] at ax;rw [← az.out] at ax));have ak:=zm (Kd.R_lower ax (zE yhb));replace aa:=ybb aa hb;replace ac:=ybb ac hb;replace HB:=ybs hb;clear hb ax;obtain ⟨_,_,_,_,_,_⟩:=yc3 aa)|((with_reducible refine gate_builtin (b:=.append) (xs := #[.tmp 7, .tmp 9]) rfl ?_);at_builtin;refine Kd.R_append_rows (Kd.int .u8) (w0:=w) w.heap.size rfl (.tmp 7) (.tmp 9) 28 5 (.int .u8 0) 1 rfl Try.underlying28 info5 rfl (by decide) (by omega) aU aj ae _ _ _ (fun _=>True) (fun _=>False) rfl rfl ?aO ?aR (fun _ _ h=>h) (fun _ h=>h.elim) ?aF ?aB ?aS ?aL ?_;(case aR=>exact ycb ap);(case aB=>exact yhb);(case aF=>exact (fun _ _=>trivial));(case aO=>exact (yr ak));(case aS=>exact (zE yhb));(case aL=>have:=LMc4.out;omega);intro a8 w13 ho hb hg hat;rw [← aG.out] at ho;replace aa:=zm (blk_grown (yk aa) hg (zu ak.out aa.out (by decide)));replace ac:=zm (blk_grown (yk ac) hg (zu ak.out ac.out (by decide)));replace HB:=zm (hb);have aA:=zm (ho);clear ak;clear ho hb hg hat;obtain ⟨aV,aW,aX⟩:=Kd.R_slice aA.out;subst aX;obtain ⟨_,_,_,_,_,_⟩:=yc3 aa;obtain ⟨_,_,_,_,_,_⟩:=yc3 ac))
  refine bodyPost_ret (results_cell_row rfl _ _ av 54 #[.int .u64 af, .int .u32 ag, .slice aV aE.length aW] (0,0) _ rfl (ykp ac) Try.underlying54 rfl (by kernel_rfl)) rfl ?_
  exact ⟨_,ye,yR2 aA aa ac,yhb⟩
 replace c3:=Bool.eq_false_iff.mpr c3
 subst c3
 rw [ynf] at H
 obtain ⟨⟨aN,aQ,aT⟩,A17,H⟩:=ybi H
 try dsimp only at H
 simp only [Option.some.injEq,Prod.mk.injEq] at H
 obtain ⟨rfl,rfl,rfl⟩:=H
 go_enter Try.func63,Try.ntmps63
 go_wp2_with (first|((with_reducible refine gate_dst (N:=1) rfl ?_);refine ybx 1 #[.int .u64 af, .int .u32 ag, .slice al ae.length am] 54 ?_;intro aH hg w18 hbox hb;have aa:=zm (hbox);have aI:=ygw hg;have aJ:=ygw hg;replace HB:=ybs hb;clear hb hbox hg)|((with_reducible refine gate_dst (N:=2) rfl ?_);refine ybx 2 #[.int .u64 0, .int .u32 0, .slice none 0 0] 54 ?_;intro av hg w19 hbox hb;have ac:=zm (hbox);have aK:=ygw hg;have aM:=ygw hg;replace HB:=ybs hb;have ah:=ynl aa hg;have ai:=yng aa hg;replace aa:=ybb aa hb;clear hb hbox hg;have:=ah.out;have:=ai.out;obtain ⟨_,_,_,_,_,_⟩:=yc3 aa)|((with_reducible refine gate_callee (f:=91) rfl ?_);refine ygl 4 Try.func91 #[.agg #[.int .u64 af, .int .u32 ag, .slice al ae.length am]] ?_;(with_reducible refine (coder_RightEnc.calls af ag _ _ ae false _ ?aw ay.out A2.out).mono ?_);(case aw=>exact ycb ap);rintro e w22 ⟨rfl,hb⟩;refine ⟨_,rfl, ?_⟩;replace aa:=ybb aa hb;replace ac:=ybb ac hb;replace HB:=ybs hb;(try clear hb))|((with_reducible refine gate_callee (f:=27) rfl ?_);refine ygl 6 Try.func27 #[] ?_;(with_reducible refine (coder_New.calls  aN aQ aT _ A17.out).mono ?_);rintro e w23 ⟨a9,rfl,ho0,hb⟩;refine ⟨_,rfl, ?_⟩;have aC:=zm (Kd.R_lower ho0 (zE yhb));replace aa:=ybb aa hb;replace ac:=ybb ac hb;replace HB:=ybs hb;(try clear hb);(try clear ho0);obtain ⟨_,_,_,_,_,_⟩:=yc3 ac;obtain ⟨aY,aZ,a7⟩:=Kd.R_slice aC.out;subst a7))
 refine bodyPost_ret (results_cell_row rfl _ _ av 54 #[.int .u64 aN, .int .u32 aQ, .slice aY aT.length aZ] (0,0) _ rfl (ykp ac) Try.underlying54 rfl (by kernel_rfl)) rfl ?_
 exact ⟨_,ye,yR1 aC ac,yhb⟩
def coder_Finish.f (aj : Int) (ak : Int) (af : List Int) : Option (List Int):=(coder_own.f aj ak af).bind fun ag=>((some (([(ag.1 / 16777216) % 256,(ag.1 / 65536) % 256,(ag.1 / 256) % 256,(ag.1) % 256] : List Int) : List Int)).bind fun ah=>(if ag.2.2.length+ah.length < 140737488355328 then (some (ag.2.2 ++ ah)) else (none)))
set_option maxHeartbeats 8000000 in
set_option maxRecDepth 100000 in
theorem coder_Finish.calls (aj : Int) (ak : Int) (aq : Option Addr) (au : Nat) (af : List Int) (r : List Int) (w : World) (hr0_2 : Kd.C (Kd.int .u8) w aq af.length af) (hc0_2 : af.length≤au) (h : coder_Finish.f aj ak af=some r) :
  Calls Try.prog 35 #[.agg #[.int .u64 aj, .int .u32 ak, .slice aq af.length au]] w fun e w' => ∃ v0_ : Value,e=.returned (v0_)∧Kd.R (Kd.int .u8) 5 w' w.heap.size (fun _=>True) v0_ r∧Below w.heap.size w w' := by
 have hu54:=Try.underlying54;have aw:=zm hr0_2;have ax:=zm hc0_2;clear hr0_2 hc0_2;have HB:=zm (Below.refl w.heap.size w);have H:=h
 unfold coder_Finish.f at H
 clear h
 obtain ⟨⟨aa,ay,al⟩,A2,H⟩:=ybi H
 try dsimp only at H
 obtain ⟨ah,ao⟩ : ∃ y_ : List Int,y_=(([(aa / 16777216) % 256,(aa / 65536) % 256,(aa / 256) % 256,(aa) % 256] : List Int)):=⟨_,rfl⟩
 replace H : (if al.length+ah.length < 140737488355328 then (some (al ++ ah)) else (none))=some r:=yrw ao H
 have av:=zm ao;clear ao
 obtain ⟨c3,H⟩:=yif H
 have LMc3:=zm c3;clear c3
 obtain ⟨aE,ap⟩ : ∃ y_ : List Int,y_=(al ++ ah):=⟨_,rfl⟩
 replace H : (some aE)=some r:=yrw ap H
 have az:=zm ap;clear ap
 obtain rfl:=Option.some.inj H
 go_enter Try.func35,Try.ntmps35
 go_wp2_with (first|((with_reducible refine gate_dst (N:=1) rfl ?_);refine ybx 1 #[.int .u64 aj, .int .u32 ak, .slice aq af.length au] 54 ?_;intro aA hg w4 hbox hb;have ac:=zm (hbox);have aJ:=ygw hg;have aK:=ygw hg;replace HB:=ybs hb;clear hb hbox hg;obtain ⟨_,_,_,_,_,_⟩:=yc3 ac)|((with_reducible refine gate_callee (f:=63) rfl ?_);refine ygl 4 Try.func63 #[.agg #[.int .u64 aj, .int .u32 ak, .slice aq af.length au]] ?_;(with_reducible refine (coder_own.calls aj ak _ _ af aa ay al _ ?aC ax.out A2.out).mono ?_);(case aC=>exact ycb aw);rintro e w6 ⟨aM,rfl,ho0,hb⟩;refine ⟨_,rfl, ?_⟩;have ae:=zm (Kd.R_lower ho0 (zE yhb));replace ac:=ybb ac hb;replace HB:=ybs hb;(try clear hb);(try clear ho0);obtain ⟨_,_,_,_,_,_⟩:=yc3 ac;obtain ⟨Ao8,co8,eo8⟩:=Kd.R_slice ae.out;subst eo8)|((with_reducible refine gate_dst (N:=22) rfl ?_);refine Kd.R_lit (Kd.int .u8) _ 5 ?hg (N:=22) ?hd (xs:=([(aa / 16777216) % 256,(aa / 65536) % 256,(aa / 256) % 256,(aa) % 256] : List Int)) (inner := [.int .u8 ((aa / 16777216) % 256), .int .u8 ((aa / 65536) % 256), .int .u8 ((aa / 256) % 256), .int .u8 ((aa) % 256)]) (ok:=fun _=>True) (okp:=fun _=>True) ?hr ?hp (fun _ hk=>hk) trivial (Below.refl _ _) (Nat.le_refl _) (by simp) ?_;(case hd=>rfl);(case hg=>rfl);(case hr=>first|(go_simp;done)|(go_simp;rfl));(case hp=>exact (Reps.one (show Kd.M (Kd.int .u8) _ _ _ ((aa / 16777216) % 256) [.int .u8 ((aa / 16777216) % 256)] from rfl) (Reps.one (show Kd.M (Kd.int .u8) _ _ _ ((aa / 65536) % 256) [.int .u8 ((aa / 65536) % 256)] from rfl) (Reps.one (show Kd.M (Kd.int .u8) _ _ _ ((aa / 256) % 256) [.int .u8 ((aa / 256) % 256)] from rfl) (Reps.one (show Kd.M (Kd.int .u8) _ _ _ ((aa) % 256) [.int .u8 ((aa) % 256)] from rfl) (Reps.none _ _))))));intro aN w9 am hb hg_ hnew_;clear hg_ hnew_;(first|rw [← av.out] at am|(simp only [Int.reduceToNat] at am;rw [← av.out] at am));have ai:=zm (Kd.R_lower (Kd.R_new' am (Kd.R_lt (yR1 ae ac))) (zE yhb));replace ae:=zm (Kd.R_elder' (yR1 ae ac) (Kd.R_base am) hb);replace ac:=zm (zF (g:=aA) (o:=.cells #[.int .u64 aa, .int .u32 ay, .slice Ao8 al.length co8] 54 (0,0)) (ykp ac) hb);replace HB:=ybs hb;clear hb am;obtain ⟨aG,aH,aI⟩:=Kd.R_slice ai.out;subst aI)|((with_reducible refine gate_builtin (b:=.append) (xs := #[.tmp 6, .tmp 22]) rfl ?_);at_builtin;refine Kd.R_append_rows (Kd.int .u8) (w0:=w) w.heap.size rfl (.tmp 6) (.tmp 22) 28 5 (.int .u8 0) 1 rfl Try.underlying28 info5 rfl (by decide) (by omega) (.slice Ao8 al.length co8) al ah _ _ _ (fun k_=>some k_≠(.slice aG ah.length aH : Value).ownBlock) (fun _=>False) rfl rfl ?aO ?aR (fun _ _ h=>h) (fun _ h=>h.elim) ?aF ?aB ?aS ?aL ?_;(case aR=>exact yce (Kd.R_reads' ai.out).2.2);(case aB=>exact yhb);(case aF=>exact (fun k_ hk=>Kd.fresh' (Kd.R_lt (yr ai)) k_ hk));(case aO=>exact (yR0 ae));(case aS=>exact (zE yhb));(case aL=>have:=LMc3.out;omega);intro aQ w11 ho hb hg hat;rw [← az.out] at ho;replace ac:=zm (blk_grown (yk ac) hg (zu ae.out ac.out (by decide)));replace ai:=zm (Kd.R_after (ok:=(fun _=>True)) (yr ai) hg hat);replace HB:=zm (hb);have aD:=zm (ho);clear ae;clear ho hb hg hat))
 go_ret
 exact ⟨_,ye,yR0 aD,yhb⟩
def coder_carry.l0 : Nat→List Int→Int→Option (List Int)
 | 0,_,_=>none
 | k+1,x0,x2=>if x2 ≥ 0 then (if 0≤x2 then (if x2 < (x0.length : Int) then ((some (x0.set (x2 : Int).toNat (((rd x0 x2)+1) % 256) : List Int)).bind fun ag=>(if (rd ag x2)=0 then (coder_carry.l0 k ag (wrap64 (x2 - 1))) else (some ag))) else (none)) else (none)) else (some x0)
def coder_carry.f (k : Nat) (l0 : List Int) : Option (List Int):=coder_carry.l0 k l0 (wrap64 ((l0.length : Int) - 1))
theorem coder_carry.mono_l : ∀ k,(∀ y0 y1,LeO (coder_carry.l0 k y0 y1) (coder_carry.l0 (k+1) y0 y1))
 | 0=>fun _ _ r h=>by simp [coder_carry.l0] at h
 | k+1=>by
  have ih0:=coder_carry.mono_l k
  ·
   intro y0 y1
   unfold coder_carry.l0
   repeat' with_reducible first|apply ih0|apply yLr|apply yLn|apply yLi|apply yLb|intro _
theorem coder_carry.mono : ∀ a0 k,LeO (coder_carry.f k a0) (coder_carry.f (k+1) a0):=by
 intro a0 k
 have ih0:=coder_carry.mono_l k
 unfold coder_carry.f
 repeat' with_reducible first|apply ih0|apply yLr|apply yLn|apply yLi|apply yLb|intro _
set_option maxHeartbeats 8000000 in
set_option maxRecDepth 100000 in
theorem coder_carry.calls (k : Nat) (P0_ : Nat→Prop) (ai : Value) (l0 : List Int) (r : List Int) (w0 w : World) (hB : Below w0.heap.size w0 w) (ho0 : Kd.R (Kd.int .u8) 5 w w0.heap.size P0_ ai l0) (h : coder_carry.f k l0=some r) :
  Calls Try.prog 66 #[ai] w fun e w' => e=.returned (.tuple #[])∧Kd.R (Kd.int .u8) 5 w' w0.heap.size (fun k_=>(P0_ k_∨w.heap.size≤k_)) ai r∧Below w0.heap.size w0 w'∧Kept w w' (fun k_=>P0_ k_):=by
 have HO0:=zm (show Kd.R (Kd.int .u8) 5 w w0.heap.size (fun k_=>(P0_ k_∨w.heap.size≤k_)) ai l0 from zG ho0 (fun k_ hk=>(.inl hk)))
 have HK:=zm (Kept.refl w (fun k_=>P0_ k_))
 have HW0:=zm hB.size;have HB:=zm hB;clear hB;have H:=h
 unfold coder_carry.f at H
 clear h
 have H' := zm H
 clear H
 obtain ⟨Ao2,co2,eo2⟩:=Kd.R_slice HO0.out
 subst eo2
 go_enter Try.func66,Try.ntmps66
 go_wp2
 go_step3
 go_wp2
 go_step3
 go_wp2
 go_loopg [2] k (fun kq v2 w' => ∃ (ae : List Int) (aa : Int),v2=.int .i64 aa∧Aside0 (coder_carry.l0 kq ae aa=some r)∧Aside0 (kq≤k)∧Aside0 (Kd.R (Kd.int .u8) 5 w' w0.heap.size (fun k_=>(P0_ k_∨w.heap.size≤k_)) (.slice Ao2 l0.length co2) ae)∧Aside0 (Kept w w' (fun k_=>P0_ k_))∧Aside0 (Below w0.heap.size w0 w'))
 case atStart=>exact ⟨(l0),(wrap64 ((l0.length : Int) - 1)),yq,H',⟨Nat.le_refl _⟩,⟨yr HO0⟩,⟨by repeat (first|(with_reducible first|exact HK.out|apply Kept.alloc|apply Kept.drewN|apply Kept.drew)|exact HK.out)⟩,⟨yhb⟩⟩
 case round =>
  clear H'
  obtain ⟨ae,aa,rfl,HA,HK1,ac,HK,HB⟩:=hrel
  have ah:=(Kd.R_reads' ac.out).1
  rw [ah] at ac
  (try simp only [ah])
  obtain ⟨k1,rfl⟩:=ysu gk (fun h=>by subst h;exact absurd HA.out (by simp [coder_carry.l0]))
  have H:=HA.out;clear HA
  simp only [coder_carry.l0] at H
  by_cases c3 : aa ≥ 0
  ·
   rw [if_pos c3] at H
   have aC:=yDl c3
   clear c3
   obtain ⟨c4,H⟩:=yif H
   have aG : decide (0≤aa)=true:=decide_eq_true c4
   clear c4
   obtain ⟨c5,H⟩:=yif H
   have aH : decide (aa < (ae.length : Int))=true:=decide_eq_true c5
   clear c5
   obtain ⟨ag,aq⟩ : ∃ y_ : List Int,y_=(ae.set (aa : Int).toNat (((rd ae aa)+1) % 256)):=⟨_,rfl⟩
   replace H : (if (rd ag aa)=0 then (coder_carry.l0 k1 ag (wrap64 (aa - 1))) else (some ag))=some r:=yrw aq H
   have ap:=zm aq;clear aq
   by_cases c7 : (rd ag aa)=0
   ·
    rw [if_pos c7] at H
    obtain ⟨aD,aE⟩:=yE c7
    clear c7
    have H' := zm H
    clear H
    have ak : 0≤(aa : Int):=yt
    have al : aa < (ae.length : Int):=yt
    obtain ⟨ay,av,aj⟩:=Kd.at_int (Kd.R_reads' ac.out).2.2 aa ak al
    cases av
    replace ak:=eq_true ak
    replace al:=eq_true al
    have p6 : 0≤(aa : Int):=yt
    have q6 : (aa : Int) < ((ae.length : Int) : Int):=yt
    obtain ⟨go6,co6,eo6,gb6,gl6,cl6,HG6⟩:=Kd.R_form ac.out (by omega)
    (first|cases eo6|(injection eo6 with ea_ en_ ec_;(first|subst ea_|(injection ea_ with ea_;subst ea_));subst ec_;clear en_))
    have GB6:=zm gb6;have GG6:=zm HG6;clear gb6 gl6 HG6
    have HMgo6:=zm (show (P0_ go6∨w.heap.size≤go6) from (ac.out.1 _ rfl))
    (first|simp only [add_plain] at aj|skip)
    obtain ⟨az,aA⟩:=Kd.R_celln 0 ac.out (aa : Int) p6 q6
    replace p6:=eq_true p6
    replace q6:=eq_true q6
    have HP8:=Kd.R_putg ac.out (aa : Int) (((rd ae aa)+1) % 256)
    go_wp2_with (first|((with_reducible refine gate_store (t:=5) (p:=15) rfl ?_);refine store_event (t:=5) (p:=15) (v := ?vo_w9) (w1:=(wr.setCell ⟨go6,(aa : Int).toNat,none⟩ (.int .u8 (((rd ae aa)+1) % 256)))) ?hg ?ho ?hn ?hr ?_;(case ho=>rfl);(case hg=>rfl);(case hn=>rfl);(case hr=>first|(go_simp;done)|(go_simp;rfl));intro w9 hw;have hg : wr.grownBy w9 (some go6):=(by rw [hw];exact HP8.2);have hp_ : Kd.R (Kd.int .u8) 5 w9 w0.heap.size (fun k_=>(P0_ k_∨w.heap.size≤k_)) (.slice (some ⟨go6,0,none⟩) ae.length co2) ag:=(by rw [hw,ap.out];exact HP8.1);clear HP8;replace HB:=zm ((by rw [hw];exact zk (HB.out) GB6.out : Below w0.heap.size w0 w9));replace HK:=zm (Kept.of_grown (S:=(fun k_=>P0_ k_)) hg (by repeat (first|(with_reducible first|exact HK.out|apply Kept.alloc|apply Kept.drewN|apply Kept.drew)|exact HK.out)) (fun k_ e_=>(ac.out.1 k_ e_)));replace ac:=zm (hp_);clear hg hw hp_;have am : 0≤(aa : Int):=yt;have ao : aa < (ag.length : Int):=(by have h_ : (aa : Int) < ((ae.length : Int) : Int):=yt;first|(have e_:=(Kd.R_reads' ac.out).1;omega)|simpa only [ap.out,List.length_set] using h_);have ql202 : ((aa : Int) < ((ae.length : Int) : Int))=True:=eq_true (yt);obtain ⟨au,aw,af⟩:=Kd.at_int (Kd.R_reads' ac.out).2.2 aa am ao;obtain rfl : (⟨go6,0,none⟩ : Addr)=au:=(by injection aw);(first|simp only [add_plain] at af|simp only [add_at] at af|simp only [Addr.add,Nat.zero_add] at af|skip);replace am:=eq_true am;replace ao:=eq_true ao))
    (try simp only [← ah])
    go_roundg k1
    case measure=>exact yom1 HK1
    case rel=>exact ⟨(ag),(wrap64 (aa - 1)),yq,H',⟨yom1 HK1⟩,⟨by (try simp only [ah]);(with_reducible repeat (first|apply zo|apply zp|apply zq));exact ac.out⟩,⟨by repeat (first|(with_reducible first|exact HK.out|apply Kept.alloc|apply Kept.drewN|apply Kept.drew)|exact HK.out)⟩,⟨yhb⟩⟩
   rw [if_neg c7] at H
   obtain ⟨aD,aE⟩:=yF c7
   obtain rfl:=Option.some.inj H
   have ak : 0≤(aa : Int):=yt
   have al : aa < (ae.length : Int):=yt
   obtain ⟨ay,av,aj⟩:=Kd.at_int (Kd.R_reads' ac.out).2.2 aa ak al
   cases av
   replace ak:=eq_true ak
   replace al:=eq_true al
   have p6 : 0≤(aa : Int):=yt
   have q6 : (aa : Int) < ((ae.length : Int) : Int):=yt
   obtain ⟨go6,co6,eo6,gb6,gl6,cl6,HG6⟩:=Kd.R_form ac.out (by omega)
   (first|cases eo6|(injection eo6 with ea_ en_ ec_;(first|subst ea_|(injection ea_ with ea_;subst ea_));subst ec_;clear en_))
   have GB6:=zm gb6;have GG6:=zm HG6;clear gb6 gl6 HG6
   have HMgo6:=zm (show (P0_ go6∨w.heap.size≤go6) from (ac.out.1 _ rfl))
   (first|simp only [add_plain] at aj|skip)
   obtain ⟨az,aA⟩:=Kd.R_celln 0 ac.out (aa : Int) p6 q6
   replace p6:=eq_true p6
   replace q6:=eq_true q6
   have ax:=Kd.R_putg ac.out (aa : Int) (((rd ae aa)+1) % 256)
   go_wp2_with (first|((with_reducible refine gate_store (t:=5) (p:=15) rfl ?_);refine store_event (t:=5) (p:=15) (v := ?vo_w11) (w1:=(wr.setCell ⟨go6,(aa : Int).toNat,none⟩ (.int .u8 (((rd ae aa)+1) % 256)))) ?hg ?ho ?hn ?hr ?_;(case ho=>rfl);(case hg=>rfl);(case hn=>rfl);(case hr=>first|(go_simp;done)|(go_simp;rfl));intro w11 hw;have hg : wr.grownBy w11 (some go6):=(by rw [hw];exact ax.2);have hp_ : Kd.R (Kd.int .u8) 5 w11 w0.heap.size (fun k_=>(P0_ k_∨w.heap.size≤k_)) (.slice (some ⟨go6,0,none⟩) ae.length co2) ag:=(by rw [hw,ap.out];exact ax.1);clear ax;replace HB:=zm ((by rw [hw];exact zk (HB.out) GB6.out : Below w0.heap.size w0 w11));replace HK:=zm (Kept.of_grown (S:=(fun k_=>P0_ k_)) hg (by repeat (first|(with_reducible first|exact HK.out|apply Kept.alloc|apply Kept.drewN|apply Kept.drew)|exact HK.out)) (fun k_ e_=>(ac.out.1 k_ e_)));replace ac:=zm (hp_);clear hg hw hp_;have am : 0≤(aa : Int):=yt;have ao : aa < (ag.length : Int):=(by have h_ : (aa : Int) < ((ae.length : Int) : Int):=yt;first|(have e_:=(Kd.R_reads' ac.out).1;omega)|simpa only [ap.out,List.length_set] using h_);have ql202 : ((aa : Int) < ((ae.length : Int) : Int))=True:=eq_true (yt);obtain ⟨au,aw,af⟩:=Kd.at_int (Kd.R_reads' ac.out).2.2 aa am ao;obtain rfl : (⟨go6,0,none⟩ : Addr)=au:=(by injection aw);(first|simp only [add_plain] at af|simp only [add_at] at af|simp only [Addr.add,Nat.zero_add] at af|skip);replace am:=eq_true am;replace ao:=eq_true ao))
   first|go_end0|((try simp only [Exit.inBlock,Exit.then]);refine bodyPost_ret (results_none rfl _ _ _) rfl ?_)
   exact ⟨ye,(by first|exact (yr ac)|(simp only [ah];exact (yr ac))),yhb,by repeat (first|(with_reducible first|exact HK.out|apply Kept.alloc|apply Kept.drewN|apply Kept.drew)|exact HK.out)⟩
  rw [if_neg c3] at H
  have aC:=yGl c3
  clear c3
  obtain rfl:=Option.some.inj H
  go_wp2
  first|go_end0|((try simp only [Exit.inBlock,Exit.then]);refine bodyPost_ret (results_none rfl _ _ _) rfl ?_)
  exact ⟨ye,(by first|exact (yr ac)|(simp only [ah];exact (yr ac))),yhb,by repeat (first|(with_reducible first|exact HK.out|apply Kept.alloc|apply Kept.drewN|apply Kept.drew)|exact HK.out)⟩
def coder_fair.f (a0 : Int) (a1 : Int) (a2 : Int) : Option (Bool):=if a0 ≥ 0 then (if a0 < a1 then (if a1≤a2 then (some (decide (a2≤65536))) else (some false)) else (some false)) else (some false)
set_option maxHeartbeats 8000000 in
set_option maxRecDepth 100000 in
theorem coder_fair.calls (a0 : Int) (a1 : Int) (a2 : Int) (r : Bool) (w : World) (h : coder_fair.f a0 a1 a2=some r) :
  Calls Try.prog 64 #[.int .i64 a0, .int .i64 a1, .int .i64 a2] w fun e w' => e=.returned (.bool r)∧Drawn0 w w' := by
 have H:=h
 unfold coder_fair.f at H
 clear h
 by_cases c4 : a0 ≥ 0
 ·
  rw [if_pos c4] at H
  have aa:=yDl c4
  clear c4
  by_cases c5 : a0 < a1
  ·
   rw [if_pos c5] at H
   have ac:=yD c5
   clear c5
   by_cases c6 : a1≤a2
   ·
    rw [if_pos c6] at H
    have ae:=yD c6
    clear c6
    obtain rfl:=Option.some.inj H
    go_enter Try.func64,Try.ntmps64
    go_wp2
    go_ret
    exact ⟨yq,yd⟩
   rw [if_neg c6] at H
   have ae:=yG c6
   clear c6
   obtain rfl:=Option.some.inj H
   go_enter Try.func64,Try.ntmps64
   go_wp2
   go_ret
   exact ⟨yq,yd⟩
  rw [if_neg c5] at H
  have ac:=yG c5
  clear c5
  obtain rfl:=Option.some.inj H
  go_enter Try.func64,Try.ntmps64
  go_wp2
  go_ret
  exact ⟨yq,yd⟩
 rw [if_neg c4] at H
 have aa:=yGl c4
 clear c4
 obtain rfl:=Option.some.inj H
 go_enter Try.func64,Try.ntmps64
 go_wp2
 go_ret
 exact ⟨yq,yd⟩
def coder_part.f (a0 : Int) (a1 : Int) (a2 : Int) (a3 : Int) : Option (Int × Int):=if ((a3) % 4294967296)=0 then (none) else (if a2=a3 then (some ((a0 - ((IntKind.u64.wrap (((Int.tdiv a0 ((a3) % 4294967296)) % 4294967296) * (IntKind.u64.wrap (a1)))) % 4294967296)) % 4294967296,IntKind.u64.wrap (((Int.tdiv a0 ((a3) % 4294967296)) % 4294967296) * (IntKind.u64.wrap (a1))))) else (some ((((Int.tdiv a0 ((a3) % 4294967296)) % 4294967296) * ((wrap64 (a2 - a1)) % 4294967296)) % 4294967296,IntKind.u64.wrap (((Int.tdiv a0 ((a3) % 4294967296)) % 4294967296) * (IntKind.u64.wrap (a1))))))
set_option maxHeartbeats 8000000 in
set_option maxRecDepth 100000 in
theorem coder_part.calls (a0 : Int) (a1 : Int) (a2 : Int) (a3 : Int) (r1 : Int) (r2 : Int) (w : World) (h : coder_part.f a0 a1 a2 a3=some (r1,r2)) :
  Calls Try.prog 65 #[.int .u32 a0, .int .i64 a1, .int .i64 a2, .int .i64 a3] w fun e w' => e=.returned (.tuple #[.int .u32 r1, .int .u64 r2])∧Drawn0 w w' := by
 have H:=h
 unfold coder_part.f at H
 clear h
 obtain ⟨c5,H⟩:=yie H
 obtain ⟨ae,af⟩:=yF c5
 by_cases c6 : a2=a3
 ·
  rw [if_pos c6] at H
  obtain ⟨aa,ac⟩:=yE c6
  clear c6
  simp only [Option.some.injEq,Prod.mk.injEq] at H
  obtain ⟨rfl,rfl⟩:=H
  go_enter Try.func65,Try.ntmps65
  go_wp2
  go_ret2
  exact ⟨yq,yd⟩
 rw [if_neg c6] at H
 obtain ⟨aa,ac⟩:=yF c6
 simp only [Option.some.injEq,Prod.mk.injEq] at H
 obtain ⟨rfl,rfl⟩:=H
 go_enter Try.func65,Try.ntmps65
 go_wp2
 go_ret2
 exact ⟨yq,yd⟩
mutual
def coder_Put.j0 : Nat→Int→Int→Int→List Int→Option (Int × Int × List Int × Int)
 | 0,_,_,_,_=>none
 | k+1,x10,ay,aI,az=>coder_Put.l0 k x10 ay aI az
def coder_Put.l0 : Nat→Int→Int→Int→List Int→Option (Int × Int × List Int × Int)
 | 0,_,_,_,_=>none
 | k+1,x10,ay,aI,az=>if x10 < 16777216 then (if az.length < 140737488355328 then (coder_Put.l0 k ((x10 * 256) % 4294967296) (Go.bits .and .u64 (IntKind.u64.wrap (ay * 256)) 4294967295) aI (az ++ [(ay / 16777216) % 256])) else (none)) else (some (ay,x10,az,0))
end
def coder_Put.f (k : Nat) (aA : Int) (aC : Int) (ax : List Int) (a1 : Int) (a2 : Int) (a3 : Int) : Option (Int × Int × List Int × Int):=(coder_own.f aA aC ax).bind fun ao=>((coder_fair.f a1 a2 a3).bind fun b6=>(if b6=true then (if (ao.2.2.length : Int) ≥ 3996 then (some (ao.1,ao.2.1,ao.2.2,3)) else ((coder_part.f ao.2.1 a1 a2 a3).bind fun aJ=>(if (IntKind.u64.wrap (ao.1+aJ.2)) > 4294967295 then ((coder_carry.f k ao.2.2).bind fun aW=>(coder_Put.j0 k aJ.1 (Go.bits .and .u64 (IntKind.u64.wrap (ao.1+aJ.2)) 4294967295) ao.2.1 aW)) else (coder_Put.j0 k aJ.1 (IntKind.u64.wrap (ao.1+aJ.2)) ao.2.1 ao.2.2)))) else (some (ao.1,ao.2.1,ao.2.2,1))))
theorem coder_Put.mono_l : ∀ k,(∀ y0 y1 y2 y3,LeO (coder_Put.j0 k y0 y1 y2 y3) (coder_Put.j0 (k+1) y0 y1 y2 y3))∧(∀ y0 y1 y2 y3,LeO (coder_Put.l0 k y0 y1 y2 y3) (coder_Put.l0 (k+1) y0 y1 y2 y3))
 | 0=>⟨fun _ _ _ _ r h=>by simp [coder_Put.j0] at h,fun _ _ _ _ r h=>by simp [coder_Put.l0] at h⟩
 | k+1=>by
  obtain ⟨ih0,ih1⟩:=coder_Put.mono_l k
  refine ⟨?_, ?_⟩
  ·
   intro y0 y1 y2 y3
   unfold coder_Put.j0
   repeat' with_reducible first|apply ih0|apply ih1|apply coder_carry.mono|apply yLr|apply yLn|apply yLi|apply yLb|intro _
  intro y0 y1 y2 y3
  unfold coder_Put.l0
  repeat' with_reducible first|apply ih0|apply ih1|apply coder_carry.mono|apply yLr|apply yLn|apply yLi|apply yLb|intro _
theorem coder_Put.mono : ∀ a0 a1 a2 a3 a4 a5 k,LeO (coder_Put.f k a0 a1 a2 a3 a4 a5) (coder_Put.f (k+1) a0 a1 a2 a3 a4 a5):=by
 intro a0 a1 a2 a3 a4 a5 k
 obtain ⟨ih0,ih1⟩:=coder_Put.mono_l k
 unfold coder_Put.f
 repeat' with_reducible first|apply ih0|apply ih1|apply coder_carry.mono|apply yLr|apply yLn|apply yLi|apply yLb|intro _
set_option maxHeartbeats 8000000 in
set_option maxRecDepth 100000 in
theorem coder_Put.calls (k : Nat) (aA : Int) (aC : Int) (aK : Option Addr) (aM : Nat) (ax : List Int) (a1 : Int) (a2 : Int) (a3 : Int) (r1 : Int) (r2 : Int) (r3 : List Int) (r4 : Int) (w : World) (hr0_2 : Kd.C (Kd.int .u8) w aK ax.length ax) (hc0_2 : ax.length≤aM) (h : coder_Put.f k aA aC ax a1 a2 a3=some (r1,r2,r3,r4)) :
  Calls Try.prog 26 #[.agg #[.int .u64 aA, .int .u32 aC, .slice aK ax.length aM], .int .i64 a1, .int .i64 a2, .int .i64 a3] w fun e w' => ∃ v2_ : Value,e=.returned (.tuple #[.agg #[.int .u64 r1, .int .u32 r2,v2_], .int .i64 r4])∧Kd.R (Kd.int .u8) 5 w' w.heap.size (fun _=>True) v2_ r3∧Below w.heap.size w w' := by
 have hu54:=Try.underlying54;have aT:=zm hr0_2;have aU:=zm hc0_2;clear hr0_2 hc0_2;have HB:=zm (Below.refl w.heap.size w);have H:=h
 unfold coder_Put.f at H
 clear h
 obtain ⟨⟨av,ap,aj⟩,A5,H⟩:=ybi H
 try dsimp only at H
 obtain ⟨b6,A6,H⟩:=ybi H
 by_cases c7 : b6=true
 ·
  subst c7
  rw [if_pos rfl] at H
  by_cases c8 : (aj.length : Int) ≥ 3996
  ·
   rw [if_pos c8] at H
   have ca:=yDl c8
   have cb : decide (3996≤aj.length)=true:=decide_eq_true (by omega)
   clear c8
   simp only [Option.some.injEq,Prod.mk.injEq] at H
   obtain ⟨rfl,rfl,rfl,rfl⟩:=H
   go_enter Try.func26,Try.ntmps26
   go_wp2_with (first|((with_reducible refine gate_dst (N:=4) rfl ?_);refine ybx 4 #[.int .u64 aA, .int .u32 aC, .slice aK ax.length aM] 54 ?_;intro ak hg w9 hbox hb;have aa:=zm (hbox);have bX:=ygw hg;have bY:=ygw hg;replace HB:=ybs hb;clear hb hbox hg)|((with_reducible refine gate_dst (N:=8) rfl ?_);refine ybx 8 #[.int .u64 0, .int .u32 0, .slice none 0 0] 54 ?_;intro aw hg w10 hbox hb;have ac:=zm (hbox);have bZ:=ygw hg;have b4:=ygw hg;replace HB:=ybs hb;have ag:=ynl aa hg;have ah:=yng aa hg;replace aa:=ybb aa hb;clear hb hbox hg;have:=ag.out;have:=ah.out;obtain ⟨aX,aY,aZ,a7,a8,a9⟩:=yc3 aa)|((with_reducible refine gate_callee (f:=63) rfl ?_);refine ygl 13 Try.func63 #[.agg #[.int .u64 aA, .int .u32 aC, .slice aK ax.length aM]] ?_;(with_reducible refine (coder_own.calls aA aC _ _ ax av ap aj _ ?aD aU.out A5.out).mono ?_);(case aD=>exact ycb aT);rintro e w13 ⟨ce,rfl,ho0,hb⟩;refine ⟨_,rfl, ?_⟩;have ae:=zm (Kd.R_lower ho0 (zE yhb));replace aa:=ybb aa hb;replace ac:=ybb ac hb;replace HB:=ybs hb;(try clear hb);(try clear ho0);obtain ⟨ba,bb,bc,bd,bf,bg⟩:=yc3 aa;obtain ⟨bh,bi,ck⟩:=Kd.R_slice ae.out;subst ck)|((with_reducible refine gate_store (t:=54) (p:=4) rfl ?_);refine store_event (t:=54) (p:=4) (v := ?vo_w16) (w1:=(((w13.setCell ⟨ak,0,none⟩ (.int .u64 av)).setCell ⟨ak,1,none⟩ (.int .u32 ap)).setCell ⟨ak,2,none⟩ (.slice bh aj.length bi))) ?hg ?ho ?hn ?hr ?_;(case ho=>rfl);(case hg=>rfl);(case hn=>rfl);(case hr=>first|(go_simp;done)|(go_simp;rfl));intro w16 hw;replace ae : Aside0 (Kd.R (Kd.int .u8) 5 w16 w.heap.size (fun _=>True) (.slice bh aj.length bi) aj):=⟨(by rw [hw];exact (yR1 ae aa))⟩;replace aa : Aside0 (w16.heap[ak]? = some (.cells #[.int .u64 av, .int .u32 ap, .slice bh aj.length bi] 54 (0,0))):=⟨(by rw [hw];exact (ykp aa))⟩;replace ac : Aside0 (w16.heap[aw]? = some (.cells #[.int .u64 0, .int .u32 0, .slice none 0 0] 54 (0,0))):=⟨(by rw [hw];exact (yk ac))⟩;replace HB : Aside0 (Below w.heap.size w w16):=⟨(by rw [hw];exact yhb)⟩;clear hw)|((with_reducible refine gate_callee (f:=64) rfl ?_);refine ygl 17 Try.func64 #[.int .i64 a1, .int .i64 a2, .int .i64 a3] ?_;(with_reducible refine (coder_fair.calls a1 a2 a3 true _ A6.out).mono ?_);rintro e w' ⟨rfl,⟨nd,rfl⟩⟩;refine ⟨_,rfl, ?_⟩;(try (rw [drewN_self w16];generalize hq_ : World.drewN w16 _=w16;replace ae:=yRq hq_ ae;replace aa:=ykq hq_ aa;replace ac:=ykq hq_ ac;replace HB:=ysq hq_;clear hq_));obtain ⟨bj,bk,bl,bm,bn,bo⟩:=yc3 aa;obtain ⟨bp,bq,br,bs,bu,bv⟩:=yc3 ac))
   refine bodyPost_ret (results_ct rfl _ _ aw 54 #[.int .u64 av, .int .u32 ap, .slice bh aj.length bi] (0,0) _ rfl (ykp ac) Try.underlying54 rfl (by kernel_rfl)) rfl ?_
   exact ⟨_,ye,yR1 ae ac,yhb⟩
  rw [if_neg c8] at H
  have ca:=yGl c8
  have cb : decide (3996≤aj.length)=false:=decide_eq_false (by omega)
  clear c8
  obtain ⟨⟨b7,aQ⟩,A19,H⟩:=ybi H
  try dsimp only at H
  have b8:=zm H;clear H
  go_enter Try.func26,Try.ntmps26
  go_upto_if 41 with (first|((with_reducible refine gate_dst (N:=4) rfl ?_);refine ybx 4 #[.int .u64 aA, .int .u32 aC, .slice aK ax.length aM] 54 ?_;intro ak hg w21 hbox hb;have aa:=zm (hbox);have bX:=ygw hg;have bY:=ygw hg;replace HB:=ybs hb;clear hb hbox hg)|((with_reducible refine gate_dst (N:=8) rfl ?_);refine ybx 8 #[.int .u64 0, .int .u32 0, .slice none 0 0] 54 ?_;intro aw hg w22 hbox hb;have ac:=zm (hbox);have bZ:=ygw hg;have b4:=ygw hg;replace HB:=ybs hb;have ag:=ynl aa hg;have ah:=yng aa hg;replace aa:=ybb aa hb;clear hb hbox hg;have:=ag.out;have:=ah.out;obtain ⟨bw,bx,bz,bA,bB,bC⟩:=yc3 aa)|((with_reducible refine gate_callee (f:=63) rfl ?_);refine ygl 13 Try.func63 #[.agg #[.int .u64 aA, .int .u32 aC, .slice aK ax.length aM]] ?_;(with_reducible refine (coder_own.calls aA aC _ _ ax av ap aj _ ?aD aU.out A5.out).mono ?_);(case aD=>exact ycb aT);rintro e w25 ⟨ce,rfl,ho0,hb⟩;refine ⟨_,rfl, ?_⟩;have ae:=zm (Kd.R_lower ho0 (zE yhb));replace aa:=ybb aa hb;replace ac:=ybb ac hb;replace HB:=ybs hb;(try clear hb);(try clear ho0);obtain ⟨bD,bE,bF,bG,bH,bI⟩:=yc3 aa;obtain ⟨aG,aH,cl⟩:=Kd.R_slice ae.out;subst cl)|((with_reducible refine gate_store (t:=54) (p:=4) rfl ?_);refine store_event (t:=54) (p:=4) (v := ?vo_w28) (w1:=(((w25.setCell ⟨ak,0,none⟩ (.int .u64 av)).setCell ⟨ak,1,none⟩ (.int .u32 ap)).setCell ⟨ak,2,none⟩ (.slice aG aj.length aH))) ?hg ?ho ?hn ?hr ?_;(case ho=>rfl);(case hg=>rfl);(case hn=>rfl);(case hr=>first|(go_simp;done)|(go_simp;rfl));intro w28 hw;replace ae : Aside0 (Kd.R (Kd.int .u8) 5 w28 w.heap.size (fun _=>True) (.slice aG aj.length aH) aj):=⟨(by rw [hw];exact (yR1 ae aa))⟩;replace aa : Aside0 (w28.heap[ak]? = some (.cells #[.int .u64 av, .int .u32 ap, .slice aG aj.length aH] 54 (0,0))):=⟨(by rw [hw];exact (ykp aa))⟩;replace ac : Aside0 (w28.heap[aw]? = some (.cells #[.int .u64 0, .int .u32 0, .slice none 0 0] 54 (0,0))):=⟨(by rw [hw];exact (yk ac))⟩;replace HB : Aside0 (Below w.heap.size w w28):=⟨(by rw [hw];exact yhb)⟩;clear hw)|((with_reducible refine gate_callee (f:=64) rfl ?_);refine ygl 17 Try.func64 #[.int .i64 a1, .int .i64 a2, .int .i64 a3] ?_;(with_reducible refine (coder_fair.calls a1 a2 a3 true _ A6.out).mono ?_);rintro e w' ⟨rfl,⟨nd,rfl⟩⟩;refine ⟨_,rfl, ?_⟩;(try (rw [drewN_self w28];generalize hq_ : World.drewN w28 _=w28;replace ae:=yRq hq_ ae;replace aa:=ykq hq_ aa;replace ac:=ykq hq_ ac;replace HB:=ysq hq_;clear hq_));obtain ⟨bJ,bK,bL,bM,bN,bO⟩:=yc3 aa)|((with_reducible refine gate_callee (f:=65) rfl ?_);refine ygl 31 Try.func65 #[.int .u32 ap, .int .i64 a1, .int .i64 a2, .int .i64 a3] ?_;(with_reducible refine (coder_part.calls ap a1 a2 a3 b7 aQ _ A19.out).mono ?_);rintro e w' ⟨rfl,⟨nd,rfl⟩⟩;refine ⟨_,rfl, ?_⟩;(try (rw [drewN_self w28];generalize hq_ : World.drewN w28 _=w28;replace ae:=yRq hq_ ae;replace aa:=ykq hq_ aa;replace ac:=ykq hq_ ac;replace HB:=ysq hq_;clear hq_));obtain ⟨bP,bQ,bR,bS,bT,bU⟩:=yc3 aa))
  (try simp only [Act.put,List.setIfInBounds_toArray,List.set_cons_zero,List.set_cons_succ])
  go_cut [] (fun wc => ∃ (kq : Nat) (aq : Int) (au : List Int) (al : Value),Aside0 (coder_Put.j0 kq b7 aq ap au=some (r1,r2,r3,r4))∧Aside0 (kq≤k)∧Aside0 (Kd.R (Kd.int .u8) 5 wc w.heap.size (fun _=>True) al au)∧Aside0 (wc.heap[ak]? = some (.cells #[.int .u64 aq, .int .u32 ap,al] 54 (0,0)))∧Aside0 (wc.heap[aw]? = some (.cells #[.int .u64 0, .int .u32 0,(.slice none 0 0)] 54 (0,0)))∧Aside0 (Below w.heap.size w wc))
  case first =>
   have H:=b8.out;clear b8
   by_cases c31 : (IntKind.u64.wrap (av+aQ)) > 4294967295
   ·
    rw [if_pos c31] at H
    have aN:=yDs c31
    clear c31
    (first|rw [aN]|(simp only [i64_w,i32_w];rw [aN])|skip)
    obtain ⟨aW,A32,H⟩:=ybi H
    have H' := zm H
    clear H
    have:=ag.out
    have:=ah.out
    obtain ⟨_,_,_,_,_,_⟩:=yc3 aa
    go_wp2_with (first|((with_reducible refine gate_store (t:=51) (p:=45) rfl ?_);refine store_event (t:=51) (p:=45) (v := ?vo_w35) (w1:=((w28.setCell ⟨ak,0,none⟩ (.int .u64 (IntKind.u64.wrap (av+aQ)))).setCell ⟨ak,0,none⟩ (.int .u64 (Go.bits .and .u64 (IntKind.u64.wrap (av+aQ)) 4294967295)))) ?hg ?ho ?hn ?hr ?_;(case ho=>rfl);(case hg=>rfl);(case hn=>rfl);(case hr=>first|(go_simp;done)|(go_simp;rfl));intro w35 hw;replace ae : Aside0 (Kd.R (Kd.int .u8) 5 w35 w.heap.size (fun _=>True) (.slice aG aj.length aH) aj):=⟨(by rw [hw];exact (yR1 ae aa))⟩;replace aa : Aside0 (w35.heap[ak]? = some (.cells #[.int .u64 (Go.bits .and .u64 (IntKind.u64.wrap (av+aQ)) 4294967295), .int .u32 ap, .slice aG aj.length aH] 54 (0,0))):=⟨(by rw [hw];exact (ykp aa))⟩;replace ac : Aside0 (w35.heap[aw]? = some (.cells #[.int .u64 0, .int .u32 0, .slice none 0 0] 54 (0,0))):=⟨(by rw [hw];exact (yk ac))⟩;replace HB : Aside0 (Below w.heap.size w w35):=⟨(by rw [hw];exact yhb)⟩;clear hw;obtain ⟨_,_,_,_,_,_⟩:=yc3 aa)|((with_reducible refine gate_callee (f:=66) rfl ?_);refine ygl 48 Try.func66 #[.slice aG aj.length aH] ?_;(with_reducible refine (coder_carry.calls k (fun k_=>some k_=(.slice aG aj.length aH : Value).ownBlock) (.slice aG aj.length aH) aj aW w _ ?aD ?cf A32.out).mono ?_);(case aD=>exact yhb);(case cf=>exact Kd.R_tight rfl ae.out);rintro e w37 ⟨rfl,hy0,hb,hkp⟩;refine ⟨_,rfl, ?_⟩;replace aa:=zm (blk_kept (yk aa) hkp (fun hs_=>(fun e_=>(zu ae.out aa.out (by decide)) e_) hs_));replace ac:=zm (blk_kept (yk ac) hkp (fun hs_=>(fun e_=>(zu ae.out ac.out (by decide)) e_) hs_));replace ae:=zm (Kd.R_reok rfl hy0 (fun k_ e_=>ae.out.1 k_ e_));replace HB:=zm (hb);(try clear hb);(try clear hkp);(try clear hy0)))
    go_meet
    case rel=>exact ⟨_,(Go.bits .and .u64 (IntKind.u64.wrap (av+aQ)) 4294967295),(aW),(.slice aG aj.length aH),H',⟨yo⟩,⟨yr ae⟩,⟨yk aa⟩,⟨yk ac⟩,⟨yhb⟩⟩
   rw [if_neg c31] at H
   have aN:=yGs c31
   clear c31
   (first|rw [aN]|(simp only [i64_w,i32_w];rw [aN])|skip)
   have H' := zm H
   clear H
   go_wp2
   go_meet
   case rel=>exact ⟨_,(IntKind.u64.wrap (av+aQ)),(aj),(.slice aG aj.length aH),H',⟨yo⟩,⟨yR1 ae aa⟩,⟨ykp aa⟩,⟨yk ac⟩,⟨yhb⟩⟩
  case rest =>
   clear b8
   try clear ca
   try clear cb
   try clear aX
   try clear aY
   try clear aZ
   try clear ba
   try clear bb
   try clear bc
   try clear bj
   try clear bk
   try clear bl
   try clear bp
   try clear bq
   try clear br
   try clear bw
   try clear bx
   try clear bz
   try clear bD
   try clear bE
   try clear bF
   try clear bJ
   try clear bK
   try clear bL
   try clear bP
   try clear bQ
   try clear bR
   try clear a7
   try clear a8
   try clear a9
   try clear bd
   try clear bf
   try clear bg
   try clear bm
   try clear bn
   try clear bo
   try clear bs
   try clear bu
   try clear bv
   try clear bA
   try clear bB
   try clear bC
   try clear bG
   try clear bH
   try clear bI
   try clear bM
   try clear bN
   try clear bO
   try clear bS
   try clear bT
   try clear bU
   obtain ⟨kq,aq,au,al,HA,cg,ai,aa,ac,HB⟩:=hcut
   obtain ⟨ch,rfl⟩:=ysu kq (fun h=>by subst h;exact absurd HA.out (by simp [coder_Put.j0]))
   have H:=HA.out;clear HA
   simp only [coder_Put.j0] at H
   have H' := zm H
   clear H
   go_wp2
   go_loopg [10] ch (fun kq v10 w' => ∃ (aE : Int) (af : Int) (am : List Int) (al : Value),v10=.int .u32 aE∧Aside0 (coder_Put.l0 kq aE af ap am=some (r1,r2,r3,r4))∧Aside0 (kq≤ch)∧Aside0 (Kd.R (Kd.int .u8) 5 w' w.heap.size (fun _=>True) al am)∧Aside0 (w'.heap[ak]? = some (.cells #[.int .u64 af, .int .u32 ap,al] 54 (0,0)))∧Aside0 (w'.heap[aw]? = some (.cells #[.int .u64 0, .int .u32 0,(.slice none 0 0)] 54 (0,0)))∧Aside0 (Below w.heap.size w w'))
   case atStart=>exact ⟨(b7),(aq),(au),(al),yq,H',⟨Nat.le_refl _⟩,⟨yr ai⟩,⟨yk aa⟩,⟨yk ac⟩,⟨yhb⟩⟩
   case round =>
    clear H'
    obtain ⟨aE,af,am,al,rfl,HA,HK2,ai,aa,ac,HB⟩:=hrel
    obtain ⟨k2,rfl⟩:=ysu gk (fun h=>by subst h;exact absurd HA.out (by simp [coder_Put.l0]))
    have H:=HA.out;clear HA
    simp only [coder_Put.l0] at H
    by_cases c38 : aE < 16777216
    ·
     rw [if_pos c38] at H
     have ci:=yD c38
     clear c38
     obtain ⟨c39,H⟩:=yif H
     have LMc39:=zm c39;clear c39
     obtain ⟨b9,aV⟩ : ∃ y_ : List Int,y_=(am ++ [(af / 16777216) % 256]):=⟨_,rfl⟩
     replace H : (coder_Put.l0 k2 ((aE * 256) % 4294967296) (Go.bits .and .u64 (IntKind.u64.wrap (af * 256)) 4294967295) ap b9)=some (r1,r2,r3,r4):=yrw aV H
     have cj:=zm aV;clear aV
     have H' := zm H
     clear H
     have:=ag.out
     have:=ah.out
     obtain ⟨_,_,_,_,_,_⟩:=yc3 aa
     go_wp2_with (first|((with_reducible refine gate_builtin (b:=.append) (xs := #[.tmp 52, .tmp 57]) rfl ?_);at_builtin;refine Kd.R_append (Kd.int .u8) (w0:=w) w.heap.size rfl (.tmp 52) (.tmp 57) 28 5 (.int .u8 0) 1 rfl Try.underlying28 info5 rfl (by decide) (by omega) al am ((af / 16777216) % 256) [.int .u8 ((af / 16777216) % 256)] (fun _=>True) (fun _=>False) rfl rfl ?aP (fun _ hk=>hk.elim) ?aF ?aO ?aB ?aS ?aL ?_;(case aP=>exact rfl);(case aB=>exact yhb);(case aF=>exact (fun _ _=>trivial));(case aO=>exact (yr ai));(case aS=>exact (zE yhb));(case aL=>have:=LMc39.out;omega);intro cu w42 ho hb hg hat;rw [← cj.out] at ho;replace aa:=zm (blk_grown (yk aa) hg (zu ai.out aa.out (by decide)));replace ac:=zm (blk_grown (yk ac) hg (zu ai.out ac.out (by decide)));replace HB:=zm (hb);have b5:=zm (ho);clear ai;clear ho hb hg hat;obtain ⟨cm,cn,co⟩:=Kd.R_slice b5.out;subst co;obtain ⟨_,_,_,_,_,_⟩:=yc3 aa))
     go_roundg k2
     case measure=>exact yom2 cg HK2
     case rel=>exact ⟨((aE * 256) % 4294967296),(Go.bits .and .u64 (IntKind.u64.wrap (af * 256)) 4294967295),(b9),(.slice cm b9.length cn),yq,H',⟨yom2 cg HK2⟩,⟨yR1 b5 aa⟩,⟨ykp aa⟩,⟨yk ac⟩,⟨yhb⟩⟩
    rw [if_neg c38] at H
    have ci:=yG c38
    clear c38
    simp only [Option.some.injEq,Prod.mk.injEq] at H
    obtain ⟨rfl,rfl,rfl,rfl⟩:=H
    have:=ag.out
    have:=ah.out
    obtain ⟨_,_,_,_,_,_⟩:=yc3 aa
    obtain ⟨_,_,_,_,_,_⟩:=yc3 ac
    obtain ⟨cp,cq,cr⟩:=Kd.R_slice ai.out
    subst cr
    go_wp2
    refine bodyPost_ret (results_ct rfl _ _ aw 54 #[.int .u64 af, .int .u32 aE, .slice cp am.length cq] (0,0) _ rfl (ykp ac) Try.underlying54 rfl (by kernel_rfl)) rfl ?_
    exact ⟨_,ye,yR2 ai aa ac,yhb⟩
 replace c7:=Bool.eq_false_iff.mpr c7
 subst c7
 rw [ynf] at H
 simp only [Option.some.injEq,Prod.mk.injEq] at H
 obtain ⟨rfl,rfl,rfl,rfl⟩:=H
 go_enter Try.func26,Try.ntmps26
 go_wp2_with (first|((with_reducible refine gate_dst (N:=4) rfl ?_);refine ybx 4 #[.int .u64 aA, .int .u32 aC, .slice aK ax.length aM] 54 ?_;intro ak hg w49 hbox hb;have aa:=zm (hbox);have bX:=ygw hg;have bY:=ygw hg;replace HB:=ybs hb;clear hb hbox hg)|((with_reducible refine gate_dst (N:=8) rfl ?_);refine ybx 8 #[.int .u64 0, .int .u32 0, .slice none 0 0] 54 ?_;intro aw hg w50 hbox hb;have ac:=zm (hbox);have bZ:=ygw hg;have b4:=ygw hg;replace HB:=ybs hb;have ag:=ynl aa hg;have ah:=yng aa hg;replace aa:=ybb aa hb;clear hb hbox hg;have:=ag.out;have:=ah.out;obtain ⟨_,_,_,_,_,_⟩:=yc3 aa)|((with_reducible refine gate_callee (f:=63) rfl ?_);refine ygl 13 Try.func63 #[.agg #[.int .u64 aA, .int .u32 aC, .slice aK ax.length aM]] ?_;(with_reducible refine (coder_own.calls aA aC _ _ ax av ap aj _ ?aD aU.out A5.out).mono ?_);(case aD=>exact ycb aT);rintro e w53 ⟨ce,rfl,ho0,hb⟩;refine ⟨_,rfl, ?_⟩;have ae:=zm (Kd.R_lower ho0 (zE yhb));replace aa:=ybb aa hb;replace ac:=ybb ac hb;replace HB:=ybs hb;(try clear hb);(try clear ho0);obtain ⟨_,_,_,_,_,_⟩:=yc3 aa;obtain ⟨bV,bW,ct⟩:=Kd.R_slice ae.out;subst ct)|((with_reducible refine gate_store (t:=54) (p:=4) rfl ?_);refine store_event (t:=54) (p:=4) (v := ?vo_w56) (w1:=(((w53.setCell ⟨ak,0,none⟩ (.int .u64 av)).setCell ⟨ak,1,none⟩ (.int .u32 ap)).setCell ⟨ak,2,none⟩ (.slice bV aj.length bW))) ?hg ?ho ?hn ?hr ?_;(case ho=>rfl);(case hg=>rfl);(case hn=>rfl);(case hr=>first|(go_simp;done)|(go_simp;rfl));intro w56 hw;replace ae : Aside0 (Kd.R (Kd.int .u8) 5 w56 w.heap.size (fun _=>True) (.slice bV aj.length bW) aj):=⟨(by rw [hw];exact (yR1 ae aa))⟩;replace aa : Aside0 (w56.heap[ak]? = some (.cells #[.int .u64 av, .int .u32 ap, .slice bV aj.length bW] 54 (0,0))):=⟨(by rw [hw];exact (ykp aa))⟩;replace ac : Aside0 (w56.heap[aw]? = some (.cells #[.int .u64 0, .int .u32 0, .slice none 0 0] 54 (0,0))):=⟨(by rw [hw];exact (yk ac))⟩;replace HB : Aside0 (Below w.heap.size w w56):=⟨(by rw [hw];exact yhb)⟩;clear hw)|((with_reducible refine gate_callee (f:=64) rfl ?_);refine ygl 17 Try.func64 #[.int .i64 a1, .int .i64 a2, .int .i64 a3] ?_;(with_reducible refine (coder_fair.calls a1 a2 a3 false _ A6.out).mono ?_);rintro e w' ⟨rfl,⟨nd,rfl⟩⟩;refine ⟨_,rfl, ?_⟩;(try (rw [drewN_self w56];generalize hq_ : World.drewN w56 _=w56;replace ae:=yRq hq_ ae;replace aa:=ykq hq_ aa;replace ac:=ykq hq_ ac;replace HB:=ysq hq_;clear hq_));obtain ⟨_,_,_,_,_,_⟩:=yc3 aa;obtain ⟨_,_,_,_,_,_⟩:=yc3 ac))
 refine bodyPost_ret (results_ct rfl _ _ aw 54 #[.int .u64 av, .int .u32 ap, .slice bV aj.length bW] (0,0) _ rfl (ykp ac) Try.underlying54 rfl (by kernel_rfl)) rfl ?_
 exact ⟨_,ye,yR1 ae ac,yhb⟩
def coder_halves.f (a0 : Int) : Option (Int × Int):=if a0≤65536 then (some (wrap64 (a0),1)) else (some (wrap64 ((wrap64 (IntKind.u64.wrap (Int.tdiv (IntKind.u64.wrap (a0 - 1)) 65536)))+1),65536))
set_option maxHeartbeats 8000000 in
set_option maxRecDepth 100000 in
theorem coder_halves.calls (a0 : Int) (r1 : Int) (r2 : Int) (w : World) (h : coder_halves.f a0=some (r1,r2)) :
  Calls Try.prog 76 #[.int .u64 a0] w fun e w' => e=.returned (.tuple #[.int .i64 r1, .int .i64 r2])∧Drawn0 w w' := by
 have H:=h
 unfold coder_halves.f at H
 clear h
 by_cases c2 : a0≤65536
 ·
  rw [if_pos c2] at H
  have aa:=yD c2
  clear c2
  simp only [Option.some.injEq,Prod.mk.injEq] at H
  obtain ⟨rfl,rfl⟩:=H
  go_enter Try.func76,Try.ntmps76
  go_wp2
  go_ret2
  exact ⟨yq,yd⟩
 rw [if_neg c2] at H
 have aa:=yG c2
 clear c2
 simp only [Option.some.injEq,Prod.mk.injEq] at H
 obtain ⟨rfl,rfl⟩:=H
 go_enter Try.func76,Try.ntmps76
 go_wp2
 go_ret2
 exact ⟨yq,yd⟩
mutual
def coder_PutNum.j0 : Nat→Int→Int→Bool→Int→Int→List Int→Option (Int × Int × List Int × Int)
 | 0,_,_,_,_,_,_=>none
 | k+1,x1,x2,x26,av,aw,ax=>if x26=true then (some (av,aw,ax,1)) else ((coder_halves.f x2).bind fun aC=>(if aC.2=0 then (none) else ((coder_Put.f k av aw ax (wrap64 (Int.tdiv (wrap64 (x1)) aC.2)) (wrap64 ((wrap64 (Int.tdiv (wrap64 (x1)) aC.2))+1)) aC.1).bind fun aD=>(if aD.2.2.2=0 then (coder_PutNum.j1 k aC.2 (Int.tmod (wrap64 (x1)) aC.2) aD.2.2.2 (decide (aC.2 > 1)) av aw ax aD.1 aD.2.1 aD.2.2.1) else (coder_PutNum.j1 k aC.2 (Int.tmod (wrap64 (x1)) aC.2) aD.2.2.2 false av aw ax aD.1 aD.2.1 aD.2.2.1)))))
def coder_PutNum.j1 : Nat→Int→Int→Int→Bool→Int→Int→List Int→Int→Int→List Int→Option (Int × Int × List Int × Int)
 | 0,_,_,_,_,_,_,_,_,_,_=>none
 | k+1,x9,x11,x13,x55,av,aw,ax,bC,bD,bE=>if x55=true then ((coder_Put.f k bC bD bE x11 (wrap64 (x11+1)) x9).bind fun bn=>(if bn.2.2.2=0 then (some (bn.1,bn.2.1,bn.2.2.1,0)) else (some (av,aw,ax,bn.2.2.2)))) else (if x13=0 then (some (bC,bD,bE,0)) else (some (av,aw,ax,x13)))
end
def coder_PutNum.f (k : Nat) (aQ : Int) (aT : Int) (aH : List Int) (a1 : Int) (a2 : Int) : Option (Int × Int × List Int × Int):=(coder_own.f aQ aT aH).bind fun aE=>(if a2 < 1 then (coder_PutNum.j0 k a1 a2 true aE.1 aE.2.1 aE.2.2) else (if a2 > 4294967296 then (coder_PutNum.j0 k a1 a2 true aE.1 aE.2.1 aE.2.2) else (coder_PutNum.j0 k a1 a2 (decide (a1 ≥ a2)) aE.1 aE.2.1 aE.2.2)))
theorem coder_PutNum.mono_l : ∀ k,(∀ y0 y1 y2 y3 y4 y5,LeO (coder_PutNum.j0 k y0 y1 y2 y3 y4 y5) (coder_PutNum.j0 (k+1) y0 y1 y2 y3 y4 y5))∧(∀ y0 y1 y2 y3 y4 y5 y6 y7 y8 y9,LeO (coder_PutNum.j1 k y0 y1 y2 y3 y4 y5 y6 y7 y8 y9) (coder_PutNum.j1 (k+1) y0 y1 y2 y3 y4 y5 y6 y7 y8 y9))
 | 0=>⟨fun _ _ _ _ _ _ r h=>by simp [coder_PutNum.j0] at h,fun _ _ _ _ _ _ _ _ _ _ r h=>by simp [coder_PutNum.j1] at h⟩
 | k+1=>by
  obtain ⟨ih0,ih1⟩:=coder_PutNum.mono_l k
  refine ⟨?_, ?_⟩
  ·
   intro y0 y1 y2 y3 y4 y5
   unfold coder_PutNum.j0
   repeat' with_reducible first|apply ih0|apply ih1|apply coder_Put.mono|apply yLr|apply yLn|apply yLi|apply yLb|intro _
  intro y0 y1 y2 y3 y4 y5 y6 y7 y8 y9
  unfold coder_PutNum.j1
  repeat' with_reducible first|apply ih0|apply ih1|apply coder_Put.mono|apply yLr|apply yLn|apply yLi|apply yLb|intro _
theorem coder_PutNum.mono : ∀ a0 a1 a2 a3 a4 k,LeO (coder_PutNum.f k a0 a1 a2 a3 a4) (coder_PutNum.f (k+1) a0 a1 a2 a3 a4):=by
 intro a0 a1 a2 a3 a4 k
 obtain ⟨ih0,ih1⟩:=coder_PutNum.mono_l k
 unfold coder_PutNum.f
 repeat' with_reducible first|apply ih0|apply ih1|apply coder_Put.mono|apply yLr|apply yLn|apply yLi|apply yLb|intro _
set_option maxHeartbeats 8000000 in
set_option maxRecDepth 100000 in
theorem coder_PutNum.calls (k : Nat) (aQ : Int) (aT : Int) (bM : Option Addr) (bN : Nat) (aH : List Int) (a1 : Int) (a2 : Int) (r1 : Int) (r2 : Int) (r3 : List Int) (r4 : Int) (w : World) (hr0_2 : Kd.C (Kd.int .u8) w bM aH.length aH) (hc0_2 : aH.length≤bN) (h : coder_PutNum.f k aQ aT aH a1 a2=some (r1,r2,r3,r4)) :
  Calls Try.prog 34 #[.agg #[.int .u64 aQ, .int .u32 aT, .slice bM aH.length bN], .int .u64 a1, .int .u64 a2] w fun e w' => ∃ v2_ : Value,e=.returned (.tuple #[.agg #[.int .u64 r1, .int .u32 r2,v2_], .int .i64 r4])∧Kd.R (Kd.int .u8) 5 w' w.heap.size (fun _=>True) v2_ r3∧Below w.heap.size w w' := by
 have hu54:=Try.underlying54;have bO:=zm hr0_2;have bP:=zm hc0_2;clear hr0_2 hc0_2;have HB:=zm (Below.refl w.heap.size w);have H:=h
 unfold coder_PutNum.f at H
 clear h
 obtain ⟨⟨aI,aJ,az⟩,A4,H⟩:=ybi H
 try dsimp only at H
 have HC5:=zm H;clear H
 go_enter Try.func34,Try.ntmps34
 go_upto_region 2 with (first|((with_reducible refine gate_dst (N:=3) rfl ?_);refine ybx 3 #[.int .u64 aQ, .int .u32 aT, .slice bM aH.length bN] 54 ?_;intro bF hg w6 hbox hb;have ac:=zm (hbox);have ce:=ygw hg;have cf:=ygw hg;replace HB:=ybs hb;clear hb hbox hg)|((with_reducible refine gate_dst (N:=6) rfl ?_);refine ybx 6 #[.int .u64 0, .int .u32 0, .slice none 0 0] 54 ?_;intro aG hg w7 hbox hb;have af:=zm (hbox);have cg:=ygw hg;have ch:=ygw hg;replace HB:=ybs hb;have ag:=ynl ac hg;have ah:=yng ac hg;replace ac:=ybb ac hb;clear hb hbox hg;have:=ag.out;have:=ah.out;obtain ⟨bq,br,bs,bu,bv,bw⟩:=yc3 ac)|(go_at_call 63;(with_reducible refine (coder_own.calls aQ aT _ _ aH aI aJ az _ ?aj bP.out A4.out).mono ?_);(case aj=>exact ycb bO);rintro e w10 ⟨cn,rfl,ho0,hb⟩;have aK:=zm (Kd.R_lower ho0 (zE yhb));replace ac:=ybb ac hb;replace af:=ybb af hb;replace HB:=ybs hb;(try clear hb);(try clear ho0);obtain ⟨aW,aX,aY,aZ,a7,a8⟩:=yc3 ac;obtain ⟨aU,aV,bQ⟩:=Kd.R_slice aK.out;subst bQ))
 repeat (go_quiet (first|((with_reducible refine gate_dst (N:=3) rfl ?_);refine ybx 3 #[.int .u64 aQ, .int .u32 aT, .slice bM aH.length bN] 54 ?_;intro bF hg w6 hbox hb;have ac:=zm (hbox);have ce:=ygw hg;have cf:=ygw hg;replace HB:=ybs hb;clear hb hbox hg)|((with_reducible refine gate_dst (N:=6) rfl ?_);refine ybx 6 #[.int .u64 0, .int .u32 0, .slice none 0 0] 54 ?_;intro aG hg w7 hbox hb;have af:=zm (hbox);have cg:=ygw hg;have ch:=ygw hg;replace HB:=ybs hb;have ag:=ynl ac hg;have ah:=yng ac hg;replace ac:=ybb ac hb;clear hb hbox hg;have:=ag.out;have:=ah.out;obtain ⟨bq,br,bs,bu,bv,bw⟩:=yc3 ac)|(go_at_call 63;(with_reducible refine (coder_own.calls aQ aT _ _ aH aI aJ az _ ?aj bP.out A4.out).mono ?_);(case aj=>exact ycb bO);rintro e w10 ⟨cn,rfl,ho0,hb⟩;have aK:=zm (Kd.R_lower ho0 (zE yhb));replace ac:=ybb ac hb;replace af:=ybb af hb;replace HB:=ybs hb;(try clear hb);(try clear ho0);obtain ⟨aW,aX,aY,aZ,a7,a8⟩:=yc3 ac;obtain ⟨aU,aV,bQ⟩:=Kd.R_slice aK.out;subst bQ));go_upto_region 2 with (first|((with_reducible refine gate_dst (N:=3) rfl ?_);refine ybx 3 #[.int .u64 aQ, .int .u32 aT, .slice bM aH.length bN] 54 ?_;intro bF hg w6 hbox hb;have ac:=zm (hbox);have ce:=ygw hg;have cf:=ygw hg;replace HB:=ybs hb;clear hb hbox hg)|((with_reducible refine gate_dst (N:=6) rfl ?_);refine ybx 6 #[.int .u64 0, .int .u32 0, .slice none 0 0] 54 ?_;intro aG hg w7 hbox hb;have af:=zm (hbox);have cg:=ygw hg;have ch:=ygw hg;replace HB:=ybs hb;have ag:=ynl ac hg;have ah:=yng ac hg;replace ac:=ybb ac hb;clear hb hbox hg;have:=ag.out;have:=ah.out;obtain ⟨bq,br,bs,bu,bv,bw⟩:=yc3 ac)|(go_at_call 63;(with_reducible refine (coder_own.calls aQ aT _ _ aH aI aJ az _ ?aj bP.out A4.out).mono ?_);(case aj=>exact ycb bO);rintro e w10 ⟨cn,rfl,ho0,hb⟩;have aK:=zm (Kd.R_lower ho0 (zE yhb));replace ac:=ybb ac hb;replace af:=ybb af hb;replace HB:=ybs hb;(try clear hb);(try clear ho0);obtain ⟨aW,aX,aY,aZ,a7,a8⟩:=yc3 ac;obtain ⟨aU,aV,bQ⟩:=Kd.R_slice aK.out;subst bQ)))
 (try simp only [Act.put,List.setIfInBounds_toArray,List.set_cons_zero,List.set_cons_succ])
 go_cut [26] (fun v26 wc => ∃ (kq : Nat) (bG : Bool),v26=.bool bG∧Aside0 (coder_PutNum.j0 kq a1 a2 bG aI aJ az=some (r1,r2,r3,r4))∧Aside0 (kq≤k)∧Aside0 (Kd.R (Kd.int .u8) 5 wc w.heap.size (fun _=>True) (.slice aU az.length aV) az)∧Aside0 (wc.heap[bF]? = some (.cells #[.int .u64 aI, .int .u32 aJ,(.slice aU az.length aV)] 54 (0,0)))∧Aside0 (wc.heap[aG]? = some (.cells #[.int .u64 0, .int .u32 0,(.slice none 0 0)] 54 (0,0)))∧Aside0 (Below w.heap.size w wc))
 case first =>
  have H:=HC5.out;clear HC5
  by_cases c13 : a2 < 1
  ·
   rw [if_pos c13] at H
   have bo:=yD c13
   clear c13
   (first|rw [bo]|(simp only [i64_w,i32_w];rw [bo])|skip)
   have H' := zm H
   clear H
   go_wp2
   repeat (go_quiet (fail);try go_wp2)
   go_meet
   case rel=>exact ⟨_,(true),yq,H',⟨yo⟩,⟨yR1 aK ac⟩,⟨ykp ac⟩,⟨yk af⟩,⟨yhb⟩⟩
  rw [if_neg c13] at H
  have bo:=yG c13
  clear c13
  (first|rw [bo]|(simp only [i64_w,i32_w];rw [bo])|skip)
  by_cases c14 : a2 > 4294967296
  ·
   rw [if_pos c14] at H
   have co:=yDs c14
   clear c14
   have H' := zm H
   clear H
   go_wp2
   repeat (go_quiet (fail);try go_wp2)
   go_meet
   case rel=>exact ⟨_,(true),yq,H',⟨yo⟩,⟨yR1 aK ac⟩,⟨ykp ac⟩,⟨yk af⟩,⟨yhb⟩⟩
  rw [if_neg c14] at H
  have co:=yGs c14
  clear c14
  have H' := zm H
  clear H
  go_wp2
  repeat (go_quiet (fail);try go_wp2)
  go_meet
  case rel=>exact ⟨_,(decide (a1 ≥ a2)),yq,H',⟨yo⟩,⟨yR1 aK ac⟩,⟨ykp ac⟩,⟨yk af⟩,⟨yhb⟩⟩
 case rest =>
  clear HC5
  try clear aW
  try clear aX
  try clear aY
  try clear bq
  try clear br
  try clear bs
  try clear aZ
  try clear a7
  try clear a8
  try clear bu
  try clear bv
  try clear bw
  obtain ⟨kq,bG,rfl,HA,HJ4,aa,ac,af,HB⟩:=hcut
  obtain ⟨kj4,rfl⟩:=ysu kq (fun h=>by subst h;exact absurd HA.out (by simp [coder_PutNum.j0]))
  have H:=HA.out;clear HA
  simp only [coder_PutNum.j0] at H
  by_cases c15 : bG=true
  ·
   subst c15
   rw [if_pos rfl] at H
   simp only [Option.some.injEq,Prod.mk.injEq] at H
   obtain ⟨rfl,rfl,rfl,rfl⟩:=H
   have:=ag.out
   have:=ah.out
   obtain ⟨bW,bX,bY,bZ,b4,b5⟩:=yc3 ac
   obtain ⟨b6,b7,b8,b9,ca,cb⟩:=yc3 af
   go_wp2
   repeat (go_quiet (fail);try go_wp2)
   refine bodyPost_ret (results_ct rfl _ _ aG 54 #[.int .u64 aI, .int .u32 aJ, .slice aU az.length aV] (0,0) _ rfl (ykp af) Try.underlying54 rfl (by kernel_rfl)) rfl ?_
   exact ⟨_,ye,yR1 aa af,yhb⟩
  replace c15:=Bool.eq_false_iff.mpr c15
  subst c15
  rw [ynf] at H
  obtain ⟨⟨bH,ap⟩,A19,H⟩:=ybi H
  try dsimp only at H
  obtain ⟨c20,H⟩:=yie H
  obtain ⟨cp,cq⟩:=yF c20
  obtain ⟨⟨aM,aN,aA,bI⟩,A21,H⟩:=ybi H
  try dsimp only at H
  have ck:=zm H;clear H
  go_upto_region 7 with (first|(go_at_call 76;(with_reducible refine (coder_halves.calls a2 bH ap _ A19.out).mono ?_);rintro e w' ⟨rfl,⟨nd,rfl⟩⟩;(try exact yww);have:=ag.out;have:=ah.out;obtain ⟨a9,ba,bb,bc,bd,bf⟩:=yc3 ac)|(go_at_call 26;(with_reducible refine (coder_Put.calls kj4 aI aJ _ _ az (wrap64 (Int.tdiv (wrap64 (a1)) ap)) (wrap64 ((wrap64 (Int.tdiv (wrap64 (a1)) ap))+1)) bH aM aN aA bI _ ?aj ?aq A21.out).mono ?_);(case aj=>exact yce (Kd.R_reads' aa.out).2.2);(case aq=>exact (Kd.R_reads' aa.out).2.1);rintro e w25 ⟨cr,rfl,ho0,hb⟩;have au:=zm (Kd.R_lower (Kd.R_new' ho0 (Kd.R_lt (yr aa))) (zE yhb));replace aa:=zm (Kd.R_elder' (yr aa) (Kd.R_base ho0) hb);replace ac:=ybb ac hb;replace af:=ybb af hb;replace HB:=ybs hb;(try clear hb);(try clear ho0))|((with_reducible refine gate_dst (N:=12) rfl ?_);refine ybx 12 #[.int .u64 0, .int .u32 0, .slice none 0 0] 54 ?_;intro bR hg w26 hbox hb;replace aa:=yRb aa hb;replace au:=yRb au hb;have ai:=zm (hbox);have ci:=ygw hg;have cj:=ygw hg;replace HB:=ybs hb;have ak:=ynl ac hg;have al:=yng ac hg;replace ac:=ybb ac hb;have am:=ynl af hg;have ao:=yng af hg;replace af:=ybb af hb;clear hb hbox hg;have:=al.out;have:=ak.out;have:=ao.out;have:=am.out;obtain ⟨bg,bh,bi,bj,bk,bl⟩:=yc3 ai;obtain ⟨bJ,bK,bS⟩:=Kd.R_slice au.out;subst bS))
  repeat (go_quiet (first|(go_at_call 76;(with_reducible refine (coder_halves.calls a2 bH ap _ A19.out).mono ?_);rintro e w' ⟨rfl,⟨nd,rfl⟩⟩;(try exact yww);have:=ag.out;have:=ah.out;obtain ⟨a9,ba,bb,bc,bd,bf⟩:=yc3 ac)|(go_at_call 26;(with_reducible refine (coder_Put.calls kj4 aI aJ _ _ az (wrap64 (Int.tdiv (wrap64 (a1)) ap)) (wrap64 ((wrap64 (Int.tdiv (wrap64 (a1)) ap))+1)) bH aM aN aA bI _ ?aj ?aq A21.out).mono ?_);(case aj=>exact yce (Kd.R_reads' aa.out).2.2);(case aq=>exact (Kd.R_reads' aa.out).2.1);rintro e w25 ⟨cr,rfl,ho0,hb⟩;have au:=zm (Kd.R_lower (Kd.R_new' ho0 (Kd.R_lt (yr aa))) (zE yhb));replace aa:=zm (Kd.R_elder' (yr aa) (Kd.R_base ho0) hb);replace ac:=ybb ac hb;replace af:=ybb af hb;replace HB:=ybs hb;(try clear hb);(try clear ho0))|((with_reducible refine gate_dst (N:=12) rfl ?_);refine ybx 12 #[.int .u64 0, .int .u32 0, .slice none 0 0] 54 ?_;intro bR hg w26 hbox hb;replace aa:=yRb aa hb;replace au:=yRb au hb;have ai:=zm (hbox);have ci:=ygw hg;have cj:=ygw hg;replace HB:=ybs hb;have ak:=ynl ac hg;have al:=yng ac hg;replace ac:=ybb ac hb;have am:=ynl af hg;have ao:=yng af hg;replace af:=ybb af hb;clear hb hbox hg;have:=al.out;have:=ak.out;have:=ao.out;have:=am.out;obtain ⟨bg,bh,bi,bj,bk,bl⟩:=yc3 ai;obtain ⟨bJ,bK,bS⟩:=Kd.R_slice au.out;subst bS));go_upto_region 7 with (first|(go_at_call 76;(with_reducible refine (coder_halves.calls a2 bH ap _ A19.out).mono ?_);rintro e w' ⟨rfl,⟨nd,rfl⟩⟩;(try exact yww);have:=ag.out;have:=ah.out;obtain ⟨a9,ba,bb,bc,bd,bf⟩:=yc3 ac)|(go_at_call 26;(with_reducible refine (coder_Put.calls kj4 aI aJ _ _ az (wrap64 (Int.tdiv (wrap64 (a1)) ap)) (wrap64 ((wrap64 (Int.tdiv (wrap64 (a1)) ap))+1)) bH aM aN aA bI _ ?aj ?aq A21.out).mono ?_);(case aj=>exact yce (Kd.R_reads' aa.out).2.2);(case aq=>exact (Kd.R_reads' aa.out).2.1);rintro e w25 ⟨cr,rfl,ho0,hb⟩;have au:=zm (Kd.R_lower (Kd.R_new' ho0 (Kd.R_lt (yr aa))) (zE yhb));replace aa:=zm (Kd.R_elder' (yr aa) (Kd.R_base ho0) hb);replace ac:=ybb ac hb;replace af:=ybb af hb;replace HB:=ybs hb;(try clear hb);(try clear ho0))|((with_reducible refine gate_dst (N:=12) rfl ?_);refine ybx 12 #[.int .u64 0, .int .u32 0, .slice none 0 0] 54 ?_;intro bR hg w26 hbox hb;replace aa:=yRb aa hb;replace au:=yRb au hb;have ai:=zm (hbox);have ci:=ygw hg;have cj:=ygw hg;replace HB:=ybs hb;have ak:=ynl ac hg;have al:=yng ac hg;replace ac:=ybb ac hb;have am:=ynl af hg;have ao:=yng af hg;replace af:=ybb af hb;clear hb hbox hg;have:=al.out;have:=ak.out;have:=ao.out;have:=am.out;obtain ⟨bg,bh,bi,bj,bk,bl⟩:=yc3 ai;obtain ⟨bJ,bK,bS⟩:=Kd.R_slice au.out;subst bS)))
  (try simp only [Act.put,List.setIfInBounds_toArray,List.set_cons_zero,List.set_cons_succ])
  go_cut [55] (fun v55 wc => ∃ (kq : Nat) (bm : Bool),v55=.bool bm∧Aside0 (coder_PutNum.j1 kq ap (Int.tmod (wrap64 (a1)) ap) bI bm aI aJ az aM aN aA=some (r1,r2,r3,r4))∧Aside0 (kq≤kj4)∧Aside0 (Kd.R (Kd.int .u8) 5 wc w.heap.size (fun k_=>some k_≠((.slice bJ aA.length bK) : Value).ownBlock) (.slice aU az.length aV) az)∧Aside0 (Kd.R (Kd.int .u8) 5 wc w.heap.size (fun k_=>some k_≠((.slice aU az.length aV) : Value).ownBlock) (.slice bJ aA.length bK) aA)∧Aside0 (wc.heap[bF]? = some (.cells #[.int .u64 aI, .int .u32 aJ,(.slice aU az.length aV)] 54 (0,0)))∧Aside0 (wc.heap[aG]? = some (.cells #[.int .u64 0, .int .u32 0,(.slice none 0 0)] 54 (0,0)))∧Aside0 (wc.heap[bR]? = some (.cells #[.int .u64 aM, .int .u32 aN,(.slice bJ aA.length bK)] 54 (0,0)))∧Aside0 (Below w.heap.size w wc))
  case first =>
   have H:=ck.out;clear ck
   by_cases c31 : bI=0
   ·
    rw [if_pos c31] at H
    obtain ⟨bp,ct⟩:=yE c31
    clear c31
    (first|rw [bp]|(simp only [i64_w,i32_w];rw [bp])|skip)
    have H' := zm H
    clear H
    go_wp2
    repeat (go_quiet (fail);try go_wp2)
    go_meet
    case rel=>exact ⟨_,(decide (ap > 1)),yq,H',⟨yom1 HJ4⟩,⟨yR1 aa ai⟩,⟨yR1 au ai⟩,⟨yk ac⟩,⟨yk af⟩,⟨ykp ai⟩,⟨yhb⟩⟩
   rw [if_neg c31] at H
   obtain ⟨bp,ct⟩:=yF c31
   (first|rw [bp]|(simp only [i64_w,i32_w];rw [bp])|skip)
   have H' := zm H
   clear H
   go_wp2
   repeat (go_quiet (fail);try go_wp2)
   go_meet
   case rel=>exact ⟨_,(false),yq,H',⟨yom1 HJ4⟩,⟨yR1 aa ai⟩,⟨yR1 au ai⟩,⟨yk ac⟩,⟨yk af⟩,⟨ykp ai⟩,⟨yhb⟩⟩
  case rest =>
   clear ck
   try clear c20
   try clear cp
   try clear cq
   try clear bW
   try clear bX
   try clear bY
   try clear b6
   try clear b7
   try clear b8
   try clear a9
   try clear ba
   try clear bb
   try clear bg
   try clear bh
   try clear bi
   try clear bZ
   try clear b4
   try clear b5
   try clear b9
   try clear ca
   try clear cb
   try clear bc
   try clear bd
   try clear bf
   try clear bj
   try clear bk
   try clear bl
   obtain ⟨kq,bm,rfl,HA,cA,aa,ae,ac,af,ai,HB⟩:=hcut
   obtain ⟨bL,rfl⟩:=ysu kq (fun h=>by subst h;exact absurd HA.out (by simp [coder_PutNum.j1]))
   have H:=HA.out;clear HA
   simp only [coder_PutNum.j1] at H
   by_cases c32 : bm=true
   ·
    subst c32
    rw [if_pos rfl] at H
    obtain ⟨⟨bx,bz,bA,bB⟩,A33,H⟩:=ybi H
    try dsimp only at H
    by_cases c34 : bB=0
    ·
     rw [if_pos c34] at H
     obtain ⟨cu,cv⟩:=yE c34
     clear c34
     simp only [Option.some.injEq,Prod.mk.injEq] at H
     obtain ⟨rfl,rfl,rfl,rfl⟩:=H
     have:=al.out
     have:=ak.out
     have:=ao.out
     have:=am.out
     obtain ⟨_,_,_,_,_,_⟩:=yc3 ai
     go_wp2_with (first|(go_at_call 26;(with_reducible refine (coder_Put.calls bL aM aN _ _ aA (Int.tmod (wrap64 (a1)) ap) (wrap64 ((Int.tmod (wrap64 (a1)) ap)+1)) ap bx bz bA bB _ ?aj ?aq A33.out).mono ?_);(case aj=>exact yce (Kd.R_reads' ae.out).2.2);(case aq=>exact (Kd.R_reads' ae.out).2.1);rintro e w38 ⟨bT,rfl,ho0,hb⟩;have ay:=zm (Kd.R_lower (Kd.R_new' (Kd.R_new' ho0 (Kd.R_lt (yr aa))) (Kd.R_lt (yr ae))) (zE yhb));replace aa:=zm (Kd.R_elder' (yr aa) (Kd.R_base ho0) hb);replace ae:=zm (Kd.R_elder' (yr ae) (Kd.R_base ho0) hb);replace ac:=ybb ac hb;replace af:=ybb af hb;replace ai:=ybb ai hb;replace HB:=ybs hb;(try clear hb);(try clear ho0);obtain ⟨_,_,_,_,_,_⟩:=yc3 ai;obtain ⟨cl,cm,bU⟩:=Kd.R_slice ay.out;subst bU;have:=ah.out;have:=ag.out;obtain ⟨_,_,_,_,_,_⟩:=yc3 af))
     repeat (go_quiet (first|(go_at_call 26;(with_reducible refine (coder_Put.calls bL aM aN _ _ aA (Int.tmod (wrap64 (a1)) ap) (wrap64 ((Int.tmod (wrap64 (a1)) ap)+1)) ap bx bz bA bB _ ?aj ?aq A33.out).mono ?_);(case aj=>exact yce (Kd.R_reads' ae.out).2.2);(case aq=>exact (Kd.R_reads' ae.out).2.1);rintro e w38 ⟨bT,rfl,ho0,hb⟩;have ay:=zm (Kd.R_lower (Kd.R_new' (Kd.R_new' ho0 (Kd.R_lt (yr aa))) (Kd.R_lt (yr ae))) (zE yhb));replace aa:=zm (Kd.R_elder' (yr aa) (Kd.R_base ho0) hb);replace ae:=zm (Kd.R_elder' (yr ae) (Kd.R_base ho0) hb);replace ac:=ybb ac hb;replace af:=ybb af hb;replace ai:=ybb ai hb;replace HB:=ybs hb;(try clear hb);(try clear ho0);obtain ⟨_,_,_,_,_,_⟩:=yc3 ai;obtain ⟨cl,cm,bU⟩:=Kd.R_slice ay.out;subst bU;have:=ah.out;have:=ag.out;obtain ⟨_,_,_,_,_,_⟩:=yc3 af));try go_wp2_with (first|(go_at_call 26;(with_reducible refine (coder_Put.calls bL aM aN _ _ aA (Int.tmod (wrap64 (a1)) ap) (wrap64 ((Int.tmod (wrap64 (a1)) ap)+1)) ap bx bz bA bB _ ?aj ?aq A33.out).mono ?_);(case aj=>exact yce (Kd.R_reads' ae.out).2.2);(case aq=>exact (Kd.R_reads' ae.out).2.1);rintro e w38 ⟨bT,rfl,ho0,hb⟩;have ay:=zm (Kd.R_lower (Kd.R_new' (Kd.R_new' ho0 (Kd.R_lt (yr aa))) (Kd.R_lt (yr ae))) (zE yhb));replace aa:=zm (Kd.R_elder' (yr aa) (Kd.R_base ho0) hb);replace ae:=zm (Kd.R_elder' (yr ae) (Kd.R_base ho0) hb);replace ac:=ybb ac hb;replace af:=ybb af hb;replace ai:=ybb ai hb;replace HB:=ybs hb;(try clear hb);(try clear ho0);obtain ⟨_,_,_,_,_,_⟩:=yc3 ai;obtain ⟨cl,cm,bU⟩:=Kd.R_slice ay.out;subst bU;have:=ah.out;have:=ag.out;obtain ⟨_,_,_,_,_,_⟩:=yc3 af)))
     refine bodyPost_ret (results_ct rfl _ _ aG 54 #[.int .u64 bx, .int .u32 bz, .slice cl bA.length cm] (0,0) _ rfl (ykp af) Try.underlying54 rfl (by kernel_rfl)) rfl ?_
     exact ⟨_,ye,yR2 ay ai af,yhb⟩
    rw [if_neg c34] at H
    obtain ⟨cu,cv⟩:=yF c34
    simp only [Option.some.injEq,Prod.mk.injEq] at H
    obtain ⟨rfl,rfl,rfl,rfl⟩:=H
    have:=al.out
    have:=ak.out
    have:=ao.out
    have:=am.out
    obtain ⟨_,_,_,_,_,_⟩:=yc3 ai
    go_wp2_with (first|(go_at_call 26;(with_reducible refine (coder_Put.calls bL aM aN _ _ aA (Int.tmod (wrap64 (a1)) ap) (wrap64 ((Int.tmod (wrap64 (a1)) ap)+1)) ap bx bz bA bB _ ?aj ?aq A33.out).mono ?_);(case aj=>exact yce (Kd.R_reads' ae.out).2.2);(case aq=>exact (Kd.R_reads' ae.out).2.1);rintro e w46 ⟨bT,rfl,ho0,hb⟩;have ay:=zm (Kd.R_lower (Kd.R_new' (Kd.R_new' ho0 (Kd.R_lt (yr aa))) (Kd.R_lt (yr ae))) (zE yhb));replace aa:=zm (Kd.R_elder' (yr aa) (Kd.R_base ho0) hb);replace ae:=zm (Kd.R_elder' (yr ae) (Kd.R_base ho0) hb);replace ac:=ybb ac hb;replace af:=ybb af hb;replace ai:=ybb ai hb;replace HB:=ybs hb;(try clear hb);(try clear ho0);obtain ⟨_,_,_,_,_,_⟩:=yc3 ai;obtain ⟨cw,cx,bV⟩:=Kd.R_slice ay.out;subst bV;have:=ag.out;have:=ah.out;obtain ⟨_,_,_,_,_,_⟩:=yc3 ac;obtain ⟨_,_,_,_,_,_⟩:=yc3 af))
    repeat (go_quiet (first|(go_at_call 26;(with_reducible refine (coder_Put.calls bL aM aN _ _ aA (Int.tmod (wrap64 (a1)) ap) (wrap64 ((Int.tmod (wrap64 (a1)) ap)+1)) ap bx bz bA bB _ ?aj ?aq A33.out).mono ?_);(case aj=>exact yce (Kd.R_reads' ae.out).2.2);(case aq=>exact (Kd.R_reads' ae.out).2.1);rintro e w46 ⟨bT,rfl,ho0,hb⟩;have ay:=zm (Kd.R_lower (Kd.R_new' (Kd.R_new' ho0 (Kd.R_lt (yr aa))) (Kd.R_lt (yr ae))) (zE yhb));replace aa:=zm (Kd.R_elder' (yr aa) (Kd.R_base ho0) hb);replace ae:=zm (Kd.R_elder' (yr ae) (Kd.R_base ho0) hb);replace ac:=ybb ac hb;replace af:=ybb af hb;replace ai:=ybb ai hb;replace HB:=ybs hb;(try clear hb);(try clear ho0);obtain ⟨_,_,_,_,_,_⟩:=yc3 ai;obtain ⟨cw,cx,bV⟩:=Kd.R_slice ay.out;subst bV;have:=ag.out;have:=ah.out;obtain ⟨_,_,_,_,_,_⟩:=yc3 ac;obtain ⟨_,_,_,_,_,_⟩:=yc3 af));try go_wp2_with (first|(go_at_call 26;(with_reducible refine (coder_Put.calls bL aM aN _ _ aA (Int.tmod (wrap64 (a1)) ap) (wrap64 ((Int.tmod (wrap64 (a1)) ap)+1)) ap bx bz bA bB _ ?aj ?aq A33.out).mono ?_);(case aj=>exact yce (Kd.R_reads' ae.out).2.2);(case aq=>exact (Kd.R_reads' ae.out).2.1);rintro e w46 ⟨bT,rfl,ho0,hb⟩;have ay:=zm (Kd.R_lower (Kd.R_new' (Kd.R_new' ho0 (Kd.R_lt (yr aa))) (Kd.R_lt (yr ae))) (zE yhb));replace aa:=zm (Kd.R_elder' (yr aa) (Kd.R_base ho0) hb);replace ae:=zm (Kd.R_elder' (yr ae) (Kd.R_base ho0) hb);replace ac:=ybb ac hb;replace af:=ybb af hb;replace ai:=ybb ai hb;replace HB:=ybs hb;(try clear hb);(try clear ho0);obtain ⟨_,_,_,_,_,_⟩:=yc3 ai;obtain ⟨cw,cx,bV⟩:=Kd.R_slice ay.out;subst bV;have:=ag.out;have:=ah.out;obtain ⟨_,_,_,_,_,_⟩:=yc3 ac;obtain ⟨_,_,_,_,_,_⟩:=yc3 af)))
    refine bodyPost_ret (results_ct rfl _ _ aG 54 #[.int .u64 aI, .int .u32 aJ, .slice aU az.length aV] (0,0) _ rfl (ykp af) Try.underlying54 rfl (by kernel_rfl)) rfl ?_
    exact ⟨_,ye,yR2 aa ai af,yhb⟩
   replace c32:=Bool.eq_false_iff.mpr c32
   subst c32
   rw [ynf] at H
   by_cases c52 : bI=0
   ·
    rw [if_pos c52] at H
    obtain ⟨cy,cz⟩:=yE c52
    clear c52
    simp only [Option.some.injEq,Prod.mk.injEq] at H
    obtain ⟨rfl,rfl,rfl,rfl⟩:=H
    have:=al.out
    have:=ak.out
    have:=ao.out
    have:=am.out
    obtain ⟨_,_,_,_,_,_⟩:=yc3 ai
    have:=ah.out
    have:=ag.out
    obtain ⟨_,_,_,_,_,_⟩:=yc3 af
    go_wp2
    repeat (go_quiet (fail);try go_wp2)
    refine bodyPost_ret (results_ct rfl _ _ aG 54 #[.int .u64 aM, .int .u32 aN, .slice bJ aA.length bK] (0,0) _ rfl (ykp af) Try.underlying54 rfl (by kernel_rfl)) rfl ?_
    exact ⟨_,ye,yR1 ae af,yhb⟩
   rw [if_neg c52] at H
   obtain ⟨cy,cz⟩:=yF c52
   simp only [Option.some.injEq,Prod.mk.injEq] at H
   obtain ⟨rfl,rfl,rfl,rfl⟩:=H
   have:=ag.out
   have:=ah.out
   have:=ak.out
   have:=al.out
   obtain ⟨_,_,_,_,_,_⟩:=yc3 ac
   have:=am.out
   have:=ao.out
   obtain ⟨_,_,_,_,_,_⟩:=yc3 af
   go_wp2
   repeat (go_quiet (fail);try go_wp2)
   refine bodyPost_ret (results_ct rfl _ _ aG 54 #[.int .u64 aI, .int .u32 aJ, .slice aU az.length aV] (0,0) _ rfl (ykp af) Try.underlying54 rfl (by kernel_rfl)) rfl ?_
   exact ⟨_,ye,yR1 aa af,yhb⟩
def comb_size.f (a0 : Int) : Option (Int):=if a0 < (-12) then (some 13) else (if a0 > 12 then (some 13) else (some (mx a0 (wrap64 (-a0)))))
set_option maxHeartbeats 8000000 in
set_option maxRecDepth 100000 in
theorem comb_size.calls (a0 : Int) (r : Int) (w : World) (h : comb_size.f a0=some r) :
  Calls Try.prog 75 #[.int .i64 a0] w fun e w' => e=.returned (.int .i64 r)∧Below w.heap.size w w' := by
 have HB:=zm (Below.refl w.heap.size w);have H:=h
 unfold comb_size.f at H
 clear h
 by_cases c2 : a0 < (-12)
 ·
  rw [if_pos c2] at H
  have ac:=yD c2
  clear c2
  obtain rfl:=Option.some.inj H
  go_enter Try.func75,Try.ntmps75
  go_wp2
  go_ret
  exact ⟨ye,yhb⟩
 rw [if_neg c2] at H
 have ac:=yG c2
 clear c2
 by_cases c3 : a0 > 12
 ·
  rw [if_pos c3] at H
  have ae:=yDs c3
  clear c3
  obtain rfl:=Option.some.inj H
  go_enter Try.func75,Try.ntmps75
  go_wp2
  go_ret
  exact ⟨ye,yhb⟩
 rw [if_neg c3] at H
 have ae:=yGs c3
 clear c3
 obtain ⟨ji4,aa⟩ : ∃ j_ : Int,(mx a0 (wrap64 (-a0)))=j_:=⟨_,rfl⟩
 (first|rw [aa] at H|simp only [aa] at H)
 have af : (if a0 < (wrap64 (-a0)) then (wrap64 (-a0)) else a0)=ji4:=aa
 obtain rfl:=Option.some.inj H
 go_enter Try.func75,Try.ntmps75
 go_wp2
 go_ret
 exact ⟨by first|rfl|(simp [errW_none,errW_some] <;> rfl)|(simp only [← aa];first|rfl|(simp [errW_none,errW_some] <;> rfl))|(simp [*,errW_none,errW_some] <;> rfl),yhb⟩
mutual
def comb_Index.j0 : Nat→List Int→Bool→Option (Int × Int)
 | 0,_,_=>none
 | k+1,x0,x21=>if x21=true then (some (0,1)) else (comb_Index.l0 k x0 0 x0 (x0.length : Int) 0)
def comb_Index.l0 : Nat→List Int→Int→List Int→Int→Int→Option (Int × Int)
 | 0,_,_,_,_,_=>none
 | k+1,x0,x4,x22,x23,x24=>if x24 < x23 then (if 0≤x24 then (if x24 < (x22.length : Int) then ((comb_size.f (rd x22 x24)).bind fun aw=>(comb_Index.l0 k x0 (wrap64 (x4+aw)) x22 x23 (wrap64 (x24+1)))) else (none)) else (none)) else (if x4 > 12 then (some (0,1)) else (comb_Index.l1 k x0 x4 0 x0 (x0.length : Int) 0))
def comb_Index.l1 : Nat→List Int→Int→Int→List Int→Int→Int→Option (Int × Int)
 | 0,_,_,_,_,_,_=>none
 | k+1,x0,x4,x8,x36,x37,x38=>if x38 < x37 then (if 0≤x38 then (if x38 < (x36.length : Int) then ((comb_size.f (rd x36 x38)).bind fun af=>(if af > 0 then ((comb_table.f (wrap64 ((wrap64 ((x0.length : Int) - x38)) - 1)) x4).bind fun aE=>(comb_Index.j3 k x0 x4 (IntKind.u64.wrap (x8+aE)) (rd x36 x38) (wrap64 ((wrap64 ((x0.length : Int) - x38)) - 1)) af x36 x37 x38)) else (comb_Index.j3 k x0 x4 x8 (rd x36 x38) (wrap64 ((wrap64 ((x0.length : Int) - x38)) - 1)) af x36 x37 x38))) else (none)) else (none)) else (some (x8,0))
def comb_Index.j3 : Nat→List Int→Int→Int→Int→Int→Int→List Int→Int→Int→Option (Int × Int)
 | 0,_,_,_,_,_,_,_,_,_=>none
 | k+1,x0,x4,x8,x10,x11,x12,x36,x37,x38=>comb_Index.l2 k x0 x4 x8 x10 x11 x12 1 x36 x37 x38
def comb_Index.l2 : Nat→List Int→Int→Int→Int→Int→Int→Int→List Int→Int→Int→Option (Int × Int)
 | 0,_,_,_,_,_,_,_,_,_,_=>none
 | k+1,x0,x4,x8,x10,x11,x12,x13,x36,x37,x38=>if x13 < x12 then ((comb_table.f x11 (wrap64 (x4 - x13))).bind fun aG=>(comb_Index.l2 k x0 x4 (IntKind.u64.wrap (x8+(IntKind.u64.wrap (2 * aG)))) x10 x11 x12 (wrap64 (x13+1)) x36 x37 x38)) else (if x10 < 0 then ((comb_table.f x11 (wrap64 (x4 - x12))).bind fun aH=>(comb_Index.l1 k x0 (wrap64 (x4 - x12)) (IntKind.u64.wrap (x8+aH)) x36 x37 (wrap64 (x38+1)))) else (comb_Index.l1 k x0 (wrap64 (x4 - x12)) x8 x36 x37 (wrap64 (x38+1))))
end
def comb_Index.f (k : Nat) (l0 : List Int) : Option (Int × Int):=if (l0.length : Int) < 1 then (comb_Index.j0 k l0 true) else (comb_Index.j0 k l0 (decide ((l0.length : Int) > 16)))
theorem comb_Index.mono_l : ∀ k,(∀ y0 y1,LeO (comb_Index.j0 k y0 y1) (comb_Index.j0 (k+1) y0 y1))∧(∀ y0 y1 y2 y3 y4,LeO (comb_Index.l0 k y0 y1 y2 y3 y4) (comb_Index.l0 (k+1) y0 y1 y2 y3 y4))∧(∀ y0 y1 y2 y3 y4 y5,LeO (comb_Index.l1 k y0 y1 y2 y3 y4 y5) (comb_Index.l1 (k+1) y0 y1 y2 y3 y4 y5))∧(∀ y0 y1 y2 y3 y4 y5 y6 y7 y8,LeO (comb_Index.j3 k y0 y1 y2 y3 y4 y5 y6 y7 y8) (comb_Index.j3 (k+1) y0 y1 y2 y3 y4 y5 y6 y7 y8))∧(∀ y0 y1 y2 y3 y4 y5 y6 y7 y8 y9,LeO (comb_Index.l2 k y0 y1 y2 y3 y4 y5 y6 y7 y8 y9) (comb_Index.l2 (k+1) y0 y1 y2 y3 y4 y5 y6 y7 y8 y9))
 | 0=>⟨fun _ _ r h=>by simp [comb_Index.j0] at h,fun _ _ _ _ _ r h=>by simp [comb_Index.l0] at h,fun _ _ _ _ _ _ r h=>by simp [comb_Index.l1] at h,fun _ _ _ _ _ _ _ _ _ r h=>by simp [comb_Index.j3] at h,fun _ _ _ _ _ _ _ _ _ _ r h=>by simp [comb_Index.l2] at h⟩
 | k+1=>by
  obtain ⟨ih0,ih1,ih2,ih3,ih4⟩:=comb_Index.mono_l k
  refine ⟨?_, ?_, ?_, ?_, ?_⟩
  ·
   intro y0 y1
   unfold comb_Index.j0
   repeat' with_reducible first|apply ih0|apply ih1|apply ih2|apply ih3|apply ih4|apply yLr|apply yLn|apply yLi|apply yLb|intro _
  ·
   intro y0 y1 y2 y3 y4
   unfold comb_Index.l0
   repeat' with_reducible first|apply ih0|apply ih1|apply ih2|apply ih3|apply ih4|apply yLr|apply yLn|apply yLi|apply yLb|intro _
  ·
   intro y0 y1 y2 y3 y4 y5
   unfold comb_Index.l1
   repeat' with_reducible first|apply ih0|apply ih1|apply ih2|apply ih3|apply ih4|apply yLr|apply yLn|apply yLi|apply yLb|intro _
  ·
   intro y0 y1 y2 y3 y4 y5 y6 y7 y8
   unfold comb_Index.j3
   repeat' with_reducible first|apply ih0|apply ih1|apply ih2|apply ih3|apply ih4|apply yLr|apply yLn|apply yLi|apply yLb|intro _
  intro y0 y1 y2 y3 y4 y5 y6 y7 y8 y9
  unfold comb_Index.l2
  repeat' with_reducible first|apply ih0|apply ih1|apply ih2|apply ih3|apply ih4|apply yLr|apply yLn|apply yLi|apply yLb|intro _
theorem comb_Index.mono : ∀ a0 k,LeO (comb_Index.f k a0) (comb_Index.f (k+1) a0):=by
 intro a0 k
 obtain ⟨ih0,ih1,ih2,ih3,ih4⟩:=comb_Index.mono_l k
 unfold comb_Index.f
 repeat' with_reducible first|apply ih0|apply ih1|apply ih2|apply ih3|apply ih4|apply yLr|apply yLn|apply yLi|apply yLb|intro _
set_option maxHeartbeats 8000000 in
set_option maxRecDepth 100000 in
theorem comb_Index.calls (k : Nat) (A0 : Option Addr) (c0 : Nat) (l0 : List Int) (r1 : Int) (r2 : Int) (w : World) (hr0 : Kd.C (Kd.int .i64) w A0 l0.length l0) (hc0 : l0.length≤c0) (h : comb_Index.f k l0=some (r1,r2)) :
  Calls Try.prog 33 #[.slice A0 l0.length c0] w fun e w' => e=.returned (.tuple #[.int .u64 r1, .int .i64 r2])∧Below w.heap.size w w' := by
 have HR0:=zm hr0;have HC0:=zm hc0;clear hr0 hc0;have HB:=zm (Below.refl w.heap.size w);have H:=h
 unfold comb_Index.f at H
 clear h;have HC2:=zm H;clear H
 go_enter Try.func33,Try.ntmps33
 go_upto_region 1 with (fail)
 go_cut [21] (fun v21 wc => ∃ (kq : Nat) (al : Bool),v21=.bool al∧Aside0 (comb_Index.j0 kq l0 al=some (r1,r2))∧Aside0 (kq≤k)∧Aside0 (Below w.heap.size w wc))
 case first =>
  have H:=HC2.out;clear HC2
  by_cases c3 : (l0.length : Int) < 1
  ·
   rw [if_pos c3] at H
   have aq:=yD c3
   have aU : decide (l0.length < 1)=true:=decide_eq_true (by omega)
   clear c3
   (first|rw [aq]|(simp only [i64_w,i32_w];rw [aq])|skip)
   have H' := zm H
   clear H
   go_wp2
   go_meet
   case rel=>exact ⟨_,(true),yq,H',⟨yo⟩,⟨yhb⟩⟩
  rw [if_neg c3] at H
  have aq:=yG c3
  have aU : decide (l0.length < 1)=false:=decide_eq_false (by omega)
  clear c3
  (first|rw [aq]|(simp only [i64_w,i32_w];rw [aq])|skip)
  have H' := zm H
  clear H
  go_wp2
  go_meet
  case rel=>exact ⟨_,(decide ((l0.length : Int) > 16)),yq,H',⟨yo⟩,⟨yhb⟩⟩
 case rest =>
  clear HC2
  obtain ⟨kq,al,rfl,HA,HJ1,HB⟩:=hcut
  obtain ⟨kj1,rfl⟩:=ysu kq (fun h=>by subst h;exact absurd HA.out (by simp [comb_Index.j0]))
  have H:=HA.out;clear HA
  simp only [comb_Index.j0] at H
  by_cases c4 : al=true
  ·
   subst c4
   rw [if_pos rfl] at H
   simp only [Option.some.injEq,Prod.mk.injEq] at H
   obtain ⟨rfl,rfl⟩:=H
   go_wp2
   go_ret2
   exact ⟨ye,yhb⟩
  replace c4:=Bool.eq_false_iff.mpr c4
  subst c4
  rw [ynf] at H
  have H' := zm H
  clear H
  go_wp2
  go_loopg [4,24] kj1 (fun kq v4 v24 w' => ∃ (aj : Int) (ac : Int),v4=.int .i64 aj∧v24=.int .i64 ac∧Aside0 (comb_Index.l0 kq l0 aj l0 (l0.length : Int) ac=some (r1,r2))∧Aside0 (kq≤kj1)∧Aside0 (Below w.heap.size w w'))
  case atStart=>exact ⟨(0),(0),yq,yq,H',⟨Nat.le_refl _⟩,⟨yhb⟩⟩
  case round =>
   clear H'
   obtain ⟨aj,ac,rfl,rfl,HA,HK2,HB⟩:=hrel
   obtain ⟨k2,rfl⟩:=ysu gk (fun h=>by subst h;exact absurd HA.out (by simp [comb_Index.l0]))
   have H:=HA.out;clear HA
   simp only [comb_Index.l0] at H
   by_cases c5 : ac < (l0.length : Int)
   ·
    rw [if_pos c5] at H
    have aJ:=yD c5
    clear c5
    obtain ⟨c6,H⟩:=yif H
    have aV : decide (0≤ac)=true:=decide_eq_true c6
    clear c6
    obtain ⟨c7,H⟩:=yif H
    have aW : decide (ac < (l0.length : Int))=true:=decide_eq_true c7
    clear c7
    obtain ⟨aw,A8,H⟩:=ybi H
    have H' := zm H
    clear H
    have ax : 0≤(ac : Int):=yt
    have ay : ac < (l0.length : Int):=yt
    obtain ⟨aZ,aX,ag⟩:=Kd.at_int HR0.out ac ax ay
    cases aX
    replace ag:=yhx HB ag
    replace ax:=eq_true ax
    replace ay:=eq_true ay
    go_wp2_with (first|((with_reducible refine gate_callee (f:=75) rfl ?_);refine ygl 30 Try.func75 #[.int .i64 (rd l0 ac)] ?_;(with_reducible refine (comb_size.calls (rd l0 ac) aw _ A8.out).mono ?_);rintro e w9 ⟨rfl,hb⟩;refine ⟨_,rfl, ?_⟩;replace HB:=ybs hb;(try clear hb)))
    go_roundg k2
    case measure=>exact yom2 HJ1 HK2
    case rel=>exact ⟨(wrap64 (aj+aw)),(wrap64 (ac+1)),yq,yq,H',⟨yom2 HJ1 HK2⟩,⟨yhb⟩⟩
   rw [if_neg c5] at H
   have aJ:=yG c5
   clear c5
   by_cases c10 : aj > 12
   ·
    rw [if_pos c10] at H
    have aC:=yDs c10
    clear c10
    simp only [Option.some.injEq,Prod.mk.injEq] at H
    obtain ⟨rfl,rfl⟩:=H
    go_wp2
    go_ret2
    exact ⟨ye,yhb⟩
   rw [if_neg c10] at H
   have aC:=yGs c10
   clear c10
   obtain ⟨a9,au⟩ : ∃ y_ : List Int,y_=(([0] : List Int)):=⟨_,rfl⟩
   replace H : (comb_Index.l1 k2 l0 aj 0 l0 (l0.length : Int) 0)=some (r1,r2):=yrw au H
   have a7:=zm au;clear au
   have H' := zm H
   clear H
   obtain ⟨Z,hz,HZs⟩:=comb_table.zsize
   go_wp2_with (first|((with_reducible refine gate_callee (f:=72) rfl ?_);refine goesL_ (some 35) rfl rfl Try.func72 (by kernel_rfl) rfl #[] rfl (by first|rfl|simp) ?_;(with_reducible refine (comb_table.made _).mono ?_);rintro e w5 ⟨rfl,hb5⟩;refine ⟨_,rfl, ?_⟩;have hst:=run_storeCells_new (P:=Try.prog) w5 118 Z (ABl (comb_table.T 16)) comb_table.size16 HZs.out (ABl_one _);have n1_:=zm (ze (zJ yhb hb5) (.cells (ABl (comb_table.T 16)) 118));clear HB;have HB:=n1_;clear n1_;have hbn:=zm (blk_new w5 (.cells (ABl (comb_table.T 16)) 118))))
   have hb0:=HB.out
   obtain ⟨W0,hW0⟩ : ∃ W0,W0=w5.alloc (.cells (ABl (comb_table.T 16)) 118):=⟨_,rfl⟩
   rw [← hW0] at hb0 hbn
   rw [← hW0]
   clear hW0 HB hst hz HZs
   generalize w5.heap.size=B at hbn ⊢
   replace HR0:=zm (Kd.C_below HR0.out hb0)
   have HB:=zm (Below.refl W0.heap.size W0)
   go_loopg [4,8,38] k2 (fun kq v4 v8 v38 w' => ∃ (ak : Int) (av : Int) (aa : Int),v4=.int .i64 ak∧v8=.int .u64 av∧v38=.int .i64 aa∧Aside0 (comb_Index.l1 kq l0 ak av l0 (l0.length : Int) aa=some (r1,r2))∧Aside0 (kq≤k2)∧Aside0 (Below W0.heap.size W0 w'))
   case atStart=>exact ⟨(aj),(0),(0),yq,yq,yq,H',⟨Nat.le_refl _⟩,⟨yhb⟩⟩
   case round =>
    clear H'
    try clear aJ
    try clear aV
    try clear aW
    try clear aC
    try clear ag
    try clear ax
    try clear ay
    obtain ⟨ak,av,aa,rfl,rfl,rfl,HA,HK3,HB⟩:=hrel
    obtain ⟨k3,rfl⟩:=ysu gk (fun h=>by subst h;exact absurd HA.out (by simp [comb_Index.l1]))
    have H:=HA.out;clear HA
    simp only [comb_Index.l1] at H
    by_cases c13 : aa < (l0.length : Int)
    ·
     rw [if_pos c13] at H
     have aD:=yD c13
     clear c13
     obtain ⟨c14,H⟩:=yif H
     have aK : decide (0≤aa)=true:=decide_eq_true c14
     clear c14
     obtain ⟨c15,H⟩:=yif H
     have aM : decide (aa < (l0.length : Int))=true:=decide_eq_true c15
     clear c15
     obtain ⟨af,A16,H⟩:=ybi H
     have aI:=zm H;clear H
     have az : 0≤(aa : Int):=yt
     have aA : aa < (l0.length : Int):=yt
     obtain ⟨a8,aY,ae⟩:=Kd.at_int HR0.out aa az aA
     cases aY
     replace ae:=(HB.out.cell (zb W0 _ ae)).trans ae
     replace az:=eq_true az
     replace aA:=eq_true aA
     go_upto_if 51 with (first|((with_reducible refine gate_callee (f:=75) rfl ?_);refine ygl 49 Try.func75 #[.int .i64 (rd l0 aa)] ?_;(with_reducible refine (comb_size.calls (rd l0 aa) af _ A16.out).mono ?_);rintro e w18 ⟨rfl,hb⟩;refine ⟨_,rfl, ?_⟩;replace HB:=ybs hb;(try clear hb)))
     (try simp only [Act.put,List.setIfInBounds_toArray,List.set_cons_zero,List.set_cons_succ])
     go_cut [8] (fun v8 wc => ∃ (kq : Nat) (am : Int),v8=.int .u64 am∧Aside0 (comb_Index.j3 kq l0 ak am (rd l0 aa) (wrap64 ((wrap64 ((l0.length : Int) - aa)) - 1)) af l0 (l0.length : Int) aa=some (r1,r2))∧Aside0 (kq≤k3)∧Aside0 (Below W0.heap.size W0 wc))
     case first =>
      have H:=aI.out;clear aI
      by_cases c19 : af > 0
      ·
       rw [if_pos c19] at H
       have ah:=yDs c19
       clear c19
       (first|rw [ah]|(simp only [i64_w,i32_w];rw [ah])|skip)
       obtain ⟨aE,A20,H⟩:=ybi H
       have H' := zm H
       clear H
       obtain ⟨ia0,ib0,ic0,id0⟩:=comb_table.inn A20.out
       have hcl0:=(HB.out.cell (zb W0 _ (comb_table.look hbn.out A20.out))).trans (comb_table.look hbn.out A20.out)
       go_wp2
       go_meet
       case rel=>exact ⟨_,(IntKind.u64.wrap (av+aE)),yq,H',⟨yom3 HJ1 HK2 HK3⟩,⟨yhb⟩⟩
      rw [if_neg c19] at H
      have ah:=yGs c19
      clear c19
      (first|rw [ah]|(simp only [i64_w,i32_w];rw [ah])|skip)
      have H' := zm H
      clear H
      go_wp2
      go_meet
      case rel=>exact ⟨_,(av),yq,H',⟨yom3 HJ1 HK2 HK3⟩,⟨yhb⟩⟩
     case rest =>
      clear aI
      try clear aD
      try clear aK
      try clear aM
      try clear ae
      try clear az
      try clear aA
      obtain ⟨kq,am,rfl,HA,ao,HB⟩:=hcut
      obtain ⟨aN,rfl⟩:=ysu kq (fun h=>by subst h;exact absurd HA.out (by simp [comb_Index.j3]))
      have H:=HA.out;clear HA
      simp only [comb_Index.j3] at H
      have H' := zm H
      clear H
      go_wp2
      go_loopg [8,13] aN (fun kq v8 v13 w' => ∃ (ap : Int) (ai : Int),v8=.int .u64 ap∧v13=.int .i64 ai∧Aside0 (comb_Index.l2 kq l0 ak ap (rd l0 aa) (wrap64 ((wrap64 ((l0.length : Int) - aa)) - 1)) af ai l0 (l0.length : Int) aa=some (r1,r2))∧Aside0 (kq≤aN)∧Aside0 (Below W0.heap.size W0 w'))
      case atStart=>exact ⟨(am),(1),yq,yq,H',⟨Nat.le_refl _⟩,⟨yhb⟩⟩
      case round =>
       clear H'
       obtain ⟨ap,ai,rfl,rfl,HA,HK5,HB⟩:=hrel
       obtain ⟨k5,rfl⟩:=ysu gk (fun h=>by subst h;exact absurd HA.out (by simp [comb_Index.l2]))
       have H:=HA.out;clear HA
       simp only [comb_Index.l2] at H
       by_cases c21 : ai < af
       ·
        rw [if_pos c21] at H
        have aQ:=yD c21
        clear c21
        obtain ⟨aG,A22,H⟩:=ybi H
        have H' := zm H
        clear H
        obtain ⟨ia1,ib1,ic1,id1⟩:=comb_table.inn A22.out
        have hcl1:=(HB.out.cell (zb W0 _ (comb_table.look hbn.out A22.out))).trans (comb_table.look hbn.out A22.out)
        go_wp2
        go_roundg k5
        case measure=>exact yom5 HJ1 HK2 HK3 ao HK5
        case rel=>exact ⟨(IntKind.u64.wrap (ap+(IntKind.u64.wrap (2 * aG)))),(wrap64 (ai+1)),yq,yq,H',⟨yom5 HJ1 HK2 HK3 ao HK5⟩,⟨yhb⟩⟩
       rw [if_neg c21] at H
       have aQ:=yG c21
       clear c21
       by_cases c23 : (rd l0 aa) < 0
       ·
        rw [if_pos c23] at H
        have aT:=yD c23
        clear c23
        obtain ⟨aH,A24,H⟩:=ybi H
        have H' := zm H
        clear H
        obtain ⟨ia2,ib2,ic2,id2⟩:=comb_table.inn A24.out
        have hcl2:=(HB.out.cell (zb W0 _ (comb_table.look hbn.out A24.out))).trans (comb_table.look hbn.out A24.out)
        go_wp2
        go_roundg k5
        case measure=>exact yom5 HJ1 HK2 HK3 ao HK5
        case rel=>exact ⟨(wrap64 (ak - af)),(IntKind.u64.wrap (ap+aH)),(wrap64 (aa+1)),yq,yq,yq,H',⟨yom5 HJ1 HK2 HK3 ao HK5⟩,⟨yhb⟩⟩
       rw [if_neg c23] at H
       have aT:=yG c23
       clear c23
       have H' := zm H
       clear H
       go_wp2
       go_roundg k5
       case measure=>exact yom5 HJ1 HK2 HK3 ao HK5
       case rel=>exact ⟨(wrap64 (ak - af)),(ap),(wrap64 (aa+1)),yq,yq,yq,H',⟨yom5 HJ1 HK2 HK3 ao HK5⟩,⟨yhb⟩⟩
    rw [if_neg c13] at H
    have aD:=yG c13
    clear c13
    simp only [Option.some.injEq,Prod.mk.injEq] at H
    obtain ⟨rfl,rfl⟩:=H
    go_wp2
    go_ret2
    exact ⟨ye,zJ hb0 yhb⟩
mutual
def cpack_pulses.j0 : Nat→List Int→Int→Bool→Option (Bool)
 | 0,_,_,_=>none
 | k+1,x0,x2,x23=>if x23=true then (some false) else (cpack_pulses.l0 k x2 x0 (x0.length : Int) 0)
def cpack_pulses.l0 : Nat→Int→List Int→Int→Int→Option (Bool)
 | 0,_,_,_,_=>none
 | k+1,x2,x24,x25,x26=>if x26 < x25 then (if 0≤x26 then (if x26 < (x24.length : Int) then (cpack_pulses.l0 k (wrap64 (x2 - (mx (rd x24 x26) (wrap64 (-(rd x24 x26)))))) x24 x25 (wrap64 (x26+1))) else (none)) else (none)) else (some (x2 == 0))
end
def cpack_pulses.f (k : Nat) (l0 : List Int) (a1 : Int) (a2 : Int) : Option (Bool):=(comb_Index.f k l0).bind fun ak=>(if ak.2=0 then (cpack_pulses.j0 k l0 a2 ((l0.length : Int) != a1)) else (cpack_pulses.j0 k l0 a2 true))
theorem cpack_pulses.mono_l : ∀ k,(∀ y0 y1 y2,LeO (cpack_pulses.j0 k y0 y1 y2) (cpack_pulses.j0 (k+1) y0 y1 y2))∧(∀ y0 y1 y2 y3,LeO (cpack_pulses.l0 k y0 y1 y2 y3) (cpack_pulses.l0 (k+1) y0 y1 y2 y3))
 | 0=>⟨fun _ _ _ r h=>by simp [cpack_pulses.j0] at h,fun _ _ _ _ r h=>by simp [cpack_pulses.l0] at h⟩
 | k+1=>by
  obtain ⟨ih0,ih1⟩:=cpack_pulses.mono_l k
  refine ⟨?_, ?_⟩
  ·
   intro y0 y1 y2
   unfold cpack_pulses.j0
   repeat' with_reducible first|apply ih0|apply ih1|apply comb_Index.mono|apply yLr|apply yLn|apply yLi|apply yLb|intro _
  intro y0 y1 y2 y3
  unfold cpack_pulses.l0
  repeat' with_reducible first|apply ih0|apply ih1|apply comb_Index.mono|apply yLr|apply yLn|apply yLi|apply yLb|intro _
theorem cpack_pulses.mono : ∀ a0 a1 a2 k,LeO (cpack_pulses.f k a0 a1 a2) (cpack_pulses.f (k+1) a0 a1 a2):=by
 intro a0 a1 a2 k
 obtain ⟨ih0,ih1⟩:=cpack_pulses.mono_l k
 unfold cpack_pulses.f
 repeat' with_reducible first|apply ih0|apply ih1|apply comb_Index.mono|apply yLr|apply yLn|apply yLi|apply yLb|intro _
set_option maxHeartbeats 8000000 in
set_option maxRecDepth 100000 in
theorem cpack_pulses.calls (k : Nat) (A0 : Option Addr) (c0 : Nat) (l0 : List Int) (a1 : Int) (a2 : Int) (r : Bool) (w : World) (hr0 : Kd.C (Kd.int .i64) w A0 l0.length l0) (hc0 : l0.length≤c0) (h : cpack_pulses.f k l0 a1 a2=some r) :
  Calls Try.prog 44 #[.slice A0 l0.length c0, .int .i64 a1, .int .i64 a2] w fun e w' => e=.returned (.bool r)∧Below w.heap.size w w' := by
 have HR0:=zm hr0;have HC0:=zm hc0;clear hr0 hc0;have HB:=zm (Below.refl w.heap.size w);have H:=h
 unfold cpack_pulses.f at H
 clear h
 obtain ⟨⟨ap,al⟩,A4,H⟩:=ybi H
 try dsimp only at H
 have HC5:=zm H;clear H
 go_enter Try.func44,Try.ntmps44
 go_upto_region 2 with (first|((with_reducible refine gate_callee (f:=33) rfl ?_);refine ygl 13 Try.func33 #[.slice A0 l0.length c0] ?_;(with_reducible refine (comb_Index.calls k _ _ l0 ap al _ ?am HC0.out A4.out).mono ?_);(case am=>exact yce HR0.out);rintro e w6 ⟨rfl,hb⟩;refine ⟨_,rfl, ?_⟩;replace HB:=ybs hb;(try clear hb)))
 (try simp only [Act.put,List.setIfInBounds_toArray,List.set_cons_zero,List.set_cons_succ])
 go_cut [23] (fun v23 wc => ∃ (kq : Nat) (ac : Bool),v23=.bool ac∧Aside0 (cpack_pulses.j0 kq l0 a2 ac=some r)∧Aside0 (kq≤k)∧Aside0 (Below w.heap.size w wc))
 case first =>
  have H:=HC5.out;clear HC5
  by_cases c7 : al=0
  ·
   rw [if_pos c7] at H
   obtain ⟨ag,aq⟩:=yE c7
   clear c7
   (first|rw [ag]|(simp only [i64_w,i32_w];rw [ag])|skip)
   have H' := zm H
   clear H
   go_wp2
   go_meet
   case rel=>exact ⟨_,(((l0.length : Int) != a1)),yq,H',⟨yo⟩,⟨yhb⟩⟩
  rw [if_neg c7] at H
  obtain ⟨ag,aq⟩:=yF c7
  (first|rw [ag]|(simp only [i64_w,i32_w];rw [ag])|skip)
  have H' := zm H
  clear H
  go_wp2
  go_meet
  case rel=>exact ⟨_,(true),yq,H',⟨yo⟩,⟨yhb⟩⟩
 case rest =>
  clear HC5
  obtain ⟨kq,ac,rfl,HA,HJ4,HB⟩:=hcut
  obtain ⟨kj4,rfl⟩:=ysu kq (fun h=>by subst h;exact absurd HA.out (by simp [cpack_pulses.j0]))
  have H:=HA.out;clear HA
  simp only [cpack_pulses.j0] at H
  by_cases c8 : ac=true
  ·
   subst c8
   rw [if_pos rfl] at H
   obtain rfl:=Option.some.inj H
   go_wp2
   go_ret
   exact ⟨ye,yhb⟩
  replace c8:=Bool.eq_false_iff.mpr c8
  subst c8
  rw [ynf] at H
  have H' := zm H
  clear H
  go_wp2
  go_loopg [2,26] kj4 (fun kq v2 v26 w' => ∃ (ah : Int) (aa : Int),v2=.int .i64 ah∧v26=.int .i64 aa∧Aside0 (cpack_pulses.l0 kq ah l0 (l0.length : Int) aa=some r)∧Aside0 (kq≤kj4)∧Aside0 (Below w.heap.size w w'))
  case atStart=>exact ⟨(a2),(0),yq,yq,H',⟨Nat.le_refl _⟩,⟨yhb⟩⟩
  case round =>
   clear H'
   obtain ⟨ah,aa,rfl,rfl,HA,HK2,HB⟩:=hrel
   obtain ⟨k2,rfl⟩:=ysu gk (fun h=>by subst h;exact absurd HA.out (by simp [cpack_pulses.l0]))
   have H:=HA.out;clear HA
   simp only [cpack_pulses.l0] at H
   by_cases c9 : aa < (l0.length : Int)
   ·
    rw [if_pos c9] at H
    have au:=yD c9
    clear c9
    obtain ⟨c10,H⟩:=yif H
    have ax : decide (0≤aa)=true:=decide_eq_true c10
    clear c10
    obtain ⟨c11,H⟩:=yif H
    have ay : decide (aa < (l0.length : Int))=true:=decide_eq_true c11
    clear c11
    obtain ⟨ao,ae⟩ : ∃ j_ : Int,(mx (rd l0 aa) (wrap64 (-(rd l0 aa))))=j_:=⟨_,rfl⟩
    (first|rw [ae] at H|simp only [ae] at H)
    have av : (if (rd l0 aa) < (wrap64 (-(rd l0 aa))) then (wrap64 (-(rd l0 aa))) else (rd l0 aa))=ao:=ae
    have H' := zm H
    clear H
    have ai : 0≤(aa : Int):=yt
    have aj : aa < (l0.length : Int):=yt
    obtain ⟨az,aw,af⟩:=Kd.at_int HR0.out aa ai aj
    cases aw
    replace af:=yhx HB af
    replace ai:=eq_true ai
    replace aj:=eq_true aj
    go_wp2
    go_roundg k2
    case measure=>exact yom2 HJ4 HK2
    case rel=>exact ⟨(wrap64 (ah - (ao))),(wrap64 (aa+1)),(by first|rfl|(simp;done)|(simp only [← ae] <;> (first|rfl|simp))|(simp [*];done)),yq,H',⟨yom2 HJ4 HK2⟩,⟨yhb⟩⟩
   rw [if_neg c9] at H
   have au:=yG c9
   clear c9
   obtain rfl:=Option.some.inj H
   go_wp2
   go_ret
   exact ⟨ye,yhb⟩
mutual
def cpack_Right.j0 : Nat→List (List Int)→Bool→Bool→List (List Int)→List (List (List Int))→Option (Bool)
 | 0,_,_,_,_,_=>none
 | k+1,x7,x29,bV,bW,aY=>if x29=true then (some false) else (cpack_Right.l0 k x7 aY (aY.length : Int) 0)
def cpack_Right.l0 : Nat→List (List Int)→List (List (List Int))→Int→Int→Option (Bool)
 | 0,_,_,_,_=>none
 | k+1,x7,x31,x32,x33=>if x33 < x32 then (if 0≤x33 then (if x33 < (x31.length : Int) then (if ((rd_L2 x31 x33).length : Int)=5 then (cpack_Right.l1 k x7 x33 x31 x32 x33 (rd_L2 x31 x33) ((rd_L2 x31 x33).length : Int) 0) else (some false)) else (none)) else (none)) else (some true)
def cpack_Right.l1 : Nat→List (List Int)→Int→List (List (List Int))→Int→Int→List (List Int)→Int→Int→Option (Bool)
 | 0,_,_,_,_,_,_,_,_=>none
 | k+1,x7,x9,x31,x32,x33,x41,x42,x43=>if x43 < x42 then (if 0≤x43 then (if x43 < (x41.length : Int) then ((band_Width.f x43).bind fun aH=>(if 0≤x9 then (if x9 < (x7.length : Int) then (if x43 < ((rd_L1 x7 x9).length : Int) then ((cpack_pulses.f k (rd_L1 x41 x43) aH (rd (rd_L1 x7 x9) x43)).bind fun bu=>(if bu=true then (cpack_Right.l1 k x7 x9 x31 x32 x33 x41 x42 (wrap64 (x43+1))) else (some false))) else (none)) else (none)) else (none))) else (none)) else (none)) else (cpack_Right.l0 k x7 x31 x32 (wrap64 (x33+1)))
end
def cpack_Right.f (k : Nat) (a0 : Int) (a1 : Int) (ay : Bool) (al : List (List Int)) (af : List (List (List Int))) : Option (Bool):=(alloc_Pulses.f k a0 a1 al).bind fun a8=>(if a8.2=0 then (cpack_Right.j0 k a8.1 ((af.length : Int) != a1) ay al af) else (cpack_Right.j0 k a8.1 true ay al af))
theorem cpack_Right.mono_l : ∀ k,(∀ y0 y1 y2 y3 y4,LeO (cpack_Right.j0 k y0 y1 y2 y3 y4) (cpack_Right.j0 (k+1) y0 y1 y2 y3 y4))∧(∀ y0 y1 y2 y3,LeO (cpack_Right.l0 k y0 y1 y2 y3) (cpack_Right.l0 (k+1) y0 y1 y2 y3))∧(∀ y0 y1 y2 y3 y4 y5 y6 y7,LeO (cpack_Right.l1 k y0 y1 y2 y3 y4 y5 y6 y7) (cpack_Right.l1 (k+1) y0 y1 y2 y3 y4 y5 y6 y7))
 | 0=>⟨fun _ _ _ _ _ r h=>by simp [cpack_Right.j0] at h,fun _ _ _ _ r h=>by simp [cpack_Right.l0] at h,fun _ _ _ _ _ _ _ _ r h=>by simp [cpack_Right.l1] at h⟩
 | k+1=>by
  obtain ⟨ih0,ih1,ih2⟩:=cpack_Right.mono_l k
  refine ⟨?_, ?_, ?_⟩
  ·
   intro y0 y1 y2 y3 y4
   unfold cpack_Right.j0
   repeat' with_reducible first|apply ih0|apply ih1|apply ih2|apply alloc_Pulses.mono|apply cpack_pulses.mono|apply yLr|apply yLn|apply yLi|apply yLb|intro _
  ·
   intro y0 y1 y2 y3
   unfold cpack_Right.l0
   repeat' with_reducible first|apply ih0|apply ih1|apply ih2|apply alloc_Pulses.mono|apply cpack_pulses.mono|apply yLr|apply yLn|apply yLi|apply yLb|intro _
  intro y0 y1 y2 y3 y4 y5 y6 y7
  unfold cpack_Right.l1
  repeat' with_reducible first|apply ih0|apply ih1|apply ih2|apply alloc_Pulses.mono|apply cpack_pulses.mono|apply yLr|apply yLn|apply yLi|apply yLb|intro _
theorem cpack_Right.mono : ∀ a0 a1 a2 a3 a4 k,LeO (cpack_Right.f k a0 a1 a2 a3 a4) (cpack_Right.f (k+1) a0 a1 a2 a3 a4):=by
 intro a0 a1 a2 a3 a4 k
 obtain ⟨ih0,ih1,ih2⟩:=cpack_Right.mono_l k
 unfold cpack_Right.f
 repeat' with_reducible first|apply ih0|apply ih1|apply ih2|apply alloc_Pulses.mono|apply cpack_pulses.mono|apply yLr|apply yLn|apply yLi|apply yLb|intro _
def cpack_Right.T12 : Bool × List (List Nat × List Nat):=(true, [([], []),([], []),([1], [1]),([], []),([], []),([3,4], [3,4]),([5], [5]),([], []),([6,7], [6,7]),([8], [8]),([0,2,9,2], [0,2,9]),([10], [10])])
def cpack_Right.B12 : List Nat := [0,0,2,0,0,24,56,0,248,504,1023,2047]
theorem cpack_Right.tab12 : rtab .any (opsOf Try.f15 12)=cpack_Right.T12:=by kernel_rfl
theorem cpack_Right.bits12 : waitsOk cpack_Right.T12.2 cpack_Right.B12=true:=by kernel_rfl
set_option maxHeartbeats 8000000 in
set_option maxRecDepth 100000 in
theorem cpack_Right.calls (k : Nat) (a0 : Int) (a1 : Int) (ay : Bool) (aN : Option Addr) (aQ : Nat) (al : List (List Int)) (a9 : Option Addr) (a7 : Nat) (af : List (List (List Int))) (r : Bool) (w : World) (hr2_1 : Kd.C (Kd.slice 3 (Kd.int .i64)) w aN al.length al) (hc2_1 : al.length≤aQ) (hr2_2 : Kd.C (Kd.slice 49 (Kd.slice 3 (Kd.int .i64))) w a9 af.length af) (hc2_2 : af.length≤a7) (h : cpack_Right.f k a0 a1 ay al af=some r) :
  Calls Try.prog 15 #[.int .i64 a0, .int .i64 a1, .agg #[.bool ay, .slice aN al.length aQ, .slice a9 af.length a7]] w fun e w' => e=.returned (.bool r)∧Below w.heap.size w w' := by
 have hu25:=Try.underlying25;have bM:=zm hr2_1;have bN:=zm hc2_1;clear hr2_1 hc2_1;have bn:=zm hr2_2;have b4:=zm hc2_2;clear hr2_2 hc2_2;have HB:=zm (Below.refl w.heap.size w);have H:=h
 unfold cpack_Right.f at H
 clear h
 obtain ⟨⟨aj,bO⟩,A4,H⟩:=ybi H
 try dsimp only at H
 have HC5:=zm H;clear H
 go_enter Try.func15,Try.ntmps15
 go_upto_region 2 with (first|((with_reducible refine gate_dst (N:=5) rfl ?_);(try (refine gate_guard (by rfl) ?_;dsimp only));refine ybx 5 #[.bool ay, .slice aN al.length aQ, .slice a9 af.length a7] 25 ?_;intro ba hg w6 hbox hb;have ae:=zm (hbox);have b5:=ygw hg;have b6:=ygw hg;replace HB:=ybs hb;clear hb hbox hg;obtain ⟨bv,bw,bx,bz,bA,bB⟩:=yc3 ae)|((with_reducible refine gate_callee (f:=30) rfl ?_);refine ygl 18 Try.func30 #[.int .i64 a0, .int .i64 a1, .slice aN al.length aQ] ?_;(with_reducible refine (alloc_Pulses.calls k a0 a1 _ _ al aj bO _ ?aI bN.out A4.out).mono ?_);(case aI=>exact ycb bM);rintro e w8 ⟨bC,rfl,ho0,hb⟩;refine ⟨_,rfl, ?_⟩;have bo:=zm (Kd.S_lower ho0 (zE yhb));replace ae:=ybb ae hb;replace HB:=ybs hb;(try clear hb);(try clear ho0)))
 (try simp only [Act.put,List.setIfInBounds_toArray,List.set_cons_zero,List.set_cons_succ])
 go_cut [29] (fun v29 wc => ∃ (kq : Nat) (aZ : Bool),v29=.bool aZ∧Aside0 (cpack_Right.j0 kq aj aZ ay al af=some r)∧Aside0 (kq≤k)∧Aside0 (Kd.S (Kd.slice 3 (Kd.int .i64)) 49 wc w.heap.size (fun _=>True) bC aj)∧Aside0 (wc.heap[ba]? = some (.cells #[.bool ay,(.slice aN al.length aQ),(.slice a9 af.length a7)] 25 (0,0)))∧Aside0 (Below w.heap.size w wc))
 case first =>
  have H:=HC5.out;clear HC5
  by_cases c9 : bO=0
  ·
   rw [if_pos c9] at H
   obtain ⟨bb,bX⟩:=yE c9
   clear c9
   (first|rw [bb]|(simp only [i64_w,i32_w];rw [bb])|skip)
   have H' := zm H
   clear H
   obtain ⟨_,_,_,_,_,_⟩:=yc3 ae
   go_wp2
   go_meet
   case rel=>exact ⟨_,(((af.length : Int) != a1)),yq,H',⟨yo⟩,⟨yr bo⟩,⟨yk ae⟩,⟨yhb⟩⟩
  rw [if_neg c9] at H
  obtain ⟨bb,bX⟩:=yF c9
  (first|rw [bb]|(simp only [i64_w,i32_w];rw [bb])|skip)
  have H' := zm H
  clear H
  go_wp2
  go_meet
  case rel=>exact ⟨_,(true),yq,H',⟨yo⟩,⟨yr bo⟩,⟨yk ae⟩,⟨yhb⟩⟩
 case rest =>
  clear HC5
  try clear bv
  try clear bw
  try clear bx
  try clear bz
  try clear bA
  try clear bB
  obtain ⟨kq,aZ,rfl,HA,HJ4,ai,ae,HB⟩:=hcut
  obtain ⟨kj4,rfl⟩:=ysu kq (fun h=>by subst h;exact absurd HA.out (by simp [cpack_Right.j0]))
  have H:=HA.out;clear HA
  simp only [cpack_Right.j0] at H
  by_cases c11 : aZ=true
  ·
   subst c11
   rw [if_pos rfl] at H
   obtain rfl:=Option.some.inj H
   go_wp2
   go_ret
   exact ⟨ye,yhb⟩
  replace c11:=Bool.eq_false_iff.mpr c11
  subst c11
  rw [ynf] at H
  have H' := zm H
  clear H
  obtain ⟨bf,bg,bh,bi,bj,bk⟩:=yc3 ae
  go_wp2
  go_loopg [33] kj4 (fun kq v33 w' => ∃ (aa : Int),v33=.int .i64 aa∧Aside0 (cpack_Right.l0 kq aj af (af.length : Int) aa=some r)∧Aside0 (kq≤kj4)∧Aside0 (Kd.S (Kd.slice 3 (Kd.int .i64)) 49 w' w.heap.size (fun _=>True) bC aj)∧Aside0 (w'.heap[ba]? = some (.cells #[.bool ay,(.slice aN al.length aQ),(.slice a9 af.length a7)] 25 (0,0)))∧Aside0 (Below w.heap.size w w'))
  case atStart=>exact ⟨(0),yq,H',⟨Nat.le_refl _⟩,⟨yr ai⟩,⟨yk ae⟩,⟨yhb⟩⟩
  case round =>
   clear H'
   try clear bf
   try clear bg
   try clear bh
   try clear bi
   try clear bj
   try clear bk
   obtain ⟨aa,rfl,HA,HK2,ai,ae,HB⟩:=hrel
   obtain ⟨k2,rfl⟩:=ysu gk (fun h=>by subst h;exact absurd HA.out (by simp [cpack_Right.l0]))
   have H:=HA.out;clear HA
   simp only [cpack_Right.l0] at H
   by_cases c13 : aa < (af.length : Int)
   ·
    rw [if_pos c13] at H
    have bp:=yD c13
    clear c13
    obtain ⟨c14,H⟩:=yif H
    have bP : decide (0≤aa)=true:=decide_eq_true c14
    clear c14
    obtain ⟨c15,H⟩:=yif H
    have bQ : decide (aa < (af.length : Int))=true:=decide_eq_true c15
    clear c15
    by_cases c16 : ((rd_L2 af aa).length : Int)=5
    ·
     rw [if_pos c16] at H
     obtain ⟨bq,br⟩:=yE c16
     clear c16
     have H' := zm H
     clear H
     have aJ : 0≤(aa : Int):=yt
     have aK : aa < (af.length : Int):=yt
     obtain ⟨bs,bD,bE,bF,ak,am,ao⟩:=at_L2 bn.out aa aJ aK
     cases bF
     replace ak:=yhx HB ak
     have az:=zm ao;have bl:=zm am;clear ao am
     replace aJ:=eq_true aJ
     replace aK:=eq_true aK
     go_wp2
     go_loopg [43] k2 (fun kq v43 w' => ∃ (ac : Int),v43=.int .i64 ac∧Aside0 (cpack_Right.l1 kq aj aa af (af.length : Int) aa (rd_L2 af aa) ((rd_L2 af aa).length : Int) ac=some r)∧Aside0 (kq≤k2)∧Aside0 (Kd.S (Kd.slice 3 (Kd.int .i64)) 49 w' w.heap.size (fun _=>True) bC aj)∧Aside0 (w'.heap[ba]? = some (.cells #[.bool ay,(.slice aN al.length aQ),(.slice (some bs) af.length a7)] 25 (0,0)))∧Aside0 (Below w.heap.size w w'))
     case atStart=>exact ⟨(0),yq,H',⟨Nat.le_refl _⟩,⟨yr ai⟩,⟨yk ae⟩,⟨yhb⟩⟩
     case round =>
      clear H'
      try clear bp
      try clear bP
      try clear bQ
      try clear bq
      try clear br
      try clear ak
      try clear aJ
      try clear aK
      obtain ⟨ac,rfl,HA,HK3,ai,ae,HB⟩:=hrel
      obtain ⟨k3,rfl⟩:=ysu gk (fun h=>by subst h;exact absurd HA.out (by simp [cpack_Right.l1]))
      have H:=HA.out;clear HA
      simp only [cpack_Right.l1] at H
      by_cases c17 : ac < ((rd_L2 af aa).length : Int)
      ·
       rw [if_pos c17] at H
       have bR:=yD c17
       clear c17
       obtain ⟨c18,H⟩:=yif H
       have b7 : decide (0≤ac)=true:=decide_eq_true c18
       clear c18
       obtain ⟨c19,H⟩:=yif H
       have b8 : decide (ac < ((rd_L2 af aa).length : Int))=true:=decide_eq_true c19
       clear c19
       obtain ⟨aH,A20,H⟩:=ybi H
       obtain ⟨c21,H⟩:=yif H
       have b9 : decide (0≤aa)=true:=decide_eq_true c21
       clear c21
       obtain ⟨c22,H⟩:=yif H
       have ca : decide (aa < (aj.length : Int))=true:=decide_eq_true c22
       clear c22
       obtain ⟨c23,H⟩:=yif H
       have cb : decide (ac < ((rd_L1 aj aa).length : Int))=true:=decide_eq_true c23
       clear c23
       obtain ⟨bu,A24,H⟩:=ybi H
       by_cases c25 : bu=true
       ·
        subst c25
        rw [if_pos rfl] at H
        have H' := zm H
        clear H
        have aT : 0≤(ac : Int):=yt
        have aU : ac < ((rd_L2 af aa).length : Int):=yt
        obtain ⟨bS,aV,aW,bG,ap,aq,au⟩:=at_L1 az.out ac aT aU
        cases bG
        replace ap:=yhx HB ap
        have aA:=zm au;have aC:=zm aq;clear au aq
        replace aT:=eq_true aT
        replace aU:=eq_true aU
        try go_wp2
        replace ai:=zm (Kd.S_drew ai.out)
        replace ae:=zm (zj ae.out)
        replace HB:=zm (zf HB.out)
        obtain ⟨ce,cf,bT⟩:=Kd.S_slice ai.out
        (first|subst bT|(injection bT with f1_ f2_ f3_;have f4_:=f1_.symm;have f5_:=f3_.symm;clear f1_ f2_ f3_;subst f4_;subst f5_))
        have aD : 0≤(aa : Int):=yt
        have aE : aa < (aj.length : Int):=yt
        obtain ⟨bc,bH,aX,bI,av,aw,ax⟩:=at_L1 (Kd.S_reads' ai.out).2.2 aa aD aE
        cases bI
        obtain ⟨ce179,hce179,hMe179,hcc179⟩:=Kd.S_get ai.out [] aa aD (by first|exact aE|exact yt|(have e_:=(Kd.S_reads' ai.out).1;omega))
        obtain ⟨ve179_0,rfl,ge179_0⟩:=hMe179
        have hv179_0:=hcc179 0 _ rfl
        rw [Nat.add_zero,show ((Kd.slice 3 (Kd.int .i64))).sz=1 from rfl,Nat.mul_one] at hv179_0
        replace hv179_0:=Option.some.inj (hv179_0.symm.trans av)
        rw [hv179_0] at ge179_0
        have ah:=zm (show Kd.R (Kd.int .i64) 3 _ _ _ _ (rd_L1 aj aa) from ge179_0)
        clear hv179_0 ge179_0 hcc179 hce179;have ag:=zm ax;have bm:=zm aw;clear ax aw
        replace aD:=eq_true aD
        replace aE:=eq_true aE
        obtain ⟨aM,bJ,aG,bY,bZ⟩:=yai ag ac
        cases bJ
        refine yst (fun w' => w'.cell? (bc.add (aa).toNat)=some (.slice (some aM) (rd_L1 aj aa).length aX)∧w'.cell? (aM.add (ac).toNat)=some (.int .i64 (rd (rd_L1 aj aa) ac))) [] 12 cpack_Right.tab12 cpack_Right.bits12 (fun hHeld HT_ HW_ => ?_)
        generalize wr.drew=w26 at ai ae HB ah ag av aG hHeld ⊢
        refine yp 0 48 HT_ ?_
        refine yp 1 49 HT_ ?_
        refine yp 3 51 HT_ ?_
        refine yp 4 52 HT_ ?_
        refine yp 5 53 HT_ ?_
        refine yp 7 55 HT_ ?_
        refine yl 6 54 HT_ HW_ hHeld ?_
        refine yp 8 56 HT_ ?_
        refine yl 9 57 HT_ HW_ hHeld ?_
        refine yw 2 50 HT_ (fun K hK => ?_)
        refine ygs Try.func32 #[.int .i64 ac] ?_
        with_reducible refine (band_Width.calls ac aH _ A20.out).mono ?_
        rintro e w28 ⟨rfl,hb⟩
        have bK:=yhs hb hHeld.1
        have bL:=yhs hb hHeld.2
        refine ⟨_,rfl, ?_⟩
        replace ai:=ySb ai hb
        replace ah:=yRb ah hb
        replace ae:=ybb ae hb
        replace ag:=yCb ag hb
        replace HB:=ybs hb
        (try clear hb)
        refine hK.out _ _ yH (fun hHeld => ?_)
        clear hK K
        refine ym (some 50) ?_
        refine yw 10 58 HT_ (fun K hK => ?_)
        refine ygs Try.func44 #[.slice aV (rd_L1 (rd_L2 af aa) ac).length aW, .int .i64 aH, .int .i64 (rd (rd_L1 aj aa) ac)] ?_
        with_reducible refine (cpack_pulses.calls k3 _ _ (rd_L1 (rd_L2 af aa) ac) aH (rd (rd_L1 aj aa) ac) true _ ?aI ?bd A24.out).mono ?_
        (case aI=>exact ycb aA)
        (case bd=>exact aC.out)
        rintro e w29 ⟨rfl,hb⟩
        have bK:=yhs hb hHeld.1
        have bL:=yhs hb hHeld.2
        refine ⟨_,rfl, ?_⟩
        replace ai:=ySb ai hb
        replace ah:=yRb ah hb
        replace ae:=ybb ae hb
        replace ag:=yCb ag hb
        replace HB:=ybs hb
        (try clear hb)
        refine hK.out _ _ yH (fun hHeld => ?_)
        clear hK K
        refine ym (some 58) ?_
        refine yp 11 59 HT_ ?_
        refine done_ (done_of HT_.out (by kernel_rfl)) ?_
        try go_wp2
        go_roundg k3
        case measure=>exact yom3 HJ4 HK2 HK3
        case rel=>exact ⟨(wrap64 (ac+1)),yq,H',⟨yom3 HJ4 HK2 HK3⟩,⟨yr ai⟩,⟨yk ae⟩,⟨yhb⟩⟩
       replace c25:=Bool.eq_false_iff.mpr c25
       subst c25
       rw [ynf] at H
       obtain rfl:=Option.some.inj H
       have aT : 0≤(ac : Int):=yt
       have aU : ac < ((rd_L2 af aa).length : Int):=yt
       obtain ⟨bS,aV,aW,bG,ap,aq,au⟩:=at_L1 az.out ac aT aU
       cases bG
       replace ap:=yhx HB ap
       have aA:=zm au;have aC:=zm aq;clear au aq
       replace aT:=eq_true aT
       replace aU:=eq_true aU
       try go_wp2
       replace ai:=zm (Kd.S_drew ai.out)
       replace ae:=zm (zj ae.out)
       replace HB:=zm (zf HB.out)
       obtain ⟨cg,ch,bU⟩:=Kd.S_slice ai.out
       (first|subst bU|(injection bU with f1_ f2_ f3_;have f4_:=f1_.symm;have f5_:=f3_.symm;clear f1_ f2_ f3_;subst f4_;subst f5_))
       have aD : 0≤(aa : Int):=yt
       have aE : aa < (aj.length : Int):=yt
       obtain ⟨bc,bH,aX,bI,av,aw,ax⟩:=at_L1 (Kd.S_reads' ai.out).2.2 aa aD aE
       cases bI
       obtain ⟨ce179,hce179,hMe179,hcc179⟩:=Kd.S_get ai.out [] aa aD (by first|exact aE|exact yt|(have e_:=(Kd.S_reads' ai.out).1;omega))
       obtain ⟨ve179_0,rfl,ge179_0⟩:=hMe179
       have hv179_0:=hcc179 0 _ rfl
       rw [Nat.add_zero,show ((Kd.slice 3 (Kd.int .i64))).sz=1 from rfl,Nat.mul_one] at hv179_0
       replace hv179_0:=Option.some.inj (hv179_0.symm.trans av)
       rw [hv179_0] at ge179_0
       have ah:=zm (show Kd.R (Kd.int .i64) 3 _ _ _ _ (rd_L1 aj aa) from ge179_0)
       clear hv179_0 ge179_0 hcc179 hce179;have ag:=zm ax;have bm:=zm aw;clear ax aw
       replace aD:=eq_true aD
       replace aE:=eq_true aE
       obtain ⟨aM,bJ,aG,bY,bZ⟩:=yai ag ac
       cases bJ
       refine yst (fun w' => w'.cell? (bc.add (aa).toNat)=some (.slice (some aM) (rd_L1 aj aa).length aX)∧w'.cell? (aM.add (ac).toNat)=some (.int .i64 (rd (rd_L1 aj aa) ac))) [] 12 cpack_Right.tab12 cpack_Right.bits12 (fun hHeld HT_ HW_ => ?_)
       generalize wr.drew=w30 at ai ae HB ah ag av aG hHeld ⊢
       refine yp 0 48 HT_ ?_
       refine yp 1 49 HT_ ?_
       refine yp 3 51 HT_ ?_
       refine yp 4 52 HT_ ?_
       refine yp 5 53 HT_ ?_
       refine yp 7 55 HT_ ?_
       refine yl 6 54 HT_ HW_ hHeld ?_
       refine yp 8 56 HT_ ?_
       refine yl 9 57 HT_ HW_ hHeld ?_
       refine yw 2 50 HT_ (fun K hK => ?_)
       refine ygs Try.func32 #[.int .i64 ac] ?_
       with_reducible refine (band_Width.calls ac aH _ A20.out).mono ?_
       rintro e w32 ⟨rfl,hb⟩
       have bK:=yhs hb hHeld.1
       have bL:=yhs hb hHeld.2
       refine ⟨_,rfl, ?_⟩
       replace ai:=ySb ai hb
       replace ah:=yRb ah hb
       replace ae:=ybb ae hb
       replace ag:=yCb ag hb
       replace HB:=ybs hb
       (try clear hb)
       refine hK.out _ _ yH (fun hHeld => ?_)
       clear hK K
       refine ym (some 50) ?_
       refine yw 10 58 HT_ (fun K hK => ?_)
       refine ygs Try.func44 #[.slice aV (rd_L1 (rd_L2 af aa) ac).length aW, .int .i64 aH, .int .i64 (rd (rd_L1 aj aa) ac)] ?_
       with_reducible refine (cpack_pulses.calls k3 _ _ (rd_L1 (rd_L2 af aa) ac) aH (rd (rd_L1 aj aa) ac) false _ ?aI ?bd A24.out).mono ?_
       (case aI=>exact ycb aA)
       (case bd=>exact aC.out)
       rintro e w33 ⟨rfl,hb⟩
       have bK:=yhs hb hHeld.1
       have bL:=yhs hb hHeld.2
       refine ⟨_,rfl, ?_⟩
       replace ai:=ySb ai hb
       replace ah:=yRb ah hb
       replace ae:=ybb ae hb
       replace ag:=yCb ag hb
       replace HB:=ybs hb
       (try clear hb)
       refine hK.out _ _ yH (fun hHeld => ?_)
       clear hK K
       refine ym (some 58) ?_
       refine yp 11 59 HT_ ?_
       refine done_ (done_of HT_.out (by kernel_rfl)) ?_
       try go_wp2
       go_ret
       exact ⟨ye,yhb⟩
      rw [if_neg c17] at H
      have bR:=yG c17
      clear c17
      have H' := zm H
      clear H
      go_wp2
      go_roundg k3
      case measure=>exact yom3 HJ4 HK2 HK3
      case rel=>exact ⟨(wrap64 (aa+1)),yq,H',⟨yom3 HJ4 HK2 HK3⟩,⟨yr ai⟩,⟨yk ae⟩,⟨yhb⟩⟩
    rw [if_neg c16] at H
    obtain ⟨bq,br⟩:=yF c16
    obtain rfl:=Option.some.inj H
    have aJ : 0≤(aa : Int):=yt
    have aK : aa < (af.length : Int):=yt
    obtain ⟨bs,bD,bE,bF,ak,am,ao⟩:=at_L2 bn.out aa aJ aK
    cases bF
    replace ak:=yhx HB ak
    have az:=zm ao;have bl:=zm am;clear ao am
    replace aJ:=eq_true aJ
    replace aK:=eq_true aK
    go_wp2
    go_ret
    exact ⟨ye,yhb⟩
   rw [if_neg c13] at H
   have bp:=yG c13
   clear c13
   obtain rfl:=Option.some.inj H
   go_wp2
   go_ret
   exact ⟨ye,yhb⟩
def cpack_gains.l0 : Nat→Int→List (List Int)→List (List Int)→Int→Int→Option (Bool)
 | 0,_,_,_,_,_=>none
 | k+1,x0,x1,x7,x8,x9=>if x9 < x8 then (if 0≤x9 then (if x9 < (x7.length : Int) then ((gain_Right.f k (rd_L1 x7 x9)).bind fun ao=>(if ao=true then (cpack_gains.l0 k x0 x1 x7 x8 (wrap64 (x9+1))) else (some false))) else (none)) else (none)) else (some ((x1.length : Int) == x0))
def cpack_gains.f (k : Nat) (a0 : Int) (l1 : List (List Int)) : Option (Bool):=cpack_gains.l0 k a0 l1 l1 (l1.length : Int) 0
theorem cpack_gains.mono_l : ∀ k,(∀ y0 y1 y2 y3 y4,LeO (cpack_gains.l0 k y0 y1 y2 y3 y4) (cpack_gains.l0 (k+1) y0 y1 y2 y3 y4))
 | 0=>fun _ _ _ _ _ r h=>by simp [cpack_gains.l0] at h
 | k+1=>by
  have ih0:=cpack_gains.mono_l k
  ·
   intro y0 y1 y2 y3 y4
   unfold cpack_gains.l0
   repeat' with_reducible first|apply ih0|apply gain_Right.mono|apply yLr|apply yLn|apply yLi|apply yLb|intro _
theorem cpack_gains.mono : ∀ a0 a1 k,LeO (cpack_gains.f k a0 a1) (cpack_gains.f (k+1) a0 a1):=by
 intro a0 a1 k
 have ih0:=cpack_gains.mono_l k
 unfold cpack_gains.f
 repeat' with_reducible first|apply ih0|apply gain_Right.mono|apply yLr|apply yLn|apply yLi|apply yLb|intro _
set_option maxHeartbeats 8000000 in
set_option maxRecDepth 100000 in
theorem cpack_gains.calls (k : Nat) (a0 : Int) (A1 : Option Addr) (c1 : Nat) (l1 : List (List Int)) (r : Bool) (w : World) (hr1 : Kd.C (Kd.slice 3 (Kd.int .i64)) w A1 l1.length l1) (hc1 : l1.length≤c1) (h : cpack_gains.f k a0 l1=some r) :
  Calls Try.prog 25 #[.int .i64 a0, .slice A1 l1.length c1] w fun e w' => e=.returned (.bool r)∧Drawn0 w w' := by
 have HR1:=zm hr1;have HC1:=zm hc1;clear hr1 hc1;have H:=h
 unfold cpack_gains.f at H
 clear h
 have H' := zm H
 clear H
 go_enter Try.func25,Try.ntmps25
 go_wp2
 go_loopg [9] k (fun kq v9 w' => ∃ (aa : Int),v9=.int .i64 aa∧Aside0 (cpack_gains.l0 kq a0 l1 l1 (l1.length : Int) aa=some r)∧Aside0 (kq≤k)∧Drawn0 w w')
 case atStart=>exact ⟨(0),yq,H',⟨Nat.le_refl _⟩,yd⟩
 case round =>
  clear H'
  try clear c1
  obtain ⟨aa,rfl,HA,HK1,⟨m1,rfl⟩⟩:=hrel
  obtain ⟨k1,rfl⟩:=ysu gk (fun h=>by subst h;exact absurd HA.out (by simp [cpack_gains.l0]))
  have H:=HA.out;clear HA
  simp only [cpack_gains.l0] at H
  by_cases c3 : aa < (l1.length : Int)
  ·
   rw [if_pos c3] at H
   have au:=yD c3
   clear c3
   obtain ⟨c4,H⟩:=yif H
   have av : decide (0≤aa)=true:=decide_eq_true c4
   clear c4
   obtain ⟨c5,H⟩:=yif H
   have aw : decide (aa < (l1.length : Int))=true:=decide_eq_true c5
   clear c5
   obtain ⟨ao,A6,H⟩:=ybi H
   by_cases c7 : ao=true
   ·
    subst c7
    rw [if_pos rfl] at H
    have H' := zm H
    clear H
    have ah : 0≤(aa : Int):=yt
    have ai : aa < (l1.length : Int):=yt
    obtain ⟨aq,aj,ak,ap,am,ac,ae⟩:=at_L1 HR1.out aa ah ai
    cases ap
    have af:=zm ae;have ag:=zm ac;clear ae ac
    replace ah:=eq_true ah
    replace ai:=eq_true ai
    go_wp2_with (first|((with_reducible refine gate_callee (f:=62) rfl ?_);refine ygl 14 Try.func62 #[.slice aj (rd_L1 l1 aa).length ak] ?_;(with_reducible refine (gain_Right.calls k1 _ _ (rd_L1 l1 aa) true _ ?al ag.out A6.out).mono ?_);(case al=>exact yce af.out);rintro e w' ⟨rfl,⟨nd,rfl⟩⟩;refine ⟨_,rfl, ?_⟩))
    go_roundg k1
    case measure=>exact yom1 HK1
    case rel=>exact ⟨(wrap64 (aa+1)),yq,H',⟨yom1 HK1⟩,yd⟩
   replace c7:=Bool.eq_false_iff.mpr c7
   subst c7
   rw [ynf] at H
   obtain rfl:=Option.some.inj H
   have ah : 0≤(aa : Int):=yt
   have ai : aa < (l1.length : Int):=yt
   obtain ⟨aq,aj,ak,ap,am,ac,ae⟩:=at_L1 HR1.out aa ah ai
   cases ap
   have af:=zm ae;have ag:=zm ac;clear ae ac
   replace ah:=eq_true ah
   replace ai:=eq_true ai
   go_wp2_with (first|((with_reducible refine gate_callee (f:=62) rfl ?_);refine ygl 14 Try.func62 #[.slice aj (rd_L1 l1 aa).length ak] ?_;(with_reducible refine (gain_Right.calls k1 _ _ (rd_L1 l1 aa) false _ ?al ag.out A6.out).mono ?_);(case al=>exact yce af.out);rintro e w' ⟨rfl,⟨nd,rfl⟩⟩;refine ⟨_,rfl, ?_⟩))
   go_ret
   exact ⟨yq,yd⟩
  rw [if_neg c3] at H
  have au:=yG c3
  clear c3
  obtain rfl:=Option.some.inj H
  go_wp2
  go_ret
  exact ⟨yq,yd⟩
def cpack_of.f (l0 : List (List Int)) (a1 : Int) : Option (List Int):=if a1 < (l0.length : Int) then (if 0≤a1 then (some (rd_L1 l0 a1)) else (none)) else (some ([] : List Int))
set_option maxHeartbeats 8000000 in
set_option maxRecDepth 100000 in
theorem cpack_of.calls (P0_ : Nat→Prop) (A0 : Option Addr) (c0 : Nat) (l0 : List (List Int)) (a1 : Int) (r : List Int) (w : World) (hs0 : Kd.V (Kd.slice 3 (Kd.int .i64)) 49 w w.heap.size (fun k_=>P0_ k_) (.slice A0 l0.length c0) l0) (h : cpack_of.f l0 a1=some r) :
  Calls Try.prog 29 #[.slice A0 l0.length c0, .int .i64 a1] w fun e w' => ∃ v0_ : Value,e=.returned (v0_)∧Kd.V (Kd.int .i64) 3 w' w.heap.size (fun k_=>(P0_ k_∨w.heap.size≤k_)) v0_ r∧Below w.heap.size w w' := by
 have HO0:=zm (show Kd.V (Kd.slice 3 (Kd.int .i64)) 49 w w.heap.size (fun k_=>(P0_ k_∨w.heap.size≤k_)) (.slice A0 l0.length c0) l0 from zy hs0 (fun k_ hk => .inl hk))
 have HB:=zm (Below.refl w.heap.size w);have H:=h
 unfold cpack_of.f at H
 clear h
 by_cases c3 : a1 < (l0.length : Int)
 ·
  rw [if_pos c3] at H
  have ak:=yD c3
  clear c3
  obtain ⟨c4,H⟩:=yif H
  have aq : decide (0≤a1)=true:=decide_eq_true c4
  clear c4
  obtain rfl:=Option.some.inj H
  have ae : 0≤(a1 : Int):=yt
  have af : a1 < (l0.length : Int):=yt
  obtain ⟨ap,al,am,ao,ag,aa,ac⟩:=at_L1 (Kd.V_reads' HO0.out).2.2 a1 ae af
  cases ao
  obtain ⟨ce287,hce287,hMe287,hcc287⟩:=Kd.V_get HO0.out [] a1 ae (by first|exact af|exact yt|(have e_:=(Kd.V_reads' HO0.out).1;omega))
  obtain ⟨ua287_0,uc287_0,rfl,ul287_0,ge287_0⟩:=Kd.FK_slice_open hMe287
  have hv287_0:=hcc287 0 _ rfl
  rw [Nat.add_zero,show ((Kd.slice 3 (Kd.int .i64))).sz=1 from rfl,Nat.mul_one] at hv287_0
  replace hv287_0:=Option.some.inj (hv287_0.symm.trans ag)
  injection hv287_0 with hva_ hvn_ hvc_
  rw [hva_] at ge287_0
  rw [hvc_] at ul287_0
  have ah:=zm (show Kd.V (Kd.int .i64) 3 _ w.heap.size _ _ (rd_L1 l0 a1) from Kd.V_mk ul287_0 ge287_0)
  clear hva_ hvn_ hvc_ ge287_0 ul287_0 hcc287 hce287;have ai:=zm ac;have aj:=zm aa;clear ac aa
  replace ae:=eq_true ae
  replace af:=eq_true af
  go_enter Try.func29,Try.ntmps29
  go_wp2
  go_ret
  exact ⟨_,ye,yr ah,yhb⟩
 rw [if_neg c3] at H
 have ak:=yG c3
 clear c3
 obtain rfl:=Option.some.inj H
 go_enter Try.func29,Try.ntmps29
 go_wp2
 go_ret
 exact ⟨_,ye,(by first|exact Kd.V_nil _ _ _ _ _|exact zy (Kd.R_V (yn)) (fun k_ hk=>by first|exact ⟨(.inr (hk.1)),hk.2⟩|exact (.inr (hk)))),yhb⟩
def gain_put.j0 : Nat→Int→Int→Bool→Int→Int→List Int→Option (Int × Int × List Int × Int)
 | 0,_,_,_,_,_,_=>none
 | k+1,x1,x10,x23,aE,aG,aH=>if x23=true then ((coder_Put.f k aE aG aH (wrap64 (x10+3)) (wrap64 ((wrap64 (x10+3))+1)) 8).bind fun aI=>(some (aI.1,aI.2.1,aI.2.2.1,aI.2.2.2))) else ((coder_Put.f k aE aG aH 7 8 8).bind fun au=>(if au.2.2.2=0 then ((coder_PutNum.f k au.1 au.2.1 au.2.2.1 (IntKind.u64.wrap (x1)) 45).bind fun aJ=>(some (aJ.1,aJ.2.1,aJ.2.2.1,aJ.2.2.2))) else (some (au.1,au.2.1,au.2.2.1,au.2.2.2))))
def gain_put.f (k : Nat) (ai : Int) (aj : Int) (ae : List Int) (a1 : Int) (a2 : Int) (a3 : Bool) : Option (Int × Int × List Int × Int):=if a3=true then ((coder_PutNum.f k ai aj ae (IntKind.u64.wrap (a1)) 45).bind fun aK=>(some (aK.1,aK.2.1,aK.2.2.1,aK.2.2.2))) else (if (wrap64 (a1 - a2)) ≥ (-3) then (gain_put.j0 k a1 (wrap64 (a1 - a2)) (decide ((wrap64 (a1 - a2))≤3)) ai aj ae) else (gain_put.j0 k a1 (wrap64 (a1 - a2)) false ai aj ae))
theorem gain_put.mono_l : ∀ k,(∀ y0 y1 y2 y3 y4 y5,LeO (gain_put.j0 k y0 y1 y2 y3 y4 y5) (gain_put.j0 (k+1) y0 y1 y2 y3 y4 y5))
 | 0=>fun _ _ _ _ _ _ r h=>by simp [gain_put.j0] at h
 | k+1=>by
  have ih0:=gain_put.mono_l k
  ·
   intro y0 y1 y2 y3 y4 y5
   unfold gain_put.j0
   repeat' with_reducible first|apply ih0|apply coder_Put.mono|apply coder_PutNum.mono|apply yLr|apply yLn|apply yLi|apply yLb|intro _
theorem gain_put.mono : ∀ a0 a1 a2 a3 a4 a5 k,LeO (gain_put.f k a0 a1 a2 a3 a4 a5) (gain_put.f (k+1) a0 a1 a2 a3 a4 a5):=by
 intro a0 a1 a2 a3 a4 a5 k
 have ih0:=gain_put.mono_l k
 unfold gain_put.f
 repeat' with_reducible first|apply ih0|apply coder_Put.mono|apply coder_PutNum.mono|apply yLr|apply yLn|apply yLi|apply yLb|intro _
set_option maxHeartbeats 8000000 in
set_option maxRecDepth 100000 in
theorem gain_put.calls (k : Nat) (ai : Int) (aj : Int) (aw : Option Addr) (ax : Nat) (ae : List Int) (a1 : Int) (a2 : Int) (a3 : Bool) (r1 : Int) (r2 : Int) (r3 : List Int) (r4 : Int) (w : World) (hr0_2 : Kd.C (Kd.int .u8) w aw ae.length ae) (hc0_2 : ae.length≤ax) (h : gain_put.f k ai aj ae a1 a2 a3=some (r1,r2,r3,r4)) :
  Calls Try.prog 67 #[.agg #[.int .u64 ai, .int .u32 aj, .slice aw ae.length ax], .int .i64 a1, .int .i64 a2, .bool a3] w fun e w' => ∃ v2_ : Value,e=.returned (.tuple #[.agg #[.int .u64 r1, .int .u32 r2,v2_], .int .i64 r4])∧Kd.R (Kd.int .u8) 5 w' w.heap.size (fun _=>True) v2_ r3∧Below w.heap.size w w' := by
 have hu54:=Try.underlying54;have aM:=zm hr0_2;have aN:=zm hc0_2;clear hr0_2 hc0_2;have HB:=zm (Below.refl w.heap.size w);have H:=h
 unfold gain_put.f at H
 clear h
 by_cases c5 : a3=true
 ·
  subst c5
  rw [if_pos rfl] at H
  obtain ⟨⟨bm,bn,bo,bG⟩,A6,H⟩:=ybi H
  try dsimp only at H
  simp only [Option.some.injEq,Prod.mk.injEq] at H
  obtain ⟨rfl,rfl,rfl,rfl⟩:=H
  go_enter Try.func67,Try.ntmps67
  go_wp2_with (first|((with_reducible refine gate_dst (N:=4) rfl ?_);refine ybx 4 #[.int .u64 ai, .int .u32 aj, .slice aw ae.length ax] 54 ?_;intro aQ hg w7 hbox hb;have aa:=zm (hbox);have bp:=ygw hg;have bq:=ygw hg;replace HB:=ybs hb;clear hb hbox hg)|((with_reducible refine gate_dst (N:=8) rfl ?_);refine ybx 8 #[.int .u64 0, .int .u32 0, .slice none 0 0] 54 ?_;intro av hg w8 hbox hb;have ac:=zm (hbox);have br:=ygw hg;have bs:=ygw hg;replace HB:=ybs hb;have af:=ynl aa hg;have ag:=yng aa hg;replace aa:=ybb aa hb;clear hb hbox hg;have:=af.out;have:=ag.out;obtain ⟨aT,aU,aV,aW,aX,aY⟩:=yc3 aa)|((with_reducible refine gate_callee (f:=34) rfl ?_);refine ygl 46 Try.func34 #[.agg #[.int .u64 ai, .int .u32 aj, .slice aw ae.length ax], .int .u64 (IntKind.u64.wrap (a1)), .int .u64 45] ?_;(with_reducible refine (coder_PutNum.calls k ai aj _ _ ae (IntKind.u64.wrap (a1)) 45 bm bn bo bG _ ?ak aN.out A6.out).mono ?_);(case ak=>exact ycb aM);rintro e w11 ⟨bX,rfl,ho0,hb⟩;refine ⟨_,rfl, ?_⟩;have bf:=zm (Kd.R_lower ho0 (zE yhb));replace aa:=ybb aa hb;replace ac:=ybb ac hb;replace HB:=ybs hb;(try clear hb);(try clear ho0);obtain ⟨aZ,a7,a8,a9,ba,bb⟩:=yc3 ac;obtain ⟨bH,bI,bJ⟩:=Kd.R_slice bf.out;subst bJ))
  refine bodyPost_ret (results_ct rfl _ _ av 54 #[.int .u64 bm, .int .u32 bn, .slice bH bo.length bI] (0,0) _ rfl (ykp ac) Try.underlying54 rfl (by kernel_rfl)) rfl ?_
  exact ⟨_,ye,yR1 bf ac,yhb⟩
 replace c5:=Bool.eq_false_iff.mpr c5
 subst c5
 rw [ynf] at H
 have bj:=zm H;clear H
 go_enter Try.func67,Try.ntmps67
 go_upto_region 3 with (first|((with_reducible refine gate_dst (N:=4) rfl ?_);refine ybx 4 #[.int .u64 ai, .int .u32 aj, .slice aw ae.length ax] 54 ?_;intro aQ hg w15 hbox hb;have aa:=zm (hbox);have bp:=ygw hg;have bq:=ygw hg;replace HB:=ybs hb;clear hb hbox hg)|((with_reducible refine gate_dst (N:=8) rfl ?_);refine ybx 8 #[.int .u64 0, .int .u32 0, .slice none 0 0] 54 ?_;intro av hg w16 hbox hb;have ac:=zm (hbox);have br:=ygw hg;have bs:=ygw hg;replace HB:=ybs hb;have af:=ynl aa hg;have ag:=yng aa hg;replace aa:=ybb aa hb;clear hb hbox hg))
 (try simp only [Act.put,List.setIfInBounds_toArray,List.set_cons_zero,List.set_cons_succ])
 go_cut [23] (fun v23 wc => ∃ (kq : Nat) (ay : Bool),v23=.bool ay∧Aside0 (gain_put.j0 kq a1 (wrap64 (a1 - a2)) ay ai aj ae=some (r1,r2,r3,r4))∧Aside0 (kq≤k)∧Aside0 (wc.heap[aQ]? = some (.cells #[.int .u64 ai, .int .u32 aj,(.slice aw ae.length ax)] 54 (0,0)))∧Aside0 (wc.heap[av]? = some (.cells #[.int .u64 0, .int .u32 0,(.slice none 0 0)] 54 (0,0)))∧Aside0 (Below w.heap.size w wc))
 case first =>
  have H:=bj.out;clear bj
  by_cases c17 : (wrap64 (a1 - a2)) ≥ (-3)
  ·
   rw [if_pos c17] at H
   have az:=yDl c17
   clear c17
   (first|rw [az]|(simp only [i64_w,i32_w];rw [az])|skip)
   have H' := zm H
   clear H
   go_wp2
   go_meet
   case rel=>exact ⟨_,(decide ((wrap64 (a1 - a2))≤3)),yq,H',⟨yo⟩,⟨yk aa⟩,⟨yk ac⟩,⟨yhb⟩⟩
  rw [if_neg c17] at H
  have az:=yGl c17
  clear c17
  (first|rw [az]|(simp only [i64_w,i32_w];rw [az])|skip)
  have H' := zm H
  clear H
  go_wp2
  go_meet
  case rel=>exact ⟨_,(false),yq,H',⟨yo⟩,⟨yk aa⟩,⟨yk ac⟩,⟨yhb⟩⟩
 case rest =>
  clear bj
  try clear aT
  try clear aU
  try clear aV
  try clear aZ
  try clear a7
  try clear a8
  try clear aW
  try clear aX
  try clear aY
  try clear a9
  try clear ba
  try clear bb
  obtain ⟨kq,ay,rfl,HA,bY,aa,ac,HB⟩:=hcut
  obtain ⟨bc,rfl⟩:=ysu kq (fun h=>by subst h;exact absurd HA.out (by simp [gain_put.j0]))
  have H:=HA.out;clear HA
  simp only [gain_put.j0] at H
  by_cases c18 : ay=true
  ·
   subst c18
   rw [if_pos rfl] at H
   obtain ⟨⟨bu,bv,bw,bK⟩,A19,H⟩:=ybi H
   try dsimp only at H
   simp only [Option.some.injEq,Prod.mk.injEq] at H
   obtain ⟨rfl,rfl,rfl,rfl⟩:=H
   have:=af.out
   have:=ag.out
   obtain ⟨_,_,_,_,_,_⟩:=yc3 aa
   go_wp2_with (first|((with_reducible refine gate_callee (f:=26) rfl ?_);refine ygl 30 Try.func26 #[.agg #[.int .u64 ai, .int .u32 aj, .slice aw ae.length ax], .int .i64 (wrap64 ((wrap64 (a1 - a2))+3)), .int .i64 (wrap64 ((wrap64 ((wrap64 (a1 - a2))+3))+1)), .int .i64 8] ?_;(with_reducible refine (coder_Put.calls bc ai aj _ _ ae (wrap64 ((wrap64 (a1 - a2))+3)) (wrap64 ((wrap64 ((wrap64 (a1 - a2))+3))+1)) 8 bu bv bw bK _ ?ak aN.out A19.out).mono ?_);(case ak=>exact ycb aM);rintro e w22 ⟨bZ,rfl,ho0,hb⟩;refine ⟨_,rfl, ?_⟩;have bg:=zm (Kd.R_lower ho0 (zE yhb));replace aa:=ybb aa hb;replace ac:=ybb ac hb;replace HB:=ybs hb;(try clear hb);(try clear ho0);obtain ⟨_,_,_,_,_,_⟩:=yc3 ac;obtain ⟨bL,bM,bN⟩:=Kd.R_slice bg.out;subst bN))
   refine bodyPost_ret (results_ct rfl _ _ av 54 #[.int .u64 bu, .int .u32 bv, .slice bL bw.length bM] (0,0) _ rfl (ykp ac) Try.underlying54 rfl (by kernel_rfl)) rfl ?_
   exact ⟨_,ye,yR1 bg ac,yhb⟩
  replace c18:=Bool.eq_false_iff.mpr c18
  subst c18
  rw [ynf] at H
  obtain ⟨⟨aC,aD,aA,bk⟩,A25,H⟩:=ybi H
  try dsimp only at H
  by_cases c26 : bk=0
  ·
   rw [if_pos c26] at H
   obtain ⟨bx,bz⟩:=yE c26
   clear c26
   obtain ⟨⟨bA,bB,bC,bO⟩,A27,H⟩:=ybi H
   try dsimp only at H
   simp only [Option.some.injEq,Prod.mk.injEq] at H
   obtain ⟨rfl,rfl,rfl,rfl⟩:=H
   have:=af.out
   have:=ag.out
   obtain ⟨_,_,_,_,_,_⟩:=yc3 aa
   go_wp2_with (first|((with_reducible refine gate_callee (f:=26) rfl ?_);refine ygl 35 Try.func26 #[.agg #[.int .u64 ai, .int .u32 aj, .slice aw ae.length ax], .int .i64 7, .int .i64 8, .int .i64 8] ?_;(with_reducible refine (coder_Put.calls bc ai aj _ _ ae 7 8 8 aC aD aA bk _ ?ak aN.out A25.out).mono ?_);(case ak=>exact ycb aM);rintro e w30 ⟨bP,rfl,ho0,hb⟩;refine ⟨_,rfl, ?_⟩;have ah:=zm (Kd.R_lower ho0 (zE yhb));replace aa:=ybb aa hb;replace ac:=ybb ac hb;replace HB:=ybs hb;(try clear hb);(try clear ho0))|((with_reducible refine gate_dst (N:=11) rfl ?_);refine ybx 11 #[.int .u64 0, .int .u32 0, .slice none 0 0] 54 ?_;intro bh hg w31 hbox hb;replace ah:=yRb ah hb;have al:=zm (hbox);have bD:=ygw hg;have bE:=ygw hg;replace HB:=ybs hb;have am:=ynl aa hg;have ao:=yng aa hg;replace aa:=ybb aa hb;have ap:=ynl ac hg;have aq:=yng ac hg;replace ac:=ybb ac hb;clear hb hbox hg;have:=ao.out;have:=am.out;have:=aq.out;have:=ap.out;obtain ⟨_,_,_,_,_,_⟩:=yc3 al;obtain ⟨bl,bd,bQ⟩:=Kd.R_slice ah.out;subst bQ;obtain ⟨_,_,_,_,_,_⟩:=yc3 aa)|((with_reducible refine gate_callee (f:=34) rfl ?_);refine ygl 46 Try.func34 #[.agg #[.int .u64 aC, .int .u32 aD, .slice bl aA.length bd], .int .u64 (IntKind.u64.wrap (a1)), .int .u64 45] ?_;(with_reducible refine (coder_PutNum.calls bc aC aD _ _ aA (IntKind.u64.wrap (a1)) 45 bA bB bC bO _ ?ak ?bF A27.out).mono ?_);(case ak=>refine (Kd.R_reads' (e:=5) (base:=w.heap.size) (ok:=fun k_=>True) (n:=aA.length) (c:=bd) ?_).2.2;exact (yR2 ah al aa));(case bF=>exact (Kd.R_reads' ah.out).2.1);rintro e w37 ⟨b4,rfl,ho0,hb⟩;refine ⟨_,rfl, ?_⟩;have bi:=zm (Kd.R_lower (Kd.R_new' ho0 (Kd.R_lt (yR2 ah al aa))) (zE yhb));replace ah:=zm (Kd.R_elder' (yR2 ah al aa) (Kd.R_base ho0) hb);replace aa:=zm (zF (g:=aQ) (o:=.cells #[.int .u64 aC, .int .u32 aD, .slice bl aA.length bd] 54 (0,0)) (ykp aa) hb);replace ac:=ybb ac hb;replace al:=zm (zF (g:=bh) (o:=.cells #[.int .u64 aC, .int .u32 aD, .slice bl aA.length bd] 54 (0,0)) (ykp al) hb);replace HB:=ybs hb;(try clear hb);(try clear ho0);obtain ⟨_,_,_,_,_,_⟩:=yc3 ac;obtain ⟨bR,bS,bT⟩:=Kd.R_slice bi.out;subst bT))
   refine bodyPost_ret (results_ct rfl _ _ av 54 #[.int .u64 bA, .int .u32 bB, .slice bR bC.length bS] (0,0) _ rfl (ykp ac) Try.underlying54 rfl (by kernel_rfl)) rfl ?_
   exact ⟨_,ye,yR1 bi ac,yhb⟩
  rw [if_neg c26] at H
  obtain ⟨bx,bz⟩:=yF c26
  simp only [Option.some.injEq,Prod.mk.injEq] at H
  obtain ⟨rfl,rfl,rfl,rfl⟩:=H
  have:=af.out
  have:=ag.out
  obtain ⟨_,_,_,_,_,_⟩:=yc3 aa
  go_wp2_with (first|((with_reducible refine gate_callee (f:=26) rfl ?_);refine ygl 35 Try.func26 #[.agg #[.int .u64 ai, .int .u32 aj, .slice aw ae.length ax], .int .i64 7, .int .i64 8, .int .i64 8] ?_;(with_reducible refine (coder_Put.calls bc ai aj _ _ ae 7 8 8 aC aD aA bk _ ?ak aN.out A25.out).mono ?_);(case ak=>exact ycb aM);rintro e w42 ⟨bP,rfl,ho0,hb⟩;refine ⟨_,rfl, ?_⟩;have ah:=zm (Kd.R_lower ho0 (zE yhb));replace aa:=ybb aa hb;replace ac:=ybb ac hb;replace HB:=ybs hb;(try clear hb);(try clear ho0))|((with_reducible refine gate_dst (N:=11) rfl ?_);refine ybx 11 #[.int .u64 0, .int .u32 0, .slice none 0 0] 54 ?_;intro bh hg w43 hbox hb;replace ah:=yRb ah hb;have al:=zm (hbox);have bD:=ygw hg;have bE:=ygw hg;replace HB:=ybs hb;have am:=ynl aa hg;have ao:=yng aa hg;replace aa:=ybb aa hb;have ap:=ynl ac hg;have aq:=yng ac hg;replace ac:=ybb ac hb;clear hb hbox hg;have:=ao.out;have:=am.out;have:=aq.out;have:=ap.out;obtain ⟨_,_,_,_,_,_⟩:=yc3 al;obtain ⟨bU,bV,bW⟩:=Kd.R_slice ah.out;subst bW;obtain ⟨_,_,_,_,_,_⟩:=yc3 ac))
  refine bodyPost_ret (results_ct rfl _ _ av 54 #[.int .u64 aC, .int .u32 aD, .slice bU aA.length bV] (0,0) _ rfl (ykp ac) Try.underlying54 rfl (by kernel_rfl)) rfl ?_
  exact ⟨_,ye,yR2 ah al ac,yhb⟩
end Go.Proofs.Ytnmbndkojpjkmaa.Prt
