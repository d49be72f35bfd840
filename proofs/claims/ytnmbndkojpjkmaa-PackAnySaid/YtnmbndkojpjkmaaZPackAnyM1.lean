-- Functions of the program and of the document as plain Lean, each with the proof that the code comes to it. Written by a program of this session (wip/tools/myprint.py, pack.py) over the kit's printer; Lean checks it.
import Derived.Test.YtnmbndkojpjkmaaZPackAnyPrt0
import Derived.Test.YtnmbndkojpjkmaaZPackAnySh2
import Derived.Test.YtnmbndkojpjkmaaZPackAnySh
import Derived.Test.YtnmbndkojpjkmaaZPackAnyWMore
import Derived.Laws.Rows
import Derived.Laws.Tables
import Derived.Deep.WholeRow
namespace Go.Proofs.Ytnmbndkojpjkmaa.Prt
open Go.RowKit Go.Proofs.YtnmbndkojpjkmaaW.PrintWords Go.Proofs.YtnmbndkojpjkmaaW.PrintLast Go.Proofs.YtnmbndkojpjkmaaW.PrintMore
attribute [local go_sem] max2_int min2_int max_two min_two max_three min_three max_four min_four   -- for this text's walks alone
set_option linter.unusedVariables false
set_option linter.unusedSimpArgs false
set_option maxHeartbeats 8000000
set_option maxRecDepth 100000


def alloc_Right.f (a0 : Int) (a1 : Int) : Option (Bool):=if a1=1 then (if a0 ≥ 11 then (some (decide (a0≤60))) else (some false)) else (if a1=2 then (if a0 ≥ 17 then (some (decide (a0≤60))) else (some false)) else (some false))
theorem alloc_Right.calls (a0 : Int) (a1 : Int) (r : Bool) (w : World) (h : alloc_Right.f a0 a1=some r) :
  Calls Try.prog 48 #[.int .i64 a0, .int .i64 a1] w fun e w' => e=.returned (.bool r)∧Drawn0 w w' := by
 have H:=h
 unfold alloc_Right.f at H
 clear h
 by_cases c3 : a1=1
 ·
  rw [za4 c3] at H
  obtain ⟨aa,ac⟩:=yE c3
  clear c3
  replace H:=yIl H
  obtain ⟨ae,H⟩ | ⟨ae,H⟩:=H
  ·
   obtain rfl:=zO H
   go_enter Try.func48,Try.ntmps48
   go_wp2
   go_ret
   exact ⟨yq,yd⟩
  obtain rfl:=zO H
  go_enter Try.func48,Try.ntmps48
  go_wp2
  go_ret
  exact ⟨yq,yd⟩
 rw [za5 c3] at H
 obtain ⟨aa,ac⟩:=yF c3
 by_cases c5 : a1=2
 ·
  rw [za4 c5] at H
  obtain ⟨af,ag⟩:=yE c5
  clear c5
  replace H:=yIl H
  obtain ⟨ah,H⟩ | ⟨ah,H⟩:=H
  ·
   obtain rfl:=zO H
   go_enter Try.func48,Try.ntmps48
   go_wp2
   go_ret
   exact ⟨yq,yd⟩
  obtain rfl:=zO H
  go_enter Try.func48,Try.ntmps48
  go_wp2
  go_ret
  exact ⟨yq,yd⟩
 rw [za5 c5] at H
 obtain ⟨af,ag⟩:=yF c5
 obtain rfl:=zO H
 go_enter Try.func48,Try.ntmps48
 go_wp2
 go_ret
 exact ⟨yq,yd⟩
def gain_Most.f (a0 : Bool) : Option (Int):=if a0=true then (some 30) else (some 45)
theorem gain_Most.calls (a0 : Bool) (r : Int) (w : World) (h : gain_Most.f a0=some r) :
  Calls Try.prog 92 #[.bool a0] w fun e w' => e=.returned (.int .i64 r)∧Drawn0 w w' := by
 have H:=h
 unfold gain_Most.f at H
 clear h
 by_cases c2 : a0=true
 ·
  subst c2
  rw [za4 rfl] at H
  obtain rfl:=zO H
  go_enter Try.func92,Try.ntmps92
  go_wp2
  go_ret
  exact ⟨yq,yd⟩
 replace c2:=za3.mpr c2
 subst c2
 rw [ynf] at H
 obtain rfl:=zO H
 go_enter Try.func92,Try.ntmps92
 go_wp2
 go_ret
 exact ⟨yq,yd⟩
def alloc_Room.f (a0 : Int) (a1 : Int) : Option (Int):=(alloc_Right.f a0 a1).bind fun aa=>(if aa=true then ((gain_Most.f false).bind fun ac=>(if a1=0 then (none) else (some (wrap64 (Int.tdiv (wrap64 ((wrap64 ((wrap64 (8 * a0)) - 41)) - (wrap64 (ac * a1)))) a1))))) else (some 0))
theorem alloc_Room.calls (a0 : Int) (a1 : Int) (r : Int) (w : World) (h : alloc_Room.f a0 a1=some r) :
  Calls Try.prog 68 #[.int .i64 a0, .int .i64 a1] w fun e w' => e=.returned (.int .i64 r)∧Drawn0 w w' := by
 have H:=h
 unfold alloc_Room.f at H
 clear h
 obtain ⟨aa,A3,H⟩:=ybi H
 by_cases c4 : aa=true
 ·
  subst c4
  rw [za4 rfl] at H
  obtain ⟨ac,A5,H⟩:=ybi H
  obtain ⟨c6,H⟩:=yie H
  obtain ⟨ae,af⟩:=yF c6
  obtain rfl:=zO H
  go_enter Try.func68,Try.ntmps68
  go_wp2_with (first|((with_reducible refine zK (f:=48) rfl ?_);refine ygl 7 Try.func48 #[.int .i64 a0, .int .i64 a1] ?_;(with_reducible refine (alloc_Right.calls a0 a1 true _ A3.out).mono ?_);rintro e w' ⟨rfl,⟨nd,rfl⟩⟩;refine ⟨_,rfl, ?_⟩)|((with_reducible refine zK (f:=92) rfl ?_);refine ygl 12 Try.func92 #[.bool false] ?_;(with_reducible refine (gain_Most.calls false ac _ A5.out).mono ?_);rintro e w' ⟨rfl,⟨nd,rfl⟩⟩;refine ⟨_,rfl, ?_⟩))
  go_ret
  exact ⟨yq,yd⟩
 replace c4:=za3.mpr c4
 subst c4
 rw [ynf] at H
 obtain rfl:=zO H
 go_enter Try.func68,Try.ntmps68
 go_wp2_with (first|((with_reducible refine zK (f:=48) rfl ?_);refine ygl 7 Try.func48 #[.int .i64 a0, .int .i64 a1] ?_;(with_reducible refine (alloc_Right.calls a0 a1 false _ A3.out).mono ?_);rintro e w' ⟨rfl,⟨nd,rfl⟩⟩;refine ⟨_,rfl, ?_⟩))
 go_ret
 exact ⟨yq,yd⟩
def band_there.f (a0 : Int) : Option (Bool):=if a0 ≥ 0 then (some (decide (a0 < 5))) else (some false)
theorem band_there.calls (a0 : Int) (r : Bool) (w : World) (h : band_there.f a0=some r) :
  Calls Try.prog 73 #[.int .i64 a0] w fun e w' => e=.returned (.bool r)∧Drawn0 w w' := by
 have H:=h
 unfold band_there.f at H
 clear h
 replace H:=yIl H
 obtain ⟨aa,H⟩ | ⟨aa,H⟩:=H
 ·
  obtain rfl:=zO H
  go_enter Try.func73,Try.ntmps73
  go_wp2
  go_ret
  exact ⟨yq,yd⟩
 obtain rfl:=zO H
 go_enter Try.func73,Try.ntmps73
 go_wp2
 go_ret
 exact ⟨yq,yd⟩
def band_From.f (a0 : Int) : Option (Int):=(band_there.f a0).bind fun af=>(if af=true then (if a0=0 then (some 0) else (if 0≤(wrap64 (a0 - 1)) then (some (shl .i64 1 (wrap64 (a0 - 1)))) else (none))) else (some 0))
theorem band_From.calls (a0 : Int) (r : Int) (w : World) (h : band_From.f a0=some r) :
  Calls Try.prog 74 #[.int .i64 a0] w fun e w' => e=.returned (.int .i64 r)∧Drawn0 w w' := by
 have H:=h
 unfold band_From.f at H
 clear h
 obtain ⟨af,A2,H⟩:=ybi H
 by_cases c3 : af=true
 ·
  subst c3
  rw [za4 rfl] at H
  by_cases c4 : a0=0
  ·
   rw [za4 c4] at H
   obtain ⟨ag,ah⟩:=yE c4
   clear c4
   obtain rfl:=zO H
   go_enter Try.func74,Try.ntmps74
   go_wp2_with (first|((with_reducible refine zK (f:=73) rfl ?_);refine ygl 4 Try.func73 #[.int .i64 a0] ?_;(with_reducible refine (band_there.calls a0 true _ A2.out).mono ?_);rintro e w' ⟨rfl,⟨nd,rfl⟩⟩;refine ⟨_,rfl, ?_⟩))
   go_ret
   exact ⟨yq,yd⟩
  rw [za5 c4] at H
  obtain ⟨ag,ah⟩:=yF c4
  obtain ⟨ji5,ac⟩ : ∃ j_ : Int,(wrap64 (a0 - 1))=j_:=⟨_,rfl⟩
  (first|rw [ac] at H|simp only [ac] at H)
  (try rw [ac] at A2)
  have hji5w : (IntKind.i64.wrap (a0 - 1))=ji5:=(i64_w _).trans ac
  obtain ⟨c6,H⟩:=yif H
  have ai:=zP c6
  have aj : decide (0≤(ji5))=true:=decide_eq_true c6
  clear c6
  obtain ⟨ji7,aa⟩ : ∃ j_ : Int,(shl .i64 1 (ji5))=j_:=⟨_,rfl⟩
  (first|rw [aa] at H|simp only [aa] at H)
  (try rw [aa] at A2)
  have ae : (IntKind.i64.wrap (1 * 2 ^ min (ji5).toNat 64))=ji7:=aa
  have hji7z : (ji5)≤64→(IntKind.i64.wrap (1 * 2 ^ (ji5).toNat))=ji7:=shl_small aa
  have hji7u : (IntKind.i64.wrap (2 ^ min (ji5).toNat 64))=ji7:=by have h_:=ae;rw [Int.one_mul] at h_;exact h_
  have hji7v : (ji5)≤64→(IntKind.i64.wrap (2 ^ (ji5).toNat))=ji7:=fun hle_=>by have h_:=hji7z hle_;rw [Int.one_mul] at h_;exact h_
  have hji7y : (wrap64 (1 * 2 ^ min (ji5).toNat 64))=ji7:=(i64_w _).symm.trans ae
  have hji7x : (ji5)≤64→(wrap64 (1 * 2 ^ (ji5).toNat))=ji7:=fun h_=>(i64_w _).symm.trans (hji7z h_)
  obtain rfl:=zO H
  go_enter Try.func74,Try.ntmps74
  go_wp2_with (first|((with_reducible refine zK (f:=73) rfl ?_);refine ygl 4 Try.func73 #[.int .i64 a0] ?_;(with_reducible refine (band_there.calls a0 true _ A2.out).mono ?_);rintro e w' ⟨rfl,⟨nd,rfl⟩⟩;refine ⟨_,rfl, ?_⟩))
  go_ret
  exact ⟨by first|rfl|(simp;done)|(simp only [← ac, ← aa] <;> (first|rfl|simp))|(simp [*];done),yd⟩
 replace c3:=za3.mpr c3
 subst c3
 rw [ynf] at H
 obtain rfl:=zO H
 go_enter Try.func74,Try.ntmps74
 go_wp2_with (first|((with_reducible refine zK (f:=73) rfl ?_);refine ygl 4 Try.func73 #[.int .i64 a0] ?_;(with_reducible refine (band_there.calls a0 false _ A2.out).mono ?_);rintro e w' ⟨rfl,⟨nd,rfl⟩⟩;refine ⟨_,rfl, ?_⟩))
 go_ret
 exact ⟨yq,yd⟩
def band_Width.f (a0 : Int) : Option (Int):=(band_there.f a0).bind fun ae=>(if ae=true then ((band_From.f a0).bind fun ac=>(some (mx 1 ac))) else (some 0))
theorem band_Width.calls (a0 : Int) (r : Int) (w : World) (h : band_Width.f a0=some r) :
  Calls Try.prog 32 #[.int .i64 a0] w fun e w' => e=.returned (.int .i64 r)∧Below w.heap.size w w' := by
 have HB:=zm (zY w.heap.size w);have H:=h
 unfold band_Width.f at H
 clear h
 obtain ⟨ae,A2,H⟩:=ybi H
 by_cases c3 : ae=true
 ·
  subst c3
  rw [za4 rfl] at H
  obtain ⟨ac,A4,H⟩:=ybi H
  obtain ⟨ji5,aa⟩ : ∃ j_ : Int,(mx 1 ac)=j_:=⟨_,rfl⟩
  (first|rw [aa] at H|simp only [aa] at H)
  (try rw [aa] at A2)
  (try rw [aa] at A4)
  (try (have hji5l : 1≤ji5:=by (rw [← aa];unfold mx;(repeat' split) <;> omega)))
  (try (have hji5m : 0≤ji5:=by omega))
  have af : (if 1 < ac then ac else 1)=ji5:=aa
  obtain rfl:=zO H
  go_enter Try.func32,Try.ntmps32
  go_wp2_with (first|((with_reducible refine zK (f:=73) rfl ?_);refine ygl 4 Try.func73 #[.int .i64 a0] ?_;(with_reducible refine (band_there.calls a0 true _ A2.out).mono ?_);rintro e w' ⟨rfl,⟨nd,rfl⟩⟩;refine ⟨_,rfl, ?_⟩)|((with_reducible refine zK (f:=74) rfl ?_);refine ygl 7 Try.func74 #[.int .i64 a0] ?_;(with_reducible refine (band_From.calls a0 ac _ A4.out).mono ?_);rintro e w' ⟨rfl,⟨nd,rfl⟩⟩;refine ⟨_,rfl, ?_⟩))
  go_ret
  exact ⟨by first|rfl|(simp [errW_none,errW_some] <;> rfl)|(simp only [← aa];first|rfl|(simp [errW_none,errW_some] <;> rfl))|(simp [*,errW_none,errW_some] <;> rfl),yhb⟩
 replace c3:=za3.mpr c3
 subst c3
 rw [ynf] at H
 obtain rfl:=zO H
 go_enter Try.func32,Try.ntmps32
 go_wp2_with (first|((with_reducible refine zK (f:=73) rfl ?_);refine ygl 4 Try.func73 #[.int .i64 a0] ?_;(with_reducible refine (band_there.calls a0 false _ A2.out).mono ?_);rintro e w' ⟨rfl,⟨nd,rfl⟩⟩;refine ⟨_,rfl, ?_⟩))
 go_ret
 exact ⟨ye,yhb⟩
def alloc_most.f (a0 : Int) : Option (Int):=(band_Width.f a0).bind fun aa=>(if aa=1 then (some 1) else (some 12))
theorem alloc_most.calls (a0 : Int) (r : Int) (w : World) (h : alloc_most.f a0=some r) :
  Calls Try.prog 69 #[.int .i64 a0] w fun e w' => e=.returned (.int .i64 r)∧Below w.heap.size w w' := by
 have HB:=zm (zY w.heap.size w);have H:=h
 unfold alloc_most.f at H
 clear h
 obtain ⟨aa,A2,H⟩:=ybi H
 by_cases c3 : aa=1
 ·
  rw [za4 c3] at H
  obtain ⟨ac,ae⟩:=yE c3
  clear c3
  obtain rfl:=zO H
  go_enter Try.func69,Try.ntmps69
  go_wp2_with (first|((with_reducible refine zK (f:=32) rfl ?_);refine ygl 4 Try.func32 #[.int .i64 a0] ?_;(with_reducible refine (band_Width.calls a0 aa _ A2.out).mono ?_);rintro e w4 ⟨rfl,hb⟩;refine ⟨_,rfl, ?_⟩;replace HB:=ybs hb;(try clear hb)))
  go_ret
  exact ⟨ye,yhb⟩
 rw [za5 c3] at H
 obtain ⟨ac,ae⟩:=yF c3
 obtain rfl:=zO H
 go_enter Try.func69,Try.ntmps69
 go_wp2_with (first|((with_reducible refine zK (f:=32) rfl ?_);refine ygl 4 Try.func32 #[.int .i64 a0] ?_;(with_reducible refine (band_Width.calls a0 aa _ A2.out).mono ?_);rintro e w5 ⟨rfl,hb⟩;refine ⟨_,rfl, ?_⟩;replace HB:=ybs hb;(try clear hb)))
 go_ret
 exact ⟨ye,yhb⟩
def comb_fair.f (a0 : Int) (a1 : Int) : Option (Bool):=if a0 ≥ 1 then (if a0≤16 then (if a1 ≥ 0 then (some (decide (a1≤12))) else (some false)) else (some false)) else (some false)
theorem comb_fair.calls (a0 : Int) (a1 : Int) (r : Bool) (w : World) (h : comb_fair.f a0 a1=some r) :
  Calls Try.prog 71 #[.int .i64 a0, .int .i64 a1] w fun e w' => e=.returned (.bool r)∧Drawn0 w w' := by
 have H:=h
 unfold comb_fair.f at H
 clear h
 replace H:=yIl H
 obtain ⟨aa,H⟩ | ⟨aa,H⟩:=H
 ·
  by_cases c4 : a0≤16
  ·
   rw [za4 c4] at H
   have ac:=yD c4
   clear c4
   replace H:=yIl H
   obtain ⟨ae,H⟩ | ⟨ae,H⟩:=H
   ·
    obtain rfl:=zO H
    go_enter Try.func71,Try.ntmps71
    go_wp2
    go_ret
    exact ⟨yq,yd⟩
   obtain rfl:=zO H
   go_enter Try.func71,Try.ntmps71
   go_wp2
   go_ret
   exact ⟨yq,yd⟩
  rw [za5 c4] at H
  have ac:=yG c4
  clear c4
  obtain rfl:=zO H
  go_enter Try.func71,Try.ntmps71
  go_wp2
  go_ret
  exact ⟨yq,yd⟩
 obtain rfl:=zO H
 go_enter Try.func71,Try.ntmps71
 go_wp2
 go_ret
 exact ⟨yq,yd⟩
end Go.Proofs.Ytnmbndkojpjkmaa.Prt

namespace Go.Proofs.Ytnmbndkojpjkmaa.Prt
open Go Go.RowKit Go.Proofs.YtnmbndkojpjkmaaW.PrintWords Go.Proofs.YtnmbndkojpjkmaaW.PrintLast Go.Proofs.YtnmbndkojpjkmaaW.PrintMore
set_option linter.unusedVariables false
set_option linter.unusedSimpArgs false
set_option maxHeartbeats 8000000
set_option maxRecDepth 100000


theorem comb_table.zeroes : ∃ Z : Array Value,(∀ W,(zeroValue 118).run Try.prog W=.ok (.agg Z) W)∧Z.toList=encs (Value.int .u64) (List.replicate 221 0):=⟨_,fun _=>rfl,by rfl⟩
/-- A block of numbers, as its cells. -/
def ABl (xs : List Int) : Array Value:=(encs (Value.int .u64) xs).toArray
theorem ABl_get {xs : List Int} {i : Nat} (h : i < xs.length) : (ABl xs)[i]? = some (.int .u64 (xs.getD i 0)):=by
 unfold ABl
 rw [List.getElem?_toArray]
 exact encs_get xs i h
theorem ABl_set (xs : List Int) (i : Nat) (v : Int) : (ABl xs).setIfInBounds i (.int .u64 v)=ABl (xs.set i v):=by
 unfold ABl encs
 rw [za9,List.map_set]
theorem ABl_size (xs : List Int) : (ABl xs).size=xs.length:=by
 unfold ABl
 rw [List.size_toArray,encs_length]
theorem ABl_one (xs : List Int) : (ABl xs).all (·.oneCell')=true:=by
 rw [Array.all_eq_true_iff_forall_mem]
 intro v hv
 unfold ABl encs at hv
 rw [List.mem_toArray,List.mem_map] at hv
 obtain ⟨n,_,rfl⟩:=hv
 rfl
section
variable {P : Program}
/-- A whole array is stored, cell by cell. -/
theorem storeCells_row (w : World) (g : Nat) (t ty : TypeId) (old cells : Array Value) (hg : w.heap[g]? = some (.cells old t (0,0))) (hi : (P.info? ty).map (·.size)=some cells.size) (ho : old.size=cells.size) (h1 : cells.all (·.oneCell')=true) :
  (storeCells ⟨g,0,none⟩ cells.toList 0).run P w=.ok () (w.setRow g cells):=by
 have h:=run_storeVar_row (P:=P) w g t ty old cells hg hi ho h1
 cases hq : P.info? ty with
 | none=>simp [hq] at hi
 | some i =>
  have hs : cells.size=i.size:=by
   simp [hq] at hi
   omega
  simpa [storeVar,sizeOf,typeInfo,hq,Value.cells,hs] using h
end
theorem below_row {w0 w : World} {B g : Nat} (h : Below B w0 w) (hg : B≤g) (cs : Array Value) : Below B w0 (w.setRow g cs):=⟨h.os,h.tape,h.output,by rw [setRow_size];exact h.size,fun k hk=>(setRow_other _ _ _ _ (by omega)).trans (h.block k hk)⟩
namespace comb_table
def new (xs : List Int) (n k : Nat) : Int:=IntKind.u64.wrap (IntKind.u64.wrap (xs.getD ((n-1)*13+k) 0+xs.getD (n*13+(k-1)) 0)+xs.getD ((n-1)*13+(k-1)) 0)
/-- Row n made up to place k. -/
def U (xs : List Int) (n : Nat) : Nat→List Int
 | 0=>xs.set (n*13) 1
 | k+1=>(U xs n k).set (n*13+(k+1)) (new (U xs n k) n (k+1))
/-- The rows up to n made. -/
def T : Nat→List Int
 | 0=>(List.replicate 221 0).set 0 1
 | n+1=>U (T n) (n+1) 12
theorem U_len (xs : List Int) (n : Nat) : ∀ k,(U xs n k).length=xs.length
 | 0=>by rw [U,List.length_set]
 | k+1=>by rw [U,List.length_set,U_len xs n k]
theorem T_len : ∀ n,(T n).length=221
 | 0=>by rw [T,List.length_set,List.length_replicate]
 | n+1=>by rw [T,U_len,T_len n]
theorem size16 : (Try.prog.info? 118).map (·.size)=some (ABl (T 16)).size:=by
 rw [ABl_size,T_len]
 kernel_rfl
def T10 : Bool × List (List Nat × List Nat):=(true, [([], []),([], []),([], []),([2], [2]),([], []),([3], [3]),([5,4], [4,5]),([6], [6]),([], []),([], []),([9], [9]),([8], [8]),([11,10], [10,11]),([12], [12]),([7,13], [7,13]),([], []),([15], [15]),([], []),([17], [17]),([16], [16]),([19,18], [18,19]),([20], [20]),([14,21], [14,21]),([0], [0]),([23,1,0,1,2,3,4,5,6,7,8,9,10,11,12,13,14,15,16,17,18,19,20,21,22], [1,23]),([24,22,0,1,2,3,4,5,6,7,8,9,10,11,12,13,14,15,16,17,18,19,20,21,22], [22,24])])
def B10 : List Nat := [0,0,0,4,0,12,60,124,0,0,512,256,3840,7936,16380,0,32768,0,131072,98304,1015808,2064384,4194300,1,16777215,33554431]
theorem tab10 : rtab .any (opsOf Try.f72 10)=T10:=by kernel_rfl
theorem bits10 : waitsOk T10.2 B10=true:=by kernel_rfl
end comb_table
theorem comb_table.made (w : World) : Calls Try.prog 72 #[] w fun e w' => e=.returned (.agg (ABl (comb_table.T 16)))∧Below w.heap.size w w' := by
 obtain ⟨Z,hz,hZ⟩:=comb_table.zeroes
 have hZ' : Aside0 (Z=ABl (List.replicate 221 0)):=⟨by
  unfold ABl
  rw [← hZ]⟩
 clear hZ
 have hb2 : ((w.alloc (.cells Z 118)).alloc (.cells Z 118)).heap[w.heap.size+1]? = some (.cells Z 118 (0,0)):=by
  have:=blk_new (w.alloc (.cells Z 118)) (.cells Z 118)
  simpa using this
 have hc1 : ((w.alloc (.cells Z 118)).alloc (.cells Z 118)).cell? ⟨w.heap.size+1,0,none⟩=some (.int .u64 0):=by
  rw [zs hb2 0,hZ'.out,ABl_get (by rw [List.length_replicate];decide)]
  rfl
 have hf1 : ((w.alloc (.cells Z 118)).alloc (.cells Z 118)).frozen? ⟨w.heap.size+1,0,none⟩=false:=zx hb2 0
 have hb1 : (((w.alloc (.cells Z 118)).alloc (.cells (Z.setIfInBounds 0 (.int .u64 1)) 118))).heap[w.heap.size+1]? = some (.cells (ABl (comb_table.T 0)) 118 (0,0)):=by
  have h0 : Z.setIfInBounds 0 (.int .u64 1)=ABl (comb_table.T 0):=by
   rw [hZ'.out,ABl_set]
   rfl
  have e1 : (w.alloc (.cells Z 118)).heap.size=w.heap.size+1:=by simp
  have h1:=blk_new (w.alloc (.cells Z 118)) (.cells (ABl (comb_table.T 0)) 118)
  rw [e1] at h1
  rw [h0]
  exact h1
 have hb0 : (((w.alloc (.cells Z 118)).alloc (.cells (Z.setIfInBounds 0 (.int .u64 1)) 118))).heap[w.heap.size]? = some (.cells Z 118 (0,0)):=zi (blk_new w _) _
 have HB : Aside0 (Below w.heap.size w ((w.alloc (.cells Z 118)).alloc (.cells (Z.setIfInBounds 0 (.int .u64 1)) 118))):=⟨ze (ze (zY _ _) _) _⟩
 clear hb2
 go_enter Try.func72,Try.ntmps72
 go_wp2
 clear hc1 hf1
 generalize ((w.alloc (.cells Z 118)).alloc (.cells (Z.setIfInBounds 0 (.int .u64 1)) 118))=W1 at hb1 hb0 HB ⊢
 have HC:=zm hb1;have HZ0:=zm hb0;clear hb1 hb0
 go_loopg [2] 16 (fun kq v2 w' => ∃ (n : Nat) (x : Int),v2=.int .i64 x∧Aside0 (x=((n+1 : Nat) : Int))∧Aside0 (n+kq=16)∧Aside0 (w'.heap[w.heap.size+1]? = some (.cells (ABl (comb_table.T n)) 118 (0,0)))∧Aside0 (w'.heap[w.heap.size]? = some (.cells Z 118 (0,0)))∧Aside0 (Below w.heap.size w w'))
 case atStart=>exact ⟨0,1,rfl,⟨rfl⟩,⟨rfl⟩,HC,HZ0,HB⟩
 case round =>
  clear HC HZ0 HB
  obtain ⟨n,x,rfl,HX,HN,HC,HZ0,HB⟩:=hrel
  by_cases c9 : x≤16
  ·
   have ai : decide (x≤16)=true:=decide_eq_true c9
   have hx0 : (0≤x)=True:=zP (by have:=HX.out;omega)
   have hx1 : (x < 17)=True:=zP (by omega)
   have hxn : x.toNat=n+1:=by have:=HX.out;omega
   obtain ⟨n',rfl⟩ : ∃ q,gk=q+1:=⟨gk - 1,by have:=HN.out;have:=HX.out;omega⟩
   have ae : n < 16:=by have:=HX.out;omega
   have hcl : wr.cell? ⟨w.heap.size+1,x.toNat * 13,none⟩=some (.int .u64 ((comb_table.T n).getD (x.toNat * 13) 0)):=by
    rw [zs HC.out,ABl_get (by rw [comb_table.T_len];omega)]
   have hfr : wr.frozen? ⟨w.heap.size+1,x.toNat * 13,none⟩=false:=zx HC.out _
   have HXN:=zm hxn;have aa:=zm ae;clear c9 hxn ae
   go_wp2
   have n1_ : Aside0 ((wr.setCell ⟨w.heap.size+1,x.toNat * 13,none⟩ (.int .u64 1)).heap[w.heap.size+1]? = some (.cells (ABl (comb_table.U (comb_table.T n) (n+1) 0)) 118 (0,0))):=⟨by
    have h1:=blk_set HC.out (x.toNat * 13) (.int .u64 1)
    rw [ABl_set,HXN.out] at h1
    rw [HXN.out]
    exact h1⟩
   have n2_ : Aside0 ((wr.setCell ⟨w.heap.size+1,x.toNat * 13,none⟩ (.int .u64 1)).heap[w.heap.size]? = some (.cells Z 118 (0,0))):=⟨zv HZ0.out (by simp) _⟩
   have n3_ : Aside0 (Below w.heap.size w (wr.setCell ⟨w.heap.size+1,x.toNat * 13,none⟩ (.int .u64 1))):=⟨zk HB.out (by omega)⟩
   clear HC HZ0 HB hcl hfr
   generalize (wr.setCell ⟨w.heap.size+1,x.toNat * 13,none⟩ (.int .u64 1))=W2 at n1_ n2_ n3_ ⊢
   go_loopg [3] 12 (fun kq v3 w' => ∃ (j : Nat) (y : Int),v3=.int .i64 y∧Aside0 (y=((j+1 : Nat) : Int))∧Aside0 (j+kq=12)∧Aside0 (w'.heap[w.heap.size+1]? = some (.cells (ABl (comb_table.U (comb_table.T n) (n+1) j)) 118 (0,0)))∧Aside0 (w'.heap[w.heap.size]? = some (.cells Z 118 (0,0)))∧Aside0 (Below w.heap.size w w'))
   case atStart=>exact ⟨0,1,rfl,⟨rfl⟩,⟨rfl⟩,n1_,n2_,n3_⟩
   case round =>
    clear n1_ n2_ n3_
    obtain ⟨j,y,rfl,HY,HJ,HC,HZ0,HB⟩:=hrel
    by_cases c16 : y≤12
    ·
     have af : decide (y≤12)=true:=decide_eq_true c16
     have hy0 : (0≤y)=True:=zP (by have:=HY.out;omega)
     have hy1 : (y < 13)=True:=zP (by omega)
     have hyn : y.toNat=j+1:=by have:=HY.out;omega
     have hj11 : j < 12:=by have:=HY.out;omega
     obtain ⟨j',rfl⟩ : ∃ q,gk=q+1:=⟨gk - 1,by have:=HJ.out;omega⟩
     obtain ⟨xm,hxm⟩ : ∃ j_ : Int,wrap64 (x - 1)=j_:=⟨_,rfl⟩
     have hxmw : (IntKind.i64.wrap (x - 1))=xm:=(i64_w _).trans hxm
     obtain ⟨ym,hym⟩ : ∃ j_ : Int,wrap64 (y - 1)=j_:=⟨_,rfl⟩
     have hymw : (IntKind.i64.wrap (y - 1))=ym:=(i64_w _).trans hym
     have hxe : xm=(n : Int):=by rw [← hxm];have:=HX.out;have:=aa.out;unfold wrap64;omega
     have hye : ym=(j : Int):=by rw [← hym];have:=HY.out;unfold wrap64;omega
     have hxm0 : (0≤xm)=True:=zP (by omega)
     have hxm1 : (xm < 17)=True:=zP (by have:=aa.out;omega)
     have hym0 : (0≤ym)=True:=zP (by omega)
     have hym1 : (ym < 13)=True:=zP (by omega)
     have hxmn : xm.toNat=n:=by omega
     have hymn : ym.toNat=j:=by omega
     have ac:=zm hj11;have HYN:=zm hyn;have HXM:=zm hxmn;have HYM:=zm hymn
     obtain ⟨X,hXd⟩ : ∃ X,X=comb_table.U (comb_table.T n) (n+1) j:=⟨_,rfl⟩
     have hXl : X.length=221:=by rw [hXd,comb_table.U_len,comb_table.T_len]
     rw [← hXd] at HC
     have HXD:=zm hXd;have HXL:=zm hXl;clear hXd hXl c16 hyn hj11 hxmn hymn hxe hye hxm hym
     try go_wp2
     have n1_:=zm (zj HC.out);have n2_:=zm (zj HZ0.out);have n3_:=zm (zf HB.out);clear HC HZ0 HB;have HC:=n1_;have HZ0:=n2_;have HB:=n3_;clear n1_ n2_ n3_
     obtain ⟨va,hva⟩ : ∃ v_,v_=X.getD (xm.toNat * 13+y.toNat) 0:=⟨_,rfl⟩
     obtain ⟨vb,hvb⟩ : ∃ v_,v_=X.getD (x.toNat * 13+ym.toNat) 0:=⟨_,rfl⟩
     obtain ⟨vc,hvc⟩ : ∃ v_,v_=X.getD (xm.toNat * 13+ym.toNat) 0:=⟨_,rfl⟩
     have HVA:=zm hva;have HVB:=zm hvb;have HVC:=zm hvc;clear hva hvb hvc
     have hx1 : wr.drew.cell? ⟨w.heap.size+1,xm.toNat * 13+y.toNat,none⟩=some (.int .u64 va):=by
      rw [zs HC.out,HVA.out,ABl_get (by have:=HXL.out;have:=HXM.out;have:=HYN.out;have:=aa.out;have:=ac.out;omega)]
     have hx2 : wr.drew.cell? ⟨w.heap.size+1,x.toNat * 13+ym.toNat,none⟩=some (.int .u64 vb):=by
      rw [zs HC.out,HVB.out,ABl_get (by have:=HXL.out;have:=HXN.out;have:=HYM.out;have:=aa.out;have:=ac.out;omega)]
     have hx3 : wr.drew.cell? ⟨w.heap.size+1,xm.toNat * 13+ym.toNat,none⟩=some (.int .u64 vc):=by
      rw [zs HC.out,HVC.out,ABl_get (by have:=HXL.out;have:=HXM.out;have:=HYM.out;have:=aa.out;have:=ac.out;omega)]
     have hx4 : wr.drew.cell? ⟨w.heap.size+1,x.toNat * 13+y.toNat,none⟩=some (.int .u64 (X.getD (x.toNat * 13+y.toNat) 0)):=by
      rw [zs HC.out,ABl_get (by have:=HXL.out;have:=HXN.out;have:=HYN.out;have:=aa.out;have:=ac.out;omega)]
     have hf4 : wr.drew.frozen? ⟨w.heap.size+1,x.toNat * 13+y.toNat,none⟩=false:=zx HC.out _
     refine yst (fun w' => w'.cell? ⟨w.heap.size+1,xm.toNat * 13+y.toNat,none⟩=some (.int .u64 va)∧w'.cell? ⟨w.heap.size+1,x.toNat * 13+ym.toNat,none⟩=some (.int .u64 vb)∧w'.cell? ⟨w.heap.size+1,xm.toNat * 13+ym.toNat,none⟩=some (.int .u64 vc)) [25] 26 comb_table.tab10 comb_table.bits10 (fun hHeld HT_ HW_ => ?_) (hS:=⟨hx1,hx2,hx3⟩)
     generalize wr.drew=w30 at HC HZ0 HB hx1 hx2 hx3 hx4 hf4 hHeld ⊢
     refine yp 0 17 HT_ ?_
     refine yp 1 18 HT_ ?_
     refine yp 2 19 HT_ ?_
     refine yp 3 20 HT_ ?_
     refine yp 4 21 HT_ ?_
     refine yp 5 22 HT_ ?_
     refine yp 6 23 HT_ ?_
     refine yp 8 25 HT_ ?_
     refine yp 9 26 HT_ ?_
     refine yp 10 27 HT_ ?_
     refine yp 11 28 HT_ ?_
     refine yp 12 29 HT_ ?_
     refine yp 15 32 HT_ ?_
     refine yp 16 33 HT_ ?_
     refine yp 17 34 HT_ ?_
     refine yp 18 35 HT_ ?_
     refine yp 19 36 HT_ ?_
     refine yp 20 37 HT_ ?_
     refine yp 23 40 HT_ ?_
     refine yl 7 24 HT_ HW_ hHeld ?_
     refine yl 13 30 HT_ HW_ hHeld ?_
     refine yp 14 31 HT_ ?_
     refine yl 21 38 HT_ HW_ hHeld ?_
     refine yp 22 39 HT_ ?_
     refine yp 24 41 HT_ ?_
     refine last_ (i:=25) (N:=none) #[true,true,true,true,true,true,true,true,true,true,true,true,true,true,true,true,true,true,true,true,true,true,true,true,true,true] rfl rfl (one_of HT_.out (by kernel_rfl)) (by decide) (fun K hK => ?_)
     refine skip_ (w1 := ?_) (by rfl) rfl ?_ ?_
     rotate_left
     ·
      go_simp
      rfl
     refine hK.out _ _ ?_
     clear hK K
     refine done_ (done_of HT_.out (by kernel_rfl)) ?_
     try go_wp2
     go_roundg j'
     case measure=>omega
     case rel=>exact ⟨j+1,_,rfl,⟨by have:=HY.out;have:=ac.out;unfold wrap64;omega⟩,⟨yom1 HJ⟩,⟨by
      have h1:=blk_set HC.out (x.toNat * 13+y.toNat) (.int .u64 (comb_table.new X (n+1) (j+1)))
      rw [ABl_set] at h1
      have h2 : X.set (x.toNat * 13+y.toNat) (comb_table.new X (n+1) (j+1))=comb_table.U (comb_table.T n) (n+1) (j+1):=by
       rw [HXN.out,HYN.out,HXD.out]
       rfl
      have h3 : comb_table.new X (n+1) (j+1)=IntKind.u64.wrap (IntKind.u64.wrap (va+vb)+vc):=by
       rw [HVA.out,HVB.out,HVC.out,HXN.out,HYN.out,HXM.out,HYM.out]
       rfl
      rw [h2,h3] at h1
      exact h1⟩,⟨zv HZ0.out (by simp) _⟩,⟨zk HB.out (by omega)⟩⟩
    have af : decide (y≤12)=false:=decide_eq_false c16
    have hj12 : j=12:=by have:=HY.out;have:=HJ.out;omega
    have aj:=zm hj12;clear c16 hj12
    go_wp2
    go_roundg n'
    case measure=>omega
    case rel=>exact ⟨n+1,_,rfl,⟨by have:=HX.out;have:=aa.out;unfold wrap64;omega⟩,⟨yom1 HN⟩,⟨by rw [HC.out,aj.out];rfl⟩,HZ0,HB⟩
  have ai : decide (x≤16)=false:=decide_eq_false c9
  have ag : n=16:=by have:=HX.out;have:=HN.out;omega
  have ak:=zm ag;clear c9 ag
  have ah : wr.heap[w.heap.size+1]? = some (.cells (ABl (comb_table.T 16)) 118 (0,0)):=by
   rw [← ak.out]
   exact HC.out
  have HF:=zm ah;clear ah HC
  go_wp2
  refine wp_load_row 118 (.tmp 1) rfl (w.heap.size+1) rfl 118 _ (0,0) (.array 17 116) HF.out Try.underlying118 rfl comb_table.size16 ?_
  have hst:=storeCells_row (P:=Try.prog) wr w.heap.size 118 118 Z (ABl (comb_table.T 16)) HZ0.out comb_table.size16 (by rw [hZ'.out,ABl_size,ABl_size,comb_table.T_len,List.length_replicate]) (ABl_one _)
  go_wp2
  (try simp only [Exit.inBlock,Exit.then])
  refine za1 (zb2 rfl _ _ w.heap.size 118 (ABl (comb_table.T 16)) (0,0) (.array 17 116) rfl (setRow_heap _ _ _ _ _ _ HZ0.out) Try.underlying118 rfl comb_table.size16) rfl ?_
  exact ⟨rfl,below_row HB.out (zX _) _⟩

/-- What place k of row n holds. -/
def comb_table.f (a0 a1 : Int) : Option Int:=if 0≤a0 then (if a0 < 17 then (if 0≤a1 then (if a1 < 13 then some ((comb_table.T 16).getD (a0.toNat * 13+a1.toNat) 0) else none) else none) else none) else none
theorem comb_table.parts {n k t : Int} (h : comb_table.f n k=some t) : 0≤n∧n < 17∧0≤k∧k < 13∧t=(comb_table.T 16).getD (n.toNat * 13+k.toNat) 0:=by
 unfold comb_table.f at h
 split at h
 ·
  split at h
  ·
   split at h
   ·
    split at h
    ·
     exact ⟨by assumption,by assumption,by assumption,by assumption,(zO h).symm⟩
    exact absurd h (by simp)
   exact absurd h (by simp)
  exact absurd h (by simp)
 exact absurd h (by simp)
theorem comb_table.inn {n k t : Int} (h : comb_table.f n k=some t) : ((0≤n)=True)∧((n < 17)=True)∧((0≤k)=True)∧((k < 13)=True):=by
 obtain ⟨h0,h1,h2,h3,_⟩:=comb_table.parts h
 exact ⟨zP h0,zP h1,zP h2,zP h3⟩
theorem comb_table.look {W : World} {g : Nat} (hg : W.heap[g]? = some (.cells (ABl (comb_table.T 16)) 118 (0,0))) {n k t : Int} (h : comb_table.f n k=some t) : W.cell? ⟨g,n.toNat * 13+k.toNat,none⟩=some (.int .u64 t):=by
 obtain ⟨h0,h1,h2,h3,ht⟩:=comb_table.parts h
 rw [ht,zs hg,ABl_get (by rw [comb_table.T_len];omega)]
theorem comb_table.zsize : ∃ Z : Array Value,(∀ W,(zeroValue 118).run Try.prog W=.ok (.agg Z) W)∧Aside0 (Z.size=(ABl (comb_table.T 16)).size):=by
 obtain ⟨Z,hz,hZ⟩:=comb_table.zeroes
 refine ⟨Z,hz,⟨?_⟩⟩
 have h:=congrArg List.length hZ
 rw [Array.length_toList,encs_length,List.length_replicate] at h
 exact h.trans (by rw [ABl_size,comb_table.T_len])
end Go.Proofs.Ytnmbndkojpjkmaa.Prt

namespace Go.Proofs.Ytnmbndkojpjkmaa.Prt
open Go.RowKit Go.Proofs.YtnmbndkojpjkmaaW.PrintWords Go.Proofs.YtnmbndkojpjkmaaW.PrintLast Go.Proofs.YtnmbndkojpjkmaaW.PrintMore
attribute [local go_sem] max2_int min2_int max_two min_two max_three min_three max_four min_four   -- for this text's walks alone
set_option linter.unusedVariables false
set_option linter.unusedSimpArgs false
set_option maxHeartbeats 8000000
set_option maxRecDepth 100000


def comb_Count.f (a0 : Int) (a1 : Int) : Option (Int × Int):=(comb_fair.f a0 a1).bind fun ae=>(if ae=true then ((comb_table.f a0 a1).bind fun ac=>(some (ac,0))) else (some (0,1)))
theorem comb_Count.calls (a0 : Int) (a1 : Int) (r1 : Int) (r2 : Int) (w : World) (h : comb_Count.f a0 a1=some (r1,r2)) :
  Calls Try.prog 31 #[.int .i64 a0, .int .i64 a1] w fun e w' => e=.returned (.tuple #[.int .u64 r1, .int .i64 r2])∧Below w.heap.size w w' := by
 have HB:=zm (zY w.heap.size w);have H:=h
 unfold comb_Count.f at H
 clear h
 obtain ⟨ae,A3,H⟩:=ybi H
 by_cases c4 : ae=true
 ·
  subst c4
  rw [za4 rfl] at H
  obtain ⟨ag,aa⟩ : ∃ y_ : List Int,y_=(([0] : List Int)):=⟨_,rfl⟩
  replace H : ((comb_table.f a0 a1).bind fun ac=>(some (ac,0)))=some (r1,r2):=yrw aa H
  have af:=zm aa;clear aa
  obtain ⟨ac,A5,H⟩:=ybi H
  simp only [zM,zN] at H
  obtain ⟨rfl,rfl⟩:=H
  go_enter Try.func31,Try.ntmps31
  obtain ⟨Z,hz,HZs⟩:=comb_table.zsize
  obtain ⟨ia0,ib0,ic0,id0⟩:=comb_table.inn A5.out
  go_wp2_with (first|((with_reducible refine zK (f:=71) rfl ?_);refine ygl 9 Try.func71 #[.int .i64 a0, .int .i64 a1] ?_;(with_reducible refine (comb_fair.calls a0 a1 true _ A3.out).mono ?_);rintro e w' ⟨rfl,⟨nd,rfl⟩⟩;refine ⟨_,rfl, ?_⟩)|((with_reducible refine zK (f:=72) rfl ?_);refine goesL_ (some 11) rfl rfl Try.func72 (by kernel_rfl) rfl #[] rfl (by first|rfl|simp) ?_;(with_reducible refine (comb_table.made _).mono ?_);rintro e w5 ⟨rfl,hb5⟩;refine ⟨_,rfl, ?_⟩;have hst:=run_storeCells_new (P:=Try.prog) w5 118 Z (ABl (comb_table.T 16)) comb_table.size16 HZs.out (ABl_one _);have n1_:=zm (ze (zJ yhb hb5) (.cells (ABl (comb_table.T 16)) 118));clear HB;have HB:=n1_;clear n1_;have hbn:=zm (blk_new w5 (.cells (ABl (comb_table.T 16)) 118));have hcl0:=comb_table.look hbn.out A5.out))
  go_ret2
  exact ⟨ye,yhb⟩
 replace c4:=za3.mpr c4
 subst c4
 rw [ynf] at H
 simp only [zM,zN] at H
 obtain ⟨rfl,rfl⟩:=H
 go_enter Try.func31,Try.ntmps31
 go_wp2_with (first|((with_reducible refine zK (f:=71) rfl ?_);refine ygl 9 Try.func71 #[.int .i64 a0, .int .i64 a1] ?_;(with_reducible refine (comb_fair.calls a0 a1 false _ A3.out).mono ?_);rintro e w' ⟨rfl,⟨nd,rfl⟩⟩;refine ⟨_,rfl, ?_⟩))
 go_ret2
 exact ⟨ye,yhb⟩
def comb_width.l0 : Nat→Int→Int→Option (Int)
 | 0,_,_=>none
 | k+1,x0,x3=>if x0 > 0 then (comb_width.l0 k (x0 / 2) (wrap64 (x3+1))) else (some x3)
def comb_width.f (k : Nat) (a0 : Int) : Option (Int):=comb_width.l0 k a0 0
theorem comb_width.mono_l : ∀ k,(∀ y0 y1,LeO (comb_width.l0 k y0 y1) (comb_width.l0 (k+1) y0 y1))
 | 0=>fun _ _ r h=>by simp [comb_width.l0] at h
 | k+1=>by
  have ih0:=comb_width.mono_l k
  ·
   intro y0 y1
   unfold comb_width.l0
   exact yLm
theorem comb_width.mono : ∀ a0 k,LeO (comb_width.f k a0) (comb_width.f (k+1) a0):=by
 intro a0 k
 have ih0:=comb_width.mono_l k
 unfold comb_width.f
 exact yLm
theorem comb_width.calls (k : Nat) (a0 : Int) (r : Int) (w : World) (h : comb_width.f k a0=some r) :
  Calls Try.prog 100 #[.int .u64 a0] w fun e w' => e=.returned (.int .i64 r)∧Drawn0 w w' := by
 have H:=h
 unfold comb_width.f at H
 clear h
 have H' := zm H
 clear H
 go_enter Try.func100,Try.ntmps100
 go_wp2
 go_loopg [0,3] k (fun kq v0 v3 w' => ∃ (aa : Int) (ac : Int),v0=.int .u64 aa∧v3=.int .i64 ac∧Aside0 (comb_width.l0 kq aa ac=some r)∧Aside0 (kq≤k)∧Drawn0 w w')
 case atStart=>exact ⟨(a0),(0),yq,yq,H',⟨zX _⟩,yd⟩
 case round =>
  clear H'
  obtain ⟨aa,ac,rfl,rfl,HA,HK1,⟨m1,rfl⟩⟩:=hrel
  obtain ⟨k1,rfl⟩:=ysu gk (fun h=>by subst h;exact absurd HA.out (by simp [comb_width.l0]))
  have H:=HA.out;clear HA
  simp only [comb_width.l0] at H
  replace H:=yIs H
  obtain ⟨ae,H⟩ | ⟨ae,H⟩:=H
  ·
   have H' := zm H
   clear H
   go_wp2
   go_roundg k1
   case measure=>exact yom1 HK1
   case rel=>exact ⟨(aa / 2),(wrap64 (ac+1)),yq,yq,H',⟨yom1 HK1⟩,yd⟩
  obtain rfl:=zO H
  go_wp2
  go_ret
  exact ⟨yq,yd⟩
def comb_Cost.f (k : Nat) (a0 : Int) (a1 : Int) : Option (Int × Int):=(comb_Count.f a0 a1).bind fun aa=>(if aa.2=0 then (if (IntKind.u64.wrap (aa.1 - 1)) < 65536 then ((comb_width.f k (IntKind.u64.wrap (aa.1 - 1))).bind fun af=>(some (af,0))) else ((comb_width.f k ((IntKind.u64.wrap (aa.1 - 1)) / 65536)).bind fun ag=>(some (wrap64 (ag+16),0)))) else (some (0,aa.2)))
theorem comb_Cost.mono : ∀ a0 a1 k,LeO (comb_Cost.f k a0 a1) (comb_Cost.f (k+1) a0 a1):=by
 intro a0 a1 k
 unfold comb_Cost.f
 have i0:=@comb_width.mono
 exact yLm
theorem comb_Cost.calls (k : Nat) (a0 : Int) (a1 : Int) (r1 : Int) (r2 : Int) (w : World) (h : comb_Cost.f k a0 a1=some (r1,r2)) :
  Calls Try.prog 98 #[.int .i64 a0, .int .i64 a1] w fun e w' => e=.returned (.tuple #[.int .i64 r1, .int .i64 r2])∧Below w.heap.size w w' := by
 have HB:=zm (zY w.heap.size w);have H:=h
 unfold comb_Cost.f at H
 clear h
 obtain ⟨⟨ac,ae⟩,A3,H⟩:=ybi H
 try dsimp only at H
 by_cases c4 : ae=0
 ·
  rw [za4 c4] at H
  obtain ⟨ah,ai⟩:=yE c4
  clear c4
  replace H:=yId H
  obtain ⟨aj,H⟩ | ⟨aj,H⟩:=H
  ·
   obtain ⟨af,A6,H⟩:=ybi H
   simp only [zM,zN] at H
   obtain ⟨rfl,rfl⟩:=H
   go_enter Try.func98,Try.ntmps98
   go_wp2_with (first|((with_reducible refine zK (f:=31) rfl ?_);refine ygl 11 Try.func31 #[.int .i64 a0, .int .i64 a1] ?_;(with_reducible refine (comb_Count.calls a0 a1 ac ae _ A3.out).mono ?_);rintro e w7 ⟨rfl,hb⟩;refine ⟨_,rfl, ?_⟩;replace HB:=ybs hb;(try clear hb))|((with_reducible refine zK (f:=100) rfl ?_);refine ygl 22 Try.func100 #[.int .u64 (IntKind.u64.wrap (ac - 1))] ?_;(with_reducible refine (comb_width.calls k (IntKind.u64.wrap (ac - 1)) af _ A6.out).mono ?_);rintro e w' ⟨rfl,⟨nd,rfl⟩⟩;refine ⟨_,rfl, ?_⟩))
   go_ret2
   exact ⟨ye,yhb⟩
  obtain ⟨ag,A8,H⟩:=ybi H
  simp only [zM,zN] at H
  obtain ⟨rfl,rfl⟩:=H
  go_enter Try.func98,Try.ntmps98
  go_wp2_with (first|((with_reducible refine zK (f:=31) rfl ?_);refine ygl 11 Try.func31 #[.int .i64 a0, .int .i64 a1] ?_;(with_reducible refine (comb_Count.calls a0 a1 ac ae _ A3.out).mono ?_);rintro e w9 ⟨rfl,hb⟩;refine ⟨_,rfl, ?_⟩;replace HB:=ybs hb;(try clear hb))|((with_reducible refine zK (f:=100) rfl ?_);refine ygl 25 Try.func100 #[.int .u64 ((IntKind.u64.wrap (ac - 1)) / 65536)] ?_;(with_reducible refine (comb_width.calls k ((IntKind.u64.wrap (ac - 1)) / 65536) ag _ A8.out).mono ?_);rintro e w' ⟨rfl,⟨nd,rfl⟩⟩;refine ⟨_,rfl, ?_⟩))
  go_ret2
  exact ⟨ye,yhb⟩
 rw [za5 c4] at H
 obtain ⟨ah,ai⟩:=yF c4
 simp only [zM,zN] at H
 obtain ⟨rfl,rfl⟩:=H
 go_enter Try.func98,Try.ntmps98
 go_wp2_with (first|((with_reducible refine zK (f:=31) rfl ?_);refine ygl 11 Try.func31 #[.int .i64 a0, .int .i64 a1] ?_;(with_reducible refine (comb_Count.calls a0 a1 ac ae _ A3.out).mono ?_);rintro e w10 ⟨rfl,hb⟩;refine ⟨_,rfl, ?_⟩;replace HB:=ybs hb;(try clear hb)))
 go_ret2
 exact ⟨ye,yhb⟩
def alloc_cost.j0 : Nat→Int→List Int→Int→Bool→Option (Int × Bool)
 | 0,_,_,_,_=>none
 | k+1,x1,x2,x3,x33=>if x33=true then (some (0,false)) else ((band_Width.f x1).bind fun aj=>(if 0≤x1 then (if x1 < (x2.length : Int) then ((comb_Cost.f k aj (rd x2 x1)).bind fun am=>((band_Width.f x1).bind fun ak=>((comb_Cost.f k ak (wrap64 ((rd x2 x1)+1))).bind fun ao=>(some (wrap64 (ao.1 - am.1),decide ((wrap64 (ao.1 - am.1))≤x3)))))) else (none)) else (none)))
def alloc_cost.f (k : Nat) (l0 : List Int) (a1 : Int) (l2 : List Int) (a3 : Int) : Option (Int × Bool):=if 0≤a1 then (if a1 < (l0.length : Int) then (if (rd l0 a1)=0 then (alloc_cost.j0 k a1 l2 a3 true) else (if a1 < (l2.length : Int) then ((alloc_most.f a1).bind fun al=>(alloc_cost.j0 k a1 l2 a3 (decide ((rd l2 a1) ≥ al)))) else (none))) else (none)) else (none)
theorem alloc_cost.mono_l : ∀ k,(∀ y0 y1 y2 y3,LeO (alloc_cost.j0 k y0 y1 y2 y3) (alloc_cost.j0 (k+1) y0 y1 y2 y3))
 | 0=>fun _ _ _ _ r h=>by simp [alloc_cost.j0] at h
 | k+1=>by
  have ih0:=alloc_cost.mono_l k
  ·
   intro y0 y1 y2 y3
   unfold alloc_cost.j0
   have i0:=@comb_Cost.mono
   exact yLm
theorem alloc_cost.mono : ∀ a0 a1 a2 a3 k,LeO (alloc_cost.f k a0 a1 a2 a3) (alloc_cost.f (k+1) a0 a1 a2 a3):=by
 intro a0 a1 a2 a3 k
 have ih0:=alloc_cost.mono_l k
 unfold alloc_cost.f
 have i0:=@comb_Cost.mono
 exact yLm
def alloc_cost.T1 : Bool × List (List Nat × List Nat):=(true, [([], []),([0], [0]),([1], [1]),([2], [2]),([], []),([3,4], [3,4]),([5], [5]),([6], [6]),([7], [7]),([8], [8]),([9,8], [8,9]),([10,8], [8,10]),([11,8], [8,11]),([8], [8]),([12,13,8], [8,12,13]),([14,8], [8,14]),([8], [8]),([16,8], [8,16]),([17,8], [8,17]),([18,8], [8,18]),([8], [8]),([19,20,8,8], [8,19,20]),([15,21,8], [8,15,21]),([8,22], [8,22])])
def alloc_cost.B1 : List Nat := [0,1,3,7,0,31,63,127,255,511,1023,2047,4095,511,16383,32767,511,66047,197119,459263,511,2032127,4194303,8388607]
theorem alloc_cost.tab1 : rtab .any (opsOf Try.f93 1)=alloc_cost.T1:=by kernel_rfl
theorem alloc_cost.bits1 : waitsOk alloc_cost.T1.2 alloc_cost.B1=true:=by kernel_rfl
def alloc_cost.T3 : Bool × List (List Nat × List Nat):=(true, [([], []),([0], [0]),([], []),([2], [2]),([3], [3]),([4], [4]),([], []),([5,6], [5,6]),([7], [7]),([1,8,1], [1,8]),([9], [9]),([10], [10]),([10], [10]),([11,9,0,1,2,3,4,5,6,7,8,9,10,11], [11]),([12,13,0,1,2,3,4,5,6,7,8,9,10,11,12,13], [12])])
def alloc_cost.B3 : List Nat := [0,1,0,4,12,28,0,124,252,511,1023,2047,2047,4095,16383]
theorem alloc_cost.tab3 : rtab .any (opsOf Try.f93 3)=alloc_cost.T3:=by kernel_rfl
theorem alloc_cost.bits3 : waitsOk alloc_cost.T3.2 alloc_cost.B3=true:=by kernel_rfl
def alloc_cost.T4 : Bool × List (List Nat × List Nat):=(true, [([], []),([0], [0]),([], []),([2], [2]),([3], [3]),([4], [4]),([], []),([5,6], [5,6]),([7], [7]),([8], [8]),([1,9,1], [1,9]),([10], [10]),([11], [11]),([11], [11]),([12,10,0,1,2,3,4,5,6,7,8,9,10,11,12], [12]),([13,14,0,1,2,3,4,5,6,7,8,9,10,11,12,13,14], [13])])
def alloc_cost.B4 : List Nat := [0,1,0,4,12,28,0,124,252,508,1023,2047,4095,4095,8191,32767]
theorem alloc_cost.tab4 : rtab .any (opsOf Try.f93 4)=alloc_cost.T4:=by kernel_rfl
theorem alloc_cost.bits4 : waitsOk alloc_cost.T4.2 alloc_cost.B4=true:=by kernel_rfl
def alloc_cost.T5 : Bool × List (List Nat × List Nat):=(true, [([], []),([], []),([0,1], [0,1]),([], []),([], []),([3,4], [3,4]),([], []),([6], [6]),([7], [7]),([8], [8]),([5,9], [5,9]),([2,0,1,2], [2]),([10,11,0,1,2,3,4,5,6,7,8,9,10,11], [10])])
def alloc_cost.B5 : List Nat := [0,0,3,0,0,24,0,64,192,448,1016,7,4095]
theorem alloc_cost.tab5 : rtab .any (opsOf Try.f93 5)=alloc_cost.T5:=by kernel_rfl
theorem alloc_cost.bits5 : waitsOk alloc_cost.T5.2 alloc_cost.B5=true:=by kernel_rfl
theorem alloc_cost.calls (k : Nat) (B : Nat) (A0 : Option Addr) (c0 : Nat) (l0 : List Int) (a1 : Int) (A2 : Option Addr) (c2 : Nat) (l2 : List Int) (a3 : Int) (r1 : Int) (r2 : Bool) (w : World) (hr0 : Kd.C (Kd.int .i64) w A0 l0.length l0) (hc0 : l0.length≤c0) (hr2 : Kd.C (Kd.int .i64) w A2 l2.length l2) (hc2 : l2.length≤c2) (hs : w.heap[B]? = some (.cells #[.slice A0 l0.length c0, .slice A2 l2.length c2, .int .i64 a3, .func (.func 69) #[] #[]] 115 (0,0))) (h : alloc_cost.f k l0 a1 l2 a3=some (r1,r2)) :
  Calls Try.prog 93 #[.pointer (some ⟨B,0,none⟩), .int .i64 a1] w fun e w' => e=.returned (.tuple #[.int .i64 r1, .bool r2])∧Below w.heap.size w w' := by
 have HR0:=zm hr0;have HC0:=zm hc0;clear hr0 hc0;have HR2:=zm hr2;have HC2:=zm hc2;clear hr2 hc2
 have hSt : ∀ W,Below w.heap.size w W→(W.cell? ⟨B,0,none⟩=some (.slice A0 l0.length c0)∧W.cell? ⟨B,1,none⟩=some (.slice A2 l2.length c2)∧W.cell? ⟨B,2,none⟩=some (.int .i64 a3)∧W.cell? ⟨B,3,none⟩=some (.func (.func 69) #[] #[])):=fun W hb=>by
  have h9:=zF hs hb
  exact ⟨(zs h9 0).trans rfl,(zs h9 1).trans rfl,(zs h9 2).trans rfl,(zs h9 3).trans rfl⟩
 have HST:=zm hSt;clear hSt hs;have HB:=zm (zY w.heap.size w);have H:=h
 unfold alloc_cost.f at H
 clear h;have HC5:=zm H;clear H
 go_enter Try.func93,Try.ntmps93
 go_upto_region 1 with (fail)
 go_cut [33] (fun v33 wc => ∃ (kq : Nat) (ai : Bool),v33=.bool ai∧Aside0 (alloc_cost.j0 kq a1 l2 a3 ai=some (r1,r2))∧Aside0 (kq≤k)∧Aside0 (Below w.heap.size w wc))
 case first =>
  have H:=HC5.out;clear HC5
  obtain ⟨c6,H⟩:=yif H
  have au : decide (0≤a1)=true:=decide_eq_true c6
  clear c6
  (first|rw [au]|(simp only [i64_w,i32_w];rw [au])|skip)
  obtain ⟨c7,H⟩:=yif H
  have aN : decide (a1 < (l0.length : Int))=true:=decide_eq_true c7
  clear c7
  by_cases c8 : (rd l0 a1)=0
  ·
   rw [za4 c8] at H
   obtain ⟨aw,ax⟩:=yE c8
   clear c8
   have H' := zm H
   clear H
   try go_wp2
   replace HB:=zm (zf HB.out)
   obtain ⟨⟨ah,aq,aa⟩,ay,az⟩:=yat (zb7 HR0.out a1)
   have hw123_0:=aa
   cases aq
   replace aa:=yhx HB aa
   refine yst (fun w' => (w'.cell? ⟨B,0,none⟩=some (.slice (some ah) l0.length c0)∧w'.cell? ⟨B,1,none⟩=some (.slice A2 l2.length c2)∧w'.cell? ⟨B,2,none⟩=some (.int .i64 a3)∧w'.cell? ⟨B,3,none⟩=some (.func (.func 69) #[] #[]))∧(w'.cell? (ah.add (a1).toNat)=some (.int .i64 (rd l0 a1)))) [] 24 alloc_cost.tab1 alloc_cost.bits1 (fun hHeld HT_ HW_ => ?_) (hS:=⟨HST.out _ HB.out,((yhx HB hw123_0 :))⟩)
   generalize w.drew=w9 at HB aa hHeld ⊢
   refine yp 0 10 HT_ ?_
   refine yp 1 11 HT_ ?_
   refine yp 2 12 HT_ ?_
   refine yl 3 13 HT_ HW_ hHeld ?_
   refine yp 4 14 HT_ ?_
   refine yp 5 15 HT_ ?_
   refine yl 6 16 HT_ HW_ hHeld ?_
   refine yp 7 17 HT_ ?_
   refine yp 8 18 HT_ ?_
   refine yu 9 19 HT_ ?_
   refine yu 10 20 HT_ ?_
   refine yu 11 21 HT_ ?_
   refine yu 12 22 HT_ ?_
   refine yu 13 23 HT_ ?_
   refine yu 14 24 HT_ ?_
   refine yu 15 25 HT_ ?_
   refine yu 16 26 HT_ ?_
   refine yu 17 27 HT_ ?_
   refine yu 18 28 HT_ ?_
   refine yu 19 29 HT_ ?_
   refine yu 20 30 HT_ ?_
   refine yu 21 31 HT_ ?_
   refine yu 22 32 HT_ ?_
   refine yp 23 33 HT_ ?_
   refine done_ (done_of HT_.out (by kernel_rfl)) ?_
   try go_wp2
   go_meet
   case rel=>exact ⟨_,(true),yq,H',⟨yo⟩,⟨yhb⟩⟩
  rw [za5 c8] at H
  obtain ⟨aw,ax⟩:=yF c8
  obtain ⟨c10,H⟩:=yif H
  have aJ : decide (a1 < (l2.length : Int))=true:=decide_eq_true c10
  clear c10
  obtain ⟨al,A11,H⟩:=ybi H
  have H' := zm H
  clear H
  try go_wp2
  replace HB:=zm (zf HB.out)
  obtain ⟨⟨ah,aq,aa⟩,ay,az⟩:=yat (zb7 HR0.out a1)
  have hw123_0:=aa
  cases aq
  replace aa:=yhx HB aa
  obtain ⟨⟨ap,aA,ac⟩,aQ,aT⟩:=yat (zb7 HR2.out a1)
  have hw124_0:=ac
  cases aA
  replace ac:=yhx HB ac
  refine yst (fun w' => (w'.cell? ⟨B,0,none⟩=some (.slice (some ah) l0.length c0)∧w'.cell? ⟨B,1,none⟩=some (.slice (some ap) l2.length c2)∧w'.cell? ⟨B,2,none⟩=some (.int .i64 a3)∧w'.cell? ⟨B,3,none⟩=some (.func (.func 69) #[] #[]))∧(w'.cell? (ah.add (a1).toNat)=some (.int .i64 (rd l0 a1))∧w'.cell? (ap.add (a1).toNat)=some (.int .i64 (rd l2 a1)))) [] 24 alloc_cost.tab1 alloc_cost.bits1 (fun hHeld HT_ HW_ => ?_) (hS:=⟨HST.out _ HB.out,⟨(yhx HB hw123_0 :),(yhx HB hw124_0 :)⟩⟩)
  generalize w.drew=w12 at HB aa ac hHeld ⊢
  refine yp 0 10 HT_ ?_
  refine yp 1 11 HT_ ?_
  refine yp 2 12 HT_ ?_
  refine yl 3 13 HT_ HW_ hHeld ?_
  refine yp 4 14 HT_ ?_
  refine yp 5 15 HT_ ?_
  refine yl 6 16 HT_ HW_ hHeld ?_
  refine yp 7 17 HT_ ?_
  refine yp 8 18 HT_ ?_
  refine yp 9 19 HT_ ?_
  refine yp 10 20 HT_ ?_
  refine yp 11 21 HT_ ?_
  refine yl 12 22 HT_ HW_ hHeld ?_
  refine yp 13 23 HT_ ?_
  refine yp 14 24 HT_ ?_
  refine yp 16 26 HT_ ?_
  refine yp 17 27 HT_ ?_
  refine yp 18 28 HT_ ?_
  refine yl 19 29 HT_ HW_ hHeld ?_
  refine yp 20 30 HT_ ?_
  refine yl 15 25 HT_ HW_ hHeld ?_
  refine yw 21 31 HT_ (fun K hK => ?_)
  refine call_ 69 #[.int .i64 a1] (by rfl) rfl ?hrun ?_
  (case hrun =>
   have he:=fun W=>enters_ Try.func69 (by kernel_rfl) rfl #[.int .i64 a1] W
   unfold execOp
   simp [resolve,Deferred.ofValue,invoke,Act.eval,he])
  with_reducible refine (alloc_most.calls a1 al _ A11.out).mono ?_
  rintro e w13 ⟨rfl,hb⟩
  refine ⟨_,rfl, ?_⟩
  replace HB:=ybs hb
  (try clear hb)
  refine hK.out _ _ ⟨HST.out _ HB.out,⟨(yhx HB hw123_0 :),(yhx HB hw124_0 :)⟩⟩ (fun hHeld => ?_)
  clear hK K
  refine ym (some 31) ?_
  refine yp 22 32 HT_ ?_
  refine yp 23 33 HT_ ?_
  refine done_ (done_of HT_.out (by kernel_rfl)) ?_
  try go_wp2
  go_meet
  case rel=>exact ⟨_,(decide ((rd l2 a1) ≥ al)),yq,H',⟨yo⟩,⟨yhb⟩⟩
 case rest =>
  clear HC5
  try clear c2
  obtain ⟨kq,ai,rfl,HA,HJ4,HB⟩:=hcut
  obtain ⟨kj4,rfl⟩:=ysu kq (fun h=>by subst h;exact absurd HA.out (by simp [alloc_cost.j0]))
  have H:=HA.out;clear HA
  simp only [alloc_cost.j0] at H
  by_cases c14 : ai=true
  ·
   subst c14
   rw [za4 rfl] at H
   simp only [zM,zN] at H
   obtain ⟨rfl,rfl⟩:=H
   go_wp2
   go_ret2
   exact ⟨ye,yhb⟩
  replace c14:=za3.mpr c14
  subst c14
  rw [ynf] at H
  obtain ⟨aj,A15,H⟩:=ybi H
  obtain ⟨c16,H⟩:=yif H
  have aK : decide (0≤a1)=true:=decide_eq_true c16
  clear c16
  obtain ⟨c17,H⟩:=yif H
  have aM : decide (a1 < (l2.length : Int))=true:=decide_eq_true c17
  clear c17
  obtain ⟨⟨aC,aD⟩,A18,H⟩:=ybi H
  try dsimp only at H
  obtain ⟨ak,A19,H⟩:=ybi H
  obtain ⟨⟨aE,aG⟩,A20,H⟩:=ybi H
  try dsimp only at H
  simp only [zM,zN] at H
  obtain ⟨rfl,rfl⟩:=H
  try go_wp2
  replace HB:=zm (zf HB.out)
  obtain ⟨⟨ag,aH,ae⟩,aU,aV⟩:=yat (zb7 HR2.out a1)
  have hw127_0:=ae
  cases aH
  replace ae:=yhx HB ae
  refine yst (fun w' => (w'.cell? ⟨B,0,none⟩=some (.slice A0 l0.length c0)∧w'.cell? ⟨B,1,none⟩=some (.slice (some ag) l2.length c2)∧w'.cell? ⟨B,2,none⟩=some (.int .i64 a3)∧w'.cell? ⟨B,3,none⟩=some (.func (.func 69) #[] #[]))∧(w'.cell? (ag.add (a1).toNat)=some (.int .i64 (rd l2 a1)))) [] 15 alloc_cost.tab3 alloc_cost.bits3 (fun hHeld HT_ HW_ => ?_) (hS:=⟨HST.out _ HB.out,((yhx HB hw127_0 :))⟩)
  generalize wc.drew=w21 at HB ae hHeld ⊢
  refine yp 0 35 HT_ ?_
  refine yp 2 37 HT_ ?_
  refine yp 3 38 HT_ ?_
  refine yp 4 39 HT_ ?_
  refine yl 5 40 HT_ HW_ hHeld ?_
  refine yp 6 41 HT_ ?_
  refine yp 7 42 HT_ ?_
  refine yl 8 43 HT_ HW_ hHeld ?_
  refine yw 1 36 HT_ (fun K hK => ?_)
  refine ygs Try.func32 #[.int .i64 a1] ?_
  with_reducible refine (band_Width.calls a1 aj _ A15.out).mono ?_
  rintro e w22 ⟨rfl,hb⟩
  refine ⟨_,rfl, ?_⟩
  replace HB:=ybs hb
  (try clear hb)
  refine hK.out _ _ ⟨HST.out _ HB.out,((yhx HB hw127_0 :))⟩ (fun hHeld => ?_)
  clear hK K
  refine ym (some 36) ?_
  refine yw 9 44 HT_ (fun K hK => ?_)
  refine ygs Try.func98 #[.int .i64 aj, .int .i64 (rd l2 a1)] ?_
  with_reducible refine (comb_Cost.calls kj4 aj (rd l2 a1) aC aD _ A18.out).mono ?_
  rintro e w23 ⟨rfl,hb⟩
  refine ⟨_,rfl, ?_⟩
  replace HB:=ybs hb
  (try clear hb)
  refine hK.out _ _ ⟨HST.out _ HB.out,((yhx HB hw127_0 :))⟩ (fun hHeld => ?_)
  clear hK K
  refine ym (some 44) ?_
  refine yp 10 34 HT_ ?_
  refine yp 11 45 HT_ ?_
  refine yp 12 46 HT_ ?_
  refine yp 13 6 HT_ ?_
  refine yp 14 7 HT_ ?_
  refine done_ (done_of HT_.out (by kernel_rfl)) ?_
  try go_wp2
  replace HB:=zm (zf HB.out)
  obtain ⟨⟨av,aI,af⟩,aW,aX⟩:=yat (zb7 HR2.out a1)
  have hw131_0:=af
  obtain rfl : ag=av:=(by injection aI)
  replace af:=yhx HB af
  refine yst (fun w' => (w'.cell? ⟨B,0,none⟩=some (.slice A0 l0.length c0)∧w'.cell? ⟨B,1,none⟩=some (.slice (some ag) l2.length c2)∧w'.cell? ⟨B,2,none⟩=some (.int .i64 a3)∧w'.cell? ⟨B,3,none⟩=some (.func (.func 69) #[] #[]))∧(w'.cell? (ag.add (a1).toNat)=some (.int .i64 (rd l2 a1)))) [] 16 alloc_cost.tab4 alloc_cost.bits4 (fun hHeld HT_ HW_ => ?_) (hS:=⟨HST.out _ HB.out,((yhx HB hw131_0 :))⟩)
  generalize w23.drew=w24 at HB af hHeld ⊢
  refine yp 0 48 HT_ ?_
  refine yp 2 50 HT_ ?_
  refine yp 3 51 HT_ ?_
  refine yp 4 52 HT_ ?_
  refine yl 5 53 HT_ HW_ hHeld ?_
  refine yp 6 54 HT_ ?_
  refine yp 7 55 HT_ ?_
  refine yl 8 56 HT_ HW_ hHeld ?_
  refine yp 9 57 HT_ ?_
  refine yw 1 49 HT_ (fun K hK => ?_)
  refine ygs Try.func32 #[.int .i64 a1] ?_
  with_reducible refine (band_Width.calls a1 ak _ A19.out).mono ?_
  rintro e w25 ⟨rfl,hb⟩
  refine ⟨_,rfl, ?_⟩
  replace HB:=ybs hb
  (try clear hb)
  refine hK.out _ _ ⟨HST.out _ HB.out,((yhx HB hw131_0 :))⟩ (fun hHeld => ?_)
  clear hK K
  refine ym (some 49) ?_
  refine yw 10 58 HT_ (fun K hK => ?_)
  refine ygs Try.func98 #[.int .i64 ak, .int .i64 (wrap64 ((rd l2 a1)+1))] ?_
  with_reducible refine (comb_Cost.calls kj4 ak (wrap64 ((rd l2 a1)+1)) aE aG _ A20.out).mono ?_
  rintro e w26 ⟨rfl,hb⟩
  refine ⟨_,rfl, ?_⟩
  replace HB:=ybs hb
  (try clear hb)
  refine hK.out _ _ ⟨HST.out _ HB.out,((yhx HB hw131_0 :))⟩ (fun hHeld => ?_)
  clear hK K
  refine ym (some 58) ?_
  refine yp 11 47 HT_ ?_
  refine yp 12 59 HT_ ?_
  refine yp 13 60 HT_ ?_
  refine yp 14 8 HT_ ?_
  refine yp 15 9 HT_ ?_
  refine done_ (done_of HT_.out (by kernel_rfl)) ?_
  try go_wp2
  replace HB:=zm (zf HB.out)
  refine yst (fun w' => (w'.cell? ⟨B,0,none⟩=some (.slice A0 l0.length c0)∧w'.cell? ⟨B,1,none⟩=some (.slice (some ag) l2.length c2)∧w'.cell? ⟨B,2,none⟩=some (.int .i64 a3)∧w'.cell? ⟨B,3,none⟩=some (.func (.func 69) #[] #[]))∧(True)) [] 13 alloc_cost.tab5 alloc_cost.bits5 (fun hHeld HT_ HW_ => ?_) (hS:=⟨HST.out _ HB.out,trivial⟩)
  generalize w26.drew=w27 at HB hHeld ⊢
  refine yp 0 61 HT_ ?_
  refine yp 1 62 HT_ ?_
  refine yp 2 63 HT_ ?_
  refine yp 3 64 HT_ ?_
  refine yp 4 65 HT_ ?_
  refine yp 5 66 HT_ ?_
  refine yp 6 67 HT_ ?_
  refine yp 7 68 HT_ ?_
  refine yp 8 69 HT_ ?_
  refine yl 9 70 HT_ HW_ hHeld ?_
  refine yp 10 71 HT_ ?_
  refine yp 11 4 HT_ ?_
  refine yp 12 5 HT_ ?_
  refine done_ (done_of HT_.out (by kernel_rfl)) ?_
  try go_wp2
  go_ret2
  exact ⟨ye,yhb⟩
def alloc_worth.f (l0 : List Int) (a1 : Int) (l2 : List Int) (a3 : Int) : Option (Int):=if 0≤a1 then (if a1 < (l0.length : Int) then (if a1 < (l2.length : Int) then ((band_Width.f a1).bind fun ae=>(if ae=0 then (none) else (some (wrap64 ((wrap64 (8 * (rd l0 a1))) - (wrap64 (Int.tdiv (wrap64 (16 * (rd l2 a1))) ae))))))) else (none)) else (none)) else (none)
def alloc_worth.T1 : Bool × List (List Nat × List Nat):=(true, [([], []),([0], [0]),([1], [1]),([2], [2]),([], []),([3,4], [3,4]),([5], [5]),([6], [6]),([], []),([8], [8]),([9], [9]),([10], [10]),([], []),([11,12], [11,12]),([13], [13]),([14], [14]),([], []),([16], [16]),([15,17], [15,17]),([7,18], [7,18]),([19,17,0,1,2,3,4,5,6,7,8,9,10,11,12,13,14,15,16,17,18,19], [19])])
def alloc_worth.B1 : List Nat := [0,1,3,7,0,31,63,127,0,256,768,1792,0,7936,16128,32512,0,65536,261888,524287,1048575]
theorem alloc_worth.tab1 : rtab .any (opsOf Try.f94 1)=alloc_worth.T1:=by kernel_rfl
theorem alloc_worth.bits1 : waitsOk alloc_worth.T1.2 alloc_worth.B1=true:=by kernel_rfl
theorem alloc_worth.calls (B : Nat) (A0 : Option Addr) (c0 : Nat) (l0 : List Int) (a1 : Int) (A2 : Option Addr) (c2 : Nat) (l2 : List Int) (a3 : Int) (r : Int) (w : World) (hr0 : Kd.C (Kd.int .i64) w A0 l0.length l0) (hc0 : l0.length≤c0) (hr2 : Kd.C (Kd.int .i64) w A2 l2.length l2) (hc2 : l2.length≤c2) (hs : w.heap[B]? = some (.cells #[.slice A0 l0.length c0, .slice A2 l2.length c2, .int .i64 a3, .func (.func 69) #[] #[]] 115 (0,0))) (h : alloc_worth.f l0 a1 l2 a3=some r) :
  Calls Try.prog 94 #[.pointer (some ⟨B,0,none⟩), .int .i64 a1] w fun e w' => e=.returned (.int .i64 r)∧Below w.heap.size w w' := by
 have HR0:=zm hr0;have HC0:=zm hc0;clear hr0 hc0;have HR2:=zm hr2;have HC2:=zm hc2;clear hr2 hc2
 have hSt : ∀ W,Below w.heap.size w W→(W.cell? ⟨B,0,none⟩=some (.slice A0 l0.length c0)∧W.cell? ⟨B,1,none⟩=some (.slice A2 l2.length c2)∧W.cell? ⟨B,2,none⟩=some (.int .i64 a3)∧W.cell? ⟨B,3,none⟩=some (.func (.func 69) #[] #[])):=fun W hb=>by
  have h9:=zF hs hb
  exact ⟨(zs h9 0).trans rfl,(zs h9 1).trans rfl,(zs h9 2).trans rfl,(zs h9 3).trans rfl⟩
 have HST:=zm hSt;clear hSt hs;have HB:=zm (zY w.heap.size w);have H:=h
 unfold alloc_worth.f at H
 clear h
 obtain ⟨c5,H⟩:=yif H
 have aj : decide (0≤a1)=true:=decide_eq_true c5
 clear c5
 obtain ⟨c6,H⟩:=yif H
 have ak : decide (a1 < (l0.length : Int))=true:=decide_eq_true c6
 clear c6
 obtain ⟨c7,H⟩:=yif H
 have al : decide (a1 < (l2.length : Int))=true:=decide_eq_true c7
 clear c7
 obtain ⟨ae,A8,H⟩:=ybi H
 obtain ⟨c9,H⟩:=yie H
 obtain ⟨am,ao⟩:=yF c9
 obtain rfl:=zO H
 go_enter Try.func94,Try.ntmps94
 try go_wp2
 replace HB:=zm (zf HB.out)
 obtain ⟨⟨af,ah,aa⟩,ap,aq⟩:=yat (zb7 HR0.out a1)
 have hw134_0:=aa
 cases ah
 replace aa:=yhx HB aa
 obtain ⟨⟨ag,ai,ac⟩,au,av⟩:=yat (zb7 HR2.out a1)
 have hw135_0:=ac
 cases ai
 replace ac:=yhx HB ac
 refine yst (fun w' => (w'.cell? ⟨B,0,none⟩=some (.slice (some af) l0.length c0)∧w'.cell? ⟨B,1,none⟩=some (.slice (some ag) l2.length c2)∧w'.cell? ⟨B,2,none⟩=some (.int .i64 a3)∧w'.cell? ⟨B,3,none⟩=some (.func (.func 69) #[] #[]))∧(w'.cell? (af.add (a1).toNat)=some (.int .i64 (rd l0 a1))∧w'.cell? (ag.add (a1).toNat)=some (.int .i64 (rd l2 a1)))) [] 21 alloc_worth.tab1 alloc_worth.bits1 (fun hHeld HT_ HW_ => ?_) (hS:=⟨HST.out _ HB.out,⟨(yhx HB hw134_0 :),(yhx HB hw135_0 :)⟩⟩)
 generalize w.drew=w10 at HB aa ac hHeld ⊢
 refine yp 0 5 HT_ ?_
 refine yp 1 6 HT_ ?_
 refine yp 2 7 HT_ ?_
 refine yl 3 8 HT_ HW_ hHeld ?_
 refine yp 4 9 HT_ ?_
 refine yp 5 10 HT_ ?_
 refine yp 8 13 HT_ ?_
 refine yp 9 14 HT_ ?_
 refine yp 10 15 HT_ ?_
 refine yl 11 16 HT_ HW_ hHeld ?_
 refine yp 12 17 HT_ ?_
 refine yp 13 18 HT_ ?_
 refine yp 16 21 HT_ ?_
 refine yl 6 11 HT_ HW_ hHeld ?_
 refine yp 7 12 HT_ ?_
 refine yl 14 19 HT_ HW_ hHeld ?_
 refine yp 15 20 HT_ ?_
 refine yw 17 22 HT_ (fun K hK => ?_)
 refine ygs Try.func32 #[.int .i64 a1] ?_
 with_reducible refine (band_Width.calls a1 ae _ A8.out).mono ?_
 rintro e w11 ⟨rfl,hb⟩
 refine ⟨_,rfl, ?_⟩
 replace HB:=ybs hb
 (try clear hb)
 refine hK.out _ _ ⟨HST.out _ HB.out,⟨(yhx HB hw134_0 :),(yhx HB hw135_0 :)⟩⟩ (fun hHeld => ?_)
 clear hK K
 refine ym (some 22) ?_
 refine yp 18 23 HT_ ?_
 refine yp 19 24 HT_ ?_
 refine yp 20 4 HT_ ?_
 refine done_ (done_of HT_.out (by kernel_rfl)) ?_
 try go_wp2
 go_ret
 exact ⟨ye,yhb⟩
def alloc_give.l0 : Nat→List Int→List Int→Int→Int→Int→Option (Int × Bool × List Int)
 | 0,_,_,_,_,_=>none
 | k+1,x0,x1,x2,x3,x9=>if x9 < 5 then ((alloc_cost.f k x0 x9 x1 x2).bind fun aD=>(if aD.2=true then (if x3 < 0 then (alloc_give.l0 k x0 x1 x2 x9 (wrap64 (x9+1))) else ((alloc_worth.f x0 x9 x1 x2).bind fun ap=>((alloc_worth.f x0 x3 x1 x2).bind fun aq=>(if ap > aq then (alloc_give.l0 k x0 x1 x2 x9 (wrap64 (x9+1))) else (alloc_give.l0 k x0 x1 x2 x3 (wrap64 (x9+1))))))) else (alloc_give.l0 k x0 x1 x2 x3 (wrap64 (x9+1))))) else (if x3 < 0 then (some (x2,false,x1)) else ((alloc_cost.f k x0 x3 x1 x2).bind fun aE=>(if 0≤x3 then (if x3 < (x1.length : Int) then (some (wrap64 (x2 - aE.1),true,(x1.set (x3 : Int).toNat (wrap64 ((rd x1 x3)+1))))) else (none)) else (none))))
def alloc_give.f (k : Nat) (l0 : List Int) (l1 : List Int) (a2 : Int) : Option (Int × Bool × List Int):=alloc_give.l0 k l0 l1 a2 (-1) 0
theorem alloc_give.mono_l : ∀ k,(∀ y0 y1 y2 y3 y4,LeO (alloc_give.l0 k y0 y1 y2 y3 y4) (alloc_give.l0 (k+1) y0 y1 y2 y3 y4))
 | 0=>fun _ _ _ _ _ r h=>by simp [alloc_give.l0] at h
 | k+1=>by
  have ih0:=alloc_give.mono_l k
  ·
   intro y0 y1 y2 y3 y4
   unfold alloc_give.l0
   have i0:=@alloc_cost.mono
   exact yLm
theorem alloc_give.mono : ∀ a0 a1 a2 k,LeO (alloc_give.f k a0 a1 a2) (alloc_give.f (k+1) a0 a1 a2):=by
 intro a0 a1 a2 k
 have ih0:=alloc_give.mono_l k
 unfold alloc_give.f
 have i0:=@alloc_cost.mono
 exact yLm
theorem alloc_give.calls (k : Nat) (B : Nat) (A0 : Option Addr) (c0 : Nat) (l0 : List Int) (P1_ : Nat→Prop) (aj : Value) (l1 : List Int) (a2 : Int) (r1 : Int) (r2 : Bool) (r3 : List Int) (w0 w : World) (hB : Below w0.heap.size w0 w) (hr0 : ∀ W_,Kept w W_ (fun k_=>P1_ k_)→Kd.C (Kd.int .i64) W_ A0 l0.length l0) (hc0 : l0.length≤c0) (ho1 : Kd.R (Kd.int .i64) 3 w w0.heap.size P1_ aj l1) (hPB : ¬ P1_ B) (hB0 : w0.heap.size≤B) (hs : w.heap[B]? = some (.cells #[.slice A0 l0.length c0,aj, .int .i64 a2, .func (.func 69) #[] #[]] 115 (0,0))) (h : alloc_give.f k l0 l1 a2=some (r1,r2,r3)) :
  Calls Try.prog 70 #[.pointer (some ⟨B,0,none⟩)] w fun e w' => e=.returned (.bool r2)∧Kd.R (Kd.int .i64) 3 w' w0.heap.size (fun k_=>(P1_ k_∨w.heap.size≤k_)) aj r3∧Below w0.heap.size w0 w'∧Kept w w' (fun k_=>P1_ k_∨k_=B)∧w'.heap[B]? = some (.cells #[.slice A0 l0.length c0,aj, .int .i64 r1, .func (.func 69) #[] #[]] 115 (0,0)):=by
 have HR0:=zm hr0;have HC0:=zm hc0;have HPB:=zm hPB;have HB0:=zm hB0;have HBL:=zm (zD hs);have HS:=zm hs
 have HNE : Aside0 (∀ k_,(P1_ k_∨w.heap.size≤k_)→k_≠B):=⟨fun k_ hk e_=>by
  subst e_
  exact hk.elim hPB (fun h_=>Nat.lt_irrefl _ (zl (zD hs) h_))⟩
 clear hr0 hc0 hPB hB0 hs
 have HO1:=zm (show Kd.R (Kd.int .i64) 3 w w0.heap.size (fun k_=>(P1_ k_∨w.heap.size≤k_)) aj l1 from zG ho1 (fun k_ hk=>(.inl hk)))
 have HK:=zm (Kept.refl w (fun k_=>P1_ k_))
 have HW0:=zm hB.size;have HB:=zm hB;clear hB;have H:=h
 unfold alloc_give.f at H
 clear h
 have H' := zm H
 clear H
 go_enter Try.func70,Try.ntmps70
 go_wp2
 go_loopg [3,9] k (fun kq v3 v9 w' => ∃ (ah : Int) (ai : Int),v3=.int .i64 ah∧v9=.int .i64 ai∧Aside0 (alloc_give.l0 kq l0 l1 a2 ah ai=some (r1,r2,r3))∧Aside0 (kq≤k)∧Aside0 (Kd.R (Kd.int .i64) 3 w' w0.heap.size (fun k_=>(P1_ k_∨w.heap.size≤k_)) aj l1)∧Aside0 (Kept w w' (fun k_=>P1_ k_))∧Aside0 (Below w0.heap.size w0 w')∧Aside0 (w'.heap[B]? = some (.cells #[.slice A0 l0.length c0,aj, .int .i64 a2, .func (.func 69) #[] #[]] 115 (0,0))))
 case atStart=>exact ⟨((-1)),(0),yq,yq,H',⟨zX _⟩,⟨yr HO1⟩,⟨by repeat (first|(with_reducible first|exact HK.out|apply zb5|apply zb4|apply zb6)|exact HK.out)⟩,⟨yhb⟩,⟨(yk HS)⟩⟩
 case round =>
  clear H'
  obtain ⟨ah,ai,rfl,rfl,HA,HK1,aa,HK,HB,HS⟩:=hrel
  obtain ⟨k1,rfl⟩:=ysu gk (fun h=>by subst h;exact absurd HA.out (by simp [alloc_give.l0]))
  have H:=HA.out;clear HA
  simp only [alloc_give.l0] at H
  replace H:=yId H
  obtain ⟨aQ,H⟩ | ⟨aQ,H⟩:=H
  ·
   obtain ⟨⟨au,aT⟩,A5,H⟩:=ybi H
   try dsimp only at H
   by_cases c6 : aT=true
   ·
    subst c6
    rw [za4 rfl] at H
    replace H:=yId H
    obtain ⟨aU,H⟩ | ⟨aU,H⟩:=H
    ·
     have H' := zm H
     clear H
     obtain ⟨Ao8,co8,eo8⟩:=zT aa.out
     subst eo8
     go_wp2_with (first|((with_reducible refine zK (f:=93) rfl ?_);refine ygl 15 Try.func93 #[.pointer (some ⟨B,0,none⟩), .int .i64 ai] ?_;(with_reducible refine (alloc_cost.calls k1 B A0 c0 l0 ai Ao8 co8 l1 a2 au true _ ?ac HC0.out ?ae ?af ?ag A5.out).mono ?_);(case ac=>exact zb3 HR0.out (by repeat (first|(with_reducible first|exact HK.out|apply zb5|apply zb4|apply zb6)|exact HK.out)));(case ae=>exact yce (zQ aa.out).2.2);(case af=>exact (zQ aa.out).2.1);(case ag=>exact (yk HS));rintro e w9 ⟨rfl,hb⟩;refine ⟨_,rfl, ?_⟩;have n9_:=ybb HS hb;have n0_:=yRb aa hb;have n1_:=zm (Kept.below (S:=(fun k_=>P1_ k_)) (by repeat (first|(with_reducible first|exact HK.out|apply zb5|apply zb4|apply zb6)|exact HK.out)) hb);have n2_:=ybs hb;clear aa;clear HK;clear HB;clear HS;have HS:=n9_;have aa:=n0_;have HK:=n1_;have HB:=n2_;clear n0_ n1_ n2_ n9_;(try clear hb)))
     go_roundg k1
     case measure=>exact yom1 HK1
     case rel=>exact ⟨(ai),(wrap64 (ai+1)),yq,yq,H',⟨yom1 HK1⟩,⟨yr aa⟩,⟨by repeat (first|(with_reducible first|exact HK.out|apply zb5|apply zb4|apply zb6)|exact HK.out)⟩,⟨yhb⟩,⟨(yk HS)⟩⟩
    obtain ⟨ap,A10,H⟩:=ybi H
    obtain ⟨aq,A11,H⟩:=ybi H
    replace H:=yIs H
    obtain ⟨aG,H⟩ | ⟨aG,H⟩:=H
    ·
     have H' := zm H
     clear H
     obtain ⟨ax,ay,aV⟩:=zT aa.out
     subst aV
     go_wp2_with (first|((with_reducible refine zK (f:=93) rfl ?_);refine ygl 15 Try.func93 #[.pointer (some ⟨B,0,none⟩), .int .i64 ai] ?_;(with_reducible refine (alloc_cost.calls k1 B A0 c0 l0 ai ax ay l1 a2 au true _ ?ac HC0.out ?ae ?af ?ag A5.out).mono ?_);(case ac=>exact zb3 HR0.out (by repeat (first|(with_reducible first|exact HK.out|apply zb5|apply zb4|apply zb6)|exact HK.out)));(case ae=>exact yce (zQ aa.out).2.2);(case af=>exact (zQ aa.out).2.1);(case ag=>exact (yk HS));rintro e w14 ⟨rfl,hb⟩;refine ⟨_,rfl, ?_⟩;have n9_:=ybb HS hb;have n0_:=yRb aa hb;have n1_:=zm (Kept.below (S:=(fun k_=>P1_ k_)) (by repeat (first|(with_reducible first|exact HK.out|apply zb5|apply zb4|apply zb6)|exact HK.out)) hb);have n2_:=ybs hb;clear aa;clear HK;clear HB;clear HS;have HS:=n9_;have aa:=n0_;have HK:=n1_;have HB:=n2_;clear n0_ n1_ n2_ n9_;(try clear hb))|(go_at_call 94;(with_reducible refine (alloc_worth.calls B A0 c0 l0 ai ax ay l1 a2 ap _ ?ac HC0.out ?ae ?af ?ag A10.out).mono ?_);(case ac=>exact zb3 HR0.out (by repeat (first|(with_reducible first|exact HK.out|apply zb5|apply zb4|apply zb6)|exact HK.out)));(case ae=>exact yce (zQ aa.out).2.2);(case af=>exact (zQ aa.out).2.1);(case ag=>exact (yk HS));rintro e w15 ⟨rfl,hb⟩;have n9_:=ybb HS hb;have n0_:=yRb aa hb;have n1_:=zm (Kept.below (S:=(fun k_=>P1_ k_)) (by repeat (first|(with_reducible first|exact HK.out|apply zb5|apply zb4|apply zb6)|exact HK.out)) hb);have n2_:=ybs hb;clear aa;clear HK;clear HB;clear HS;have HS:=n9_;have aa:=n0_;have HK:=n1_;have HB:=n2_;clear n0_ n1_ n2_ n9_;(try clear hb))|(go_at_call 94;(with_reducible refine (alloc_worth.calls B A0 c0 l0 ah ax ay l1 a2 aq _ ?ac HC0.out ?ae ?af ?ag A11.out).mono ?_);(case ac=>exact zb3 HR0.out (by repeat (first|(with_reducible first|exact HK.out|apply zb5|apply zb4|apply zb6)|exact HK.out)));(case ae=>exact yce (zQ aa.out).2.2);(case af=>exact (zQ aa.out).2.1);(case ag=>exact (yk HS));rintro e w16 ⟨rfl,hb⟩;have n9_:=ybb HS hb;have n0_:=yRb aa hb;have n1_:=zm (Kept.below (S:=(fun k_=>P1_ k_)) (by repeat (first|(with_reducible first|exact HK.out|apply zb5|apply zb4|apply zb6)|exact HK.out)) hb);have n2_:=ybs hb;clear aa;clear HK;clear HB;clear HS;have HS:=n9_;have aa:=n0_;have HK:=n1_;have HB:=n2_;clear n0_ n1_ n2_ n9_;(try clear hb)))
     go_roundg k1
     case measure=>exact yom1 HK1
     case rel=>exact ⟨(ai),(wrap64 (ai+1)),yq,yq,H',⟨yom1 HK1⟩,⟨yr aa⟩,⟨by repeat (first|(with_reducible first|exact HK.out|apply zb5|apply zb4|apply zb6)|exact HK.out)⟩,⟨yhb⟩,⟨(yk HS)⟩⟩
    have H' := zm H
    clear H
    obtain ⟨az,aA,aW⟩:=zT aa.out
    subst aW
    go_wp2_with (first|((with_reducible refine zK (f:=93) rfl ?_);refine ygl 15 Try.func93 #[.pointer (some ⟨B,0,none⟩), .int .i64 ai] ?_;(with_reducible refine (alloc_cost.calls k1 B A0 c0 l0 ai az aA l1 a2 au true _ ?ac HC0.out ?ae ?af ?ag A5.out).mono ?_);(case ac=>exact zb3 HR0.out (by repeat (first|(with_reducible first|exact HK.out|apply zb5|apply zb4|apply zb6)|exact HK.out)));(case ae=>exact yce (zQ aa.out).2.2);(case af=>exact (zQ aa.out).2.1);(case ag=>exact (yk HS));rintro e w18 ⟨rfl,hb⟩;refine ⟨_,rfl, ?_⟩;have n9_:=ybb HS hb;have n0_:=yRb aa hb;have n1_:=zm (Kept.below (S:=(fun k_=>P1_ k_)) (by repeat (first|(with_reducible first|exact HK.out|apply zb5|apply zb4|apply zb6)|exact HK.out)) hb);have n2_:=ybs hb;clear aa;clear HK;clear HB;clear HS;have HS:=n9_;have aa:=n0_;have HK:=n1_;have HB:=n2_;clear n0_ n1_ n2_ n9_;(try clear hb))|(go_at_call 94;(with_reducible refine (alloc_worth.calls B A0 c0 l0 ai az aA l1 a2 ap _ ?ac HC0.out ?ae ?af ?ag A10.out).mono ?_);(case ac=>exact zb3 HR0.out (by repeat (first|(with_reducible first|exact HK.out|apply zb5|apply zb4|apply zb6)|exact HK.out)));(case ae=>exact yce (zQ aa.out).2.2);(case af=>exact (zQ aa.out).2.1);(case ag=>exact (yk HS));rintro e w19 ⟨rfl,hb⟩;have n9_:=ybb HS hb;have n0_:=yRb aa hb;have n1_:=zm (Kept.below (S:=(fun k_=>P1_ k_)) (by repeat (first|(with_reducible first|exact HK.out|apply zb5|apply zb4|apply zb6)|exact HK.out)) hb);have n2_:=ybs hb;clear aa;clear HK;clear HB;clear HS;have HS:=n9_;have aa:=n0_;have HK:=n1_;have HB:=n2_;clear n0_ n1_ n2_ n9_;(try clear hb))|(go_at_call 94;(with_reducible refine (alloc_worth.calls B A0 c0 l0 ah az aA l1 a2 aq _ ?ac HC0.out ?ae ?af ?ag A11.out).mono ?_);(case ac=>exact zb3 HR0.out (by repeat (first|(with_reducible first|exact HK.out|apply zb5|apply zb4|apply zb6)|exact HK.out)));(case ae=>exact yce (zQ aa.out).2.2);(case af=>exact (zQ aa.out).2.1);(case ag=>exact (yk HS));rintro e w20 ⟨rfl,hb⟩;have n9_:=ybb HS hb;have n0_:=yRb aa hb;have n1_:=zm (Kept.below (S:=(fun k_=>P1_ k_)) (by repeat (first|(with_reducible first|exact HK.out|apply zb5|apply zb4|apply zb6)|exact HK.out)) hb);have n2_:=ybs hb;clear aa;clear HK;clear HB;clear HS;have HS:=n9_;have aa:=n0_;have HK:=n1_;have HB:=n2_;clear n0_ n1_ n2_ n9_;(try clear hb)))
    go_roundg k1
    case measure=>exact yom1 HK1
    case rel=>exact ⟨(ah),(wrap64 (ai+1)),yq,yq,H',⟨yom1 HK1⟩,⟨yr aa⟩,⟨by repeat (first|(with_reducible first|exact HK.out|apply zb5|apply zb4|apply zb6)|exact HK.out)⟩,⟨yhb⟩,⟨(yk HS)⟩⟩
   replace c6:=za3.mpr c6
   subst c6
   rw [ynf] at H
   have H' := zm H
   clear H
   obtain ⟨aX,aY,aZ⟩:=zT aa.out
   subst aZ
   go_wp2_with (first|((with_reducible refine zK (f:=93) rfl ?_);refine ygl 15 Try.func93 #[.pointer (some ⟨B,0,none⟩), .int .i64 ai] ?_;(with_reducible refine (alloc_cost.calls k1 B A0 c0 l0 ai aX aY l1 a2 au false _ ?ac HC0.out ?ae ?af ?ag A5.out).mono ?_);(case ac=>exact zb3 HR0.out (by repeat (first|(with_reducible first|exact HK.out|apply zb5|apply zb4|apply zb6)|exact HK.out)));(case ae=>exact yce (zQ aa.out).2.2);(case af=>exact (zQ aa.out).2.1);(case ag=>exact (yk HS));rintro e w22 ⟨rfl,hb⟩;refine ⟨_,rfl, ?_⟩;have n9_:=ybb HS hb;have n0_:=yRb aa hb;have n1_:=zm (Kept.below (S:=(fun k_=>P1_ k_)) (by repeat (first|(with_reducible first|exact HK.out|apply zb5|apply zb4|apply zb6)|exact HK.out)) hb);have n2_:=ybs hb;clear aa;clear HK;clear HB;clear HS;have HS:=n9_;have aa:=n0_;have HK:=n1_;have HB:=n2_;clear n0_ n1_ n2_ n9_;(try clear hb)))
   go_roundg k1
   case measure=>exact yom1 HK1
   case rel=>exact ⟨(ah),(wrap64 (ai+1)),yq,yq,H',⟨yom1 HK1⟩,⟨yr aa⟩,⟨by repeat (first|(with_reducible first|exact HK.out|apply zb5|apply zb4|apply zb6)|exact HK.out)⟩,⟨yhb⟩,⟨(yk HS)⟩⟩
  by_cases c23 : ah < 0
  ·
   rw [za4 c23] at H
   have aH:=yD c23
   clear c23
   simp only [zM,zN] at H
   obtain ⟨rfl,rfl,rfl⟩:=H
   go_wp2
   go_ret
   exact ⟨ye,yr aa,yhb,Kept.mono (S:=(fun k_=>P1_ k_)) (by repeat (first|(with_reducible first|exact HK.out|apply zb5|apply zb4|apply zb6)|exact HK.out)) (fun _ h_ => .inl h_),(yk HS)⟩
  rw [za5 c23] at H
  have aH:=yG c23
  clear c23
  obtain ⟨⟨am,a7⟩,A24,H⟩:=ybi H
  try dsimp only at H
  obtain ⟨c25,H⟩:=yif H
  have bf : decide (0≤ah)=true:=decide_eq_true c25
  clear c25
  obtain ⟨c26,H⟩:=yif H
  have bg : decide (ah < (l1.length : Int))=true:=decide_eq_true c26
  clear c26
  obtain ⟨aI,ao⟩ : ∃ y_ : List Int,y_=(l1.set (ah : Int).toNat (wrap64 ((rd l1 ah)+1))):=⟨_,rfl⟩
  replace H : (some (wrap64 (a2 - am),true,aI))=some (r1,r2,r3):=yrw ao H
  have aJ:=zm ao;clear ao
  simp only [zM,zN] at H
  obtain ⟨rfl,rfl,rfl⟩:=H
  obtain ⟨av,al,a8⟩:=zT aa.out
  subst a8
  go_wp2_with (first|((with_reducible refine zK (f:=93) rfl ?_);refine ygl 39 Try.func93 #[.pointer (some ⟨B,0,none⟩), .int .i64 ah] ?_;(with_reducible refine (alloc_cost.calls k1 B A0 c0 l0 ah av al l1 a2 am a7 _ ?ac HC0.out ?ae ?af ?ag A24.out).mono ?_);(case ac=>exact zb3 HR0.out (by repeat (first|(with_reducible first|exact HK.out|apply zb5|apply zb4|apply zb6)|exact HK.out)));(case ae=>exact yce (zQ aa.out).2.2);(case af=>exact (zQ aa.out).2.1);(case ag=>exact (yk HS));rintro e w29 ⟨rfl,hb⟩;refine ⟨_,rfl, ?_⟩;have n9_:=ybb HS hb;have n0_:=yRb aa hb;have n1_:=zm (Kept.below (S:=(fun k_=>P1_ k_)) (by repeat (first|(with_reducible first|exact HK.out|apply zb5|apply zb4|apply zb6)|exact HK.out)) hb);have n2_:=ybs hb;clear aa;clear HK;clear HB;clear HS;have HS:=n9_;have aa:=n0_;have HK:=n1_;have HB:=n2_;clear n0_ n1_ n2_ n9_;(try clear hb);have hs2 : w29.cell? ⟨B,2,none⟩=some (.int .i64 a2):=(zs HS.out 2).trans rfl;have hsf : w29.frozen? ⟨B,2,none⟩=false:=zx HS.out 2)|((with_reducible refine zb8 (t:=3) (p:=49) rfl ?_);refine za2 (t:=3) (p:=49) (v := ?vo_w12) (w1:=(w29.setCell ⟨B,2,none⟩ (.int .i64 (wrap64 (a2 - am))))) ?hg ?ho ?hn ?hr ?_;(case ho=>rfl);(case hg=>rfl);(case hn=>rfl);(case hr=>first|(go_simp;done)|(go_simp;rfl));intro w12 hw;have hS12 : w12.heap[B]? = some (.cells #[.slice A0 l0.length c0, .slice av l1.length al, .int .i64 (wrap64 (a2 - am)), .func (.func 69) #[] #[]] 115 (0,0)):=(by rw [hw];exact blk_set HS.out 2 _);have n0_ : Aside0 (Kd.R (Kd.int .i64) 3 w12 w0.heap.size (fun k_=>(P1_ k_∨w.heap.size≤k_)) (.slice av l1.length al) l1):=⟨by rw [hw];exact zH aa.out HNE.out _⟩;have n1_ : Aside0 (Below w0.heap.size w0 w12):=⟨by rw [hw];exact Below.setCell HB.out HB0.out _⟩;have n2_ : Aside0 (Kept w w12 (fun k_=>P1_ k_∨k_=B)):=⟨by rw [hw];exact Kept.setCell (Kept.mono HK.out (fun _ h_ => .inl h_)) (.inl (.inr rfl)) _⟩;clear aa;clear HK;clear HB;clear HS;clear hs2;clear hsf;have aa:=n0_;have HB:=n1_;have HK:=n2_;have HS:=zm hS12;have hs1 : w12.cell? ⟨B,1,none⟩=some (.slice av l1.length al):=(zs hS12 1).trans rfl;clear hS12 hw n0_ n1_ n2_;obtain ⟨⟨bh,a9,aw⟩,bj,bk⟩:=yat (zb7 (zQ aa.out).2.2 ah);cases a9;have p27 : 0≤(ah : Int):=yt;have q27 : (ah : Int) < ((l1.length : Int) : Int):=yt;obtain ⟨ak,bl,aK,aM,ba,bm,aN⟩:=Kd.R_form aa.out (by omega);(first|cases aK|(injection aK with ea_ en_ ec_;(first|subst ea_|(injection ea_ with ea_;subst ea_));subst ec_;clear en_));have bb:=zm aM;have bn:=zm aN;clear aM ba aN;have HMgo27:=zm (show (P1_ ak∨w.heap.size≤ak) from (aa.out.1 _ rfl));(first|simp only [add_plain] at aw|skip);obtain ⟨bc,bd⟩:=Kd.R_celln 0 aa.out (ah : Int) p27 q27;replace p27:=zP p27;replace q27:=zP q27;obtain ⟨bi,hz30_⟩:=Kd.R_celln 0 aa.out (ah : Int) (yt) (yt);have aC:=Kd.R_putg aa.out (ah : Int) (wrap64 ((rd l1 ah)+1)))|((with_reducible refine zb8 (t:=3) (p:=58) rfl ?_);refine za2 (t:=3) (p:=58) (v := ?vo_w31) (w1:=(w12.setCell ⟨ak,(ah : Int).toNat,none⟩ (.int .i64 (wrap64 ((rd l1 ah)+1))))) ?hg ?ho ?hn ?hr ?_;(case ho=>rfl);(case hg=>rfl);(case hn=>rfl);(case hr=>first|(go_simp;done)|(go_simp;rfl));intro w31 hw;have hg : w12.grownBy w31 (some ak):=(by rw [hw];exact aC.2);have hp_ : Kd.R (Kd.int .i64) 3 w31 w0.heap.size (fun k_=>(P1_ k_∨w.heap.size≤k_)) (.slice (some ⟨ak,0,none⟩) l1.length al) aI:=(by rw [hw,aJ.out];exact aC.1);clear aC;have n0_:=zm (hp_);have n1_:=zm ((by rw [hw];exact zk (HB.out) bb.out : Below w0.heap.size w0 w31));have n2_:=zm (Kept.of_grown (S:=(fun k_=>P1_ k_∨k_=B)) hg (by repeat (first|(with_reducible first|exact HK.out|apply zb5|apply zb4|apply zb6)|exact HK.out)) (fun k_ e_=>(aa.out.1 k_ e_).imp .inl id));have n8_ : Aside0 (w31.heap[B]? = some (.cells #[.slice A0 l0.length c0, .slice (some ⟨ak,0,none⟩) l1.length al, .int .i64 (wrap64 (a2 - am)), .func (.func 69) #[] #[]] 115 (0,0))):=⟨by rw [hw];exact zv HS.out (fun e_=>HNE.out _ (aa.out.1 ak rfl) e_.symm) _⟩;clear HS;have HS:=n8_;clear n8_;clear aa;clear HB;clear HK;have aa:=n0_;have HB:=n1_;have HK:=n2_;clear n0_ n1_ n2_;clear hg hw hp_))
  go_ret
  exact ⟨ye,yr aa,yhb,by repeat (first|(with_reducible first|exact HK.out|apply zb5|apply zb4|apply zb6)|exact HK.out),(yk HS)⟩
def gain_Right.l0 : Nat→List Int→List Int→Int→Int→Option (Bool)
 | 0,_,_,_,_=>none
 | k+1,x0,x5,x6,x7=>if x7 < x6 then (if 0≤x7 then (if x7 < (x5.length : Int) then (if (rd x5 x7) < 0 then (some false) else (if (rd x5 x7) > 44 then (some false) else (gain_Right.l0 k x0 x5 x6 (wrap64 (x7+1))))) else (none)) else (none)) else (some ((x0.length : Int) == 5))
def gain_Right.f (k : Nat) (l0 : List Int) : Option (Bool):=gain_Right.l0 k l0 l0 (l0.length : Int) 0
theorem gain_Right.mono_l : ∀ k,(∀ y0 y1 y2 y3,LeO (gain_Right.l0 k y0 y1 y2 y3) (gain_Right.l0 (k+1) y0 y1 y2 y3))
 | 0=>fun _ _ _ _ r h=>by simp [gain_Right.l0] at h
 | k+1=>by
  have ih0:=gain_Right.mono_l k
  ·
   intro y0 y1 y2 y3
   unfold gain_Right.l0
   exact yLm
theorem gain_Right.mono : ∀ a0 k,LeO (gain_Right.f k a0) (gain_Right.f (k+1) a0):=by
 intro a0 k
 have ih0:=gain_Right.mono_l k
 unfold gain_Right.f
 exact yLm
theorem gain_Right.calls (k : Nat) (A0 : Option Addr) (c0 : Nat) (l0 : List Int) (r : Bool) (w : World) (hr0 : Kd.C (Kd.int .i64) w A0 l0.length l0) (hc0 : l0.length≤c0) (h : gain_Right.f k l0=some r) :
  Calls Try.prog 62 #[.slice A0 l0.length c0] w fun e w' => e=.returned (.bool r)∧Drawn0 w w' := by
 have HR0:=zm hr0;have HC0:=zm hc0;clear hr0 hc0;have H:=h
 unfold gain_Right.f at H
 clear h
 have H' := zm H
 clear H
 go_enter Try.func62,Try.ntmps62
 go_wp2
 go_loopg [7] k (fun kq v7 w' => ∃ (aa : Int),v7=.int .i64 aa∧Aside0 (gain_Right.l0 kq l0 l0 (l0.length : Int) aa=some r)∧Aside0 (kq≤k)∧Drawn0 w w')
 case atStart=>exact ⟨(0),yq,H',⟨zX _⟩,yd⟩
 case round =>
  clear H'
  obtain ⟨aa,rfl,HA,HK1,⟨m1,rfl⟩⟩:=hrel
  obtain ⟨k1,rfl⟩:=ysu gk (fun h=>by subst h;exact absurd HA.out (by simp [gain_Right.l0]))
  have H:=HA.out;clear HA
  simp only [gain_Right.l0] at H
  replace H:=yId H
  obtain ⟨ai,H⟩ | ⟨ai,H⟩:=H
  ·
   obtain ⟨c3,H⟩:=yif H
   have al : decide (0≤aa)=true:=decide_eq_true c3
   clear c3
   obtain ⟨c4,H⟩:=yif H
   have am : decide (aa < (l0.length : Int))=true:=decide_eq_true c4
   clear c4
   replace H:=yId H
   obtain ⟨aj,H⟩ | ⟨aj,H⟩:=H
   ·
    obtain rfl:=zO H
    obtain ⟨af,ae,ac,ag,ah⟩:=yai HR0 aa
    cases ae
    go_wp2
    go_ret
    exact ⟨yq,yd⟩
   by_cases c6 : (rd l0 aa) > 44
   ·
    rw [za4 c6] at H
    have ak:=yDs c6
    clear c6
    obtain rfl:=zO H
    obtain ⟨af,ae,ac,ag,ah⟩:=yai HR0 aa
    cases ae
    go_wp2
    go_ret
    exact ⟨yq,yd⟩
   rw [za5 c6] at H
   have ak:=yGs c6
   clear c6
   have H' := zm H
   clear H
   obtain ⟨af,ae,ac,ag,ah⟩:=yai HR0 aa
   cases ae
   go_wp2
   go_roundg k1
   case measure=>exact yom1 HK1
   case rel=>exact ⟨(wrap64 (aa+1)),yq,H',⟨yom1 HK1⟩,yd⟩
  obtain rfl:=zO H
  go_wp2
  go_ret
  exact ⟨yq,yd⟩
mutual
def alloc_Pulses.j0 : Nat→Int→Int→List (List Int)→Bool→Option ((List (List Int)) × Int)
 | 0,_,_,_,_=>none
 | k+1,x0,x1,x2,x21=>if x21=true then (some (([] : List (List Int)),1)) else (alloc_Pulses.l0 k x0 x1 ([] : List (List Int)) x2 (x2.length : Int) 0)
def alloc_Pulses.l0 : Nat→Int→Int→List (List Int)→List (List Int)→Int→Int→Option ((List (List Int)) × Int)
 | 0,_,_,_,_,_,_=>none
 | k+1,x0,x1,x8,x22,x23,x24=>if x24 < x23 then (if 0≤x24 then (if x24 < (x22.length : Int) then ((gain_Right.f k (rd_L1 x22 x24)).bind fun aU=>(if aU=true then ((alloc_Room.f x0 x1).bind fun ak=>(alloc_Pulses.l1 k x0 x1 x8 (rd_L1 x22 x24) (List.replicate 5 0) x22 x23 x24 ak)) else (some (([] : List (List Int)),1)))) else (none)) else (none)) else (some (x8,0))
def alloc_Pulses.l1 : Nat→Int→Int→List (List Int)→List Int→List Int→List (List Int)→Int→Int→Int→Option ((List (List Int)) × Int)
 | 0,_,_,_,_,_,_,_,_,_=>none
 | k+1,x0,x1,x8,x10,x11,x22,x23,x24,x49=>(alloc_give.f k x10 x11 x49).bind fun ay=>(if ay.2.1=true then (alloc_Pulses.l1 k x0 x1 x8 x10 ay.2.2 x22 x23 x24 ay.1) else (if x8.length < 5864062014805 then (alloc_Pulses.l0 k x0 x1 (x8 ++ [ay.2.2]) x22 x23 (wrap64 (x24+1))) else (none)))
end
def alloc_Pulses.f (k : Nat) (a0 : Int) (a1 : Int) (l2 : List (List Int)) : Option ((List (List Int)) × Int):=(alloc_Right.f a0 a1).bind fun aV=>(if aV=true then (alloc_Pulses.j0 k a0 a1 l2 ((l2.length : Int) != a1)) else (alloc_Pulses.j0 k a0 a1 l2 true))
theorem alloc_Pulses.mono_l : ∀ k,(∀ y0 y1 y2 y3,LeO (alloc_Pulses.j0 k y0 y1 y2 y3) (alloc_Pulses.j0 (k+1) y0 y1 y2 y3))∧(∀ y0 y1 y2 y3 y4 y5,LeO (alloc_Pulses.l0 k y0 y1 y2 y3 y4 y5) (alloc_Pulses.l0 (k+1) y0 y1 y2 y3 y4 y5))∧(∀ y0 y1 y2 y3 y4 y5 y6 y7 y8,LeO (alloc_Pulses.l1 k y0 y1 y2 y3 y4 y5 y6 y7 y8) (alloc_Pulses.l1 (k+1) y0 y1 y2 y3 y4 y5 y6 y7 y8))
 | 0=>⟨fun _ _ _ _ r h=>by simp [alloc_Pulses.j0] at h,fun _ _ _ _ _ _ r h=>by simp [alloc_Pulses.l0] at h,fun _ _ _ _ _ _ _ _ _ r h=>by simp [alloc_Pulses.l1] at h⟩
 | k+1=>by
  obtain ⟨ih0,ih1,ih2⟩:=alloc_Pulses.mono_l k
  have i0:=@alloc_give.mono;have i1:=@gain_Right.mono
  refine ⟨?_, ?_, ?_⟩
  ·
   intro y0 y1 y2 y3
   unfold alloc_Pulses.j0
   exact yLm
  ·
   intro y0 y1 y2 y3 y4 y5
   unfold alloc_Pulses.l0
   exact yLm
  intro y0 y1 y2 y3 y4 y5 y6 y7 y8
  unfold alloc_Pulses.l1
  exact yLm
theorem alloc_Pulses.mono : ∀ a0 a1 a2 k,LeO (alloc_Pulses.f k a0 a1 a2) (alloc_Pulses.f (k+1) a0 a1 a2):=by
 intro a0 a1 a2 k
 obtain ⟨ih0,ih1,ih2⟩:=alloc_Pulses.mono_l k
 have i0:=@alloc_give.mono;have i1:=@gain_Right.mono
 unfold alloc_Pulses.f
 exact yLm
def alloc_Pulses.T9 : Bool × List (List Nat × List Nat):=(true, [([], []),([], []),([], []),([], []),([2,3], [2,3]),([0,1,4], [0,1,4]),([5], [5]),([6,4,0,1,2,3,4,5,6], [6])])
def alloc_Pulses.B9 : List Nat := [0,0,0,0,12,31,63,127]
theorem alloc_Pulses.tab9 : rtab .any (opsOf Try.f30 9)=alloc_Pulses.T9:=by kernel_rfl
theorem alloc_Pulses.bits9 : waitsOk alloc_Pulses.T9.2 alloc_Pulses.B9=true:=by kernel_rfl
theorem alloc_Pulses.calls (k : Nat) (a0 : Int) (a1 : Int) (A2 : Option Addr) (c2 : Nat) (l2 : List (List Int)) (r1 : List (List Int)) (r2 : Int) (w : World) (hr2 : Kd.C (Kd.slice 3 (Kd.int .i64)) w A2 l2.length l2) (hc2 : l2.length≤c2) (h : alloc_Pulses.f k a0 a1 l2=some (r1,r2)) :
  Calls Try.prog 30 #[.int .i64 a0, .int .i64 a1, .slice A2 l2.length c2] w fun e w' => ∃ v0_ : Value,e=.returned (.tuple #[v0_, .int .i64 r2])∧Kd.S (Kd.slice 3 (Kd.int .i64)) 49 w' w.heap.size (fun _=>True) v0_ r1∧Below w.heap.size w w' := by
 have HR2:=zm hr2;have HC2:=zm hc2;clear hr2 hc2;have HB:=zm (zY w.heap.size w);have H:=h
 unfold alloc_Pulses.f at H
 clear h;have HC4:=zm H;clear H
 go_enter Try.func30,Try.ntmps30
 go_upto_region 1 with (fail)
 go_cut [21] (fun v21 wc => ∃ (kq : Nat) (az : Bool),v21=.bool az∧Aside0 (alloc_Pulses.j0 kq a0 a1 l2 az=some (r1,r2))∧Aside0 (kq≤k)∧Aside0 (Below w.heap.size w wc))
 case first =>
  have H:=HC4.out;clear HC4
  obtain ⟨aV,A5,H⟩:=ybi H
  by_cases c6 : aV=true
  ·
   subst c6
   rw [za4 rfl] at H
   have H' := zm H
   clear H
   go_wp2_with (first|((with_reducible refine zK (f:=48) rfl ?_);refine ygl 14 Try.func48 #[.int .i64 a0, .int .i64 a1] ?_;(with_reducible refine (alloc_Right.calls a0 a1 true _ A5.out).mono ?_);rintro e w' ⟨rfl,⟨nd,rfl⟩⟩;refine ⟨_,rfl, ?_⟩))
   go_meet
   case rel=>exact ⟨_,(((l2.length : Int) != a1)),yq,H',⟨yo⟩,⟨yhb⟩⟩
  replace c6:=za3.mpr c6
  subst c6
  rw [ynf] at H
  have H' := zm H
  clear H
  go_wp2_with (first|((with_reducible refine zK (f:=48) rfl ?_);refine ygl 14 Try.func48 #[.int .i64 a0, .int .i64 a1] ?_;(with_reducible refine (alloc_Right.calls a0 a1 false _ A5.out).mono ?_);rintro e w' ⟨rfl,⟨nd,rfl⟩⟩;refine ⟨_,rfl, ?_⟩))
  go_meet
  case rel=>exact ⟨_,(true),yq,H',⟨yo⟩,⟨yhb⟩⟩
 case rest =>
  clear HC4
  try clear c2
  obtain ⟨kq,az,rfl,HA,HJ3,HB⟩:=hcut
  obtain ⟨kj3,rfl⟩:=ysu kq (fun h=>by subst h;exact absurd HA.out (by simp [alloc_Pulses.j0]))
  have H:=HA.out;clear HA
  simp only [alloc_Pulses.j0] at H
  by_cases c7 : az=true
  ·
   subst c7
   rw [za4 rfl] at H
   simp only [zM,zN] at H
   obtain ⟨rfl,rfl⟩:=H
   go_wp2
   go_ret2
   exact ⟨_,ye,yn,yhb⟩
  replace c7:=za3.mpr c7
  subst c7
  rw [ynf] at H
  have H' := zm H
  clear H
  go_wp2
  go_loopg [8,24] kj3 (fun kq v8 v24 w' => ∃ (aw : List (List Int)) (aa : Int),v24=.int .i64 aa∧Aside0 (alloc_Pulses.l0 kq a0 a1 aw l2 (l2.length : Int) aa=some (r1,r2))∧Aside0 (kq≤kj3)∧Aside0 (Kd.S (Kd.slice 3 (Kd.int .i64)) 49 w' w.heap.size (fun _=>True) v8 aw)∧Aside0 (Below w.heap.size w w'))
  case atStart=>exact ⟨(([] : List (List Int))),(0),yq,H',⟨zX _⟩,⟨yn⟩,⟨yhb⟩⟩
  case round =>
   clear H'
   obtain ⟨aw,aa,rfl,HA,HK2,ac,HB⟩:=hrel
   obtain ⟨k2,rfl⟩:=ysu gk (fun h=>by subst h;exact absurd HA.out (by simp [alloc_Pulses.l0]))
   have H:=HA.out;clear HA
   simp only [alloc_Pulses.l0] at H
   replace H:=yId H
   obtain ⟨aY,H⟩ | ⟨aY,H⟩:=H
   ·
    obtain ⟨c9,H⟩:=yif H
    have bd : decide (0≤aa)=true:=decide_eq_true c9
    clear c9
    obtain ⟨c10,H⟩:=yif H
    have aZ : decide (aa < (l2.length : Int))=true:=decide_eq_true c10
    clear c10
    obtain ⟨aU,A11,H⟩:=ybi H
    by_cases c12 : aU=true
    ·
     subst c12
     rw [za4 rfl] at H
     obtain ⟨aN,aE⟩ : ∃ y_ : List Int,y_=(List.replicate 5 0):=⟨_,rfl⟩
     replace H : ((alloc_Room.f a0 a1).bind fun ak=>(alloc_Pulses.l1 k2 a0 a1 aw (rd_L1 l2 aa) aN l2 (l2.length : Int) aa ak))=some (r1,r2):=yrw aE H
     have aA:=zm aE;clear aE
     obtain ⟨ak,A13,H⟩:=ybi H
     have H' := zm H
     clear H
     obtain ⟨⟨a7,ae,af,aW,aj,am,ao⟩,a8,a9⟩:=yat (at_L1 HR2.out aa)
     cases aW
     replace aj:=yhx HB aj
     have ap:=zm ao;have aq:=zm am;clear ao am
     try go_wp2_with (first|((with_reducible refine zK (f:=62) rfl ?_);refine ygl 29 Try.func62 #[.slice ae (rd_L1 l2 aa).length af] ?_;(with_reducible refine (gain_Right.calls k2 _ _ (rd_L1 l2 aa) true _ ?av aq.out A11.out).mono ?_);(case av=>exact ycb ap);rintro e w' ⟨rfl,⟨nd,rfl⟩⟩;refine ⟨_,rfl, ?_⟩))
     (try (rw [drewN_self wr];generalize hq_ : World.drewN wr _=wr;replace ac:=ySq hq_ ac;replace HB:=ysq hq_;clear hq_))
     replace ac:=zm (Kd.S_drew ac.out)
     replace HB:=zm (zf HB.out)
     refine yst (fun w' => True) [] 8 alloc_Pulses.tab9 alloc_Pulses.bits9 (fun hHeld HT_ HW_ => ?_) (hS:=trivial)
     generalize wr.drew=w14 at ac HB hHeld ⊢
     refine yp 0 31 HT_ ?_
     refine yp 2 33 HT_ ?_
     refine yp 3 34 HT_ ?_
     refine join_ (σ:=Value) 3 #[true,true,true,true,true,false,false,false] (fun s_ => [(32,s_),(35, .int .i64 ak)]) (fun s_ w' => (Kd.R (Kd.int .i64) 3 w' w.heap.size (fun _=>True) s_ aN)∧(Kd.S (Kd.slice 3 (Kd.int .i64)) 49 w' w.heap.size (fun k_=>some k_≠(s_ : Value).ownBlock) u8 aw)∧(Below w.heap.size w w')) ?_ ?_
     rotate_left
     ·
      intro hCont
      refine two_ (i:=1) (j:=4) (Ni:=some 32) (Nj:=some 35) #[true,true,true,true,false,false,false,false] #[true,false,true,true,true,false,false,false] rfl rfl rfl rfl (two_of HT_.out (by kernel_rfl)) (by decide) (by decide) (fun K hK => ?_) (fun K hK => ?_)
      ·
       skip
       refine Kd.R_make_step (Kd.int .i64) _ 3 (by rfl) (N:=32) rfl 49 _ _ rfl 5 rfl rfl Try.underlying49 (.int .i64 0) 8 info3 rfl (by decide) (by omega) 0 (ok:=fun _=>True) (okp:=fun _=>True) rfl (fun _ hk=>hk) trivial (by omega) (by omega) (zY _ _) (zX _) ?_
       intro ai w15 au hb hg_ hnew_
       clear hg_ hnew_
       (first|rw [← aA.out] at au|(simp only [Int.reduceToNat] at au;rw [← aA.out] at au))
       replace ac:=zm (za8 (yr ac) (zW au) hb)
       have al:=zm (za0 au (zE yhb))
       replace HB:=ybs hb
       clear hb au
       refine hK.out _ _ trivial (fun hHeld => ?_)
       clear hK K
       refine ym (some 32) ?_
       refine yw 4 35 HT_ (fun K hK => ?_)
       refine ygs Try.func68 #[.int .i64 a0, .int .i64 a1] ?_
       with_reducible refine (alloc_Room.calls a0 a1 ak _ A13.out).mono ?_
       rintro e w' ⟨rfl,⟨nd,rfl⟩⟩
       refine ⟨_,rfl, ?_⟩
       refine hK.out _ _ trivial (fun hHeld => ?_)
       clear hK K
       refine ym (some 35) ?_
       exact norm_ (by simp only [putAll,Act.put,za9,zb0,zb1]) (hCont (ai) _ ⟨(yr al),(yS0 ac),yhb⟩)
      skip
      refine ygs Try.func68 #[.int .i64 a0, .int .i64 a1] ?_
      with_reducible refine (alloc_Room.calls a0 a1 ak _ A13.out).mono ?_
      rintro e w' ⟨rfl,⟨nd,rfl⟩⟩
      refine ⟨_,rfl, ?_⟩
      refine hK.out _ _ trivial (fun hHeld => ?_)
      clear hK K
      refine ym (some 35) ?_
      refine yw 1 32 HT_ (fun K hK => ?_)
      refine Kd.R_make_step (Kd.int .i64) _ 3 (by rfl) (N:=32) rfl 49 _ _ rfl 5 rfl rfl Try.underlying49 (.int .i64 0) 8 info3 rfl (by decide) (by omega) 0 (ok:=fun _=>True) (okp:=fun _=>True) rfl (fun _ hk=>hk) trivial (by omega) (by omega) (zY _ _) (zX _) ?_
      intro ai w15 au hb hg_ hnew_
      clear hg_ hnew_
      (first|rw [← aA.out] at au|(simp only [Int.reduceToNat] at au;rw [← aA.out] at au))
      replace ac:=zm (za8 (yr ac) (zW au) hb)
      have al:=zm (za0 au (zE yhb))
      replace HB:=ybs hb
      clear hb au
      refine hK.out _ _ trivial (fun hHeld => ?_)
      clear hK K
      refine ym (some 32) ?_
      exact norm_ (by simp only [putAll,Act.put,za9,zb0,zb1]) (hCont (ai) _ ⟨(yr al),(yS0 ac),yhb⟩)
     rintro ai w17 hS_
     try dsimp only at hS_
     obtain ⟨h0_,h1_,h2_⟩:=hS_
     have n0_:=zm h0_;have n1_:=zm h1_;have n2_:=zm h2_;clear ac HB h0_ h1_ h2_;have al:=n0_;have ac:=n1_;have HB:=n2_;clear n0_ n1_ n2_;have hHeld:=trivial
     refine norm_ (a' := ?_) ?_ ?_
     rotate_left
     ·
      simp only [putAll,Act.put,za9,zb0,zb1]
      rfl
     obtain ⟨Av9,cv9,ev9⟩:=zT al.out
     refine pure_ (i:=5) (N:=some 36) (v:=.agg #[.slice ae (rd_L1 l2 aa).length af,ai, .int .i64 ak, .func (.func 69) #[] #[]]) (a' := ?_) #[true,true,true,true,true,true,false,false] rfl rfl (any_of HT_.out (by kernel_rfl)) (fun _ _ _ h=>h) (Or.inl ⟨by rfl, ?_⟩) ?_ ?_

     ·
      intro w'
      rw [ev9]
      first|(go_simp;done)|(go_simp;with_reducible rfl)|(go_simp;rfl)

     rotate_left
     ·
      simp only [Act.put,za9,zb0,zb1,i64_w,i32_w]
      rfl
     refine yw 6 37 HT_ (fun K hK => ?_)
     refine event_step (v:=.pointer (some ⟨w17.heap.size,0,none⟩)) (w1:=w17.alloc (.cells #[.slice ae (rd_L1 l2 aa).length af,ai, .int .i64 ak, .func (.func 69) #[] #[]] 115 (0,0))) (by rfl) ?hrun ?_
     (case hrun=>(rw [ev9];first|(go_simp;done)|(go_simp;rfl)))
     clear ev9
     have n0_ : Aside0 (Kd.R (Kd.int .i64) 3 (w17.alloc (.cells #[.slice ae (rd_L1 l2 aa).length af,ai, .int .i64 ak, .func (.func 69) #[] #[]] 115 (0,0))) w.heap.size (fun _=>True) ai aN):=⟨zo al.out _⟩
     have n1_ : Aside0 (Kd.S (Kd.slice 3 (Kd.int .i64)) 49 (w17.alloc (.cells #[.slice ae (rd_L1 l2 aa).length af,ai, .int .i64 ak, .func (.func 69) #[] #[]] 115 (0,0))) w.heap.size (fun k_=>some k_≠(ai : Value).ownBlock∧k_≠w17.heap.size) u8 aw):=⟨Kd.S_alloc (Kd.S_mono (Kd.S_bound ac.out) (fun k_ hk=>⟨hk.1,fun e_=>by have:=hk.2.2.1;omega⟩)) _⟩
     have n2_ : Aside0 (Below w.heap.size w (w17.alloc (.cells #[.slice ae (rd_L1 l2 aa).length af,ai, .int .i64 ak, .func (.func 69) #[] #[]] 115 (0,0)))):=⟨ze HB.out _⟩
     have n3_ : Aside0 ((w17.alloc (.cells #[.slice ae (rd_L1 l2 aa).length af,ai, .int .i64 ak, .func (.func 69) #[] #[]] 115 (0,0))).heap[w17.heap.size]? = some (.cells #[.slice ae (rd_L1 l2 aa).length af,ai, .int .i64 ak, .func (.func 69) #[] #[]] 115 (0,0))):=⟨blk_new _ _⟩
     have HBW:=zm (show w.heap.size≤w17.heap.size from zE HB.out)
     have HKB:=zm (show some w17.heap.size≠(ai : Value).ownBlock from fun e_=>Nat.lt_irrefl _ (Kd.R_lt al.out _ e_.symm))
     clear al ac HB hHeld
     generalize w17.alloc (.cells #[.slice ae (rd_L1 l2 aa).length af,ai, .int .i64 ak, .func (.func 69) #[] #[]] 115 (0,0))=w18 at n0_ n1_ n2_ n3_ ⊢
     generalize w17.heap.size=B at n1_ n3_ HBW HKB ⊢
     have al:=n0_;have ac:=n1_;have HB:=n2_;have HS:=n3_;clear n0_ n1_ n2_ n3_
     refine hK.out _ _ trivial (fun hHeld => ?_)
     clear hK K
     refine ym (some 37) ?_
     refine yp 7 11 HT_ ?_
     refine done_ (done_of HT_.out (by kernel_rfl)) ?_
     try go_wp2
     go_loopg [39] k2 (fun kq v_ w' => ∃ (ah : List Int) (ax : Int),Aside0 (alloc_Pulses.l1 kq a0 a1 aw (rd_L1 l2 aa) ah l2 (l2.length : Int) aa ax=some (r1,r2))∧Aside0 (kq≤k2)∧Aside0 (Kd.S (Kd.slice 3 (Kd.int .i64)) 49 w' w.heap.size (fun k_=>some k_≠(ai : Value).ownBlock∧k_≠B) u8 aw)∧Aside0 (Kd.R (Kd.int .i64) 3 w' w.heap.size (fun _=>True) ai ah)∧Aside0 (Below w.heap.size w w')∧Aside0 (w'.heap[B]? = some (.cells #[.slice ae (rd_L1 l2 aa).length af,ai, .int .i64 ax, .func (.func 69) #[] #[]] 115 (0,0))))
     case atStart=>exact ⟨(aN),(ak),H',⟨zX _⟩,⟨yr ac⟩,⟨yr al⟩,⟨yhb⟩,⟨(yk HS)⟩⟩
     case round =>
      clear H'
      try clear aY
      try clear bd
      try clear aZ
      try clear aj
      try clear a8
      try clear a9
      obtain ⟨ah,ax,HA,HK3,ac,ag,HB,HS⟩:=hrel
      obtain ⟨k3,rfl⟩:=ysu gk (fun h=>by subst h;exact absurd HA.out (by simp [alloc_Pulses.l1]))
      have H:=HA.out;clear HA
      simp only [alloc_Pulses.l1] at H
      obtain ⟨⟨aX,bf,aG⟩,A18,H⟩:=ybi H
      try dsimp only at H
      by_cases c19 : bf=true
      ·
       subst c19
       rw [za4 rfl] at H
       have H' := zm H
       clear H
       obtain ⟨aQ,aT,bg⟩:=zT ag.out
       subst bg
       go_wp2_with (first|((with_reducible refine zK (f:=70) rfl ?_);refine ygl 39 Try.func70 #[.pointer (some ⟨B,0,none⟩)] ?_;(with_reducible refine (alloc_give.calls k3 B ae af (rd_L1 l2 aa) (fun k_=>some k_=(.slice aQ ah.length aT : Value).ownBlock) (.slice aQ ah.length aT) ah ax aX true aG w _ ?av ?aH aq.out ?aI ?aJ HBW.out ?aK A18.out).mono ?_);(case av=>exact yhb);(case aH=>exact Kd.C_kept_came (Kd.heap_int .i64) ap.out yhb (fun k_ hs_=>(fun e_=>zW ag.out k_ e_.symm) hs_));(case aI=>exact Kd.R_tight rfl ag.out);(case aJ=>exact fun e_=>HKB.out e_);(case aK=>exact (yk HS));rintro e w21 ⟨rfl,hy0,hb,hkp,hs9⟩;refine ⟨_,rfl, ?_⟩;have hs1 : w21.cell? ⟨B,1,none⟩=some (.slice aQ ah.length aT):=(zs hs9 1).trans rfl;have n0_:=zm (Kd.S_mono (ok' := fun k_=>some k_≠(.slice aQ ah.length aT : Value).ownBlock∧k_≠B) (Kd.S_keptB (ac.out) hkp (fun k_ hk_ hs_=>hs_.elim hk_.1 hk_.2)) (fun k_ hk_=>hk_.1));have n1_:=zm (Kd.R_reok rfl hy0 (fun k_ e_=>ag.out.1 k_ e_));have n2_:=zm (hb);clear ac;clear ag;clear HB;clear HS;have HS:=zm hs9;clear hs9;have ac:=n0_;have ag:=n1_;have HB:=n2_;clear n0_ n1_ n2_;(try clear hb);(try clear hkp);(try clear hy0)))
       go_roundg k3
       case measure=>exact yom3 HJ3 HK2 HK3
       case rel=>exact ⟨(aG),(aX),H',⟨yom3 HJ3 HK2 HK3⟩,⟨yr ac⟩,⟨yr ag⟩,⟨yhb⟩,⟨(yk HS)⟩⟩
      replace c19:=za3.mpr c19
      subst c19
      rw [ynf] at H
      obtain ⟨c22,H⟩:=yif H
      have LMc22:=zm c22;clear c22
      obtain ⟨ba,aM⟩ : ∃ y_ : List (List Int),y_=(aw ++ [aG]):=⟨_,rfl⟩
      replace H : (alloc_Pulses.l0 k3 a0 a1 ba l2 (l2.length : Int) (wrap64 (aa+1)))=some (r1,r2):=yrw aM H
      have bb:=zm aM;clear aM
      have H' := zm H
      clear H
      obtain ⟨aC,aD,bh⟩:=zT ag.out
      subst bh
      go_wp2_with (first|((with_reducible refine zK (f:=70) rfl ?_);refine ygl 39 Try.func70 #[.pointer (some ⟨B,0,none⟩)] ?_;(with_reducible refine (alloc_give.calls k3 B ae af (rd_L1 l2 aa) (fun k_=>some k_=(.slice aC ah.length aD : Value).ownBlock) (.slice aC ah.length aD) ah ax aX false aG w _ ?av ?aH aq.out ?aI ?aJ HBW.out ?aK A18.out).mono ?_);(case av=>exact yhb);(case aH=>exact Kd.C_kept_came (Kd.heap_int .i64) ap.out yhb (fun k_ hs_=>(fun e_=>zW ag.out k_ e_.symm) hs_));(case aI=>exact Kd.R_tight rfl ag.out);(case aJ=>exact fun e_=>HKB.out e_);(case aK=>exact (yk HS));rintro e w24 ⟨rfl,hy0,hb,hkp,hs9⟩;refine ⟨_,rfl, ?_⟩;have hs1 : w24.cell? ⟨B,1,none⟩=some (.slice aC ah.length aD):=(zs hs9 1).trans rfl;have n0_:=zm (Kd.S_mono (ok' := fun k_=>some k_≠(.slice aC ah.length aD : Value).ownBlock∧k_≠B) (Kd.S_keptB (ac.out) hkp (fun k_ hk_ hs_=>hs_.elim hk_.1 hk_.2)) (fun k_ hk_=>hk_.1));have n1_:=zm (Kd.R_reok rfl hy0 (fun k_ e_=>ag.out.1 k_ e_));have n2_:=zm (hb);clear ac;clear ag;clear HB;clear HS;have HS:=zm hs9;clear hs9;have ac:=n0_;have ag:=n1_;have HB:=n2_;clear n0_ n1_ n2_;(try clear hb);(try clear hkp);(try clear hy0))|((with_reducible refine zb9 (b:=.append) (xs := #[.tmp 40, .tmp 45]) rfl ?_);(try (refine gate_guard (by rfl) ?_;dsimp only));at_builtin;refine Kd.S_append (Kd.slice 3 (Kd.int .i64)) (w0:=w) w.heap.size rfl (.tmp 40) (.tmp 45) 22 49 (.slice none 0 0) 24 rfl Try.underlying22 info49 rfl (by decide) (by omega) u8 aw aG [.slice aC ah.length aD] (fun _=>True) (fun k_=>some k_=(.slice aC ah.length aD : Value).ownBlock) rfl rfl ?aP (fun k_ hk_=>((zG (ok' := fun k_=>((fun _=>True)) k_∧some k_≠(u8 : Value).ownBlock) (zZ (ag.out) (Kd.S_typed ac.out) (by decide)) (fun k_ hk=>⟨trivial,hk.2⟩))).1 k_ hk_.symm) ?aF ?aO ?aB ?aS ?aL ?_;(case aP=>exact Kd.M_row (zG (Kd.R_tight rfl (zG (ok' := fun k_=>((fun _=>True)) k_∧some k_≠(u8 : Value).ownBlock) (zZ (ag.out) (Kd.S_typed ac.out) (by decide)) (fun k_ hk=>⟨trivial,hk.2⟩))) (fun _ h_=>h_)));(case aB=>exact yhb);(case aF=>exact (fun _ _=>trivial));(case aO=>exact (yS0 ac));(case aS=>exact (zE yhb));(case aL=>have:=LMc22.out;omega);intro bi w25 ho hb hg hat;rw [← bb.out] at ho;replace HB:=zm (hb);have bc:=zm (ho);clear ac;clear ag;clear ho hb hg hat))
      go_roundg k3
      case measure=>exact yom3 HJ3 HK2 HK3
      case rel=>exact ⟨(ba),(wrap64 (aa+1)),yq,H',⟨yom3 HJ3 HK2 HK3⟩,⟨yr bc⟩,⟨yhb⟩⟩
    replace c12:=za3.mpr c12
    subst c12
    rw [ynf] at H
    simp only [zM,zN] at H
    obtain ⟨rfl,rfl⟩:=H
    obtain ⟨⟨a7,ae,af,aW,aj,am,ao⟩,a8,a9⟩:=yat (at_L1 HR2.out aa)
    cases aW
    replace aj:=yhx HB aj
    have ap:=zm ao;have aq:=zm am;clear ao am
    go_wp2_with (first|((with_reducible refine zK (f:=62) rfl ?_);refine ygl 29 Try.func62 #[.slice ae (rd_L1 l2 aa).length af] ?_;(with_reducible refine (gain_Right.calls k2 _ _ (rd_L1 l2 aa) false _ ?av aq.out A11.out).mono ?_);(case av=>exact ycb ap);rintro e w' ⟨rfl,⟨nd,rfl⟩⟩;refine ⟨_,rfl, ?_⟩))
    go_ret2
    exact ⟨_,ye,yn,yhb⟩
   simp only [zM,zN] at H
   obtain ⟨rfl,rfl⟩:=H
   go_wp2
   go_ret2
   exact ⟨_,ye,yr ac,yhb⟩
def coder_at.f (l0 : List Int) (a1 : Int) : Option (Int):=if a1 ≥ (l0.length : Int) then (some 0) else (if 0≤a1 then (if a1 < (l0.length : Int) then (some (IntKind.u64.wrap (rd l0 a1))) else (none)) else (none))
theorem coder_at.calls (A0 : Option Addr) (c0 : Nat) (l0 : List Int) (a1 : Int) (r : Int) (w : World) (hr0 : Kd.C (Kd.int .u8) w A0 l0.length l0) (hc0 : l0.length≤c0) (h : coder_at.f l0 a1=some r) :
  Calls Try.prog 85 #[.slice A0 l0.length c0, .int .i64 a1] w fun e w' => e=.returned (.int .u64 r)∧Drawn0 w w' := by
 have HR0:=zm hr0;have HC0:=zm hc0;clear hr0 hc0;have H:=h
 unfold coder_at.f at H
 clear h
 replace H:=yIl H
 obtain ⟨ac,H⟩ | ⟨ac,H⟩:=H
 ·
  obtain rfl:=zO H
  go_enter Try.func85,Try.ntmps85
  go_wp2
  go_ret
  exact ⟨yq,yd⟩
 obtain ⟨c4,H⟩:=yif H
 have ag : decide (0≤a1)=true:=decide_eq_true c4
 clear c4
 obtain ⟨c5,H⟩:=yif H
 have ah : decide (a1 < (l0.length : Int))=true:=decide_eq_true c5
 clear c5
 obtain rfl:=zO H
 obtain ⟨af,ae,aa,ai,aj⟩:=yai HR0 a1
 cases ae
 go_enter Try.func85,Try.ntmps85
 go_wp2
 go_ret
 exact ⟨yq,yd⟩
def coder_Open.f (l0 : List Int) : Option (Int × Int × List Int × Int):=(coder_at.f l0 0).bind fun af=>((coder_at.f l0 1).bind fun ag=>((coder_at.f l0 2).bind fun ah=>((coder_at.f l0 3).bind fun ai=>(some (Go.bits .or .u64 (Go.bits .or .u64 (Go.bits .or .u64 (IntKind.u64.wrap (af * 16777216)) (IntKind.u64.wrap (ag * 65536))) (IntKind.u64.wrap (ah * 256))) ai,4294967295,l0,4)))))
theorem coder_Open.calls (P0_ : Nat→Prop) (A0 : Option Addr) (c0 : Nat) (l0 : List Int) (r1 : Int) (r2 : Int) (r3 : List Int) (r4 : Int) (w : World) (hs0 : Kd.V (Kd.int .u8) 5 w w.heap.size (fun k_=>P0_ k_) (.slice A0 l0.length c0) l0) (h : coder_Open.f l0=some (r1,r2,r3,r4)) :
  Calls Try.prog 49 #[.slice A0 l0.length c0] w fun e w' => ∃ v2_ : Value,e=.returned (.agg #[.int .u64 r1, .int .u32 r2,v2_, .int .i64 r4])∧Kd.V (Kd.int .u8) 5 w' w.heap.size (fun k_=>(P0_ k_∨w.heap.size≤k_)) v2_ r3∧Below w.heap.size w w' := by
 have hu82:=Try.underlying82
 have HO0:=zm (show Kd.V (Kd.int .u8) 5 w w.heap.size (fun k_=>(P0_ k_∨w.heap.size≤k_)) (.slice A0 l0.length c0) l0 from zy hs0 (fun k_ hk => .inl hk))
 have HB:=zm (zY w.heap.size w);have H:=h
 unfold coder_Open.f at H
 clear h
 obtain ⟨af,A2,H⟩:=ybi H
 obtain ⟨ag,A3,H⟩:=ybi H
 obtain ⟨ah,A4,H⟩:=ybi H
 obtain ⟨ai,A5,H⟩:=ybi H
 simp only [zM,zN] at H
 obtain ⟨rfl,rfl,rfl,rfl⟩:=H
 go_enter Try.func49,Try.ntmps49
 go_wp2_with (first|((with_reducible refine zL (N:=2) rfl ?_);refine ybx 2 #[.int .u64 0, .int .u32 0, .slice none 0 0, .int .i64 0] 82 ?_;intro aj hg w6 hbox hb;replace HO0:=yVe HO0 hg hb;have aa:=zm (hbox);have ak:=ygw hg;have al:=ygw hg;replace HB:=ybs hb;clear hb hbox hg)|((with_reducible refine zK (f:=85) rfl ?_);refine ygl 4 Try.func85 #[.slice A0 l0.length c0, .int .i64 0] ?_;(with_reducible refine (coder_at.calls _ _ l0 0 af _ ?ac ?ae A2.out).mono ?_);(case ac=>exact yce (zR HO0.out).2.2);(case ae=>exact (zR HO0.out).2.1);rintro e w' ⟨rfl,⟨nd,rfl⟩⟩;refine ⟨_,rfl, ?_⟩;(try (rw [drewN_self w6];generalize hq_ : World.drewN w6 _=w6;replace HO0:=yVq hq_ HO0;replace aa:=ykq hq_ aa;replace HB:=ysq hq_;clear hq_)))|((with_reducible refine zK (f:=85) rfl ?_);refine ygl 7 Try.func85 #[.slice A0 l0.length c0, .int .i64 1] ?_;(with_reducible refine (coder_at.calls _ _ l0 1 ag _ ?ac ?ae A3.out).mono ?_);(case ac=>exact yce (zR HO0.out).2.2);(case ae=>exact (zR HO0.out).2.1);rintro e w' ⟨rfl,⟨nd,rfl⟩⟩;refine ⟨_,rfl, ?_⟩;(try (rw [drewN_self w6];generalize hq_ : World.drewN w6 _=w6;replace HO0:=yVq hq_ HO0;replace aa:=ykq hq_ aa;replace HB:=ysq hq_;clear hq_)))|((with_reducible refine zK (f:=85) rfl ?_);refine ygl 11 Try.func85 #[.slice A0 l0.length c0, .int .i64 2] ?_;(with_reducible refine (coder_at.calls _ _ l0 2 ah _ ?ac ?ae A4.out).mono ?_);(case ac=>exact yce (zR HO0.out).2.2);(case ae=>exact (zR HO0.out).2.1);rintro e w' ⟨rfl,⟨nd,rfl⟩⟩;refine ⟨_,rfl, ?_⟩;(try (rw [drewN_self w6];generalize hq_ : World.drewN w6 _=w6;replace HO0:=yVq hq_ HO0;replace aa:=ykq hq_ aa;replace HB:=ysq hq_;clear hq_)))|((with_reducible refine zK (f:=85) rfl ?_);refine ygl 15 Try.func85 #[.slice A0 l0.length c0, .int .i64 3] ?_;(with_reducible refine (coder_at.calls _ _ l0 3 ai _ ?ac ?ae A5.out).mono ?_);(case ac=>exact yce (zR HO0.out).2.2);(case ae=>exact (zR HO0.out).2.1);rintro e w' ⟨rfl,⟨nd,rfl⟩⟩;refine ⟨_,rfl, ?_⟩;(try (rw [drewN_self w6];generalize hq_ : World.drewN w6 _=w6;replace HO0:=yVq hq_ HO0;replace aa:=ykq hq_ aa;replace HB:=ysq hq_;clear hq_));obtain ⟨_,_,_,_,_,_,_,_⟩:=yc4 aa))
 refine za1 (zb2 rfl _ _ aj 82 #[.int .u64 (Go.bits .or .u64 (Go.bits .or .u64 (Go.bits .or .u64 (IntKind.u64.wrap (af * 16777216)) (IntKind.u64.wrap (ag * 65536))) (IntKind.u64.wrap (ah * 256))) ai), .int .u32 4294967295, .slice A0 l0.length c0, .int .i64 4] (0,0) _ rfl (ykp aa) Try.underlying82 rfl (by kernel_rfl)) rfl ?_
 exact ⟨_,ye,yV0 HO0,yhb⟩
def coder_RightDec.f (af : Int) (ac : Int) (aa : List Int) (ag : Int) : Option (Bool):=if af≤4294967295 then (if ac ≥ 16777216 then (some (decide (ag ≥ 0))) else (some false)) else (some false)
theorem coder_RightDec.calls (af : Int) (ac : Int) (ah : Option Addr) (ai : Nat) (aa : List Int) (ag : Int) (r : Bool) (w : World) (hr0_2 : Kd.C (Kd.int .u8) w ah aa.length aa) (hc0_2 : aa.length≤ai) (h : coder_RightDec.f af ac aa ag=some r) :
  Calls Try.prog 97 #[.agg #[.int .u64 af, .int .u32 ac, .slice ah aa.length ai, .int .i64 ag]] w fun e w' => e=.returned (.bool r)∧Below w.heap.size w w' := by
 have hu82:=Try.underlying82;have ap:=zm hr0_2;have aq:=zm hc0_2;clear hr0_2 hc0_2;have HB:=zm (zY w.heap.size w);have H:=h
 unfold coder_RightDec.f at H
 clear h
 replace H:=yId H
 obtain ⟨am,H⟩ | ⟨am,H⟩:=H
 ·
  by_cases c3 : ac ≥ 16777216
  ·
   rw [za4 c3] at H
   have ao:=yDl c3
   clear c3
   obtain rfl:=zO H
   go_enter Try.func97,Try.ntmps97
   go_wp2_with (first|((with_reducible refine zL (N:=1) rfl ?_);refine ybx 1 #[.int .u64 af, .int .u32 ac, .slice ah aa.length ai, .int .i64 ag] 82 ?_;intro aj hg w4 hbox hb;have ae:=zm (hbox);have ak:=ygw hg;have al:=ygw hg;replace HB:=ybs hb;clear hb hbox hg;obtain ⟨_,_,_,_,_,_,_,_⟩:=yc4 ae))
   go_ret
   exact ⟨ye,yhb⟩
  rw [za5 c3] at H
  have ao:=yGl c3
  clear c3
  obtain rfl:=zO H
  go_enter Try.func97,Try.ntmps97
  go_wp2_with (first|((with_reducible refine zL (N:=1) rfl ?_);refine ybx 1 #[.int .u64 af, .int .u32 ac, .slice ah aa.length ai, .int .i64 ag] 82 ?_;intro aj hg w6 hbox hb;have ae:=zm (hbox);have ak:=ygw hg;have al:=ygw hg;replace HB:=ybs hb;clear hb hbox hg;obtain ⟨_,_,_,_,_,_,_,_⟩:=yc4 ae))
  go_ret
  exact ⟨ye,yhb⟩
 obtain rfl:=zO H
 go_enter Try.func97,Try.ntmps97
 go_wp2_with (first|((with_reducible refine zL (N:=1) rfl ?_);refine ybx 1 #[.int .u64 af, .int .u32 ac, .slice ah aa.length ai, .int .i64 ag] 82 ?_;intro aj hg w8 hbox hb;have ae:=zm (hbox);have ak:=ygw hg;have al:=ygw hg;replace HB:=ybs hb;clear hb hbox hg;obtain ⟨_,_,_,_,_,_,_,_⟩:=yc4 ae))
 go_ret
 exact ⟨ye,yhb⟩
def coder_good.f (ai : Int) (aj : Int) (af : List Int) (ak : Int) : Option (Int × Int × List Int × Int):=(coder_RightDec.f ai aj af ak).bind fun ay=>(if ay=true then (some (ai,aj,af,ak)) else ((coder_Open.f ([] : List Int)).bind fun ap=>(some (ap.1,ap.2.1,ap.2.2.1,ap.2.2.2))))
theorem coder_good.calls (ai : Int) (aj : Int) (aq : Nat→Prop) (al : Option Addr) (am : Nat) (af : List Int) (ak : Int) (r1 : Int) (r2 : Int) (r3 : List Int) (r4 : Int) (w : World) (az : Kd.V (Kd.int .u8) 5 w w.heap.size (fun k_=>aq k_) (.slice al af.length am) af) (h : coder_good.f ai aj af ak=some (r1,r2,r3,r4)) :
  Calls Try.prog 86 #[.agg #[.int .u64 ai, .int .u32 aj, .slice al af.length am, .int .i64 ak]] w fun e w' => ∃ v2_ : Value,e=.returned (.agg #[.int .u64 r1, .int .u32 r2,v2_, .int .i64 r4])∧Kd.V (Kd.int .u8) 5 w' w.heap.size (fun k_=>(aq k_∨w.heap.size≤k_)) v2_ r3∧Below w.heap.size w w' := by
 have hu82:=Try.underlying82
 have aa:=zm (show Kd.V (Kd.int .u8) 5 w w.heap.size (fun k_=>(aq k_∨w.heap.size≤k_)) (.slice al af.length am) af from zy az (fun k_ hk => .inl hk))
 have HB:=zm (zY w.heap.size w);have H:=h
 unfold coder_good.f at H
 clear h
 obtain ⟨ay,A2,H⟩:=ybi H
 by_cases c3 : ay=true
 ·
  subst c3
  rw [za4 rfl] at H
  simp only [zM,zN] at H
  obtain ⟨rfl,rfl,rfl,rfl⟩:=H
  go_enter Try.func86,Try.ntmps86
  go_wp2_with (first|((with_reducible refine zL (N:=1) rfl ?_);refine ybx 1 #[.int .u64 ai, .int .u32 aj, .slice al af.length am, .int .i64 ak] 82 ?_;intro aw hg w4 hbox hb;replace aa:=yVe aa hg hb;have ac:=zm (hbox);have aA:=ygw hg;have aC:=ygw hg;replace HB:=ybs hb;clear hb hbox hg)|((with_reducible refine zL (N:=2) rfl ?_);refine ybx 2 #[.int .u64 0, .int .u32 0, .slice none 0 0, .int .i64 0] 82 ?_;intro au hg w5 hbox hb;replace aa:=yVe aa hg hb;have ae:=zm (hbox);have aD:=ygw hg;have aE:=ygw hg;replace HB:=ybs hb;have ag:=ynl ac hg;have ah:=yng ac hg;replace ac:=ybb ac hb;clear hb hbox hg;have:=ag.out;have:=ah.out;obtain ⟨_,_,_,_,_,_,_,_⟩:=yc4 ac)|((with_reducible refine zK (f:=97) rfl ?_);refine ygl 4 Try.func97 #[.agg #[.int .u64 ai, .int .u32 aj, .slice al af.length am, .int .i64 ak]] ?_;(with_reducible refine (coder_RightDec.calls ai aj _ _ af ak true _ ?ao ?av A2.out).mono ?_);(case ao=>exact yce (zR aa.out).2.2);(case av=>exact (zR aa.out).2.1);rintro e w8 ⟨rfl,hb⟩;refine ⟨_,rfl, ?_⟩;replace aa:=yVb aa hb;replace ac:=ybb ac hb;replace ae:=ybb ae hb;replace HB:=ybs hb;(try clear hb);obtain ⟨_,_,_,_,_,_,_,_⟩:=yc4 ac;obtain ⟨_,_,_,_,_,_,_,_⟩:=yc4 ae))
  refine za1 (zb2 rfl _ _ au 82 #[.int .u64 ai, .int .u32 aj, .slice al af.length am, .int .i64 ak] (0,0) _ rfl (ykp ae) Try.underlying82 rfl (by kernel_rfl)) rfl ?_
  exact ⟨_,ye,yV0 aa,yhb⟩
 replace c3:=za3.mpr c3
 subst c3
 rw [ynf] at H
 obtain ⟨⟨aG,aH,aI,aJ⟩,A11,H⟩:=ybi H
 try dsimp only at H
 simp only [zM,zN] at H
 obtain ⟨rfl,rfl,rfl,rfl⟩:=H
 go_enter Try.func86,Try.ntmps86
 go_wp2_with (first|((with_reducible refine zL (N:=1) rfl ?_);refine ybx 1 #[.int .u64 ai, .int .u32 aj, .slice al af.length am, .int .i64 ak] 82 ?_;intro aw hg w12 hbox hb;replace aa:=yVe aa hg hb;have ac:=zm (hbox);have aA:=ygw hg;have aC:=ygw hg;replace HB:=ybs hb;clear hb hbox hg)|((with_reducible refine zL (N:=2) rfl ?_);refine ybx 2 #[.int .u64 0, .int .u32 0, .slice none 0 0, .int .i64 0] 82 ?_;intro au hg w13 hbox hb;replace aa:=yVe aa hg hb;have ae:=zm (hbox);have aD:=ygw hg;have aE:=ygw hg;replace HB:=ybs hb;have ag:=ynl ac hg;have ah:=yng ac hg;replace ac:=ybb ac hb;clear hb hbox hg;have:=ag.out;have:=ah.out;obtain ⟨_,_,_,_,_,_,_,_⟩:=yc4 ac)|((with_reducible refine zK (f:=97) rfl ?_);refine ygl 4 Try.func97 #[.agg #[.int .u64 ai, .int .u32 aj, .slice al af.length am, .int .i64 ak]] ?_;(with_reducible refine (coder_RightDec.calls ai aj _ _ af ak false _ ?ao ?av A2.out).mono ?_);(case ao=>exact yce (zR aa.out).2.2);(case av=>exact (zR aa.out).2.1);rintro e w16 ⟨rfl,hb⟩;refine ⟨_,rfl, ?_⟩;replace aa:=yVb aa hb;replace ac:=ybb ac hb;replace ae:=ybb ae hb;replace HB:=ybs hb;(try clear hb))|((with_reducible refine zK (f:=49) rfl ?_);refine ygl 6 Try.func49 #[.slice none 0 0] ?_;(refine (coder_Open.calls (fun k_=>False) _ _ ([] : List Int) aG aH aI aJ _ ?ao A11.out).mono ?_);(case ao=>exact Kd.V_nil _ _ _ _ _);rintro e w17 ⟨aQ,rfl,ho0,hb⟩;refine ⟨_,rfl, ?_⟩;replace aa:=yVb aa hb;have ax:=yho (fun k_=>(aq k_∨w.heap.size≤k_)∧k_≠aw∧k_≠au) ho0 (fun k_ hk_=>⟨Or.elim hk_ (fun hs_=>(hs_).elim) (fun hn_=>(.inr (Nat.le_trans (zE yhb) hn_))),yoB ac hk_,yoB ae hk_⟩);replace ac:=ybb ac hb;replace ae:=ybb ae hb;replace HB:=ybs hb;(try clear hb);(try clear ho0);obtain ⟨_,_,_,_,_,_,_,_⟩:=yc4 ae;obtain ⟨aK,aM,aN⟩:=zU ax.out;subst aN))
 refine za1 (zb2 rfl _ _ au 82 #[.int .u64 aG, .int .u32 aH, .slice aK aI.length aM, .int .i64 aJ] (0,0) _ rfl (ykp ae) Try.underlying82 rfl (by kernel_rfl)) rfl ?_
 exact ⟨_,ye,yV0 ax,yhb⟩
def num_Clamp.f (a0 : Int) (a1 : Int) (a2 : Int) : Option (Int):=if a0 < a1 then (some a1) else (if a0 > a2 then (some a2) else (some a0))
theorem num_Clamp.calls (a0 : Int) (a1 : Int) (a2 : Int) (r : Int) (w : World) (h : num_Clamp.f a0 a1 a2=some r) :
  Calls Try.prog 87 #[.int .i64 a0, .int .i64 a1, .int .i64 a2] w fun e w' => e=.returned (.int .i64 r)∧Drawn0 w w' := by
 have H:=h
 unfold num_Clamp.f at H
 clear h
 replace H:=yId H
 obtain ⟨aa,H⟩ | ⟨aa,H⟩:=H
 ·
  obtain rfl:=zO H
  go_enter Try.func87,Try.ntmps87
  go_wp2
  go_ret
  exact ⟨yq,yd⟩
 by_cases c5 : a0 > a2
 ·
  rw [za4 c5] at H
  have ac:=yDs c5
  clear c5
  obtain rfl:=zO H
  go_enter Try.func87,Try.ntmps87
  go_wp2
  go_ret
  exact ⟨yq,yd⟩
 rw [za5 c5] at H
 have ac:=yGs c5
 clear c5
 obtain rfl:=zO H
 go_enter Try.func87,Try.ntmps87
 go_wp2
 go_ret
 exact ⟨yq,yd⟩
def coder_Get.f (ah : Int) (ai : Int) (ag : List Int) (aj : Int) (a1 : Int) : Option (Int × Int):=(coder_good.f ah ai ag aj).bind fun az=>(if a1 < 1 then (some (0,1)) else (if a1 > 65536 then (some (0,1)) else (if ((a1) % 4294967296)=0 then (none) else (if ((Int.tdiv az.2.1 ((a1) % 4294967296)) % 4294967296)=0 then (none) else ((num_Clamp.f (wrap64 (IntKind.u64.wrap (Int.tdiv az.1 ((Int.tdiv az.2.1 ((a1) % 4294967296)) % 4294967296)))) 0 (wrap64 (a1 - 1))).bind fun aA=>(some (aA,0)))))))
theorem coder_Get.calls (ah : Int) (ai : Int) (au : Option Addr) (av : Nat) (ag : List Int) (aj : Int) (a1 : Int) (r1 : Int) (r2 : Int) (w : World) (hr0_2 : Kd.C (Kd.int .u8) w au ag.length ag) (hc0_2 : ag.length≤av) (h : coder_Get.f ah ai ag aj a1=some (r1,r2)) :
  Calls Try.prog 50 #[.agg #[.int .u64 ah, .int .u32 ai, .slice au ag.length av, .int .i64 aj], .int .i64 a1] w fun e w' => e=.returned (.tuple #[.int .i64 r1, .int .i64 r2])∧Below w.heap.size w w' := by
 have hu82:=Try.underlying82;have ak:=zm hr0_2;have al:=zm hc0_2;clear hr0_2 hc0_2;have HB:=zm (zY w.heap.size w);have H:=h
 unfold coder_Get.f at H
 clear h
 obtain ⟨⟨ap,aq,aw,ax⟩,A3,H⟩:=ybi H
 try dsimp only at H
 replace H:=yId H
 obtain ⟨aK,H⟩ | ⟨aK,H⟩:=H
 ·
  simp only [zM,zN] at H
  obtain ⟨rfl,rfl⟩:=H
  go_enter Try.func50,Try.ntmps50
  go_wp2_with (first|((with_reducible refine zL (N:=2) rfl ?_);refine ybx 2 #[.int .u64 ah, .int .u32 ai, .slice au ag.length av, .int .i64 aj] 82 ?_;intro ac hg w5 hbox hb;have aa:=zm (hbox);have am:=ygw hg;have ao:=ygw hg;replace HB:=ybs hb;clear hb hbox hg;obtain ⟨_,_,_,_,_,_,_,_⟩:=yc4 aa)|(go_at_call 86;(with_reducible refine (coder_good.calls ah ai (fun k_=>k_ < w.heap.size) _ _ ag aj ap aq aw ax _ ?ae A3.out).mono ?_);(case ae=>exact Kd.V_mk al.out (Kd.F_below (Kd.C_F (Kd.heap_int .u8) ak.out) yhb));rintro e w7 ⟨ay,rfl,ho0,hb⟩;have af:=yho (fun k_=>k_≠ac) ho0 (fun k_ hk_=>yoB aa hk_);replace aa:=ybb aa hb;replace HB:=ybs hb;(try clear hb);(try clear ho0);obtain ⟨_,_,_,_,_,_,_,_⟩:=yc4 aa;obtain ⟨Ao9,co9,eo9⟩:=zU af.out;subst eo9))
  repeat (go_quiet (first|((with_reducible refine zL (N:=2) rfl ?_);refine ybx 2 #[.int .u64 ah, .int .u32 ai, .slice au ag.length av, .int .i64 aj] 82 ?_;intro ac hg w5 hbox hb;have aa:=zm (hbox);have am:=ygw hg;have ao:=ygw hg;replace HB:=ybs hb;clear hb hbox hg;obtain ⟨_,_,_,_,_,_,_,_⟩:=yc4 aa)|(go_at_call 86;(with_reducible refine (coder_good.calls ah ai (fun k_=>k_ < w.heap.size) _ _ ag aj ap aq aw ax _ ?ae A3.out).mono ?_);(case ae=>exact Kd.V_mk al.out (Kd.F_below (Kd.C_F (Kd.heap_int .u8) ak.out) yhb));rintro e w7 ⟨ay,rfl,ho0,hb⟩;have af:=yho (fun k_=>k_≠ac) ho0 (fun k_ hk_=>yoB aa hk_);replace aa:=ybb aa hb;replace HB:=ybs hb;(try clear hb);(try clear ho0);obtain ⟨_,_,_,_,_,_,_,_⟩:=yc4 aa;obtain ⟨Ao9,co9,eo9⟩:=zU af.out;subst eo9));try go_wp2_with (first|((with_reducible refine zL (N:=2) rfl ?_);refine ybx 2 #[.int .u64 ah, .int .u32 ai, .slice au ag.length av, .int .i64 aj] 82 ?_;intro ac hg w5 hbox hb;have aa:=zm (hbox);have am:=ygw hg;have ao:=ygw hg;replace HB:=ybs hb;clear hb hbox hg;obtain ⟨_,_,_,_,_,_,_,_⟩:=yc4 aa)|(go_at_call 86;(with_reducible refine (coder_good.calls ah ai (fun k_=>k_ < w.heap.size) _ _ ag aj ap aq aw ax _ ?ae A3.out).mono ?_);(case ae=>exact Kd.V_mk al.out (Kd.F_below (Kd.C_F (Kd.heap_int .u8) ak.out) yhb));rintro e w7 ⟨ay,rfl,ho0,hb⟩;have af:=yho (fun k_=>k_≠ac) ho0 (fun k_ hk_=>yoB aa hk_);replace aa:=ybb aa hb;replace HB:=ybs hb;(try clear hb);(try clear ho0);obtain ⟨_,_,_,_,_,_,_,_⟩:=yc4 aa;obtain ⟨Ao9,co9,eo9⟩:=zU af.out;subst eo9)))
  go_ret2
  exact ⟨ye,yhb⟩
 by_cases c10 : a1 > 65536
 ·
  rw [za4 c10] at H
  have aE:=yDs c10
  clear c10
  simp only [zM,zN] at H
  obtain ⟨rfl,rfl⟩:=H
  go_enter Try.func50,Try.ntmps50
  go_wp2_with (first|((with_reducible refine zL (N:=2) rfl ?_);refine ybx 2 #[.int .u64 ah, .int .u32 ai, .slice au ag.length av, .int .i64 aj] 82 ?_;intro ac hg w11 hbox hb;have aa:=zm (hbox);have am:=ygw hg;have ao:=ygw hg;replace HB:=ybs hb;clear hb hbox hg;obtain ⟨_,_,_,_,_,_,_,_⟩:=yc4 aa)|(go_at_call 86;(with_reducible refine (coder_good.calls ah ai (fun k_=>k_ < w.heap.size) _ _ ag aj ap aq aw ax _ ?ae A3.out).mono ?_);(case ae=>exact Kd.V_mk al.out (Kd.F_below (Kd.C_F (Kd.heap_int .u8) ak.out) yhb));rintro e w13 ⟨ay,rfl,ho0,hb⟩;have af:=yho (fun k_=>k_≠ac) ho0 (fun k_ hk_=>yoB aa hk_);replace aa:=ybb aa hb;replace HB:=ybs hb;(try clear hb);(try clear ho0);obtain ⟨_,_,_,_,_,_,_,_⟩:=yc4 aa;obtain ⟨aG,aH,aC⟩:=zU af.out;subst aC))
  repeat (go_quiet (first|((with_reducible refine zL (N:=2) rfl ?_);refine ybx 2 #[.int .u64 ah, .int .u32 ai, .slice au ag.length av, .int .i64 aj] 82 ?_;intro ac hg w11 hbox hb;have aa:=zm (hbox);have am:=ygw hg;have ao:=ygw hg;replace HB:=ybs hb;clear hb hbox hg;obtain ⟨_,_,_,_,_,_,_,_⟩:=yc4 aa)|(go_at_call 86;(with_reducible refine (coder_good.calls ah ai (fun k_=>k_ < w.heap.size) _ _ ag aj ap aq aw ax _ ?ae A3.out).mono ?_);(case ae=>exact Kd.V_mk al.out (Kd.F_below (Kd.C_F (Kd.heap_int .u8) ak.out) yhb));rintro e w13 ⟨ay,rfl,ho0,hb⟩;have af:=yho (fun k_=>k_≠ac) ho0 (fun k_ hk_=>yoB aa hk_);replace aa:=ybb aa hb;replace HB:=ybs hb;(try clear hb);(try clear ho0);obtain ⟨_,_,_,_,_,_,_,_⟩:=yc4 aa;obtain ⟨aG,aH,aC⟩:=zU af.out;subst aC));try go_wp2_with (first|((with_reducible refine zL (N:=2) rfl ?_);refine ybx 2 #[.int .u64 ah, .int .u32 ai, .slice au ag.length av, .int .i64 aj] 82 ?_;intro ac hg w11 hbox hb;have aa:=zm (hbox);have am:=ygw hg;have ao:=ygw hg;replace HB:=ybs hb;clear hb hbox hg;obtain ⟨_,_,_,_,_,_,_,_⟩:=yc4 aa)|(go_at_call 86;(with_reducible refine (coder_good.calls ah ai (fun k_=>k_ < w.heap.size) _ _ ag aj ap aq aw ax _ ?ae A3.out).mono ?_);(case ae=>exact Kd.V_mk al.out (Kd.F_below (Kd.C_F (Kd.heap_int .u8) ak.out) yhb));rintro e w13 ⟨ay,rfl,ho0,hb⟩;have af:=yho (fun k_=>k_≠ac) ho0 (fun k_ hk_=>yoB aa hk_);replace aa:=ybb aa hb;replace HB:=ybs hb;(try clear hb);(try clear ho0);obtain ⟨_,_,_,_,_,_,_,_⟩:=yc4 aa;obtain ⟨aG,aH,aC⟩:=zU af.out;subst aC)))
  go_ret2
  exact ⟨ye,yhb⟩
 rw [za5 c10] at H
 have aE:=yGs c10
 clear c10
 obtain ⟨c16,H⟩:=yie H
 obtain ⟨aM,aN⟩:=yF c16
 obtain ⟨c17,H⟩:=yie H
 obtain ⟨aQ,aT⟩:=yF c17
 obtain ⟨aA,A18,H⟩:=ybi H
 simp only [zM,zN] at H
 obtain ⟨rfl,rfl⟩:=H
 go_enter Try.func50,Try.ntmps50
 go_wp2_with (first|((with_reducible refine zL (N:=2) rfl ?_);refine ybx 2 #[.int .u64 ah, .int .u32 ai, .slice au ag.length av, .int .i64 aj] 82 ?_;intro ac hg w19 hbox hb;have aa:=zm (hbox);have am:=ygw hg;have ao:=ygw hg;replace HB:=ybs hb;clear hb hbox hg;obtain ⟨_,_,_,_,_,_,_,_⟩:=yc4 aa)|(go_at_call 86;(with_reducible refine (coder_good.calls ah ai (fun k_=>k_ < w.heap.size) _ _ ag aj ap aq aw ax _ ?ae A3.out).mono ?_);(case ae=>exact Kd.V_mk al.out (Kd.F_below (Kd.C_F (Kd.heap_int .u8) ak.out) yhb));rintro e w21 ⟨ay,rfl,ho0,hb⟩;have af:=yho (fun k_=>k_≠ac) ho0 (fun k_ hk_=>yoB aa hk_);replace aa:=ybb aa hb;replace HB:=ybs hb;(try clear hb);(try clear ho0);obtain ⟨_,_,_,_,_,_,_,_⟩:=yc4 aa;obtain ⟨aI,aJ,aD⟩:=zU af.out;subst aD)|(go_at_call 87;(with_reducible refine (num_Clamp.calls (wrap64 (IntKind.u64.wrap (Int.tdiv ap ((Int.tdiv aq ((a1) % 4294967296)) % 4294967296)))) 0 (wrap64 (a1 - 1)) aA _ A18.out).mono ?_);rintro e w' ⟨rfl,⟨nd,rfl⟩⟩;(try exact yww)))
 repeat (go_quiet (first|((with_reducible refine zL (N:=2) rfl ?_);refine ybx 2 #[.int .u64 ah, .int .u32 ai, .slice au ag.length av, .int .i64 aj] 82 ?_;intro ac hg w19 hbox hb;have aa:=zm (hbox);have am:=ygw hg;have ao:=ygw hg;replace HB:=ybs hb;clear hb hbox hg;obtain ⟨_,_,_,_,_,_,_,_⟩:=yc4 aa)|(go_at_call 86;(with_reducible refine (coder_good.calls ah ai (fun k_=>k_ < w.heap.size) _ _ ag aj ap aq aw ax _ ?ae A3.out).mono ?_);(case ae=>exact Kd.V_mk al.out (Kd.F_below (Kd.C_F (Kd.heap_int .u8) ak.out) yhb));rintro e w21 ⟨ay,rfl,ho0,hb⟩;have af:=yho (fun k_=>k_≠ac) ho0 (fun k_ hk_=>yoB aa hk_);replace aa:=ybb aa hb;replace HB:=ybs hb;(try clear hb);(try clear ho0);obtain ⟨_,_,_,_,_,_,_,_⟩:=yc4 aa;obtain ⟨aI,aJ,aD⟩:=zU af.out;subst aD)|(go_at_call 87;(with_reducible refine (num_Clamp.calls (wrap64 (IntKind.u64.wrap (Int.tdiv ap ((Int.tdiv aq ((a1) % 4294967296)) % 4294967296)))) 0 (wrap64 (a1 - 1)) aA _ A18.out).mono ?_);rintro e w' ⟨rfl,⟨nd,rfl⟩⟩;(try exact yww)));try go_wp2_with (first|((with_reducible refine zL (N:=2) rfl ?_);refine ybx 2 #[.int .u64 ah, .int .u32 ai, .slice au ag.length av, .int .i64 aj] 82 ?_;intro ac hg w19 hbox hb;have aa:=zm (hbox);have am:=ygw hg;have ao:=ygw hg;replace HB:=ybs hb;clear hb hbox hg;obtain ⟨_,_,_,_,_,_,_,_⟩:=yc4 aa)|(go_at_call 86;(with_reducible refine (coder_good.calls ah ai (fun k_=>k_ < w.heap.size) _ _ ag aj ap aq aw ax _ ?ae A3.out).mono ?_);(case ae=>exact Kd.V_mk al.out (Kd.F_below (Kd.C_F (Kd.heap_int .u8) ak.out) yhb));rintro e w21 ⟨ay,rfl,ho0,hb⟩;have af:=yho (fun k_=>k_≠ac) ho0 (fun k_ hk_=>yoB aa hk_);replace aa:=ybb aa hb;replace HB:=ybs hb;(try clear hb);(try clear ho0);obtain ⟨_,_,_,_,_,_,_,_⟩:=yc4 aa;obtain ⟨aI,aJ,aD⟩:=zU af.out;subst aD)|(go_at_call 87;(with_reducible refine (num_Clamp.calls (wrap64 (IntKind.u64.wrap (Int.tdiv ap ((Int.tdiv aq ((a1) % 4294967296)) % 4294967296)))) 0 (wrap64 (a1 - 1)) aA _ A18.out).mono ?_);rintro e w' ⟨rfl,⟨nd,rfl⟩⟩;(try exact yww))))
 go_ret2
 exact ⟨ye,yhb⟩
def coder_fair.f (a0 : Int) (a1 : Int) (a2 : Int) : Option (Bool):=if a0 ≥ 0 then (if a0 < a1 then (if a1≤a2 then (some (decide (a2≤65536))) else (some false)) else (some false)) else (some false)
theorem coder_fair.calls (a0 : Int) (a1 : Int) (a2 : Int) (r : Bool) (w : World) (h : coder_fair.f a0 a1 a2=some r) :
  Calls Try.prog 64 #[.int .i64 a0, .int .i64 a1, .int .i64 a2] w fun e w' => e=.returned (.bool r)∧Drawn0 w w' := by
 have H:=h
 unfold coder_fair.f at H
 clear h
 replace H:=yIl H
 obtain ⟨aa,H⟩ | ⟨aa,H⟩:=H
 ·
  by_cases c5 : a0 < a1
  ·
   rw [za4 c5] at H
   have ac:=yD c5
   clear c5
   replace H:=yId H
   obtain ⟨ae,H⟩ | ⟨ae,H⟩:=H
   ·
    obtain rfl:=zO H
    go_enter Try.func64,Try.ntmps64
    go_wp2
    go_ret
    exact ⟨yq,yd⟩
   obtain rfl:=zO H
   go_enter Try.func64,Try.ntmps64
   go_wp2
   go_ret
   exact ⟨yq,yd⟩
  rw [za5 c5] at H
  have ac:=yG c5
  clear c5
  obtain rfl:=zO H
  go_enter Try.func64,Try.ntmps64
  go_wp2
  go_ret
  exact ⟨yq,yd⟩
 obtain rfl:=zO H
 go_enter Try.func64,Try.ntmps64
 go_wp2
 go_ret
 exact ⟨yq,yd⟩
def coder_part.f (a0 : Int) (a1 : Int) (a2 : Int) (a3 : Int) : Option (Int × Int):=if ((a3) % 4294967296)=0 then (none) else (if a2=a3 then (some ((a0 - ((IntKind.u64.wrap (((Int.tdiv a0 ((a3) % 4294967296)) % 4294967296) * (IntKind.u64.wrap (a1)))) % 4294967296)) % 4294967296,IntKind.u64.wrap (((Int.tdiv a0 ((a3) % 4294967296)) % 4294967296) * (IntKind.u64.wrap (a1))))) else (some ((((Int.tdiv a0 ((a3) % 4294967296)) % 4294967296) * ((wrap64 (a2 - a1)) % 4294967296)) % 4294967296,IntKind.u64.wrap (((Int.tdiv a0 ((a3) % 4294967296)) % 4294967296) * (IntKind.u64.wrap (a1))))))
theorem coder_part.calls (a0 : Int) (a1 : Int) (a2 : Int) (a3 : Int) (r1 : Int) (r2 : Int) (w : World) (h : coder_part.f a0 a1 a2 a3=some (r1,r2)) :
  Calls Try.prog 65 #[.int .u32 a0, .int .i64 a1, .int .i64 a2, .int .i64 a3] w fun e w' => e=.returned (.tuple #[.int .u32 r1, .int .u64 r2])∧Drawn0 w w' := by
 have H:=h
 unfold coder_part.f at H
 clear h
 obtain ⟨c5,H⟩:=yie H
 obtain ⟨ae,af⟩:=yF c5
 by_cases c6 : a2=a3
 ·
  rw [za4 c6] at H
  obtain ⟨aa,ac⟩:=yE c6
  clear c6
  simp only [zM,zN] at H
  obtain ⟨rfl,rfl⟩:=H
  go_enter Try.func65,Try.ntmps65
  go_wp2
  go_ret2
  exact ⟨yq,yd⟩
 rw [za5 c6] at H
 obtain ⟨aa,ac⟩:=yF c6
 simp only [zM,zN] at H
 obtain ⟨rfl,rfl⟩:=H
 go_enter Try.func65,Try.ntmps65
 go_wp2
 go_ret2
 exact ⟨yq,yd⟩
def coder_Take.l0 : Nat→Int→Int→Int→List Int→Int→Option (Int × Int × List Int × Int × Int)
 | 0,_,_,_,_,_=>none
 | k+1,x10,aH,aQ,av,aw=>if x10 < 16777216 then ((coder_at.f av aw).bind fun aM=>(if aw < (av.length : Int) then (coder_Take.l0 k ((x10 * 256) % 4294967296) (Go.bits .or .u64 (Go.bits .and .u64 (IntKind.u64.wrap (aH * 256)) 4294967295) aM) aQ av (wrap64 (aw+1))) else (coder_Take.l0 k ((x10 * 256) % 4294967296) (Go.bits .or .u64 (Go.bits .and .u64 (IntKind.u64.wrap (aH * 256)) 4294967295) aM) aQ av aw))) else (some (aH,x10,av,aw,0))
def coder_Take.f (k : Nat) (az : Int) (aA : Int) (aq : List Int) (aC : Int) (a1 : Int) (a2 : Int) (a3 : Int) : Option (Int × Int × List Int × Int × Int):=(coder_good.f az aA aq aC).bind fun au=>((coder_fair.f a1 a2 a3).bind fun bF=>(if bF=true then ((coder_part.f au.2.1 a1 a2 a3).bind fun bE=>(coder_Take.l0 k bE.1 (IntKind.u64.wrap (au.1 - (mn au.1 bE.2))) au.2.1 au.2.2.1 au.2.2.2)) else (some (au.1,au.2.1,au.2.2.1,au.2.2.2,1))))
theorem coder_Take.mono_l : ∀ k,(∀ y0 y1 y2 y3 y4,LeO (coder_Take.l0 k y0 y1 y2 y3 y4) (coder_Take.l0 (k+1) y0 y1 y2 y3 y4))
 | 0=>fun _ _ _ _ _ r h=>by simp [coder_Take.l0] at h
 | k+1=>by
  have ih0:=coder_Take.mono_l k
  ·
   intro y0 y1 y2 y3 y4
   unfold coder_Take.l0
   exact yLm
theorem coder_Take.mono : ∀ a0 a1 a2 a3 a4 a5 a6 k,LeO (coder_Take.f k a0 a1 a2 a3 a4 a5 a6) (coder_Take.f (k+1) a0 a1 a2 a3 a4 a5 a6):=by
 intro a0 a1 a2 a3 a4 a5 a6 k
 have ih0:=coder_Take.mono_l k
 unfold coder_Take.f
 exact yLm
def coder_Take.T7 : Bool × List (List Nat × List Nat):=(true, [([], []),([0], [0]),([1], [1]),([2], [2]),([], []),([4], [4]),([], []),([6], [6]),([5,7], [5,7]),([3,8], [3,8]),([0,1,2,3,4,5,6,7,8,9], []),([10,9,8,0,1,2,3,4,5,6,7,8,9], [9,10])])
def coder_Take.B7 : List Nat := [0,1,3,7,0,16,0,64,240,511,1023,2047]
theorem coder_Take.tab7 : rtab .any (opsOf Try.f51 7)=coder_Take.T7:=by kernel_rfl
theorem coder_Take.bits7 : waitsOk coder_Take.T7.2 coder_Take.B7=true:=by kernel_rfl
theorem coder_Take.calls (k : Nat) (az : Int) (aA : Int) (ap : Nat→Prop) (aI : Option Addr) (aJ : Nat) (aq : List Int) (aC : Int) (a1 : Int) (a2 : Int) (a3 : Int) (r1 : Int) (r2 : Int) (r3 : List Int) (r4 : Int) (r5 : Int) (w : World) (bG : Kd.V (Kd.int .u8) 5 w w.heap.size (fun k_=>ap k_) (.slice aI aq.length aJ) aq) (h : coder_Take.f k az aA aq aC a1 a2 a3=some (r1,r2,r3,r4,r5)) :
  Calls Try.prog 51 #[.agg #[.int .u64 az, .int .u32 aA, .slice aI aq.length aJ, .int .i64 aC], .int .i64 a1, .int .i64 a2, .int .i64 a3] w fun e w' => ∃ v2_ : Value,e=.returned (.tuple #[.agg #[.int .u64 r1, .int .u32 r2,v2_, .int .i64 r4], .int .i64 r5])∧Kd.V (Kd.int .u8) 5 w' w.heap.size (fun k_=>(ap k_∨w.heap.size≤k_)) v2_ r3∧Below w.heap.size w w' := by
 have hu82:=Try.underlying82
 have ai:=zm (show Kd.V (Kd.int .u8) 5 w w.heap.size (fun k_=>(ap k_∨w.heap.size≤k_)) (.slice aI aq.length aJ) aq from zy bG (fun k_ hk => .inl hk))
 have HB:=zm (zY w.heap.size w);have H:=h
 unfold coder_Take.f at H
 clear h
 obtain ⟨⟨ay,ax,ao,aK⟩,A5,H⟩:=ybi H
 try dsimp only at H
 obtain ⟨bF,A6,H⟩:=ybi H
 by_cases c7 : bF=true
 ·
  subst c7
  rw [za4 rfl] at H
  obtain ⟨⟨bH,aV⟩,A8,H⟩:=ybi H
  try dsimp only at H
  obtain ⟨ji9,aN⟩ : ∃ j_ : Int,(mn ay aV)=j_:=⟨_,rfl⟩
  (first|rw [aN] at H|simp only [aN] at H)
  (try rw [aN] at A5)
  (try rw [aN] at A6)
  (try rw [aN] at A8)
  have bR : (if aV < ay then aV else ay)=ji9:=aN
  have H' := zm H
  clear H
  go_enter Try.func51,Try.ntmps51
  go_wp2_with (first|((with_reducible refine zL (N:=4) rfl ?_);refine ybx 4 #[.int .u64 az, .int .u32 aA, .slice aI aq.length aJ, .int .i64 aC] 82 ?_;intro ae hg w10 hbox hb;replace ai:=yVe ai hg hb;have aa:=zm (hbox);have bI:=ygw hg;have bJ:=ygw hg;replace HB:=ybs hb;clear hb hbox hg)|((with_reducible refine zL (N:=8) rfl ?_);refine ybx 8 #[.int .u64 0, .int .u32 0, .slice none 0 0, .int .i64 0] 82 ?_;intro al hg w11 hbox hb;replace ai:=yVe ai hg hb;have af:=zm (hbox);have bK:=ygw hg;have bL:=ygw hg;replace HB:=ybs hb;have aj:=ynl aa hg;have ak:=yng aa hg;replace aa:=ybb aa hb;clear hb hbox hg;have:=aj.out;have:=ak.out;obtain ⟨aW,aX,aY,aZ,a7,a8,a9,ba⟩:=yc4 aa)|((with_reducible refine zK (f:=86) rfl ?_);refine ygl 13 Try.func86 #[.agg #[.int .u64 az, .int .u32 aA, .slice aI aq.length aJ, .int .i64 aC]] ?_;(with_reducible refine (coder_good.calls az aA (fun k_=>(((ap k_∨w.heap.size≤k_)∧k_≠ae)∧k_≠al)) _ _ aq aC ay ax ao aK _ ai.out A5.out).mono ?_);rintro e w14 ⟨bO,rfl,ho0,hb⟩;refine ⟨_,rfl, ?_⟩;replace ai:=yVb ai hb;have am:=yho (fun k_=>(ap k_∨w.heap.size≤k_)∧k_≠ae∧k_≠al) ho0 (fun k_ hk_=>⟨Or.elim hk_ (fun hs_=>hs_.1.1) (fun hn_=>(.inr (Nat.le_trans (zE yhb) hn_))),yoB aa hk_,yoB af hk_⟩);replace aa:=ybb aa hb;replace af:=ybb af hb;replace HB:=ybs hb;(try clear hb);(try clear ho0);obtain ⟨bb,bc,bd,bf,bg,bh,bi,bj⟩:=yc4 aa;obtain ⟨aD,aE,bP⟩:=zU am.out;subst bP)|((with_reducible refine zb8 (t:=82) (p:=4) rfl ?_);refine za2 (t:=82) (p:=4) (v := ?vo_w17) (w1:=((((w14.setCell ⟨ae,0,none⟩ (.int .u64 ay)).setCell ⟨ae,1,none⟩ (.int .u32 ax)).setCell ⟨ae,2,none⟩ (.slice aD ao.length aE)).setCell ⟨ae,3,none⟩ (.int .i64 aK))) ?hg ?ho ?hn ?hr ?_;(case ho=>rfl);(case hg=>rfl);(case hn=>rfl);(case hr=>first|(go_simp;done)|(go_simp;rfl));intro w17 hw;replace ai : Aside0 (Kd.V (Kd.int .u8) 5 w17 w.heap.size (fun k_=>(ap k_∨w.heap.size≤k_)∧k_≠ae∧k_≠al) (.slice aI aq.length aJ) aq):=⟨(by rw [hw];exact (yV0 ai))⟩;replace am : Aside0 (Kd.V (Kd.int .u8) 5 w17 w.heap.size (fun k_=>(ap k_∨w.heap.size≤k_)∧k_≠ae∧k_≠al) (.slice aD ao.length aE) ao):=⟨(by rw [hw];exact (yV0 am))⟩;replace aa : Aside0 (w17.heap[ae]? = some (.cells #[.int .u64 ay, .int .u32 ax, .slice aD ao.length aE, .int .i64 aK] 82 (0,0))):=⟨(by rw [hw];exact (ykp aa))⟩;replace af : Aside0 (w17.heap[al]? = some (.cells #[.int .u64 0, .int .u32 0, .slice none 0 0, .int .i64 0] 82 (0,0))):=⟨(by rw [hw];exact (yk af))⟩;replace HB : Aside0 (Below w.heap.size w w17):=⟨(by rw [hw];exact yhb)⟩;clear hw)|((with_reducible refine zK (f:=64) rfl ?_);refine ygl 17 Try.func64 #[.int .i64 a1, .int .i64 a2, .int .i64 a3] ?_;(with_reducible refine (coder_fair.calls a1 a2 a3 true _ A6.out).mono ?_);rintro e w' ⟨rfl,⟨nd,rfl⟩⟩;refine ⟨_,rfl, ?_⟩;(try (rw [drewN_self w17];generalize hq_ : World.drewN w17 _=w17;replace ai:=yVq hq_ ai;replace am:=yVq hq_ am;replace aa:=ykq hq_ aa;replace af:=ykq hq_ af;replace HB:=ysq hq_;clear hq_));obtain ⟨bk,bl,bm,bn,bo,bp,bq,br⟩:=yc4 aa)|((with_reducible refine zK (f:=65) rfl ?_);refine ygl 26 Try.func65 #[.int .u32 ax, .int .i64 a1, .int .i64 a2, .int .i64 a3] ?_;(with_reducible refine (coder_part.calls ax a1 a2 a3 bH aV _ A8.out).mono ?_);rintro e w' ⟨rfl,⟨nd,rfl⟩⟩;refine ⟨_,rfl, ?_⟩;(try (rw [drewN_self w17];generalize hq_ : World.drewN w17 _=w17;replace ai:=yVq hq_ ai;replace am:=yVq hq_ am;replace aa:=ykq hq_ aa;replace af:=ykq hq_ af;replace HB:=ysq hq_;clear hq_));obtain ⟨bs,bu,bv,bw,bx,bz,bA,bB⟩:=yc4 aa))
  go_loopg [10] k (fun kq v10 w' => ∃ (aG : Int) (ah : Int) (ag : Int),v10=.int .u32 aG∧Aside0 (coder_Take.l0 kq aG ah ax ao ag=some (r1,r2,r3,r4,r5))∧Aside0 (kq≤k)∧Aside0 (Kd.V (Kd.int .u8) 5 w' w.heap.size (fun k_=>(ap k_∨w.heap.size≤k_)∧k_≠ae∧k_≠al) (.slice aD ao.length aE) ao)∧Aside0 (w'.heap[ae]? = some (.cells #[.int .u64 ah, .int .u32 ax,(.slice aD ao.length aE), .int .i64 ag] 82 (0,0)))∧Aside0 (w'.heap[al]? = some (.cells #[.int .u64 0, .int .u32 0,(.slice none 0 0), .int .i64 0] 82 (0,0)))∧Aside0 (Below w.heap.size w w'))
  case atStart=>exact ⟨(bH),(IntKind.u64.wrap (ay - (ji9))),(aK),yq,H',⟨zX _⟩,⟨yV0 am⟩,⟨ykp aa⟩,⟨yk af⟩,⟨yhb⟩⟩
  case round =>
   clear H'
   try clear aW
   try clear aX
   try clear aY
   try clear aZ
   try clear bb
   try clear bc
   try clear bd
   try clear bf
   try clear bk
   try clear bl
   try clear bm
   try clear bn
   try clear bs
   try clear bu
   try clear bv
   try clear bw
   try clear a7
   try clear a8
   try clear a9
   try clear ba
   try clear bg
   try clear bh
   try clear bi
   try clear bj
   try clear bo
   try clear bp
   try clear bq
   try clear br
   try clear bx
   try clear bz
   try clear bA
   try clear bB
   obtain ⟨aG,ah,ag,rfl,HA,HK1,ac,aa,af,HB⟩:=hrel
   obtain ⟨k1,rfl⟩:=ysu gk (fun h=>by subst h;exact absurd HA.out (by simp [coder_Take.l0]))
   have H:=HA.out;clear HA
   simp only [coder_Take.l0] at H
   replace H:=yId H
   obtain ⟨bM,H⟩ | ⟨bM,H⟩:=H
   ·
    obtain ⟨aM,A21,H⟩:=ybi H
    replace H:=yId H
    obtain ⟨bN,H⟩ | ⟨bN,H⟩:=H
    ·
     have H' := zm H
     clear H
     try go_wp2
     replace ac:=zm (zC ac.out)
     replace aa:=zm (zj aa.out)
     replace af:=zm (zj af.out)
     replace HB:=zm (zf HB.out)
     refine yst (fun w' => w'.cell? ⟨ae,0,none⟩=some (.int .u64 ah)∧w'.cell? ⟨ae,1,none⟩=some (.int .u32 ax)∧w'.cell? ⟨ae,2,none⟩=some (.slice aD ao.length aE)∧w'.cell? ⟨ae,3,none⟩=some (.int .i64 ag)) [11] 12 coder_Take.tab7 coder_Take.bits7 (fun hHeld HT_ HW_ => ?_)
     generalize wr.drew=w23 at ac aa af HB hHeld ⊢
     refine yp 0 39 HT_ ?_
     refine yp 4 43 HT_ ?_
     refine yp 6 45 HT_ ?_
     refine yl 1 40 HT_ HW_ hHeld ?_
     refine yp 2 41 HT_ ?_
     refine yp 3 42 HT_ ?_
     refine yl 5 44 HT_ HW_ hHeld ?_
     refine yl 7 46 HT_ HW_ hHeld ?_
     refine yw 8 47 HT_ (fun K hK => ?_)
     refine ygs Try.func85 #[.slice aD ao.length aE, .int .i64 ag] ?_
     with_reducible refine (coder_at.calls _ _ ao ag aM _ ?aT ?aU A21.out).mono ?_
     (case aT=>exact yce (zR ac.out).2.2)
     (case aU=>exact (zR ac.out).2.1)
     rintro e w' ⟨rfl,⟨nd,rfl⟩⟩
     refine ⟨_,rfl, ?_⟩
     refine hK.out _ _ yH (fun hHeld => ?_)
     clear hK K
     refine ym (some 47) ?_
     refine yp 9 48 HT_ ?_
     refine yp 10 49 HT_ ?_
     refine last_ (i:=11) (N:=none) #[true,true,true,true,true,true,true,true,true,true,true,true] rfl rfl (one_of HT_.out (by kernel_rfl)) (by decide) (fun K hK => ?_)
     have bS : w23.cell? ⟨ae,0,none⟩=some (.int .u64 ah):=(zs aa.out 0).trans rfl
     have hfs24:=zx aa.out 0
     have:=ak.out
     have:=aj.out
     refine skip_ (w1 := ?_) (by rfl) rfl ?_ ?_
     rotate_left
     ·
      go_simp
      rfl
     refine hK.out _ _ ?_
     clear hK K
     refine done_ (done_of HT_.out (by kernel_rfl)) ?_
     have:=aj.out
     have:=ak.out
     obtain ⟨_,_,_,_,_,_,_,_⟩:=yc4 aa
     try go_wp2
     go_roundg k1
     case measure=>exact yom1 HK1
     case rel=>exact ⟨((aG * 256) % 4294967296),(Go.bits .or .u64 (Go.bits .and .u64 (IntKind.u64.wrap (ah * 256)) 4294967295) aM),(wrap64 (ag+1)),yq,H',⟨yom1 HK1⟩,⟨yV0 ac⟩,⟨ykp aa⟩,⟨yk af⟩,⟨yhb⟩⟩
    have H' := zm H
    clear H
    try go_wp2
    replace ac:=zm (zC ac.out)
    replace aa:=zm (zj aa.out)
    replace af:=zm (zj af.out)
    replace HB:=zm (zf HB.out)
    refine yst (fun w' => w'.cell? ⟨ae,0,none⟩=some (.int .u64 ah)∧w'.cell? ⟨ae,1,none⟩=some (.int .u32 ax)∧w'.cell? ⟨ae,2,none⟩=some (.slice aD ao.length aE)∧w'.cell? ⟨ae,3,none⟩=some (.int .i64 ag)) [11] 12 coder_Take.tab7 coder_Take.bits7 (fun hHeld HT_ HW_ => ?_)
    generalize wr.drew=w27 at ac aa af HB hHeld ⊢
    refine yp 0 39 HT_ ?_
    refine yp 4 43 HT_ ?_
    refine yp 6 45 HT_ ?_
    refine yl 1 40 HT_ HW_ hHeld ?_
    refine yp 2 41 HT_ ?_
    refine yp 3 42 HT_ ?_
    refine yl 5 44 HT_ HW_ hHeld ?_
    refine yl 7 46 HT_ HW_ hHeld ?_
    refine yw 8 47 HT_ (fun K hK => ?_)
    refine ygs Try.func85 #[.slice aD ao.length aE, .int .i64 ag] ?_
    with_reducible refine (coder_at.calls _ _ ao ag aM _ ?aT ?aU A21.out).mono ?_
    (case aT=>exact yce (zR ac.out).2.2)
    (case aU=>exact (zR ac.out).2.1)
    rintro e w' ⟨rfl,⟨nd,rfl⟩⟩
    refine ⟨_,rfl, ?_⟩
    refine hK.out _ _ yH (fun hHeld => ?_)
    clear hK K
    refine ym (some 47) ?_
    refine yp 9 48 HT_ ?_
    refine yp 10 49 HT_ ?_
    refine last_ (i:=11) (N:=none) #[true,true,true,true,true,true,true,true,true,true,true,true] rfl rfl (one_of HT_.out (by kernel_rfl)) (by decide) (fun K hK => ?_)
    have bT : w27.cell? ⟨ae,0,none⟩=some (.int .u64 ah):=(zs aa.out 0).trans rfl
    have hfs28:=zx aa.out 0
    have:=ak.out
    have:=aj.out
    refine skip_ (w1 := ?_) (by rfl) rfl ?_ ?_
    rotate_left
    ·
     go_simp
     rfl
    refine hK.out _ _ ?_
    clear hK K
    refine done_ (done_of HT_.out (by kernel_rfl)) ?_
    have:=aj.out
    have:=ak.out
    obtain ⟨_,_,_,_,_,_,_,_⟩:=yc4 aa
    try go_wp2
    go_roundg k1
    case measure=>exact yom1 HK1
    case rel=>exact ⟨((aG * 256) % 4294967296),(Go.bits .or .u64 (Go.bits .and .u64 (IntKind.u64.wrap (ah * 256)) 4294967295) aM),(ag),yq,H',⟨yom1 HK1⟩,⟨yV0 ac⟩,⟨ykp aa⟩,⟨yk af⟩,⟨yhb⟩⟩
   simp only [zM,zN] at H
   obtain ⟨rfl,rfl,rfl,rfl,rfl⟩:=H
   have:=aj.out
   have:=ak.out
   obtain ⟨_,_,_,_,_,_,_,_⟩:=yc4 aa
   obtain ⟨_,_,_,_,_,_,_,_⟩:=yc4 af
   go_wp2
   refine za1 (results_ct rfl _ _ al 82 #[.int .u64 ah, .int .u32 aG, .slice aD ao.length aE, .int .i64 ag] (0,0) _ rfl (ykp af) Try.underlying82 rfl (by kernel_rfl)) rfl ?_
   exact ⟨_,by first|rfl|(simp [errW_none,errW_some] <;> rfl)|(simp only [← aN];first|rfl|(simp [errW_none,errW_some] <;> rfl))|(simp [*,errW_none,errW_some] <;> rfl),yV0 ac,yhb⟩
 replace c7:=za3.mpr c7
 subst c7
 rw [ynf] at H
 simp only [zM,zN] at H
 obtain ⟨rfl,rfl,rfl,rfl,rfl⟩:=H
 go_enter Try.func51,Try.ntmps51
 go_wp2_with (first|((with_reducible refine zL (N:=4) rfl ?_);refine ybx 4 #[.int .u64 az, .int .u32 aA, .slice aI aq.length aJ, .int .i64 aC] 82 ?_;intro ae hg w34 hbox hb;replace ai:=yVe ai hg hb;have aa:=zm (hbox);have bI:=ygw hg;have bJ:=ygw hg;replace HB:=ybs hb;clear hb hbox hg)|((with_reducible refine zL (N:=8) rfl ?_);refine ybx 8 #[.int .u64 0, .int .u32 0, .slice none 0 0, .int .i64 0] 82 ?_;intro al hg w35 hbox hb;replace ai:=yVe ai hg hb;have af:=zm (hbox);have bK:=ygw hg;have bL:=ygw hg;replace HB:=ybs hb;have aj:=ynl aa hg;have ak:=yng aa hg;replace aa:=ybb aa hb;clear hb hbox hg;have:=aj.out;have:=ak.out;obtain ⟨_,_,_,_,_,_,_,_⟩:=yc4 aa)|((with_reducible refine zK (f:=86) rfl ?_);refine ygl 13 Try.func86 #[.agg #[.int .u64 az, .int .u32 aA, .slice aI aq.length aJ, .int .i64 aC]] ?_;(with_reducible refine (coder_good.calls az aA (fun k_=>(((ap k_∨w.heap.size≤k_)∧k_≠ae)∧k_≠al)) _ _ aq aC ay ax ao aK _ ai.out A5.out).mono ?_);rintro e w38 ⟨bO,rfl,ho0,hb⟩;refine ⟨_,rfl, ?_⟩;replace ai:=yVb ai hb;have am:=yho (fun k_=>(ap k_∨w.heap.size≤k_)∧k_≠ae∧k_≠al) ho0 (fun k_ hk_=>⟨Or.elim hk_ (fun hs_=>hs_.1.1) (fun hn_=>(.inr (Nat.le_trans (zE yhb) hn_))),yoB aa hk_,yoB af hk_⟩);replace aa:=ybb aa hb;replace af:=ybb af hb;replace HB:=ybs hb;(try clear hb);(try clear ho0);obtain ⟨_,_,_,_,_,_,_,_⟩:=yc4 aa;obtain ⟨bC,bD,bQ⟩:=zU am.out;subst bQ)|((with_reducible refine zb8 (t:=82) (p:=4) rfl ?_);refine za2 (t:=82) (p:=4) (v := ?vo_w41) (w1:=((((w38.setCell ⟨ae,0,none⟩ (.int .u64 ay)).setCell ⟨ae,1,none⟩ (.int .u32 ax)).setCell ⟨ae,2,none⟩ (.slice bC ao.length bD)).setCell ⟨ae,3,none⟩ (.int .i64 aK))) ?hg ?ho ?hn ?hr ?_;(case ho=>rfl);(case hg=>rfl);(case hn=>rfl);(case hr=>first|(go_simp;done)|(go_simp;rfl));intro w41 hw;replace ai : Aside0 (Kd.V (Kd.int .u8) 5 w41 w.heap.size (fun k_=>(ap k_∨w.heap.size≤k_)∧k_≠ae∧k_≠al) (.slice aI aq.length aJ) aq):=⟨(by rw [hw];exact (yV0 ai))⟩;replace am : Aside0 (Kd.V (Kd.int .u8) 5 w41 w.heap.size (fun k_=>(ap k_∨w.heap.size≤k_)∧k_≠ae∧k_≠al) (.slice bC ao.length bD) ao):=⟨(by rw [hw];exact (yV0 am))⟩;replace aa : Aside0 (w41.heap[ae]? = some (.cells #[.int .u64 ay, .int .u32 ax, .slice bC ao.length bD, .int .i64 aK] 82 (0,0))):=⟨(by rw [hw];exact (ykp aa))⟩;replace af : Aside0 (w41.heap[al]? = some (.cells #[.int .u64 0, .int .u32 0, .slice none 0 0, .int .i64 0] 82 (0,0))):=⟨(by rw [hw];exact (yk af))⟩;replace HB : Aside0 (Below w.heap.size w w41):=⟨(by rw [hw];exact yhb)⟩;clear hw)|((with_reducible refine zK (f:=64) rfl ?_);refine ygl 17 Try.func64 #[.int .i64 a1, .int .i64 a2, .int .i64 a3] ?_;(with_reducible refine (coder_fair.calls a1 a2 a3 false _ A6.out).mono ?_);rintro e w' ⟨rfl,⟨nd,rfl⟩⟩;refine ⟨_,rfl, ?_⟩;(try (rw [drewN_self w41];generalize hq_ : World.drewN w41 _=w41;replace ai:=yVq hq_ ai;replace am:=yVq hq_ am;replace aa:=ykq hq_ aa;replace af:=ykq hq_ af;replace HB:=ysq hq_;clear hq_));obtain ⟨_,_,_,_,_,_,_,_⟩:=yc4 aa;obtain ⟨_,_,_,_,_,_,_,_⟩:=yc4 af))
 refine za1 (results_ct rfl _ _ al 82 #[.int .u64 ay, .int .u32 ax, .slice bC ao.length bD, .int .i64 aK] (0,0) _ rfl (ykp af) Try.underlying82 rfl (by kernel_rfl)) rfl ?_
 exact ⟨_,ye,yV0 am,yhb⟩
def coder_halves.f (a0 : Int) : Option (Int × Int):=if a0≤65536 then (some (wrap64 (a0),1)) else (some (wrap64 ((wrap64 (IntKind.u64.wrap (Int.tdiv (IntKind.u64.wrap (a0 - 1)) 65536)))+1),65536))
theorem coder_halves.calls (a0 : Int) (r1 : Int) (r2 : Int) (w : World) (h : coder_halves.f a0=some (r1,r2)) :
  Calls Try.prog 76 #[.int .u64 a0] w fun e w' => e=.returned (.tuple #[.int .i64 r1, .int .i64 r2])∧Drawn0 w w' := by
 have H:=h
 unfold coder_halves.f at H
 clear h
 replace H:=yId H
 obtain ⟨aa,H⟩ | ⟨aa,H⟩:=H
 ·
  simp only [zM,zN] at H
  obtain ⟨rfl,rfl⟩:=H
  go_enter Try.func76,Try.ntmps76
  go_wp2
  go_ret2
  exact ⟨yq,yd⟩
 simp only [zM,zN] at H
 obtain ⟨rfl,rfl⟩:=H
 go_enter Try.func76,Try.ntmps76
 go_wp2
 go_ret2
 exact ⟨yq,yd⟩
def coder_TakeNum.j0 : Nat→Int→Bool→Int→Int→List Int→Int→Option (Int × Int × List Int × Int × Int × Int)
 | 0,_,_,_,_,_,_=>none
 | k+1,x1,x21,aD,aE,aG,aH=>if x21=true then (some (aD,aE,aG,aH,0,1)) else ((coder_halves.f x1).bind fun aC=>((coder_Get.f aD aE aG aH aC.1).bind fun a8=>((coder_Take.f k aD aE aG aH a8.1 (wrap64 (a8.1+1)) aC.1).bind fun ah=>(if aC.2 > 1 then ((coder_Get.f ah.1 ah.2.1 ah.2.2.1 ah.2.2.2.1 aC.2).bind fun bb=>((coder_Take.f k ah.1 ah.2.1 ah.2.2.1 ah.2.2.2.1 bb.1 (wrap64 (bb.1+1)) aC.2).bind fun a9=>(some (a9.1,a9.2.1,a9.2.2.1,a9.2.2.2.1,mn (IntKind.u64.wrap ((IntKind.u64.wrap ((IntKind.u64.wrap (a8.1)) * (IntKind.u64.wrap (aC.2))))+(IntKind.u64.wrap (bb.1)))) (IntKind.u64.wrap (x1 - 1)),0)))) else (some (ah.1,ah.2.1,ah.2.2.1,ah.2.2.2.1,mn (IntKind.u64.wrap (a8.1)) (IntKind.u64.wrap (x1 - 1)),0))))))
def coder_TakeNum.f (k : Nat) (aW : Int) (aX : Int) (ax : List Int) (aY : Int) (a1 : Int) : Option (Int × Int × List Int × Int × Int × Int):=(coder_good.f aW aX ax aY).bind fun aq=>(if a1 < 1 then (coder_TakeNum.j0 k a1 true aq.1 aq.2.1 aq.2.2.1 aq.2.2.2) else (coder_TakeNum.j0 k a1 (decide (a1 > 4294967296)) aq.1 aq.2.1 aq.2.2.1 aq.2.2.2))
theorem coder_TakeNum.mono_l : ∀ k,(∀ y0 y1 y2 y3 y4 y5,LeO (coder_TakeNum.j0 k y0 y1 y2 y3 y4 y5) (coder_TakeNum.j0 (k+1) y0 y1 y2 y3 y4 y5))
 | 0=>fun _ _ _ _ _ _ r h=>by simp [coder_TakeNum.j0] at h
 | k+1=>by
  have ih0:=coder_TakeNum.mono_l k
  ·
   intro y0 y1 y2 y3 y4 y5
   unfold coder_TakeNum.j0
   have i0:=@coder_Take.mono
   exact yLm
theorem coder_TakeNum.mono : ∀ a0 a1 a2 a3 a4 k,LeO (coder_TakeNum.f k a0 a1 a2 a3 a4) (coder_TakeNum.f (k+1) a0 a1 a2 a3 a4):=by
 intro a0 a1 a2 a3 a4 k
 have ih0:=coder_TakeNum.mono_l k
 unfold coder_TakeNum.f
 have i0:=@coder_Take.mono
 exact yLm
theorem coder_TakeNum.calls (k : Nat) (aW : Int) (aX : Int) (ag : Nat→Prop) (bc : Option Addr) (bd : Nat) (ax : List Int) (aY : Int) (a1 : Int) (r1 : Int) (r2 : Int) (r3 : List Int) (r4 : Int) (r5 : Int) (r6 : Int) (w : World) (bB : Kd.V (Kd.int .u8) 5 w w.heap.size (fun k_=>ag k_) (.slice bc ax.length bd) ax) (h : coder_TakeNum.f k aW aX ax aY a1=some (r1,r2,r3,r4,r5,r6)) :
  Calls Try.prog 53 #[.agg #[.int .u64 aW, .int .u32 aX, .slice bc ax.length bd, .int .i64 aY], .int .u64 a1] w fun e w' => ∃ v2_ : Value,e=.returned (.tuple #[.agg #[.int .u64 r1, .int .u32 r2,v2_, .int .i64 r4], .int .u64 r5, .int .i64 r6])∧Kd.V (Kd.int .u8) 5 w' w.heap.size (fun k_=>(ag k_∨w.heap.size≤k_)) v2_ r3∧Below w.heap.size w w' := by
 have hu82:=Try.underlying82
 have ay:=zm (show Kd.V (Kd.int .u8) 5 w w.heap.size (fun k_=>(ag k_∨w.heap.size≤k_)) (.slice bc ax.length bd) ax from zy bB (fun k_ hk => .inl hk))
 have HB:=zm (zY w.heap.size w);have H:=h
 unfold coder_TakeNum.f at H
 clear h
 obtain ⟨⟨au,av,ao,aw⟩,A3,H⟩:=ybi H
 try dsimp only at H
 have HC4:=zm H;clear H
 go_enter Try.func53,Try.ntmps53
 go_upto_region 2 with (first|((with_reducible refine zL (N:=2) rfl ?_);refine ybx 2 #[.int .u64 aW, .int .u32 aX, .slice bc ax.length bd, .int .i64 aY] 82 ?_;intro ai hg w5 hbox hb;replace ay:=yVe ay hg hb;have ac:=zm (hbox);have bY:=ygw hg;have bZ:=ygw hg;replace HB:=ybs hb;clear hb hbox hg)|((with_reducible refine zL (N:=4) rfl ?_);refine ybx 4 #[.int .u64 0, .int .u32 0, .slice none 0 0, .int .i64 0] 82 ?_;intro af hg w6 hbox hb;replace ay:=yVe ay hg hb;have ae:=zm (hbox);have b4:=ygw hg;have b5:=ygw hg;replace HB:=ybs hb;have ak:=ynl ac hg;have al:=yng ac hg;replace ac:=ybb ac hb;clear hb hbox hg;have:=ak.out;have:=al.out;obtain ⟨bq,br,bs,bu,bv,bw,bx,bz⟩:=yc4 ac)|((with_reducible refine zK (f:=86) rfl ?_);refine ygl 15 Try.func86 #[.agg #[.int .u64 aW, .int .u32 aX, .slice bc ax.length bd, .int .i64 aY]] ?_;(with_reducible refine (coder_good.calls aW aX (fun k_=>(((ag k_∨w.heap.size≤k_)∧k_≠ai)∧k_≠af)) _ _ ax aY au av ao aw _ ay.out A3.out).mono ?_);rintro e w9 ⟨b6,rfl,ho0,hb⟩;refine ⟨_,rfl, ?_⟩;replace ay:=yVb ay hb;have bf:=yho (fun k_=>(ag k_∨w.heap.size≤k_)∧k_≠ai∧k_≠af) ho0 (fun k_ hk_=>⟨Or.elim hk_ (fun hs_=>hs_.1.1) (fun hn_=>(.inr (Nat.le_trans (zE yhb) hn_))),yoB ac hk_,yoB ae hk_⟩);replace ac:=ybb ac hb;replace ae:=ybb ae hb;replace HB:=ybs hb;(try clear hb);(try clear ho0);obtain ⟨bg,bh,bi,bj,bk,bl,bm,bn⟩:=yc4 ac;obtain ⟨aZ,a7,bJ⟩:=zU bf.out;subst bJ))
 (try simp only [Act.put,za9,zb0,zb1])
 go_cut [21] (fun v21 wc => ∃ (kq : Nat) (ba : Bool),v21=.bool ba∧Aside0 (coder_TakeNum.j0 kq a1 ba au av ao aw=some (r1,r2,r3,r4,r5,r6))∧Aside0 (kq≤k)∧Aside0 (Kd.V (Kd.int .u8) 5 wc w.heap.size (fun k_=>(ag k_∨w.heap.size≤k_)∧k_≠ai∧k_≠af) (.slice aZ ao.length a7) ao)∧Aside0 (wc.heap[ai]? = some (.cells #[.int .u64 au, .int .u32 av,(.slice aZ ao.length a7), .int .i64 aw] 82 (0,0)))∧Aside0 (wc.heap[af]? = some (.cells #[.int .u64 0, .int .u32 0,(.slice none 0 0), .int .i64 0] 82 (0,0)))∧Aside0 (Below w.heap.size w wc))
 case first =>
  have H:=HC4.out;clear HC4
  replace H:=yId H
  obtain ⟨aK,H⟩ | ⟨aK,H⟩:=H
  ·
   (first|rw [aK]|(simp only [i64_w,i32_w];rw [aK])|skip)
   have H' := zm H
   clear H
   go_wp2
   go_meet
   case rel=>exact ⟨_,(true),yq,H',⟨yo⟩,⟨yV0 bf⟩,⟨ykp ac⟩,⟨yk ae⟩,⟨yhb⟩⟩
  (first|rw [aK]|(simp only [i64_w,i32_w];rw [aK])|skip)
  have H' := zm H
  clear H
  go_wp2
  go_meet
  case rel=>exact ⟨_,(decide (a1 > 4294967296)),yq,H',⟨yo⟩,⟨yV0 bf⟩,⟨ykp ac⟩,⟨yk ae⟩,⟨yhb⟩⟩
 case rest =>
  clear HC4
  try clear bg
  try clear bh
  try clear bi
  try clear bj
  try clear bq
  try clear br
  try clear bs
  try clear bu
  try clear bk
  try clear bl
  try clear bm
  try clear bn
  try clear bv
  try clear bw
  try clear bx
  try clear bz
  obtain ⟨kq,ba,rfl,HA,HJ3,aa,ac,ae,HB⟩:=hcut
  obtain ⟨kj3,rfl⟩:=ysu kq (fun h=>by subst h;exact absurd HA.out (by simp [coder_TakeNum.j0]))
  have H:=HA.out;clear HA
  simp only [coder_TakeNum.j0] at H
  by_cases c13 : ba=true
  ·
   subst c13
   rw [za4 rfl] at H
   simp only [zM,zN] at H
   obtain ⟨rfl,rfl,rfl,rfl,rfl,rfl⟩:=H
   have:=ak.out
   have:=al.out
   obtain ⟨_,_,_,_,_,_,_,_⟩:=yc4 ac
   obtain ⟨_,_,_,_,_,_,_,_⟩:=yc4 ae
   go_wp2
   refine za1 (results_ctt rfl _ _ af 82 #[.int .u64 au, .int .u32 av, .slice aZ ao.length a7, .int .i64 aw] (0,0) _ rfl (ykp ae) Try.underlying82 rfl (by kernel_rfl)) rfl ?_
   exact ⟨_,ye,yV0 aa,yhb⟩
  replace c13:=za3.mpr c13
  subst c13
  rw [ynf] at H
  obtain ⟨⟨aA,aI⟩,A17,H⟩:=ybi H
  try dsimp only at H
  obtain ⟨⟨am,bC⟩,A18,H⟩:=ybi H
  try dsimp only at H
  obtain ⟨⟨aM,aN,aJ,aQ,bD⟩,A19,H⟩:=ybi H
  try dsimp only at H
  replace H:=yIs H
  obtain ⟨bE,H⟩ | ⟨bE,H⟩:=H
  ·
   obtain ⟨⟨aT,bK⟩,A21,H⟩:=ybi H
   try dsimp only at H
   obtain ⟨⟨bF,bG,bH,bI,bL⟩,A22,H⟩:=ybi H
   try dsimp only at H
   obtain ⟨bM,ap⟩ : ∃ j_ : Int,(mn (IntKind.u64.wrap ((IntKind.u64.wrap ((IntKind.u64.wrap (am)) * (IntKind.u64.wrap (aI))))+(IntKind.u64.wrap (aT)))) (IntKind.u64.wrap (a1 - 1)))=j_:=⟨_,rfl⟩
   (first|rw [ap] at H|simp only [ap] at H)
   (try rw [ap] at A17)
   (try rw [ap] at A18)
   (try rw [ap] at A19)
   (try rw [ap] at A21)
   (try rw [ap] at A22)
   have bN : (if (IntKind.u64.wrap (a1 - 1)) < (IntKind.u64.wrap ((IntKind.u64.wrap ((IntKind.u64.wrap (am)) * (IntKind.u64.wrap (aI))))+(IntKind.u64.wrap (aT)))) then (IntKind.u64.wrap (a1 - 1)) else (IntKind.u64.wrap ((IntKind.u64.wrap ((IntKind.u64.wrap (am)) * (IntKind.u64.wrap (aI))))+(IntKind.u64.wrap (aT)))))=bM:=ap
   simp only [zM,zN] at H
   obtain ⟨rfl,rfl,rfl,rfl,rfl,rfl⟩:=H
   go_wp2_with (first|((with_reducible refine zK (f:=76) rfl ?_);refine ygl 25 Try.func76 #[.int .u64 a1] ?_;(with_reducible refine (coder_halves.calls a1 aA aI _ A17.out).mono ?_);rintro e w' ⟨rfl,⟨nd,rfl⟩⟩;refine ⟨_,rfl, ?_⟩;(try (rw [drewN_self wc];generalize hq_ : World.drewN wc _=wc;replace aa:=yVq hq_ aa;replace ac:=ykq hq_ ac;replace ae:=ykq hq_ ae;replace HB:=ysq hq_;clear hq_));have:=ak.out;have:=al.out;obtain ⟨_,_,_,_,_,_,_,_⟩:=yc4 ac)|((with_reducible refine zK (f:=50) rfl ?_);refine ygl 31 Try.func50 #[.agg #[.int .u64 au, .int .u32 av, .slice aZ ao.length a7, .int .i64 aw], .int .i64 aA] ?_;(with_reducible refine (coder_Get.calls au av _ _ ao aw aA am bC _ ?aU ?aV A18.out).mono ?_);(case aU=>exact yce (zR aa.out).2.2);(case aV=>exact (zR aa.out).2.1);rintro e w26 ⟨rfl,hb⟩;refine ⟨_,rfl, ?_⟩;replace aa:=yVb aa hb;replace ac:=ybb ac hb;replace ae:=ybb ae hb;replace HB:=ybs hb;(try clear hb);obtain ⟨_,_,_,_,_,_,_,_⟩:=yc4 ac)|((with_reducible refine zK (f:=51) rfl ?_);refine ygl 40 Try.func51 #[.agg #[.int .u64 au, .int .u32 av, .slice aZ ao.length a7, .int .i64 aw], .int .i64 am, .int .i64 (wrap64 (am+1)), .int .i64 aA] ?_;(with_reducible refine (coder_Take.calls kj3 au av (fun k_=>((ag k_∨w.heap.size≤k_)∧(k_≠ai∧k_≠af))) _ _ ao aw am (wrap64 (am+1)) aA aM aN aJ aQ bD _ aa.out A19.out).mono ?_);rintro e w28 ⟨bO,rfl,ho0,hb⟩;refine ⟨_,rfl, ?_⟩;replace aa:=yVb aa hb;have aj:=yho (fun k_=>(ag k_∨w.heap.size≤k_)∧k_≠ai∧k_≠af) ho0 (fun k_ hk_=>⟨Or.elim hk_ (fun hs_=>hs_.1) (fun hn_=>(.inr (Nat.le_trans (zE yhb) hn_))),yoB ac hk_,yoB ae hk_⟩);replace ac:=ybb ac hb;replace ae:=ybb ae hb;replace HB:=ybs hb;(try clear hb);(try clear ho0);obtain ⟨_,_,_,_,_,_,_,_⟩:=yc4 ac;obtain ⟨bA,bo,bP⟩:=zU aj.out;subst bP)|((with_reducible refine zK (f:=50) rfl ?_);refine ygl 50 Try.func50 #[.agg #[.int .u64 aM, .int .u32 aN, .slice bA aJ.length bo, .int .i64 aQ], .int .i64 aI] ?_;(with_reducible refine (coder_Get.calls aM aN _ _ aJ aQ aI aT bK _ ?aU ?aV A21.out).mono ?_);(case aU=>refine (zR (e:=5) (base:=w.heap.size) (ok:=fun k_=>((ag k_∨w.heap.size≤k_)∧(k_≠ai∧k_≠af))) (n:=aJ.length) (c:=bo) ?_).2.2;exact (yV0 aj));(case aV=>exact (zR aj.out).2.1);rintro e w31 ⟨rfl,hb⟩;refine ⟨_,rfl, ?_⟩;replace aa:=zm (Kd.V_below (yV0 aa) hb);replace aj:=zm (Kd.V_below (yV0 aj) hb);replace ac:=zm (zF (g:=ai) (o:=.cells #[.int .u64 aM, .int .u32 aN, .slice bA aJ.length bo, .int .i64 aQ] 82 (0,0)) (ykp ac) hb);replace ae:=ybb ae hb;replace HB:=ybs hb;(try clear hb);obtain ⟨_,_,_,_,_,_,_,_⟩:=yc4 ac)|((with_reducible refine zK (f:=51) rfl ?_);refine ygl 59 Try.func51 #[.agg #[.int .u64 aM, .int .u32 aN, .slice bA aJ.length bo, .int .i64 aQ], .int .i64 aT, .int .i64 (wrap64 (aT+1)), .int .i64 aI] ?_;(with_reducible refine (coder_Take.calls kj3 aM aN (fun k_=>((ag k_∨w.heap.size≤k_)∧(k_≠ai∧k_≠af))) _ _ aJ aQ aT (wrap64 (aT+1)) aI bF bG bH bI bL _ aj.out A22.out).mono ?_);rintro e w33 ⟨b7,rfl,ho0,hb⟩;refine ⟨_,rfl, ?_⟩;replace aa:=yVb aa hb;replace aj:=yVb aj hb;have bp:=yho (fun k_=>(ag k_∨w.heap.size≤k_)∧k_≠ai∧k_≠af) ho0 (fun k_ hk_=>⟨Or.elim hk_ (fun hs_=>hs_.1) (fun hn_=>(.inr (Nat.le_trans (zE yhb) hn_))),yoB ac hk_,yoB ae hk_⟩);replace ac:=ybb ac hb;replace ae:=ybb ae hb;replace HB:=ybs hb;(try clear hb);(try clear ho0);obtain ⟨_,_,_,_,_,_,_,_⟩:=yc4 ac;obtain ⟨bQ,bR,bS⟩:=zU bp.out;subst bS;obtain ⟨_,_,_,_,_,_,_,_⟩:=yc4 ae))
   refine za1 (results_ctt rfl _ _ af 82 #[.int .u64 bF, .int .u32 bG, .slice bQ bH.length bR, .int .i64 bI] (0,0) _ rfl (ykp ae) Try.underlying82 rfl (by kernel_rfl)) rfl ?_
   exact ⟨_,by first|rfl|(simp [errW_none,errW_some] <;> rfl)|(simp only [← ap];first|rfl|(simp [errW_none,errW_some] <;> rfl))|(simp [*,errW_none,errW_some] <;> rfl),yV0 bp,yhb⟩
  obtain ⟨bT,az⟩ : ∃ j_ : Int,(mn (IntKind.u64.wrap (am)) (IntKind.u64.wrap (a1 - 1)))=j_:=⟨_,rfl⟩
  (first|rw [az] at H|simp only [az] at H)
  (try rw [az] at A17)
  (try rw [az] at A18)
  (try rw [az] at A19)
  have bU : (if (IntKind.u64.wrap (a1 - 1)) < (IntKind.u64.wrap (am)) then (IntKind.u64.wrap (a1 - 1)) else (IntKind.u64.wrap (am)))=bT:=az
  simp only [zM,zN] at H
  obtain ⟨rfl,rfl,rfl,rfl,rfl,rfl⟩:=H
  go_wp2_with (first|((with_reducible refine zK (f:=76) rfl ?_);refine ygl 25 Try.func76 #[.int .u64 a1] ?_;(with_reducible refine (coder_halves.calls a1 aA aI _ A17.out).mono ?_);rintro e w' ⟨rfl,⟨nd,rfl⟩⟩;refine ⟨_,rfl, ?_⟩;(try (rw [drewN_self wc];generalize hq_ : World.drewN wc _=wc;replace aa:=yVq hq_ aa;replace ac:=ykq hq_ ac;replace ae:=ykq hq_ ae;replace HB:=ysq hq_;clear hq_));have:=ak.out;have:=al.out;obtain ⟨_,_,_,_,_,_,_,_⟩:=yc4 ac)|((with_reducible refine zK (f:=50) rfl ?_);refine ygl 31 Try.func50 #[.agg #[.int .u64 au, .int .u32 av, .slice aZ ao.length a7, .int .i64 aw], .int .i64 aA] ?_;(with_reducible refine (coder_Get.calls au av _ _ ao aw aA am bC _ ?aU ?aV A18.out).mono ?_);(case aU=>exact yce (zR aa.out).2.2);(case aV=>exact (zR aa.out).2.1);rintro e w40 ⟨rfl,hb⟩;refine ⟨_,rfl, ?_⟩;replace aa:=yVb aa hb;replace ac:=ybb ac hb;replace ae:=ybb ae hb;replace HB:=ybs hb;(try clear hb);obtain ⟨_,_,_,_,_,_,_,_⟩:=yc4 ac)|((with_reducible refine zK (f:=51) rfl ?_);refine ygl 40 Try.func51 #[.agg #[.int .u64 au, .int .u32 av, .slice aZ ao.length a7, .int .i64 aw], .int .i64 am, .int .i64 (wrap64 (am+1)), .int .i64 aA] ?_;(with_reducible refine (coder_Take.calls kj3 au av (fun k_=>((ag k_∨w.heap.size≤k_)∧(k_≠ai∧k_≠af))) _ _ ao aw am (wrap64 (am+1)) aA aM aN aJ aQ bD _ aa.out A19.out).mono ?_);rintro e w42 ⟨bO,rfl,ho0,hb⟩;refine ⟨_,rfl, ?_⟩;replace aa:=yVb aa hb;have aj:=yho (fun k_=>(ag k_∨w.heap.size≤k_)∧k_≠ai∧k_≠af) ho0 (fun k_ hk_=>⟨Or.elim hk_ (fun hs_=>hs_.1) (fun hn_=>(.inr (Nat.le_trans (zE yhb) hn_))),yoB ac hk_,yoB ae hk_⟩);replace ac:=ybb ac hb;replace ae:=ybb ae hb;replace HB:=ybs hb;(try clear hb);(try clear ho0);obtain ⟨_,_,_,_,_,_,_,_⟩:=yc4 ac;obtain ⟨bV,bW,bX⟩:=zU aj.out;subst bX;obtain ⟨_,_,_,_,_,_,_,_⟩:=yc4 ae))
  refine za1 (results_ctt rfl _ _ af 82 #[.int .u64 aM, .int .u32 aN, .slice bV aJ.length bW, .int .i64 aQ] (0,0) _ rfl (ykp ae) Try.underlying82 rfl (by kernel_rfl)) rfl ?_
  exact ⟨_,by first|rfl|(simp [errW_none,errW_some] <;> rfl)|(simp only [← az];first|rfl|(simp [errW_none,errW_some] <;> rfl))|(simp [*,errW_none,errW_some] <;> rfl),yV0 aj,yhb⟩
mutual
def comb_Vector.l0 : Nat→Int→Int→Int→List Int→Option (List Int × Int)
 | 0,_,_,_,_=>none
 | k+1,x0,x1,x2,x9=>if x0 > 0 then ((comb_table.f (wrap64 (x0 - 1)) x1).bind fun aq=>(if x2 ≥ aq then ((comb_table.f (wrap64 (x0 - 1)) (wrap64 (x1 - 1))).bind fun ax=>(comb_Vector.l1 k x0 x1 (IntKind.u64.wrap (x2 - aq)) x9 1 ax)) else (if x9.length < 17592186044416 then (comb_Vector.l0 k (wrap64 (x0 - 1)) x1 x2 (x9 ++ [0])) else (none)))) else (some (x9,0))
def comb_Vector.l1 : Nat→Int→Int→Int→List Int→Int→Int→Option (List Int × Int)
 | 0,_,_,_,_,_,_=>none
 | k+1,x0,x1,x2,x9,x10,x12=>if x2 ≥ (IntKind.u64.wrap (2 * x12)) then ((comb_table.f (wrap64 (x0 - 1)) (wrap64 (x1 - (wrap64 (x10+1))))).bind fun ay=>(comb_Vector.l1 k x0 x1 (IntKind.u64.wrap (x2 - (IntKind.u64.wrap (2 * x12)))) x9 (wrap64 (x10+1)) ay)) else ((comb_table.f (wrap64 (x0 - 1)) (wrap64 (x1 - x10))).bind fun ak=>(if x2 ≥ ak then (if x9.length < 17592186044416 then (comb_Vector.l0 k (wrap64 (x0 - 1)) (wrap64 (x1 - x10)) (IntKind.u64.wrap (x2 - ak)) (x9 ++ [wrap64 (-x10)])) else (none)) else (if x9.length < 17592186044416 then (comb_Vector.l0 k (wrap64 (x0 - 1)) (wrap64 (x1 - x10)) x2 (x9 ++ [x10])) else (none))))
end
def comb_Vector.f (k : Nat) (a0 : Int) (a1 : Int) (a2 : Int) : Option (List Int × Int):=(comb_fair.f a0 a1).bind fun az=>(if az=true then ((comb_table.f a0 a1).bind fun au=>(if a2 ≥ au then (some (([] : List Int),5)) else (comb_Vector.l0 k a0 a1 a2 ([] : List Int)))) else (some (([] : List Int),1)))
theorem comb_Vector.mono_l : ∀ k,(∀ y0 y1 y2 y3,LeO (comb_Vector.l0 k y0 y1 y2 y3) (comb_Vector.l0 (k+1) y0 y1 y2 y3))∧(∀ y0 y1 y2 y3 y4 y5,LeO (comb_Vector.l1 k y0 y1 y2 y3 y4 y5) (comb_Vector.l1 (k+1) y0 y1 y2 y3 y4 y5))
 | 0=>⟨fun _ _ _ _ r h=>by simp [comb_Vector.l0] at h,fun _ _ _ _ _ _ r h=>by simp [comb_Vector.l1] at h⟩
 | k+1=>by
  obtain ⟨ih0,ih1⟩:=comb_Vector.mono_l k
  refine ⟨?_, ?_⟩
  ·
   intro y0 y1 y2 y3
   unfold comb_Vector.l0
   exact yLm
  intro y0 y1 y2 y3 y4 y5
  unfold comb_Vector.l1
  exact yLm
theorem comb_Vector.mono : ∀ a0 a1 a2 k,LeO (comb_Vector.f k a0 a1 a2) (comb_Vector.f (k+1) a0 a1 a2):=by
 intro a0 a1 a2 k
 obtain ⟨ih0,ih1⟩:=comb_Vector.mono_l k
 unfold comb_Vector.f
 exact yLm
theorem comb_Vector.calls (k : Nat) (a0 : Int) (a1 : Int) (a2 : Int) (r1 : List Int) (r2 : Int) (w : World) (h : comb_Vector.f k a0 a1 a2=some (r1,r2)) :
  Calls Try.prog 54 #[.int .i64 a0, .int .i64 a1, .int .u64 a2] w fun e w' => ∃ v0_ : Value,e=.returned (.tuple #[v0_, .int .i64 r2])∧Kd.R (Kd.int .i64) 3 w' w.heap.size (fun _=>True) v0_ r1∧Below w.heap.size w w' := by
 have HB:=zm (zY w.heap.size w);have H:=h
 unfold comb_Vector.f at H
 clear h
 obtain ⟨az,A4,H⟩:=ybi H
 by_cases c5 : az=true
 ·
  subst c5
  rw [za4 rfl] at H
  obtain ⟨aU,al⟩ : ∃ y_ : List Int,y_=(([0] : List Int)):=⟨_,rfl⟩
  replace H : ((comb_table.f a0 a1).bind fun au=>(if a2 ≥ au then (some (([] : List Int),5)) else (comb_Vector.l0 k a0 a1 a2 ([] : List Int))))=some (r1,r2):=yrw al H
  have aT:=zm al;clear al
  obtain ⟨au,A6,H⟩:=ybi H
  replace H:=yIl H
  obtain ⟨aA,H⟩ | ⟨aA,H⟩:=H
  ·
   simp only [zM,zN] at H
   obtain ⟨rfl,rfl⟩:=H
   go_enter Try.func54,Try.ntmps54
   obtain ⟨Z,hz,HZs⟩:=comb_table.zsize
   obtain ⟨ia0,ib0,ic0,id0⟩:=comb_table.inn A6.out
   go_wp2_with (first|((with_reducible refine zK (f:=71) rfl ?_);refine ygl 16 Try.func71 #[.int .i64 a0, .int .i64 a1] ?_;(with_reducible refine (comb_fair.calls a0 a1 true _ A4.out).mono ?_);rintro e w' ⟨rfl,⟨nd,rfl⟩⟩;refine ⟨_,rfl, ?_⟩)|((with_reducible refine zK (f:=72) rfl ?_);refine goesL_ (some 18) rfl rfl Try.func72 (by kernel_rfl) rfl #[] rfl (by first|rfl|simp) ?_;(with_reducible refine (comb_table.made _).mono ?_);rintro e w5 ⟨rfl,hb5⟩;refine ⟨_,rfl, ?_⟩;have hst:=run_storeCells_new (P:=Try.prog) w5 118 Z (ABl (comb_table.T 16)) comb_table.size16 HZs.out (ABl_one _);have n1_:=zm (ze (zJ yhb hb5) (.cells (ABl (comb_table.T 16)) 118));clear HB;have HB:=n1_;clear n1_;have hbn:=zm (blk_new w5 (.cells (ABl (comb_table.T 16)) 118));have hcl0:=comb_table.look hbn.out A6.out))
   go_ret2
   exact ⟨_,ye,yn,yhb⟩
  have H' := zm H
  clear H
  go_enter Try.func54,Try.ntmps54
  obtain ⟨Z,hz,HZs⟩:=comb_table.zsize
  obtain ⟨ia0,ib0,ic0,id0⟩:=comb_table.inn A6.out
  go_wp2_with (first|((with_reducible refine zK (f:=71) rfl ?_);refine ygl 16 Try.func71 #[.int .i64 a0, .int .i64 a1] ?_;(with_reducible refine (comb_fair.calls a0 a1 true _ A4.out).mono ?_);rintro e w' ⟨rfl,⟨nd,rfl⟩⟩;refine ⟨_,rfl, ?_⟩)|((with_reducible refine zK (f:=72) rfl ?_);refine goesL_ (some 18) rfl rfl Try.func72 (by kernel_rfl) rfl #[] rfl (by first|rfl|simp) ?_;(with_reducible refine (comb_table.made _).mono ?_);rintro e w5 ⟨rfl,hb5⟩;refine ⟨_,rfl, ?_⟩;have hst:=run_storeCells_new (P:=Try.prog) w5 118 Z (ABl (comb_table.T 16)) comb_table.size16 HZs.out (ABl_one _);have n1_:=zm (ze (zJ yhb hb5) (.cells (ABl (comb_table.T 16)) 118));clear HB;have HB:=n1_;clear n1_;have hbn:=zm (blk_new w5 (.cells (ABl (comb_table.T 16)) 118));have hcl0:=comb_table.look hbn.out A6.out))
  have hb0:=HB.out
  obtain ⟨W0,hW0⟩ : ∃ W0,W0=w5.alloc (.cells (ABl (comb_table.T 16)) 118):=⟨_,rfl⟩
  rw [← hW0] at hb0 hbn
  rw [← hW0]
  clear hW0 HB hst hz HZs hcl0
  generalize w5.heap.size=B at hbn ⊢
  have HB:=zm (zY W0.heap.size W0)
  go_loopg [0,1,2,9] k (fun kq v0 v1 v2 v9 w' => ∃ (ae : Int) (af : Int) (aj : Int) (ac : List Int),v0=.int .i64 ae∧v1=.int .i64 af∧v2=.int .u64 aj∧Aside0 (comb_Vector.l0 kq ae af aj ac=some (r1,r2))∧Aside0 (kq≤k)∧Aside0 (Kd.R (Kd.int .i64) 3 w' W0.heap.size (fun _=>True) v9 ac)∧Aside0 (Below W0.heap.size W0 w'))
  case atStart=>exact ⟨(a0),(a1),(a2),(([] : List Int)),yq,yq,yq,H',⟨zX _⟩,⟨yn⟩,⟨yhb⟩⟩
  case round =>
   clear H'
   try clear aA
   obtain ⟨ae,af,aj,ac,rfl,rfl,rfl,HA,HK1,ag,HB⟩:=hrel
   obtain ⟨k1,rfl⟩:=ysu gk (fun h=>by subst h;exact absurd HA.out (by simp [comb_Vector.l0]))
   have H:=HA.out;clear HA
   simp only [comb_Vector.l0] at H
   replace H:=yIs H
   obtain ⟨av,H⟩ | ⟨av,H⟩:=H
   ·
    obtain ⟨aq,A13,H⟩:=ybi H
    replace H:=yIl H
    obtain ⟨aw,H⟩ | ⟨aw,H⟩:=H
    ·
     obtain ⟨ax,A15,H⟩:=ybi H
     have H' := zm H
     clear H
     obtain ⟨ia0,ib0,ic0,id0⟩:=comb_table.inn A13.out
     have hcl0:=(HB.out.cell (zb W0 _ (comb_table.look hbn.out A13.out))).trans (comb_table.look hbn.out A13.out)
     obtain ⟨ia1,ib1,ic1,id1⟩:=comb_table.inn A15.out
     have hcl1:=(HB.out.cell (zb W0 _ (comb_table.look hbn.out A15.out))).trans (comb_table.look hbn.out A15.out)
     go_wp2
     go_loopg [2,10,12] k1 (fun kq v2 v10 v12 w' => ∃ (ah : Int) (aa : Int) (ai : Int),v2=.int .u64 ah∧v10=.int .i64 aa∧v12=.int .u64 ai∧Aside0 (comb_Vector.l1 kq ae af ah ac aa ai=some (r1,r2))∧Aside0 (kq≤k1)∧Aside0 (Kd.R (Kd.int .i64) 3 w' W0.heap.size (fun _=>True) u9 ac)∧Aside0 (Below W0.heap.size W0 w'))
     case atStart=>exact ⟨(IntKind.u64.wrap (aj - aq)),(1),(ax),yq,yq,yq,H',⟨zX _⟩,⟨yr ag⟩,⟨yhb⟩⟩
     case round =>
      clear H'
      try clear av
      try clear aw
      obtain ⟨ah,aa,ai,rfl,rfl,rfl,HA,HK2,ag,HB⟩:=hrel
      obtain ⟨k2,rfl⟩:=ysu gk (fun h=>by subst h;exact absurd HA.out (by simp [comb_Vector.l1]))
      have H:=HA.out;clear HA
      simp only [comb_Vector.l1] at H
      replace H:=yIl H
      obtain ⟨aC,H⟩ | ⟨aC,H⟩:=H
      ·
       obtain ⟨ay,A17,H⟩:=ybi H
       have H' := zm H
       clear H
       obtain ⟨ia2,ib2,ic2,id2⟩:=comb_table.inn A17.out
       have hcl2:=(HB.out.cell (zb W0 _ (comb_table.look hbn.out A17.out))).trans (comb_table.look hbn.out A17.out)
       go_wp2
       go_roundg k2
       case measure=>exact yom2 HK1 HK2
       case rel=>exact ⟨(IntKind.u64.wrap (ah - (IntKind.u64.wrap (2 * ai)))),(wrap64 (aa+1)),(ay),yq,yq,yq,H',⟨yom2 HK1 HK2⟩,⟨yr ag⟩,⟨yhb⟩⟩
      obtain ⟨ak,A18,H⟩:=ybi H
      replace H:=yIl H
      obtain ⟨aD,H⟩ | ⟨aD,H⟩:=H
      ·
       obtain ⟨c20,H⟩:=yif H
       have LMc20:=zm c20;clear c20
       obtain ⟨aE,am⟩ : ∃ y_ : List Int,y_=(ac ++ [wrap64 (-aa)]):=⟨_,rfl⟩
       replace H : (comb_Vector.l0 k2 (wrap64 (ae - 1)) (wrap64 (af - aa)) (IntKind.u64.wrap (ah - ak)) aE)=some (r1,r2):=yrw am H
       have aG:=zm am;clear am
       have H' := zm H
       clear H
       obtain ⟨ia3,ib3,ic3,id3⟩:=comb_table.inn A18.out
       have hcl3:=(HB.out.cell (zb W0 _ (comb_table.look hbn.out A18.out))).trans (comb_table.look hbn.out A18.out)
       go_wp2_with (first|((with_reducible refine zb9 (b:=.append) (xs := #[.tmp 85, .tmp 87]) rfl ?_);at_builtin;refine Kd.R_append (Kd.int .i64) (w0:=W0) W0.heap.size rfl (.tmp 85) (.tmp 87) 49 3 (.int .i64 0) 8 rfl Try.underlying49 info3 rfl (by decide) (by omega) u9 ac (wrap64 (-aa)) [.int .i64 (wrap64 (-aa))] (fun _=>True) (fun _=>False) rfl rfl ?aP (fun _ hk=>hk.elim) ?aF ?aO ?aB ?aS ?aL ?_;(case aP=>exact rfl);(case aB=>exact yhb);(case aF=>exact (fun _ _=>trivial));(case aO=>exact (yr ag));(case aS=>exact (zE yhb));(case aL=>have:=LMc20.out;omega);intro aV w21 ho hb hg hat;rw [← aG.out] at ho;replace HB:=zm (hb);have aH:=zm (ho);clear ag;clear ho hb hg hat))
       go_roundg k2
       case measure=>exact yom2 HK1 HK2
       case rel=>exact ⟨(wrap64 (ae - 1)),(wrap64 (af - aa)),(IntKind.u64.wrap (ah - ak)),(aE),yq,yq,yq,H',⟨yom2 HK1 HK2⟩,⟨yr aH⟩,⟨yhb⟩⟩
      obtain ⟨c22,H⟩:=yif H
      have LMc22:=zm c22;clear c22
      obtain ⟨aI,ao⟩ : ∃ y_ : List Int,y_=(ac ++ [aa]):=⟨_,rfl⟩
      replace H : (comb_Vector.l0 k2 (wrap64 (ae - 1)) (wrap64 (af - aa)) ah aI)=some (r1,r2):=yrw ao H
      have aJ:=zm ao;clear ao
      have H' := zm H
      clear H
      obtain ⟨ia4,ib4,ic4,id4⟩:=comb_table.inn A18.out
      have hcl4:=(HB.out.cell (zb W0 _ (comb_table.look hbn.out A18.out))).trans (comb_table.look hbn.out A18.out)
      go_wp2_with (first|((with_reducible refine zb9 (b:=.append) (xs := #[.tmp 85, .tmp 87]) rfl ?_);at_builtin;refine Kd.R_append (Kd.int .i64) (w0:=W0) W0.heap.size rfl (.tmp 85) (.tmp 87) 49 3 (.int .i64 0) 8 rfl Try.underlying49 info3 rfl (by decide) (by omega) u9 ac aa [.int .i64 aa] (fun _=>True) (fun _=>False) rfl rfl ?aP (fun _ hk=>hk.elim) ?aF ?aO ?aB ?aS ?aL ?_;(case aP=>exact rfl);(case aB=>exact yhb);(case aF=>exact (fun _ _=>trivial));(case aO=>exact (yr ag));(case aS=>exact (zE yhb));(case aL=>have:=LMc22.out;omega);intro aW w23 ho hb hg hat;rw [← aJ.out] at ho;replace HB:=zm (hb);have aK:=zm (ho);clear ag;clear ho hb hg hat))
      go_roundg k2
      case measure=>exact yom2 HK1 HK2
      case rel=>exact ⟨(wrap64 (ae - 1)),(wrap64 (af - aa)),(ah),(aI),yq,yq,yq,H',⟨yom2 HK1 HK2⟩,⟨yr aK⟩,⟨yhb⟩⟩
    obtain ⟨c24,H⟩:=yif H
    have LMc24:=zm c24;clear c24
    obtain ⟨aM,ap⟩ : ∃ y_ : List Int,y_=(ac ++ [0]):=⟨_,rfl⟩
    replace H : (comb_Vector.l0 k1 (wrap64 (ae - 1)) af aj aM)=some (r1,r2):=yrw ap H
    have aN:=zm ap;clear ap
    have H' := zm H
    clear H
    obtain ⟨ia5,ib5,ic5,id5⟩:=comb_table.inn A13.out
    have hcl5:=(HB.out.cell (zb W0 _ (comb_table.look hbn.out A13.out))).trans (comb_table.look hbn.out A13.out)
    go_wp2_with (first|((with_reducible refine zb9 (b:=.append) (xs := #[.tmp 85, .tmp 87]) rfl ?_);at_builtin;refine Kd.R_append (Kd.int .i64) (w0:=W0) W0.heap.size rfl (.tmp 85) (.tmp 87) 49 3 (.int .i64 0) 8 rfl Try.underlying49 info3 rfl (by decide) (by omega) u9 ac 0 [.int .i64 0] (fun _=>True) (fun _=>False) rfl rfl ?aP (fun _ hk=>hk.elim) ?aF ?aO ?aB ?aS ?aL ?_;(case aP=>exact rfl);(case aB=>exact yhb);(case aF=>exact (fun _ _=>trivial));(case aO=>exact (yr ag));(case aS=>exact (zE yhb));(case aL=>have:=LMc24.out;omega);intro aX w25 ho hb hg hat;rw [← aN.out] at ho;replace HB:=zm (hb);have aQ:=zm (ho);clear ag;clear ho hb hg hat))
    go_roundg k1
    case measure=>exact yom1 HK1
    case rel=>exact ⟨(wrap64 (ae - 1)),(af),(aj),(aM),yq,yq,yq,H',⟨yom1 HK1⟩,⟨yr aQ⟩,⟨yhb⟩⟩
   simp only [zM,zN] at H
   obtain ⟨rfl,rfl⟩:=H
   go_wp2
   go_ret2
   exact ⟨_,ye,za0 (yr ag) (zE hb0),zJ hb0 yhb⟩
 replace c5:=za3.mpr c5
 subst c5
 rw [ynf] at H
 simp only [zM,zN] at H
 obtain ⟨rfl,rfl⟩:=H
 go_enter Try.func54,Try.ntmps54
 go_wp2_with (first|((with_reducible refine zK (f:=71) rfl ?_);refine ygl 16 Try.func71 #[.int .i64 a0, .int .i64 a1] ?_;(with_reducible refine (comb_fair.calls a0 a1 false _ A4.out).mono ?_);rintro e w' ⟨rfl,⟨nd,rfl⟩⟩;refine ⟨_,rfl, ?_⟩))
 go_ret2
 exact ⟨_,ye,yn,yhb⟩
def cpack_gains.l0 : Nat→Int→List (List Int)→List (List Int)→Int→Int→Option (Bool)
 | 0,_,_,_,_,_=>none
 | k+1,x0,x1,x7,x8,x9=>if x9 < x8 then (if 0≤x9 then (if x9 < (x7.length : Int) then ((gain_Right.f k (rd_L1 x7 x9)).bind fun al=>(if al=true then (cpack_gains.l0 k x0 x1 x7 x8 (wrap64 (x9+1))) else (some false))) else (none)) else (none)) else (some ((x1.length : Int) == x0))
def cpack_gains.f (k : Nat) (a0 : Int) (l1 : List (List Int)) : Option (Bool):=cpack_gains.l0 k a0 l1 l1 (l1.length : Int) 0
theorem cpack_gains.mono_l : ∀ k,(∀ y0 y1 y2 y3 y4,LeO (cpack_gains.l0 k y0 y1 y2 y3 y4) (cpack_gains.l0 (k+1) y0 y1 y2 y3 y4))
 | 0=>fun _ _ _ _ _ r h=>by simp [cpack_gains.l0] at h
 | k+1=>by
  have ih0:=cpack_gains.mono_l k
  ·
   intro y0 y1 y2 y3 y4
   unfold cpack_gains.l0
   have i0:=@gain_Right.mono
   exact yLm
theorem cpack_gains.mono : ∀ a0 a1 k,LeO (cpack_gains.f k a0 a1) (cpack_gains.f (k+1) a0 a1):=by
 intro a0 a1 k
 have ih0:=cpack_gains.mono_l k
 unfold cpack_gains.f
 have i0:=@gain_Right.mono
 exact yLm
theorem cpack_gains.calls (k : Nat) (a0 : Int) (A1 : Option Addr) (c1 : Nat) (l1 : List (List Int)) (r : Bool) (w : World) (hr1 : Kd.C (Kd.slice 3 (Kd.int .i64)) w A1 l1.length l1) (hc1 : l1.length≤c1) (h : cpack_gains.f k a0 l1=some r) :
  Calls Try.prog 25 #[.int .i64 a0, .slice A1 l1.length c1] w fun e w' => e=.returned (.bool r)∧Drawn0 w w' := by
 have HR1:=zm hr1;have HC1:=zm hc1;clear hr1 hc1;have H:=h
 unfold cpack_gains.f at H
 clear h
 have H' := zm H
 clear H
 go_enter Try.func25,Try.ntmps25
 go_wp2
 go_loopg [9] k (fun kq v9 w' => ∃ (ae : Int),v9=.int .i64 ae∧Aside0 (cpack_gains.l0 kq a0 l1 l1 (l1.length : Int) ae=some r)∧Aside0 (kq≤k)∧Drawn0 w w')
 case atStart=>exact ⟨(0),yq,H',⟨zX _⟩,yd⟩
 case round =>
  clear H'
  try clear c1
  obtain ⟨ae,rfl,HA,HK1,⟨m1,rfl⟩⟩:=hrel
  obtain ⟨k1,rfl⟩:=ysu gk (fun h=>by subst h;exact absurd HA.out (by simp [cpack_gains.l0]))
  have H:=HA.out;clear HA
  simp only [cpack_gains.l0] at H
  replace H:=yId H
  obtain ⟨ap,H⟩ | ⟨ap,H⟩:=H
  ·
   obtain ⟨c4,H⟩:=yif H
   have av : decide (0≤ae)=true:=decide_eq_true c4
   clear c4
   obtain ⟨c5,H⟩:=yif H
   have aw : decide (ae < (l1.length : Int))=true:=decide_eq_true c5
   clear c5
   obtain ⟨al,A6,H⟩:=ybi H
   by_cases c7 : al=true
   ·
    subst c7
    rw [za4 rfl] at H
    have H' := zm H
    clear H
    obtain ⟨⟨ao,ah,ai,am,ak,aa,ac⟩,aq,au⟩:=yat (at_L1 HR1.out ae)
    cases am
    have af:=zm ac;have ag:=zm aa;clear ac aa
    go_wp2_with (first|((with_reducible refine zK (f:=62) rfl ?_);refine ygl 14 Try.func62 #[.slice ah (rd_L1 l1 ae).length ai] ?_;(with_reducible refine (gain_Right.calls k1 _ _ (rd_L1 l1 ae) true _ ?aj ag.out A6.out).mono ?_);(case aj=>exact yce af.out);rintro e w' ⟨rfl,⟨nd,rfl⟩⟩;refine ⟨_,rfl, ?_⟩))
    go_roundg k1
    case measure=>exact yom1 HK1
    case rel=>exact ⟨(wrap64 (ae+1)),yq,H',⟨yom1 HK1⟩,yd⟩
   replace c7:=za3.mpr c7
   subst c7
   rw [ynf] at H
   obtain rfl:=zO H
   obtain ⟨⟨ao,ah,ai,am,ak,aa,ac⟩,aq,au⟩:=yat (at_L1 HR1.out ae)
   cases am
   have af:=zm ac;have ag:=zm aa;clear ac aa
   go_wp2_with (first|((with_reducible refine zK (f:=62) rfl ?_);refine ygl 14 Try.func62 #[.slice ah (rd_L1 l1 ae).length ai] ?_;(with_reducible refine (gain_Right.calls k1 _ _ (rd_L1 l1 ae) false _ ?aj ag.out A6.out).mono ?_);(case aj=>exact yce af.out);rintro e w' ⟨rfl,⟨nd,rfl⟩⟩;refine ⟨_,rfl, ?_⟩))
   go_ret
   exact ⟨yq,yd⟩
  obtain rfl:=zO H
  go_wp2
  go_ret
  exact ⟨yq,yd⟩
def cpack_of.f (l0 : List (List Int)) (a1 : Int) : Option (List Int):=if a1 < (l0.length : Int) then (if 0≤a1 then (some (rd_L1 l0 a1)) else (none)) else (some ([] : List Int))
theorem cpack_of.calls (P0_ : Nat→Prop) (A0 : Option Addr) (c0 : Nat) (l0 : List (List Int)) (a1 : Int) (r : List Int) (w : World) (hs0 : Kd.V (Kd.slice 3 (Kd.int .i64)) 49 w w.heap.size (fun k_=>P0_ k_) (.slice A0 l0.length c0) l0) (h : cpack_of.f l0 a1=some r) :
  Calls Try.prog 29 #[.slice A0 l0.length c0, .int .i64 a1] w fun e w' => ∃ v0_ : Value,e=.returned (v0_)∧Kd.V (Kd.int .i64) 3 w' w.heap.size (fun k_=>(P0_ k_∨w.heap.size≤k_)) v0_ r∧Below w.heap.size w w' := by
 have HO0:=zm (show Kd.V (Kd.slice 3 (Kd.int .i64)) 49 w w.heap.size (fun k_=>(P0_ k_∨w.heap.size≤k_)) (.slice A0 l0.length c0) l0 from zy hs0 (fun k_ hk => .inl hk))
 have HB:=zm (zY w.heap.size w);have H:=h
 unfold cpack_of.f at H
 clear h
 replace H:=yId H
 obtain ⟨ak,H⟩ | ⟨ak,H⟩:=H
 ·
  obtain ⟨c4,H⟩:=yif H
  have aq : decide (0≤a1)=true:=decide_eq_true c4
  clear c4
  obtain rfl:=zO H
  have ae : 0≤(a1 : Int):=yt
  have af : a1 < (l0.length : Int):=yt
  obtain ⟨ap,al,am,ao,ag,aa,ac⟩:=at_L1 (zR HO0.out).2.2 a1 ae af
  cases ao
  obtain ⟨ce287,hce287,hMe287,hcc287⟩:=Kd.V_get HO0.out [] a1 ae (by first|exact af|exact yt|(have e_:=(zR HO0.out).1;omega))
  obtain ⟨ua287_0,uc287_0,rfl,ul287_0,ge287_0⟩:=Kd.FK_slice_open hMe287
  have hv287_0:=hcc287 0 _ rfl
  rw [Nat.add_zero,show ((Kd.slice 3 (Kd.int .i64))).sz=1 from rfl,Nat.mul_one] at hv287_0
  replace hv287_0:=zO (hv287_0.symm.trans ag)
  injection hv287_0 with hva_ hvn_ hvc_
  rw [hva_] at ge287_0
  rw [hvc_] at ul287_0
  have ah:=zm (show Kd.V (Kd.int .i64) 3 _ w.heap.size _ _ (rd_L1 l0 a1) from Kd.V_mk ul287_0 ge287_0)
  clear hva_ hvn_ hvc_ ge287_0 ul287_0 hcc287 hce287;have ai:=zm ac;have aj:=zm aa;clear ac aa
  replace ae:=zP ae
  replace af:=zP af
  go_enter Try.func29,Try.ntmps29
  go_wp2
  go_ret
  exact ⟨_,ye,yr ah,yhb⟩
 obtain rfl:=zO H
 go_enter Try.func29,Try.ntmps29
 go_wp2
 go_ret
 exact ⟨_,ye,(by first|exact Kd.V_nil _ _ _ _ _|exact zy (Kd.R_V (yn)) (fun k_ hk=>by first|exact ⟨(.inr (hk.1)),hk.2⟩|exact (.inr (hk)))),yhb⟩
def gain_take.f (k : Nat) (al : Int) (am : Int) (ag : List Int) (ao : Int) (a1 : Int) (a2 : Bool) : Option (Int × Int × List Int × Int × Int):=if a2=true then ((coder_TakeNum.f k al am ag ao 45).bind fun aA=>(some (aA.1,aA.2.1,aA.2.2.1,aA.2.2.2.1,wrap64 (aA.2.2.2.2.1)))) else ((coder_Get.f al am ag ao 8).bind fun aH=>((coder_Take.f k al am ag ao aH.1 (wrap64 (aH.1+1)) 8).bind fun au=>(if aH.1=7 then ((coder_TakeNum.f k au.1 au.2.1 au.2.2.1 au.2.2.2.1 45).bind fun aC=>(some (aC.1,aC.2.1,aC.2.2.1,aC.2.2.2.1,wrap64 (aC.2.2.2.2.1)))) else (some (au.1,au.2.1,au.2.2.1,au.2.2.2.1,mx 0 (mn (wrap64 ((wrap64 (a1+aH.1)) - 3)) 44))))))
theorem gain_take.mono : ∀ a0 a1 a2 a3 a4 a5 k,LeO (gain_take.f k a0 a1 a2 a3 a4 a5) (gain_take.f (k+1) a0 a1 a2 a3 a4 a5):=by
 intro a0 a1 a2 a3 a4 a5 k
 unfold gain_take.f
 have i0:=@coder_Take.mono;have i1:=@coder_TakeNum.mono
 exact yLm
theorem gain_take.calls (k : Nat) (al : Int) (am : Int) (ai : Nat→Prop) (av : Option Addr) (aw : Nat) (ag : List Int) (ao : Int) (a1 : Int) (a2 : Bool) (r1 : Int) (r2 : Int) (r3 : List Int) (r4 : Int) (r5 : Int) (w : World) (bd : Kd.V (Kd.int .u8) 5 w w.heap.size (fun k_=>ai k_) (.slice av ag.length aw) ag) (h : gain_take.f k al am ag ao a1 a2=some (r1,r2,r3,r4,r5)) :
  Calls Try.prog 88 #[.agg #[.int .u64 al, .int .u32 am, .slice av ag.length aw, .int .i64 ao], .int .i64 a1, .bool a2] w fun e w' => ∃ v2_ : Value,e=.returned (.tuple #[.agg #[.int .u64 r1, .int .u32 r2,v2_, .int .i64 r4], .int .i64 r5])∧Kd.V (Kd.int .u8) 5 w' w.heap.size (fun k_=>(ai k_∨w.heap.size≤k_)) v2_ r3∧Below w.heap.size w w' := by
 have hu82:=Try.underlying82
 have ac:=zm (show Kd.V (Kd.int .u8) 5 w w.heap.size (fun k_=>(ai k_∨w.heap.size≤k_)) (.slice av ag.length aw) ag from zy bd (fun k_ hk => .inl hk))
 have HB:=zm (zY w.heap.size w);have H:=h
 unfold gain_take.f at H
 clear h
 by_cases c4 : a2=true
 ·
  subst c4
  rw [za4 rfl] at H
  obtain ⟨⟨bf,bg,bh,bi,bu,bv⟩,A5,H⟩:=ybi H
  try dsimp only at H
  simp only [zM,zN] at H
  obtain ⟨rfl,rfl,rfl,rfl,rfl⟩:=H
  go_enter Try.func88,Try.ntmps88
  go_wp2_with (first|((with_reducible refine zL (N:=3) rfl ?_);refine ybx 3 #[.int .u64 al, .int .u32 am, .slice av ag.length aw, .int .i64 ao] 82 ?_;intro af hg w6 hbox hb;replace ac:=yVe ac hg hb;have aa:=zm (hbox);have a9:=ygw hg;have ba:=ygw hg;replace HB:=ybs hb;clear hb hbox hg)|((with_reducible refine zL (N:=6) rfl ?_);refine ybx 6 #[.int .u64 0, .int .u32 0, .slice none 0 0, .int .i64 0] 82 ?_;intro ah hg w7 hbox hb;replace ac:=yVe ac hg hb;have ae:=zm (hbox);have bb:=ygw hg;have bc:=ygw hg;replace HB:=ybs hb;have aj:=ynl aa hg;have ak:=yng aa hg;replace aa:=ybb aa hb;clear hb hbox hg;have:=aj.out;have:=ak.out;obtain ⟨_,_,_,_,_,_,_,_⟩:=yc4 aa)|((with_reducible refine zK (f:=53) rfl ?_);refine ygl 39 Try.func53 #[.agg #[.int .u64 al, .int .u32 am, .slice av ag.length aw, .int .i64 ao], .int .u64 45] ?_;(with_reducible refine (coder_TakeNum.calls k al am (fun k_=>(((ai k_∨w.heap.size≤k_)∧k_≠af)∧k_≠ah)) _ _ ag ao 45 bf bg bh bi bu bv _ ac.out A5.out).mono ?_);rintro e w10 ⟨bT,rfl,ho0,hb⟩;refine ⟨_,rfl, ?_⟩;replace ac:=yVb ac hb;have aI:=yho (fun k_=>(ai k_∨w.heap.size≤k_)∧k_≠af∧k_≠ah) ho0 (fun k_ hk_=>⟨Or.elim hk_ (fun hs_=>hs_.1.1) (fun hn_=>(.inr (Nat.le_trans (zE yhb) hn_))),yoB aa hk_,yoB ae hk_⟩);replace aa:=ybb aa hb;replace ae:=ybb ae hb;replace HB:=ybs hb;(try clear hb);(try clear ho0))|((with_reducible refine zL (N:=10) rfl ?_);refine ybx 10 #[.int .u64 0, .int .u32 0, .slice none 0 0, .int .i64 0] 82 ?_;intro bN hg w11 hbox hb;replace ac:=yVe ac hg hb;replace aI:=yVe aI hg hb;have bj:=zm (hbox);have bO:=ygw hg;have bP:=ygw hg;replace HB:=ybs hb;have aK:=ynl aa hg;have aM:=yng aa hg;replace aa:=ybb aa hb;have aN:=ynl ae hg;have aQ:=yng ae hg;replace ae:=ybb ae hb;clear hb hbox hg;have:=aM.out;have:=aK.out;have:=aQ.out;have:=aN.out;obtain ⟨_,_,_,_,_,_,_,_⟩:=yc4 bj;obtain ⟨bw,bx,bz⟩:=zU aI.out;subst bz;obtain ⟨_,_,_,_,_,_,_,_⟩:=yc4 ae))
  refine za1 (results_ct rfl _ _ ah 82 #[.int .u64 bf, .int .u32 bg, .slice bw bh.length bx, .int .i64 bi] (0,0) _ rfl (ykp ae) Try.underlying82 rfl (by kernel_rfl)) rfl ?_
  exact ⟨_,ye,yV0 aI,yhb⟩
 replace c4:=za3.mpr c4
 subst c4
 rw [ynf] at H
 obtain ⟨⟨aq,bk⟩,A17,H⟩:=ybi H
 try dsimp only at H
 obtain ⟨⟨aD,aE,az,aG,bl⟩,A18,H⟩:=ybi H
 try dsimp only at H
 by_cases c19 : aq=7
 ·
  rw [za4 c19] at H
  obtain ⟨bm,bn⟩:=yE c19
  clear c19
  obtain ⟨⟨bo,bp,bq,br,bA,bB⟩,A20,H⟩:=ybi H
  try dsimp only at H
  simp only [zM,zN] at H
  obtain ⟨rfl,rfl,rfl,rfl,rfl⟩:=H
  go_enter Try.func88,Try.ntmps88
  go_wp2_with (first|((with_reducible refine zL (N:=3) rfl ?_);refine ybx 3 #[.int .u64 al, .int .u32 am, .slice av ag.length aw, .int .i64 ao] 82 ?_;intro af hg w21 hbox hb;replace ac:=yVe ac hg hb;have aa:=zm (hbox);have a9:=ygw hg;have ba:=ygw hg;replace HB:=ybs hb;clear hb hbox hg)|((with_reducible refine zL (N:=6) rfl ?_);refine ybx 6 #[.int .u64 0, .int .u32 0, .slice none 0 0, .int .i64 0] 82 ?_;intro ah hg w22 hbox hb;replace ac:=yVe ac hg hb;have ae:=zm (hbox);have bb:=ygw hg;have bc:=ygw hg;replace HB:=ybs hb;have aj:=ynl aa hg;have ak:=yng aa hg;replace aa:=ybb aa hb;clear hb hbox hg;have:=aj.out;have:=ak.out;obtain ⟨_,_,_,_,_,_,_,_⟩:=yc4 aa)|((with_reducible refine zK (f:=50) rfl ?_);refine ygl 17 Try.func50 #[.agg #[.int .u64 al, .int .u32 am, .slice av ag.length aw, .int .i64 ao], .int .i64 8] ?_;(with_reducible refine (coder_Get.calls al am _ _ ag ao 8 aq bk _ ?aY ?aZ A17.out).mono ?_);(case aY=>exact yce (zR ac.out).2.2);(case aZ=>exact (zR ac.out).2.1);rintro e w25 ⟨rfl,hb⟩;refine ⟨_,rfl, ?_⟩;replace ac:=yVb ac hb;replace aa:=ybb aa hb;replace ae:=ybb ae hb;replace HB:=ybs hb;(try clear hb);obtain ⟨_,_,_,_,_,_,_,_⟩:=yc4 aa)|((with_reducible refine zK (f:=51) rfl ?_);refine ygl 25 Try.func51 #[.agg #[.int .u64 al, .int .u32 am, .slice av ag.length aw, .int .i64 ao], .int .i64 aq, .int .i64 (wrap64 (aq+1)), .int .i64 8] ?_;(with_reducible refine (coder_Take.calls k al am (fun k_=>(((ai k_∨w.heap.size≤k_)∧k_≠af)∧k_≠ah)) _ _ ag ao aq (wrap64 (aq+1)) 8 aD aE az aG bl _ ac.out A18.out).mono ?_);rintro e w27 ⟨bC,rfl,ho0,hb⟩;refine ⟨_,rfl, ?_⟩;replace ac:=yVb ac hb;have ap:=yho (fun k_=>(ai k_∨w.heap.size≤k_)∧k_≠af∧k_≠ah) ho0 (fun k_ hk_=>⟨Or.elim hk_ (fun hs_=>hs_.1.1) (fun hn_=>(.inr (Nat.le_trans (zE yhb) hn_))),yoB aa hk_,yoB ae hk_⟩);replace aa:=ybb aa hb;replace ae:=ybb ae hb;replace HB:=ybs hb;(try clear hb);(try clear ho0);obtain ⟨_,_,_,_,_,_,_,_⟩:=yc4 aa;obtain ⟨a7,a8,bD⟩:=zU ap.out;subst bD)|((with_reducible refine zb8 (t:=82) (p:=3) rfl ?_);refine za2 (t:=82) (p:=3) (v := ?vo_w30) (w1:=((((w27.setCell ⟨af,0,none⟩ (.int .u64 aD)).setCell ⟨af,1,none⟩ (.int .u32 aE)).setCell ⟨af,2,none⟩ (.slice a7 az.length a8)).setCell ⟨af,3,none⟩ (.int .i64 aG))) ?hg ?ho ?hn ?hr ?_;(case ho=>rfl);(case hg=>rfl);(case hn=>rfl);(case hr=>first|(go_simp;done)|(go_simp;rfl));intro w30 hw;replace ac : Aside0 (Kd.V (Kd.int .u8) 5 w30 w.heap.size (fun k_=>(ai k_∨w.heap.size≤k_)∧k_≠af∧k_≠ah) (.slice av ag.length aw) ag):=⟨(by rw [hw];exact (yV0 ac))⟩;replace ap : Aside0 (Kd.V (Kd.int .u8) 5 w30 w.heap.size (fun k_=>(ai k_∨w.heap.size≤k_)∧k_≠af∧k_≠ah) (.slice a7 az.length a8) az):=⟨(by rw [hw];exact (yV0 ap))⟩;replace aa : Aside0 (w30.heap[af]? = some (.cells #[.int .u64 aD, .int .u32 aE, .slice a7 az.length a8, .int .i64 aG] 82 (0,0))):=⟨(by rw [hw];exact (ykp aa))⟩;replace ae : Aside0 (w30.heap[ah]? = some (.cells #[.int .u64 0, .int .u32 0, .slice none 0 0, .int .i64 0] 82 (0,0))):=⟨(by rw [hw];exact (yk ae))⟩;replace HB : Aside0 (Below w.heap.size w w30):=⟨(by rw [hw];exact yhb)⟩;clear hw;obtain ⟨_,_,_,_,_,_,_,_⟩:=yc4 aa)|((with_reducible refine zK (f:=53) rfl ?_);refine ygl 39 Try.func53 #[.agg #[.int .u64 aD, .int .u32 aE, .slice a7 az.length a8, .int .i64 aG], .int .u64 45] ?_;(with_reducible refine (coder_TakeNum.calls k aD aE (fun k_=>((ai k_∨w.heap.size≤k_)∧(k_≠af∧k_≠ah))) _ _ az aG 45 bo bp bq br bA bB _ ap.out A20.out).mono ?_);rintro e w32 ⟨bU,rfl,ho0,hb⟩;refine ⟨_,rfl, ?_⟩;replace ac:=yVb ac hb;replace ap:=yVb ap hb;have aJ:=yho (fun k_=>(ai k_∨w.heap.size≤k_)∧k_≠af∧k_≠ah) ho0 (fun k_ hk_=>⟨Or.elim hk_ (fun hs_=>hs_.1) (fun hn_=>(.inr (Nat.le_trans (zE yhb) hn_))),yoB aa hk_,yoB ae hk_⟩);replace aa:=ybb aa hb;replace ae:=ybb ae hb;replace HB:=ybs hb;(try clear hb);(try clear ho0))|((with_reducible refine zL (N:=10) rfl ?_);refine ybx 10 #[.int .u64 0, .int .u32 0, .slice none 0 0, .int .i64 0] 82 ?_;intro bQ hg w33 hbox hb;replace ac:=yVe ac hg hb;replace ap:=yVe ap hg hb;replace aJ:=yVe aJ hg hb;have bs:=zm (hbox);have bR:=ygw hg;have bS:=ygw hg;replace HB:=ybs hb;have aT:=ynl aa hg;have aU:=yng aa hg;replace aa:=ybb aa hb;have aV:=ynl ae hg;have aW:=yng ae hg;replace ae:=ybb ae hb;clear hb hbox hg;have:=aU.out;have:=aT.out;have:=aW.out;have:=aV.out;obtain ⟨_,_,_,_,_,_,_,_⟩:=yc4 bs;obtain ⟨bE,bF,bG⟩:=zU aJ.out;subst bG;obtain ⟨_,_,_,_,_,_,_,_⟩:=yc4 ae))
  refine za1 (results_ct rfl _ _ ah 82 #[.int .u64 bo, .int .u32 bp, .slice bE bq.length bF, .int .i64 br] (0,0) _ rfl (ykp ae) Try.underlying82 rfl (by kernel_rfl)) rfl ?_
  exact ⟨_,ye,yV0 aJ,yhb⟩
 rw [za5 c19] at H
 obtain ⟨bm,bn⟩:=yF c19
 obtain ⟨aX,ax⟩ : ∃ j_ : Int,(mn (wrap64 ((wrap64 (a1+aq)) - 3)) 44)=j_:=⟨_,rfl⟩
 (first|rw [ax] at H|simp only [ax] at H)
 (try rw [ax] at A17)
 (try rw [ax] at A18)
 (try (have hji39h : aX≤44:=by (rw [← ax];unfold mn;(repeat' split) <;> omega)))
 (try (have hji39g : aX≤64:=by omega))
 have bH : (if 44 < (wrap64 ((wrap64 (a1+aq)) - 3)) then 44 else (wrap64 ((wrap64 (a1+aq)) - 3)))=aX:=ax
 obtain ⟨bI,ay⟩ : ∃ j_ : Int,(mx 0 (aX))=j_:=⟨_,rfl⟩
 (first|rw [ay] at H|simp only [ay] at H)
 (try rw [ay] at A17)
 (try rw [ay] at A18)
 have bJ : (if 0 < (aX) then (aX) else 0)=bI:=ay
 simp only [zM,zN] at H
 obtain ⟨rfl,rfl,rfl,rfl,rfl⟩:=H
 go_enter Try.func88,Try.ntmps88
 go_wp2_with (first|((with_reducible refine zL (N:=3) rfl ?_);refine ybx 3 #[.int .u64 al, .int .u32 am, .slice av ag.length aw, .int .i64 ao] 82 ?_;intro af hg w41 hbox hb;replace ac:=yVe ac hg hb;have aa:=zm (hbox);have a9:=ygw hg;have ba:=ygw hg;replace HB:=ybs hb;clear hb hbox hg)|((with_reducible refine zL (N:=6) rfl ?_);refine ybx 6 #[.int .u64 0, .int .u32 0, .slice none 0 0, .int .i64 0] 82 ?_;intro ah hg w42 hbox hb;replace ac:=yVe ac hg hb;have ae:=zm (hbox);have bb:=ygw hg;have bc:=ygw hg;replace HB:=ybs hb;have aj:=ynl aa hg;have ak:=yng aa hg;replace aa:=ybb aa hb;clear hb hbox hg;have:=aj.out;have:=ak.out;obtain ⟨_,_,_,_,_,_,_,_⟩:=yc4 aa)|((with_reducible refine zK (f:=50) rfl ?_);refine ygl 17 Try.func50 #[.agg #[.int .u64 al, .int .u32 am, .slice av ag.length aw, .int .i64 ao], .int .i64 8] ?_;(with_reducible refine (coder_Get.calls al am _ _ ag ao 8 aq bk _ ?aY ?aZ A17.out).mono ?_);(case aY=>exact yce (zR ac.out).2.2);(case aZ=>exact (zR ac.out).2.1);rintro e w45 ⟨rfl,hb⟩;refine ⟨_,rfl, ?_⟩;replace ac:=yVb ac hb;replace aa:=ybb aa hb;replace ae:=ybb ae hb;replace HB:=ybs hb;(try clear hb);obtain ⟨_,_,_,_,_,_,_,_⟩:=yc4 aa)|((with_reducible refine zK (f:=51) rfl ?_);refine ygl 25 Try.func51 #[.agg #[.int .u64 al, .int .u32 am, .slice av ag.length aw, .int .i64 ao], .int .i64 aq, .int .i64 (wrap64 (aq+1)), .int .i64 8] ?_;(with_reducible refine (coder_Take.calls k al am (fun k_=>(((ai k_∨w.heap.size≤k_)∧k_≠af)∧k_≠ah)) _ _ ag ao aq (wrap64 (aq+1)) 8 aD aE az aG bl _ ac.out A18.out).mono ?_);rintro e w47 ⟨bC,rfl,ho0,hb⟩;refine ⟨_,rfl, ?_⟩;replace ac:=yVb ac hb;have ap:=yho (fun k_=>(ai k_∨w.heap.size≤k_)∧k_≠af∧k_≠ah) ho0 (fun k_ hk_=>⟨Or.elim hk_ (fun hs_=>hs_.1.1) (fun hn_=>(.inr (Nat.le_trans (zE yhb) hn_))),yoB aa hk_,yoB ae hk_⟩);replace aa:=ybb aa hb;replace ae:=ybb ae hb;replace HB:=ybs hb;(try clear hb);(try clear ho0);obtain ⟨_,_,_,_,_,_,_,_⟩:=yc4 aa;obtain ⟨bK,bL,bM⟩:=zU ap.out;subst bM;obtain ⟨_,_,_,_,_,_,_,_⟩:=yc4 ae))
 refine za1 (results_ct rfl _ _ ah 82 #[.int .u64 aD, .int .u32 aE, .slice bK az.length bL, .int .i64 aG] (0,0) _ rfl (ykp ae) Try.underlying82 rfl (by kernel_rfl)) rfl ?_
 exact ⟨_,by first|rfl|(simp [errW_none,errW_some] <;> rfl)|(simp only [← ax, ← ay];first|rfl|(simp [errW_none,errW_some] <;> rfl))|(simp [*,errW_none,errW_some] <;> rfl),yV0 ap,yhb⟩
mutual
def gain_Take.j0 : Nat→List Int→Bool→Bool→Int→Int→List Int→Int→Option (Int × Int × List Int × Int × List Int × Int)
 | 0,_,_,_,_,_,_,_=>none
 | k+1,x1,x2,x20,aH,aI,aJ,aK=>if x20=true then ((coder_Take.f k aH aI aJ aK 0 1 1).bind fun a9=>(some (a9.1,a9.2.1,a9.2.2.1,a9.2.2.2.1,([] : List Int),1))) else (gain_Take.l0 k x1 x2 ([] : List Int) 0 aH aI aJ aK)
def gain_Take.l0 : Nat→List Int→Bool→List Int→Int→Int→Int→List Int→Int→Option (Int × Int × List Int × Int × List Int × Int)
 | 0,_,_,_,_,_,_,_,_=>none
 | k+1,x1,x2,x9,x27,aH,aI,aJ,aK=>if x27 < 5 then (if x2=true then ((gain_take.f k aH aI aJ aK 0 x2).bind fun aY=>(if x9.length < 17592186044416 then (gain_Take.l0 k x1 x2 (x9 ++ [aY.2.2.2.2]) (wrap64 (x27+1)) aY.1 aY.2.1 aY.2.2.1 aY.2.2.2.1) else (none))) else (if 0≤x27 then (if x27 < (x1.length : Int) then ((gain_take.f k aH aI aJ aK (rd x1 x27) x2).bind fun aZ=>(if x9.length < 17592186044416 then (gain_Take.l0 k x1 x2 (x9 ++ [aZ.2.2.2.2]) (wrap64 (x27+1)) aZ.1 aZ.2.1 aZ.2.2.1 aZ.2.2.2.1) else (none))) else (none)) else (none))) else (some (aH,aI,aJ,aK,x9,0))
end
def gain_Take.f (k : Nat) (aM : Int) (aN : Int) (aD : List Int) (aQ : Int) (l1 : List Int) (a2 : Bool) : Option (Int × Int × List Int × Int × List Int × Int):=if a2=true then (gain_Take.j0 k l1 a2 false aM aN aD aQ) else ((gain_Right.f k l1).bind fun bu=>(gain_Take.j0 k l1 a2 (!bu) aM aN aD aQ))
theorem gain_Take.mono_l : ∀ k,(∀ y0 y1 y2 y3 y4 y5 y6,LeO (gain_Take.j0 k y0 y1 y2 y3 y4 y5 y6) (gain_Take.j0 (k+1) y0 y1 y2 y3 y4 y5 y6))∧(∀ y0 y1 y2 y3 y4 y5 y6 y7,LeO (gain_Take.l0 k y0 y1 y2 y3 y4 y5 y6 y7) (gain_Take.l0 (k+1) y0 y1 y2 y3 y4 y5 y6 y7))
 | 0=>⟨fun _ _ _ _ _ _ _ r h=>by simp [gain_Take.j0] at h,fun _ _ _ _ _ _ _ _ r h=>by simp [gain_Take.l0] at h⟩
 | k+1=>by
  obtain ⟨ih0,ih1⟩:=gain_Take.mono_l k
  have i0:=@coder_Take.mono;have i1:=@gain_Right.mono;have i2:=@gain_take.mono
  refine ⟨?_, ?_⟩
  ·
   intro y0 y1 y2 y3 y4 y5 y6
   unfold gain_Take.j0
   exact yLm
  intro y0 y1 y2 y3 y4 y5 y6 y7
  unfold gain_Take.l0
  exact yLm
theorem gain_Take.mono : ∀ a0 a1 a2 a3 a4 a5 k,LeO (gain_Take.f k a0 a1 a2 a3 a4 a5) (gain_Take.f (k+1) a0 a1 a2 a3 a4 a5):=by
 intro a0 a1 a2 a3 a4 a5 k
 obtain ⟨ih0,ih1⟩:=gain_Take.mono_l k
 have i0:=@coder_Take.mono;have i1:=@gain_Right.mono;have i2:=@gain_take.mono
 unfold gain_Take.f
 exact yLm
theorem gain_Take.calls (k : Nat) (aM : Int) (aN : Int) (ap : Nat→Prop) (a7 : Option Addr) (a8 : Nat) (aD : List Int) (aQ : Int) (A1 : Option Addr) (c1 : Nat) (l1 : List Int) (a2 : Bool) (r1 : Int) (r2 : Int) (r3 : List Int) (r4 : Int) (r5 : List Int) (r6 : Int) (w : World) (b5 : Kd.V (Kd.int .u8) 5 w w.heap.size (fun k_=>ap k_) (.slice a7 aD.length a8) aD) (hr1 : Kd.C (Kd.int .i64) w A1 l1.length l1) (hc1 : l1.length≤c1) (h : gain_Take.f k aM aN aD aQ l1 a2=some (r1,r2,r3,r4,r5,r6)) :
  Calls Try.prog 52 #[.agg #[.int .u64 aM, .int .u32 aN, .slice a7 aD.length a8, .int .i64 aQ], .slice A1 l1.length c1, .bool a2] w fun e w' => ∃ v2_ v4_ : Value,e=.returned (.tuple #[.agg #[.int .u64 r1, .int .u32 r2,v2_, .int .i64 r4],v4_, .int .i64 r6])∧Kd.V (Kd.int .u8) 5 w' w.heap.size (fun k_=>(ap k_∨w.heap.size≤k_)∧some k_≠(v4_ : Value).ownBlock) v2_ r3∧Kd.R (Kd.int .i64) 3 w' w.heap.size (fun k_=>(w.heap.size≤k_)) v4_ r5∧Below w.heap.size w w' := by
 have hu82:=Try.underlying82
 have aT:=zm (show Kd.V (Kd.int .u8) 5 w w.heap.size (fun k_=>(ap k_∨w.heap.size≤k_)) (.slice a7 aD.length a8) aD from zy b5 (fun k_ hk => .inl hk))
 have HR1:=zm hr1;have HC1:=zm hc1;clear hr1 hc1;have HB:=zm (zY w.heap.size w);have H:=h
 unfold gain_Take.f at H
 clear h;have HC4:=zm H;clear H
 go_enter Try.func52,Try.ntmps52
 go_upto_region 1 with (first|((with_reducible refine zL (N:=3) rfl ?_);refine ybx 3 #[.int .u64 aM, .int .u32 aN, .slice a7 aD.length a8, .int .i64 aQ] 82 ?_;intro al hg w5 hbox hb;replace aT:=yVe aT hg hb;have ac:=zm (hbox);have cy:=ygw hg;have cz:=ygw hg;replace HB:=ybs hb;clear hb hbox hg)|((with_reducible refine zL (N:=6) rfl ?_);refine ybx 6 #[.int .u64 0, .int .u32 0, .slice none 0 0, .int .i64 0] 82 ?_;intro am hg w6 hbox hb;replace aT:=yVe aT hg hb;have ae:=zm (hbox);have cA:=ygw hg;have cB:=ygw hg;replace HB:=ybs hb;have ag:=ynl ac hg;have ah:=yng ac hg;replace ac:=ybb ac hb;clear hb hbox hg))
 (try simp only [Act.put,za9,zb0,zb1])
 go_cut [20] (fun v20 wc => ∃ (kq : Nat) (ba : Bool),v20=.bool ba∧Aside0 (gain_Take.j0 kq l1 a2 ba aM aN aD aQ=some (r1,r2,r3,r4,r5,r6))∧Aside0 (kq≤k)∧Aside0 (Kd.V (Kd.int .u8) 5 wc w.heap.size (fun k_=>(ap k_∨w.heap.size≤k_)∧k_≠al∧k_≠am) (.slice a7 aD.length a8) aD)∧Aside0 (wc.heap[al]? = some (.cells #[.int .u64 aM, .int .u32 aN,(.slice a7 aD.length a8), .int .i64 aQ] 82 (0,0)))∧Aside0 (wc.heap[am]? = some (.cells #[.int .u64 0, .int .u32 0,(.slice none 0 0), .int .i64 0] 82 (0,0)))∧Aside0 (Below w.heap.size w wc))
 case first =>
  have H:=HC4.out;clear HC4
  by_cases c7 : a2=true
  ·
   subst c7
   rw [za4 rfl] at H
   have H' := zm H
   clear H
   go_wp2
   go_meet
   case rel=>exact ⟨_,(false),yq,H',⟨yo⟩,⟨yV0 aT⟩,⟨yk ac⟩,⟨yk ae⟩,⟨yhb⟩⟩
  replace c7:=za3.mpr c7
  subst c7
  rw [ynf] at H
  obtain ⟨bu,A8,H⟩:=ybi H
  have H' := zm H
  clear H
  go_wp2_with (first|(go_at_call 62;(with_reducible refine (gain_Right.calls k _ _ l1 bu _ ?b6 HC1.out A8.out).mono ?_);(case b6=>exact ycb HR1);rintro e w' ⟨rfl,⟨nd,rfl⟩⟩))
  go_meet
  case rel=>exact ⟨_,(!bu),yq,H',⟨yo⟩,⟨yV0 aT⟩,⟨yk ac⟩,⟨yk ae⟩,⟨yhb⟩⟩
 case rest =>
  clear HC4
  try clear c1
  obtain ⟨kq,ba,rfl,HA,HJ3,aa,ac,ae,HB⟩:=hcut
  obtain ⟨kj3,rfl⟩:=ysu kq (fun h=>by subst h;exact absurd HA.out (by simp [gain_Take.j0]))
  have H:=HA.out;clear HA
  simp only [gain_Take.j0] at H
  by_cases c9 : ba=true
  ·
   subst c9
   rw [za4 rfl] at H
   obtain ⟨⟨b7,b8,b9,ca,cl⟩,A10,H⟩:=ybi H
   try dsimp only at H
   simp only [zM,zN] at H
   obtain ⟨rfl,rfl,rfl,rfl,rfl,rfl⟩:=H
   have:=ag.out
   have:=ah.out
   obtain ⟨bv,bw,bx,bz,bA,bB,bC,bD⟩:=yc4 ac
   go_wp2_with (first|((with_reducible refine zK (f:=51) rfl ?_);refine ygl 23 Try.func51 #[.agg #[.int .u64 aM, .int .u32 aN, .slice a7 aD.length a8, .int .i64 aQ], .int .i64 0, .int .i64 1, .int .i64 1] ?_;(with_reducible refine (coder_Take.calls kj3 aM aN (fun k_=>((ap k_∨w.heap.size≤k_)∧(k_≠al∧k_≠am))) _ _ aD aQ 0 1 1 b7 b8 b9 ca cl _ aa.out A10.out).mono ?_);rintro e w13 ⟨cJ,rfl,ho0,hb⟩;refine ⟨_,rfl, ?_⟩;replace aa:=yVb aa hb;have b4:=yho (fun k_=>(ap k_∨w.heap.size≤k_)∧k_≠al∧k_≠am) ho0 (fun k_ hk_=>⟨Or.elim hk_ (fun hs_=>hs_.1) (fun hn_=>(.inr (Nat.le_trans (zE yhb) hn_))),yoB ac hk_,yoB ae hk_⟩);replace ac:=ybb ac hb;replace ae:=ybb ae hb;replace HB:=ybs hb;(try clear hb);(try clear ho0);obtain ⟨bE,bF,bG,bH,bI,bJ,bK,bL⟩:=yc4 ac;obtain ⟨cm,cn,co⟩:=zU b4.out;subst co;obtain ⟨bM,bN,bO,bP,bQ,bR,bS,bT⟩:=yc4 ae))
   refine za1 (results_ctt rfl _ _ am 82 #[.int .u64 b7, .int .u32 b8, .slice cm b9.length cn, .int .i64 ca] (0,0) _ rfl (ykp ae) Try.underlying82 rfl (by kernel_rfl)) rfl ?_
   exact ⟨_,_,ye,yV0 b4,yn,yhb⟩
  replace c9:=za3.mpr c9
  subst c9
  rw [ynf] at H
  have H' := zm H
  clear H
  go_wp2
  go_loopg [9,27] kj3 (fun kq v9 v27 w' => ∃ (aU : List Int) (aC : Int) (ai : Int) (aj : Int) (af : List Int) (ak : Int) (aV : Value),v27=.int .i64 aC∧Aside0 (gain_Take.l0 kq l1 a2 aU aC ai aj af ak=some (r1,r2,r3,r4,r5,r6))∧Aside0 (kq≤kj3)∧Aside0 (Kd.R (Kd.int .i64) 3 w' w.heap.size (fun k_=>(w.heap.size≤k_)) v9 aU)∧Aside0 (Kd.V (Kd.int .u8) 5 w' w.heap.size (fun k_=>(ap k_∨w.heap.size≤k_)∧some k_≠(v9 : Value).ownBlock∧k_≠al∧k_≠am) aV af)∧Aside0 (w'.heap[al]? = some (.cells #[.int .u64 ai, .int .u32 aj,aV, .int .i64 ak] 82 (0,0)))∧Aside0 (w'.heap[am]? = some (.cells #[.int .u64 0, .int .u32 0,(.slice none 0 0), .int .i64 0] 82 (0,0)))∧Aside0 (Below w.heap.size w w'))
  case atStart=>exact ⟨(([] : List Int)),(0),(aM),(aN),(aD),(aQ),(.slice a7 aD.length a8),yq,H',⟨zX _⟩,⟨yn⟩,⟨yV0 aa⟩,⟨yk ac⟩,⟨yk ae⟩,⟨yhb⟩⟩
  case round =>
   clear H'
   try clear bv
   try clear bw
   try clear bx
   try clear bz
   try clear bE
   try clear bF
   try clear bG
   try clear bH
   try clear bM
   try clear bN
   try clear bO
   try clear bP
   try clear bA
   try clear bB
   try clear bC
   try clear bD
   try clear bI
   try clear bJ
   try clear bK
   try clear bL
   try clear bQ
   try clear bR
   try clear bS
   try clear bT
   obtain ⟨aU,aC,ai,aj,af,ak,aV,rfl,HA,HK2,ao,aa,ac,ae,HB⟩:=hrel
   obtain ⟨k2,rfl⟩:=ysu gk (fun h=>by subst h;exact absurd HA.out (by simp [gain_Take.l0]))
   have H:=HA.out;clear HA
   simp only [gain_Take.l0] at H
   replace H:=yId H
   obtain ⟨cb,H⟩ | ⟨cb,H⟩:=H
   ·
    by_cases c18 : a2=true
    ·
     subst c18
     rw [za4 rfl] at H
     obtain ⟨⟨bc,bd,aW,bf,bU⟩,A19,H⟩:=ybi H
     try dsimp only at H
     obtain ⟨c20,H⟩:=yif H
     have LMc20:=zm c20;clear c20
     obtain ⟨cf,bn⟩ : ∃ y_ : List Int,y_=(aU ++ [bU]):=⟨_,rfl⟩
     replace H : (gain_Take.l0 k2 l1 true cf (wrap64 (aC+1)) bc bd aW bf)=some (r1,r2,r3,r4,r5,r6):=yrw bn H
     have cg:=zm bn;clear bn
     have H' := zm H
     clear H
     have:=ag.out
     have:=ah.out
     obtain ⟨_,_,_,_,_,_,_,_⟩:=yc4 ac
     obtain ⟨bV,bW,cp⟩:=zU aa.out
     subst cp
     try go_wp2_with (first|((with_reducible refine zK (f:=88) rfl ?_);refine ygl 40 Try.func88 #[.agg #[.int .u64 ai, .int .u32 aj, .slice bV af.length bW, .int .i64 ak], .int .i64 0, .bool true] ?_;(with_reducible refine (gain_take.calls k2 ai aj (fun k_=>((ap k_∨w.heap.size≤k_)∧(some k_≠(u9 : Value).ownBlock∧(k_≠al∧k_≠am)))) _ _ af ak 0 true bc bd aW bf bU _ aa.out A19.out).mono ?_);rintro e w24 ⟨cK,rfl,ho0,hb⟩;refine ⟨_,rfl, ?_⟩;replace aa:=yVb aa hb;have aE:=yho (fun k_=>(ap k_∨w.heap.size≤k_)∧some k_≠(u9 : Value).ownBlock∧k_≠al∧k_≠am) ho0 (fun k_ hk_=>⟨Or.elim hk_ (fun hs_=>hs_.1) (fun hn_=>(.inr (Nat.le_trans (zE yhb) hn_))),yoR ao hk_,yoB ac hk_,yoB ae hk_⟩);replace ao:=yRb ao hb;replace ac:=ybb ac hb;replace ae:=ybb ae hb;replace HB:=ybs hb;(try clear hb);(try clear ho0))|((with_reducible refine zL (N:=12) rfl ?_);refine ybx 12 #[.int .u64 0, .int .u32 0, .slice none 0 0, .int .i64 0] 82 ?_;intro av hg w25 hbox hb;replace ao:=yRb ao hb;replace aa:=yVe aa hg hb;replace aE:=yVe aE hg hb;have aq:=zm (hbox);have cC:=ygw hg;have cD:=ygw hg;replace HB:=ybs hb;have aw:=ynl ac hg;have ax:=yng ac hg;replace ac:=ybb ac hb;have bg:=ynl ae hg;have bh:=yng ae hg;replace ae:=ybb ae hb;clear hb hbox hg;have:=ax.out;have:=aw.out;have:=bh.out;have:=bg.out;obtain ⟨_,_,_,_,_,_,_,_⟩:=yc4 aq;obtain ⟨bo,bp,cq⟩:=zU aE.out;subst cq))
     obtain ⟨w30,hw_⟩ : ∃ x,x=((((w25.setCell ⟨av,0,none⟩ (.int .u64 bc)).setCell ⟨av,1,none⟩ (.int .u32 bd)).setCell ⟨av,2,none⟩ (.slice bo aW.length bp)).setCell ⟨av,3,none⟩ (.int .i64 bf)):=⟨_,rfl⟩
     rw [← hw_]
     replace ao : Aside0 (Kd.R (Kd.int .i64) 3 w30 w.heap.size (fun k_=>(w.heap.size≤k_)) u9 aU):=⟨by rw [hw_];exact (yR1 ao aq)⟩
     replace aa : Aside0 (Kd.V (Kd.int .u8) 5 w30 w.heap.size (fun k_=>(ap k_∨w.heap.size≤k_)∧some k_≠(u9 : Value).ownBlock∧k_≠al∧k_≠am∧k_≠av) (.slice bV af.length bW) af):=⟨by rw [hw_];exact (yV0 aa)⟩
     replace aE : Aside0 (Kd.V (Kd.int .u8) 5 w30 w.heap.size (fun k_=>(ap k_∨w.heap.size≤k_)∧some k_≠(u9 : Value).ownBlock∧k_≠al∧k_≠am∧k_≠av) (.slice bo aW.length bp) aW):=⟨by rw [hw_];exact (yV0 aE)⟩
     replace ac : Aside0 (w30.heap[al]? = some (.cells #[.int .u64 ai, .int .u32 aj, .slice bV af.length bW, .int .i64 ak] 82 (0,0))):=⟨by rw [hw_];exact (yk ac)⟩
     replace ae : Aside0 (w30.heap[am]? = some (.cells #[.int .u64 0, .int .u32 0, .slice none 0 0, .int .i64 0] 82 (0,0))):=⟨by rw [hw_];exact (yk ae)⟩
     replace aq : Aside0 (w30.heap[av]? = some (.cells #[.int .u64 bc, .int .u32 bd, .slice bo aW.length bp, .int .i64 bf] 82 (0,0))):=⟨by rw [hw_];exact (ykp aq)⟩
     replace HB : Aside0 (Below w.heap.size w w30):=⟨by rw [hw_];exact (yhb)⟩
     clear hw_
     replace ao:=zm (zq ao.out)
     replace aa:=zm (zC aa.out)
     replace aE:=zm (zC aE.out)
     replace ac:=zm (zj ac.out)
     replace ae:=zm (zj ae.out)
     replace aq:=zm (zj aq.out)
     replace HB:=zm (zf HB.out)
     refine start_ (n:=7) (S:=fun w' => w'.cell? ⟨av,0,none⟩=some (.int .u64 bc)∧w'.cell? ⟨av,1,none⟩=some (.int .u32 bd)∧w'.cell? ⟨av,2,none⟩=some (.slice bo aW.length bp)∧w'.cell? ⟨av,3,none⟩=some (.int .i64 bf)) (ds := []) #[false,false,false,false,false,false,false] (by kernel_rfl) rfl rfl ⟨(zs aq.out 0).trans rfl,(zs aq.out 1).trans rfl,(zs aq.out 2).trans rfl,(zs aq.out 3).trans rfl⟩ (fun hHeld => ?_)
     generalize w30.drew=w31 at ao aa aE ac ae aq HB hHeld ⊢
     refine pure_ (i:=1) (N:=some 44) (v := ?_) (a' := ?_) #[false,true,false,false,false,false,false] rfl rfl (by kernel_rfl) (fun _ _ _ h=>h) (Or.inl ⟨by rfl, ?_⟩) ?_ ?_
     rotate_left
     ·
      intro w'
      go_simp
      with_reducible rfl
     rotate_left
     ·
      simp only [Act.put,za9,zb0,zb1,i64_w,i32_w]
      rfl
     refine pure_ (i:=2) (N:=some 45) (v := ?_) (a' := ?_) #[false,true,true,false,false,false,false] rfl rfl (by kernel_rfl) (fun _ _ _ h=>h) (Or.inl ⟨by rfl, ?_⟩) ?_ ?_
     rotate_left
     ·
      intro w'
      go_simp
      with_reducible rfl
     rotate_left
     ·
      simp only [Act.put,za9,zb0,zb1,i64_w,i32_w]
      rfl
     refine take_ (i:=0) (N:=some 43) (v := ?_) (a' := ?_) #[true,true,true,false,false,false,false] rfl rfl (by kernel_rfl) (fun _ _ _ h=>h) (Or.inl ⟨by rfl, ?_⟩) hHeld ?_ ?_
     rotate_left
     ·
      rintro w' ⟨s0,s1,s2,s3⟩
      go_simp
      with_reducible rfl
     rotate_left
     ·
      simp only [Act.put,za9,zb0,zb1,i64_w,i32_w]
      rfl
     refine one_ (i:=3) (N:=some 46) #[true,true,true,true,false,false,false] rfl rfl (by kernel_rfl) (by decide) (fun K hK => ?_)
     refine value_ (w1 := ?_) (v := ?_) (by rfl) rfl ?_ ?_
     rotate_left 2
     ·
      go_simp
      constructor
      ·
       rfl
      rfl
     refine hK.out _ _ ⟨(zs (zi aq.out _) 0).trans rfl,(zs (zi aq.out _) 1).trans rfl,(zs (zi aq.out _) 2).trans rfl,(zs (zi aq.out _) 3).trans rfl⟩ (fun hHeld => ?_)
     clear hK K
     refine ym (some 46) ?_
     refine one_ (i:=4) (N:=some 47) #[true,true,true,true,true,false,false] rfl rfl (by kernel_rfl) (by decide) (fun K hK => ?_)
     refine Kd.R_append_step (Kd.int .i64) (w0:=w) w.heap.size (by rfl) (.tmp 44) (.tmp 46) 49 3 (.int .i64 0) 8 rfl Try.underlying49 info3 rfl (by decide) (by omega) u9 aU bU [.int .i64 bU] (fun k_=>(w.heap.size≤k_)) (fun _=>False) rfl rfl ?aP (fun _ hk=>hk.elim) ?aF ?aO ?aB ?aS ?aL ?_
     (case aP=>exact rfl)
     (case aB=>exact yhb)
     (case aF=>exact (fun k_ hk=>(Nat.le_trans (zE yhb) hk)))
     (case aO=>exact (yr ao))
     (case aS=>exact (zE yhb))
     (case aL=>have:=LMc20.out;omega)
     intro cL w32 ho hb hg hat
     rw [← cg.out] at ho
     replace aa:=zm (zc1 (ok:=(fun k_=>(ap k_∨w.heap.size≤k_)∧k_≠al∧k_≠am∧k_≠av)) (yV0 aa) hg hat)
     replace ac:=zm (zc3 (yk ac) hg (zu ao.out ac.out (by decide)))
     replace ae:=zm (zc3 (yk ae) hg (zu ao.out ae.out (by decide)))
     replace aE:=zm (zc1 (ok:=(fun k_=>(ap k_∨w.heap.size≤k_)∧k_≠al∧k_≠am∧k_≠av)) (yV0 aE) hg hat)
     replace aq:=zm (zc3 (yk aq) hg (zu ao.out aq.out (by decide)))
     replace HB:=zm (hb)
     have ch:=zm (ho);clear ao ho hb hg hat
     refine hK.out _ _ yH (fun hHeld => ?_)
     clear hK K
     refine ym (some 47) ?_
     refine one_ (i:=5) (N:=none) #[true,true,true,true,true,true,false] rfl rfl (by kernel_rfl) (by decide) (fun K hK => ?_)
     have cM : w32.cell? ⟨al,0,none⟩=some (.int .u64 ai):=(zs ac.out 0).trans rfl
     have hfs33:=zx ac.out 0
     have:=ah.out
     have:=ax.out
     have:=ag.out
     have:=aw.out
     have cN : w32.cell? ⟨al,1,none⟩=some (.int .u32 aj):=(zs ac.out 1).trans rfl
     have hfs34:=zx ac.out 1
     have:=ah.out
     have:=ax.out
     have:=ag.out
     have:=aw.out
     have cO : w32.cell? ⟨al,2,none⟩=some (.slice bV af.length bW):=(zs ac.out 2).trans rfl
     have hfs35:=zx ac.out 2
     have:=ah.out
     have:=ax.out
     have:=ag.out
     have:=aw.out
     have cP : w32.cell? ⟨al,3,none⟩=some (.int .i64 ak):=(zs ac.out 3).trans rfl
     have hfs36:=zx ac.out 3
     have:=ah.out
     have:=ax.out
     have:=ag.out
     have:=aw.out
     refine skip_ (w1 := ?_) (by rfl) rfl ?_ ?_
     rotate_left
     ·
      go_simp
      rfl
     refine hK.out _ _ yH (fun hHeld => ?_)
     clear hK K
     refine pure_ (i:=6) (N:=some 9) (v := ?_) (a' := ?_) #[true,true,true,true,true,true,true] rfl rfl (by kernel_rfl) (fun _ _ _ h=>h) (Or.inl ⟨by rfl, ?_⟩) ?_ ?_
     rotate_left
     ·
      intro w'
      go_simp
      with_reducible rfl
     rotate_left
     ·
      simp only [Act.put,za9,zb0,zb1,i64_w,i32_w]
      rfl
     refine done_ (by kernel_rfl) ?_
     try go_wp2
     go_roundg k2
     case measure=>exact yom2 HJ3 HK2
     case rel=>exact ⟨(cf),(wrap64 (aC+1)),(bc),(bd),(aW),(bf),(.slice bo aW.length bp),yq,H',⟨yom2 HJ3 HK2⟩,⟨yR1 ch ac⟩,⟨yV0 aE⟩,⟨ykp ac⟩,⟨yk ae⟩,⟨yhb⟩⟩
    replace c18:=za3.mpr c18
    subst c18
    rw [ynf] at H
    obtain ⟨c37,H⟩:=yif H
    have cE : decide (0≤aC)=true:=decide_eq_true c37
    clear c37
    obtain ⟨c38,H⟩:=yif H
    have cF : decide (aC < (l1.length : Int))=true:=decide_eq_true c38
    clear c38
    obtain ⟨⟨bi,bj,aX,bk,bX⟩,A39,H⟩:=ybi H
    try dsimp only at H
    obtain ⟨c40,H⟩:=yif H
    have LMc40:=zm c40;clear c40
    obtain ⟨ci,bq⟩ : ∃ y_ : List Int,y_=(aU ++ [bX]):=⟨_,rfl⟩
    replace H : (gain_Take.l0 k2 l1 false ci (wrap64 (aC+1)) bi bj aX bk)=some (r1,r2,r3,r4,r5,r6):=yrw bq H
    have cj:=zm bq;clear bq
    have H' := zm H
    clear H
    obtain ⟨⟨cG,cr,bb⟩,cQ,cR⟩:=yat (zb7 HR1.out aC)
    cases cr
    replace bb:=yhx HB bb
    have:=ag.out
    have:=ah.out
    obtain ⟨_,_,_,_,_,_,_,_⟩:=yc4 ac
    obtain ⟨bY,bZ,ct⟩:=zU aa.out
    subst ct
    try go_wp2_with (first|((with_reducible refine zK (f:=88) rfl ?_);refine ygl 40 Try.func88 #[.agg #[.int .u64 ai, .int .u32 aj, .slice bY af.length bZ, .int .i64 ak], .int .i64 (rd l1 aC), .bool false] ?_;(with_reducible refine (gain_take.calls k2 ai aj (fun k_=>((ap k_∨w.heap.size≤k_)∧(some k_≠(u9 : Value).ownBlock∧(k_≠al∧k_≠am)))) _ _ af ak (rd l1 aC) false bi bj aX bk bX _ aa.out A39.out).mono ?_);rintro e w44 ⟨cS,rfl,ho0,hb⟩;refine ⟨_,rfl, ?_⟩;replace aa:=yVb aa hb;have aG:=yho (fun k_=>(ap k_∨w.heap.size≤k_)∧some k_≠(u9 : Value).ownBlock∧k_≠al∧k_≠am) ho0 (fun k_ hk_=>⟨Or.elim hk_ (fun hs_=>hs_.1) (fun hn_=>(.inr (Nat.le_trans (zE yhb) hn_))),yoR ao hk_,yoB ac hk_,yoB ae hk_⟩);replace ao:=yRb ao hb;replace ac:=ybb ac hb;replace ae:=ybb ae hb;replace HB:=ybs hb;(try clear hb);(try clear ho0))|((with_reducible refine zL (N:=12) rfl ?_);refine ybx 12 #[.int .u64 0, .int .u32 0, .slice none 0 0, .int .i64 0] 82 ?_;intro ay hg w45 hbox hb;replace ao:=yRb ao hb;replace aa:=yVe aa hg hb;replace aG:=yVe aG hg hb;have au:=zm (hbox);have cH:=ygw hg;have cI:=ygw hg;replace HB:=ybs hb;have az:=ynl ac hg;have aA:=yng ac hg;replace ac:=ybb ac hb;have bl:=ynl ae hg;have bm:=yng ae hg;replace ae:=ybb ae hb;clear hb hbox hg;have:=aA.out;have:=az.out;have:=bm.out;have:=bl.out;obtain ⟨_,_,_,_,_,_,_,_⟩:=yc4 au;obtain ⟨br,bs,cu⟩:=zU aG.out;subst cu))
    obtain ⟨w50,hw_⟩ : ∃ x,x=((((w45.setCell ⟨ay,0,none⟩ (.int .u64 bi)).setCell ⟨ay,1,none⟩ (.int .u32 bj)).setCell ⟨ay,2,none⟩ (.slice br aX.length bs)).setCell ⟨ay,3,none⟩ (.int .i64 bk)):=⟨_,rfl⟩
    rw [← hw_]
    replace ao : Aside0 (Kd.R (Kd.int .i64) 3 w50 w.heap.size (fun k_=>(w.heap.size≤k_)) u9 aU):=⟨by rw [hw_];exact (yR1 ao au)⟩
    replace aa : Aside0 (Kd.V (Kd.int .u8) 5 w50 w.heap.size (fun k_=>(ap k_∨w.heap.size≤k_)∧some k_≠(u9 : Value).ownBlock∧k_≠al∧k_≠am∧k_≠ay) (.slice bY af.length bZ) af):=⟨by rw [hw_];exact (yV0 aa)⟩
    replace aG : Aside0 (Kd.V (Kd.int .u8) 5 w50 w.heap.size (fun k_=>(ap k_∨w.heap.size≤k_)∧some k_≠(u9 : Value).ownBlock∧k_≠al∧k_≠am∧k_≠ay) (.slice br aX.length bs) aX):=⟨by rw [hw_];exact (yV0 aG)⟩
    replace ac : Aside0 (w50.heap[al]? = some (.cells #[.int .u64 ai, .int .u32 aj, .slice bY af.length bZ, .int .i64 ak] 82 (0,0))):=⟨by rw [hw_];exact (yk ac)⟩
    replace ae : Aside0 (w50.heap[am]? = some (.cells #[.int .u64 0, .int .u32 0, .slice none 0 0, .int .i64 0] 82 (0,0))):=⟨by rw [hw_];exact (yk ae)⟩
    replace au : Aside0 (w50.heap[ay]? = some (.cells #[.int .u64 bi, .int .u32 bj, .slice br aX.length bs, .int .i64 bk] 82 (0,0))):=⟨by rw [hw_];exact (ykp au)⟩
    replace HB : Aside0 (Below w.heap.size w w50):=⟨by rw [hw_];exact (yhb)⟩
    clear hw_
    replace ao:=zm (zq ao.out)
    replace aa:=zm (zC aa.out)
    replace aG:=zm (zC aG.out)
    replace ac:=zm (zj ac.out)
    replace ae:=zm (zj ae.out)
    replace au:=zm (zj au.out)
    replace HB:=zm (zf HB.out)
    refine start_ (n:=7) (S:=fun w' => w'.cell? ⟨ay,0,none⟩=some (.int .u64 bi)∧w'.cell? ⟨ay,1,none⟩=some (.int .u32 bj)∧w'.cell? ⟨ay,2,none⟩=some (.slice br aX.length bs)∧w'.cell? ⟨ay,3,none⟩=some (.int .i64 bk)) (ds := []) #[false,false,false,false,false,false,false] (by kernel_rfl) rfl rfl ⟨(zs au.out 0).trans rfl,(zs au.out 1).trans rfl,(zs au.out 2).trans rfl,(zs au.out 3).trans rfl⟩ (fun hHeld => ?_)
    generalize w50.drew=w51 at ao aa aG ac ae au HB hHeld ⊢
    refine pure_ (i:=1) (N:=some 44) (v := ?_) (a' := ?_) #[false,true,false,false,false,false,false] rfl rfl (by kernel_rfl) (fun _ _ _ h=>h) (Or.inl ⟨by rfl, ?_⟩) ?_ ?_
    rotate_left
    ·
     intro w'
     go_simp
     with_reducible rfl
    rotate_left
    ·
     simp only [Act.put,za9,zb0,zb1,i64_w,i32_w]
     rfl
    refine pure_ (i:=2) (N:=some 45) (v := ?_) (a' := ?_) #[false,true,true,false,false,false,false] rfl rfl (by kernel_rfl) (fun _ _ _ h=>h) (Or.inl ⟨by rfl, ?_⟩) ?_ ?_
    rotate_left
    ·
     intro w'
     go_simp
     with_reducible rfl
    rotate_left
    ·
     simp only [Act.put,za9,zb0,zb1,i64_w,i32_w]
     rfl
    refine take_ (i:=0) (N:=some 43) (v := ?_) (a' := ?_) #[true,true,true,false,false,false,false] rfl rfl (by kernel_rfl) (fun _ _ _ h=>h) (Or.inl ⟨by rfl, ?_⟩) hHeld ?_ ?_
    rotate_left
    ·
     rintro w' ⟨s0,s1,s2,s3⟩
     go_simp
     with_reducible rfl
    rotate_left
    ·
     simp only [Act.put,za9,zb0,zb1,i64_w,i32_w]
     rfl
    refine one_ (i:=3) (N:=some 46) #[true,true,true,true,false,false,false] rfl rfl (by kernel_rfl) (by decide) (fun K hK => ?_)
    refine value_ (w1 := ?_) (v := ?_) (by rfl) rfl ?_ ?_
    rotate_left 2
    ·
     go_simp
     constructor
     ·
      rfl
     rfl
    refine hK.out _ _ ⟨(zs (zi au.out _) 0).trans rfl,(zs (zi au.out _) 1).trans rfl,(zs (zi au.out _) 2).trans rfl,(zs (zi au.out _) 3).trans rfl⟩ (fun hHeld => ?_)
    clear hK K
    refine ym (some 46) ?_
    refine one_ (i:=4) (N:=some 47) #[true,true,true,true,true,false,false] rfl rfl (by kernel_rfl) (by decide) (fun K hK => ?_)
    refine Kd.R_append_step (Kd.int .i64) (w0:=w) w.heap.size (by rfl) (.tmp 44) (.tmp 46) 49 3 (.int .i64 0) 8 rfl Try.underlying49 info3 rfl (by decide) (by omega) u9 aU bX [.int .i64 bX] (fun k_=>(w.heap.size≤k_)) (fun _=>False) rfl rfl ?aP (fun _ hk=>hk.elim) ?aF ?aO ?aB ?aS ?aL ?_
    (case aP=>exact rfl)
    (case aB=>exact yhb)
    (case aF=>exact (fun k_ hk=>(Nat.le_trans (zE yhb) hk)))
    (case aO=>exact (yr ao))
    (case aS=>exact (zE yhb))
    (case aL=>have:=LMc40.out;omega)
    intro cT w52 ho hb hg hat
    rw [← cj.out] at ho
    replace aa:=zm (zc1 (ok:=(fun k_=>(ap k_∨w.heap.size≤k_)∧k_≠al∧k_≠am∧k_≠ay)) (yV0 aa) hg hat)
    replace ac:=zm (zc3 (yk ac) hg (zu ao.out ac.out (by decide)))
    replace ae:=zm (zc3 (yk ae) hg (zu ao.out ae.out (by decide)))
    replace aG:=zm (zc1 (ok:=(fun k_=>(ap k_∨w.heap.size≤k_)∧k_≠al∧k_≠am∧k_≠ay)) (yV0 aG) hg hat)
    replace au:=zm (zc3 (yk au) hg (zu ao.out au.out (by decide)))
    replace HB:=zm (hb)
    have ck:=zm (ho);clear ao ho hb hg hat
    refine hK.out _ _ yH (fun hHeld => ?_)
    clear hK K
    refine ym (some 47) ?_
    refine one_ (i:=5) (N:=none) #[true,true,true,true,true,true,false] rfl rfl (by kernel_rfl) (by decide) (fun K hK => ?_)
    have cU : w52.cell? ⟨al,0,none⟩=some (.int .u64 ai):=(zs ac.out 0).trans rfl
    have hfs53:=zx ac.out 0
    have:=ah.out
    have:=aA.out
    have:=ag.out
    have:=az.out
    have cV : w52.cell? ⟨al,1,none⟩=some (.int .u32 aj):=(zs ac.out 1).trans rfl
    have hfs54:=zx ac.out 1
    have:=ah.out
    have:=aA.out
    have:=ag.out
    have:=az.out
    have cW : w52.cell? ⟨al,2,none⟩=some (.slice bY af.length bZ):=(zs ac.out 2).trans rfl
    have hfs55:=zx ac.out 2
    have:=ah.out
    have:=aA.out
    have:=ag.out
    have:=az.out
    have cX : w52.cell? ⟨al,3,none⟩=some (.int .i64 ak):=(zs ac.out 3).trans rfl
    have hfs56:=zx ac.out 3
    have:=ah.out
    have:=aA.out
    have:=ag.out
    have:=az.out
    refine skip_ (w1 := ?_) (by rfl) rfl ?_ ?_
    rotate_left
    ·
     go_simp
     rfl
    refine hK.out _ _ yH (fun hHeld => ?_)
    clear hK K
    refine pure_ (i:=6) (N:=some 9) (v := ?_) (a' := ?_) #[true,true,true,true,true,true,true] rfl rfl (by kernel_rfl) (fun _ _ _ h=>h) (Or.inl ⟨by rfl, ?_⟩) ?_ ?_
    rotate_left
    ·
     intro w'
     go_simp
     with_reducible rfl
    rotate_left
    ·
     simp only [Act.put,za9,zb0,zb1,i64_w,i32_w]
     rfl
    refine done_ (by kernel_rfl) ?_
    try go_wp2
    go_roundg k2
    case measure=>exact yom2 HJ3 HK2
    case rel=>exact ⟨(ci),(wrap64 (aC+1)),(bi),(bj),(aX),(bk),(.slice br aX.length bs),yq,H',⟨yom2 HJ3 HK2⟩,⟨yR1 ck ac⟩,⟨yV0 aG⟩,⟨ykp ac⟩,⟨yk ae⟩,⟨yhb⟩⟩
   simp only [zM,zN] at H
   obtain ⟨rfl,rfl,rfl,rfl,rfl,rfl⟩:=H
   have:=ag.out
   have:=ah.out
   obtain ⟨_,_,_,_,_,_,_,_⟩:=yc4 ac
   obtain ⟨_,_,_,_,_,_,_,_⟩:=yc4 ae
   obtain ⟨cv,cw,cx⟩:=zU aa.out
   subst cx
   go_wp2
   refine za1 (results_ctt rfl _ _ am 82 #[.int .u64 ai, .int .u32 aj, .slice cv af.length cw, .int .i64 ak] (0,0) _ rfl (ykp ae) Try.underlying82 rfl (by kernel_rfl)) rfl ?_
   exact ⟨_,_,ye,yV0 aa,yR1 ao ae,yhb⟩
end Go.Proofs.Ytnmbndkojpjkmaa.Prt
