-- Lemmas, one text behind the other (wip/tools/pack.py).
import Derived.Test.YtnmbndkojpjkmaaZPackReadsWMore
import Derived.Lib.SmallJoins
import Derived.ChangeSlices
import Derived.Test.YtnmbndkojpjkmaaZPackReadsM1
import Derived.Test.YtnmbndkojpjkmaaZPackReadsM4
import Derived.Test.YtnmbndkojpjkmaaZPackReadsM3
import Derived.Test.YtnmbndkojpjkmaaZPackReadsM2
import Derived.IntWalk
import Derived.Laws.BitsLemmas
/- What a law's parameter reads as: typed data out of the row's own reading. A structure of lemmas, kind by kind. -/
namespace Go.Proofs.Ytnmbndkojpjkmaa.Rd
open Go.ChangeShapes Go.WideShapes Go.Joins Go.Deep Go.Proofs.YtnmbndkojpjkmaaW.PrintWords

structure Opens {α : Type} (P : Program) (t : TypeId) (d : Kd α) (ok : α→Prop) : Prop where
 cells : P.cellsOf t=d.sz
 opens : ∀ {H : Type} {enc : TypeId × Value → H} {w : World} {spare : Nat → Bool} {held : Bool} {fuel : Nat} {cs : List Value} {x : DataW H × List MemPlace},
  DataW.trod enc P w 0 spare held fuel t cs=some x→∃ a : α,d.K w a cs∧ok a

theorem list_of {α : Type} {Q : Nat→α→Prop} : ∀ n : Nat,(∀ i,i < n→∃ a,Q i a)→∃ xs : List α,xs.length=n∧∀ i a,xs[i]? = some a→Q i a
 | 0,_=>⟨[],rfl,fun i a h=>by simp at h⟩
 | n+1,h=>by
  obtain ⟨xs,hl,hx⟩:=list_of n (fun i hi=>h i (by omega))
  obtain ⟨a,ha⟩:=h n (by omega)
  refine ⟨xs ++ [a],by simp [hl],fun i b hb => ?_⟩
  rcases Nat.lt_or_ge i n with hi|hi
  ·
   rw [List.getElem?_append_left (by omega)] at hb
   exact hx i b hb
  ·
   have h1:=(List.getElem?_eq_some_iff.1 hb).1
   rw [List.length_append,List.length_singleton] at h1
   obtain rfl : i=n:=by omega
   rw [List.getElem?_append_right (by omega)] at hb
   simp [hl] at hb
   exact hb ▸ ha

variable {P : Program} {t e : TypeId}
theorem Opens.int {k : IntKind} (ht : P.underlying t=some (.int k)) (hc : P.cellsOf t=1) : Opens P t (Kd.int k) (fun a=>(Lit.int k a).wf=true) :=
 ⟨hc,fun h=>by obtain ⟨n,rfl,_,hw⟩:=DataW.trod_int ht h;exact ⟨n,rfl,hw⟩⟩
theorem Opens.slice {α : Type} {d : Kd α} {ok : α→Prop} (ht : P.underlying t=some (.slice e)) (hc : P.cellsOf t=1) (he : Opens P e d ok) :
  Opens P t (Kd.slice e d) (fun l=>l.length≤maxLen∧∀ a ∈ l,ok a):=by
 refine ⟨hc,fun {H enc w spare held fuel cs x} h => ?_⟩
 rcases DataW.trod_slice ht h with ⟨rfl,_⟩ | ⟨a,len,cap,elems,rest,n,_,rfl,_,_,hl,hm,hlen,hel,_,_⟩
 ·
  exact ⟨[],⟨none,0,rfl,Nat.le_refl _,Kd.C_nil _ _⟩,by simp [maxLen],by simp⟩
 ·
  have each : ∀ i,i < len→∃ b, ∃ c,w.cells? 0 (a.add (i * P.cellsOf e)) (P.cellsOf e)=some c∧d.K w b c∧ok b:=by
   intro i hi
   have h1:=hel i hi
   rw [List.getElem?_eq_getElem (by omega)] at h1
   obtain ⟨c,hc1,hc2⟩:=Option.bind_eq_some_iff.1 h1
   obtain ⟨b,hb,hok⟩:=he.opens hc2
   exact ⟨b,c,hc1,hb,hok⟩
  obtain ⟨xs,hxl,hx⟩:=list_of len each
  refine ⟨xs,⟨some a,cap,by rw [hxl],by omega,rfl,by rw [hxl];simp only [maxLen] at hm;omega,fun _=>⟨a,rfl,fun j p hj => ?_⟩⟩,by omega,fun b hb => ?_⟩
  ·
   obtain ⟨c,hc1,hK,_⟩:=hx j p hj
   obtain ⟨_,hcl,hcc⟩:=World.cells?_some hc1
   refine ⟨c,by rw [hcl,he.cells],hK,fun i u hu => ?_⟩
   have hi : i < c.length:=(List.getElem?_eq_some_iff.1 hu).1
   rw [← hu, ← hcc i (by omega), ← he.cells]
   rw [Go.Proofs.YtnmbndkojpjkmaaW.PrintWords.add_add]
  ·
   obtain ⟨i,hi⟩:=List.getElem?_of_mem hb
   obtain ⟨_,_,_,hok⟩:=hx i b hi
   exact hok
theorem Opens.mono {α : Type} {d : Kd α} {ok ok' : α→Prop} (h : Opens P t d ok) (hok : ∀ a,ok a→ok' a) : Opens P t d ok' :=
 ⟨h.cells,fun hx=>by obtain ⟨a,ha,ho⟩:=h.opens hx;exact ⟨a,ha,hok a ho⟩⟩
end Go.Proofs.Ytnmbndkojpjkmaa.Rd
/- The examples of the alloc's chapter, once for all rounds. -/
namespace Go.Proofs.Ytnmbndkojpjkmaa.Alo
open Go Go.RowKit Go.Proofs.YtnmbndkojpjkmaaW.PrintWords Go.Proofs.Ytnmbndkojpjkmaa.Prt
theorem w64 {x : Int} (h0 : -9223372036854775808≤x) (h1 : x≤9223372036854775807) : wrap64 x=x:=by unfold wrap64;omega
def rightB (a b : Int) : Bool:=decide ((b=1∧11≤a∧a≤60)∨(b=2∧17≤a∧a≤60))
theorem right_iff {a b : Int} : rightB a b=true ↔ (b=1∧11≤a∧a≤60)∨(b=2∧17≤a∧a≤60):=by
 unfold rightB
 exact decide_eq_true_iff
theorem right_f (a b : Int) : alloc_Right.f a b=some (rightB a b)∧r12_Right.f a b=some (rightB a b):=by
 unfold alloc_Right.f r12_Right.f rightB
 refine ⟨?_, ?_⟩
 ·
  by_cases h1 : b=1
  ·
   rw [if_pos h1]
   by_cases h2 : a ≥ 11
   ·
    rw [if_pos h2]
    congr 1
    rw [decide_eq_decide]
    omega
   ·
    rw [if_neg h2,decide_eq_false (by omega)]
  ·
   rw [if_neg h1]
   by_cases h3 : b=2
   ·
    rw [if_pos h3]
    by_cases h2 : a ≥ 17
    ·
     rw [if_pos h2]
     congr 1
     rw [decide_eq_decide]
     omega
    ·
     rw [if_neg h2,decide_eq_false (by omega)]
   ·
    rw [if_neg h3,decide_eq_false (by omega)]
 ·
  by_cases h0 : a≤60
  ·
   rw [if_pos h0]
   by_cases h1 : b=1
   ·
    rw [if_pos h1]
    by_cases h2 : a ≥ 11
    ·
     rw [if_pos h2,decide_eq_true (by omega)]
    ·
     rw [if_neg h2,if_neg (by omega),decide_eq_false (by omega)]
   ·
    rw [if_neg h1]
    by_cases h3 : b=2
    ·
     rw [if_pos h3]
     congr 1
     rw [decide_eq_decide]
     omega
    ·
     rw [if_neg h3,decide_eq_false (by omega)]
  ·
   rw [if_neg h0,decide_eq_false (by omega)]
def room (a b : Int) : Int:=if b=1 then 8 * a - 86 else (8 * a - 131) / 2
theorem room_ok {a b : Int} (h : rightB a b=true) : alloc_Room.f a b=some (room a b)∧r12_Room.f a b=some (room a b):=by
 unfold alloc_Room.f r12_Room.f room
 rw [(right_f a b).1,(right_f a b).2,h,Option.bind_some,Option.bind_some,if_pos rfl,if_pos rfl]
 have hg : gain_Most.f false=some 45:=rfl
 rw [hg,Option.bind_some]
 rcases right_iff.1 h with ⟨rfl,h1,h2⟩ | ⟨rfl,h1,h2⟩
 ·
  rw [if_neg (by decide),if_pos rfl,if_pos rfl,w64 (x:=8 * a) (by omega) (by omega),w64 (x:=8 * a - 41) (by omega) (by omega),w64 (x:=(45 : Int) * 1) (by omega) (by omega),w64 (x:=8 * a - 41 - 45 * 1) (by omega) (by omega),w64 (x:=8 * a - 86) (by omega) (by omega),Int.tdiv_eq_ediv_of_nonneg (by omega),w64 (by omega) (by omega)]
  exact ⟨by congr 1;omega,rfl⟩
 ·
  rw [if_neg (by decide),if_neg (by decide),if_neg (by decide),w64 (x:=8 * a) (by omega) (by omega),w64 (x:=8 * a - 41) (by omega) (by omega),w64 (x:=(45 : Int) * 2) (by omega) (by omega),w64 (x:=8 * a - 41 - 45 * 2) (by omega) (by omega),w64 (x:=8 * a - 131) (by omega) (by omega),Int.tdiv_eq_ediv_of_nonneg (by omega),Int.tdiv_eq_ediv_of_nonneg (by omega),w64 (by omega) (by omega),w64 (by omega) (by omega)]
  exact ⟨by congr 1;omega,rfl⟩
theorem room_in {a b : Int} (h : rightB a b=true) : 0≤room a b∧room a b≤400:=by
 unfold room
 rcases right_iff.1 h with ⟨rfl,h1,h2⟩ | ⟨rfl,h1,h2⟩
 ·
  rw [if_pos rfl];omega
 ·
  rw [if_neg (by decide)];omega
end Go.Proofs.Ytnmbndkojpjkmaa.Alo
/- How many pulse vectors there are: the table's numbers, and what is true of them. -/
namespace Go.Proofs.Ytnmbndkojpjkmaa.Com
open Go Go.RowKit Go.Proofs.YtnmbndkojpjkmaaW.PrintWords Go.Proofs.Ytnmbndkojpjkmaa.Prt
set_option linter.unusedVariables false
set_option linter.unusedSimpArgs false
def VT : List Int := [1,0,0,0,0,0,0,0,0,0,0,0,0,1,2,2,2,2,2,2,2,2,2,2,2,2,1,4,8,12,16,20,24,28,32,36,40,44,48,1,6,18,38,66,102,146,198,258,326,402,486,578,1,8,32,88,192,360,608,952,1408,1992,2720,3608,4672,1,10,50,170,450,1002,1970,3530,5890,9290,14002,20330,28610,1,12,72,292,912,2364,5336,10836,20256,35436,58728,93060,142000,1,14,98,462,1666,4942,12642,28814,59906,115598,209762,361550,596610,1,16,128,688,2816,9424,27008,68464,157184,332688,658048,1229360,2187520,1,18,162,978,4482,16722,53154,148626,374274,864146,1854882,3742290,7159170,1,20,200,1340,6800,28004,97880,299660,822560,2060980,4780008,10377180,21278640,1,22,242,1782,9922,44726,170610,568150,1690370,4573910,11414898,26572086,58227906,1,24,288,2312,14016,68664,284000,1022760,3281280,9545560,25534368,63521352,148321344,1,26,338,2938,19266,101946,454610,1761370,6065410,18892250,53972178,143027898,354870594,1,28,392,3668,25872,147084,703640,2919620,10746400,35704060,108568488,305568564,803467056,1,30,450,4510,34050,207006,1057730,4680990,18347010,64797470,209070018,623207070,1732242690,1,32,512,5472,44032,285088,1549824,7288544,30316544,113461024,387328512,1219605600,3575055360]
def V0 (n k : Nat) : Int:=VT.getD (n * 13+k) 0
set_option maxRecDepth 100000 in
theorem T16 : comb_table.T 16=VT:=by decide +kernel
def pval (p : Nat) : Int:=if p % 2=1 then ((p+1) / 2 : Nat) else -((p / 2 : Nat) : Int)
def psz (p : Nat) : Nat:=(p+1) / 2
def P (V : Nat→Nat→Int) (n k : Nat) : Nat→Int
 | 0=>0
 | p+1=>P V n k p+V n (k - psz p)
def rowL (V : Nat→Nat→Int) (n : Nat) : List Int:=(List.range 13).map (V n)
theorem V_all : ∀ n : Fin 17, ∀ k : Fin 13,0≤V0 n.1 k.1∧V0 n.1 k.1≤1000000000000:=by decide +kernel
theorem V_zero : ∀ n : Fin 17,V0 n.1 0=1:=by decide +kernel
theorem V_none : ∀ k : Fin 13,0 < k.1→V0 0 k.1=0:=by decide +kernel
theorem V_pos : ∀ n : Fin 17, ∀ k : Fin 13,0 < n.1→0 < V0 n.1 k.1:=by decide +kernel
theorem P_all : ∀ n : Fin 16, ∀ k : Fin 13,P V0 n.1 k.1 (2 * k.1+1)=V0 (n.1+1) k.1:=by decide +kernel
theorem V_sum : ∀ n : Fin 16, ∀ k : Fin 12,V0 (n.1+1) (k.1+1)=V0 n.1 (k.1+1)+V0 (n.1+1) k.1+V0 n.1 k.1:=by decide +kernel
theorem rows_0 : ∀ n : Fin 17,r06_Row.f 3000 (n.1 : Int)=some (rowL V0 n.1):=by decide +kernel
structure Cnt (V : Nat→Nat→Int) : Prop where
 all : ∀ {n k : Nat},n < 17→k < 13→0≤V n k∧V n k≤1000000000000
 zero : ∀ {n : Nat},n < 17→V n 0=1
 none : ∀ {k : Nat},k < 13→0 < k→V 0 k=0
 pos : ∀ {n k : Nat},n < 17→k < 13→0 < n→0 < V n k
 top : ∀ {n k : Nat},n < 16→k < 13→P V n k (2 * k+1)=V (n+1) k
 sum : ∀ {n k : Nat},n < 16→k < 12→V (n+1) (k+1)=V n (k+1)+V (n+1) k+V n k
 table : ∀ {n k : Nat},n < 17→k < 13→comb_table.f (n : Int) (k : Int)=some (V n k)
 rows : ∀ {n : Nat},n < 17→∀ {k : Nat},3000≤k→r06_Row.f k (n : Int)=some (rowL V n)
 three : V 3 2=18
theorem exCnt : ∃ V,Cnt V:=⟨V0, {
 all:=fun {n k} hn hk=>V_all ⟨n,hn⟩ ⟨k,hk⟩
 zero:=fun {n} hn=>V_zero ⟨n,hn⟩
 none:=fun {k} hk h=>V_none ⟨k,hk⟩ h
 pos:=fun {n k} hn hk h=>V_pos ⟨n,hn⟩ ⟨k,hk⟩ h
 top:=fun {n k} hn hk=>P_all ⟨n,hn⟩ ⟨k,hk⟩
 sum:=fun {n k} hn hk=>V_sum ⟨n,hn⟩ ⟨k,hk⟩
 table:=fun {n k} hn hk=>by
  unfold comb_table.f
  rw [if_pos (by omega),if_pos (by omega),if_pos (by omega),if_pos (by omega),T16,Int.toNat_natCast,Int.toNat_natCast]
  rfl
 rows:=fun {n} hn {k} hk=>at_rounds (r06_Row.mono _) hk (rows_0 ⟨n,hn⟩)
 three:=by decide +kernel }⟩
end Go.Proofs.Ytnmbndkojpjkmaa.Com
/- The pulse vectors and their numbers: what the program's functions and the document's come to, on numbers and lists. -/
namespace Go.Proofs.Ytnmbndkojpjkmaa.Com
open Go Go.RowKit Go.Proofs.YtnmbndkojpjkmaaW.PrintWords Go.Proofs.Ytnmbndkojpjkmaa.Prt
set_option linter.unusedVariables false
set_option linter.unusedSimpArgs false

theorem w64 {x : Int} (h0 : -9223372036854775808≤x) (h1 : x≤9223372036854775807) : wrap64 x=x:=by unfold wrap64;omega
theorem u64 {x : Int} (h0 : 0≤x) (h1 : x≤18446744073709551615) : IntKind.u64.wrap x=x:=by
 have h : IntKind.u64.wrap x=x % 18446744073709551616:=by simp [IntKind.wrap,IntKind.bits,IntKind.signed]
 rw [h]
 omega
theorem rd_at {l : List Int} {i : Nat} (h : i < l.length) : rd l (i : Int)=l[i]:=by
 unfold rd
 rw [Int.toNat_natCast,List.getD_eq_getElem?_getD,List.getElem?_eq_getElem h,Option.getD_some]
variable {V : Nat→Nat→Int}
theorem VV (C : Cnt V) {n k : Nat} (hn : n < 17) (hk : k < 13) : 0≤V n k∧V n k≤1000000000000:=C.all hn hk
theorem P_succ (V : Nat→Nat→Int) (n k p : Nat) : P V n k (p+1)=P V n k p+V n (k - psz p):=rfl
theorem P_mono (C : Cnt V) {n k : Nat} (hn : n < 17) (hk : k < 13) {p : Nat} : ∀ {q : Nat},p≤q→P V n k p≤P V n k q:=by
 intro q
 induction q with
 | zero =>
  intro h
  obtain rfl : p=0:=by omega
  exact Int.le_refl _
 | succ q ih =>
  intro h
  rcases Nat.lt_or_ge q p with h1|h1
  ·
   obtain rfl : p=q+1:=by omega
   exact Int.le_refl _
  ·
   have:=ih h1
   have:=(VV C hn (show k - psz q < 13 by omega)).1
   rw [P_succ]
   omega
theorem P_nn (C : Cnt V) {n k : Nat} (hn : n < 17) (hk : k < 13) (p : Nat) : 0≤P V n k p:=P_mono C hn hk (Nat.zero_le p)
theorem P_odd (V : Nat→Nat→Int) (n k s : Nat) : P V n k (2 * (s+1)+1)=P V n k (2 * s+1)+2 * V n (k - (s+1)):=by
 rw [show 2 * (s+1)+1=(2 * s+1)+1+1 by omega,P_succ,P_succ,show psz (2 * s+1)=s+1 by unfold psz;omega,show psz (2 * s+1+1)=s+1 by unfold psz;omega]
 omega
theorem P_one (V : Nat→Nat→Int) (n k : Nat) : P V n k 1=V n k:=by
 rw [show (1 : Nat)=0+1 from rfl,P_succ]
 show 0+V n (k - 0)=V n k
 rw [Int.zero_add,Nat.sub_zero]

def Unr (V : Nat→Nat→Int) : Nat→Nat→Int→List Int→Prop
 | 0,k,i,y=>k=0∧i=0∧y = []
 | n+1,k,i,y => ∃ p ys,y=pval p :: ys∧psz p≤k∧P V n k p≤i∧i < P V n k (p+1)∧Unr V n (k - psz p) (i - P V n k p) ys
theorem Unr.fn (C : Cnt V) : ∀ {n k : Nat} {i : Int} {y y' : List Int},n < 17→k < 13→Unr V n k i y→Unr V n k i y'→y=y'
 | 0,_,_,_,_,_,_,h,h' => h.2.2.trans h'.2.2.symm
 | n+1,k,i,y,y',hn,hk,⟨p,ys,e,h1,h2,h3,h4⟩,⟨p',ys',e',h1',h2',h3',h4'⟩=>by
  have hp : p=p' := by
   rcases Nat.lt_trichotomy p p' with h|h|h
   ·
    have:=P_mono C (n:=n) (k:=k) (by omega) hk (show p+1≤p' by omega)
    omega
   ·
    exact h
   ·
    have:=P_mono C (n:=n) (k:=k) (by omega) hk (show p' + 1≤p by omega)
    omega
  subst hp
  rw [e,e',Unr.fn C (by omega) (by omega) h4 h4']
theorem Unr.len : ∀ {n k : Nat} {i : Int} {y : List Int},Unr V n k i y→y.length=n
 | 0,_,_,_,h=>by rw [h.2.2];rfl
 | n+1,k,i,y,⟨p,ys,e,_,_,_,h4⟩=>by rw [e,List.length_cons,Unr.len h4]
theorem pval_sz (p : Nat) : (pval p=(psz p : Int)∧p % 2=1)∨(pval p = -(psz p : Int)∧p % 2=0):=by
 unfold pval psz
 split
 ·
  left;exact ⟨rfl,by assumption⟩
 ·
  right;exact ⟨by congr 2;omega,by omega⟩
def sz (v : Int) : Int:=if -12≤v∧v≤12 then (if v < 0 then -v else v) else 13
def szs : List Int→Int
 | []=>0
 | v :: l=>sz v+szs l
theorem sz_in (v : Int) : 0≤sz v∧sz v≤13:=by
 unfold sz
 split
 ·
  split <;> omega
 ·
  omega
theorem szs_in : ∀ l : List Int,0≤szs l∧szs l≤13 * l.length
 | []=>by simp [szs]
 | v :: l=>by
  have:=szs_in l
  have:=sz_in v
  simp only [szs,List.length_cons]
  omega
theorem sz_pval {p : Nat} (h : psz p≤12) : sz (pval p)=psz p:=by
 unfold sz
 rcases pval_sz p with ⟨e,_⟩ | ⟨e,_⟩
 ·
  rw [e,if_pos (by omega),if_neg (by omega)]
 ·
  rw [e,if_pos (by omega)]
  split <;> omega
theorem refSize_l0 (v : Int) : ∀ (d j k : Nat),j+d=13→(-(j : Int) < v→v < j→False)→r06_Size.l0 (k+d+1) v (j : Int)=some (sz v):=by
 intro d
 induction d with
 | zero =>
  intro j k h hv
  rw [r06_Size.l0,if_neg (by omega)]
  unfold sz
  rw [if_neg (fun hh=>hv (by omega) (by omega))]
 | succ d ih =>
  intro j k h hv
  rw [show k+(d+1)+1=(k+d+1)+1 by omega,r06_Size.l0,if_pos (by omega),w64 (x := -(j : Int)) (by omega) (by omega),w64 (x:=(j : Int)+1) (by omega) (by omega)]
  by_cases h1 : v=j
  ·
   rw [if_pos h1]
   unfold sz
   rw [if_pos (by omega)]
   congr 1
   split <;> omega
  ·
   rw [if_neg h1]
   by_cases h2 : v = -j
   ·
    rw [if_pos h2]
    unfold sz
    rw [if_pos (by omega)]
    congr 1
    split <;> omega
   ·
    rw [if_neg h2,show (j : Int)+1=((j+1 : Nat) : Int) by omega]
    exact ih (j+1) k (by omega) (fun a b=>hv (by omega) (by omega))
theorem refSize_f (v : Int) {k : Nat} (hk : 20≤k) : r06_Size.f k v=some (sz v):=by
 unfold r06_Size.f
 obtain ⟨q,rfl⟩ : ∃ q,k=q+13+1:=⟨k - 14,by omega⟩
 exact refSize_l0 v 13 0 q (by omega) (by omega)
theorem Unr.szs : ∀ {n k : Nat} {i : Int} {y : List Int},k < 13→Unr V n k i y→szs y=k
 | 0,_,_,_,_,h=>by rw [h.2.2,h.1];rfl
 | n+1,k,i,y,hk,⟨p,ys,e,h1,_,_,h4⟩=>by
  rw [e]
  show sz (pval p)+Com.szs ys=k
  rw [sz_pval (by omega),Unr.szs (by omega) h4]
  omega
end Go.Proofs.Ytnmbndkojpjkmaa.Com
/- The pulse vectors: the document's numbers, and the vectors of numbers, by the program and by the document. -/
namespace Go.Proofs.Ytnmbndkojpjkmaa.Com
open Go Go.RowKit Go.Proofs.YtnmbndkojpjkmaaW.PrintWords Go.Proofs.Ytnmbndkojpjkmaa.Prt
set_option linter.unusedVariables false
set_option linter.unusedSimpArgs false
variable {V : Nat→Nat→Int}

def ordL (k : Nat) : List Int:=(List.range (2 * k+1)).map pval
theorem order_0 : ∀ k : Fin 13,r06_order.f 30 (k.1 : Int)=some (ordL k.1):=by decide +kernel
theorem order_f {k : Nat} (hk : k < 13) {q : Nat} (hq : 30≤q) : r06_order.f q (k : Int)=some (ordL k):=at_rounds (r06_order.mono _) hq (order_0 ⟨k,hk⟩)
theorem ordL_len (k : Nat) : (ordL k).length=2 * k+1:=by rw [ordL,List.length_map,List.length_range]
theorem rd_ord {k m : Nat} (h : m < 2 * k+1) : rd (ordL k) (m : Int)=pval m:=by
 rw [rd_at (by rw [ordL_len];exact h)]
 simp [ordL]
theorem rowL_len (n : Nat) : (rowL V n).length=13:=by rw [rowL,List.length_map,List.length_range]
theorem rd_row {n j : Nat} (h : j < 13) : rd (rowL V n) (j : Int)=V n j:=by
 rw [rd_at (by rw [rowL_len];exact h)]
 simp [rowL]
theorem wsub {a b : Nat} (h : b≤a) (ha : a≤1000) : wrap64 ((a : Int) - (b : Int))=((a - b : Nat) : Int):=by rw [w64 (by omega) (by omega)];omega
theorem wpred {a : Nat} (ha : a≤1000) : wrap64 (((a+1 : Nat) : Int) - 1)=(a : Int):=by rw [w64 (by omega) (by omega)];omega
theorem wone {a : Nat} (h : 1≤a) (ha : a≤1000) : wrap64 ((a : Int) - 1)=((a - 1 : Nat) : Int):=by rw [w64 (by omega) (by omega)];omega
theorem wsucc {a : Nat} (ha : a≤1000) : wrap64 ((a : Int)+1)=((a+1 : Nat) : Int):=by rw [w64 (by omega) (by omega)];omega
theorem wrow {l a n : Nat} (h : a+(n+1)=l) (hl : l≤1000) : wrap64 (wrap64 ((l : Int) - (a : Int)) - 1)=(n : Int):=by rw [w64 (x:=(l : Int) - a) (by omega) (by omega),w64 (by omega) (by omega)];omega
theorem vec_l1 (C : Cnt V) {n kk : Nat} (hn : n < 16) (hkk : kk < 13) {i : Int} (hi : i < V (n+1) kk) {out : List Int} (ho : out.length≤100) : ∀ (e s k : Nat),s+1+e=kk→P V n kk (2 * s+1)≤i →
  ∃ p k',k≤k'∧psz p≤kk∧P V n kk p≤i∧i < P V n kk (p+1) ∧
   comb_Vector.l1 (k+e+1) ((n+1 : Nat) : Int) (kk : Int) (i - P V n kk (2 * s+1)) out ((s+1 : Nat) : Int) (V n (kk - (s+1)))=comb_Vector.l0 k' (n : Int) ((kk - psz p : Nat) : Int) (i - P V n kk p) (out ++ [pval p]):=by
 intro e
 induction e with
 | zero =>
  intro s k h hP
  have hV:=VV C (show n < 17 by omega) (show kk - (s+1) < 13 by omega)
  have hW:=VV C (show n+1 < 17 by omega) hkk
  have hPn:=P_nn C (n:=n) (by omega) hkk (2 * s+1)
  have hodd:=P_odd V n kk s
  have htop:=C.top hn hkk
  rw [show 2 * kk+1=2 * (s+1)+1 by omega] at htop
  have e2 : P V n kk (2 * s+1+1)=P V n kk (2 * s+1)+V n (kk - (s+1)):=by rw [P_succ,show psz (2 * s+1)=s+1 by unfold psz;omega]
  rw [show k+0+1=k+1 from rfl,comb_Vector.l1,u64 (x:=2 * V n (kk - (s+1))) (by omega) (by omega),if_neg (by omega),wpred (by omega),wsub (by omega) (by omega),C.table (by omega) (by omega),Option.bind_some]
  by_cases hc : i - P V n kk (2 * s+1) ≥ V n (kk - (s+1))
  ·
   refine ⟨2 * (s+1),k,Nat.le_refl _,by unfold psz;omega,by rw [show 2 * (s+1)=2 * s+1+1 by omega,e2];omega,by rw [hodd];omega, ?_⟩
   rw [if_pos hc,if_pos (by omega),u64 (by omega) (by omega),show psz (2 * (s+1))=s+1 by unfold psz;omega,show 2 * (s+1)=2 * s+1+1 by omega,e2,w64 (x := -((s+1 : Nat) : Int)) (by omega) (by omega),show pval (2 * s+1+1) = -((s+1 : Nat) : Int) by unfold pval;rw [if_neg (by omega)];omega,
    show i - (P V n kk (2 * s+1)+V n (kk - (s+1)))=i - P V n kk (2 * s+1) - V n (kk - (s+1)) by omega]
  ·
   refine ⟨2 * s+1,k,Nat.le_refl _,by unfold psz;omega,hP,by rw [e2];omega, ?_⟩
   rw [if_neg hc,if_pos (by omega),show psz (2 * s+1)=s+1 by unfold psz;omega,show pval (2 * s+1)=((s+1 : Nat) : Int) by unfold pval;rw [if_pos (by omega)];omega]
 | succ e ih =>
  intro s k h hP
  have hV:=VV C (show n < 17 by omega) (show kk - (s+1) < 13 by omega)
  have hW:=VV C (show n+1 < 17 by omega) hkk
  have hPn:=P_nn C (n:=n) (by omega) hkk (2 * s+1)
  have hodd:=P_odd V n kk s
  have e2 : P V n kk (2 * s+1+1)=P V n kk (2 * s+1)+V n (kk - (s+1)):=by rw [P_succ,show psz (2 * s+1)=s+1 by unfold psz;omega]
  by_cases h2 : i - P V n kk (2 * s+1) ≥ 2 * V n (kk - (s+1))
  ·
   obtain ⟨p,k',g1,g2,g3,g4,g5⟩:=ih (s+1) k (by omega) (by rw [hodd];omega)
   refine ⟨p,k',g1,g2,g3,g4, ?_⟩
   rw [hodd] at g5
   rw [show k+(e+1)+1=(k+e+1)+1 by omega,comb_Vector.l1,u64 (x:=2 * V n (kk - (s+1))) (by omega) (by omega),if_pos h2,wpred (by omega),wsucc (by omega),wsub (by omega) (by omega),C.table (by omega) (by omega),Option.bind_some,u64 (by omega) (by omega),
    show i - P V n kk (2 * s+1) - 2 * V n (kk - (s+1))=i - (P V n kk (2 * s+1)+2 * V n (kk - (s+1))) by omega]
   exact g5
  ·
   have hn1 : wrap64 (((n+1 : Nat) : Int) - 1)=(n : Int):=by rw [w64 (by omega) (by omega)];omega
   rw [show k+(e+1)+1=(k+(e+1))+1 from rfl,comb_Vector.l1,u64 (x:=2 * V n (kk - (s+1))) (by omega) (by omega),if_neg h2,wpred (by omega),wsub (by omega) (by omega),C.table (by omega) (by omega),Option.bind_some]
   by_cases hc : i - P V n kk (2 * s+1) ≥ V n (kk - (s+1))
   ·
    refine ⟨2 * (s+1),k+(e+1),by omega,by unfold psz;omega,by rw [show 2 * (s+1)=2 * s+1+1 by omega,e2];omega,by rw [hodd];omega, ?_⟩
    rw [if_pos hc,if_pos (by omega),u64 (by omega) (by omega),show psz (2 * (s+1))=s+1 by unfold psz;omega,show 2 * (s+1)=2 * s+1+1 by omega,e2,w64 (x := -((s+1 : Nat) : Int)) (by omega) (by omega),show pval (2 * s+1+1) = -((s+1 : Nat) : Int) by unfold pval;rw [if_neg (by omega)];omega,
     show i - (P V n kk (2 * s+1)+V n (kk - (s+1)))=i - P V n kk (2 * s+1) - V n (kk - (s+1)) by omega]
   ·
    refine ⟨2 * s+1,k+(e+1),by omega,by unfold psz;omega,hP,by rw [e2];omega, ?_⟩
    rw [if_neg hc,if_pos (by omega),show psz (2 * s+1)=s+1 by unfold psz;omega,show pval (2 * s+1)=((s+1 : Nat) : Int) by unfold pval;rw [if_pos (by omega)];omega]
theorem Unr.none (C : Cnt V) {kk : Nat} {i : Int} (hkk : kk < 13) (h0 : 0≤i) (h1 : i < V 0 kk) : Unr V 0 kk i []:=by
 rcases Nat.eq_zero_or_pos kk with rfl|h
 ·
  rw [C.zero (by decide)] at h1
  exact ⟨rfl,by omega,rfl⟩
 ·
  rw [C.none hkk h] at h1
  omega
theorem vec_l0 (C : Cnt V) : ∀ (n kk k : Nat) (i : Int) (out : List Int),n≤16→kk < 13→0≤i→i < V n kk→out.length+n≤50→20 * n+1≤k →
  ∃ y,Unr V n kk i y∧comb_Vector.l0 k (n : Int) (kk : Int) i out=some (out ++ y,0)
 | 0,kk,k,i,out,hn,hkk,h0,h1,ho,hk=>by
  obtain ⟨q,rfl⟩ : ∃ q,k=q+1:=⟨k - 1,by omega⟩
  refine ⟨[],Unr.none C hkk h0 h1, ?_⟩
  rw [comb_Vector.l0,if_neg (by omega),List.append_nil]
 | n+1,kk,k,i,out,hn,hkk,h0,h1,ho,hk=>by
  have hV:=VV C (show n < 17 by omega) hkk
  have hW:=VV C (show n+1 < 17 by omega) hkk
  by_cases hc : i ≥ V n kk
  ·
   have hk0 : 0 < kk:=by
    rcases Nat.eq_zero_or_pos kk with rfl|h
    ·
     rw [C.zero (by omega)] at h1 hc
     omega
    ·
     exact h
   obtain ⟨q,rfl⟩ : ∃ q,k=(q+(kk - 1)+1)+1:=⟨k - kk - 1,by omega⟩
   obtain ⟨p,k',g1,g2,g3,g4,g5⟩:=vec_l1 C (n:=n) (by omega) hkk h1 (out:=out) (by omega) (kk - 1) 0 q (by omega) (by rw [show 2 * 0+1=1 from rfl,P_one];exact hc)
   have hV2:=P_succ V n kk p
   obtain ⟨y,hy,hy2⟩:=vec_l0 C n (kk - psz p) k' (i - P V n kk p) (out ++ [pval p]) (by omega) (by omega) (by omega) (by omega) (by rw [List.length_append,List.length_singleton];omega) (by omega)
   refine ⟨pval p :: y,⟨p,y,rfl,g2,g3,g4,hy⟩, ?_⟩
   rw [comb_Vector.l0,if_pos (by omega),wpred (by omega),wone (by omega) (by omega),C.table (by omega) hkk,Option.bind_some,if_pos hc,C.table (by omega) (by omega),Option.bind_some,u64 (by omega) (by omega)]
   rw [show 2 * 0+1=1 from rfl,P_one] at g5
   rw [show ((0+1 : Nat) : Int)=1 from rfl,show kk - (0+1)=kk - 1 from rfl] at g5
   rw [g5,hy2,List.append_assoc,List.singleton_append]
  ·
   obtain ⟨q,rfl⟩ : ∃ q,k=q+1:=⟨k - 1,by omega⟩
   obtain ⟨y,hy,hy2⟩:=vec_l0 C n kk q i (out ++ [0]) (by omega) hkk h0 (by omega) (by rw [List.length_append,List.length_singleton];omega) (by omega)
   refine ⟨pval 0 :: y,⟨0,y,rfl,Nat.zero_le _,h0,by rw [show 0+1=1 from rfl,P_one];omega, ?_⟩, ?_⟩
   ·
    rw [show kk - psz 0=kk from rfl,show P V n kk 0=0 from rfl,Int.sub_zero]
    exact hy
   ·
    have hn1 : wrap64 (((n+1 : Nat) : Int) - 1)=(n : Int):=by rw [w64 (by omega) (by omega)];omega
    rw [comb_Vector.l0,if_pos (by omega),wpred (by omega),C.table (by omega) hkk,Option.bind_some,if_neg hc,if_pos (by omega),hy2,List.append_assoc]
    rfl
theorem refVec_l1 (C : Cnt V) {n kk : Nat} (hn : n < 16) (hkk : kk < 13) {i : Int} (hi : i < V (n+1) kk) {out : List Int} (ho : out.length≤100) (N at_ : Int) : ∀ (e m k : Nat),m+e=2 * kk→P V n kk m≤i→3000≤k →
  ∃ p k',k≤k'∧psz p≤kk∧P V n kk p≤i∧i < P V n kk (p+1) ∧
   r06_Vector.l1 (k+e+1) N (kk : Int) (i - P V n kk m) out at_ (rowL V n) (ordL kk) (m : Int)=r06_Vector.l0 k' N (wrap64 ((kk : Int) - (psz p : Int))) (i - P V n kk p) (out ++ [pval p]) (wrap64 (at_+1)):=by
 intro e
 induction e with
 | zero =>
  intro m k h hP hk
  have hz : psz m≤kk:=by unfold psz;omega
  have htop:=C.top hn hkk
  rw [show 2 * kk+1=m+1 by omega] at htop
  have hs:=P_succ V n kk m
  refine ⟨m,k,Nat.le_refl _,hz,hP,by omega, ?_⟩
  rw [show k+0+1=k+1 from rfl,r06_Vector.l1,if_pos (by rw [ordL_len];omega),if_pos (by omega),rd_ord (by omega),refSize_f _ (by omega),sz_pval (by omega),Option.bind_some,wsub hz (by omega),if_pos (by omega),if_pos (by rw [rowL_len];omega),rd_row (by omega),if_pos (by omega),if_pos (by omega),Option.bind_some,wsub hz (by omega)]
 | succ e ih =>
  intro m k h hP hk
  have hz : psz m≤kk:=by unfold psz;omega
  have hV:=VV C (show n < 17 by omega) (show kk - psz m < 13 by omega)
  have hW:=VV C (show n+1 < 17 by omega) hkk
  have hPn:=P_nn C (n:=n) (by omega) hkk m
  have hs:=P_succ V n kk m
  by_cases hc : i - P V n kk m < V n (kk - psz m)
  ·
   refine ⟨m,k+(e+1),by omega,hz,hP,by omega, ?_⟩
   rw [r06_Vector.l1,if_pos (by rw [ordL_len];omega),if_pos (by omega),rd_ord (by omega),refSize_f _ (by omega),sz_pval (by omega),Option.bind_some,wsub hz (by omega),if_pos (by omega),if_pos (by rw [rowL_len];omega),rd_row (by omega),if_pos hc,if_pos (by omega),Option.bind_some,wsub hz (by omega)]
  ·
   obtain ⟨p,k',g1,g2,g3,g4,g5⟩:=ih (m+1) k (by omega) (by omega) hk
   refine ⟨p,k',g1,g2,g3,g4, ?_⟩
   rw [show k+(e+1)+1=(k+e+1)+1 by omega,r06_Vector.l1,if_pos (by rw [ordL_len];omega),if_pos (by omega),rd_ord (by omega),refSize_f _ (by omega),sz_pval (by omega),Option.bind_some,wsub hz (by omega),if_pos (by omega),if_pos (by rw [rowL_len];omega),rd_row (by omega),if_neg hc,wsucc (by omega),u64 (by omega) (by omega),
    show i - P V n kk m - V n (kk - psz m)=i - P V n kk (m+1) by omega]
   exact g5
theorem refVec_l0 (C : Cnt V) {N : Nat} (hN : N≤16) : ∀ (n kk at_ k : Nat) (i : Int) (out : List Int),at_+n=N→kk < 13→0≤i→i < V n kk→out.length+n≤50→3000+40 * n+1≤k →
  ∃ y,Unr V n kk i y∧r06_Vector.l0 k (N : Int) (kk : Int) i out (at_ : Int)=some (out ++ y)
 | 0,kk,at_,k,i,out,h,hkk,h0,h1,ho,hk=>by
  obtain ⟨q,rfl⟩ : ∃ q,k=q+1:=⟨k - 1,by omega⟩
  refine ⟨[],Unr.none C hkk h0 h1, ?_⟩
  rw [r06_Vector.l0,if_neg (by omega),List.append_nil]
 | n+1,kk,at_,k,i,out,h,hkk,h0,h1,ho,hk=>by
  obtain ⟨q,rfl⟩ : ∃ q,k=(q+2 * kk+1)+1:=⟨k - 2 * kk - 2,by omega⟩
  obtain ⟨p,k',g1,g2,g3,g4,g5⟩:=refVec_l1 C (n:=n) (by omega) hkk h1 (out:=out) (by omega) (N : Int) (at_ : Int) (2 * kk) 0 q (by omega) h0 (by omega)
  have hs:=P_succ V n kk p
  obtain ⟨y,hy,hy2⟩:=refVec_l0 C hN n (kk - psz p) (at_+1) k' (i - P V n kk p) (out ++ [pval p]) (by omega) (by omega) (by omega) (by omega) (by rw [List.length_append,List.length_singleton];omega) (by omega)
  refine ⟨pval p :: y,⟨p,y,rfl,g2,g3,g4,hy⟩, ?_⟩
  rw [show P V n kk 0=0 from rfl,Int.sub_zero,wsub g2 (by omega),wsucc (by omega),hy2,List.append_assoc,List.singleton_append] at g5
  rw [r06_Vector.l0,if_pos (by omega),wrow h (by omega),C.rows (by omega) (by omega),Option.bind_some,order_f hkk (by omega),Option.bind_some]
  exact g5
theorem refVector_ok (C : Cnt V) {n k : Nat} {i : Int} (hn' : n≤16) (hk : k < 13) (h0 : 0≤i) (h1 : i < V n k) {q : Nat} (hq : 4000≤q) : ∃ y,Unr V n k i y∧r06_Vector.f q (n : Int) (k : Int) i=some y:=by
 obtain ⟨y,hy,hy2⟩:=refVec_l0 C hn' n k 0 q i [] (by omega) hk h0 h1 (by simp;omega) (by omega)
 exact ⟨y,hy,hy2⟩
theorem refCount_ok (C : Cnt V) {n k : Nat} (hn' : n≤16) (hk : k < 13) {q : Nat} (hq : 3000≤q) : r06_Count.f q (n : Int) (k : Int)=some (V n k):=by
 unfold r06_Count.f
 rw [C.rows (by omega) hq,Option.bind_some,if_pos (by omega),if_pos (by rw [rowL_len];omega),rd_row hk]
theorem bits_ex : ∀ (j : Nat) (v : Int),0≤v→v < 2 ^ j→(j≤60∧v < 1152921504606846976)→∃ b : Int,0≤b∧b≤j∧(∀ (k : Nat) (c : Int),0≤c→c+j≤1000→comb_width.l0 (k+j+1) v c=some (c+b))∧∀ k : Nat,r03_Log2.f (k+j+1) v=some (b - 1)
 | 0,v,h0,h1,_=>by
  obtain rfl : v=0:=by
   rw [Int.pow_zero] at h1
   omega
  refine ⟨0,by omega,by omega,fun k c _ _ => ?_,fun k => ?_⟩
  ·
   rw [comb_width.l0,if_neg (by omega),Int.add_zero]
  ·
   rw [r03_Log2.f,if_pos rfl]
   rfl
 | j+1,v,h0,h1,hj=>by
  by_cases hv : v=0
  ·
   subst hv
   refine ⟨0,by omega,by omega,fun k c _ _ => ?_,fun k => ?_⟩
   ·
    rw [comb_width.l0,if_neg (by omega),Int.add_zero]
   ·
    rw [r03_Log2.f,if_pos rfl]
    rfl
  ·
   have h2 : (2 : Int) ^ (j+1)=2 * 2 ^ j:=by rw [Int.pow_succ,Int.mul_comm]
   obtain ⟨b,b0,b1,b2,b3⟩:=bits_ex j (v / 2) (by omega) (by omega) ⟨by omega,by omega⟩
   refine ⟨b+1,by omega,by omega,fun k c c0 c1 => ?_,fun k => ?_⟩
   ·
    rw [show k+(j+1)+1=(k+j+1)+1 by omega,comb_width.l0,if_pos (by omega),w64 (by omega) (by omega),b2 k (c+1) (by omega) (by omega)]
    congr 1
    omega
   ·
    rw [show k+(j+1)+1=(k+j+1)+1 by omega,r03_Log2.f,if_neg hv,Int.tdiv_eq_ediv_of_nonneg h0,u64 (by omega) (by omega),b3 k,Option.bind_some,w64 (by omega) (by omega)]
    congr 1
    omega
theorem same_l0 {l : List Int} (hl : l.length≤1000) : ∀ (d i k : Nat),i+d=l.length→r06_Same.l0 (k+d+1) l l (i : Int)=some true:=by
 intro d
 induction d with
 | zero =>
  intro i k h
  rw [r06_Same.l0,if_neg (by omega)]
 | succ d ih =>
  intro i k h
  rw [show k+(d+1)+1=(k+d+1)+1 by omega,r06_Same.l0,if_pos (by omega),if_pos (by omega),if_pos (by omega),if_pos rfl,w64 (by omega) (by omega),show (i : Int)+1=((i+1 : Nat) : Int) by omega]
  exact ih (i+1) k (by omega)
theorem same_f {l : List Int} (hl : l.length≤1000) {k : Nat} (hk : l.length < k) : r06_Same.f k l l=some true:=by
 unfold r06_Same.f
 rw [if_pos rfl]
 obtain ⟨j,rfl⟩ : ∃ j,k=j+l.length+1:=⟨k - l.length - 1,by omega⟩
 exact same_l0 hl l.length 0 j (by omega)
end Go.Proofs.Ytnmbndkojpjkmaa.Com
/- What a number of a pulse vector costs, by the program and by the document: the same. -/
namespace Go.Proofs.Ytnmbndkojpjkmaa.Com
open Go Go.RowKit Go.Proofs.YtnmbndkojpjkmaaW.PrintWords Go.Proofs.Ytnmbndkojpjkmaa.Prt
set_option linter.unusedVariables false
set_option linter.unusedSimpArgs false
variable {V : Nat→Nat→Int}
theorem fair_ok {n k : Nat} (hn : 1≤n) (hn' : n≤16) (hk : k < 13) : comb_fair.f (n : Int) (k : Int)=some true:=by
 unfold comb_fair.f
 rw [if_pos (by omega),if_pos (by omega),if_pos (by omega),decide_eq_true (by omega)]
theorem vector_ok (C : Cnt V) {n k : Nat} {i : Int} (hn : 1≤n) (hn' : n≤16) (hk : k < 13) (h0 : 0≤i) (h1 : i < V n k) : ∃ y,Unr V n k i y∧∀ q,400≤q→comb_Vector.f q (n : Int) (k : Int) i=some (y,0):=by
 obtain ⟨y,hy,hy2⟩:=vec_l0 C n k 400 i [] hn' hk h0 h1 (by simp;omega) (by omega)
 refine ⟨y,hy,fun q hq => ?_⟩
 obtain ⟨y',hy',hy2'⟩:=vec_l0 C n k q i [] hn' hk h0 h1 (by simp;omega) (by omega)
 obtain rfl:=Unr.fn C (by omega) hk hy hy'
 unfold comb_Vector.f
 rw [fair_ok hn hn' hk,Option.bind_some,if_pos rfl,C.table (by omega) hk,Option.bind_some,if_neg (by omega),hy2',List.nil_append]
theorem count_ok (C : Cnt V) {n k : Nat} (hn : 1≤n) (hn' : n≤16) (hk : k < 13) : comb_Count.f (n : Int) (k : Int)=some (V n k,0):=by
 unfold comb_Count.f
 rw [fair_ok hn hn' hk,Option.bind_some,if_pos rfl,C.table (by omega) hk,Option.bind_some]
theorem cost_ok (C : Cnt V) {n k : Nat} (hn : 1≤n) (hn' : n≤16) (hk : k < 13) {q : Nat} (hq : 3000≤q) : ∃ c,0≤c∧c≤60∧(k=0→c=0)∧comb_Cost.f q (n : Int) (k : Int)=some (c,0)∧r06_Cost.f q (n : Int) (k : Int)=some c:=by
 have hV:=VV C (show n < 17 by omega) hk
 have hp:=C.pos (show n < 17 by omega) hk (by omega)
 unfold comb_Cost.f r06_Cost.f
 rw [count_ok C hn hn' hk,refCount_ok C hn' hk hq,Option.bind_some,Option.bind_some]
 dsimp only
 rw [if_pos rfl,u64 (x:=V n k - 1) (by omega) (by omega)]
 have h40 : (2 : Int) ^ 40=1099511627776:=by decide
 obtain ⟨r,rfl⟩ : ∃ r,q=r+40+1:=⟨q - 41,by omega⟩
 by_cases hc : V n k - 1 < 65536
 ·
  obtain ⟨b,b0,b1,b2,b3⟩:=bits_ex 40 (V n k - 1) (by omega) (by omega) ⟨by omega,by omega⟩
  have b2' := b2 r 0 (by omega) (by omega)
  rw [Int.zero_add] at b2'
  refine ⟨b,b0,by omega,fun hk0 => ?_, ?_, ?_⟩
  ·
   subst hk0
   have hz:=C.zero (show n < 17 by omega)
   rw [hz] at b2'
   have h0 : comb_width.l0 (r+40+1) (1 - 1) 0=some 0:=by rw [comb_width.l0,if_neg (by decide)]
   rw [h0] at b2'
   exact (Option.some.inj b2').symm
  ·
   rw [if_pos hc]
   unfold comb_width.f
   rw [b2',Option.bind_some]
  ·
   rw [if_pos hc,b3 r,Option.bind_some,w64 (by omega) (by omega)]
   congr 1
   omega
 ·
  obtain ⟨b,b0,b1,b2,b3⟩:=bits_ex 40 ((V n k - 1) / 65536) (by omega) (by omega) ⟨by omega,by omega⟩
  have b2' := b2 r 0 (by omega) (by omega)
  rw [Int.zero_add] at b2'
  refine ⟨b+16,by omega,by omega,fun hk0 => ?_, ?_, ?_⟩
  ·
   subst hk0
   have hz:=C.zero (show n < 17 by omega)
   omega
  ·
   rw [if_neg hc]
   unfold comb_width.f
   rw [b2',Option.bind_some,w64 (by omega) (by omega)]
  ·
   rw [if_neg hc,Int.tdiv_eq_ediv_of_nonneg (by omega),u64 (by omega) (by omega),b3 r,Option.bind_some,w64 (by omega) (by omega)]
   congr 1
   omega
structure Cst (K : Nat→Nat→Int) : Prop where
 cost : ∀ {n k : Nat},1≤n→n≤16→k < 13→0≤K n k∧K n k≤60∧(k=0→K n k=0)∧∀ q,3000≤q→comb_Cost.f q (n : Int) (k : Int)=some (K n k,0)∧r06_Cost.f q (n : Int) (k : Int)=some (K n k)
theorem exCst : ∃ K,Cst K:=by
 obtain ⟨V,C⟩:=exCnt
 refine ⟨fun n k=>((comb_Cost.f 3000 (n : Int) (k : Int)).getD (0,0)).1,⟨fun {n k} hn hn' hk => ?_⟩⟩
 obtain ⟨c,c0,c1,c2,h1,h2⟩:=cost_ok C hn hn' hk (Nat.le_refl 3000)
 have e : ((comb_Cost.f 3000 (n : Int) (k : Int)).getD (0,0)).1=c:=by rw [h1];rfl
 simp only [e]
 exact ⟨c0,c1,c2,fun q hq=>⟨at_rounds (comb_Cost.mono _ _) hq h1,at_rounds (r06_Cost.mono _ _) hq h2⟩⟩
end Go.Proofs.Ytnmbndkojpjkmaa.Com
/- Pulses of one channel: what a band costs and is worth, by the program and by the document. -/
namespace Go.Proofs.Ytnmbndkojpjkmaa.Alo
open Go Go.RowKit Go.Proofs.YtnmbndkojpjkmaaW.PrintWords Go.Proofs.Ytnmbndkojpjkmaa.Prt
set_option linter.unusedVariables false
set_option linter.unusedSimpArgs false
variable {K : Nat→Nat→Int}
def W (b : Nat) : Nat := [1,1,2,4,8].getD b 0
theorem W_in {b : Nat} (h : b < 5) : 1≤W b∧W b≤8:=(by decide : ∀ b : Fin 5,1≤W b.1∧W b.1≤8) ⟨b,h⟩
def mst (b : Nat) : Int:=if W b=1 then 1 else 12
theorem width_p {b : Nat} (h : b < 5) : band_Width.f (b : Int)=some (W b : Int):=(by decide +kernel : ∀ b : Fin 5,band_Width.f (b.1 : Int)=some (W b.1 : Int)) ⟨b,h⟩
theorem most_p {b : Nat} (h : b < 5) : alloc_most.f (b : Int)=some (mst b):=(by decide +kernel : ∀ b : Fin 5,alloc_most.f (b.1 : Int)=some (mst b.1)) ⟨b,h⟩
theorem width_1 : ∀ b : Fin 5,r10_Width.f 1 (b.1 : Int)=some (W b.1 : Int):=by decide +kernel
theorem width_r {b : Nat} (h : b < 5) {q : Nat} (hq : 1≤q) : r10_Width.f q (b : Int)=some (W b : Int):=at_rounds (r10_Width.mono _) hq (width_1 ⟨b,h⟩)
def Gr (g : List Int) : Prop:=g.length=5∧∀ b : Nat,b < 5→0≤rd g (b : Int)∧rd g (b : Int)≤44
def Ks (l : List Int) : Prop:=l.length=5∧∀ b : Nat,b < 5→0≤rd l (b : Int)∧rd l (b : Int)≤mst b
theorem mst_in (b : Nat) : 1≤mst b∧mst b≤12:=by unfold mst;by_cases h : W b=1 <;> simp [h]
def Kb (K : Nat→Nat→Int) (b : Nat) (v : Int) : Int:=K (W b) v.toNat
theorem Kb_in (C : Com.Cst K) {b : Nat} (h : b < 5) {v : Int} (v0 : 0≤v) (v1 : v≤12) : 0≤Kb K b v∧Kb K b v≤60:=by
 have hw:=W_in h
 have:=C.cost (n:=W b) (k:=v.toNat) (by omega) (by omega) (by omega)
 exact ⟨this.1,this.2.1⟩
theorem Kb_c (C : Com.Cst K) {b : Nat} (h : b < 5) {v : Int} (v0 : 0≤v) (v1 : v≤12) {q : Nat} (hq : 3000≤q) : comb_Cost.f q (W b : Int) v=some (Kb K b v,0)∧r06_Cost.f q (W b : Int) v=some (Kb K b v):=by
 have hw:=W_in h
 have:=(C.cost (n:=W b) (k:=v.toNat) (by omega) (by omega) (by omega)).2.2.2 q hq
 rw [Int.toNat_of_nonneg v0] at this
 exact this
theorem Kb_0 (C : Com.Cst K) {b : Nat} (h : b < 5) : Kb K b 0=0:=by
 have hw:=W_in h
 exact (C.cost (n:=W b) (k:=0) (by omega) (by omega) (by omega)).2.2.1 rfl
def Sp (K : Nat→Nat→Int) (l : List Int) : Int:=Kb K 0 (rd l 0)+Kb K 1 (rd l 1)+Kb K 2 (rd l 2)+Kb K 3 (rd l 3)+Kb K 4 (rd l 4)
theorem Ks_rd {l : List Int} (h : Ks l) {b : Nat} (hb : b < 5) : 0≤rd l (b : Int)∧rd l (b : Int)≤12:=by
 have:=h.2 b hb
 have:=mst_in b
 omega
theorem Sp_in (C : Com.Cst K) {l : List Int} (h : Ks l) : 0≤Sp K l∧Sp K l≤300:=by
 have f:=fun (b : Nat) (hb : b < 5)=>Kb_in C hb (Ks_rd h hb).1 (Ks_rd h hb).2
 have f0 : 0≤Kb K 0 (rd l 0)∧Kb K 0 (rd l 0)≤60:=f 0 (by decide)
 have f1 : 0≤Kb K 1 (rd l 1)∧Kb K 1 (rd l 1)≤60:=f 1 (by decide)
 have f2 : 0≤Kb K 2 (rd l 2)∧Kb K 2 (rd l 2)≤60:=f 2 (by decide)
 have f3 : 0≤Kb K 3 (rd l 3)∧Kb K 3 (rd l 3)≤60:=f 3 (by decide)
 have f4 : 0≤Kb K 4 (rd l 4)∧Kb K 4 (rd l 4)≤60:=f 4 (by decide)
 unfold Sp
 omega
theorem sp_step (C : Com.Cst K) {l : List Int} (h : Ks l) {b : Nat} (hb : b < 5) {q : Nat} (hq : 3000≤q) {x : Int} (x0 : 0≤x) (x1 : x≤1000) : r12_Spent.l0 (q+1) l x (b : Int)=r12_Spent.l0 q l (x+Kb K b (rd l (b : Int))) ((b+1 : Nat) : Int):=by
 have hl:=h.1
 have hr:=Ks_rd h hb
 have hk:=Kb_in C hb hr.1 hr.2
 rw [r12_Spent.l0,if_pos (by omega),width_r hb (by omega),Option.bind_some,if_pos (by omega),if_pos (by omega),(Kb_c C hb hr.1 hr.2 hq).2,Option.bind_some,w64 (by omega) (by omega),w64 (by omega) (by omega)]
 rfl
theorem spent_f (C : Com.Cst K) {l : List Int} (h : Ks l) {q : Nat} (hq : 3010≤q) : r12_Spent.f q l=some (Sp K l):=by
 obtain ⟨r,rfl⟩ : ∃ r,q=r+1+1+1+1+1+1:=⟨q - 6,by omega⟩
 have f:=fun (b : Nat) (hb : b < 5)=>Kb_in C hb (Ks_rd h hb).1 (Ks_rd h hb).2
 have f0:=f 0 (by decide)
 have f1:=f 1 (by decide)
 have f2:=f 2 (by decide)
 have f3:=f 3 (by decide)
 unfold r12_Spent.f
 rw [show (r12_Spent.l0 (r+1+1+1+1+1+1) l 0 0)=r12_Spent.l0 (r+1+1+1+1+1+1) l 0 ((0 : Nat) : Int) from rfl,sp_step C h (b:=0) (by omega) (by omega) (by omega) (by omega),sp_step C h (b:=1) (by omega) (by omega) (by omega) (by omega),sp_step C h (b:=2) (by omega) (by omega) (by omega) (by omega),sp_step C h (b:=3) (by omega) (by omega) (by omega) (by omega),sp_step C h (b:=4) (by omega) (by omega) (by omega) (by omega),r12_Spent.l0,if_neg (by omega),Int.zero_add]
 rfl
def more (l : List Int) (b : Nat) : List Int:=l.set b (rd l (b : Int)+1)
theorem rd_more {l : List Int} (hl : l.length=5) {b c : Nat} (hb : b < 5) (hc : c < 5) : rd (more l b) (c : Int)=if c=b then rd l (b : Int)+1 else rd l (c : Int):=by
 unfold more Go.Proofs.YtnmbndkojpjkmaaW.PrintWords.rd
 simp only [Int.toNat_natCast,List.getD_eq_getElem?_getD,List.getElem?_set]
 by_cases h : b=c
 ·
  subst h
  simp [hl,hb]
 ·
  rw [if_neg h,if_neg (Ne.symm h)]
theorem Sp_more {l : List Int} (hl : l.length=5) {b : Nat} (hb : b < 5) : Sp K (more l b)=Sp K l+(Kb K b (rd l (b : Int)+1) - Kb K b (rd l (b : Int))):=by
 have f:=fun (c : Nat) (hc : c < 5)=>rd_more hl hb hc
 have f0:=f 0 (by decide)
 have f1:=f 1 (by decide)
 have f2:=f 2 (by decide)
 have f3:=f 3 (by decide)
 have f4:=f 4 (by decide)
 have hb' : b=0∨b=1∨b=2∨b=3∨b=4:=by omega
 unfold Sp
 change rd (more l b) 0=_ at f0
 change rd (more l b) 1=_ at f1
 change rd (more l b) 2=_ at f2
 change rd (more l b) 3=_ at f3
 change rd (more l b) 4=_ at f4
 rw [f0,f1,f2,f3,f4]
 rcases hb' with rfl|rfl|rfl|rfl|rfl
 ·
  change Kb K 0 (rd l 0+1)+_+_+_+_=_+(Kb K 0 (rd l 0+1) - Kb K 0 (rd l 0));simp only [show (1 : Nat)≠0 by decide,show (2 : Nat)≠0 by decide,show (3 : Nat)≠0 by decide,show (4 : Nat)≠0 by decide,if_false];change Kb K 0 (rd l 0+1)+Kb K 1 (rd l 1)+Kb K 2 (rd l 2)+Kb K 3 (rd l 3)+Kb K 4 (rd l 4)=_;omega
 ·
  change Kb K 0 (rd l 0)+Kb K 1 (rd l 1+1)+Kb K 2 (rd l 2)+Kb K 3 (rd l 3)+Kb K 4 (rd l 4)=_+(Kb K 1 (rd l 1+1) - Kb K 1 (rd l 1));omega
 ·
  change Kb K 0 (rd l 0)+Kb K 1 (rd l 1)+Kb K 2 (rd l 2+1)+Kb K 3 (rd l 3)+Kb K 4 (rd l 4)=_+(Kb K 2 (rd l 2+1) - Kb K 2 (rd l 2));omega
 ·
  change Kb K 0 (rd l 0)+Kb K 1 (rd l 1)+Kb K 2 (rd l 2)+Kb K 3 (rd l 3+1)+Kb K 4 (rd l 4)=_+(Kb K 3 (rd l 3+1) - Kb K 3 (rd l 3));omega
 ·
  change Kb K 0 (rd l 0)+Kb K 1 (rd l 1)+Kb K 2 (rd l 2)+Kb K 3 (rd l 3)+Kb K 4 (rd l 4+1)=_+(Kb K 4 (rd l 4+1) - Kb K 4 (rd l 4));omega
theorem Ks_more {l : List Int} (h : Ks l) {b : Nat} (hb : b < 5) (hm : rd l (b : Int) < mst b) : Ks (more l b):=by
 refine ⟨by unfold more;rw [List.length_set];exact h.1,fun c hc => ?_⟩
 rw [rd_more h.1 hb hc]
 by_cases e : c=b
 ·
  subst e
  rw [if_pos rfl]
  have:=h.2 c hc
  omega
 ·
  rw [if_neg e]
  exact h.2 c hc
theorem more_f {l : List Int} (h : Ks l) {b : Nat} (hb : b < 5) : r12_More.f l (b : Int)=some (more l b):=by
 have hr:=Ks_rd h hb
 have hl:=h.1
 unfold r12_More.f
 rw [Option.bind_some,if_pos (by rw [hl];decide),Option.bind_some,List.nil_append,if_pos (by omega),if_pos (by omega),w64 (by omega) (by omega),Int.toNat_natCast]
 rfl
def may (K : Nat→Nat→Int) (g l : List Int) (R : Int) (b : Nat) : Bool:=decide (1≤rd g (b : Int)∧rd l (b : Int) < mst b∧Sp K (more l b)≤R)
theorem may_f (C : Com.Cst K) {g l : List Int} {R : Int} (hg : Gr g) (h : Ks l) {b : Nat} (hb : b < 5) {q : Nat} (hq : 3020≤q) : r12_May.f q g l (b : Int) R=some (may K g l R b):=by
 have hgl:=hg.1
 have hl:=h.1
 have hr:=Ks_rd h hb
 have hm:=h.2 b hb
 obtain ⟨q,rfl⟩ : ∃ r,q=r+1:=⟨q - 1,by omega⟩
 unfold r12_May.f may
 rw [if_pos (by omega),if_pos (by omega)]
 simp only [r12_May.j0]
 by_cases h1 : rd g (b : Int) < 1
 ·
  rw [if_pos h1,decide_eq_false (by omega),if_pos (by simp)]
 ·
  rw [if_neg h1,if_pos (by omega)]
  by_cases h2 : rd l (b : Int) ≥ 12
  ·
   have:=mst_in b
   rw [if_pos h2,decide_eq_false (by omega),if_pos (by simp)]
  ·
   rw [if_neg h2,width_r hb (by omega),Option.bind_some]
   have key : rd l (b : Int) < mst b→(r12_More.f l (b : Int)).bind (fun t239=>(r12_Spent.f q t239).bind fun t242=>some (decide (t242≤R)))=some (decide (1≤rd g (b : Int)∧rd l (b : Int) < mst b∧Sp K (more l b)≤R)):=by
    intro hx
    rw [more_f h hb,Option.bind_some,spent_f C (Ks_more h hb hx) (by omega),Option.bind_some]
    congr 1
    rw [decide_eq_decide]
    exact ⟨fun hz=>⟨by omega,hx,hz⟩,fun hz=>hz.2.2⟩
   by_cases hw : W b=1
   ·
    have hw' : mst b=1:=by unfold mst;rw [if_pos hw]
    rw [if_pos (by omega)]
    by_cases h3 : rd l (b : Int) > 0
    ·
     rw [decide_eq_true h3,if_pos (by simp),decide_eq_false (by omega)]
    ·
     rw [decide_eq_false h3,if_neg (by simp)]
     exact key (by omega)
   ·
    have hw' : mst b=12:=by unfold mst;rw [if_neg hw]
    rw [if_neg (by omega),if_neg (by simp)]
    exact key (by omega)
theorem cost_f (C : Com.Cst K) {g l : List Int} {R : Int} (hg : Gr g) (h : Ks l) {b : Nat} (hb : b < 5) {q : Nat} (hq : 3020≤q) : ∃ c,alloc_cost.f q g (b : Int) l (R - Sp K l)=some (c,may K g l R b)∧(may K g l R b=true→c=Sp K (more l b) - Sp K l):=by
 have hgl:=hg.1
 have hl:=h.1
 have hr:=Ks_rd h hb
 have hm:=h.2 b hb
 have hgb:=hg.2 b hb
 have hms:=mst_in b
 obtain ⟨q,rfl⟩ : ∃ r,q=r+1:=⟨q - 1,by omega⟩
 unfold alloc_cost.f may
 simp only [alloc_cost.j0]
 rw [if_pos (by omega),if_pos (by omega)]
 by_cases h1 : rd g (b : Int)=0
 ·
  rw [if_pos h1,decide_eq_false (by omega),if_pos (by simp)]
  exact ⟨0,rfl,fun hx=>absurd hx (by decide)⟩
 ·
  rw [if_neg h1,if_pos (by omega),most_p hb,Option.bind_some]
  by_cases h2 : rd l (b : Int) ≥ mst b
  ·
   rw [decide_eq_true h2,if_pos (by simp),decide_eq_false (by omega)]
   exact ⟨0,rfl,fun hx=>absurd hx (by decide)⟩
  ·
   have k0:=Kb_in C hb hr.1 hr.2
   have k1:=Kb_in C hb (v:=rd l (b : Int)+1) (by omega) (by omega)
   have hS:=Sp_more (K:=K) hl hb
   rw [decide_eq_false h2,if_neg (by simp),width_p hb,Option.bind_some,if_pos (by omega),if_pos (by omega),(Kb_c C hb hr.1 hr.2 (by omega)).1,Option.bind_some,Option.bind_some,w64 (x:=rd l (b : Int)+1) (by omega) (by omega),(Kb_c C hb (v:=rd l (b : Int)+1) (by omega) (by omega) (by omega)).1,Option.bind_some]
   dsimp only
   rw [w64 (x:=Kb K b (rd l (b : Int)+1) - Kb K b (rd l (b : Int))) (by omega) (by omega)]
   refine ⟨_, ?_,fun _=>(by omega : Kb K b (rd l (b : Int)+1) - Kb K b (rd l (b : Int))=Sp K (more l b) - Sp K l)⟩
   congr 2
   rw [decide_eq_decide]
   omega
def wth (g l : List Int) (b : Nat) : Int:=wrap64 ((wrap64 (8 * (rd g (b : Int)))) - (wrap64 (Int.tdiv (wrap64 (16 * (rd l (b : Int)))) (W b : Int))))
theorem worth_f {g l : List Int} (hg : g.length=5) (h : l.length=5) {b : Nat} (hb : b < 5) {x : Int} : alloc_worth.f g (b : Int) l x=some (wth g l b):=by
 have hw:=W_in hb
 unfold alloc_worth.f wth
 rw [if_pos (by omega),if_pos (by omega),if_pos (by omega),width_p hb,Option.bind_some,if_neg (by omega)]
def nxt (m : Nat→Bool) (w : Nat→Int) (b : Nat) (x : Option Nat) : Option Nat:=if m b=true then (match x with|none=>some b|some y=>if w b > w y then some b else some y) else x
def pick (m : Nat→Bool) (w : Nat→Int) : Nat→Nat→Option Nat→Option Nat
 | 0,_,x=>x
 | d+1,b,x=>pick m w d (b+1) (nxt m w b x)
def cd : Option Nat→Int
 | none => -1
 | some y=>(y : Int)
def Ok5 (m : Nat→Bool) (x : Option Nat) : Prop := ∀ y,x=some y→y < 5∧m y=true
theorem ok_next {m : Nat→Bool} {w : Nat→Int} {b : Nat} (hb : b < 5) {x : Option Nat} (hx : Ok5 m x) : Ok5 m (nxt m w b x):=by
 unfold nxt
 by_cases h : m b=true
 ·
  rw [if_pos h]
  cases x with
  | none =>
   intro y hy
   obtain rfl : b=y:=by simpa using hy
   exact ⟨hb,h⟩
  | some z =>
   dsimp only
   by_cases h2 : w b > w z
   ·
    rw [if_pos h2]
    intro y hy
    obtain rfl : b=y:=by simpa using hy
    exact ⟨hb,h⟩
   ·
    rw [if_neg h2]
    exact hx
 ·
  rw [if_neg h]
  exact hx
theorem pick_ok {m : Nat→Bool} {w : Nat→Int} : ∀ (d b : Nat) (x : Option Nat),b+d=5→Ok5 m x→Ok5 m (pick m w d b x)
 | 0,_,_,_,hx=>hx
 | d+1,b,x,h,hx=>pick_ok d (b+1) _ (by omega) (ok_next (b:=b) (by omega) hx)
theorem pick_some {m : Nat→Bool} {w : Nat→Int} : ∀ (d b : Nat) (x : Option Nat),x≠none→pick m w d b x≠none
 | 0,_,_,h=>h
 | d+1,b,x,h=>by
  rw [pick,nxt.eq_def]
  refine pick_some d (b+1) _ ?_
  by_cases hm : m b=true
  ·
   rw [if_pos hm]
   cases x with
   | none=>exact absurd rfl h
   | some z =>
    dsimp only
    by_cases h2 : w b > w z
    ·
     rw [if_pos h2];simp
    ·
     rw [if_neg h2];simp
  ·
   rw [if_neg hm];exact h
theorem pick_none {m : Nat→Bool} {w : Nat→Int} : ∀ (d b : Nat),pick m w d b none=none→∀ c,b≤c→c < b+d→m c=false
 | 0,b,h,c,c0,c1=>by omega
 | d+1,b,h,c,c0,c1=>by
  rw [pick,nxt.eq_def] at h
  by_cases hm : m b=true
  ·
   rw [if_pos hm] at h
   exact absurd h (pick_some d (b+1) _ (by simp))
  ·
   rw [if_neg hm] at h
   by_cases hc : c=b
   ·
    subst hc;simpa using hm
   ·
    exact pick_none d (b+1) h c (by omega) (by omega)
theorem give_loop (C : Com.Cst K) {g l : List Int} {R : Int} (hg : Gr g) (h : Ks l) {q : Nat} (hq : 3020≤q) : ∀ (d b : Nat) (x : Option Nat),b+d=5→Ok5 (may K g l R) x→alloc_give.l0 (q+d) g l (R - Sp K l) (cd x) (b : Int)=alloc_give.l0 q g l (R - Sp K l) (cd (pick (may K g l R) (wth g l) d b x)) 5
 | 0,b,x,hb,_=>by
  obtain rfl : b=5:=by omega
  rfl
 | d+1,b,x,hb,hx=>by
  obtain ⟨c,hc,_⟩:=cost_f C (R:=R) hg h (b:=b) (by omega) (q:=q+d) (by omega)
  rw [show q+(d+1)=(q+d)+1 by omega,alloc_give.l0,if_pos (by omega),hc,Option.bind_some]
  dsimp only
  have ih:=fun x' hx' => give_loop C (R:=R) hg h hq d (b+1) x' (by omega) hx'
  have hn:=ok_next (w:=wth g l) (b:=b) (by omega) hx
  rw [nxt.eq_def] at hn
  rw [pick,nxt.eq_def,w64 (x:=(b : Int)+1) (by omega) (by omega),show (b : Int)+1=((b+1 : Nat) : Int) by omega]
  by_cases hm : may K g l R b=true
  ·
   rw [if_pos hm] at hn ⊢
   rw [if_pos hm]
   cases x with
   | none =>
    rw [if_pos (by decide : cd none < 0)]
    exact ih _ hn
   | some y =>
    have hy:=(hx y rfl).1
    rw [if_neg (by simp only [cd];omega),worth_f hg.1 h.1 (by omega),Option.bind_some]
    simp only [cd] at ih ⊢
    rw [worth_f hg.1 h.1 hy,Option.bind_some]
    dsimp only at hn
    by_cases h2 : wth g l b > wth g l y
    ·
     rw [if_pos h2] at hn ⊢
     rw [if_pos h2]
     exact ih _ hn
    ·
     rw [if_neg h2] at hn ⊢
     rw [if_neg h2]
     exact ih _ hn
  ·
   rw [if_neg hm] at hn ⊢
   rw [if_neg hm]
   exact ih _ hn
theorem chan_loop (C : Com.Cst K) {g l : List Int} {R : Int} (hg : Gr g) (h : Ks l) {q : Nat} (hq : 3020≤q) : ∀ (d b : Nat) (x : Option Nat) (v : Int),b+d=5→Ok5 (may K g l R) x→(∀ y,x=some y→v=wth g l y)→∃ v',r12_Channel.l1 (q+d) g R l (cd x) v (b : Int)=r12_Channel.l1 q g R l (cd (pick (may K g l R) (wth g l) d b x)) v' 5
 | 0,b,x,v,hb,_,_=>by
  obtain rfl : b=5:=by omega
  exact ⟨v,rfl⟩
 | d+1,b,x,v,hb,hx,hv=>by
  have hgl:=hg.1
  have hl:=h.1
  have hw:=W_in (b:=b) (by omega)
  have ih:=fun x' v' hx' hv' => chan_loop C (R:=R) hg h hq d (b+1) x' v' (by omega) hx' hv'
  have hn:=ok_next (w:=wth g l) (b:=b) (by omega) hx
  rw [nxt.eq_def] at hn
  rw [show q+(d+1)=(q+d)+1 by omega,r12_Channel.l1,if_pos (by omega),if_pos (by omega),if_pos (by omega),if_pos (by omega),width_r (by omega) (by omega),Option.bind_some,if_neg (by omega),may_f C hg h (by omega) (by omega),Option.bind_some]
  rw [pick,nxt.eq_def,w64 (x:=(b : Int)+1) (by omega) (by omega),show (b : Int)+1=((b+1 : Nat) : Int) by omega]
  have hwb : (wrap64 ((wrap64 (8 * (rd g (b : Int)))) - (wrap64 (Int.tdiv (wrap64 (16 * (rd l (b : Int)))) (W b : Int)))))=wth g l b:=rfl
  rw [hwb]
  by_cases hm : may K g l R b=true
  ·
   rw [if_pos hm] at hn ⊢
   rw [if_pos hm]
   cases x with
   | none =>
    rw [if_pos (by decide : cd none < 0)]
    exact ih (some b) _ hn (fun y hy=>by cases (show b=y by simpa using hy);rfl)
   | some y =>
    have hy:=(hx y rfl).1
    rw [if_neg (by simp only [cd];omega),hv y rfl]
    dsimp only at hn
    by_cases h2 : wth g l b > wth g l y
    ·
     rw [if_pos h2] at hn ⊢
     simp only [if_pos h2]
     exact ih (some b) _ hn (fun y hy=>by cases (show b=y by simpa using hy);rfl)
    ·
     rw [if_neg h2] at hn ⊢
     simp only [if_neg h2]
     exact ih (some y) _ hn (fun z hz=>by cases (show y=z by simpa using hz);rfl)
  ·
   rw [if_neg hm] at hn ⊢
   rw [if_neg hm]
   exact ih x v hn hv
end Go.Proofs.Ytnmbndkojpjkmaa.Alo
/- Pulses of one channel: the program's and the document's are the same. -/
namespace Go.Proofs.Ytnmbndkojpjkmaa.Alo
open Go Go.RowKit Go.Proofs.YtnmbndkojpjkmaaW.PrintWords Go.Proofs.Ytnmbndkojpjkmaa.Prt
set_option linter.unusedVariables false
set_option linter.unusedSimpArgs false
variable {K : Nat→Nat→Int}
def best (K : Nat→Nat→Int) (g l : List Int) (R : Int) : Option Nat:=pick (may K g l R) (wth g l) 5 0 none
theorem cd_some (b : Nat) : cd (some b)=(b : Int):=rfl
theorem ok_none (m : Nat→Bool) : Ok5 m none:=fun y hy=>absurd hy (by simp)
theorem give_none (C : Com.Cst K) {g l : List Int} {R : Int} (hg : Gr g) (h : Ks l) (hb : best K g l R=none) {q : Nat} (hq : 3030≤q) : alloc_give.f q g l (R - Sp K l)=some (R - Sp K l,false,l):=by
 obtain ⟨r,rfl⟩ : ∃ r,q=(r+1)+5:=⟨q - 6,by omega⟩
 have e:=give_loop C (R:=R) hg h (q:=r+1) (by omega) 5 0 none rfl (ok_none _)
 unfold best at hb
 rw [hb] at e
 unfold alloc_give.f
 refine Eq.trans e ?_
 rw [alloc_give.l0,if_neg (by decide),if_pos (by decide)]
theorem give_some (C : Com.Cst K) {g l : List Int} {R : Int} (hg : Gr g) (h : Ks l) {b : Nat} (hR : R≤1000) (hb : best K g l R=some b) (hm : may K g l R b=true) (hb5 : b < 5) (h0 : Sp K l≤R) {q : Nat} (hq : 3030≤q) : alloc_give.f q g l (R - Sp K l)=some (R - Sp K (more l b),true,more l b):=by
 obtain ⟨r,rfl⟩ : ∃ r,q=(r+1)+5:=⟨q - 6,by omega⟩
 have hl:=h.1
 have hr:=Ks_rd h hb5
 have e:=give_loop C (R:=R) hg h (q:=r+1) (by omega) 5 0 none rfl (ok_none _)
 unfold best at hb
 rw [hb] at e
 obtain ⟨c,hc,hc'⟩:=cost_f C (R:=R) hg h hb5 (q:=r) (by omega)
 have hm' := hm
 unfold may at hm'
 rw [decide_eq_true_eq] at hm'
 have s1:=Sp_in C h
 have s2:=Sp_in C (Ks_more h hb5 hm'.2.1)
 unfold alloc_give.f
 refine Eq.trans e ?_
 rw [cd_some,alloc_give.l0,if_neg (by decide)]
 rw [if_neg (by omega),hc,Option.bind_some,if_pos (by omega),if_pos (by omega)]
 dsimp only
 rw [hc' hm,w64 (x:=R - Sp K l - (Sp K (more l b) - Sp K l)) (by omega) (by omega),w64 (x:=rd l (b : Int)+1) (by omega) (by omega),Int.toNat_natCast,show R - Sp K l - (Sp K (more l b) - Sp K l)=R - Sp K (more l b) by omega]
 rfl
theorem chan_none (C : Com.Cst K) {g l : List Int} {R : Int} (hg : Gr g) (h : Ks l) (hb : best K g l R=none) {q : Nat} (hq : 3030≤q) : r12_Channel.l0 q g R l=some l:=by
 obtain ⟨r,rfl⟩ : ∃ r,q=((r+1)+5)+1:=⟨q - 7,by omega⟩
 obtain ⟨v,e⟩:=chan_loop C (R:=R) hg h (q:=r+1) (by omega) 5 0 none 0 rfl (ok_none _) (fun y hy=>absurd hy (by simp))
 unfold best at hb
 rw [hb] at e
 rw [r12_Channel.l0]
 refine Eq.trans e ?_
 rw [r12_Channel.l1,if_neg (by decide),if_pos (by decide)]
theorem chan_some (C : Com.Cst K) {g l : List Int} {R : Int} (hg : Gr g) (h : Ks l) {b : Nat} (hb : best K g l R=some b) (hb5 : b < 5) {r : Nat} (hq : 3030≤r) : r12_Channel.l0 (r+7) g R l=r12_Channel.l0 r g R (more l b):=by
 obtain ⟨v,e⟩:=chan_loop C (R:=R) hg h (q:=r+1) (by omega) 5 0 none 0 rfl (ok_none _) (fun y hy=>absurd hy (by simp))
 unfold best at hb
 rw [hb] at e
 rw [show r+7=((r+1)+5)+1 by omega,r12_Channel.l0]
 refine Eq.trans e ?_
 rw [cd_some,r12_Channel.l1,if_neg (by decide),if_neg (by omega),more_f h hb5,Option.bind_some]
def tot (l : List Int) : Int:=rd l 0+rd l 1+rd l 2+rd l 3+rd l 4
theorem tot_in {l : List Int} (h : Ks l) : 0≤tot l∧tot l≤60:=by
 have f0 : 0≤rd l 0∧rd l 0≤12:=Ks_rd h (b:=0) (by decide)
 have f1 : 0≤rd l 1∧rd l 1≤12:=Ks_rd h (b:=1) (by decide)
 have f2 : 0≤rd l 2∧rd l 2≤12:=Ks_rd h (b:=2) (by decide)
 have f3 : 0≤rd l 3∧rd l 3≤12:=Ks_rd h (b:=3) (by decide)
 have f4 : 0≤rd l 4∧rd l 4≤12:=Ks_rd h (b:=4) (by decide)
 unfold tot
 omega
theorem tot_more {l : List Int} (hl : l.length=5) {b : Nat} (hb : b < 5) : tot (more l b)=tot l+1:=by
 have f0 : rd (more l b) 0=_:=rd_more hl hb (c:=0) (by decide)
 have f1 : rd (more l b) 1=_:=rd_more hl hb (c:=1) (by decide)
 have f2 : rd (more l b) 2=_:=rd_more hl hb (c:=2) (by decide)
 have f3 : rd (more l b) 3=_:=rd_more hl hb (c:=3) (by decide)
 have f4 : rd (more l b) 4=_:=rd_more hl hb (c:=4) (by decide)
 unfold tot
 rw [f0,f1,f2,f3,f4]
 have hb' : b=0∨b=1∨b=2∨b=3∨b=4:=by omega
 rcases hb' with rfl|rfl|rfl|rfl|rfl
 ·
  change rd l 0+1+rd l 1+rd l 2+rd l 3+rd l 4=_;omega
 ·
  change rd l 0+(rd l 1+1)+rd l 2+rd l 3+rd l 4=_;omega
 ·
  change rd l 0+rd l 1+(rd l 2+1)+rd l 3+rd l 4=_;omega
 ·
  change rd l 0+rd l 1+rd l 2+(rd l 3+1)+rd l 4=_;omega
 ·
  change rd l 0+rd l 1+rd l 2+rd l 3+(rd l 4+1)=_;omega
structure Chan (K : Nat→Nat→Int) (g : List Int) (R : Int) (l l' : List Int) : Prop where
 gr : Gr g
 ks : Ks l'
 fit : Sp K l'≤R
 full : ∀ b,b < 5→may K g l' R b=false
 still : ∀ b : Nat,b < 5→rd g (b : Int)=0→rd l' (b : Int)=rd l (b : Int)
 prog : ∀ (q t : Nat),4000≤q→60≤t+tot l→∀ x0 x1 x8 x22 x23 x24 r,x8.length < 5864062014805→alloc_Pulses.l0 q x0 x1 (x8 ++ [l']) x22 x23 (wrap64 (x24+1))=some r→alloc_Pulses.l1 (q+t+1) x0 x1 x8 g l x22 x23 x24 (R - Sp K l)=some r
 doc : ∀ (q t : Nat),4000≤q→60≤t+tot l→r12_Channel.l0 (q+7 * t) g R l=some l'
theorem chan (C : Com.Cst K) {g : List Int} {R : Int} (hg : Gr g) (hR : R≤1000) : ∀ (d : Nat) (l : List Int),Ks l→Sp K l≤R→60≤d+tot l→∃ l',Chan K g R l l'
 | d,l,h,hs,hd=>by
  cases hb : best K g l R with
  | none =>
   refine ⟨l,⟨hg,h,hs,fun b hb5=>pick_none 5 0 hb b (by omega) (by omega),fun _ _ _=>rfl, ?_, ?_⟩⟩
   ·
    intro q t hq ht x0 x1 x8 x22 x23 x24 r hx hr
    rw [alloc_Pulses.l1,give_none C hg h hb (by omega),Option.bind_some,if_neg (by simp),if_pos hx]
    exact at_rounds (fun k=>(alloc_Pulses.mono_l k).2.1 _ _ _ _ _ _) (Nat.le_add_right q t) hr
   ·
    intro q t hq ht
    exact chan_none C hg h hb (by omega)
  | some b =>
   obtain ⟨hb5,hm⟩:=pick_ok (w:=wth g l) 5 0 none rfl (ok_none (may K g l R)) b hb
   have hm' := hm
   unfold may at hm'
   rw [decide_eq_true_eq] at hm'
   have hk:=Ks_more h hb5 hm'.2.1
   have t1:=tot_more h.1 hb5
   have t2:=tot_in hk
   obtain ⟨d,rfl⟩ : ∃ r,d=r+1:=⟨d - 1,by omega⟩
   obtain ⟨l',c⟩:=chan C hg hR d (more l b) hk hm'.2.2 (by omega)
   refine ⟨l',⟨hg,c.ks,c.fit,c.full, ?_, ?_, ?_⟩⟩
   ·
    intro a ha h0
    rw [c.still a ha h0,rd_more h.1 hb5 ha,if_neg]
    rintro rfl
    omega
   ·
    intro q t hq ht x0 x1 x8 x22 x23 x24 r hx hr
    obtain ⟨t,rfl⟩ : ∃ r,t=r+1:=⟨t - 1,by omega⟩
    rw [show q+(t+1)+1=(q+t+1)+1 by omega,alloc_Pulses.l1,give_some C hg h hR hb hm hb5 hs (by omega),Option.bind_some,if_pos (by simp)]
    exact c.prog q t hq (by omega) x0 x1 x8 x22 x23 x24 r hx hr
   ·
    intro q t hq ht
    obtain ⟨t,rfl⟩ : ∃ r,t=r+1:=⟨t - 1,by omega⟩
    rw [show q+7 * (t+1)=(q+7 * t)+7 by omega,chan_some C hg h hb hb5 (by omega)]
    exact c.doc q t hq (by omega)
def Z5 : List Int := [0,0,0,0,0]
theorem Z5_rd {b : Nat} (h : b < 5) : rd Z5 (b : Int)=0:=(by decide : ∀ b : Fin 5,rd Z5 (b.1 : Int)=0) ⟨b,h⟩
theorem Z5_ks : Ks Z5:=⟨rfl,fun b hb=>by rw [Z5_rd hb];have:=mst_in b;omega⟩
theorem Z5_sp (C : Com.Cst K) : Sp K Z5=0:=by
 have f:=fun (b : Nat) (hb : b < 5)=>Kb_0 C hb
 have f0:=f 0 (by decide)
 have f1:=f 1 (by decide)
 have f2:=f 2 (by decide)
 have f3:=f 3 (by decide)
 have f4:=f 4 (by decide)
 change Kb K 0 0+Kb K 1 0+Kb K 2 0+Kb K 3 0+Kb K 4 0=0
 omega
def rt (l : List Int) : Bool:=((l.length : Int) == 5) && l.all (fun x=>decide (0≤x∧x≤44))
theorem rt_gr {l : List Int} (h : rt l=true) : Gr l:=by
 simp only [rt,Bool.and_eq_true,List.all_eq_true,decide_eq_true_eq,beq_iff_eq] at h
 have hl : l.length=5:=by omega
 refine ⟨hl,fun b hb => ?_⟩
 unfold Go.Proofs.YtnmbndkojpjkmaaW.PrintWords.rd
 rw [List.getD_eq_getElem?_getD,Int.toNat_natCast,List.getElem?_eq_getElem (by omega)]
 exact h.2 _ (List.getElem_mem _)
theorem drop_rd (l : List Int) (i : Nat) (h : i < l.length) : l.drop i=rd l (i : Int) :: l.drop (i+1):=by
 rw [List.drop_eq_getElem_cons h]
 unfold Go.Proofs.YtnmbndkojpjkmaaW.PrintWords.rd
 rw [List.getD_eq_getElem?_getD,Int.toNat_natCast,List.getElem?_eq_getElem h]
 rfl
theorem right_l0 (l : List Int) (hl : l.length≤9000) : ∀ (d i k : Nat),i+d=l.length→d < k→gain_Right.l0 k l l (l.length : Int) (i : Int)=some (((l.length : Int) == 5) && (l.drop i).all (fun x=>decide (0≤x∧x≤44)))
 | 0,i,k,hi,hk=>by
  obtain ⟨k,rfl⟩ : ∃ m,k=m+1:=⟨k - 1,by omega⟩
  simp only [gain_Right.l0]
  rw [if_neg (by omega),List.drop_eq_nil_of_le (by omega)]
  simp
 | d+1,i,k,hi,hk=>by
  obtain ⟨k,rfl⟩ : ∃ m,k=m+1:=⟨k - 1,by omega⟩
  simp only [gain_Right.l0]
  rw [if_pos (by omega),if_pos (by omega),if_pos (by omega),drop_rd l i (by omega),List.all_cons]
  by_cases h0 : rd l (i : Int) < 0
  ·
   rw [if_pos h0,show decide (0≤rd l (i : Int)∧rd l (i : Int)≤44)=false by simp;omega]
   simp
  ·
   rw [if_neg h0]
   by_cases h1 : rd l (i : Int) > 44
   ·
    rw [if_pos h1,show decide (0≤rd l (i : Int)∧rd l (i : Int)≤44)=false by simp;omega]
    simp
   ·
    rw [if_neg h1,w64 (by omega) (by omega),show decide (0≤rd l (i : Int)∧rd l (i : Int)≤44)=true by simp;omega,Bool.true_and]
    exact right_l0 l hl d (i+1) k (by omega) (by omega)
theorem right_ok (l : List Int) (hl : l.length≤9000) (k : Nat) (hk : l.length < k) : gain_Right.f k l=some (rt l):=right_l0 l hl l.length 0 k (by omega) hk
theorem refRight_l0 (l : List Int) (hl : l.length≤9000) : ∀ (d i k : Nat) (ok : Bool),i+d=l.length→d < k→r11_Right.l0 k l ok (i : Int)=some (ok && (l.drop i).all (fun x=>decide (0≤x∧x≤44)))
 | 0,i,k,ok,hi,hk=>by
  obtain ⟨k,rfl⟩ : ∃ m,k=m+1:=⟨k - 1,by omega⟩
  simp only [r11_Right.l0]
  rw [if_neg (by omega),List.drop_eq_nil_of_le (by omega)]
  simp
 | d+1,i,k,ok,hi,hk=>by
  obtain ⟨k,rfl⟩ : ∃ m,k=m+1:=⟨k - 1,by omega⟩
  have ih:=fun ok=>refRight_l0 l hl d (i+1) k ok (by omega) (by omega)
  simp only [r11_Right.l0]
  rw [if_pos (by omega),drop_rd l i (by omega),List.all_cons,w64 (x:=(i : Int)+1) (by omega) (by omega)]
  cases ok with
  | false=>rw [if_neg (by simp)];exact (ih false).trans (by simp)
  | true =>
   rw [if_pos rfl,if_pos (by omega)]
   by_cases h0 : rd l (i : Int) ≥ 0
   ·
    rw [if_pos h0]
    refine (ih _).trans ?_
    rw [show decide (0≤rd l (i : Int)∧rd l (i : Int)≤44)=decide (rd l (i : Int)≤44) from decide_eq_decide.2 ⟨fun h=>h.2,fun h=>⟨h0,h⟩⟩,Bool.true_and]
   ·
    rw [if_neg h0,show decide (0≤rd l (i : Int)∧rd l (i : Int)≤44)=false by simp;omega]
    exact (ih false).trans (by simp)
theorem refRight_ok (l : List Int) (hl : l.length≤9000) (k : Nat) (hk : l.length < k) : r11_Right.f k l=some (rt l):=by
 unfold r11_Right.f
 rw [show (0 : Int)=((0 : Nat) : Int) from rfl,refRight_l0 l hl l.length 0 k _ (by omega) hk]
 rfl
end Go.Proofs.Ytnmbndkojpjkmaa.Alo
/- Pulses of all channels: the program's and the document's are the same. -/
namespace Go.Proofs.Ytnmbndkojpjkmaa.Alo
open Go Go.RowKit Go.Proofs.YtnmbndkojpjkmaaW.PrintWords Go.Proofs.Ytnmbndkojpjkmaa.Prt
set_option linter.unusedVariables false
set_option linter.unusedSimpArgs false
variable {K : Nat→Nat→Int}
theorem rdl_mem {l : List (List Int)} {i : Nat} (h : i < l.length) : rd_L1 l (i : Int) ∈ l:=by
 unfold rd_L1
 rw [List.getD_eq_getElem?_getD,Int.toNat_natCast,List.getElem?_eq_getElem h]
 exact List.getElem_mem h
theorem rdl_s (x : List Int) (l : List (List Int)) (j : Nat) : rd_L1 (x :: l) ((j+1 : Nat) : Int)=rd_L1 l (j : Int):=by
 unfold rd_L1
 rw [Int.toNat_natCast,Int.toNat_natCast]
 rfl
theorem chans (C : Com.Cst K) {a b : Int} (hab : rightB a b=true) {l2 : List (List Int)} (h20 : l2.length≤20) (h100 : ∀ g ∈ l2,g.length≤100) : ∀ (d i : Nat) (x8 : List (List Int)),i+d=l2.length→x8.length≤i →
  (∃ out : List (List Int),out.length=d∧(∀ j,j < d→Chan K (rd_L1 l2 ((i+j : Nat) : Int)) (room a b) Z5 (rd_L1 out (j : Int)))∧(∀ q,5000+62 * d≤q→alloc_Pulses.l0 q a b x8 l2 (l2.length : Int) (i : Int)=some (x8 ++ out,0))∧(∀ q,5000+62 * d≤q→r12_Pulses.l0 q a b l2 x8 (i : Int)=some (x8 ++ out))∧(∀ q,5000+62 * d≤q→r12_Fair.l0 q l2 (i : Int)=some true))
  ∨ ((∀ q,5000+62 * d≤q→alloc_Pulses.l0 q a b x8 l2 (l2.length : Int) (i : Int)=some ([],1))∧(∀ q,5000+62 * d≤q→r12_Fair.l0 q l2 (i : Int)=some false))
 | 0,i,x8,hi,hx=>by
  refine Or.inl ⟨[],rfl,fun j hj=>absurd hj (by omega),fun q hq => ?_,fun q hq => ?_,fun q hq => ?_⟩
  ·
   obtain ⟨r,rfl⟩ : ∃ r,q=r+1:=⟨q - 1,by omega⟩
   rw [alloc_Pulses.l0,if_neg (by omega),List.append_nil]
  ·
   obtain ⟨r,rfl⟩ : ∃ r,q=r+1:=⟨q - 1,by omega⟩
   rw [r12_Pulses.l0,if_neg (by omega),List.append_nil]
  ·
   obtain ⟨r,rfl⟩ : ∃ r,q=r+1:=⟨q - 1,by omega⟩
   rw [r12_Fair.l0,if_neg (by omega)]
 | d+1,i,x8,hi,hx=>by
  have hlen : (rd_L1 l2 (i : Int)).length≤100:=h100 _ (rdl_mem (by omega))
  have hR:=room_in hab
  have hw : wrap64 ((i : Int)+1)=((i+1 : Nat) : Int):=by rw [w64 (by omega) (by omega)];omega
  by_cases hr : rt (rd_L1 l2 (i : Int))=true
  ·
   obtain ⟨l',c⟩:=chan C (rt_gr hr) (R:=room a b) (by omega) 60 Z5 Z5_ks (by rw [Z5_sp C];omega) (by decide)
   have h0 : (60 : Int)≤(60 : Nat)+tot Z5:=by decide
   have ih:=fun y=>chans C hab h20 h100 d (i+1) (x8 ++ [y]) (by omega) (by rw [List.length_append];simp;omega)
   have P1 : ∀ q r,5000+62 * d≤q→(∀ p,5000+62 * d≤p→alloc_Pulses.l0 p a b (x8 ++ [l']) l2 (l2.length : Int) ((i+1 : Nat) : Int)=some r)→alloc_Pulses.l0 (q+62) a b x8 l2 (l2.length : Int) (i : Int)=some r:=by
    intro q r hq hp
    rw [show q+62=(q+60+1)+1 by omega,alloc_Pulses.l0,if_pos (by omega),if_pos (by omega),if_pos (by omega),right_ok _ (by omega) _ (by omega),Option.bind_some,if_pos hr,(room_ok hab).1,Option.bind_some]
    have e:=c.prog q 60 (by omega) h0 a b x8 l2 (l2.length : Int) (i : Int) r (by omega) (by rw [hw];exact hp q hq)
    rw [Z5_sp C,Int.sub_zero] at e
    exact e
   have P3 : ∀ q r,5000+62 * d≤q→(∀ p,5000+62 * d≤p→r12_Fair.l0 p l2 ((i+1 : Nat) : Int)=some r)→r12_Fair.l0 (q+62) l2 (i : Int)=some r:=by
    intro q r hq hp
    rw [show q+62=(q+61)+1 by omega,r12_Fair.l0,if_pos (by omega),if_pos (by omega),refRight_ok _ (by omega) _ (by omega),Option.bind_some,if_pos hr,hw]
    exact hp _ (by omega)
   rcases ih l' with ⟨out,ho,hc,p1,p2,p3⟩ | ⟨p1,p3⟩
   ·
    refine Or.inl ⟨l' :: out,by rw [List.length_cons,ho], ?_,fun q hq => ?_,fun q hq => ?_,fun q hq => ?_⟩
    ·
     intro j hj
     cases j with
     | zero=>exact c
     | succ j =>
      rw [rdl_s,show i+(j+1)=i+1+j by omega]
      exact hc j (by omega)
    ·
     obtain ⟨r,rfl⟩ : ∃ r,q=r+62:=⟨q - 62,by omega⟩
     refine P1 r _ (by omega) (fun p hp => ?_)
     rw [p1 p hp,List.append_assoc]
     rfl
    ·
     obtain ⟨r,rfl⟩ : ∃ r,q=(r+420)+1:=⟨q - 421,by omega⟩
     have e : r12_Channel.f (r+420) (rd_L1 l2 (i : Int)) (room a b)=some l' := c.doc r 60 (by omega) h0
     rw [r12_Pulses.l0,if_pos (by omega),if_pos (by omega),(room_ok hab).2,Option.bind_some,e,Option.bind_some,if_pos (by omega),hw,p2 _ (by omega),List.append_assoc]
     rfl
    ·
     obtain ⟨r,rfl⟩ : ∃ r,q=r+62:=⟨q - 62,by omega⟩
     exact P3 r _ (by omega) p3
   ·
    refine Or.inr ⟨fun q hq => ?_,fun q hq => ?_⟩
    ·
     obtain ⟨r,rfl⟩ : ∃ r,q=r+62:=⟨q - 62,by omega⟩
     exact P1 r _ (by omega) p1
    ·
     obtain ⟨r,rfl⟩ : ∃ r,q=r+62:=⟨q - 62,by omega⟩
     exact P3 r _ (by omega) p3
  ·
   refine Or.inr ⟨fun q hq => ?_,fun q hq => ?_⟩
   ·
    obtain ⟨r,rfl⟩ : ∃ r,q=r+1:=⟨q - 1,by omega⟩
    rw [alloc_Pulses.l0,if_pos (by omega),if_pos (by omega),if_pos (by omega),right_ok _ (by omega) _ (by omega),Option.bind_some,if_neg hr]
   ·
    obtain ⟨r,rfl⟩ : ∃ r,q=r+1:=⟨q - 1,by omega⟩
    rw [r12_Fair.l0,if_pos (by omega),if_pos (by omega),refRight_ok _ (by omega) _ (by omega),Option.bind_some,if_neg hr]
theorem pulses (C : Com.Cst K) (a b : Int) {l2 : List (List Int)} (h20 : l2.length≤20) (h100 : ∀ g ∈ l2,g.length≤100) :
  (rightB a b=true∧(l2.length : Int)=b∧∃ out : List (List Int),out.length=l2.length∧(∀ j,j < l2.length→Chan K (rd_L1 l2 (j : Int)) (room a b) Z5 (rd_L1 out (j : Int)))∧(∀ q,7000≤q→alloc_Pulses.f q a b l2=some (out,0))∧(∀ q,7000≤q→r12_Pulses.f q a b l2=some out)∧(∀ q,7000≤q→r12_Fair.f q b l2=some true))
  ∨ ((∀ q,7000≤q→alloc_Pulses.f q a b l2=some ([],1))∧(rightB a b=false∨∀ q,7000≤q→r12_Fair.f q b l2=some false)):=by
 cases hab : rightB a b with
 | false =>
  refine Or.inr ⟨fun q hq => ?_,Or.inl rfl⟩
  obtain ⟨r,rfl⟩ : ∃ r,q=r+1:=⟨q - 1,by omega⟩
  unfold alloc_Pulses.f
  rw [(right_f a b).1,Option.bind_some,hab,if_neg (by simp),alloc_Pulses.j0,if_pos rfl]
 | true =>
  by_cases hl : (l2.length : Int)=b
  ·
   rcases chans C hab h20 h100 l2.length 0 [] (by omega) (Nat.le_refl 0) with ⟨out,ho,hc,p1,p2,p3⟩ | ⟨p1,p3⟩
   ·
    refine Or.inl ⟨rfl,hl,out,ho, ?_,fun q hq => ?_,fun q hq => ?_,fun q hq => ?_⟩
    ·
     intro j hj
     have:=hc j hj
     rw [Nat.zero_add] at this
     exact this
    ·
     obtain ⟨r,rfl⟩ : ∃ r,q=r+1:=⟨q - 1,by omega⟩
     unfold alloc_Pulses.f
     rw [(right_f a b).1,Option.bind_some,hab,if_pos rfl,alloc_Pulses.j0,if_neg (by simp [hl])]
     exact p1 r (by omega)
    ·
     exact p2 q (by omega)
    ·
     unfold r12_Fair.f
     rw [if_pos hl]
     exact p3 q (by omega)
   ·
    refine Or.inr ⟨fun q hq => ?_,Or.inr fun q hq => ?_⟩
    ·
     obtain ⟨r,rfl⟩ : ∃ r,q=r+1:=⟨q - 1,by omega⟩
     unfold alloc_Pulses.f
     rw [(right_f a b).1,Option.bind_some,hab,if_pos rfl,alloc_Pulses.j0,if_neg (by simp [hl])]
     exact p1 r (by omega)
    ·
     unfold r12_Fair.f
     rw [if_pos hl]
     exact p3 q (by omega)
  ·
   refine Or.inr ⟨fun q hq => ?_,Or.inr fun q hq => ?_⟩
   ·
    obtain ⟨r,rfl⟩ : ∃ r,q=r+1:=⟨q - 1,by omega⟩
    unfold alloc_Pulses.f
    rw [(right_f a b).1,Option.bind_some,hab,if_pos rfl,alloc_Pulses.j0,if_pos (by simp [hl])]
   ·
    unfold r12_Fair.f
    rw [if_neg hl]
theorem same12_l0 {l : List (List Int)} (h20 : l.length≤20) (h5 : ∀ j : Nat,j < l.length→(rd_L1 l (j : Int)).length=5) : ∀ (d i q : Nat),i+d=l.length→100+d≤q→r12_Same.l0 q l l (i : Int)=some true
 | 0,i,q,hi,hq=>by
  obtain ⟨r,rfl⟩ : ∃ r,q=r+1:=⟨q - 1,by omega⟩
  rw [r12_Same.l0,if_neg (by omega)]
 | d+1,i,q,hi,hq=>by
  have:=h5 i (by omega)
  obtain ⟨r,rfl⟩ : ∃ r,q=r+1:=⟨q - 1,by omega⟩
  rw [r12_Same.l0,if_pos (by omega),if_pos (by omega),if_pos (by omega),Com.same_f (by omega) (by omega),Option.bind_some,if_pos rfl,w64 (by omega) (by omega),show (i : Int)+1=((i+1 : Nat) : Int) by omega]
  exact same12_l0 h20 h5 d (i+1) r (by omega) (by omega)
end Go.Proofs.Ytnmbndkojpjkmaa.Alo
/- Which packs are right: the program's answer is the document's. -/
namespace Go.Proofs.Ytnmbndkojpjkmaa.Pak
open Go Go.RowKit Go.Proofs.YtnmbndkojpjkmaaW.PrintWords Go.Proofs.Ytnmbndkojpjkmaa.Prt Go.Proofs.Ytnmbndkojpjkmaa.Alo
set_option linter.unusedVariables false
set_option linter.unusedSimpArgs false
variable {V K : Nat→Nat→Int}
def okV (y : List Int) (n k : Int) : Bool:=decide ((y.length : Int)=n∧Com.szs y=k)
def okR (row : List (List Int)) (ks : List Int) : Nat→Nat→Bool
 | 0,_=>true
 | d+1,b=>okV (rd_L1 row (b : Int)) (W b : Int) (rd ks (b : Int)) && okR row ks d (b+1)
def okA (Y : List (List (List Int))) (out : List (List Int)) : Nat→Nat→Bool
 | 0,_=>true
 | d+1,i=>decide ((rd_L2 Y (i : Int)).length=5) && (okR (rd_L2 Y (i : Int)) (rd_L1 out (i : Int)) 5 0 && okA Y out d (i+1))
structure Sized (Y : List (List (List Int))) : Prop where
 n : Y.length≤10
 r : ∀ i : Nat,i < Y.length→(rd_L2 Y (i : Int)).length≤10∧∀ y ∈ rd_L2 Y (i : Int),y.length≤60
structure Good (K : Nat→Nat→Int) (a b : Int) (G : List (List Int)) (Y : List (List (List Int))) (out : List (List Int)) : Prop where
 ab : rightB a b=true
 g : (G.length : Int)=b
 y : (Y.length : Int)=b
 o : out.length=G.length
 c : ∀ j : Nat,j < G.length→Chan K (rd_L1 G (j : Int)) (room a b) Z5 (rd_L1 out (j : Int))
 p : ∀ q,7000≤q→alloc_Pulses.f q a b G=some (out,0)
 r : ∀ q,7000≤q→r12_Pulses.f q a b G=some out
 f : ∀ q,7000≤q→r12_Fair.f q b G=some true
 all : okA Y out Y.length 0=true
theorem wide_l0 {l : List (List Int)} (hl : l.length≤9223372036854775807) : ∀ (d i : Nat),i+d=l.length→∃ v,(∀ q,d < q→w13_wide.l0 q l (i : Int)=some v)∧(v=false→l.length≤10∧∀ j,i≤j→j < l.length→(rd_L1 l (j : Int)).length≤60)
 | 0,i,hi=>by
  refine ⟨decide ((l.length : Int) > 10),fun q hq => ?_,fun h=>⟨by simp at h;omega,fun j h1 h2=>by omega⟩⟩
  obtain ⟨r,rfl⟩ : ∃ r,q=r+1:=⟨q - 1,by omega⟩
  rw [w13_wide.l0,if_neg (by omega)]
 | d+1,i,hi=>by
  obtain ⟨v,h1,h2⟩:=wide_l0 hl d (i+1) (by omega)
  by_cases hg : ((rd_L1 l (i : Int)).length : Int) > 60
  ·
   refine ⟨true,fun q hq => ?_,fun h=>absurd h (by decide)⟩
   obtain ⟨r,rfl⟩ : ∃ r,q=r+1:=⟨q - 1,by omega⟩
   rw [w13_wide.l0,if_pos (by omega),if_pos (by omega),if_pos hg]
  ·
   refine ⟨v,fun q hq => ?_,fun h=>⟨(h2 h).1,fun j j1 j2 => ?_⟩⟩
   ·
    obtain ⟨r,rfl⟩ : ∃ r,q=r+1:=⟨q - 1,by omega⟩
    rw [w13_wide.l0,if_pos (by omega),if_pos (by omega),if_neg hg,w64 (by omega) (by omega),show (i : Int)+1=((i+1 : Nat) : Int) by omega]
    exact h1 r (by omega)
   ·
    by_cases e : j=i
    ·
     subst e;omega
    ·
     exact (h2 h).2 j (by omega) j2
theorem wide_f {l : List (List Int)} (hl : l.length≤9223372036854775807) : ∃ v,(∀ q,l.length < q→w13_wide.f q l=some v)∧(v=false→l.length≤10∧∀ g ∈ l,g.length≤60):=by
 obtain ⟨v,h1,h2⟩:=wide_l0 hl l.length 0 (by omega)
 refine ⟨v,fun q hq=>h1 q hq,fun h=>⟨(h2 h).1,fun g hg => ?_⟩⟩
 obtain ⟨j,hj,rfl⟩:=List.mem_iff_getElem.1 hg
 have:=(h2 h).2 j (by omega) hj
 unfold rd_L1 at this
 rw [List.getD_eq_getElem?_getD,Int.toNat_natCast,List.getElem?_eq_getElem hj] at this
 exact this
end Go.Proofs.Ytnmbndkojpjkmaa.Pak
/- The document's rows. -/
namespace Go.Proofs.Ytnmbndkojpjkmaa.Pak
open Go.RowKit Go.Proofs.YtnmbndkojpjkmaaW.PrintWords Go.Proofs.Ytnmbndkojpjkmaa.Prt
theorem knows_k : ∀ k,300≤k→w13_knows.f k=some true:=fun k hk=>at_rounds w13_knows.mono hk (by decide +kernel)
end Go.Proofs.Ytnmbndkojpjkmaa.Pak
/- Lists of bytes as numbers: plain arithmetic, no program in sight. -/
namespace Go.Proofs.Ytnmbndkojpjkmaa.Val
open Go.RowKit Go.Proofs.YtnmbndkojpjkmaaW.PrintWords

theorem u64w {x : Int} (h0 : 0≤x) (h1 : x≤18446744073709551615) : IntKind.u64.wrap x=x:=IntWalk.u64_in x ⟨h0,h1⟩
theorem i64w {x : Int} (h0 : -9223372036854775808≤x) (h1 : x≤9223372036854775807) : wrap64 x=x:=by unfold wrap64;omega
theorem tdiv_nn {a b : Int} (h : 0≤a) : Int.tdiv a b=a / b:=Int.tdiv_eq_ediv_of_nonneg h
theorem tmod_nn {a b : Int} (h : 0≤a) : Int.tmod a b=a % b:=Int.tmod_eq_emod_of_nonneg h
theorem u64_fit (n : Int) (h₀ : 0≤n) (h₁ : n < 2 ^ 64) : IntKind.u64.wrap n=n:=u64w h₀ (by omega)
theorem and32 {x : Int} (h₀ : 0≤x) (h₁ : x≤18446744073709551615) : Go.bits .and .u64 x 4294967295=x % 4294967296:=by
 have h:=bits_mask .u64 64 (by decide) u64_fit 32 (by decide) x h₀ (by omega)
 exact h
theorem or8 {x y : Int} (hx : 0≤x) (hx1 : x≤18446744073709551615) (hm : x % 256=0) (hy : 0≤y) (hy1 : y < 256) : Go.bits .or .u64 x y=x+y :=
 bits_join .u64 64 (by decide) u64_fit 8 x y hx (by simpa using hm) (by omega) hy (by omega) (by omega)
theorem or16 {x y : Int} (hx : 0≤x) (hx1 : x≤18446744073709551615) (hm : x % 65536=0) (hy : 0≤y) (hy1 : y < 65536) : Go.bits .or .u64 x y=x+y :=
 bits_join .u64 64 (by decide) u64_fit 16 x y hx (by simpa using hm) (by omega) hy (by omega) (by omega)
theorem or24 {x y : Int} (hx : 0≤x) (hx1 : x≤18446744073709551615) (hm : x % 16777216=0) (hy : 0≤y) (hy1 : y < 16777216) : Go.bits .or .u64 x y=x+y :=
 bits_join .u64 64 (by decide) u64_fit 24 x y hx (by simpa using hm) (by omega) hy (by omega) (by omega)

def Bytes (l : List Int) : Prop := ∀ x ∈ l,0≤x∧x < 256
theorem Bytes.nil : Bytes []:=fun _ h=>by cases h
theorem Bytes.left {l m : List Int} (h : Bytes (l ++ m)) : Bytes l:=fun x hx=>h x (List.mem_append_left _ hx)
theorem Bytes.right {l m : List Int} (h : Bytes (l ++ m)) : Bytes m:=fun x hx=>h x (List.mem_append_right _ hx)
theorem Bytes.one {x : Int} (h : 0≤x) (h' : x < 256) : Bytes [x]:=fun y hy=>by rw [List.mem_singleton.1 hy];exact ⟨h,h'⟩
theorem Bytes.rd {l : List Int} (h : Bytes l) (i : Int) : 0≤rd l i∧rd l i < 256:=by
 unfold Go.Proofs.YtnmbndkojpjkmaaW.PrintWords.rd
 rw [List.getD_eq_getElem?_getD]
 cases he : l[i.toNat]? with
 | none=>exact ⟨by decide,by decide⟩
 | some y=>exact h y (List.mem_of_getElem? he)
theorem Bytes.set {l : List Int} (h : Bytes l) (n : Nat) {x : Int} (h0 : 0≤x) (h1 : x < 256) : Bytes (l.set n x):=fun y hy=>by
 rcases List.mem_or_eq_of_mem_set hy with hy|rfl
 ·
  exact h y hy
 ·
  exact ⟨h0,h1⟩

def val (l : List Int) : Int:=l.foldl (fun a x=>a * 256+x) 0
def pw (n : Nat) : Int:=256 ^ n
theorem pw_zero : pw 0=1:=rfl
theorem pw_succ (n : Nat) : pw (n+1)=256 * pw n:=by unfold pw;rw [Int.pow_succ,Int.mul_comm]
def four (n : Int) : List Int := [n / 16777216 % 256,n / 65536 % 256,n / 256 % 256,n % 256]
theorem wf_u8 {x : Int} (h : (Lit.int .u8 x).wf=true) : 0≤x∧x < 256:=by simp [Lit.wf,IntKind.min,IntKind.max,IntKind.bits,IntKind.signed] at h;omega
end Go.Proofs.Ytnmbndkojpjkmaa.Val
/- What the coder's functions (and the document's) come to, on numbers and lists. -/
namespace Go.Proofs.Ytnmbndkojpjkmaa.Cod
open Go.RowKit Go.Proofs.YtnmbndkojpjkmaaW.PrintWords Go.Proofs.Ytnmbndkojpjkmaa.Prt Go.Proofs.Ytnmbndkojpjkmaa.Val
set_option linter.unusedVariables false

def Fair (lo hi tot : Int) : Prop:=0≤lo∧lo < hi∧hi≤tot∧tot≤65536
instance (lo hi tot : Int) : Decidable (Fair lo hi tot):=by unfold Fair;exact inferInstance
theorem fair_f (lo hi tot : Int) : coder_fair.f lo hi tot=some (decide (Fair lo hi tot)):=by
 unfold coder_fair.f Fair
 grind
def prt (rg lo hi tot : Int) : Int × Int:=(if hi=tot then rg - rg / tot * lo else rg / tot * (hi - lo),rg / tot * lo)
theorem div_facts {rg lo hi tot : Int} (h0 : 16777216≤rg) (h1 : rg≤4294967295) (hf : Fair lo hi tot) :
  256≤rg / tot∧rg / tot≤rg∧0≤rg / tot * lo∧rg / tot * lo+rg / tot * (hi - lo)=rg / tot * hi∧rg / tot * hi≤rg / tot * tot∧rg / tot * tot≤rg∧rg / tot≤rg / tot * (hi - lo):=by
 obtain ⟨f1,f2,f3,f4⟩:=hf
 have ht : 0 < tot:=by omega
 have e1 : 256≤rg / tot:=by
  rw [Int.le_ediv_iff_mul_le ht];omega
 have e2 : rg / tot * tot≤rg:=Int.ediv_mul_le _ (by omega)
 generalize rg / tot=r at *
 have e3 : r≤r * tot:=by
  have:=Int.mul_le_mul_of_nonneg_left (show (1 : Int)≤tot by omega) (show (0 : Int)≤r by omega)
  omega
 have e4 : r * hi≤r * tot:=Int.mul_le_mul_of_nonneg_left f3 (by omega)
 have e5 : 0≤r * lo:=Int.mul_nonneg (by omega) f1
 have e6 : r≤r * (hi - lo):=by
  have:=Int.mul_le_mul_of_nonneg_left (show (1 : Int)≤hi - lo by omega) (show (0 : Int)≤r by omega)
  omega
 exact ⟨e1,by omega,e5,by rw [Int.mul_sub];omega,e4,e2,e6⟩
theorem prt_facts {rg lo hi tot : Int} (h0 : 16777216≤rg) (h1 : rg≤4294967295) (hf : Fair lo hi tot) :
  256≤(prt rg lo hi tot).1∧0≤(prt rg lo hi tot).2∧(prt rg lo hi tot).1+(prt rg lo hi tot).2≤rg:=by
 obtain ⟨a,b,c,d,e,f,g⟩:=div_facts h0 h1 hf
 unfold prt
 dsimp only
 split <;> omega
theorem part_f {rg lo hi tot : Int} (h0 : 16777216≤rg) (h1 : rg≤4294967295) (hf : Fair lo hi tot) : coder_part.f rg lo hi tot=some (prt rg lo hi tot):=by
 obtain ⟨a,b,c,d,e,f,g⟩:=div_facts h0 h1 hf
 obtain ⟨f1,f2,f3,f4⟩:=hf
 have w1 : tot % 4294967296=tot:=by omega
 have w2 : IntKind.u64.wrap lo=lo:=u64w (by omega) (by omega)
 have w3 : wrap64 (hi - lo)=hi - lo:=i64w (by omega) (by omega)
 have w4 : (hi - lo) % 4294967296=hi - lo:=by omega
 unfold coder_part.f prt
 rw [w1,tdiv_nn (by omega : (0 : Int)≤rg),w2,w3,w4]
 generalize rg / tot=r at *
 have w5 : r % 4294967296=r:=by omega
 rw [w5,u64w c (by omega),if_neg (by omega)]
 by_cases h : hi=tot
 ·
  rw [if_pos h,if_pos h];congr 2;omega
 ·
  rw [if_neg h,if_neg h];congr 2;omega
theorem Part_f {rg lo hi tot : Int} (h0 : 16777216≤rg) (h1 : rg≤4294967295) (hf : Fair lo hi tot) : r05_part.f rg lo hi tot=some (prt rg lo hi tot):=by
 obtain ⟨a,b,c,d,e,f,g⟩:=div_facts h0 h1 hf
 obtain ⟨f1,f2,f3,f4⟩:=hf
 have w1 : IntKind.u64.wrap tot=tot:=u64w (by omega) (by omega)
 have w2 : IntKind.u64.wrap lo=lo:=u64w (by omega) (by omega)
 have w3 : wrap64 (hi - lo)=hi - lo:=i64w (by omega) (by omega)
 have w4 : IntKind.u64.wrap (hi - lo)=hi - lo:=u64w (by omega) (by omega)
 unfold r05_part.f prt
 rw [w1,tdiv_nn (by omega : (0 : Int)≤rg),w2,w3,w4]
 generalize rg / tot=r at *
 rw [u64w (x:=r) (by omega) (by omega),u64w c (by omega),if_neg (by omega)]
 by_cases h : hi=tot
 ·
  rw [if_pos h,if_pos h,u64w (by omega) (by omega)]
 ·
  rw [if_neg h,if_neg h,u64w (by omega) (by omega)]

def EOk (lo rg : Int) (out : List Int) : Prop:=0≤lo∧lo≤4294967295∧16777216≤rg∧rg≤4294967295∧Bytes out∧out.length≤4000
def num (lo : Int) (out : List Int) : Int:=val out * 4294967296+lo
def mOf (r : Int) : Nat:=if r < 65536 then 2 else if r < 16777216 then 1 else 0
theorem mOf_range {r : Int} (h : 256≤r) (h1 : r≤4294967295) : 16777216≤r * pw (mOf r)∧r * pw (mOf r)≤4294967295∧mOf r≤2:=by
 unfold mOf
 have e2 : pw 2=65536:=rfl
 have e1 : pw 1=256:=rfl
 have e0 : pw 0=1:=rfl
 split
 ·
  rw [e2];omega
 ·
  split
  ·
   rw [e1];omega
  ·
   rw [e0];omega
end Go.Proofs.Ytnmbndkojpjkmaa.Cod
/- The document's encoder, and the program's: the same bytes. -/
namespace Go.Proofs.Ytnmbndkojpjkmaa.Cod
open Go.RowKit Go.Proofs.YtnmbndkojpjkmaaW.PrintWords Go.Proofs.Ytnmbndkojpjkmaa.Prt Go.Proofs.Ytnmbndkojpjkmaa.Val
set_option linter.unusedVariables false

theorem mOf_least {r : Int} (h : 256≤r) : ∀ j,j < mOf r→r * pw j < 16777216:=by
 have e1 : pw 1=256:=rfl
 have e0 : pw 0=1:=rfl
 unfold mOf
 intro j hj
 split at hj
 ·
  rcases (show j=0∨j=1 by omega) with rfl|rfl
  ·
   rw [e0];omega
  ·
   rw [e1];omega
 ·
  split at hj
  ·
   obtain rfl : j=0:=by omega
   rw [e0];omega
  ·
   omega
end Go.Proofs.Ytnmbndkojpjkmaa.Cod
/- The decoder, the program's and the document's. -/
namespace Go.Proofs.Ytnmbndkojpjkmaa.Cod
open Go.RowKit Go.Proofs.YtnmbndkojpjkmaaW.PrintWords Go.Proofs.YtnmbndkojpjkmaaW.PrintMore Go.Proofs.Ytnmbndkojpjkmaa.Prt Go.Proofs.Ytnmbndkojpjkmaa.Val
set_option linter.unusedVariables false

theorem rd_out (l : List Int) (i : Int) (h : (l.length : Int)≤i) : rd l i=0:=by
 unfold Go.Proofs.YtnmbndkojpjkmaaW.PrintWords.rd
 rw [List.getD_eq_getElem?_getD,List.getElem?_eq_none (by omega)]
 rfl
def DOk (code rg at_ : Int) : Prop:=0≤code∧code≤4294967295∧16777216≤rg∧rg≤4294967295∧0≤at_∧at_≤9223372036854775807
theorem at_f {l : List Int} (hb : Bytes l) {i : Int} (h : 0≤i) : coder_at.f l i=some (rd l i):=by
 have hr:=hb.rd i
 unfold coder_at.f
 by_cases h1 : i ≥ (l.length : Int)
 ·
  rw [if_pos h1,rd_out l i (by omega)]
 ·
  rw [if_neg h1,if_pos h,if_pos (by omega),u64w (by omega) (by omega)]
theorem next_f {l : List Int} (hb : Bytes l) (hl : l.length≤9000) {i : Int} (h : 0≤i) : r05_next.f l i=some (rd l i,if i < (l.length : Int) then i+1 else i):=by
 have hr:=hb.rd i
 unfold r05_next.f
 by_cases h1 : i < (l.length : Int)
 ·
  rw [if_pos h1,if_pos h,if_pos h1,u64w (by omega) (by omega),i64w (by omega) (by omega)]
 ·
  rw [if_neg h1,if_neg h1,rd_out l i (by omega)]
def head4 (l : List Int) : Int:=rd l 0 * 16777216+rd l 1 * 65536+rd l 2 * 256+rd l 3
theorem head4_bound {l : List Int} (hb : Bytes l) : 0≤head4 l∧head4 l≤4294967295:=by
 have h0:=hb.rd 0
 have h1:=hb.rd 1
 have h2:=hb.rd 2
 have h3:=hb.rd 3
 unfold head4;omega
theorem open_f {l : List Int} (hb : Bytes l) : coder_Open.f l=some (head4 l,4294967295,l,4):=by
 have h0:=hb.rd 0
 have h1:=hb.rd 1
 have h2:=hb.rd 2
 have h3:=hb.rd 3
 unfold coder_Open.f
 rw [at_f hb (by decide),Option.bind_some,at_f hb (by decide),Option.bind_some,at_f hb (by decide),Option.bind_some,at_f hb (by decide),Option.bind_some]
 rw [u64w (by omega) (by omega),u64w (by omega) (by omega),u64w (by omega) (by omega),or24 (x:=rd l 0 * 16777216) (y:=rd l 1 * 65536) (by omega) (by omega) (by omega) (by omega) (by omega),or16 (x:=rd l 0 * 16777216+rd l 1 * 65536) (y:=rd l 2 * 256) (by omega) (by omega) (by omega) (by omega) (by omega),or8 (by omega) (by omega) (by omega) (by omega) (by omega)]
 rfl
theorem rd_stuck (l : List Int) (j : Int) : rd l (if j < (l.length : Int) then j else (l.length : Int))=rd l j:=by
 split
 ·
  rfl
 ·
  rw [rd_out l j (by omega),rd_out l _ (by omega)]
theorem open_step {l : List Int} (hb : Bytes l) (hl : l.length≤9000) (k : Nat) (j code rg a : Int) (l' : List Int) (h0 : 0≤j) (h1 : j < 4) (hc : 0≤code) (hc1 : code≤16777215) :
  r05_Open.l0 (k+1) l (if j < (l.length : Int) then j else (l.length : Int)) j code rg l' a=r05_Open.l0 k l (if j+1 < (l.length : Int) then j+1 else (l.length : Int)) (j+1) (code * 256+rd l j) rg l' a:=by
 have hr:=hb.rd j
 simp only [r05_Open.l0]
 rw [if_pos h1,next_f hb hl (by split <;> omega),Option.bind_some]
 dsimp only
 rw [rd_stuck,i64w (by omega) (by omega),u64w (x:=code * 256) (by omega) (by omega),u64w (by omega) (by omega)]
 congr 1
 repeat' split
 all_goals omega
theorem refOpen_f {l : List Int} (hb : Bytes l) (hl : l.length≤9000) (k : Nat) (hk : 5≤k) : r05_Open.f k l=some (head4 l,4294967295,l,4):=by
 have h0:=hb.rd 0
 have h1:=hb.rd 1
 have h2:=hb.rd 2
 have h3:=hb.rd 3
 obtain ⟨k,rfl⟩ : ∃ m,k=m+5:=⟨k - 5,by omega⟩
 unfold r05_Open.f
 have s:=open_step hb hl (k+4) 0 0 4294967295 4 l (by omega) (by omega) (by omega) (by omega)
 rw [show (if (0 : Int) < (l.length : Int) then (0 : Int) else (l.length : Int))=0 by split <;> omega] at s
 have z1 : (0 : Int)+1=1:=rfl
 have z2 : (1 : Int)+1=2:=rfl
 have z3 : (2 : Int)+1=3:=rfl
 rw [s,z1,open_step hb hl (k+3) 1 _ 4294967295 4 l (by omega) (by omega) (by omega) (by omega),z2,open_step hb hl (k+2) 2 _ 4294967295 4 l (by omega) (by omega) (by omega) (by omega),z3,open_step hb hl (k+1) 3 _ 4294967295 4 l (by omega) (by omega) (by omega) (by omega)]
 simp only [r05_Open.l0]
 rw [if_neg (by omega)]
 unfold head4
 show some ((((0 * 256+rd l 0) * 256+rd l 1) * 256+rd l 2) * 256+rd l 3,(4294967295 : Int),l,(4 : Int))=_
 congr 2;omega
theorem rightDec_f (code rg at_ : Int) (l : List Int) : coder_RightDec.f code rg l at_=some (decide (code≤4294967295∧16777216≤rg∧0≤at_)):=by
 unfold coder_RightDec.f
 grind
theorem good_ok {code rg at_ : Int} {l : List Int} (h : DOk code rg at_) : coder_good.f code rg l at_=some (code,rg,l,at_):=by
 obtain ⟨a,b,c,d,e,f⟩:=h
 unfold coder_good.f
 rw [rightDec_f,Option.bind_some,if_pos (by simp;omega)]
theorem open_ok {l : List Int} (hb : Bytes l) : DOk (head4 l) 4294967295 4:=by
 have:=head4_bound hb
 unfold DOk;omega
def gt (code rg tot : Int) : Int:=if code / (rg / tot) > tot - 1 then tot - 1 else code / (rg / tot)
theorem get_pre {rg tot : Int} (c : 16777216≤rg) (h0 : 1≤tot) (h1 : tot≤65536) : 256≤rg / tot∧rg / tot≤rg:=by
 have a : 256≤rg / tot:=by rw [Int.le_ediv_iff_mul_le (by omega)];omega
 exact ⟨a,Int.ediv_le_self _ (by omega)⟩
theorem gt_bound {code rg tot : Int} (a : 0≤code) (c : 16777216≤rg) (h0 : 1≤tot) (h1 : tot≤65536) : 0≤gt code rg tot∧gt code rg tot < tot:=by
 have h:=get_pre c h0 h1
 have h2 : 0≤code / (rg / tot):=Int.ediv_nonneg a (by omega)
 unfold gt
 split <;> omega
theorem get_ok {code0 rg0 at0 code rg at_ tot : Int} {l0 l : List Int} (hg : coder_good.f code0 rg0 l0 at0=some (code,rg,l,at_)) (h : DOk code rg at_) (h0 : 1≤tot) (h1 : tot≤65536) : coder_Get.f code0 rg0 l0 at0 tot=some (gt code rg tot,0):=by
 obtain ⟨a,b,c,d,e,f⟩:=h
 have hp:=get_pre c h0 h1
 have h2 : 0≤code / (rg / tot):=Int.ediv_nonneg a (by omega)
 have h3 : code / (rg / tot)≤code:=Int.ediv_le_self _ a
 unfold coder_Get.f
 rw [hg,Option.bind_some]
 dsimp only
 rw [if_neg (by omega),if_neg (by omega),show tot % 4294967296=tot by omega,if_neg (by omega),tdiv_nn (by omega : (0 : Int)≤rg)]
 unfold gt
 generalize rg / tot=r at *
 rw [show r % 4294967296=r by omega,if_neg (by omega),tdiv_nn a]
 generalize code / r=q at *
 rw [u64w (by omega) (by omega),i64w (by omega) (by omega),i64w (by omega) (by omega)]
 unfold num_Clamp.f
 rw [if_neg (by omega)]
 split <;> rfl
theorem refGet_ok {code rg at_ tot : Int} (l : List Int) (h : DOk code rg at_) (h0 : 1≤tot) (h1 : tot≤65536) : r05_Get.f code rg l at_ tot=some (gt code rg tot):=by
 obtain ⟨a,b,c,d,e,f⟩:=h
 have hp:=get_pre c h0 h1
 have h2 : 0≤code / (rg / tot):=Int.ediv_nonneg a (by omega)
 have h3 : code / (rg / tot)≤code:=Int.ediv_le_self _ a
 unfold r05_Get.f
 rw [u64w (x:=tot) (by omega) (by omega),if_neg (by omega),tdiv_nn (by omega : (0 : Int)≤rg)]
 unfold gt
 generalize rg / tot=r at *
 rw [u64w (x:=r) (by omega) (by omega),if_neg (by omega),tdiv_nn a]
 generalize code / r=q at *
 rw [u64w (by omega) (by omega),i64w (by omega) (by omega),i64w (by omega) (by omega)]
 unfold r03_Clamp.f
 rw [if_neg (by omega)]
 split <;> rfl
def dn (l : List Int) : Nat→Int × Int→Int × Int
 | 0,s=>s
 | m+1,s=>dn l m (s.1 * 256 % 4294967296+rd l s.2,if s.2 < (l.length : Int) then s.2+1 else s.2)
theorem dn_bound {l : List Int} (hb : Bytes l) : ∀ (m : Nat) (s : Int × Int),0≤s.1→s.1≤4294967295→0≤s.2→s.2≤9223372036854775807→l.length≤9000 →
  0≤(dn l m s).1∧(dn l m s).1≤4294967295∧0≤(dn l m s).2∧(dn l m s).2≤9223372036854775807
 | 0,s,a,b,c,d,_=>⟨a,b,c,d⟩
 | m+1,s,a,b,c,d,hl=>by
  have hr:=hb.rd s.2
  refine dn_bound hb m _ ?_ ?_ ?_ ?_ hl <;> dsimp only
  ·
   omega
  ·
   omega
  ·
   split <;> omega
  ·
   split <;> omega
theorem take_l0 {l : List Int} (hb : Bytes l) (hl : l.length≤9000) (rg : Int) : ∀ (m : Nat) (r : Int) (s : Int × Int) (k : Nat),0 < r→16777216≤r * pw m→r * pw m≤4294967295→(∀ j,j < m→r * pw j < 16777216)→0≤s.1→s.1≤4294967295→0≤s.2→s.2≤9223372036854775807→m < k →
  coder_Take.l0 k r s.1 rg l s.2=some ((dn l m s).1,r * pw m,l,(dn l m s).2,0)
 | 0,r,s,k,h0,h1,h1',h2,a,b,c,d,hk=>by
  obtain ⟨k,rfl⟩ : ∃ m,k=m+1:=⟨k - 1,by omega⟩
  rw [pw_zero] at h1
  simp only [coder_Take.l0]
  rw [if_neg (by omega),pw_zero,Int.mul_one]
  rfl
 | m+1,r,s,k,h0,h1,h1',h2,a,b,c,d,hk=>by
  obtain ⟨k,rfl⟩ : ∃ m,k=m+1:=⟨k - 1,by omega⟩
  have h3:=h2 0 (by omega)
  rw [pw_zero] at h3
  have hr:=hb.rd s.2
  have e : ∀ j,r * 256 * pw j=r * pw (j+1):=fun j=>by rw [pw_succ,Int.mul_assoc]
  simp only [coder_Take.l0]
  rw [if_pos (by omega),at_f hb c,Option.bind_some,u64w (x:=s.1 * 256) (by omega) (by omega),and32 (by omega) (by omega),or8 (by omega) (by omega) (by omega) (by omega) (by omega),Int.emod_eq_of_lt (a:=r * 256) (by omega) (by omega)]
  have ih:=fun (a2 : Int) (ha : 0≤a2) (hb2 : a2≤9223372036854775807)=>take_l0 hb hl rg m (r * 256) (s.1 * 256 % 4294967296+rd l s.2,a2) k (by omega) (by rw [e];exact h1) (by rw [e];exact h1') (fun j hj=>by rw [e];exact h2 (j+1) (by omega)) (by dsimp only;omega) (by dsimp only;omega) ha hb2 (by omega)
  by_cases h4 : s.2 < (l.length : Int)
  ·
   rw [if_pos h4,i64w (by omega) (by omega),ih (s.2+1) (by omega) (by omega),e]
   simp only [dn,if_pos h4]
  ·
   rw [if_neg h4,ih s.2 c d,e]
   simp only [dn,if_neg h4]
theorem refTake_l0 {l : List Int} (hb : Bytes l) (hl : l.length≤9000) : ∀ (m : Nat) (r : Int) (s : Int × Int) (k : Nat),0 < r→16777216≤r * pw m→r * pw m≤4294967295→(∀ j,j < m→r * pw j < 16777216)→0≤s.1→s.1≤4294967295→0≤s.2→s.2≤9223372036854775807→m < k →
  r05_Take.l0 k s.1 r l s.2=some ((dn l m s).1,r * pw m,l,(dn l m s).2)
 | 0,r,s,k,h0,h1,h1',h2,a,b,c,d,hk=>by
  obtain ⟨k,rfl⟩ : ∃ m,k=m+1:=⟨k - 1,by omega⟩
  rw [pw_zero] at h1
  simp only [r05_Take.l0]
  rw [if_neg (by omega),pw_zero,Int.mul_one]
  rfl
 | m+1,r,s,k,h0,h1,h1',h2,a,b,c,d,hk=>by
  obtain ⟨k,rfl⟩ : ∃ m,k=m+1:=⟨k - 1,by omega⟩
  have h3:=h2 0 (by omega)
  rw [pw_zero] at h3
  have hr:=hb.rd s.2
  have e : ∀ j,r * 256 * pw j=r * pw (j+1):=fun j=>by rw [pw_succ,Int.mul_assoc]
  simp only [r05_Take.l0]
  rw [if_pos (by omega),next_f hb hl c,Option.bind_some]
  dsimp only
  rw [tmod_nn a,u64w (x:=s.1 % 16777216 * 256) (by omega) (by omega),u64w (by omega) (by omega),u64w (x:=r * 256) (by omega) (by omega)]
  have ih:=fun (a2 : Int) (ha : 0≤a2) (hb2 : a2≤9223372036854775807)=>refTake_l0 hb hl m (r * 256) (s.1 * 256 % 4294967296+rd l s.2,a2) k (by omega) (by rw [e];exact h1) (by rw [e];exact h1') (fun j hj=>by rw [e];exact h2 (j+1) (by omega)) (by dsimp only;omega) (by dsimp only;omega) ha hb2 (by omega)
  rw [show s.1 % 16777216 * 256=s.1 * 256 % 4294967296 by omega]
  by_cases h4 : s.2 < (l.length : Int)
  ·
   rw [if_pos h4,ih (s.2+1) (by omega) (by omega),e]
   simp only [dn,if_pos h4]
  ·
   rw [if_neg h4,ih s.2 c d,e]
   simp only [dn,if_neg h4]
def tk (l : List Int) (code rg at_ lo hi tot : Int) : Int × Int × Int :=
 let p:=prt rg lo hi tot
 let s:=dn l (mOf p.1) (code - (if p.2 < code then p.2 else code),at_)
 (s.1,p.1 * pw (mOf p.1),s.2)
theorem tk_ok {l : List Int} {code rg at_ lo hi tot : Int} (hb : Bytes l) (hl : l.length≤9000) (h : DOk code rg at_) (hf : Fair lo hi tot) : DOk (tk l code rg at_ lo hi tot).1 (tk l code rg at_ lo hi tot).2.1 (tk l code rg at_ lo hi tot).2.2:=by
 obtain ⟨a,b,c,d,e,f⟩:=h
 obtain ⟨p1,p2,p3⟩:=prt_facts c d hf
 obtain ⟨m1,m2,m3⟩:=mOf_range p1 (by omega)
 obtain ⟨d1,d2,d3,d4⟩:=dn_bound hb (mOf (prt rg lo hi tot).1) (code - (if (prt rg lo hi tot).2 < code then (prt rg lo hi tot).2 else code),at_) (by dsimp only;split <;> omega) (by dsimp only;split <;> omega) e f hl
 exact ⟨d1,d2,m1,m2,d3,d4⟩
theorem take_ok {code0 rg0 at0 code rg at_ lo hi tot : Int} {l0 l : List Int} (hg : coder_good.f code0 rg0 l0 at0=some (code,rg,l,at_)) (h : DOk code rg at_) (hb : Bytes l) (hl : l.length≤9000) (hf : Fair lo hi tot) (k : Nat) (hk : 4≤k) :
  coder_Take.f k code0 rg0 l0 at0 lo hi tot=some ((tk l code rg at_ lo hi tot).1,(tk l code rg at_ lo hi tot).2.1,l,(tk l code rg at_ lo hi tot).2.2,0):=by
 obtain ⟨a,b,c,d,e,f⟩:=h
 obtain ⟨p1,p2,p3⟩:=prt_facts c d hf
 have hpart:=part_f c d hf
 unfold coder_Take.f tk
 rw [hg,Option.bind_some]
 dsimp only
 rw [fair_f,Option.bind_some,if_pos (by simpa using hf),hpart,Option.bind_some]
 generalize prt rg lo hi tot=p at *
 obtain ⟨r,s⟩:=p
 dsimp only at *
 obtain ⟨m1,m2,m3⟩:=mOf_range p1 (by omega)
 have e1 : IntKind.u64.wrap (code - mn code s)=code - (if s < code then s else code):=by
  unfold mn
  split <;> exact u64w (by omega) (by omega)
 rw [e1]
 exact take_l0 hb hl rg (mOf r) r (code - (if s < code then s else code),at_) k (by omega) m1 m2 (mOf_least p1) (by dsimp only;split <;> omega) (by dsimp only;split <;> omega) e f (by omega)
theorem refTake_ok {code rg at_ lo hi tot : Int} {l : List Int} (h : DOk code rg at_) (hb : Bytes l) (hl : l.length≤9000) (hf : Fair lo hi tot) (k : Nat) (hk : 5≤k) :
  r05_Take.f k code rg l at_ lo hi tot=some ((tk l code rg at_ lo hi tot).1,(tk l code rg at_ lo hi tot).2.1,l,(tk l code rg at_ lo hi tot).2.2):=by
 obtain ⟨a,b,c,d,e,f⟩:=h
 obtain ⟨p1,p2,p3⟩:=prt_facts c d hf
 have hpart:=Part_f c d hf
 unfold r05_Take.f tk
 rw [hpart,Option.bind_some]
 generalize prt rg lo hi tot=p at *
 obtain ⟨r,s⟩:=p
 dsimp only at *
 obtain ⟨m1,m2,m3⟩:=mOf_range p1 (by omega)
 obtain ⟨k,rfl⟩ : ∃ m,k=m+1:=⟨k - 1,by omega⟩
 have key:=refTake_l0 hb hl (mOf r) r (code - (if s < code then s else code),at_) k (by omega) m1 m2 (mOf_least p1) (by dsimp only;split <;> omega) (by dsimp only;split <;> omega) e f (by omega)
 dsimp only at key
 by_cases h1 : s > code
 ·
  rw [if_pos h1]
  simp only [r05_Take.j0]
  rw [u64w (by omega) (by omega),if_neg (by omega)] at *
  exact key
 ·
  rw [if_neg h1]
  simp only [r05_Take.j0]
  have e2 : code - (if s < code then s else code)=code - s:=by split <;> omega
  rw [u64w (by omega) (by omega)]
  rw [e2] at key
  rw [e2]
  exact key
end Go.Proofs.Ytnmbndkojpjkmaa.Cod
/- What was put is taken: the decoder's code is the bytes' number less the encoder's, choice by choice. -/
namespace Go.Proofs.Ytnmbndkojpjkmaa.Cod
open Go.RowKit Go.Proofs.YtnmbndkojpjkmaaW.PrintWords Go.Proofs.Ytnmbndkojpjkmaa.Prt Go.Proofs.Ytnmbndkojpjkmaa.Val
set_option linter.unusedVariables false
abbrev E3:=Int × Int × List Int
def E3.ok (e : E3) : Prop:=EOk e.1 e.2.1 e.2.2
def E3.num (e : E3) : Int:=Cod.num e.1 e.2.2
def E3.len (e : E3) : Nat:=e.2.2.length
structure St (e e' : E3) (lo hi tot : Int) : Prop where
 fair : Cod.Fair lo hi tot
 ok : e'.ok
 rg : e'.2.1=(prt e.2.1 lo hi tot).1 * pw (mOf (prt e.2.1 lo hi tot).1)
 len : e'.len=e.len+mOf (prt e.2.1 lo hi tot).1
 num : e'.num=(e.num+(prt e.2.1 lo hi tot).2) * pw (mOf (prt e.2.1 lo hi tot).1)
inductive Run : E3→List (Int × Int × Int)→E3→Prop
 | nil (e : E3) : Run e [] e
 | cons {e e' e'' : E3} {lo hi tot : Int} {cs : List (Int × Int × Int)} : St e e' lo hi tot→Run e' cs e''→Run e ((lo,hi,tot) :: cs) e''
theorem Run.ok {e e' : E3} {cs : List (Int × Int × Int)} (h : Run e cs e') (he : e.ok) : e'.ok:=by
 induction h with
 | nil=>exact he
 | cons s _ ih=>exact ih s.ok
def all (e : E3) : List Int:=e.2.2 ++ four e.1
end Go.Proofs.Ytnmbndkojpjkmaa.Cod
/- Numbers: put and taken as one choice, or two. -/
namespace Go.Proofs.Ytnmbndkojpjkmaa.Cod
open Go.RowKit Go.Proofs.YtnmbndkojpjkmaaW.PrintWords Go.Proofs.YtnmbndkojpjkmaaW.PrintMore Go.Proofs.Ytnmbndkojpjkmaa.Prt Go.Proofs.Ytnmbndkojpjkmaa.Val
set_option linter.unusedVariables false
def half1 (n : Int) : Int:=(n - 1) / 65536+1
theorem halves_small {n : Int} (h0 : 1≤n) (h : n≤65536) : coder_halves.f n=some (n,1):=by
 unfold coder_halves.f
 rw [if_pos h,i64w (by omega) (by omega)]
theorem halves_great {n : Int} (h : 65536 < n) (h1 : n≤4294967296) : coder_halves.f n=some (half1 n,65536):=by
 unfold coder_halves.f half1
 rw [if_neg (by omega),u64w (x:=n - 1) (by omega) (by omega),tdiv_nn (by omega),u64w (by omega) (by omega),i64w (x:=(n - 1) / 65536) (by omega) (by omega),i64w (by omega) (by omega)]
section
variable {lo0 rg0 lo rg : Int} {out0 out : List Int} (ho : coder_own.f lo0 rg0 out0=some (lo,rg,out))
include ho
end
def tn (l : List Int) (code rg at_ n : Int) : Int × Int × Int × Int :=
 if n≤65536 then let g:=gt code rg n;let t:=tk l code rg at_ g (g+1) n;(t.1,t.2.1,t.2.2,g)
 else let g:=gt code rg (half1 n);let t:=tk l code rg at_ g (g+1) (half1 n);let m:=gt t.1 t.2.1 65536;let u:=tk l t.1 t.2.1 t.2.2 m (m+1) 65536
  (u.1,u.2.1,u.2.2,if n - 1 < g * 65536+m then n - 1 else g * 65536+m)
theorem gt_fair {code rg tot : Int} (a : 0≤code) (c : 16777216≤rg) (h0 : 1≤tot) (h1 : tot≤65536) : Cod.Fair (gt code rg tot) (gt code rg tot+1) tot:=by
 have:=gt_bound a c h0 h1
 exact ⟨by omega,by omega,by omega,h1⟩
theorem tn_ok {l : List Int} {code rg at_ n : Int} (hb : Bytes l) (hl : l.length≤9000) (h : DOk code rg at_) (h0 : 1≤n) (h1 : n≤4294967296) : DOk (tn l code rg at_ n).1 (tn l code rg at_ n).2.1 (tn l code rg at_ n).2.2.1∧0≤(tn l code rg at_ n).2.2.2∧(tn l code rg at_ n).2.2.2 < n:=by
 unfold tn
 split
 ·
  have hg:=gt_bound (code:=code) h.1 h.2.2.1 h0 (by assumption)
  exact ⟨tk_ok hb hl h (gt_fair h.1 h.2.2.1 h0 (by assumption)),hg.1,hg.2⟩
 ·
  have hh : 1≤half1 n∧half1 n≤65536:=by unfold half1;omega
  have hg:=gt_bound (code:=code) h.1 h.2.2.1 hh.1 hh.2
  have ht:=tk_ok hb hl h (gt_fair h.1 h.2.2.1 hh.1 hh.2)
  have hm:=gt_bound ht.1 ht.2.2.1 (show (1 : Int)≤65536 by decide) (by decide)
  refine ⟨tk_ok hb hl ht (gt_fair ht.1 ht.2.2.1 (by decide) (by decide)), ?_, ?_⟩
  ·
   dsimp only;split <;> omega
  ·
   dsimp only;split <;> omega
theorem takeNum_ok {code0 rg0 at0 code rg at_ n : Int} {l0 l : List Int} (hg : coder_good.f code0 rg0 l0 at0=some (code,rg,l,at_)) (h : DOk code rg at_) (hb : Bytes l) (hl : l.length≤9000) (h0 : 1≤n) (h1 : n≤4294967296) (k : Nat) (hk : 10≤k) :
  coder_TakeNum.f k code0 rg0 l0 at0 n=some ((tn l code rg at_ n).1,(tn l code rg at_ n).2.1,l,(tn l code rg at_ n).2.2.1,(tn l code rg at_ n).2.2.2,0):=by
 obtain ⟨k,rfl⟩ : ∃ m,k=m+1:=⟨k - 1,by omega⟩
 unfold coder_TakeNum.f tn
 rw [hg,Option.bind_some]
 dsimp only
 rw [if_neg (by omega),show decide (n > 4294967296)=false by simp;omega]
 simp only [coder_TakeNum.j0]
 rw [if_neg (by simp)]
 by_cases hs : n≤65536
 ·
  have hgt:=gt_bound (code:=code) h.1 h.2.2.1 h0 hs
  have hf:=gt_fair (code:=code) h.1 h.2.2.1 h0 hs
  rw [halves_small h0 hs,Option.bind_some]
  dsimp only
  rw [get_ok (good_ok h) h h0 hs,Option.bind_some]
  dsimp only
  rw [i64w (x:=gt code rg n+1) (by omega) (by omega),take_ok (good_ok h) h hb hl hf k (by omega),Option.bind_some]
  dsimp only
  rw [if_neg (by decide),if_pos hs,u64w (x:=gt code rg n) (by omega) (by omega),u64w (x:=n - 1) (by omega) (by omega)]
  dsimp only
  have e : mn (gt code rg n) (n - 1)=gt code rg n:=by unfold mn;rw [if_neg (by omega)]
  rw [e]
 ·
  have hh : 1≤half1 n∧half1 n≤65536:=by unfold half1;omega
  have hgt:=gt_bound (code:=code) h.1 h.2.2.1 hh.1 hh.2
  have hf:=gt_fair (code:=code) h.1 h.2.2.1 hh.1 hh.2
  have ht:=tk_ok (at_:=at_) hb hl h hf
  have hm:=gt_bound ht.1 ht.2.2.1 (show (1 : Int)≤65536 by decide) (by decide)
  have hf2:=gt_fair ht.1 ht.2.2.1 (show (1 : Int)≤65536 by decide) (by decide)
  rw [halves_great (by omega) h1,Option.bind_some]
  dsimp only
  rw [get_ok (good_ok h) h hh.1 hh.2,Option.bind_some]
  dsimp only
  rw [i64w (x:=gt code rg (half1 n)+1) (by omega) (by omega),take_ok (good_ok h) h hb hl hf k (by omega),Option.bind_some]
  dsimp only
  rw [if_pos (by decide),get_ok (good_ok ht) ht (by decide) (by decide),Option.bind_some]
  dsimp only
  rw [i64w (x:=gt _ _ 65536+1) (by omega) (by omega),take_ok (good_ok ht) ht hb hl hf2 k (by omega),Option.bind_some]
  dsimp only
  rw [if_neg hs,u64w (x:=gt code rg (half1 n)) (by omega) (by omega),u64w (x:=65536) (by decide) (by decide),u64w (x:=gt code rg (half1 n) * 65536) (by omega) (by omega),u64w (x:=gt _ _ 65536) (by omega) (by omega),u64w (x:=_+_) (by omega) (by omega),u64w (x:=n - 1) (by omega) (by omega)]
  rfl
theorem refTakeNum_ok {code rg at_ n : Int} {l : List Int} (h : DOk code rg at_) (hb : Bytes l) (hl : l.length≤9000) (h0 : 1≤n) (h1 : n≤4294967296) (k : Nat) (hk : 10≤k) :
  r05_TakeNum.f k code rg l at_ n=some ((tn l code rg at_ n).1,(tn l code rg at_ n).2.1,l,(tn l code rg at_ n).2.2.1,(tn l code rg at_ n).2.2.2):=by
 unfold r05_TakeNum.f tn
 by_cases hs : n≤65536
 ·
  have hgt:=gt_bound (code:=code) h.1 h.2.2.1 h0 hs
  have hf:=gt_fair (code:=code) h.1 h.2.2.1 h0 hs
  rw [if_pos hs,i64w (x:=n) (by omega) (by omega),refGet_ok l h h0 hs,Option.bind_some,i64w (x:=gt code rg n+1) (by omega) (by omega),refTake_ok h hb hl hf k (by omega),Option.bind_some]
  dsimp only
  rw [if_pos hs,u64w (x:=gt code rg n) (by omega) (by omega)]
 ·
  have hh : 1≤half1 n∧half1 n≤65536:=by unfold half1;omega
  have hgt:=gt_bound (code:=code) h.1 h.2.2.1 hh.1 hh.2
  have hf:=gt_fair (code:=code) h.1 h.2.2.1 hh.1 hh.2
  have ht:=tk_ok (at_:=at_) hb hl h hf
  have hm:=gt_bound ht.1 ht.2.2.1 (show (1 : Int)≤65536 by decide) (by decide)
  have hf2:=gt_fair ht.1 ht.2.2.1 (show (1 : Int)≤65536 by decide) (by decide)
  have e : wrap64 (wrap64 (IntKind.u64.wrap ((IntKind.u64.wrap (n - 1)).tdiv 65536))+1)=half1 n:=by
   unfold half1
   rw [u64w (x:=n - 1) (by omega) (by omega),tdiv_nn (by omega),u64w (x:=(n - 1) / 65536) (by omega) (by omega),i64w (x:=(n - 1) / 65536) (by omega) (by omega),i64w (by omega) (by omega)]
  rw [if_neg hs,e,refGet_ok l h hh.1 hh.2,Option.bind_some,i64w (x:=gt code rg (half1 n)+1) (by omega) (by omega),refTake_ok h hb hl hf k (by omega),Option.bind_some]
  dsimp only
  rw [refGet_ok l ht (by decide) (by decide),Option.bind_some,i64w (x:=gt _ _ 65536+1) (by omega) (by omega),refTake_ok ht hb hl hf2 k (by omega),Option.bind_some]
  dsimp only
  rw [if_neg hs,u64w (x:=gt code rg (half1 n)) (by omega) (by omega),u64w (x:=gt code rg (half1 n) * 65536) (by omega) (by omega),u64w (x:=gt _ _ 65536) (by omega) (by omega),u64w (x:=_+_) (by omega) (by omega),u64w (x:=n - 1) (by omega) (by omega)]
  dsimp only
  split <;> rfl
end Go.Proofs.Ytnmbndkojpjkmaa.Cod
/- Gains taken: what the program and the document take, step by step; and what gains may be. -/
namespace Go.Proofs.Ytnmbndkojpjkmaa.Gan
open Go.RowKit Go.Proofs.YtnmbndkojpjkmaaW.PrintWords Go.Proofs.YtnmbndkojpjkmaaW.PrintMore Go.Proofs.Ytnmbndkojpjkmaa.Prt Go.Proofs.Ytnmbndkojpjkmaa.Val Go.Proofs.Ytnmbndkojpjkmaa.Cod
set_option linter.unusedVariables false
def rt (l : List Int) : Bool:=((l.length : Int) == 5) && l.all (fun x=>decide (0≤x∧x≤44))
theorem rt_len {l : List Int} (h : rt l=true) : l.length=5:=by simp [rt] at h;omega
theorem rt_rd {l : List Int} (h : rt l=true) (i : Int) : 0≤rd l i∧rd l i≤44:=by
 simp only [rt,Bool.and_eq_true,List.all_eq_true,decide_eq_true_eq] at h
 unfold Go.Proofs.YtnmbndkojpjkmaaW.PrintWords.rd
 rw [List.getD_eq_getElem?_getD]
 by_cases hi : i.toNat < l.length
 ·
  rw [List.getElem?_eq_getElem hi];exact h.2 _ (List.getElem_mem hi)
 ·
  rw [List.getElem?_eq_none (by omega)];exact ⟨by decide,by decide⟩
theorem drop_rd (l : List Int) (i : Nat) (h : i < l.length) : l.drop i=rd l (i : Int) :: l.drop (i+1):=by
 rw [List.drop_eq_getElem_cons h]
 unfold Go.Proofs.YtnmbndkojpjkmaaW.PrintWords.rd
 rw [List.getD_eq_getElem?_getD,Int.toNat_natCast,List.getElem?_eq_getElem h]
 rfl
theorem right_l0 (l : List Int) (hl : l.length≤9000) : ∀ (d i k : Nat),i+d=l.length→d < k→gain_Right.l0 k l l (l.length : Int) (i : Int)=some (((l.length : Int) == 5) && (l.drop i).all (fun x=>decide (0≤x∧x≤44)))
 | 0,i,k,hi,hk=>by
  obtain ⟨k,rfl⟩ : ∃ m,k=m+1:=⟨k - 1,by omega⟩
  simp only [gain_Right.l0]
  rw [if_neg (by omega),List.drop_eq_nil_of_le (by omega)]
  simp
 | d+1,i,k,hi,hk=>by
  obtain ⟨k,rfl⟩ : ∃ m,k=m+1:=⟨k - 1,by omega⟩
  simp only [gain_Right.l0]
  rw [if_pos (by omega),if_pos (by omega),if_pos (by omega),drop_rd l i (by omega),List.all_cons]
  by_cases h0 : rd l (i : Int) < 0
  ·
   rw [if_pos h0,show decide (0≤rd l (i : Int)∧rd l (i : Int)≤44)=false by simp;omega]
   simp
  ·
   rw [if_neg h0]
   by_cases h1 : rd l (i : Int) > 44
   ·
    rw [if_pos h1,show decide (0≤rd l (i : Int)∧rd l (i : Int)≤44)=false by simp;omega]
    simp
   ·
    rw [if_neg h1,i64w (by omega) (by omega),show decide (0≤rd l (i : Int)∧rd l (i : Int)≤44)=true by simp;omega,Bool.true_and]
    exact right_l0 l hl d (i+1) k (by omega) (by omega)
theorem right_ok (l : List Int) (hl : l.length≤9000) (k : Nat) (hk : l.length < k) : gain_Right.f k l=some (rt l):=right_l0 l hl l.length 0 k (by omega) hk
theorem refRight_l0 (l : List Int) (hl : l.length≤9000) : ∀ (d i k : Nat) (ok : Bool),i+d=l.length→d < k→r11_Right.l0 k l ok (i : Int)=some (ok && (l.drop i).all (fun x=>decide (0≤x∧x≤44)))
 | 0,i,k,ok,hi,hk=>by
  obtain ⟨k,rfl⟩ : ∃ m,k=m+1:=⟨k - 1,by omega⟩
  simp only [r11_Right.l0]
  rw [if_neg (by omega),List.drop_eq_nil_of_le (by omega)]
  simp
 | d+1,i,k,ok,hi,hk=>by
  obtain ⟨k,rfl⟩ : ∃ m,k=m+1:=⟨k - 1,by omega⟩
  have ih:=fun ok=>refRight_l0 l hl d (i+1) k ok (by omega) (by omega)
  simp only [r11_Right.l0]
  rw [if_pos (by omega),drop_rd l i (by omega),List.all_cons,i64w (x:=(i : Int)+1) (by omega) (by omega)]
  cases ok with
  | false=>rw [if_neg (by simp)];exact (ih false).trans (by simp)
  | true =>
   rw [if_pos rfl,if_pos (by omega)]
   by_cases h0 : rd l (i : Int) ≥ 0
   ·
    rw [if_pos h0]
    refine (ih _).trans ?_
    rw [show decide (0≤rd l (i : Int)∧rd l (i : Int)≤44)=decide (rd l (i : Int)≤44) from decide_eq_decide.2 ⟨fun h=>h.2,fun h=>⟨h0,h⟩⟩,Bool.true_and]
   ·
    rw [if_neg h0,show decide (0≤rd l (i : Int)∧rd l (i : Int)≤44)=false by simp;omega]
    exact (ih false).trans (by simp)
theorem refRight_ok (l : List Int) (hl : l.length≤9000) (k : Nat) (hk : l.length < k) : r11_Right.f k l=some (rt l):=by
 unfold r11_Right.f
 rw [show (0 : Int)=((0 : Nat) : Int) from rfl,refRight_l0 l hl l.length 0 k _ (by omega) hk]
 rfl
theorem same_l0 (l : List Int) (hl : l.length≤9000) : ∀ (d i k : Nat),i+d=l.length→d < k→r06_Same.l0 k l l (i : Int)=some true
 | 0,i,k,hi,hk=>by
  obtain ⟨k,rfl⟩ : ∃ m,k=m+1:=⟨k - 1,by omega⟩
  simp only [r06_Same.l0]
  rw [if_neg (by omega)]
 | d+1,i,k,hi,hk=>by
  obtain ⟨k,rfl⟩ : ∃ m,k=m+1:=⟨k - 1,by omega⟩
  simp only [r06_Same.l0]
  rw [if_pos (by omega),if_pos (by omega),if_pos (by omega),if_pos trivial,i64w (x:=(i : Int)+1) (by omega) (by omega)]
  exact same_l0 l hl d (i+1) k (by omega) (by omega)
def gt1 (l : List Int) (code rg at_ ahead : Int) (intra : Bool) : Int × Int × Int × Int :=
 if intra=true then tn l code rg at_ 45
 else let g:=gt code rg 8;let t:=tk l code rg at_ g (g+1) 8
  if g=7 then tn l t.1 t.2.1 t.2.2 45 else (t.1,t.2.1,t.2.2,if ahead+g - 3 < 0 then 0 else if ahead+g - 3 > 44 then 44 else ahead+g - 3)
theorem gt1_ok {l : List Int} {code rg at_ ahead : Int} {intra : Bool} (hb : Bytes l) (hl : l.length≤9000) (h : DOk code rg at_) :
  DOk (gt1 l code rg at_ ahead intra).1 (gt1 l code rg at_ ahead intra).2.1 (gt1 l code rg at_ ahead intra).2.2.1∧0≤(gt1 l code rg at_ ahead intra).2.2.2∧(gt1 l code rg at_ ahead intra).2.2.2≤44:=by
 unfold gt1
 cases intra with
 | true =>
  rw [if_pos rfl]
  have:=tn_ok (n:=45) hb hl h (by decide) (by decide)
  exact ⟨this.1,this.2.1,by omega⟩
 | false =>
  rw [if_neg (by simp)]
  have hf:=gt_fair (code:=code) h.1 h.2.2.1 (show (1 : Int)≤8 by decide) (by decide)
  have ht:=tk_ok (at_:=at_) hb hl h hf
  dsimp only
  split
  ·
   have:=tn_ok (n:=45) hb hl ht (by decide) (by decide)
   exact ⟨this.1,this.2.1,by omega⟩
  ·
   refine ⟨ht, ?_, ?_⟩
   ·
    dsimp only;split
    ·
     decide
    ·
     split <;> omega
   ·
    dsimp only;split
    ·
     decide
    ·
     split <;> omega
theorem take1_ok {code0 rg0 at0 code rg at_ ahead : Int} {l0 l : List Int} {intra : Bool} (hg : coder_good.f code0 rg0 l0 at0=some (code,rg,l,at_)) (h : DOk code rg at_) (hb : Bytes l) (hl : l.length≤9000) (a0 : 0≤ahead) (a1 : ahead≤44) (k : Nat) (hk : 10≤k) :
  gain_take.f k code0 rg0 l0 at0 ahead intra=some ((gt1 l code rg at_ ahead intra).1,(gt1 l code rg at_ ahead intra).2.1,l,(gt1 l code rg at_ ahead intra).2.2.1,(gt1 l code rg at_ ahead intra).2.2.2):=by
 have tw : ∀ {c r t : Int},DOk c r t→wrap64 (tn l c r t 45).2.2.2=(tn l c r t 45).2.2.2:=fun hd=>by
  have:=tn_ok (n:=45) hb hl hd (by decide) (by decide)
  exact i64w (by omega) (by omega)
 unfold gain_take.f gt1
 cases intra with
 | true =>
  rw [if_pos rfl,if_pos rfl,takeNum_ok hg h hb hl (by decide) (by decide) k (by omega),Option.bind_some]
  dsimp only
  rw [tw h]
 | false =>
  have hgt:=gt_bound (code:=code) h.1 h.2.2.1 (show (1 : Int)≤8 by decide) (by decide)
  have hf:=gt_fair (code:=code) h.1 h.2.2.1 (show (1 : Int)≤8 by decide) (by decide)
  have ht:=tk_ok (at_:=at_) hb hl h hf
  rw [if_neg (by simp),if_neg (by simp),get_ok hg h (by decide) (by decide),Option.bind_some]
  dsimp only
  rw [i64w (x:=gt code rg 8+1) (by omega) (by omega),take_ok hg h hb hl hf k (by omega),Option.bind_some]
  dsimp only
  by_cases h7 : gt code rg 8=7
  ·
   rw [if_pos h7,if_pos h7,takeNum_ok (good_ok ht) ht hb hl (by decide) (by decide) k (by omega),Option.bind_some]
   dsimp only
   rw [tw ht]
  ·
   rw [if_neg h7,if_neg h7,i64w (x:=ahead+gt code rg 8) (by omega) (by omega),i64w (x:=ahead+gt code rg 8 - 3) (by omega) (by omega)]
   dsimp only
   congr 5
   unfold mx mn
   split <;> split <;> first|omega|(split <;> omega)
def gts (l a : List Int) (intra : Bool) : Nat→Int→Int→Int→Int→List Int→Int × Int × Int × List Int
 | 0,_,c,r,t,acc=>(c,r,t,acc)
 | d+1,i,c,r,t,acc=>gts l a intra d (i+1) (gt1 l c r t (rd a i) intra).1 (gt1 l c r t (rd a i) intra).2.1 (gt1 l c r t (rd a i) intra).2.2.1 (acc ++ [(gt1 l c r t (rd a i) intra).2.2.2])
theorem gts_ok {l a : List Int} {intra : Bool} (hb : Bytes l) (hl : l.length≤9000) : ∀ (d : Nat) (i c r t : Int) (acc : List Int),DOk c r t→(∀ x ∈ acc,0≤x∧x≤44) →
  DOk (gts l a intra d i c r t acc).1 (gts l a intra d i c r t acc).2.1 (gts l a intra d i c r t acc).2.2.1∧(gts l a intra d i c r t acc).2.2.2.length=acc.length+d∧∀ x ∈ (gts l a intra d i c r t acc).2.2.2,0≤x∧x≤44
 | 0,i,c,r,t,acc,h,ha=>⟨h,rfl,ha⟩
 | d+1,i,c,r,t,acc,h,ha=>by
  have h1:=gt1_ok (ahead:=rd a i) (intra:=intra) hb hl h
  have ih:=gts_ok (a:=a) (intra:=intra) hb hl d (i+1) _ _ _ (acc ++ [(gt1 l c r t (rd a i) intra).2.2.2]) h1.1 (fun x hx=>by
   rcases List.mem_append.1 hx with hx|hx
   ·
    exact ha x hx
   ·
    rw [List.mem_singleton.1 hx];exact h1.2)
  refine ⟨ih.1,ih.2.1.trans ?_,ih.2.2⟩
  simp;omega
theorem takes_l0 {a : List Int} {intra : Bool} (ha : intra=true∨rt a=true) : ∀ (d : Nat) (i code0 rg0 at0 code rg at_ : Int) (l0 l acc : List Int) (k : Nat),coder_good.f code0 rg0 l0 at0=some (code,rg,l,at_)→DOk code rg at_→Bytes l→l.length≤9000 →
  (d=0→code0=code∧rg0=rg∧l0=l∧at0=at_)→0≤i→i+d=5→acc.length+d≤5→20+d < k →
  gain_Take.l0 k a intra acc i code0 rg0 l0 at0=some ((gts l a intra d i code rg at_ acc).1,(gts l a intra d i code rg at_ acc).2.1,l,(gts l a intra d i code rg at_ acc).2.2.1,(gts l a intra d i code rg at_ acc).2.2.2,0)
 | 0,i,code0,rg0,at0,code,rg,at_,l0,l,acc,k,hg,h,hb,hl,h0,hi,hd,hc,hk=>by
  obtain ⟨k,rfl⟩ : ∃ m,k=m+1:=⟨k - 1,by omega⟩
  obtain ⟨rfl,rfl,rfl,rfl⟩:=h0 rfl
  simp only [gain_Take.l0]
  rw [if_neg (by omega)]
  rfl
 | d+1,i,code0,rg0,at0,code,rg,at_,l0,l,acc,k,hg,h,hb,hl,h0,hi,hd,hc,hk=>by
  obtain ⟨k,rfl⟩ : ∃ m,k=m+1:=⟨k - 1,by omega⟩
  have h1:=gt1_ok (ahead:=rd a i) (intra:=intra) hb hl h
  have ih:=takes_l0 ha d (i+1) _ _ _ _ _ _ _ _ (acc ++ [(gt1 l code rg at_ (rd a i) intra).2.2.2]) k (good_ok (l:=l) h1.1) h1.1 hb hl (fun _=>⟨rfl,rfl,rfl,rfl⟩) (by omega) (by omega) (by simp;omega) (by omega)
  simp only [gain_Take.l0,gts]
  rw [if_pos (by omega)]
  cases intra with
  | true =>
   rw [if_pos rfl,take1_ok hg h hb hl (by decide) (by decide) k (by omega),Option.bind_some]
   dsimp only
   rw [if_pos (by omega),i64w (x:=i+1) (by omega) (by omega)]
   exact ih
  | false =>
   have hr : rt a=true:=ha.resolve_left (by simp)
   have h5:=rt_len hr
   have ar:=rt_rd hr i
   rw [if_neg (by simp),if_pos hi,if_pos (by omega),take1_ok hg h hb hl ar.1 ar.2 k (by omega),Option.bind_some]
   dsimp only
   rw [if_pos (by omega),i64w (x:=i+1) (by omega) (by omega)]
   exact ih
theorem refTakes_l0 {a : List Int} {intra : Bool} (ha : intra=true∨rt a=true) {l : List Int} (hb : Bytes l) (hl : l.length≤9000) : ∀ (d : Nat) (i code rg at_ : Int) (acc : List Int) (k : Nat),DOk code rg at_→0≤i→i+d=5→acc.length+d≤5→20+2 * d < k →
  r11_Take.l0 k a intra acc i code rg l at_=some ((gts l a intra d i code rg at_ acc).1,(gts l a intra d i code rg at_ acc).2.1,l,(gts l a intra d i code rg at_ acc).2.2.1,(gts l a intra d i code rg at_ acc).2.2.2)
 | 0,i,code,rg,at_,acc,k,h,hi,hd,hc,hk=>by
  obtain ⟨k,rfl⟩ : ∃ m,k=m+1:=⟨k - 1,by omega⟩
  simp only [r11_Take.l0]
  rw [if_neg (by omega)]
  rfl
 | d+1,i,code,rg,at_,acc,k,h,hi,hd,hc,hk=>by
  obtain ⟨k,rfl⟩ : ∃ m,k=m+2:=⟨k - 2,by omega⟩
  have h1:=gt1_ok (ahead:=rd a i) (intra:=intra) hb hl h
  have ih:=refTakes_l0 ha hb hl d (i+1) _ _ _ (acc ++ [(gt1 l code rg at_ (rd a i) intra).2.2.2]) k h1.1 (by omega) (by omega) (by simp;omega) (by omega)
  have tw : ∀ {c r t : Int},DOk c r t→wrap64 (tn l c r t 45).2.2.2=(tn l c r t 45).2.2.2:=fun hd=>by
   have:=tn_ok (n:=45) hb hl hd (by decide) (by decide)
   exact i64w (by omega) (by omega)
  simp only [r11_Take.l0,gts]
  rw [if_pos (by omega)]
  cases intra with
  | true =>
   rw [if_pos rfl]
   simp only [r11_Take.j1]
   rw [if_pos trivial,refTakeNum_ok h hb hl (by decide) (by decide) k (by omega),Option.bind_some]
   dsimp only
   rw [if_pos (by omega),i64w (x:=i+1) (by omega) (by omega),tw h]
   exact ih
  | false =>
   have hr : rt a=true:=ha.resolve_left (by simp)
   have h5:=rt_len hr
   have ar:=rt_rd hr i
   have hgt:=gt_bound (code:=code) h.1 h.2.2.1 (show (1 : Int)≤8 by decide) (by decide)
   have hf:=gt_fair (code:=code) h.1 h.2.2.1 (show (1 : Int)≤8 by decide) (by decide)
   have ht:=tk_ok (at_:=at_) hb hl h hf
   rw [if_neg (by simp),refGet_ok l h (by decide) (by decide),Option.bind_some,i64w (x:=gt code rg 8+1) (by omega) (by omega),refTake_ok h hb hl hf _ (by omega),Option.bind_some]
   dsimp only
   simp only [r11_Take.j1]
   simp only [gt1,if_neg (show ¬ (false=true) by simp)] at ih ⊢
   by_cases h7 : gt code rg 8=7
   ·
    simp only [if_pos h7] at ih ⊢
    rw [refTakeNum_ok ht hb hl (by decide) (by decide) k (by omega),Option.bind_some]
    dsimp only
    rw [if_pos (by omega),i64w (x:=i+1) (by omega) (by omega),tw ht]
    exact ih
   ·
    simp only [if_neg h7] at ih ⊢
    rw [if_pos hi,if_pos (by omega),i64w (x:=rd a i+gt code rg 8) (by omega) (by omega),i64w (x:=rd a i+gt code rg 8 - 3) (by omega) (by omega),i64w (x:=i+1) (by omega) (by omega)]
    by_cases hn : rd a i+gt code rg 8 - 3 < 0
    ·
     simp only [if_pos hn] at ih ⊢
     rw [if_pos (by omega)]
     exact ih
    ·
     simp only [if_neg hn] at ih ⊢
     by_cases hm : rd a i+gt code rg 8 - 3 > 44
     ·
      simp only [if_pos hm] at ih ⊢
      rw [if_pos (by omega)]
      exact ih
     ·
      simp only [if_neg hm] at ih ⊢
      rw [if_pos (by omega)]
      exact ih
theorem takes_ok {a : List Int} {intra : Bool} (hla : a.length≤100) {code0 rg0 at0 code rg at_ : Int} {l0 l : List Int} (hg : coder_good.f code0 rg0 l0 at0=some (code,rg,l,at_)) (h : DOk code rg at_) (hb : Bytes l) (hl : l.length≤9000) (k : Nat) (hk : 200≤k) :
  gain_Take.f k code0 rg0 l0 at0 a intra=if intra=true∨rt a=true then some ((gts l a intra 5 0 code rg at_ []).1,(gts l a intra 5 0 code rg at_ []).2.1,l,(gts l a intra 5 0 code rg at_ []).2.2.1,(gts l a intra 5 0 code rg at_ []).2.2.2,0) else some ((tk l code rg at_ 0 1 1).1,(tk l code rg at_ 0 1 1).2.1,l,(tk l code rg at_ 0 1 1).2.2, [],1):=by
 obtain ⟨k,rfl⟩ : ∃ m,k=m+1:=⟨k - 1,by omega⟩
 have key : intra=true∨rt a=true→gain_Take.j0 (k+1) a intra false code0 rg0 l0 at0=some ((gts l a intra 5 0 code rg at_ []).1,(gts l a intra 5 0 code rg at_ []).2.1,l,(gts l a intra 5 0 code rg at_ []).2.2.1,(gts l a intra 5 0 code rg at_ []).2.2.2,0):=fun ha=>by
  simp only [gain_Take.j0]
  rw [if_neg (by simp)]
  exact takes_l0 ha 5 0 _ _ _ _ _ _ _ _ [] k hg h hb hl (by simp) (by omega) (by omega) (by simp) (by omega)
 unfold gain_Take.f
 cases intra with
 | true=>rw [if_pos rfl,if_pos (.inl rfl)];exact key (.inl rfl)
 | false =>
  rw [if_neg (by simp),right_ok a (by omega) _ (by omega),Option.bind_some]
  cases hr : rt a with
  | true=>rw [if_pos (.inr rfl)];exact key (.inr hr)
  | false =>
   rw [if_neg (by simp)]
   simp only [gain_Take.j0,Bool.not_false, ↓reduceIte]
   rw [take_ok hg h hb hl ⟨by decide,by decide,by decide,by decide⟩ k (by omega),Option.bind_some]
theorem refTakes_ok {a : List Int} {intra : Bool} (ha : intra=true∨rt a=true) {code rg at_ : Int} {l : List Int} (h : DOk code rg at_) (hb : Bytes l) (hl : l.length≤9000) (k : Nat) (hk : 200≤k) :
  r11_Take.f k code rg l at_ a intra=some ((gts l a intra 5 0 code rg at_ []).1,(gts l a intra 5 0 code rg at_ []).2.1,l,(gts l a intra 5 0 code rg at_ []).2.2.1,(gts l a intra 5 0 code rg at_ []).2.2.2):=refTakes_l0 ha hb hl 5 0 _ _ _ [] k h (by omega) (by omega) (by simp) (by omega)
end Go.Proofs.Ytnmbndkojpjkmaa.Gan
/- Gains put: what the program and the document put, step by step. -/
namespace Go.Proofs.Ytnmbndkojpjkmaa.Gan
open Go.RowKit Go.Proofs.YtnmbndkojpjkmaaW.PrintWords Go.Proofs.YtnmbndkojpjkmaaW.PrintMore Go.Proofs.Ytnmbndkojpjkmaa.Prt Go.Proofs.Ytnmbndkojpjkmaa.Val Go.Proofs.Ytnmbndkojpjkmaa.Cod
set_option linter.unusedVariables false
end Go.Proofs.Ytnmbndkojpjkmaa.Gan
/- What is written: the program's bytes are the document's. -/
namespace Go.Proofs.Ytnmbndkojpjkmaa.Pak
open Go Go.RowKit Go.Proofs.YtnmbndkojpjkmaaW.PrintWords Go.Proofs.Ytnmbndkojpjkmaa.Prt Go.Proofs.Ytnmbndkojpjkmaa.Alo
set_option linter.unusedVariables false
set_option linter.unusedSimpArgs false
open Go.Proofs.Ytnmbndkojpjkmaa.Cod (EOk)
open Go.Proofs.Ytnmbndkojpjkmaa.Val (Bytes four)
variable {V K : Nat→Nat→Int}
def gainsB (b : Int) (A : List (List Int)) : Bool:=decide ((A.length : Int)=b) && A.all Gan.rt
theorem all_step {A : List (List Int)} {i : Nat} (h : i < A.length) : (A.drop i).all Gan.rt=(Gan.rt (rd_L1 A (i : Int)) && (A.drop (i+1)).all Gan.rt):=by
 have : rd_L1 A (i : Int)=A[i]:=by
  unfold rd_L1
  rw [List.getD_eq_getElem?_getD,Int.toNat_natCast,List.getElem?_eq_getElem h]
  rfl
 rw [List.drop_eq_getElem_cons h,List.all_cons,this]
theorem gains_l0 {A : List (List Int)} {b : Int} (hA : A.length≤100) (ha : ∀ g ∈ A,g.length≤100) : ∀ (d i q : Nat),i+d=A.length→200≤q →
  cpack_gains.l0 (q+d+1) b A A (A.length : Int) (i : Int)=some ((A.drop i).all Gan.rt && ((A.length : Int) == b))∧r12_Fair.l0 (q+d+1) A (i : Int)=some ((A.drop i).all Gan.rt)
 | 0,i,q,h,hq=>by
  rw [cpack_gains.l0,if_neg (by omega),r12_Fair.l0,if_neg (by omega),List.drop_eq_nil_of_le (by omega)]
  exact ⟨rfl,rfl⟩
 | d+1,i,q,h,hq=>by
  have hm:=ha _ (rdl_mem (show i < A.length by omega))
  obtain ⟨e1,e2⟩:=gains_l0 (b:=b) hA ha d (i+1) q (by omega) hq
  constructor
  ·
   rw [show q+(d+1)+1=(q+d+1)+1 by omega,cpack_gains.l0,if_pos (by omega),if_pos (by omega),if_pos (by omega),Gan.right_ok _ (by omega) _ (by omega),Option.bind_some,all_step (by omega),w64 (x:=(i : Int)+1) (by omega) (by omega),show (i : Int)+1=((i+1 : Nat) : Int) by omega]
   cases hr : Gan.rt (rd_L1 A (i : Int)) with
   | false=>rw [if_neg (by simp)];rfl
   | true=>rw [if_pos rfl,Bool.true_and];exact e1
  ·
   rw [show q+(d+1)+1=(q+d+1)+1 by omega,r12_Fair.l0,if_pos (by omega),if_pos (by omega),Gan.refRight_ok _ (by omega) _ (by omega),Option.bind_some,all_step (by omega),w64 (x:=(i : Int)+1) (by omega) (by omega),show (i : Int)+1=((i+1 : Nat) : Int) by omega]
   cases hr : Gan.rt (rd_L1 A (i : Int)) with
   | false=>rw [if_neg (by simp)];rfl
   | true=>rw [if_pos rfl,Bool.true_and];exact e2
theorem gains_f {A : List (List Int)} (b : Int) (hA : A.length≤100) (ha : ∀ g ∈ A,g.length≤100) {q : Nat} (hq : 400≤q) : cpack_gains.f q b A=some (gainsB b A)∧r12_Fair.f q b A=some (gainsB b A):=by
 obtain ⟨r,rfl⟩ : ∃ r,q=r+A.length+1:=⟨q - A.length - 1,by omega⟩
 obtain ⟨e1,e2⟩:=gains_l0 (b:=b) hA ha A.length 0 r (by omega) (by omega)
 unfold cpack_gains.f r12_Fair.f gainsB
 rw [show (0 : Int)=((0 : Nat) : Int) from rfl,e1,e2,List.drop_zero]
 by_cases hl : (A.length : Int)=b
 ·
  rw [if_pos hl,decide_eq_true hl,Bool.true_and,hl,beq_self_eq_true,Bool.and_true];exact ⟨rfl,rfl⟩
 ·
  rw [if_neg hl,decide_eq_false hl,Bool.false_and,beq_eq_false_iff_ne.mpr hl,Bool.and_false];exact ⟨rfl,rfl⟩
def ofL (A : List (List Int)) (i : Int) : List Int:=if i < (A.length : Int) then rd_L1 A i else []
theorem of_f (A : List (List Int)) (i : Nat) : cpack_of.f A (i : Int)=some (ofL A (i : Int))∧r13_At.f A (i : Int)=some (ofL A (i : Int)):=by
 unfold cpack_of.f r13_At.f ofL
 by_cases h : (i : Int) < (A.length : Int)
 ·
  rw [if_pos h,if_pos (by omega),if_pos h];exact ⟨rfl,rfl⟩
 ·
  rw [if_neg h,if_neg h];exact ⟨rfl,rfl⟩
theorem of_len {A : List (List Int)} (ha : ∀ g ∈ A,g.length≤60) (i : Nat) : (ofL A (i : Int)).length≤60:=by
 unfold ofL
 split
 ·
  exact ha _ (rdl_mem (by omega))
 ·
  simp
end Go.Proofs.Ytnmbndkojpjkmaa.Pak
/- What is read: the program's pack is the document's. -/
namespace Go.Proofs.Ytnmbndkojpjkmaa.Pak
open Go Go.RowKit Go.Proofs.YtnmbndkojpjkmaaW.PrintWords Go.Proofs.Ytnmbndkojpjkmaa.Prt Go.Proofs.Ytnmbndkojpjkmaa.Alo
set_option linter.unusedVariables false
set_option linter.unusedSimpArgs false
open Go.Proofs.Ytnmbndkojpjkmaa.Cod (DOk gt tk tn)
open Go.Proofs.Ytnmbndkojpjkmaa.Val (Bytes)
variable {V K : Nat→Nat→Int}
theorem gts_rt {F a : List Int} {I : Bool} (hb : Bytes F) (hF : F.length≤9000) {c r t : Int} (h : DOk c r t) : Gan.rt (Gan.gts F a I 5 0 c r t []).2.2.2=true:=by
 obtain ⟨_,h1,h2⟩:=Gan.gts_ok (a:=a) (intra:=I) hb hF 5 0 c r t [] h (by simp)
 unfold Gan.rt
 rw [h1,Bool.and_eq_true]
 exact ⟨rfl,List.all_eq_true.2 fun x hx=>decide_eq_true (h2 x hx)⟩
theorem ofL_rt {A : List (List Int)} {b : Int} {i : Nat} (h : gainsB b A=true) (hi : (i : Int) < b) : Gan.rt (ofL A (i : Int))=true:=by
 unfold gainsB at h
 rw [Bool.and_eq_true] at h
 obtain ⟨h1,h2⟩:=h
 have h1:=of_decide_eq_true h1
 unfold ofL
 rw [if_pos (by omega)]
 exact List.all_eq_true.1 h2 _ (rdl_mem (by omega))
theorem gains_r {a b : Int} {I : Bool} {F : List Int} {A : List (List Int)} (hb : Bytes F) (hF : F.length≤9000) (hA : I=true∨gainsB b A=true) (ha : ∀ g ∈ A,g.length≤60) (hb2 : b≤2) :
  ∀ (d i : Nat) (c r t : Int) (acc : List (List Int)),(i : Int)+d=b→acc.length=i→DOk c r t→(∀ g ∈ acc,Gan.rt g=true) →
  ∃ c' r' t' G,DOk c' r' t'∧(G.length : Int)=b∧(∀ g ∈ G,Gan.rt g=true) ∧
   (∀ q,300≤q→cpack_Read.l0 (q+d+1) a b A b (i : Int) c r F t I acc=(alloc_Pulses.f q a b G).bind fun bt=>cpack_Read.l1 q bt.1 b 0 c' r' F t' I G []) ∧
   (∀ q,300≤q→r13_Read.l0 (q+d+1) a b A (i : Int) c r F t I acc=(r12_Pulses.f q a b G).bind fun k=>r13_Read.l1 q b k 0 c' r' F t' I G [])
 | 0,i,c,r,t,acc,h,hl,hd,hg=>⟨c,r,t,acc,hd,by omega,hg,fun q hq=>by rw [cpack_Read.l0,if_neg (by omega)],fun q hq=>by rw [r13_Read.l0,if_neg (by omega)]⟩
 | d+1,i,c,r,t,acc,h,hl,hd,hg=>by
  have hc : I=true∨Gan.rt (ofL A (i : Int))=true:=hA.imp id (fun h2=>ofL_rt h2 (by omega))
  have ho:=of_len ha i
  have hd2:=(Gan.gts_ok (a:=ofL A (i : Int)) (intra:=I) hb hF 5 0 c r t [] hd (by simp)).1
  obtain ⟨c',r',t',G,hd',h1,h2,p1,p2⟩:=gains_r (a:=a) hb hF hA ha hb2 d (i+1) _ _ _ (acc ++ [(Gan.gts F (ofL A (i : Int)) I 5 0 c r t []).2.2.2]) (by omega) (by simp [hl]) hd2 (fun g hg' => (List.mem_append.1 hg').elim (hg g) (fun h=>by rw [List.mem_singleton.1 h];exact gts_rt hb hF hd))
  refine ⟨c',r',t',G,hd',h1,h2,fun q hq => ?_,fun q hq => ?_⟩
  ·
   rw [show q+(d+1)+1=(q+d+1)+1 by omega,cpack_Read.l0,if_pos (by omega),(of_f A i).1,Option.bind_some,Gan.takes_ok (by omega) (Cod.good_ok hd) hd hb hF _ (by omega),if_pos hc,Option.bind_some,if_pos (by omega),w64 (by omega) (by omega),show (i : Int)+1=((i+1 : Nat) : Int) by omega]
   exact p1 q hq
  ·
   rw [show q+(d+1)+1=(q+d+1)+1 by omega,r13_Read.l0,if_pos (by omega),(of_f A i).2,Option.bind_some,Gan.refTakes_ok hc hd hb hF _ (by omega),Option.bind_some,if_pos (by omega),w64 (by omega) (by omega),show (i : Int)+1=((i+1 : Nat) : Int) by omega]
   exact p2 q hq
theorem cnt_le : ∀ b : Fin 5, ∀ k : Fin 13,((comb_Count.f (W b.1 : Int) (k.1 : Int)).map fun p=>decide (p.1≤4294967296))=some true:=by decide +kernel
theorem V_le (D : Com.Cnt V) {n k : Nat} (hn : n < 5) (hk : k < 13) : V (W n) k≤4294967296:=by
 have hW:=W_in hn
 have h:=cnt_le ⟨n,hn⟩ ⟨k,hk⟩
 dsimp only at h
 rw [Com.count_ok D (by omega) (by omega) hk] at h
 simpa using h
theorem szs_zero : ∀ {y : List Int},Com.szs y=0→y=List.replicate y.length 0
 | [],_=>rfl
 | v :: l,h=>by
  have h1:=Com.sz_in v
  have h2:=Com.szs_in l
  simp only [Com.szs] at h
  have h3 : Com.sz v=0:=by omega
  have h4 : v=0:=by
   unfold Com.sz at h3
   by_cases hv : -12≤v∧v≤12
   ·
    rw [if_pos hv] at h3;split at h3 <;> omega
   ·
    rw [if_neg hv] at h3;omega
  rw [List.length_cons,List.replicate_succ, ← szs_zero (y:=l) (by omega),h4]
theorem szs_rep : ∀ n : Nat,Com.szs (List.replicate n 0)=0
 | 0=>rfl
 | n+1=>by rw [List.replicate_succ,Com.szs,szs_rep n];decide
theorem rdl_app (acc : List (List Int)) (y : List Int) {m : Nat} (h : m < acc.length) : rd_L1 (acc ++ [y]) (m : Int)=rd_L1 acc (m : Int):=by
 unfold rd_L1
 rw [List.getD_eq_getElem?_getD,List.getD_eq_getElem?_getD,Int.toNat_natCast,List.getElem?_append_left h]
theorem rdl_last (acc : List (List Int)) (y : List Int) : rd_L1 (acc ++ [y]) (acc.length : Int)=y:=by
 unfold rd_L1
 rw [List.getD_eq_getElem?_getD,Int.toNat_natCast,List.getElem?_append_right (Nat.le_refl _)]
 simp
def Rw (row : List (List Int)) (ks : List Int) (n : Nat) : Prop:=row.length=n∧∀ m : Nat,m < n→okV (rd_L1 row (m : Int)) (W m : Int) (rd ks (m : Int))=true
theorem Rw.snoc {row : List (List Int)} {ks : List Int} {n : Nat} (h : Rw row ks n) {y : List Int} (hy : okV y (W n : Int) (rd ks (n : Int))=true) : Rw (row ++ [y]) ks (n+1):=by
 refine ⟨by simp [h.1],fun m hm => ?_⟩
 by_cases e : m=n
 ·
  subst e
  have:=rdl_last row y
  rw [h.1] at this
  rw [this];exact hy
 ·
  rw [rdl_app _ _ (by have:=h.1;omega)]
  exact h.2 m (by omega)
theorem Rw.okR {row : List (List Int)} {ks : List Int} (h : Rw row ks 5) : ∀ (d b : Nat),b+d=5→okR row ks d b=true
 | 0,b,_=>rfl
 | d+1,b,hb=>by rw [Pak.okR,Bool.and_eq_true];exact ⟨h.2 b (by omega),Rw.okR h d (b+1) (by omega)⟩
theorem Rw.small {row : List (List Int)} {ks : List Int} (h : Rw row ks 5) : ∀ y ∈ row,y.length≤60:=fun y hy=>by
 obtain ⟨j,hj,rfl⟩:=List.mem_iff_getElem.1 hy
 have h1:=h.1
 have h2:=h.2 j (by omega)
 have hW:=W_in (show j < 5 by omega)
 unfold okV rd_L1 at h2
 rw [List.getD_eq_getElem?_getD,Int.toNat_natCast,List.getElem?_eq_getElem hj] at h2
 have h2:=(of_decide_eq_true h2).1
 simp only [Option.getD_some] at h2
 omega
theorem row_r (D : Com.Cnt V) {b : Int} {I : Bool} {F : List Int} {G out : List (List Int)} {Y : List (List (List Int))} {i : Nat} (hi : i < out.length) (ho : out.length≤100) (hY : Y.length≤100) (hks : Ks (rd_L1 out (i : Int))) (hb : Bytes F) (hF : F.length≤9000) :
  ∀ (d n : Nat) (c r t : Int) (acc : List (List Int)),n+d=5→Rw acc (rd_L1 out (i : Int)) n→DOk c r t →
  ∃ c' r' t' row,DOk c' r' t'∧Rw row (rd_L1 out (i : Int)) 5 ∧
   (∀ q,6000≤q→cpack_Read.l2 (q+d+1) out (i : Int) acc b (i : Int) (n : Int) c r F t I G Y=cpack_Read.l1 q out b ((i+1 : Nat) : Int) c' r' F t' I G (Y ++ [row])) ∧
   (∀ q,6000≤q→r13_Read.l2 (q+d+1) b out (i : Int) acc (n : Int) c r F t I G Y=r13_Read.l1 q b out ((i+1 : Nat) : Int) c' r' F t' I G (Y ++ [row]))
 | 0,n,c,r,t,acc,h,hR,hd=>by
  obtain rfl : n=5:=by omega
  refine ⟨c,r,t,acc,hd,hR,fun q hq => ?_,fun q hq => ?_⟩
  ·
   rw [cpack_Read.l2,if_neg (by omega),if_pos (by omega),w64 (by omega) (by omega),show (i : Int)+1=((i+1 : Nat) : Int) by omega]
  ·
   rw [r13_Read.l2,if_neg (by omega),if_pos (by omega),w64 (by omega) (by omega),show (i : Int)+1=((i+1 : Nat) : Int) by omega]
 | d+1,n,c,r,t,acc,h,hR,hd=>by
  have hkr:=Ks_rd hks (show n < 5 by omega)
  have hW:=W_in (show n < 5 by omega)
  have hal:=hR.1
  obtain ⟨kk,hkk,hk13⟩ : ∃ kk : Nat,(kk : Int)=rd (rd_L1 out (i : Int)) (n : Int)∧kk < 13:=⟨(rd (rd_L1 out (i : Int)) (n : Int)).toNat,by omega,by omega⟩
  by_cases h0 : rd (rd_L1 out (i : Int)) (n : Int) > 0
  ·
   have hp:=D.pos (show W n < 17 by omega) hk13 (by omega)
   have hl:=V_le D (show n < 5 by omega) hk13
   have ht:=Cod.tn_ok (n:=V (W n) kk) hb hF hd (by omega) hl
   obtain ⟨y,hu,hy⟩:=Com.vector_ok D (show 1≤W n by omega) (by omega) hk13 ht.2.1 ht.2.2
   have hok : okV y (W n : Int) (rd (rd_L1 out (i : Int)) (n : Int))=true:=by
    unfold okV
    rw [hu.len,Com.Unr.szs hk13 hu,hkk]
    simp
   obtain ⟨c',r',t',row,hd',hR',p1,p2⟩:=row_r D (b:=b) (I:=I) (G:=G) hi ho hY hks hb hF d (n+1) _ _ _ (acc ++ [y]) (by omega) (hR.snoc hok) ht.1
   refine ⟨c',r',t',row,hd',hR',fun q hq => ?_,fun q hq => ?_⟩
   ·
    rw [show q+(d+1)+1=(q+d+1)+1 by omega,cpack_Read.l2,if_pos (by omega),width_p (by omega),Option.bind_some,if_pos (by omega),if_pos (by omega),if_pos (by omega),if_pos (by omega),if_pos (by omega),if_pos (by rw [hks.1];omega),if_pos h0,Option.bind_some, ← hkk,Com.count_ok D (by omega) (by omega) hk13,Option.bind_some,
     Cod.takeNum_ok (Cod.good_ok hd) hd hb hF (by omega) hl _ (by omega),Option.bind_some,Option.bind_some,hy _ (by omega),Option.bind_some,if_pos (by omega),w64 (x:=(n : Int)+1) (by omega) (by omega),show (n : Int)+1=((n+1 : Nat) : Int) by omega]
    exact p1 q hq
   ·
    obtain ⟨y',hu',hy'⟩:=Com.refVector_ok D (n:=W n) (q:=q+d+1) (by omega) hk13 ht.2.1 ht.2.2 (by omega)
    obtain rfl:=Com.Unr.fn D (by omega) hk13 hu hu'
    rw [show q+(d+1)+1=(q+d+1)+1 by omega,r13_Read.l2,if_pos (by omega),width_r (by omega) (by omega),Option.bind_some,if_pos (by omega),if_pos (by omega),if_pos (by omega),if_pos (by rw [hks.1];omega),if_pos h0, ← hkk,Com.refCount_ok D (by omega) hk13 (by omega),Option.bind_some,
     Cod.refTakeNum_ok hd hb hF (by omega) hl _ (by omega),Option.bind_some,hy',Option.bind_some,if_pos (by omega),w64 (x:=(n : Int)+1) (by omega) (by omega),show (n : Int)+1=((n+1 : Nat) : Int) by omega]
    exact p2 q hq
  ·
   obtain rfl : kk=0:=by omega
   have hok : okV (List.replicate (W n) 0) (W n : Int) (rd (rd_L1 out (i : Int)) (n : Int))=true:=by
    unfold okV
    rw [szs_rep, ← hkk]
    simp
   obtain ⟨c',r',t',row,hd',hR',p1,p2⟩:=row_r D (b:=b) (I:=I) (G:=G) hi ho hY hks hb hF d (n+1) c r t (acc ++ [List.replicate (W n) 0]) (by omega) (hR.snoc hok) hd
   refine ⟨c',r',t',row,hd',hR',fun q hq => ?_,fun q hq => ?_⟩
   ·
    rw [show q+(d+1)+1=(q+d+1)+1 by omega,cpack_Read.l2,if_pos (by omega),width_p (by omega),Option.bind_some,if_pos (by omega),if_pos (by omega),if_pos (by omega),if_pos (by omega),if_pos (by omega),if_pos (by rw [hks.1];omega),if_neg h0,if_pos (by omega),w64 (x:=(n : Int)+1) (by omega) (by omega),show (n : Int)+1=((n+1 : Nat) : Int) by omega,Int.toNat_natCast]
    exact p1 q hq
   ·
    have hp:=D.pos (show W n < 17 by omega) hk13 (by omega)
    obtain ⟨y',hu',hy'⟩:=Com.refVector_ok D (n:=W n) (i:=0) (q:=q+d+1) (by omega) hk13 (Int.le_refl 0) hp (by omega)
    have e:=szs_zero (Com.Unr.szs hk13 hu')
    rw [hu'.len] at e
    subst e
    rw [show q+(d+1)+1=(q+d+1)+1 by omega,r13_Read.l2,if_pos (by omega),width_r (by omega) (by omega),Option.bind_some,if_pos (by omega),if_pos (by omega),if_pos (by omega),if_pos (by rw [hks.1];omega),if_neg h0, ← hkk,hy',Option.bind_some,if_pos (by omega),w64 (x:=(n : Int)+1) (by omega) (by omega),show (n : Int)+1=((n+1 : Nat) : Int) by omega]
    exact p2 q hq
def Chs (Y : List (List (List Int))) (out : List (List Int)) (n : Nat) : Prop:=Y.length=n∧∀ j : Nat,j < n→Rw (rd_L2 Y (j : Int)) (rd_L1 out (j : Int)) 5
theorem Chs.snoc {Y : List (List (List Int))} {out : List (List Int)} {n : Nat} (h : Chs Y out n) {row : List (List Int)} (hr : Rw row (rd_L1 out (n : Int)) 5) : Chs (Y ++ [row]) out (n+1):=by
 refine ⟨by simp [h.1],fun j hj => ?_⟩
 have h1:=h.1
 by_cases e : j=n
 ·
  subst e
  have : rd_L2 (Y ++ [row]) (j : Int)=row:=by
   unfold rd_L2
   rw [List.getD_eq_getElem?_getD,Int.toNat_natCast,List.getElem?_append_right (by omega)]
   simp [h1]
  rw [this];exact hr
 ·
  have : rd_L2 (Y ++ [row]) (j : Int)=rd_L2 Y (j : Int):=by
   unfold rd_L2
   rw [List.getD_eq_getElem?_getD,List.getD_eq_getElem?_getD,Int.toNat_natCast,List.getElem?_append_left (by omega)]
  rw [this];exact h.2 j (by omega)
theorem Chs.okA {Y : List (List (List Int))} {out : List (List Int)} {n : Nat} (h : Chs Y out n) : ∀ (d i : Nat),i+d=n→okA Y out d i=true
 | 0,i,_=>rfl
 | d+1,i,hi=>by
  have hr:=h.2 i (by omega)
  rw [Pak.okA,Bool.and_eq_true,Bool.and_eq_true]
  exact ⟨decide_eq_true hr.1,hr.okR 5 0 rfl,Chs.okA h d (i+1) (by omega)⟩
theorem Chs.sized {Y : List (List (List Int))} {out : List (List Int)} {n : Nat} (h : Chs Y out n) (hn : n≤10) : Sized Y :=
 ⟨by rw [h.1];exact hn,fun i hi=>⟨by have:=(h.2 i (by rw [← h.1];exact hi)).1;omega,(h.2 i (by rw [← h.1];exact hi)).small⟩⟩
theorem chans_r (D : Com.Cnt V) {b : Int} {I : Bool} {F : List Int} {G out : List (List Int)} (ho : out.length≤100) (hob : (out.length : Int)=b) (hks : ∀ i : Nat,i < out.length→Ks (rd_L1 out (i : Int))) (hb : Bytes F) (hF : F.length≤9000) :
  ∀ (d i : Nat) (c r t : Int) (Y : List (List (List Int))),i+d=out.length→Chs Y out i→DOk c r t →
  ∃ Y',Chs Y' out out.length∧(∀ q,6000+10 * d < q→cpack_Read.l1 q out b (i : Int) c r F t I G Y=some (I,G,Y',0))∧(∀ q,6000+10 * d < q→r13_Read.l1 q b out (i : Int) c r F t I G Y=some (I,G,Y',0))
 | 0,i,c,r,t,Y,h,hY,hd=>by
  obtain rfl : i=out.length:=by omega
  refine ⟨Y,hY,fun q hq => ?_,fun q hq => ?_⟩
  ·
   obtain ⟨q,rfl⟩ : ∃ p,q=p+1:=⟨q - 1,by omega⟩
   rw [cpack_Read.l1,if_neg (by omega)]
  ·
   obtain ⟨q,rfl⟩ : ∃ p,q=p+1:=⟨q - 1,by omega⟩
   rw [r13_Read.l1,if_neg (by omega)]
 | d+1,i,c,r,t,Y,h,hY,hd=>by
  have hl:=hY.1
  obtain ⟨c1,r1,t1,row,hd1,hR,p1,p2⟩:=row_r D (b:=b) (I:=I) (G:=G) (Y:=Y) (show i < out.length by omega) ho (by omega) (hks i (by omega)) hb hF 5 0 c r t [] rfl ⟨rfl,fun m hm=>absurd hm (by omega)⟩ hd
  obtain ⟨Y',hY',q1,q2⟩:=chans_r D (I:=I) (G:=G) ho hob hks hb hF d (i+1) c1 r1 t1 (Y ++ [row]) (by omega) (hY.snoc hR) hd1
  refine ⟨Y',hY',fun q hq => ?_,fun q hq => ?_⟩
  ·
   obtain ⟨q,rfl⟩ : ∃ p,q=(p+5+1)+1:=⟨q - 7,by omega⟩
   rw [cpack_Read.l1,if_pos (by omega),show (0 : Int)=((0 : Nat) : Int) from rfl,p1 q (by omega)]
   exact q1 q (by omega)
  ·
   obtain ⟨q,rfl⟩ : ∃ p,q=(p+5+1)+1:=⟨q - 7,by omega⟩
   rw [r13_Read.l1,if_pos (by omega),show (0 : Int)=((0 : Nat) : Int) from rfl,p2 q (by omega)]
   exact q2 q (by omega)
theorem rt_gains {G : List (List Int)} {b : Int} (h : (G.length : Int)=b) (hg : ∀ g ∈ G,Gan.rt g=true) : gainsB b G=true:=by
 unfold gainsB
 rw [Bool.and_eq_true]
 exact ⟨decide_eq_true h,List.all_eq_true.2 hg⟩
theorem rest_r (C : Com.Cst K) (D : Com.Cnt V) {a b : Int} {I : Bool} {F : List Int} {A : List (List Int)} (hab : rightB a b=true) (hb : Bytes F) (hF : F.length≤9000) (ha : ∀ g ∈ A,g.length≤60) (hA : I=true∨gainsB b A=true) {c r t : Int} (hd : DOk c r t) :
  ∃ G Y out,Good K a b G Y out∧Chs Y out out.length∧(∀ g ∈ G,Gan.rt g=true)∧∀ q,8000≤q→cpack_Read.j0 q a b A false c r F t I=some (I,G,Y,0)∧r13_Read.j0 q a b A false c r F t I=some (I,G,Y,0):=by
 have hab' := right_iff.1 hab
 obtain ⟨n,hn⟩ : ∃ n : Nat,(n : Int)=b:=⟨b.toNat,by omega⟩
 obtain ⟨c1,r1,t1,G,hd1,hG,hg,p1,p2⟩:=gains_r (a:=a) hb hF hA ha (by omega) n 0 c r t [] (by omega) rfl hd (by simp)
 have hgl : ∀ g ∈ G,g.length≤100:=fun g h=>by have:=Gan.rt_len (hg g h);omega
 rcases pulses C a b (l2:=G) (by omega) hgl with ⟨_,hlb,out,ho,hc,e1,e2,e3⟩ | ⟨_,h2⟩
 ·
  obtain ⟨Y,hY,q1,q2⟩:=chans_r D (b:=b) (I:=I) (G:=G) (by omega) (by omega) (fun i hi=>(hc i (by omega)).ks) hb hF out.length 0 c1 r1 t1 [] (by omega) ⟨rfl,fun j hj=>absurd hj (by omega)⟩ hd1
  have hYl:=hY.1
  refine ⟨G,Y,out,⟨hab,hG,by omega,ho,hc,e1,e2,e3, ?_⟩,hY,hg,fun q hq => ?_⟩
  ·
   exact hY.okA Y.length 0 (by omega)
  ·
   obtain ⟨q,rfl⟩ : ∃ p,q=(p+n+1)+1:=⟨q - n - 2,by omega⟩
   constructor
   ·
    rw [cpack_Read.j0,if_neg (by simp),show (0 : Int)=((0 : Nat) : Int) from rfl,p1 q (by omega),e1 q (by omega),Option.bind_some]
    exact q1 q (by omega)
   ·
    rw [r13_Read.j0,if_neg (by simp),show (0 : Int)=((0 : Nat) : Int) from rfl,p2 q (by omega),e2 q (by omega),Option.bind_some]
    exact q2 q (by omega)
 ·
  rcases h2 with h2|h2
  ·
   rw [hab] at h2;exact absurd h2 (by simp)
  ·
   have h3:=h2 7000 (Nat.le_refl _)
   rw [(gains_f b (by omega) hgl (by omega)).2,rt_gains hG hg] at h3
   exact absurd h3 (by simp)
theorem j0_bad {a b c r t : Int} {I : Bool} {F : List Int} {A : List (List Int)} (q : Nat) : cpack_Read.j0 (q+1) a b A true c r F t I=some (false, [], [],1)∧r13_Read.j0 (q+1) a b A true c r F t I=some (false, [], [],1):=by
 rw [cpack_Read.j0,if_pos rfl,r13_Read.j0,if_pos rfl]
 exact ⟨rfl,rfl⟩
theorem read_ok (C : Com.Cst K) (D : Com.Cnt V) {a b : Int} {F : List Int} {A : List (List Int)} (hab : rightB a b=true) (hb : Bytes F) (hF : (F.length : Int)=a) (hA : A.length≤10) (ha : ∀ g ∈ A,g.length≤60) :
  (∃ I G Y out,Good K a b G Y out∧Chs Y out out.length∧(∀ g ∈ G,Gan.rt g=true)∧(I=true∨gainsB b A=true)∧∀ q,9000≤q→cpack_Read.f q a b F A=some (I,G,Y,0)∧r13_Read.f q a b F A=some (I,G,Y,0)) ∨
  (gainsB b A=false∧∀ q,9000≤q→cpack_Read.f q a b F A=some (false, [], [],1)∧r13_Read.f q a b F A=some (false, [], [],1)):=by
 have hab' := right_iff.1 hab
 have hF9 : F.length≤9000:=by omega
 have hd:=Cod.open_ok hb
 have hgt:=Cod.gt_bound (code:=Cod.head4 F) hd.1 hd.2.2.1 (show (1 : Int)≤2 by decide) (by decide)
 have hf:=Cod.gt_fair (code:=Cod.head4 F) hd.1 hd.2.2.1 (show (1 : Int)≤2 by decide) (by decide)
 have hd2:=Cod.tk_ok hb hF9 hd hf
 have open1 : ∀ q,9000≤q→∀ res,((if gt (Cod.head4 F) 4294967295 2=1 then (cpack_Read.j0 q a b A false (tk F (Cod.head4 F) 4294967295 4 (gt (Cod.head4 F) 4294967295 2) (gt (Cod.head4 F) 4294967295 2+1) 2).1 (tk F (Cod.head4 F) 4294967295 4 (gt (Cod.head4 F) 4294967295 2) (gt (Cod.head4 F) 4294967295 2+1) 2).2.1 F (tk F (Cod.head4 F) 4294967295 4 (gt (Cod.head4 F) 4294967295 2) (gt (Cod.head4 F) 4294967295 2+1) 2).2.2 (gt (Cod.head4 F) 4294967295 2 == 1)) else ((cpack_gains.f q b A).bind fun t520=>(cpack_Read.j0 q a b A (!t520) (tk F (Cod.head4 F) 4294967295 4 (gt (Cod.head4 F) 4294967295 2) (gt (Cod.head4 F) 4294967295 2+1) 2).1 (tk F (Cod.head4 F) 4294967295 4 (gt (Cod.head4 F) 4294967295 2) (gt (Cod.head4 F) 4294967295 2+1) 2).2.1 F (tk F (Cod.head4 F) 4294967295 4 (gt (Cod.head4 F) 4294967295 2) (gt (Cod.head4 F) 4294967295 2+1) 2).2.2 (gt (Cod.head4 F) 4294967295 2 == 1))))=res)→cpack_Read.f q a b F A=res:=fun q hq res h=>by
  unfold cpack_Read.f
  rw [(right_f a b).1,Option.bind_some,hab,if_pos rfl,if_pos hF,Cod.open_f hb,Option.bind_some,Cod.get_ok (Cod.good_ok hd) hd (by decide) (by decide),Option.bind_some]
  dsimp only
  rw [w64 (x:=gt (Cod.head4 F) 4294967295 2+1) (by omega) (by omega),Cod.take_ok (Cod.good_ok hd) hd hb hF9 hf q (by omega),Option.bind_some]
  exact h
 have open2 : ∀ q,9000≤q→∀ res,((if gt (Cod.head4 F) 4294967295 2 > 0 then (r13_Read.j0 q a b A false (tk F (Cod.head4 F) 4294967295 4 (gt (Cod.head4 F) 4294967295 2) (gt (Cod.head4 F) 4294967295 2+1) 2).1 (tk F (Cod.head4 F) 4294967295 4 (gt (Cod.head4 F) 4294967295 2) (gt (Cod.head4 F) 4294967295 2+1) 2).2.1 F (tk F (Cod.head4 F) 4294967295 4 (gt (Cod.head4 F) 4294967295 2) (gt (Cod.head4 F) 4294967295 2+1) 2).2.2 (decide (gt (Cod.head4 F) 4294967295 2 > 0))) else ((r12_Fair.f q b A).bind fun t520=>(r13_Read.j0 q a b A (!t520) (tk F (Cod.head4 F) 4294967295 4 (gt (Cod.head4 F) 4294967295 2) (gt (Cod.head4 F) 4294967295 2+1) 2).1 (tk F (Cod.head4 F) 4294967295 4 (gt (Cod.head4 F) 4294967295 2) (gt (Cod.head4 F) 4294967295 2+1) 2).2.1 F (tk F (Cod.head4 F) 4294967295 4 (gt (Cod.head4 F) 4294967295 2) (gt (Cod.head4 F) 4294967295 2+1) 2).2.2 (decide (gt (Cod.head4 F) 4294967295 2 > 0)))))=res)→r13_Read.f q a b F A=res:=fun q hq res h=>by
  unfold r13_Read.f
  rw [(right_f a b).2,Option.bind_some,hab,if_pos rfl,if_pos hF,Cod.refOpen_f hb hF9 q (by omega),Option.bind_some]
  dsimp only
  rw [Cod.refGet_ok F hd (by decide) (by decide),Option.bind_some,w64 (x:=gt (Cod.head4 F) 4294967295 2+1) (by omega) (by omega),Cod.refTake_ok hd hb hF9 hf q (by omega),Option.bind_some]
  exact h
 generalize gt (Cod.head4 F) 4294967295 2=v at *
 generalize tk F (Cod.head4 F) 4294967295 4 v (v+1) 2=T at *
 have hg:=fun q (hq : 9000≤q)=>gains_f (A:=A) b (q:=q) (by omega) (fun g h=>by have:=ha g h;omega) (by omega)
 by_cases hv : v=1
 ·
  subst hv
  obtain ⟨G,Y,out,g,hY,hr,h⟩:=rest_r C D (I:=true) hab hb hF9 ha (.inl rfl) hd2
  refine .inl ⟨true,G,Y,out,g,hY,hr, .inl rfl,fun q hq=>⟨open1 q hq _ ?_,open2 q hq _ ?_⟩⟩
  ·
   rw [if_pos rfl];exact (h q (by omega)).1
  ·
   rw [if_pos (by decide)];exact (h q (by omega)).2
 ·
  obtain rfl : v=0:=by omega
  cases hgb : gainsB b A with
  | true =>
   obtain ⟨G,Y,out,g,hY,hr,h⟩:=rest_r C D (I:=false) hab hb hF9 ha (.inr hgb) hd2
   refine .inl ⟨false,G,Y,out,g,hY,hr, .inr rfl,fun q hq=>⟨open1 q hq _ ?_,open2 q hq _ ?_⟩⟩
   ·
    rw [if_neg (by decide),(hg q hq).1,Option.bind_some,hgb];exact (h q (by omega)).1
   ·
    rw [if_neg (by decide),(hg q hq).2,Option.bind_some,hgb];exact (h q (by omega)).2
  | false =>
   refine .inr ⟨rfl,fun q hq=>⟨open1 q hq _ ?_,open2 q hq _ ?_⟩⟩
   ·
    obtain ⟨q,rfl⟩ : ∃ p,q=p+1:=⟨q - 1,by omega⟩
    rw [if_neg (by decide),(hg _ hq).1,Option.bind_some,hgb];exact (j0_bad q).1
   ·
    obtain ⟨q,rfl⟩ : ∃ p,q=p+1:=⟨q - 1,by omega⟩
    rw [if_neg (by decide),(hg _ hq).2,Option.bind_some,hgb];exact (j0_bad q).2
theorem read_bad {a b : Int} {F : List Int} {A : List (List Int)} (h : rightB a b=false∨(F.length : Int)≠a) : ∃ e : Int, ∀ q,cpack_Read.f q a b F A=some (false, [], [],e)∧r13_Read.f q a b F A=some (false, [], [],e):=by
 cases hab : rightB a b with
 | false =>
  refine ⟨1,fun q => ?_⟩
  unfold cpack_Read.f r13_Read.f
  rw [(right_f a b).1,(right_f a b).2,Option.bind_some,Option.bind_some,hab,if_neg (by simp),if_neg (by simp)]
  exact ⟨rfl,rfl⟩
 | true =>
  refine ⟨2,fun q => ?_⟩
  have h2:=h.resolve_left (by rw [hab];simp)
  unfold cpack_Read.f r13_Read.f
  rw [(right_f a b).1,(right_f a b).2,Option.bind_some,Option.bind_some,hab,if_pos rfl,if_pos rfl,if_neg h2,if_neg h2]
  exact ⟨rfl,rfl⟩
theorem same12_l0 {l : List (List Int)} (h20 : l.length≤20) (hs : ∀ y ∈ l,y.length≤60) : ∀ (d i q : Nat),i+d=l.length→100+d≤q→r12_Same.l0 q l l (i : Int)=some true
 | 0,i,q,h,hq=>by
  obtain ⟨q,rfl⟩ : ∃ p,q=p+1:=⟨q - 1,by omega⟩
  rw [r12_Same.l0,if_neg (by omega)]
 | d+1,i,q,h,hq=>by
  obtain ⟨q,rfl⟩ : ∃ p,q=p+1:=⟨q - 1,by omega⟩
  have hm:=hs _ (rdl_mem (show i < l.length by omega))
  rw [r12_Same.l0,if_pos (by omega),if_pos (by omega),if_pos (by omega),Com.same_f (by omega) (by omega),Option.bind_some,if_pos rfl,w64 (by omega) (by omega),show (i : Int)+1=((i+1 : Nat) : Int) by omega]
  exact same12_l0 h20 hs d (i+1) q (by omega) (by omega)
theorem same12_f {l : List (List Int)} (h20 : l.length≤20) (hs : ∀ y ∈ l,y.length≤60) {q : Nat} (hq : 200≤q) : r12_Same.f q l l=some true:=by
 unfold r12_Same.f
 rw [if_pos rfl]
 exact same12_l0 h20 hs l.length 0 q (by omega) (by omega)
theorem same13_l0 {I : Bool} {G : List (List Int)} {Y : List (List (List Int))} (S : Sized Y) : ∀ (d i q : Nat),i+d=Y.length→300+d≤q→r13_Same.l0 q (i : Int) I G Y I G Y=some true
 | 0,i,q,h,hq=>by
  obtain ⟨q,rfl⟩ : ∃ p,q=p+1:=⟨q - 1,by omega⟩
  rw [r13_Same.l0,if_neg (by omega)]
 | d+1,i,q,h,hq=>by
  obtain ⟨q,rfl⟩ : ∃ p,q=p+1:=⟨q - 1,by omega⟩
  have hr:=S.r i (by omega)
  have hn:=S.n
  rw [r13_Same.l0,if_pos (by omega),if_pos (by omega),if_pos (by omega),same12_f (by omega) hr.2 (by omega),Option.bind_some,if_pos rfl,w64 (by omega) (by omega),show (i : Int)+1=((i+1 : Nat) : Int) by omega]
  exact same13_l0 S d (i+1) q (by omega) (by omega)
theorem same13 {I : Bool} {G : List (List Int)} {Y : List (List (List Int))} (hG : G.length≤20) (hg : ∀ g ∈ G,g.length≤60) (S : Sized Y) {q : Nat} (hq : 400≤q) : r13_Same.f q I G Y I G Y=some true:=by
 obtain ⟨q,rfl⟩ : ∃ p,q=p+1:=⟨q - 1,by omega⟩
 have hn:=S.n
 unfold r13_Same.f
 rw [if_neg (by simp),same12_f hG hg (by omega),Option.bind_some,if_pos rfl,r13_Same.j0,if_neg (by simp)]
 exact same13_l0 S Y.length 0 q (by omega) (by omega)
end Go.Proofs.Ytnmbndkojpjkmaa.Pak
