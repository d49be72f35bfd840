-- Lemmas, one text behind the other (wip/tools/pack.py).
import Derived.Test.YtifkhfnmbiefaaaZToneNormsWMore
import Derived.Lib.SmallJoins
import Derived.ChangeSlices
import Derived.Test.YtifkhfnmbiefaaaZToneNormsM1
import Derived.Test.YtifkhfnmbiefaaaZToneNormsM3
import Derived.Test.YtifkhfnmbiefaaaZToneNormsM2
import Derived.IntWalk
import Derived.Laws.BitsLemmas
/- What a law's parameter reads as: typed data out of the row's own reading. A structure of lemmas, kind by kind. -/
namespace Go.Proofs.Ytifkhfnmbiefaaa.Rd
open Go.ChangeShapes Go.WideShapes Go.Joins Go.Deep Go.Proofs.YtifkhfnmbiefaaaW.PrintWords

structure Opens {α : Type} (P : Program) (t : TypeId) (d : Kd α) (ok : α→Prop) : Prop where
  cells : P.cellsOf t=d.sz
  opens : ∀ {H : Type} {enc : TypeId × Value → H} {w : World} {spare : Nat → Bool} {held : Bool} {fuel : Nat} {cs : List Value} {x : DataW H × List MemPlace},
    DataW.trod enc P w 0 spare held fuel t cs=some x→∃ a : α,d.K w a cs∧ok a

theorem list_of {α : Type} {Q : Nat→α→Prop} : ∀ n : Nat,(∀ i,i < n→∃ a,Q i a)→∃ xs : List α,xs.length=n∧∀ i a,xs[i]? = some a→Q i a
  | 0,_=>⟨[],rfl,fun i a h=>by simp at h⟩
  | n+1,h=>by
    obtain ⟨xs,hl,hx⟩:=list_of n (fun i hi=>h i (by omega))
    obtain ⟨a,ha⟩:=h n (by omega)
    refine ⟨xs ++ [a],by simp [hl],fun i b hb => ?_⟩
    rcases Nat.lt_or_ge i n with hi|hi
    · rw [List.getElem?_append_left (by omega)] at hb
      exact hx i b hb
    · have h1:=(List.getElem?_eq_some_iff.1 hb).1
      rw [List.length_append,List.length_singleton] at h1
      obtain rfl : i=n:=by omega
      rw [List.getElem?_append_right (by omega)] at hb
      simp [hl] at hb
      exact hb ▸ ha

variable {P : Program} {t e : TypeId}
theorem Opens.int {k : IntKind} (ht : P.underlying t=some (.int k)) (hc : P.cellsOf t=1) : Opens P t (Kd.int k) (fun a=>(Lit.int k a).wf=true) :=
  ⟨hc,fun h=>by obtain ⟨n,rfl,_,hw⟩:=DataW.trod_int ht h;exact ⟨n,rfl,hw⟩⟩
theorem Opens.slice {α : Type} {d : Kd α} {ok : α→Prop} (ht : P.underlying t=some (.slice e)) (hc : P.cellsOf t=1) (he : Opens P e d ok) :
    Opens P t (Kd.slice e d) (fun l=>l.length≤maxLen∧∀ a ∈ l,ok a):=by
  refine ⟨hc,fun {H enc w spare held fuel cs x} h => ?_⟩
  rcases DataW.trod_slice ht h with ⟨rfl,_⟩ | ⟨a,len,cap,elems,rest,n,_,rfl,_,_,hl,hm,hlen,hel,_,_⟩
  · exact ⟨[],⟨none,0,rfl,Nat.le_refl _,Kd.C_nil _ _⟩,by simp [maxLen],by simp⟩
  · have each : ∀ i,i < len→∃ b, ∃ c,w.cells? 0 (a.add (i * P.cellsOf e)) (P.cellsOf e)=some c∧d.K w b c∧ok b:=by
      intro i hi
      have h1:=hel i hi
      rw [List.getElem?_eq_getElem (by omega)] at h1
      obtain ⟨c,hc1,hc2⟩:=Option.bind_eq_some_iff.1 h1
      obtain ⟨b,hb,hok⟩:=he.opens hc2
      exact ⟨b,c,hc1,hb,hok⟩
    obtain ⟨xs,hxl,hx⟩:=list_of len each
    refine ⟨xs,⟨some a,cap,by rw [hxl],by omega,rfl,by rw [hxl];simp only [maxLen] at hm;omega,fun _=>⟨a,rfl,fun j p hj => ?_⟩⟩,by omega,fun b hb => ?_⟩
    · obtain ⟨c,hc1,hK,_⟩:=hx j p hj
      obtain ⟨_,hcl,hcc⟩:=World.cells?_some hc1
      refine ⟨c,by rw [hcl,he.cells],hK,fun i u hu => ?_⟩
      have hi : i < c.length:=(List.getElem?_eq_some_iff.1 hu).1
      rw [← hu, ← hcc i (by omega), ← he.cells]
      rw [Go.Proofs.YtifkhfnmbiefaaaW.PrintWords.add_add]
    · obtain ⟨i,hi⟩:=List.getElem?_of_mem hb
      obtain ⟨_,_,_,hok⟩:=hx i b hi
      exact hok
theorem Opens.agg1 {α : Type} {d0 : Kd α} {ok0 : α→Prop} {f0 : Field} (hs : P.underlying t=some (.struct #[f0])) (hone : oneCellFields P #[f0]=true) (hC : P.cellsOf t=1) (h0 : Opens P f0.type d0 ok0) : Opens P t d0 ok0:=by
  obtain ⟨o0,k0⟩:=hone_of hone 0 f0 rfl
  refine ⟨by rw [hC, ← h0.cells,k0],fun {H enc w spare held fuel cs x} h => ?_⟩
  obtain ⟨xs,n,_,rfl,hl,hlen,hf⟩:=DataW.trod_struct hs h
  rw [hC] at hl
  obtain ⟨c0,rfl⟩ : ∃ c0,cs = [c0]:=by
    match cs,hl with
    | [c0],_=>exact ⟨c0,rfl⟩
  have h1:=hf 0 f0 rfl
  rw [List.getElem?_eq_getElem (by simp at hlen;omega),o0,k0] at h1
  exact h0.opens h1
theorem Opens.mono {α : Type} {d : Kd α} {ok ok' : α→Prop} (h : Opens P t d ok) (hok : ∀ a,ok a→ok' a) : Opens P t d ok' :=
  ⟨h.cells,fun hx=>by obtain ⟨a,ha,ho⟩:=h.opens hx;exact ⟨a,ha,hok a ho⟩⟩
end Go.Proofs.Ytifkhfnmbiefaaa.Rd
/- How many pulse vectors there are: the table's numbers, and what is true of them. -/
namespace Go.Proofs.Ytifkhfnmbiefaaa.Com
open Go Go.RowKit Go.Proofs.YtifkhfnmbiefaaaW.PrintWords Go.Proofs.Ytifkhfnmbiefaaa.Prt
set_option linter.unusedVariables false
set_option linter.unusedSimpArgs false
def VT : List Int := [1,0,0,0,0,0,0,0,0,0,0,0,0,1,2,2,2,2,2,2,2,2,2,2,2,2,1,4,8,12,16,20,24,28,32,36,40,44,48,1,6,18,38,66,102,146,198,258,326,402,486,578,1,8,32,88,192,360,608,952,1408,1992,2720,3608,4672,1,10,50,170,450,1002,1970,3530,5890,9290,14002,20330,28610,1,12,72,292,912,2364,5336,10836,20256,35436,58728,93060,142000,1,14,98,462,1666,4942,12642,28814,59906,115598,209762,361550,596610,1,16,128,688,2816,9424,27008,68464,157184,332688,658048,1229360,2187520,1,18,162,978,4482,16722,53154,148626,374274,864146,1854882,3742290,7159170,1,20,200,1340,6800,28004,97880,299660,822560,2060980,4780008,10377180,21278640,1,22,242,1782,9922,44726,170610,568150,1690370,4573910,11414898,26572086,58227906,1,24,288,2312,14016,68664,284000,1022760,3281280,9545560,25534368,63521352,148321344,1,26,338,2938,19266,101946,454610,1761370,6065410,18892250,53972178,143027898,354870594,1,28,392,3668,25872,147084,703640,2919620,10746400,35704060,108568488,305568564,803467056,1,30,450,4510,34050,207006,1057730,4680990,18347010,64797470,209070018,623207070,1732242690,1,32,512,5472,44032,285088,1549824,7288544,30316544,113461024,387328512,1219605600,3575055360]
def V0 (n k : Nat) : Int:=VT.getD (n * 13+k) 0
set_option maxRecDepth 100000 in
theorem T16 : comb_table.T 16=VT:=by decide +kernel
def pval (p : Nat) : Int:=if p % 2=1 then ((p+1) / 2 : Nat) else -((p / 2 : Nat) : Int)
def psz (p : Nat) : Nat:=(p+1) / 2
def P (V : Nat→Nat→Int) (n k : Nat) : Nat→Int
  | 0=>0
  | p+1=>P V n k p+V n (k - psz p)
def rowL (V : Nat→Nat→Int) (n : Nat) : List Int:=(List.range 13).map (V n)
theorem V_all : ∀ n : Fin 17, ∀ k : Fin 13,0≤V0 n.1 k.1∧V0 n.1 k.1≤1000000000000:=by decide +kernel
theorem V_zero : ∀ n : Fin 17,V0 n.1 0=1:=by decide +kernel
theorem V_none : ∀ k : Fin 13,0 < k.1→V0 0 k.1=0:=by decide +kernel
theorem V_pos : ∀ n : Fin 17, ∀ k : Fin 13,0 < n.1→0 < V0 n.1 k.1:=by decide +kernel
theorem P_all : ∀ n : Fin 16, ∀ k : Fin 13,P V0 n.1 k.1 (2 * k.1+1)=V0 (n.1+1) k.1:=by decide +kernel
theorem V_sum : ∀ n : Fin 16, ∀ k : Fin 12,V0 (n.1+1) (k.1+1)=V0 n.1 (k.1+1)+V0 (n.1+1) k.1+V0 n.1 k.1:=by decide +kernel
theorem rows_0 : ∀ n : Fin 17,psalteryref06_Row.f 3000 (n.1 : Int)=some (rowL V0 n.1):=by decide +kernel
structure Cnt (V : Nat→Nat→Int) : Prop where
  all : ∀ {n k : Nat},n < 17→k < 13→0≤V n k∧V n k≤1000000000000
  zero : ∀ {n : Nat},n < 17→V n 0=1
  none : ∀ {k : Nat},k < 13→0 < k→V 0 k=0
  pos : ∀ {n k : Nat},n < 17→k < 13→0 < n→0 < V n k
  top : ∀ {n k : Nat},n < 16→k < 13→P V n k (2 * k+1)=V (n+1) k
  sum : ∀ {n k : Nat},n < 16→k < 12→V (n+1) (k+1)=V n (k+1)+V (n+1) k+V n k
  table : ∀ {n k : Nat},n < 17→k < 13→comb_table.f (n : Int) (k : Int)=some (V n k)
  rows : ∀ {n : Nat},n < 17→∀ {k : Nat},3000≤k→psalteryref06_Row.f k (n : Int)=some (rowL V n)
  three : V 3 2=18
theorem exCnt : ∃ V,Cnt V:=⟨V0, {
  all:=fun {n k} hn hk=>V_all ⟨n,hn⟩ ⟨k,hk⟩
  zero:=fun {n} hn=>V_zero ⟨n,hn⟩
  none:=fun {k} hk h=>V_none ⟨k,hk⟩ h
  pos:=fun {n k} hn hk h=>V_pos ⟨n,hn⟩ ⟨k,hk⟩ h
  top:=fun {n k} hn hk=>P_all ⟨n,hn⟩ ⟨k,hk⟩
  sum:=fun {n k} hn hk=>V_sum ⟨n,hn⟩ ⟨k,hk⟩
  table:=fun {n k} hn hk=>by
    unfold comb_table.f
    rw [if_pos (by omega),if_pos (by omega),if_pos (by omega),if_pos (by omega),T16,Int.toNat_natCast,Int.toNat_natCast]
    rfl
  rows:=fun {n} hn {k} hk=>at_rounds (psalteryref06_Row.mono _) hk (rows_0 ⟨n,hn⟩)
  three:=by decide +kernel }⟩
end Go.Proofs.Ytifkhfnmbiefaaa.Com
/- The pulse vectors and their numbers: what the program's functions and the document's come to, on numbers and lists. -/
namespace Go.Proofs.Ytifkhfnmbiefaaa.Com
open Go Go.RowKit Go.Proofs.YtifkhfnmbiefaaaW.PrintWords Go.Proofs.Ytifkhfnmbiefaaa.Prt
set_option linter.unusedVariables false
set_option linter.unusedSimpArgs false

theorem w64 {x : Int} (h0 : -9223372036854775808≤x) (h1 : x≤9223372036854775807) : wrap64 x=x:=by unfold wrap64;omega
theorem u64 {x : Int} (h0 : 0≤x) (h1 : x≤18446744073709551615) : IntKind.u64.wrap x=x:=by
  have h : IntKind.u64.wrap x=x % 18446744073709551616:=by simp [IntKind.wrap,IntKind.bits,IntKind.signed]
  rw [h]
  omega
theorem rd_at {l : List Int} {i : Nat} (h : i < l.length) : rd l (i : Int)=l[i]:=by
  unfold rd
  rw [Int.toNat_natCast,List.getD_eq_getElem?_getD,List.getElem?_eq_getElem h,Option.getD_some]
variable {V : Nat→Nat→Int}
theorem VV (C : Cnt V) {n k : Nat} (hn : n < 17) (hk : k < 13) : 0≤V n k∧V n k≤1000000000000:=C.all hn hk
theorem P_succ (V : Nat→Nat→Int) (n k p : Nat) : P V n k (p+1)=P V n k p+V n (k - psz p):=rfl
theorem P_mono (C : Cnt V) {n k : Nat} (hn : n < 17) (hk : k < 13) {p : Nat} : ∀ {q : Nat},p≤q→P V n k p≤P V n k q:=by
  intro q
  induction q with
  | zero =>
    intro h
    obtain rfl : p=0:=by omega
    exact Int.le_refl _
  | succ q ih =>
    intro h
    rcases Nat.lt_or_ge q p with h1|h1
    · obtain rfl : p=q+1:=by omega
      exact Int.le_refl _
    · have:=ih h1
      have:=(VV C hn (show k - psz q < 13 by omega)).1
      rw [P_succ]
      omega
theorem P_top (C : Cnt V) {n k : Nat} (hn : n < 16) (hk : k < 13) : P V n k (2 * k+1)=V (n+1) k:=C.top hn hk
theorem P_nn (C : Cnt V) {n k : Nat} (hn : n < 17) (hk : k < 13) (p : Nat) : 0≤P V n k p:=P_mono C hn hk (Nat.zero_le p)
theorem P_odd (V : Nat→Nat→Int) (n k s : Nat) : P V n k (2 * (s+1)+1)=P V n k (2 * s+1)+2 * V n (k - (s+1)):=by
  rw [show 2 * (s+1)+1=(2 * s+1)+1+1 by omega,P_succ,P_succ,show psz (2 * s+1)=s+1 by unfold psz;omega,show psz (2 * s+1+1)=s+1 by unfold psz;omega]
  omega
theorem P_one (V : Nat→Nat→Int) (n k : Nat) : P V n k 1=V n k:=by
  rw [show (1 : Nat)=0+1 from rfl,P_succ]
  show 0+V n (k - 0)=V n k
  rw [Int.zero_add,Nat.sub_zero]

def Unr (V : Nat→Nat→Int) : Nat→Nat→Int→List Int→Prop
  | 0,k,i,y=>k=0∧i=0∧y = []
  | n+1,k,i,y => ∃ p ys,y=pval p :: ys∧psz p≤k∧P V n k p≤i∧i < P V n k (p+1)∧Unr V n (k - psz p) (i - P V n k p) ys
theorem Unr.len : ∀ {n k : Nat} {i : Int} {y : List Int},Unr V n k i y→y.length=n
  | 0,_,_,_,h=>by rw [h.2.2];rfl
  | n+1,k,i,y,⟨p,ys,e,_,_,_,h4⟩=>by rw [e,List.length_cons,Unr.len h4]
theorem pval_sz (p : Nat) : (pval p=(psz p : Int)∧p % 2=1)∨(pval p = -(psz p : Int)∧p % 2=0):=by
  unfold pval psz
  split
  · left;exact ⟨rfl,by assumption⟩
  · right;exact ⟨by congr 2;omega,by omega⟩
theorem pval_of (v : Int) : ∃ p,pval p=v∧(psz p : Int)=if v < 0 then -v else v:=by
  by_cases h : 0 < v
  · refine ⟨2 * v.toNat - 1, ?_, ?_⟩
    · unfold pval
      rw [if_pos (by omega)]
      omega
    · unfold psz
      rw [if_neg (by omega)]
      omega
  · refine ⟨2 * (-v).toNat, ?_, ?_⟩
    · unfold pval
      rw [if_neg (by omega)]
      omega
    · unfold psz
      split <;> omega

def sz (v : Int) : Int:=if -12≤v∧v≤12 then (if v < 0 then -v else v) else 13
def szs : List Int→Int
  | []=>0
  | v :: l=>sz v+szs l
theorem sz_in (v : Int) : 0≤sz v∧sz v≤13:=by
  unfold sz
  split
  · split <;> omega
  · omega
theorem szs_in : ∀ l : List Int,0≤szs l∧szs l≤13 * l.length
  | []=>by simp [szs]
  | v :: l=>by
    have:=szs_in l
    have:=sz_in v
    simp only [szs,List.length_cons]
    omega
theorem sz_pval {p : Nat} (h : psz p≤12) : sz (pval p)=psz p:=by
  unfold sz
  rcases pval_sz p with ⟨e,_⟩ | ⟨e,_⟩
  · rw [e,if_pos (by omega),if_neg (by omega)]
  · rw [e,if_pos (by omega)]
    split <;> omega
theorem size_f {v : Int} : comb_size.f v=some (sz v):=by
  unfold comb_size.f sz
  by_cases h : v < -12
  · rw [if_pos h,if_neg (by omega)]
  · rw [if_neg h]
    by_cases h' : v > 12
    · rw [if_pos h',if_neg (by omega)]
    · rw [if_neg h',if_pos (by omega),w64 (by omega) (by omega)]
      unfold mx
      congr 1
      by_cases h0 : v < 0
      · rw [if_pos (by omega),if_pos h0]
      · rw [if_neg (by omega),if_neg h0]
theorem refSize_l0 (v : Int) : ∀ (d j k : Nat),j+d=13→(-(j : Int) < v→v < j→False)→psalteryref06_Size.l0 (k+d+1) v (j : Int)=some (sz v):=by
  intro d
  induction d with
  | zero =>
    intro j k h hv
    rw [psalteryref06_Size.l0,if_neg (by omega)]
    unfold sz
    rw [if_neg (fun hh=>hv (by omega) (by omega))]
  | succ d ih =>
    intro j k h hv
    rw [show k+(d+1)+1=(k+d+1)+1 by omega,psalteryref06_Size.l0,if_pos (by omega),w64 (x := -(j : Int)) (by omega) (by omega),w64 (x:=(j : Int)+1) (by omega) (by omega)]
    by_cases h1 : v=j
    · rw [if_pos h1]
      unfold sz
      rw [if_pos (by omega)]
      congr 1
      split <;> omega
    · rw [if_neg h1]
      by_cases h2 : v = -j
      · rw [if_pos h2]
        unfold sz
        rw [if_pos (by omega)]
        congr 1
        split <;> omega
      · rw [if_neg h2,show (j : Int)+1=((j+1 : Nat) : Int) by omega]
        exact ih (j+1) k (by omega) (fun a b=>hv (by omega) (by omega))
theorem refSize_f (v : Int) {k : Nat} (hk : 20≤k) : psalteryref06_Size.f k v=some (sz v):=by
  unfold psalteryref06_Size.f
  obtain ⟨q,rfl⟩ : ∃ q,k=q+13+1:=⟨k - 14,by omega⟩
  exact refSize_l0 v 13 0 q (by omega) (by omega)
theorem refPulses_l0 {y : List Int} (hy : y.length≤1000) : ∀ (d i k : Nat) (a : Int),i+d=y.length→20≤k→0≤a→a≤13 * i→psalteryref06_Pulses.l0 (k+d+1) y a (i : Int)=some (a+szs (y.drop i)):=by
  intro d
  induction d with
  | zero =>
    intro i k a h hk h0 h1
    rw [psalteryref06_Pulses.l0,if_neg (by omega),List.drop_eq_nil_of_le (by omega)]
    simp [szs]
  | succ d ih =>
    intro i k a h hk h0 h1
    have hi : i < y.length:=by omega
    have hs:=sz_in y[i]
    rw [show k+(d+1)+1=(k+d+1)+1 by omega,psalteryref06_Pulses.l0,if_pos (by omega),if_pos (by omega),rd_at hi,refSize_f _ (by omega),Option.bind_some,w64 (x:=a+sz y[i]) (by omega) (by omega),w64 (x:=(i : Int)+1) (by omega) (by omega),show (i : Int)+1=((i+1 : Nat) : Int) by omega,ih (i+1) k _ (by omega) hk (by omega) (by omega),List.drop_eq_getElem_cons hi]
    simp only [szs]
    rw [Int.add_assoc]
theorem refPulses_f {y : List Int} (hy : y.length≤1000) {k : Nat} (hk : y.length+21≤k) : psalteryref06_Pulses.f k y=some (szs y):=by
  unfold psalteryref06_Pulses.f
  obtain ⟨q,rfl⟩ : ∃ q,k=q+y.length+1:=⟨k - y.length - 1,by omega⟩
  have:=refPulses_l0 hy y.length 0 q 0 (by omega) (by omega) (by omega) (by omega)
  rw [List.drop_zero,Int.zero_add] at this
  exact this
theorem Unr.szs : ∀ {n k : Nat} {i : Int} {y : List Int},k < 13→Unr V n k i y→szs y=k
  | 0,_,_,_,_,h=>by rw [h.2.2,h.1];rfl
  | n+1,k,i,y,hk,⟨p,ys,e,h1,_,_,h4⟩=>by
    rw [e]
    show sz (pval p)+Com.szs ys=k
    rw [sz_pval (by omega),Unr.szs (by omega) h4]
    omega
theorem Unr.ex (C : Cnt V) : ∀ (y : List Int) (k : Nat),y.length≤16→Com.szs y=k→k < 13→∃ i,0≤i∧i < V y.length k∧Unr V y.length k i y
  | [],k,_,h,hk=>by
    obtain rfl : k=0:=by simpa [Com.szs] using h.symm
    refine ⟨0,by decide, ?_,rfl,rfl,rfl⟩
    rw [show ([] : List Int).length=0 from rfl,C.zero (by decide)]
    decide
  | v :: ys,k,hl,h,hk=>by
    simp only [Com.szs] at h
    simp only [List.length_cons] at hl ⊢
    obtain ⟨p,hp,hps⟩:=pval_of v
    have h1:=sz_in v
    have h2:=szs_in ys
    have hv : -12≤v∧v≤12:=by
      unfold sz at h
      split at h
      · assumption
      · omega
    have hsz : sz v=psz p:=by
      unfold sz
      rw [if_pos hv,hps]
    obtain ⟨i,i0,i1,hi⟩:=Unr.ex C ys (k - psz p) (by omega) (by omega) (by omega)
    have e1 : P V ys.length k (p+1)=P V ys.length k p+V ys.length (k - psz p):=P_succ _ _ _ _
    have m1:=P_mono C (n:=ys.length) (k:=k) (by omega) hk (show p+1≤2 * k+1 by unfold psz at hsz;omega)
    have m2:=P_nn C (n:=ys.length) (k:=k) (by omega) hk p
    rw [P_top C (by omega) hk] at m1
    refine ⟨P V ys.length k p+i,by omega,by omega,p,ys,by rw [hp],by omega,by omega,by omega, ?_⟩
    rw [show P V ys.length k p+i - P V ys.length k p=i by omega]
    exact hi

theorem index_l2 (C : Cnt V) {y : List Int} {n kk s : Nat} (hn : n < 17) (hkk : kk < 13) (hs : s≤kk) (v at_ : Int) (a : Int) (ha : 0≤a) (ha1 : a≤10000000000000000) : ∀ (e d k : Nat),d+1+e=s →
    comb_Index.l2 (k+e+1) y (kk : Int) (a+P V n kk (2 * d+1)) v (n : Int) (s : Int) ((d+1 : Nat) : Int) y (y.length : Int) at_ =
      (if v < 0 then (comb_table.f (n : Int) (wrap64 ((kk : Int) - (s : Int)))).bind fun t119=>comb_Index.l1 k y (wrap64 ((kk : Int) - (s : Int))) (IntKind.u64.wrap (a+P V n kk (2 * (s - 1)+1)+t119)) y (y.length : Int) (wrap64 (at_+1)) else comb_Index.l1 k y (wrap64 ((kk : Int) - (s : Int))) (a+P V n kk (2 * (s - 1)+1)) y (y.length : Int) (wrap64 (at_+1))):=by
  intro e
  induction e with
  | zero =>
    intro d k h
    obtain rfl : d=s - 1:=by omega
    rw [comb_Index.l2,if_neg (by omega)]
  | succ e ih =>
    intro d k h
    have hp:=P_nn C hn hkk (2 * d+1)
    have hV:=VV C hn (show kk - (d+1) < 13 by omega)
    have hP : P V n kk (2 * d+1)≤26 * 1000000000000:=by
      have : ∀ m,m≤26→P V n kk m≤m * 1000000000000:=by
        intro m
        induction m with
        | zero=>intro _;exact Int.le_refl _
        | succ m ihm =>
          intro hm
          have:=ihm (by omega)
          have:=(VV C hn (show kk - psz m < 13 by omega)).2
          rw [P_succ]
          omega
      have:=this (2 * d+1) (by omega)
      omega
    rw [show k+(e+1)+1=(k+e+1)+1 by omega,comb_Index.l2,if_pos (by omega),w64 (x:=(kk : Int) - ((d+1 : Nat) : Int)) (by omega) (by omega),show (kk : Int) - ((d+1 : Nat) : Int)=((kk - (d+1) : Nat) : Int) by omega,C.table hn (by omega),Option.bind_some,u64 (x:=2 * V n (kk - (d+1))) (by omega) (by omega),u64 (by omega) (by omega),w64 (x:=((d+1 : Nat) : Int)+1) (by omega) (by omega),show ((d+1 : Nat) : Int)+1=((d+1+1 : Nat) : Int) by omega]
    have h1:=ih (d+1) k (by omega)
    rw [P_odd] at h1
    rw [Int.add_assoc]
    exact h1
theorem P_le (C : Cnt V) {n k : Nat} (hn : n < 17) (hk : k < 13) : ∀ p,P V n k p≤p * 1000000000000
  | 0=>Int.le_refl _
  | p+1=>by
    have:=P_le C hn hk p
    have:=(VV C hn (show k - psz p < 13 by omega)).2
    rw [P_succ]
    omega
theorem index_l1 (C : Cnt V) {y : List Int} (hy : y.length≤16) : ∀ (n kk at_ k : Nat) (i a : Int),at_+n=y.length→kk < 13→Unr V n kk i (y.drop at_)→0≤a→a≤100000000000000 * at_→30 * n+2≤k →
    comb_Index.l1 k y (kk : Int) a y (y.length : Int) (at_ : Int)=some (a+i,0)
  | 0,kk,at_,k,i,a,h,hkk,hu,ha,ha1,hk=>by
    obtain ⟨q,rfl⟩ : ∃ q,k=q+1:=⟨k - 1,by omega⟩
    rw [comb_Index.l1,if_neg (by omega),hu.2.1,Int.add_zero]
  | n+1,kk,at_,k,i,a,h,hkk,⟨p,ys,e,h1,h2,h3,h4⟩,ha,ha1,hk=>by
    have hat : at_ < y.length:=by omega
    have hd : y.drop (at_+1)=ys:=by
      rw [List.drop_eq_getElem_cons hat] at e
      exact (List.cons.inj e).2
    have hv : y[at_]=pval p:=by
      rw [List.drop_eq_getElem_cons hat] at e
      exact (List.cons.inj e).1
    have hpn:=P_nn C (n:=n) (by omega) hkk p
    have hpl:=P_le C (n:=n) (by omega) hkk p
    have hp24 : p≤24:=by unfold psz at h1;omega
    have ih:=fun q hq=>index_l1 C hy n (kk - psz p) (at_+1) q (i - P V n kk p) (a+P V n kk p) (by omega) (by omega) (by rw [hd];exact h4) (by omega) (by omega) hq
    have hn : Aside0 (wrap64 (wrap64 ((y.length : Int) - (at_ : Int)) - 1)=(n : Int)):=⟨by rw [w64 (x:=(y.length : Int) - at_) (by omega) (by omega),w64 (by omega) (by omega)];omega⟩
    have hk1 : Aside0 (wrap64 ((kk : Int) - (psz p : Int))=((kk - psz p : Nat) : Int)):=⟨by rw [w64 (by omega) (by omega)];omega⟩
    have hat1 : Aside0 (wrap64 ((at_ : Int)+1)=((at_+1 : Nat) : Int)):=⟨by rw [w64 (by omega) (by omega)];omega⟩
    have hfin : a+P V n kk p+(i - P V n kk p)=a+i:=by omega
    rw [hfin] at ih
    have hV0:=VV C (show n < 17 by omega) hkk
    have hV1:=VV C (show n < 17 by omega) (show kk - psz p < 13 by omega)
    by_cases hs : psz p=0
    · obtain ⟨q,rfl⟩ : ∃ q,k=q+1+1+1:=⟨k - 3,by omega⟩
      have hp0 : p=0:=by unfold psz at hs;omega
      subst hp0
      rw [comb_Index.l1,if_pos (by omega),if_pos (by omega),if_pos (by omega),rd_at hat,hv,size_f,sz_pval (by omega),Option.bind_some,if_neg (by omega),comb_Index.j3,hn.out,comb_Index.l2,if_neg (by omega),if_neg (by decide),hk1.out,hat1.out]
      have:=ih q (by omega)
      rw [show P V n kk 0=0 from rfl,Int.add_zero] at this
      exact this
    · obtain ⟨q,rfl⟩ : ∃ q,k=(q+(psz p - 1)+1)+1+1:=⟨k - psz p - 2,by omega⟩
      have hps : p=2 * psz p - 1∨p=2 * psz p:=by unfold psz;omega
      rw [comb_Index.l1,if_pos (by omega),if_pos (by omega),if_pos (by omega),rd_at hat,hv,size_f,sz_pval (by omega),Option.bind_some,if_pos (by omega),hn.out,C.table (by omega) hkk,Option.bind_some,comb_Index.j3,u64 (by omega) (by omega)]
      have hl2:=index_l2 C (y:=y) (n:=n) (kk:=kk) (s:=psz p) (by omega) hkk h1 (pval p) (at_ : Int) a ha (by omega) (psz p - 1) 0 q (by omega)
      rw [show 2 * 0+1=1 from rfl,P_one] at hl2
      rw [show ((0+1 : Nat) : Int)=1 from rfl] at hl2
      rw [hl2,hk1.out,hat1.out]
      rcases pval_sz p with ⟨e1,e2⟩ | ⟨e1,e2⟩
      · rw [if_neg (by omega),show 2 * (psz p - 1)+1=p by omega]
        exact ih q (by omega)
      · have e3 : P V n kk p=P V n kk (2 * (psz p - 1)+1)+V n (kk - psz p):=by
          have h5 : p=(2 * (psz p - 1)+1)+1:=by omega
          have h6 : psz (2 * (psz p - 1)+1)=psz p:=by unfold psz;omega
          have h7:=P_succ V n kk (2 * (psz p - 1)+1)
          rw [h6, ← h5] at h7
          exact h7
        have hp3:=P_nn C (n:=n) (by omega) hkk (2 * (psz p - 1)+1)
        rw [if_pos (by omega),C.table (by omega) (by omega),Option.bind_some,u64 (by omega) (by omega),Int.add_assoc, ← e3]
        exact ih q (by omega)
theorem index_l0 {y : List Int} (hy : y.length≤1000) : ∀ (d i k : Nat) (a : Int),i+d=y.length→0≤a→a≤13 * i→comb_Index.l0 (k+d+1) y a y (y.length : Int) (i : Int)=if a+szs (y.drop i) > 12 then some (0,1) else comb_Index.l1 k y (a+szs (y.drop i)) 0 y (y.length : Int) 0:=by
  intro d
  induction d with
  | zero =>
    intro i k a h h0 h1
    rw [comb_Index.l0,if_neg (by omega),List.drop_eq_nil_of_le (by omega)]
    simp only [szs,Int.add_zero]
  | succ d ih =>
    intro i k a h h0 h1
    have hi : i < y.length:=by omega
    have hs:=sz_in y[i]
    rw [show k+(d+1)+1=(k+d+1)+1 by omega,comb_Index.l0,if_pos (by omega),if_pos (by omega),if_pos (by omega),rd_at hi,size_f,Option.bind_some,w64 (x:=a+sz y[i]) (by omega) (by omega),w64 (x:=(i : Int)+1) (by omega) (by omega),show (i : Int)+1=((i+1 : Nat) : Int) by omega,ih (i+1) k _ (by omega) (by omega) (by omega),List.drop_eq_getElem_cons hi]
    rw [show szs (y[i] :: y.drop (i+1))=sz y[i] + szs (y.drop (i+1)) from rfl,Int.add_assoc]
theorem index_f (C : Cnt V) {y : List Int} {n k : Nat} {i : Int} (hn : 1≤n) (hn' : n≤16) (hk : k < 13) (hu : Unr V n k i y) {q : Nat} (hq : 700≤q) : comb_Index.f q y=some (i,0):=by
  have hl:=hu.len
  obtain ⟨r,rfl⟩ : ∃ r,q=(r+y.length+1)+1:=⟨q - y.length - 2,by omega⟩
  unfold comb_Index.f
  rw [if_neg (by omega),decide_eq_false (by omega),comb_Index.j0,if_neg (by decide)]
  have h0:=index_l0 (y:=y) (by omega) y.length 0 r 0 (by omega) (by omega) (by omega)
  rw [List.drop_zero,Int.zero_add,Unr.szs hk hu,if_neg (by omega),show ((0 : Nat) : Int)=0 from rfl] at h0
  have h1:=index_l1 C (y:=y) (by omega) n k 0 r i 0 (by omega) hk (by rw [List.drop_zero];exact hu) (by omega) (by omega) (by omega)
  rw [Int.zero_add,show ((0 : Nat) : Int)=0 from rfl] at h1
  exact h0.trans h1
theorem index_bad {y : List Int} (hy : y.length≤100) (h : y.length < 1∨y.length > 16∨szs y > 12) {q : Nat} (hq : 700≤q) : comb_Index.f q y=some (0,1):=by
  obtain ⟨r,rfl⟩ : ∃ r,q=(r+y.length+1)+1:=⟨q - y.length - 2,by omega⟩
  unfold comb_Index.f
  by_cases h1 : y.length < 1
  · rw [if_pos (by omega),comb_Index.j0,if_pos rfl]
  · rw [if_neg (by omega)]
    by_cases h2 : y.length > 16
    · rw [decide_eq_true (by omega),comb_Index.j0,if_pos rfl]
    · rw [decide_eq_false (by omega),comb_Index.j0,if_neg (by decide)]
      have h0:=index_l0 (y:=y) (by omega) y.length 0 r 0 (by omega) (by omega) (by omega)
      rw [List.drop_zero,Int.zero_add,if_pos (by omega),show ((0 : Nat) : Int)=0 from rfl] at h0
      exact h0
end Go.Proofs.Ytifkhfnmbiefaaa.Com
/- Pulse vectors, their sizes and numbers: see ComV, ComM. -/
/- A rounded list has nearly the norm that it should have: plain arithmetic, no program in sight. -/
namespace Go.Proofs.Ytifkhfnmbiefaaa.PvqN
theorem sq_le {p q : Int} (hp : 0≤p) (h : q * q≤p * p) : q≤p:=by
  apply Int.not_lt.mp
  intro hlt
  have h1 : p * p≤p * q:=Int.mul_le_mul_of_nonneg_left (by omega) hp
  have h2 : p * q < q * q:=Int.mul_lt_mul_of_pos_right hlt (by omega)
  omega
theorem sq_nonneg (a : Int) : 0≤a * a:=by
  rcases Int.le_total 0 a with h|h
  · exact Int.mul_nonneg h h
  · exact Int.mul_nonneg_of_nonpos_of_nonpos h h
theorem two_mul_le (a b : Int) : 4 * (a * b)≤(a+b) * (a+b):=by
  have:=sq_nonneg (a - b)
  grind
def S2 : List Int→Int
  | []=>0
  | a :: l=>a * a+S2 l
def D2 : List Int→List Int→Int
  | a :: l,b :: m=>a * b+D2 l m
  | _,_=>0
theorem S2_nonneg (l : List Int) : 0≤S2 l:=by
  induction l with
  | nil=>exact Int.le_refl _
  | cons a l ih=>have:=sq_nonneg a;simp only [S2];omega
theorem cs (a b : List Int) : D2 a b * D2 a b≤S2 a * S2 b:=by
  induction a generalizing b with
  | nil=>simp [D2,S2]
  | cons x a ih =>
    cases b with
    | nil=>simp [D2,S2]
    | cons y b =>
      have h:=ih b
      simp only [D2,S2]
      generalize D2 a b=B at h ⊢
      have hA:=S2_nonneg a
      have hC:=S2_nonneg b
      generalize S2 a=A at h hA ⊢
      generalize S2 b=C at h hC ⊢
      have hy:=sq_nonneg y
      have hx:=sq_nonneg x
      have hp : 0≤A * (y * y)+x * x * C:=Int.add_nonneg (Int.mul_nonneg hA hy) (Int.mul_nonneg hx hC)
      have hq : (2 * B * x * y) * (2 * B * x * y)≤(A * (y * y)+x * x * C) * (A * (y * y)+x * x * C):=by
        have h1:=two_mul_le (A * (y * y)) (x * x * C)
        have h2 : (B * B) * ((x * x) * (y * y))≤(A * C) * ((x * x) * (y * y)):=Int.mul_le_mul_of_nonneg_right h (Int.mul_nonneg hx hy)
        grind
      have:=sq_le hp hq
      grind
def Er (r N : Int) : List Int→List Int→List Int
  | y :: l,x :: m=>(N * x - 256 * r * y) :: Er r N l m
  | _,_ => []
theorem expand (r N : Int) : ∀ (y x : List Int),x.length=y.length→N * N * S2 x=(256 * r) * (256 * r) * S2 y+512 * r * D2 y (Er r N y x)+S2 (Er r N y x)
  | [], [],_=>by simp [S2,D2,Er]
  | [],_ :: _,h=>by simp at h
  | _ :: _, [],h=>by simp at h
  | y :: l,x :: m,h=>by
    have ih:=expand r N l m (by simpa using h)
    simp only [S2,D2,Er]
    grind
def Near (r N : Int) : List Int→List Int→Prop
  | y :: l,x :: m=>(-N≤2 * (N * x - 256 * r * y)∧2 * (N * x - 256 * r * y)≤N)∧Near r N l m
  | [], []=>True
  | _,_=>False
theorem Near.len {r N : Int} : ∀ {y x : List Int},Near r N y x→x.length=y.length
  | [], [],_=>rfl
  | [],_ :: _,h=>by simp [Near] at h
  | _ :: _, [],h=>by simp [Near] at h
  | _ :: _,_ :: _,h=>by simp only [Near] at h;simp [Near.len h.2]
theorem er_le {r N : Int} (hN : 0≤N) : ∀ {y x : List Int},Near r N y x→4 * S2 (Er r N y x)≤(y.length : Int) * (N * N)
  | [], [],_=>by simp [S2,Er]
  | [],_ :: _,h=>by simp [Near] at h
  | _ :: _, [],h=>by simp [Near] at h
  | y :: l,x :: m,h=>by
    simp only [Near] at h
    have ih:=er_le hN h.2
    simp only [S2,Er,List.length_cons,Int.natCast_add,Int.cast_ofNat_Int]
    generalize N * x - 256 * r * y=e at h ⊢
    have h1 : 4 * (e * e)≤N * N:=by
      have a : 0≤(N - 2 * e) * (N+2 * e):=Int.mul_nonneg (by omega) (by omega)
      grind
    grind
theorem mul_mono {a b c d : Int} (ha : 0≤a) (hc : 0≤c) (h : a≤b) (k : c≤d) : a * c≤b * d :=
  Int.le_trans (Int.mul_le_mul_of_nonneg_right h hc) (Int.mul_le_mul_of_nonneg_left k (by omega))
theorem upper {r N s P X Q C : Int} (hr : 0≤r) (hN : 256≤N) (hP1 : P≤(N+1) * (N+1)) (hP0 : 0≤P)
    (hX : N * N * X=r * r * P+2 * r * Q+C) (hQ : Q * Q≤P * C) (hC : C≤4 * (N * N)) (hC0 : 0≤C) (hs : s * s≤X) :
    s - r≤r / 255+3:=by
  have hN1 : 0≤2 * (N * (N+1)):=by have:=Int.mul_nonneg (a:=N) (b:=N+1) (by omega) (by omega);omega
  have q1 : Q * Q≤(2 * (N * (N+1))) * (2 * (N * (N+1))):=by
    have a:=mul_mono hP0 hC0 hP1 hC
    grind
  have q2:=sq_le hN1 q1
  have x1 : (N * s) * (N * s)≤(r * (N+1)+2 * N) * (r * (N+1)+2 * N):=by
    have a : r * r * P≤r * r * ((N+1) * (N+1)):=Int.mul_le_mul_of_nonneg_left hP1 (sq_nonneg r)
    have b : 2 * r * Q≤2 * r * (2 * (N * (N+1))):=Int.mul_le_mul_of_nonneg_left q2 (by omega)
    have c : (N * N) * (s * s)≤(N * N) * X:=Int.mul_le_mul_of_nonneg_left hs (sq_nonneg N)
    grind
  have x2:=sq_le (Int.add_nonneg (Int.mul_nonneg hr (by omega)) (by omega)) x1
  apply Int.not_lt.mp
  intro hlt
  have h3 : r / 255+2≤s - r - 2:=by omega
  have h4 : N * (r / 255+2)≤N * (s - r - 2):=Int.mul_le_mul_of_nonneg_left h3 (by omega)
  have h5 : 256 * (r / 255+2)≤N * (r / 255+2):=Int.mul_le_mul_of_nonneg_right hN (by omega)
  have h6 : N * (s - r - 2)≤r:=by grind
  omega
theorem lower {r N s P X Q C : Int} (hr : 0≤r) (hN : 256≤N) (hP : N * N≤P) 
    (hX : N * N * X=r * r * P+2 * r * Q+C) (hQ : Q * Q≤P * C) (hC : C≤4 * (N * N)) (hC0 : 0≤C) (hs0 : 0≤s) (hs : X < (s+1) * (s+1)) :
    r - s≤r / 255+3:=by
  apply Int.not_lt.mp
  intro hlt
  have h1 : s+1≤r - 3:=by omega
  have hNN : 0 < N * N:=Int.mul_pos (by omega) (by omega)
  have hP0 : 0≤P:=by omega
  have h2 : (s+1) * (s+1)≤(r - 3) * (r - 3):=mul_mono (by omega) (by omega) h1 h1
  have hr4 : r=4∨5≤r:=by omega
  rcases hr4 with h4|h5
  · subst h4
    have x0 : X≤0:=by omega
    have n0 : N * N * X≤0:=by
      have:=Int.mul_le_mul_of_nonneg_left x0 (Int.le_of_lt hNN);omega
    have a : 16 * P+C≤-(8 * Q):=by grind
    have b : (16 * P+C) * (16 * P+C)≤(8 * Q) * (8 * Q):=by
      have:=mul_mono (by omega) (by omega) a a;grind
    have c : (16 * P - C) * (16 * P - C)≤0:=by grind
    have d : 0 < 16 * P - C:=by omega
    have e:=Int.mul_pos d d
    omega
  · have u1 : r * r * P - (N * N) * ((r - 3) * (r - 3))≤-(2 * r * Q):=by
      have a : (N * N) * X≤(N * N) * ((r - 3) * (r - 3)):=Int.mul_le_mul_of_nonneg_left (by omega) (by omega)
      omega
    -- r r P = r r N N + b
    have b0 : 0≤r * r * (P - N * N):=Int.mul_nonneg (sq_nonneg r) (by omega)
    generalize hb : r * r * (P - N * N)=b at b0
    have u2 : r * r * P - (N * N) * ((r - 3) * (r - 3))=b+(N * N) * (6 * r - 9):=by grind
    have k0 : 0≤(N * N) * (6 * r - 9):=Int.mul_nonneg (by omega) (by omega)
    rw [u2] at u1
    have u3 : (b+(N * N) * (6 * r - 9)) * (b+(N * N) * (6 * r - 9))≤(2 * r * Q) * (2 * r * Q):=by
      have:=mul_mono (by omega) (by omega) u1 u1;grind
    have u4 : (2 * r * Q) * (2 * r * Q)≤16 * (N * N) * (r * r * (N * N)+b):=by
      have a : P * C≤P * (4 * (N * N)):=Int.mul_le_mul_of_nonneg_left hC hP0
      have c : (4 * (r * r)) * (Q * Q)≤(4 * (r * r)) * (P * (4 * (N * N))):=Int.mul_le_mul_of_nonneg_left (by omega) (by have:=sq_nonneg r;omega)
      have e : (2 * r * Q) * (2 * r * Q)=(4 * (r * r)) * (Q * Q):=by clear hb u1 u2 u3 hX hQ a c;grind
      have e2 : (4 * (r * r)) * (P * (4 * (N * N)))=16 * (N * N) * (r * r * (N * N)+b):=by rw [← hb];clear hb u1 u2 u3 hX hQ a c e;grind
      rw [e, ← e2];exact c
    have u5 : 16 * (N * N) * b+16 * (N * N) * (r * r * (N * N))+1≤(b+(N * N) * (6 * r - 9)) * (b+(N * N) * (6 * r - 9)):=by
      have a : (N * N) * b * 8≤(N * N) * b * (6 * r - 9):=Int.mul_le_mul_of_nonneg_left (by omega) (Int.mul_nonneg (by omega) b0)
      have c : (4 * r) * (4 * r)+1≤(6 * r - 9) * (6 * r - 9):=by
        have:=mul_mono (a:=4 * r+1) (c:=4 * r+1) (b:=6 * r - 9) (d:=6 * r - 9) (by omega) (by omega) (by omega) (by omega);grind
      have d : ((N * N) * (N * N)) * ((4 * r) * (4 * r)+1)≤((N * N) * (N * N)) * ((6 * r - 9) * (6 * r - 9)):=Int.mul_le_mul_of_nonneg_left c (sq_nonneg _)
      have e:=Int.mul_pos hNN hNN
      have f:=sq_nonneg b
      have g1 : (b+(N * N) * (6 * r - 9)) * (b+(N * N) * (6 * r - 9))=b * b+2 * ((N * N) * b * (6 * r - 9))+((N * N) * (N * N)) * ((6 * r - 9) * (6 * r - 9)):=by clear hb u1 u2 u3 u4 hX hQ a c d e f;grind
      have g2 : ((N * N) * (N * N)) * ((4 * r) * (4 * r)+1)=16 * (N * N) * (r * r * (N * N))+(N * N) * (N * N):=by clear hb u1 u2 u3 u4 hX hQ a c d e f g1;grind
      have g3 : 16 * (N * N) * b=2 * ((N * N) * b * 8):=by clear hb u1 u2 u3 u4 hX hQ a c d e f g1 g2;grind
      omega
    have g4 : 16 * (N * N) * (r * r * (N * N)+b)=16 * (N * N) * b+16 * (N * N) * (r * r * (N * N)):=by clear hb u1 u2 u3 u4 u5 hX hQ;grind
    omega
theorem norm {r N s : Int} {y x : List Int} (hr : 0≤r) (hN : 256≤N) (hl : y.length≤16) (h : Near r N y x)
    (hP : N * N≤65536 * S2 y) (hP1 : 65536 * S2 y < (N+1) * (N+1)) (hs0 : 0≤s) (hs : s * s≤S2 x) (hs1 : S2 x < (s+1) * (s+1)) :
    s - r≤r / 255+3∧r - s≤r / 255+3:=by
  have e:=expand r N y x h.len
  have c:=cs y (Er r N y x)
  have b:=er_le (by omega) h
  have hC0:=S2_nonneg (Er r N y x)
  have hy:=S2_nonneg y
  generalize S2 (Er r N y x)=C at e c b hC0
  generalize D2 y (Er r N y x)=B at e c
  have hNN:=sq_nonneg N
  have hC : C≤4 * (N * N):=by
    have : (y.length : Int) * (N * N)≤16 * (N * N):=Int.mul_le_mul_of_nonneg_right (by omega) hNN
    omega
  have hX : N * N * S2 x=r * r * (65536 * S2 y)+2 * r * (256 * B)+C:=by grind
  have hQ : (256 * B) * (256 * B)≤(65536 * S2 y) * C:=by grind
  exact ⟨upper hr hN (by omega) (by omega) hX hQ hC hC0 hs,lower hr hN hP hX hQ hC hC0 hs0 hs1⟩
end Go.Proofs.Ytifkhfnmbiefaaa.PvqN
/- Lists of bytes as numbers: plain arithmetic, no program in sight. -/
namespace Go.Proofs.Ytifkhfnmbiefaaa.Val
open Go.RowKit Go.Proofs.YtifkhfnmbiefaaaW.PrintWords

theorem u64w {x : Int} (h0 : 0≤x) (h1 : x≤18446744073709551615) : IntKind.u64.wrap x=x:=IntWalk.u64_in x ⟨h0,h1⟩
theorem i64w {x : Int} (h0 : -9223372036854775808≤x) (h1 : x≤9223372036854775807) : wrap64 x=x:=by unfold wrap64;omega
theorem u64wrap (x : Int) : IntKind.u64.wrap x=x % 18446744073709551616:=by simp [IntKind.wrap,IntKind.bits,IntKind.signed]
theorem u64_fit (n : Int) (h₀ : 0≤n) (h₁ : n < 2 ^ 64) : IntKind.u64.wrap n=n:=u64w h₀ (by omega)
def Bytes (l : List Int) : Prop := ∀ x ∈ l,0≤x∧x < 256
theorem Bytes.nil : Bytes []:=fun _ h=>by cases h
theorem Bytes.left {l m : List Int} (h : Bytes (l ++ m)) : Bytes l:=fun x hx=>h x (List.mem_append_left _ hx)
theorem Bytes.right {l m : List Int} (h : Bytes (l ++ m)) : Bytes m:=fun x hx=>h x (List.mem_append_right _ hx)
theorem Bytes.one {x : Int} (h : 0≤x) (h' : x < 256) : Bytes [x]:=fun y hy=>by rw [List.mem_singleton.1 hy];exact ⟨h,h'⟩
theorem Bytes.take {l : List Int} (h : Bytes l) (n : Nat) : Bytes (l.take n):=fun x hx=>h x (List.mem_of_mem_take hx)
theorem Bytes.rd {l : List Int} (h : Bytes l) (i : Int) : 0≤rd l i∧rd l i < 256:=by
  unfold Go.Proofs.YtifkhfnmbiefaaaW.PrintWords.rd
  rw [List.getD_eq_getElem?_getD]
  cases he : l[i.toNat]? with
  | none=>exact ⟨by decide,by decide⟩
  | some y=>exact h y (List.mem_of_getElem? he)
theorem Bytes.set {l : List Int} (h : Bytes l) (n : Nat) {x : Int} (h0 : 0≤x) (h1 : x < 256) : Bytes (l.set n x):=fun y hy=>by
  rcases List.mem_or_eq_of_mem_set hy with hy|rfl
  · exact h y hy
  · exact ⟨h0,h1⟩

def val (l : List Int) : Int:=l.foldl (fun a x=>a * 256+x) 0
def pw (n : Nat) : Int:=256 ^ n
theorem pw_pos (n : Nat) : 0 < pw n:=Int.pow_pos (by decide)
theorem pw_zero : pw 0=1:=rfl
theorem pw_succ (n : Nat) : pw (n+1)=256 * pw n:=by unfold pw;rw [Int.pow_succ,Int.mul_comm]
theorem val_snoc (l : List Int) (x : Int) : val (l ++ [x])=val l * 256+x:=by simp [val]
def four (n : Int) : List Int := [n / 16777216 % 256,n / 65536 % 256,n / 256 % 256,n % 256]
theorem set_mid (a b : List Int) (x v : Int) (n : Int) (hn : n=(a.length : Int)) : (a ++ x :: b).set n.toNat v=a ++ v :: b:=by
  subst hn
  simp
end Go.Proofs.Ytifkhfnmbiefaaa.Val
/- pvq: coefficients, norms and sizes: what the program's functions and the document's come to, on lists. -/
namespace Go.Proofs.Ytifkhfnmbiefaaa.Pvq
open Go Go.RowKit Go.Proofs.YtifkhfnmbiefaaaW.PrintWords Go.Proofs.Ytifkhfnmbiefaaa.Prt Go.Proofs.Ytifkhfnmbiefaaa.Com Go.Proofs.Ytifkhfnmbiefaaa.PvqN
set_option linter.unusedVariables false
set_option linter.unusedSimpArgs false
theorem w_succ {i n : Nat} (h : i < n) (hn : n≤1000) : wrap64 ((i : Int)+1)=((i+1 : Nat) : Int):=by rw [w64 (by omega) (by omega)];omega
theorem drop_at {l : List Int} {i : Nat} (h : i < l.length) : l.drop i=l[i] :: l.drop (i+1):=List.drop_eq_getElem_cons h
theorem drop_end {l : List Int} {i : Nat} (h : l.length≤i) : l.drop i = []:=List.drop_eq_nil_of_le h
def In (v : Int) : Prop := -1048576≤v∧v≤1048576
instance (v : Int) : Decidable (In v):=by unfold In;infer_instance
def Fr (l : List Int) : Prop:=1≤l.length∧l.length≤16∧∀ v ∈ l,In v
instance (l : List Int) : Decidable (Fr l):=by unfold Fr;infer_instance
theorem clamp_in {v : Int} (h : In v) : num_Clamp.f v (-1048576) 1048576=some v:=by
  unfold In at h;unfold num_Clamp.f;rw [if_neg (by omega),if_neg (by omega)]
theorem clamp_out {v : Int} (h : ¬ In v) : ∃ u,num_Clamp.f v (-1048576) 1048576=some u∧v≠u:=by
  unfold In at h;unfold num_Clamp.f
  by_cases h1 : v < -1048576
  · exact ⟨_,by rw [if_pos h1],by omega⟩
  · exact ⟨_,by rw [if_neg h1,if_pos (by omega)],by omega⟩
theorem fair_l0 {l : List Int} (hl : l.length≤100) : ∀ (d i : Nat),i+d=l.length→Ev (fun k=>pvq_fair.l0 k l l (l.length : Int) (i : Int)) (decide (1≤l.length∧l.length≤16∧∀ v ∈ l.drop i,In v))
  | 0,i,h=>by
    refine Ev.step (f:=fun _=>some (decide (1≤l.length∧l.length≤16∧∀ v ∈ l.drop i,In v))) (fun k => ?_) (Ev.now _)
    rw [pvq_fair.l0,if_neg (by omega),drop_end (by omega)]
    by_cases h1 : 1≤l.length
    · rw [if_pos (by omega)];simp [h1];omega
    · rw [if_neg (by omega)];simp [h1]
  | d+1,i,h=>by
    have hi : i < l.length:=by omega
    have ih:=fair_l0 hl d (i+1) (by omega)
    by_cases hv : In l[i]
    · refine Ev.step (f:=fun k=>pvq_fair.l0 k l l (l.length : Int) ((i+1 : Nat) : Int)) (fun k => ?_) ?_
      · rw [pvq_fair.l0,if_pos (by omega),if_pos (by omega),if_pos (by omega),rd_at hi,clamp_in hv,Option.bind_some,if_pos rfl,w_succ hi (by omega)]
      · rw [drop_at hi];simpa [hv, -List.getElem_cons_drop] using ih
    · obtain ⟨u,hu,hne⟩:=clamp_out hv
      refine Ev.step (f:=fun _=>some _) (fun k => ?_) (Ev.now _)
      rw [pvq_fair.l0,if_pos (by omega),if_pos (by omega),if_pos (by omega),rd_at hi,hu,Option.bind_some,if_neg hne,drop_at hi]
      simp [hv, -List.getElem_cons_drop]
theorem fair_f {l : List Int} (hl : l.length≤100) : Ev (fun k=>pvq_fair.f k l) (decide (Fr l)):=fair_l0 hl l.length 0 (by omega)
theorem rfair_l0 {l : List Int} (hl : l.length≤100) : ∀ (d i : Nat) (b : Bool),i+d=l.length→Ev (fun k=>psalteryref07_Fair.l0 k l b (i : Int)) (b && decide (∀ v ∈ l.drop i,In v))
  | 0,i,b,h=>by
    refine Ev.step (f:=fun _=>some _) (fun k => ?_) (Ev.now _)
    rw [psalteryref07_Fair.l0,if_neg (by omega),drop_end (by omega)]
    simp
  | d+1,i,b,h=>by
    have hi : i < l.length:=by omega
    cases b with
    | false =>
      refine Ev.step (f:=fun k=>psalteryref07_Fair.l0 k l false ((i+1 : Nat) : Int)) (fun k => ?_) (by simpa using rfair_l0 hl d (i+1) false (by omega))
      rw [psalteryref07_Fair.l0,if_pos (by omega),if_neg (by decide),w_succ hi (by omega)]
    | true =>
      refine Ev.step (f:=fun k=>psalteryref07_Fair.l0 k l (decide (In l[i])) ((i+1 : Nat) : Int)) (fun k => ?_) ?_
      · rw [psalteryref07_Fair.l0,if_pos (by omega),if_pos rfl,if_pos (by omega),rd_at hi,w_succ hi (by omega)]
        by_cases h1 : l[i] ≥ -1048576
        · have e : decide (In l[i])=decide (l[i]≤1048576):=by rw [Bool.eq_iff_iff,decide_eq_true_iff,decide_eq_true_iff];exact ⟨fun h=>h.2,fun h=>⟨h1,h⟩⟩
          rw [if_pos h1,e]
        · have e : decide (In l[i])=false:=decide_eq_false (fun h=>h1 h.1)
          rw [if_neg h1,e]
      · have ih:=rfair_l0 hl d (i+1) (decide (In l[i])) (by omega)
        rw [drop_at hi];simpa [-List.getElem_cons_drop] using ih
theorem rfair_f {l : List Int} (hl : l.length≤100) : Ev (fun k=>psalteryref07_Fair.f k l) (decide (Fr l)):=by
  have hj : ∀ b : Bool,Ev (fun k=>psalteryref07_Fair.j0 k l b) (b && decide (∀ v ∈ l,In v)):=fun b =>
    Ev.step (fun k=>by rw [psalteryref07_Fair.j0];rfl) (rfair_l0 hl l.length 0 b (by omega))
  by_cases h : 1≤l.length
  · refine Ev.congr (f:=fun k=>psalteryref07_Fair.j0 k l (decide ((l.length : Int)≤16))) (fun k => ?_) ?_
    · rw [psalteryref07_Fair.f,if_pos (by omega)]
    · have:=hj (decide ((l.length : Int)≤16))
      have e : decide (Fr l)=(decide ((l.length : Int)≤16) && decide (∀ v ∈ l,In v)):=by
        rw [Bool.eq_iff_iff,Bool.and_eq_true,decide_eq_true_iff,decide_eq_true_iff,decide_eq_true_iff];constructor
        · rintro ⟨_,b,c⟩;exact ⟨by omega,c⟩
        · rintro ⟨b,c⟩;exact ⟨h,by omega,c⟩
      rw [e];exact this
  · refine Ev.congr (f:=fun k=>psalteryref07_Fair.j0 k l false) (fun k => ?_) ?_
    · rw [psalteryref07_Fair.f,if_neg (by omega)]
    · have:=hj false
      have e : decide (Fr l)=false:=decide_eq_false (fun x=>h x.1)
      rw [e];simpa using this
theorem sq_in {v c : Int} (h0 : -c≤v) (h1 : v≤c) : 0≤v * v∧v * v≤c * c:=by
  refine ⟨sq_nonneg v, ?_⟩
  have : 0≤(c - v) * (c+v):=Int.mul_nonneg (by omega) (by omega)
  grind
def mag (v : Int) : Int:=if v < 0 then -v else v
theorem mag_sq (v : Int) : mag v * mag v=v * v:=by unfold mag;split <;> grind
theorem mag_nn (v : Int) : 0≤mag v:=by unfold mag;split <;> omega
theorem mag_in {v : Int} (h : In v) : mag v≤1048576:=by unfold In at h;unfold mag;split <;> omega
theorem rsize_f {v : Int} (h : In v) : psalteryref07_size.f v=some (mag v):=by
  unfold In at h;unfold psalteryref07_size.f mag
  by_cases h1 : v < 0
  · rw [if_pos h1,if_pos h1,w64 (by omega) (by omega)]
  · rw [if_neg h1,if_neg h1]
theorem S2_le {c : Int} (hc : 0≤c) : ∀ {l : List Int},(∀ v ∈ l, -c≤v∧v≤c)→S2 l≤c * c * (l.length : Int)
  | [],_=>by simp [S2]
  | v :: l,h=>by
    have:=S2_le hc (l:=l) (fun u hu=>h u (List.mem_cons_of_mem _ hu))
    have:=sq_in (h v (List.mem_cons_self)).1 (h v (List.mem_cons_self)).2
    simp only [S2,List.length_cons,Int.natCast_add,Int.cast_ofNat_Int]
    grind
theorem square_l0 {l : List Int} (hf : Fr l) : ∀ (d i : Nat) (s : Int),i+d=l.length→0≤s→s≤1099511627776 * i→Ev (fun k=>pvq_Square.l0 k s l (l.length : Int) (i : Int)) (s+S2 (l.drop i),0)
  | 0,i,s,h,_,_=>by
    refine Ev.step (f:=fun _=>some _) (fun k => ?_) (Ev.now _)
    rw [pvq_Square.l0,if_neg (by omega),drop_end (by omega)]
    simp [S2]
  | d+1,i,s,h,h0,h1=>by
    have hi : i < l.length:=by omega
    have hv : In l[i]:=hf.2.2 _ (List.getElem_mem hi)
    have hq:=sq_in hv.1 hv.2
    have hn:=hf.2.1
    refine Ev.step (f:=fun k=>pvq_Square.l0 k (s+l[i] * l[i]) l (l.length : Int) ((i+1 : Nat) : Int)) (fun k => ?_) ?_
    · rw [pvq_Square.l0,if_pos (by omega),if_pos (by omega),if_pos (by omega),rd_at hi,w_succ hi (by omega),w64 (x:=l[i] * l[i]) (by omega) (by omega),u64 (x:=l[i] * l[i]) (by omega) (by omega),u64 (by omega) (by omega)]
    · have ih:=square_l0 hf d (i+1) (s+l[i] * l[i]) (by omega) (by omega) (by omega)
      rw [drop_at hi,S2, ← Int.add_assoc];exact ih
theorem square_ok {l : List Int} (hf : Fr l) : Ev (fun k=>pvq_Square.f k l) (S2 l,0):=by
  have h:=square_l0 hf l.length 0 0 (by omega) (by omega) (by omega)
  have hn:=hf.2.1
  refine Ev.bind (fair_f (by omega)) ?_
  refine Ev.congr (f:=fun k=>pvq_Square.l0 k 0 l (l.length : Int) 0) (fun k => ?_) ?_
  · rw [if_pos (by simpa using hf)]
  · rw [Int.zero_add,List.drop_zero] at h;exact h
theorem square_bad {l : List Int} (hl : l.length≤100) (hf : ¬ Fr l) : Ev (fun k=>pvq_Square.f k l) (0,1):=by
  refine Ev.bind (fair_f hl) ?_
  refine Ev.congr (f:=fun _=>some (0,1)) (fun k => ?_) (Ev.now _)
  rw [if_neg (by simpa using hf)]
theorem rsquare_l0 {l : List Int} (hf : Fr l) : ∀ (d i : Nat) (s : Int),i+d=l.length→0≤s→s≤1099511627776 * i→Ev (fun k=>psalteryref07_Square.l0 k l s (i : Int)) (s+S2 (l.drop i))
  | 0,i,s,h,_,_=>by
    refine Ev.step (f:=fun _=>some _) (fun k => ?_) (Ev.now _)
    rw [psalteryref07_Square.l0,if_neg (by omega),drop_end (by omega)]
    simp [S2]
  | d+1,i,s,h,h0,h1=>by
    have hi : i < l.length:=by omega
    have hv : In l[i]:=hf.2.2 _ (List.getElem_mem hi)
    have hq:=sq_in hv.1 hv.2
    have hm:=mag_nn l[i]
    have hm1:=mag_in hv
    have hn:=hf.2.1
    refine Ev.step (f:=fun k=>psalteryref07_Square.l0 k l (s+l[i] * l[i]) ((i+1 : Nat) : Int)) (fun k => ?_) ?_
    · rw [psalteryref07_Square.l0,if_pos (by omega),if_pos (by omega),rd_at hi,rsize_f hv,Option.bind_some,w_succ hi (by omega),u64 (x:=mag l[i]) (by omega) (by omega),mag_sq,u64 (x:=l[i] * l[i]) (by omega) (by omega),u64 (by omega) (by omega)]
    · have ih:=rsquare_l0 hf d (i+1) (s+l[i] * l[i]) (by omega) (by omega) (by omega)
      rw [drop_at hi,S2, ← Int.add_assoc];exact ih
theorem rsquare_f {l : List Int} (hf : Fr l) : Ev (fun k=>psalteryref07_Square.f k l) (S2 l):=by
  have h:=rsquare_l0 hf l.length 0 0 (by omega) (by omega) (by omega)
  rw [Int.zero_add,List.drop_zero] at h;exact h
def All (c : Int) (l : List Int) : Prop := ∀ v ∈ l,mag v < c
instance (c : Int) (l : List Int) : Decidable (All c l):=by unfold All;infer_instance
def hal (l : List Int) : Nat:=if All 262144 l then 0 else if All 524288 l then 1 else if All 1048576 l then 2 else 3
def As (l : List Int) : List Int:=l.map fun v=>mag v / 2 ^ hal l
theorem As_len (l : List Int) : (As l).length=l.length:=by simp [As]
theorem As_in {l : List Int} (hf : ∀ v ∈ l,In v) : ∀ a ∈ As l,0≤a∧a < 262144:=by
  intro a ha
  obtain ⟨v,hv,rfl⟩:=List.mem_map.1 ha
  have h0:=mag_nn v
  have h1:=mag_in (hf v hv)
  unfold hal
  split
  · rename_i h;have:=h v hv;simp;omega
  · split
    · rename_i h;have:=h v hv;simp only [Nat.pow_one,Int.pow_succ,Int.pow_zero];omega
    · split
      · rename_i h;have:=h v hv;simp only [Int.pow_succ,Int.pow_zero];omega
      · simp only [Int.pow_succ,Int.pow_zero];omega
theorem shr_nat (x : Int) (n : Nat) (h : n≤64) : shr .i64 x (n : Int)=x / 2 ^ n:=by
  unfold shr;rw [Int.toNat_natCast,Nat.min_eq_left (by simpa [IntKind.bits] using h)]
theorem mx_mag {v : Int} (h : In v) : mx v (wrap64 (-v))=mag v:=by
  unfold In at h;rw [w64 (by omega) (by omega)];unfold mx mag;split <;> split <;> omega
def tops (x : Int) : List Int→Int
  | []=>x
  | v :: l=>tops (mx (mx x v) (wrap64 (-v))) l
theorem tops_lt {c : Int} : ∀ {l : List Int} {x : Int},(∀ v ∈ l,In v)→(tops x l < c ↔ x < c∧All c l)
  | [],x,_=>by simp [tops,All]
  | v :: l,x,h=>by
    have hv:=h v List.mem_cons_self
    have ih:=tops_lt (c:=c) (l:=l) (x:=mx (mx x v) (wrap64 (-v))) (fun u hu=>h u (List.mem_cons_of_mem _ hu))
    have e : mx (mx x v) (wrap64 (-v)) < c ↔ x < c∧mag v < c:=by
      unfold In at hv;rw [w64 (by omega) (by omega)];unfold mx mag;split <;> split <;> split <;> omega
    simp only [tops]
    rw [ih,e]
    unfold All
    simp only [List.mem_cons,forall_eq_or_imp]
    constructor
    · rintro ⟨⟨a,b⟩,d⟩;exact ⟨a,b,d⟩
    · rintro ⟨a,b,d⟩;exact ⟨⟨a,b⟩,d⟩
theorem tops_nn : ∀ {l : List Int} {x : Int},0≤x→0≤tops x l
  | [],x,h=>h
  | v :: l,x,h=>by
    simp only [tops]
    exact tops_nn (by unfold mx;split <;> split <;> omega)
theorem sizes_l2 {l : List Int} (hf : Fr l) {n : Nat} (hn : n≤3) : ∀ (d i : Nat) (y : List Int),i+d=l.length→y.length=l.length→Ev (fun k=>pvq_sizes.l2 k (n : Int) y l (l.length : Int) (i : Int)) (y.take i ++ (l.drop i).map (fun v=>mag v / 2 ^ n))
  | 0,i,y,h,hy=>by
    refine Ev.step (f:=fun _=>some _) (fun k => ?_) (Ev.now _)
    rw [pvq_sizes.l2,if_neg (by omega),drop_end (by omega),List.map_nil,List.append_nil,List.take_of_length_le (by omega)]
  | d+1,i,y,h,hy=>by
    have hi : i < l.length:=by omega
    have hv : In l[i]:=hf.2.2 _ (List.getElem_mem hi)
    have hl:=hf.2.1
    refine Ev.step (f:=fun k=>pvq_sizes.l2 k (n : Int) (y.set i (mag l[i] / 2 ^ n)) l (l.length : Int) ((i+1 : Nat) : Int)) (fun k => ?_) ?_
    · rw [pvq_sizes.l2,if_pos (by omega),if_pos (by omega),if_pos (by omega),rd_at hi,mx_mag hv,num_Shift.f,if_neg (by omega),if_neg (by omega),u64 (by omega) (by omega),if_pos (by omega),Option.bind_some,if_pos (by omega),w_succ hi (by omega),shr_nat _ _ (by omega),Int.toNat_natCast]
    · have ih:=sizes_l2 hf hn d (i+1) (y.set i (mag l[i] / 2 ^ n)) (by omega) (by simpa using hy)
      have e : (y.set i (mag l[i] / 2 ^ n)).take (i+1) ++ (l.drop (i+1)).map (fun v=>mag v / 2 ^ n)=y.take i ++ (l.drop i).map (fun v=>mag v / 2 ^ n):=by
        rw [drop_at hi,List.map_cons,List.take_succ_eq_append_getElem (by simp;omega),List.getElem_set_self,List.append_assoc,List.take_set_of_le (Nat.le_refl i)]
        rfl
      rw [e] at ih;exact ih
theorem sizes_go {l : List Int} (hf : Fr l) {n : Nat} (hn : n≤3) {t : Int} (h : t / 2 ^ n < 262144) : Ev (fun k=>pvq_sizes.l1 k l t (n : Int)) (l.map fun v=>mag v / 2 ^ n):=by
  have hl:=hf.2.1
  refine Ev.step (f:=fun k=>pvq_sizes.l2 k (n : Int) (List.replicate l.length 0) l (l.length : Int) 0) (fun k => ?_) ?_
  · rw [pvq_sizes.l1,if_pos (by omega),shr_nat _ _ (by omega),if_neg (by omega),if_pos (by omega),Int.toNat_natCast,if_pos (by omega)]
  · have:=sizes_l2 hf hn l.length 0 (List.replicate l.length 0) (by omega) (by simp)
    simpa using this
theorem sizes_more {l : List Int} {n : Nat} (hn : n≤3) {t : Int} {r : List Int} (h : 262144≤t / 2 ^ n) (k : Ev (fun k=>pvq_sizes.l1 k l t ((n+1 : Nat) : Int)) r) : Ev (fun k=>pvq_sizes.l1 k l t (n : Int)) r:=by
  refine Ev.step (fun k => ?_) k
  rw [pvq_sizes.l1,if_pos (by omega),shr_nat _ _ (by omega),if_pos (by omega),w_succ (n:=10) (by omega) (by omega)]
theorem sizes_l1 {l : List Int} (hf : Fr l) : Ev (fun k=>pvq_sizes.l1 k l (tops 0 l) ((0 : Nat) : Int)) (As l):=by
  have hlt:=fun c=>tops_lt (c:=c) (x:=0) hf.2.2
  have h0 : 0≤tops 0 l:=tops_nn (Int.le_refl _)
  have hmax : tops 0 l < 1048577:=(hlt _).2 ⟨by omega,fun v hv=>by have:=mag_in (hf.2.2 v hv);omega⟩
  unfold As hal
  generalize tops 0 l=t at *
  by_cases a : All 262144 l
  · rw [if_pos a];have:=(hlt 262144).2 ⟨by omega,a⟩
    exact sizes_go hf (by omega) (by simpa using this)
  have ha : 262144≤t:=by apply Int.not_lt.1;intro h;exact a ((hlt _).1 h).2
  rw [if_neg a]
  refine sizes_more (by omega) (by simpa using ha) ?_
  by_cases b : All 524288 l
  · rw [if_pos b];have:=(hlt 524288).2 ⟨by omega,b⟩
    exact sizes_go hf (by omega) (by simp only [Nat.zero_add,Int.pow_succ,Int.pow_zero];omega)
  have hb : 524288≤t:=by apply Int.not_lt.1;intro h;exact b ((hlt _).1 h).2
  rw [if_neg b]
  refine sizes_more (by omega) (by simp only [Nat.zero_add,Int.pow_succ,Int.pow_zero];omega) ?_
  by_cases c : All 1048576 l
  · rw [if_pos c];have:=(hlt 1048576).2 ⟨by omega,c⟩
    exact sizes_go hf (by omega) (by simp only [Nat.zero_add,Int.pow_succ,Int.pow_zero];omega)
  have hc : 1048576≤t:=by apply Int.not_lt.1;intro h;exact c ((hlt _).1 h).2
  rw [if_neg c]
  refine sizes_more (by omega) (by simp only [Nat.zero_add,Int.pow_succ,Int.pow_zero];omega) ?_
  exact sizes_go hf (by omega) (by simp only [Nat.zero_add,Int.pow_succ,Int.pow_zero];omega)
theorem sizes_l0 {l : List Int} (hf : Fr l) : ∀ (d i : Nat) (t : Int),i+d=l.length→(∀ r,Ev (fun k=>pvq_sizes.l1 k l (tops t (l.drop i)) 0) r→Ev (fun k=>pvq_sizes.l0 k l t l (l.length : Int) (i : Int)) r)
  | 0,i,t,h,r,hr=>by
    rw [drop_end (by omega)] at hr
    refine Ev.step (fun k => ?_) hr
    rw [pvq_sizes.l0,if_neg (by omega),tops]
  | d+1,i,t,h,r,hr=>by
    have hi : i < l.length:=by omega
    have hl:=hf.2.1
    rw [drop_at hi,tops] at hr
    refine Ev.step (fun k => ?_) (sizes_l0 hf d (i+1) _ (by omega) r hr)
    rw [pvq_sizes.l0,if_pos (by omega),if_pos (by omega),if_pos (by omega),rd_at hi,w_succ hi (by omega)]
theorem sizes_f {l : List Int} (hf : Fr l) : Ev (fun k=>pvq_sizes.f k l) (As l):=sizes_l0 hf l.length 0 0 (by omega) _ (by rw [List.drop_zero];exact sizes_l1 hf)
end Go.Proofs.Ytifkhfnmbiefaaa.Pvq
/- pvq: the pulse vector that is found: by the program and by the document. -/
namespace Go.Proofs.Ytifkhfnmbiefaaa.Pvq
open Go Go.RowKit Go.Proofs.YtifkhfnmbiefaaaW.PrintWords Go.Proofs.Ytifkhfnmbiefaaa.Prt Go.Proofs.Ytifkhfnmbiefaaa.Com Go.Proofs.Ytifkhfnmbiefaaa.PvqN
set_option linter.unusedVariables false
set_option linter.unusedSimpArgs false
def sm : List Int→Int
  | []=>0
  | v :: l=>v+sm l
def at0 (l : List Int) (i : Nat) : Int:=l.getD i 0
theorem at_get {l : List Int} {i : Nat} (h : i < l.length) : at0 l i=l[i]:=by unfold at0;simp [h]
theorem rd_nat (l : List Int) (i : Nat) : rd l (i : Int)=at0 l i:=by unfold rd at0;rw [Int.toNat_natCast]
def sc (a y : List Int) (i : Nat) : Int × Int:=(D2 a y+at0 a i,S2 y+(2 * at0 y i+1))
def gt (p q : Int × Int) : Bool:=decide (p.1 * p.1 * q.2 > q.1 * q.1 * p.2)
def pick (a y : List Int) : Nat→Nat→Nat→Nat
  | 0,t,_=>t
  | d+1,t,i=>pick a y d (if gt (sc a y i) (sc a y t)=true then i else t) (i+1)
def best (a y : List Int) : Nat:=pick a y a.length 0 0
def add1 (y : List Int) (j : Nat) : List Int:=y.set j (at0 y j+1)
def run (a : List Int) : Nat→List Int→List Int
  | 0,y=>y
  | n+1,y=>run a n (add1 y (best a y))
theorem pick_lt (a y : List Int) : ∀ (d t i n : Nat),t < n→i+d≤n→pick a y d t i < n
  | 0,t,i,n,h,_=>h
  | d+1,t,i,n,h,k=>by
    rw [pick];apply pick_lt a y d _ (i+1) n
    · split <;> omega
    · omega
theorem gt_self (p : Int × Int) : gt p p=false:=by unfold gt;exact decide_eq_false (by omega)
theorem add1_len (y : List Int) (j : Nat) : (add1 y j).length=y.length:=by simp [add1]
theorem sm_add : ∀ (y : List Int) (j : Nat),j < y.length→sm (add1 y j)=sm y+1
  | v :: y,0,_=>by simp [add1,at0,sm];omega
  | v :: y,j+1,h=>by
    have:=sm_add y j (by simpa using h)
    simp only [add1,at0,List.set_cons_succ,List.getD_cons_succ,sm] at this ⊢; omega
theorem S2_add : ∀ (y : List Int) (j : Nat),j < y.length→S2 (add1 y j)=S2 y+(2 * at0 y j+1)
  | v :: y,0,_=>by simp only [add1,at0,List.set_cons_zero,List.getD_cons_zero,S2];grind
  | v :: y,j+1,h=>by
    have:=S2_add y j (by simpa using h)
    simp only [add1,at0,List.set_cons_succ,List.getD_cons_succ,S2] at this ⊢; omega
theorem D2_add : ∀ (a y : List Int) (j : Nat),j < y.length→a.length=y.length→D2 a (add1 y j)=D2 a y+at0 a j
  | a :: l,v :: y,0,_,_=>by simp only [add1,at0,List.set_cons_zero,List.getD_cons_zero,D2];grind
  | a :: l,v :: y,j+1,h,e=>by
    have:=D2_add l y j (by simpa using h) (by simpa using e)
    simp only [add1,at0,List.set_cons_succ,List.getD_cons_succ,D2] at this ⊢; omega
  | [],v :: y,_,_,e=>by simp at e
theorem nn_sm : ∀ {y : List Int},(∀ v ∈ y,0≤v)→0≤sm y
  | [],_=>Int.le_refl _
  | v :: y,h=>by
    have:=nn_sm (y:=y) (fun u hu=>h u (List.mem_cons_of_mem _ hu));have:=h v List.mem_cons_self;simp only [sm];omega
theorem le_sm : ∀ {y : List Int},(∀ v ∈ y,0≤v)→∀ v ∈ y,v≤sm y
  | v :: y,h,u,hu=>by
    have h1 : ∀ u ∈ y,0≤u:=fun u hu=>h u (List.mem_cons_of_mem _ hu)
    have:=nn_sm h1;have:=h v List.mem_cons_self
    simp only [sm]
    rcases List.mem_cons.1 hu with rfl|hu
    · omega
    · have:=le_sm h1 u hu;omega
theorem S2_sm : ∀ {y : List Int},(∀ v ∈ y,0≤v)→S2 y≤sm y * sm y
  | [],_=>by simp [S2,sm]
  | v :: y,h=>by
    have h1 : ∀ u ∈ y,0≤u:=fun u hu=>h u (List.mem_cons_of_mem _ hu)
    have:=S2_sm h1;have:=Int.mul_nonneg (h v List.mem_cons_self) (nn_sm h1)
    simp only [S2,sm];grind
theorem D2_sm : ∀ {a y : List Int},(∀ v ∈ a,0≤v∧v < 262144)→(∀ v ∈ y,0≤v)→0≤D2 a y∧D2 a y≤262144 * sm y
  | [],y,_,h=>by have:=nn_sm h;simp only [D2];omega
  | a :: l, [],_,_=>by simp [D2,sm]
  | a :: l,v :: y,ha,h=>by
    have ih:=D2_sm (a:=l) (y:=y) (fun u hu=>ha u (List.mem_cons_of_mem _ hu)) (fun u hu=>h u (List.mem_cons_of_mem _ hu))
    have h0:=ha a List.mem_cons_self;have h1:=h v List.mem_cons_self
    have h2:=Int.mul_nonneg h0.1 h1
    have h3 : a * v≤262144 * v:=Int.mul_le_mul_of_nonneg_right (by omega) h1
    simp only [D2,sm];omega
structure Gd (a y : List Int) (n : Nat) : Prop where
  len : a.length=y.length
  one : 1≤y.length
  few : y.length≤16
  sz : ∀ v ∈ a,0≤v∧v < 262144
  nn : ∀ v ∈ y,0≤v
  sum : sm y=n
theorem at_mem {l : List Int} {i : Nat} (h : i < l.length) : at0 l i ∈ l:=by rw [at_get h];exact List.getElem_mem h
theorem Gd.add {a y : List Int} {n j : Nat} (g : Gd a y n) (hj : j < y.length) : Gd a (add1 y j) (n+1) where
  len:=by rw [add1_len];exact g.len
  one:=by rw [add1_len];exact g.one
  few:=by rw [add1_len];exact g.few
  sz:=g.sz
  nn:=by
    intro v hv
    rcases List.mem_or_eq_of_mem_set hv with h|h
    · exact g.nn v h
    · have:=g.nn _ (at_mem hj);omega
  sum:=by rw [sm_add y j hj,g.sum];omega
theorem Gd.at {a y : List Int} {n : Nat} (g : Gd a y n) (hn : n≤13) {i : Nat} (hi : i < y.length) : 0≤at0 a i∧at0 a i < 262144∧0≤at0 y i∧at0 y i≤n:=by
  have h1:=g.sz _ (at_mem (l:=a) (by rw [g.len];exact hi))
  have h2:=g.nn _ (at_mem hi);have h3:=le_sm g.nn _ (at_mem hi);rw [g.sum] at h3
  exact ⟨h1.1,h1.2,h2,h3⟩
theorem Gd.tot {a y : List Int} {n : Nat} (g : Gd a y n) (hn : n≤13) : 0≤D2 a y∧D2 a y≤3407872∧0≤S2 y∧S2 y≤169:=by
  have h1:=D2_sm g.sz g.nn;have h2:=S2_sm g.nn;rw [g.sum] at h1 h2
  have h3 : (n : Int) * n≤13 * 13:=mul_mono (by omega) (by omega) (by omega) (by omega)
  have h4:=S2_nonneg y
  omega
theorem sc_add {a y : List Int} {n j : Nat} (g : Gd a y n) (hj : j < y.length) : sc a y j=(D2 a (add1 y j),S2 (add1 y j)):=by
  rw [D2_add a y j hj g.len,S2_add y j hj];rfl
theorem Gd.sc {a y : List Int} {n : Nat} (g : Gd a y n) (hn : n≤12) {i : Nat} (hi : i < y.length) : 0≤(sc a y i).1∧(sc a y i).1≤3407872∧0≤(sc a y i).2∧(sc a y i).2≤169:=by
  have:=(g.add hi).tot (by omega)
  rw [sc_add g hi];exact this
theorem prod_in {x c d : Int} (h0 : 0≤x) (h1 : x≤3407872) (h2 : 0≤d) (h3 : d≤169) : wrap64 (wrap64 (x * x) * d)=x * x * d:=by
  have a:=sq_nonneg x
  have b : x * x≤3407872 * 3407872:=mul_mono h0 h0 h1 h1
  have e : x * x * d≤(3407872 * 3407872) * 169:=mul_mono a h2 b h3
  have f:=Int.mul_nonneg a h2
  rw [w64 (x:=x * x) (by omega) (by omega),w64 (by omega) (by omega)]
theorem above_f {p q : Int × Int} (h : 0≤p.1∧p.1≤3407872∧0≤p.2∧p.2≤169) (k : 0≤q.1∧q.1≤3407872∧0≤q.2∧q.2≤169) : pvq_above.f p.1 p.2 q.1 q.2=some (gt p q):=by
  unfold pvq_above.f gt
  rw [prod_in (c:=0) h.1 h.2.1 k.2.2.1 k.2.2.2,prod_in (c:=0) k.1 k.2.1 h.2.2.1 h.2.2.2]
def sg (x y : List Int) : List Int:=List.zipWith (fun v p=>if v < 0 then -p else p) x y
theorem sg_len {x y : List Int} (h : y.length=x.length) : (sg x y).length=x.length:=by simp [sg,h]
theorem sg_at {x y : List Int} {i : Nat} (hx : i < x.length) (hy : i < y.length) : at0 (sg x y) i=if at0 x i < 0 then -at0 y i else at0 y i:=by
  rw [at_get (by simp [sg];omega),at_get hx,at_get hy];simp [sg]
theorem sg_step {x y0 : List Int} {i : Nat} (hl : y0.length=x.length) (hi : i < x.length) :
    ((sg x y0).take i ++ y0.drop i).set i (at0 (sg x y0) i)=(sg x y0).take (i+1) ++ y0.drop (i+1):=by
  have h1:=sg_len hl
  rw [List.set_append_right _ _ (by simp;omega),drop_at (l:=y0) (by omega),List.take_succ_eq_append_getElem (l:=sg x y0) (by omega),at_get (by omega)]
  have e : i - (List.take i (sg x y0)).length=0:=by rw [List.length_take];omega
  rw [List.append_assoc,e,List.set_cons_zero]
  rfl
theorem sg_mid {x y0 : List Int} {i : Nat} (hl : y0.length=x.length) (hi : i < x.length) : at0 ((sg x y0).take i ++ y0.drop i) i=at0 y0 i:=by
  have h1:=sg_len hl
  rw [at_get (by simp;omega),at_get (by omega),List.getElem_append_right (by simp;omega)]
  simp [List.length_take,Nat.min_eq_left (by omega : i≤(sg x y0).length)]
theorem run_gd {a : List Int} : ∀ (e n : Nat) (y : List Int),Gd a y n→Gd a (run a e y) (n+e)
  | 0,n,y,g=>g
  | e+1,n,y,g=>by
    have hl:=g.len;have h1:=g.one
    have:=run_gd e (n+1) _ (g.add (pick_lt a y _ _ _ _ (by omega) (by omega) : best a y < y.length))
    rw [show n+(e+1)=n+1+e by omega];exact this
theorem sm_zero : ∀ n : Nat,sm (List.replicate n 0)=0
  | 0=>rfl
  | n+1=>by simp [List.replicate_succ,sm,sm_zero n]
theorem gd_0 {x : List Int} (hf : Fr x) : Gd (As x) (List.replicate x.length 0) 0 where
  len:=by simp [As]
  one:=by simpa using hf.1
  few:=by simpa using hf.2.1
  sz:=As_in hf.2.2
  nn:=by intro v hv;rw [List.eq_of_mem_replicate hv];omega
  sum:=sm_zero _
def Ps (x : List Int) (K : Nat) : List Int:=run (As x) K (List.replicate x.length 0)
theorem Ps_gd {x : List Int} (hf : Fr x) (K : Nat) : Gd (As x) (Ps x K) K:=by have:=run_gd K 0 _ (gd_0 hf);simpa [Ps] using this
theorem Ps_in {x : List Int} (hf : Fr x) {K : Nat} (hK : K≤12) : ∀ v ∈ Ps x K,0≤v∧v≤12:=fun v hv=>by
  have g:=Ps_gd hf K
  have:=g.nn v hv;have:=le_sm g.nn v hv;rw [g.sum] at this;omega
theorem Ps_len {x : List Int} (hf : Fr x) (K : Nat) : (Ps x K).length=x.length:=by have:=(Ps_gd hf K).len;rw [As_len] at this;omega
theorem best_l0 {a y : List Int} {n : Nat} (g : Gd a y n) (hn : n < 12) {L : List S117} (hL : L.length=y.length) (hs : ∀ j,j < y.length→rd_T117 L (j : Int)=⟨(sc a y j).1,(sc a y j).2⟩) :
    ∀ (d t i : Nat),t < y.length→i+d=y.length→Ev (fun k=>pvq_best.l0 k L (t : Int) (L.length : Int) (i : Int)) (pick a y d t i : Int)
  | 0,t,i,ht,h=>by
    refine Ev.step (f:=fun _=>some _) (fun k => ?_) (Ev.now _)
    rw [pvq_best.l0,if_neg (by omega)];rfl
  | d+1,t,i,ht,h=>by
    have hi : i < y.length:=by omega
    have hf:=g.few
    have hp:=g.sc (by omega) hi;have hq:=g.sc (by omega) ht
    rw [pick]
    have st : ∀ k,pvq_best.l0 (k+1) L (t : Int) (L.length : Int) (i : Int)=if gt (sc a y i) (sc a y t)=true then pvq_best.l0 k L (i : Int) (L.length : Int) ((i+1 : Nat) : Int) else pvq_best.l0 k L (t : Int) (L.length : Int) ((i+1 : Nat) : Int):=by
      intro k
      rw [pvq_best.l0,if_pos (by omega),if_pos (by omega),if_pos (by omega),if_pos (by omega),if_pos (by omega),hs i hi,hs t ht,above_f hp hq,Option.bind_some,w_succ hi (by omega)]
      by_cases c : (!((sc a y i).1 == (sc a y t).1) || (!((sc a y i).2 == (sc a y t).2)))=true
      · rw [if_pos c]
      · rw [if_neg c]
        have e : sc a y i=sc a y t:=by
          simp only [Bool.or_eq_true,Bool.not_eq_true',beq_eq_false_iff_ne,ne_eq,not_or,Decidable.not_not] at c
          exact Prod.ext c.1 c.2
        rw [e,gt_self];rfl
    by_cases c : gt (sc a y i) (sc a y t)=true
    · rw [if_pos c]
      exact Ev.step (fun k=>by rw [st,if_pos c]) (best_l0 g hn hL hs d i (i+1) hi (by omega))
    · rw [if_neg c]
      exact Ev.step (fun k=>by rw [st,if_neg c]) (best_l0 g hn hL hs d t (i+1) ht (by omega))
theorem best_f {a y : List Int} {n : Nat} (g : Gd a y n) (hn : n < 12) {L : List S117} (hL : L.length=y.length) (hs : ∀ j,j < y.length→rd_T117 L (j : Int)=⟨(sc a y j).1,(sc a y j).2⟩) : Ev (fun k=>pvq_best.f k L) (best a y : Int):=by
  have h1:=g.one;have hl:=g.len
  unfold best;rw [hl]
  exact best_l0 g hn hL hs y.length 0 0 (by omega) (by omega)
theorem rdT_set {L : List S117} {i : Nat} (h : i < L.length) (v : S117) (j : Nat) : rd_T117 (L.set i v) (j : Int)=if i=j then v else rd_T117 L (j : Int):=by
  unfold rd_T117
  rw [Int.toNat_natCast,List.getD_eq_getElem?_getD,List.getD_eq_getElem?_getD,List.getElem?_set]
  by_cases e : i=j
  · subst e;simp [h]
  · simp [e]
theorem search_l1 {x a y : List Int} {n : Nat} {K : Int} {r : List Int × Int} (g : Gd a y n) (hn : n < 12) : ∀ (d i : Nat) (L : List S117),i+d=y.length→L.length=y.length→(∀ j,j < i→rd_T117 L (j : Int)=⟨(sc a y j).1,(sc a y j).2⟩) →
    Ev (fun k=>pvq_Search.l0 k x a (add1 y (best a y)) K ((n+1 : Nat) : Int) (sc a y (best a y)).1 (sc a y (best a y)).2) r→Ev (fun k=>pvq_Search.l1 k x a y L K (n : Int) (y.length : Int) (i : Int) (D2 a y) (S2 y)) r
  | 0,i,L,h,hL,hs,hr=>by
    have hl:=g.len;have h1:=g.one
    have hb : best a y < y.length:=pick_lt a y _ _ _ _ (by omega) (by omega)
    have ha:=g.at (by omega) hb
    refine Ev.step (f:=fun k=>(pvq_best.f k L).bind fun t138=>(if 0≤t138 then (if t138 < (L.length : Int) then (if t138 < (y.length : Int) then (pvq_Search.l0 k x a (y.set (t138 : Int).toNat (wrap64 ((rd y t138)+1))) K (wrap64 ((n : Int)+1)) ((rd_T117 L t138).f0) ((rd_T117 L t138).f1)) else (none)) else (none)) else (none))) (fun k => ?_) ?_
    · rw [pvq_Search.l1,if_neg (by omega)]
    · refine Ev.bind (best_f g hn hL (fun j hj=>hs j (by omega))) ?_
      refine Ev.congr (fun k => ?_) hr
      rw [if_pos (by omega),if_pos (by omega),if_pos (by omega),rd_nat,hs _ (by omega),w64 (x:=at0 y (best a y)+1) (by omega) (by omega),Int.toNat_natCast,w_succ (n:=1000) (by omega) (by omega)]
      rfl
  | d+1,i,L,h,hL,hs,hr=>by
    have hi : i < y.length:=by omega
    have hl:=g.len;have hf:=g.few
    have ha:=g.at (by omega) hi
    have ht:=g.tot (by omega)
    refine Ev.step (f:=fun k=>pvq_Search.l1 k x a y (L.set i ⟨(sc a y i).1,(sc a y i).2⟩) K (n : Int) (y.length : Int) ((i+1 : Nat) : Int) (D2 a y) (S2 y)) (fun k => ?_) (search_l1 g hn d (i+1) _ (by omega) (by simpa using hL) ?_ hr)
    · rw [pvq_Search.l1,if_pos (by omega),if_pos (by omega),if_pos (by omega),if_pos (by omega),pvq_with.f,Option.bind_some,if_pos (by omega),rd_nat,rd_nat,w64 (x:=2 * at0 y i) (by omega) (by omega),w64 (x:=2 * at0 y i+1) (by omega) (by omega),w64 (x:=D2 a y+at0 a i) (by omega) (by omega),w64 (x:=S2 y+(2 * at0 y i+1)) (by omega) (by omega),w_succ hi (by omega),Int.toNat_natCast]
      rfl
    · intro j hj
      rw [rdT_set (by omega)]
      by_cases e : i=j
      · rw [if_pos e,e]
      · rw [if_neg e];exact hs j (by omega)
theorem search_l0 {x a : List Int} {r : List Int × Int} {K : Nat} (hK : K≤12) (hx : x.length≤16) : ∀ (e n : Nat) (y : List Int),Gd a y n→y.length=x.length→n+e=K →
    Ev (fun k=>pvq_Search.l2 k (run a e y) x (x.length : Int) 0) r→Ev (fun k=>pvq_Search.l0 k x a y (K : Int) (n : Int) (D2 a y) (S2 y)) r
  | 0,n,y,g,hy,h,hr=>by
    refine Ev.step (fun k => ?_) hr
    rw [pvq_Search.l0,if_neg (by omega)];rfl
  | e+1,n,y,g,hy,h,hr=>by
    have hl:=g.len;have h1:=g.one
    have hb : best a y < y.length:=pick_lt a y _ _ _ _ (by omega) (by omega)
    refine Ev.step (f:=fun k=>pvq_Search.l1 k x a y (List.replicate x.length z117) (K : Int) (n : Int) (y.length : Int) ((0 : Nat) : Int) (D2 a y) (S2 y)) (fun k => ?_) ?_
    · rw [pvq_Search.l0,if_pos (by omega),if_pos (by omega),Int.toNat_natCast,if_pos (by omega),Option.bind_some,List.length_replicate,hy];rfl
    · refine search_l1 g (by omega) y.length 0 _ (by omega) (by simp [hy]) (fun j hj=>by omega) ?_
      rw [sc_add g hb]
      exact search_l0 hK hx e (n+1) (add1 y (best a y)) (g.add hb) (by rw [add1_len];exact hy) (by omega) hr
theorem search_l2 {x y0 : List Int} (hl : y0.length=x.length) (hx : x.length≤16) (hy : ∀ v ∈ y0,0≤v∧v≤12) : ∀ (d i : Nat),i+d=x.length→Ev (fun k=>pvq_Search.l2 k ((sg x y0).take i ++ y0.drop i) x (x.length : Int) (i : Int)) (sg x y0,0)
  | 0,i,h=>by
    have h1:=sg_len hl
    refine Ev.step (f:=fun _=>some _) (fun k => ?_) (Ev.now _)
    rw [pvq_Search.l2,if_neg (by omega),drop_end (by omega),List.append_nil,List.take_of_length_le (by omega)]
  | d+1,i,h=>by
    have hi : i < x.length:=by omega
    have h1:=sg_len hl
    have hb:=hy _ (at_mem (l:=y0) (i:=i) (by omega))
    refine Ev.step (fun k => ?_) (search_l2 hl hx hy d (i+1) (by omega))
    rw [pvq_Search.l2,if_pos (by omega),if_pos (by omega),if_pos (by omega),rd_nat, ← sg_step hl hi,sg_at hi (by omega)]
    by_cases c : at0 x i < 0
    · rw [if_pos c,if_pos (by simp;omega),if_pos c,rd_nat,sg_mid hl hi,w64 (by omega) (by omega),Int.toNat_natCast,w_succ hi (by omega)]
    · rw [if_neg c,if_neg c,w_succ hi (by omega), ← sg_mid hl hi,at_get (l:=(sg x y0).take i ++ y0.drop i) (by simp;omega),List.set_getElem_self]
theorem D2_zero : ∀ (a : List Int) (n : Nat),D2 a (List.replicate n 0)=0
  | [],n=>by simp [D2]
  | a :: l,0=>by simp [D2]
  | a :: l,n+1=>by simp [List.replicate_succ,D2,D2_zero l n]
theorem S2_zero : ∀ n : Nat,S2 (List.replicate n 0)=0
  | 0=>rfl
  | n+1=>by simp [List.replicate_succ,S2,S2_zero n]
theorem search_ok {x : List Int} (hf : Fr x) {K : Nat} (hK : K≤12) : Ev (fun k=>pvq_Search.f k x (K : Int)) (sg x (Ps x K),0):=by
  have h1:=hf.2.1
  refine Ev.bind (fair_f (by omega)) ?_
  refine Ev.congr (f:=fun k=>pvq_Search.j0 k x (K : Int) false) (fun k => ?_) ?_
  · rw [if_pos (by simpa using hf),if_neg (by omega),decide_eq_false (by omega)]
  refine Ev.step (f:=fun k=>(pvq_sizes.f k x).bind fun t123=>pvq_Search.l0 k x t123 (List.replicate x.length 0) (K : Int) 0 0 0) (fun k => ?_) ?_
  · rw [pvq_Search.j0,if_neg (by decide)]
    congr 1;funext t
    rw [if_pos (by omega),Int.toNat_natCast,if_pos (by omega)]
  refine Ev.bind (sizes_f hf) ?_
  have h:=search_l0 (x:=x) (r:=(sg x (Ps x K),0)) hK h1 K 0 _ (gd_0 hf) (by simp) (by omega) ?_
  · rw [D2_zero,S2_zero] at h;exact h
  · have:=search_l2 (Ps_len hf K) h1 (Ps_in hf hK) x.length 0 (by omega)
    show Ev (fun k=>pvq_Search.l2 k (Ps x K) x (x.length : Int) 0) _
    simpa using this
end Go.Proofs.Ytifkhfnmbiefaaa.Pvq
/- pvq: the examples of the chapter, once for all rounds; alike lists. -/
namespace Go.Proofs.Ytifkhfnmbiefaaa.Pvq
open Go Go.RowKit Go.Proofs.YtifkhfnmbiefaaaW.PrintWords Go.Proofs.Ytifkhfnmbiefaaa.Prt Go.Proofs.Ytifkhfnmbiefaaa.Com Go.Proofs.Ytifkhfnmbiefaaa.PvqN
set_option linter.unusedVariables false
set_option linter.unusedSimpArgs false
end Go.Proofs.Ytifkhfnmbiefaaa.Pvq
/- pvq: roots, quotients and shapes: by the program and by the document. -/
namespace Go.Proofs.Ytifkhfnmbiefaaa.Pvq
open Go Go.RowKit Go.Proofs.YtifkhfnmbiefaaaW.PrintWords Go.Proofs.Ytifkhfnmbiefaaa.Prt Go.Proofs.Ytifkhfnmbiefaaa.Com Go.Proofs.Ytifkhfnmbiefaaa.PvqN
set_option linter.unusedVariables false
set_option linter.unusedSimpArgs false
theorem root_one {s r n : Int} (hs : 0≤s) (hr : 0≤r) (h1 : s * s≤n) (h2 : n < (s+1) * (s+1)) (h3 : r * r≤n) (h4 : n < (r+1) * (r+1)) : s=r:=by
  have key : ∀ a b : Int,0≤a→0≤b→a * a≤n→n < (b+1) * (b+1)→a≤b:=by
    intro a b ha hb k1 k2
    apply Int.not_lt.1;intro h
    have:=mul_mono (a:=b+1) (c:=b+1) (b:=a) (d:=a) (by omega) (by omega) (by omega) (by omega)
    omega
  have:=key s r hs hr h1 h4;have:=key r s hr hs h3 h2;omega
def bt2 : Nat→Int
  | 0=>0
  | j+1=>2 ^ j
theorem bt2_half : ∀ j,bt2 (j+1) / 2=bt2 j
  | 0=>by simp [bt2]
  | j+1=>by simp only [bt2];rw [Int.pow_succ];omega
theorem or_bit {x p : Int} {j : Nat} (hj : j≤31) (hp : p=2 ^ j) (hx : 0≤x) (hx1 : x≤4294967295) (hm : ∃ c,x=c * (2 * p)) : Go.bits .or .u64 x p=x+p:=by
  subst hp
  have h0 : (0 : Int) < 2 ^ j:=Int.pow_pos (by decide)
  have h1 : (2 : Int) ^ j≤2 ^ 31:=by have:=Nat.pow_le_pow_right (n:=2) (by decide) hj;exact_mod_cast this
  refine bits_join .u64 64 (by decide) Val.u64_fit (j+1) x (2 ^ j) hx ?_ (by omega) (by omega) (by rw [Int.pow_succ];omega) (by omega)
  obtain ⟨c,rfl⟩:=hm
  rw [Int.pow_succ,Int.mul_comm (2 ^ j) 2]
  exact Int.mul_emod_left _ _
theorem nsqrt_l0 {n : Int} (h0 : 0≤n) (h1 : n≤18446744073709551615) : ∀ (j : Nat) (x p : Int),j≤32→p=2 ^ j→0≤x→x+p≤4294967296→(∃ c,x=c * p)→x * x≤n→n < (x+p) * (x+p) →
    ∃ s,0≤s∧s < 4294967296∧s * s≤n∧n < (s+1) * (s+1)∧Ev (fun k=>num_Sqrt.l0 k n x (bt2 j)) s
  | 0,x,p,hj,hp,hx,hx1,hc,ha,hb=>by
    have e : p=1:=by rw [hp];rfl
    subst e
    exact ⟨x,hx,by omega,ha,hb,Ev.step (f:=fun _=>some x) (fun k=>by rw [num_Sqrt.l0,bt2,if_neg (by omega)]) (Ev.now _)⟩
  | j+1,x,p,hj,hp,hx,hx1,hc,ha,hb=>by
    have e : p=2 * 2 ^ j:=by rw [hp,Int.pow_succ,Int.mul_comm]
    have hq : (0 : Int) < 2 ^ j:=Int.pow_pos (by decide)
    generalize hpq : (2 : Int) ^ j=q at e hq
    obtain ⟨c,hc⟩:=hc
    have ho : Go.bits .or .u64 x q=x+q:=or_bit (j:=j) (by omega) hpq.symm hx (by omega) ⟨c,by rw [hc,e]⟩
    have st : ∀ k,num_Sqrt.l0 (k+1) n x (bt2 (j+1))=if (x+q) * (x+q)≤n then num_Sqrt.l0 k n (x+q) (bt2 j) else num_Sqrt.l0 k n x (bt2 j):=by
      intro k
      have hd : (x+q≤n / (x+q)) ↔ (x+q) * (x+q)≤n:=Int.le_ediv_iff_mul_le (by omega)
      have hd1 : 0≤n / (x+q):=Int.ediv_nonneg h0 (by omega)
      have hd2 : n / (x+q)≤n:=Int.ediv_le_self _ h0
      have hb2 : bt2 (j+1)=q:=hpq
      rw [num_Sqrt.l0,bt2_half,hb2,if_pos hq,ho,if_neg (by omega),Int.tdiv_eq_ediv_of_nonneg h0,u64 (x:=n / (x+q)) hd1 (by omega)]
      by_cases h : (x+q) * (x+q)≤n
      · rw [if_pos h,if_pos (hd.2 h)]
      · rw [if_neg h,if_neg (fun k=>h (hd.1 k))]
    by_cases h : (x+q) * (x+q)≤n
    · obtain ⟨s,a,b,d,f,g⟩:=nsqrt_l0 h0 h1 j (x+q) q (by omega) hpq.symm (by omega) (by omega) ⟨2 * c+1,by rw [hc,e];grind⟩ h (by rw [show x+q+q=x+p by omega];exact hb)
      exact ⟨s,a,b,d,f,Ev.step (fun k=>by rw [st,if_pos h]) g⟩
    · obtain ⟨s,a,b,d,f,g⟩:=nsqrt_l0 h0 h1 j x q (by omega) hpq.symm hx (by omega) ⟨2 * c,by rw [hc,e];grind⟩ ha (by omega)
      exact ⟨s,a,b,d,f,Ev.step (fun k=>by rw [st,if_neg h]) g⟩
theorem rsqrt_l0 {n : Int} (h0 : 0≤n) (h1 : n≤18446744073709551615) : ∀ (m : Nat) (lo hi : Int),hi - lo≤(m : Int)+1→0≤lo→lo < hi→hi≤4294967296→lo * lo≤n→n < hi * hi →
    ∃ s,0≤s∧s < 4294967296∧s * s≤n∧n < (s+1) * (s+1)∧Ev (fun k=>psalteryref03_Sqrt.l0 k n lo hi) s
  | 0,lo,hi,hm,hl,hlt,hh,ha,hb=>by
    have e : hi=lo+1:=by omega
    subst e
    exact ⟨lo,hl,by omega,ha,hb,Ev.step (f:=fun _=>some lo) (fun k=>by rw [psalteryref03_Sqrt.l0,u64 (by omega) (by omega),if_neg (by omega)]) (Ev.now _)⟩
  | m+1,lo,hi,hm,hl,hlt,hh,ha,hb=>by
    by_cases h2 : hi - lo≤1
    · exact rsqrt_l0 h0 h1 m lo hi (by omega) hl hlt hh ha hb
    have hmid : lo < (lo+hi) / 2∧(lo+hi) / 2 < hi:=by omega
    have st : ∀ k,psalteryref03_Sqrt.l0 (k+1) n lo hi=if (lo+hi) / 2 * ((lo+hi) / 2)≤n then psalteryref03_Sqrt.l0 k n ((lo+hi) / 2) hi else psalteryref03_Sqrt.l0 k n lo ((lo+hi) / 2):=by
      intro k
      have b:=mul_mono (a:=(lo+hi) / 2) (c:=(lo+hi) / 2) (b:=4294967295) (d:=4294967295) (by omega) (by omega) (by omega) (by omega)
      have b0:=sq_nonneg ((lo+hi) / 2)
      rw [psalteryref03_Sqrt.l0,u64 (x:=hi - lo) (by omega) (by omega),if_pos (by omega),u64 (x:=lo+hi) (by omega) (by omega),Int.tdiv_eq_ediv_of_nonneg (by omega),u64 (x:=(lo+hi) / 2) (by omega) (by omega),u64 (x:=(lo+hi) / 2 * ((lo+hi) / 2)) b0 (by omega)]
    generalize (lo+hi) / 2=c at hmid st
    by_cases h : c * c≤n
    · obtain ⟨s,a,b,d,f,g⟩:=rsqrt_l0 h0 h1 m c hi (by omega) (by omega) (by omega) hh h hb
      exact ⟨s,a,b,d,f,Ev.step (fun k=>by rw [st,if_pos h]) g⟩
    · obtain ⟨s,a,b,d,f,g⟩:=rsqrt_l0 h0 h1 m lo c (by omega) hl (by omega) (by omega) ha (by omega)
      exact ⟨s,a,b,d,f,Ev.step (fun k=>by rw [st,if_neg h]) g⟩
theorem root_ex {n : Int} (h0 : 0≤n) (h1 : n≤18446744073709551615) : ∃ s,0≤s∧s < 4294967296∧s * s≤n∧n < (s+1) * (s+1)∧Ev (fun k=>num_Sqrt.f k n) s∧Ev (fun k=>psalteryref03_Sqrt.f k n) s:=by
  obtain ⟨s,a,b,d,f,g⟩:=nsqrt_l0 h0 h1 32 0 4294967296 (by omega) (by rfl) (by omega) (by omega) ⟨0,by omega⟩ (by omega) (by omega)
  obtain ⟨r,a',b',d',f',g'⟩:=rsqrt_l0 h0 h1 4294967296 0 4294967296 (by omega) (by omega) (by omega) (by omega) (by omega) (by omega)
  have e:=root_one a a' d f d' f'
  subst e
  exact ⟨s,a,b,d,f,Ev.congr (fun k=>by rw [num_Sqrt.f];rfl) g,g'⟩
def rdn (a b : Int) : Int:=if a % b ≥ b - a % b then a / b+1 else a / b
def dv (a b : Int) : Int:=if a < 0 then -(rdn (-a) b) else rdn a b
theorem div_f {a b : Int} (ha : -1152921504606846976≤a) (ha1 : a≤1152921504606846976) (hb : 1≤b) (hb1 : b≤1152921504606846976) : num_Div.f a b=some (dv a b,0):=by
  have hs : num_size.f a=some (if a < 0 then -a else a):=by
    unfold num_size.f
    by_cases h : a < 0
    · rw [if_pos h,if_pos h,Val.u64wrap,Val.u64wrap];congr 1;omega
    · rw [if_neg h,if_neg h,u64 (by omega) (by omega)]
  have hn : ∃ m,m=(if a < 0 then -a else a)∧0≤m∧m≤1152921504606846976:=⟨_,rfl,by split <;> omega,by split <;> omega⟩
  obtain ⟨m,hm,m0,m1⟩:=hn
  have q0 : 0≤m / b:=Int.ediv_nonneg m0 (by omega)
  have q1 : m / b≤m:=Int.ediv_le_self _ m0
  have r0:=Int.emod_nonneg m (show b≠0 by omega)
  have r1:=Int.emod_lt_of_pos m (show 0 < b by omega)
  have w2 : ∀ x : Int,0≤x→x≤1152921504606846977→wrap64 (IntKind.u64.wrap (-x)) = -x:=by intro x h h'; rw [Val.u64wrap];unfold wrap64;omega
  unfold num_Div.f dv rdn
  rw [if_neg (by omega),hs,Option.bind_some, ← hm,u64 (x:=b) (by omega) (by omega),if_neg (by omega),Int.tdiv_eq_ediv_of_nonneg m0,Int.tmod_eq_emod_of_nonneg m0,u64 (x:=b - m % b) (by omega) (by omega),u64 (x:=m / b) q0 (by omega),u64 (x:=m / b+1) (by omega) (by omega),w2 _ (by omega) (by omega),w2 _ (by omega) (by omega),w64 (x:=m / b+1) (by omega) (by omega),w64 (x:=m / b) (by omega) (by omega)]
  by_cases h : a < 0
  · rw [if_pos h] at hm
    rw [if_pos h,if_pos h,if_pos h, ← hm]
    by_cases c : m % b ≥ b - m % b
    · rw [if_pos c,if_pos c]
    · rw [if_neg c,if_neg c]
  · rw [if_neg h] at hm
    rw [if_neg h,if_neg h,if_neg h, ← hm]
    by_cases c : m % b ≥ b - m % b
    · rw [if_pos c,if_pos c]
    · rw [if_neg c,if_neg c]
theorem rdiv_f {a b : Int} (ha : 0≤a) (ha1 : a≤1152921504606846976) (hb : 1≤b) (hb1 : b≤1152921504606846976) : Ev (fun k=>psalteryref03_Div.f k a b) (rdn a b):=by
  have q0 : 0≤a / b:=Int.ediv_nonneg ha (by omega)
  have q1 : a / b≤a:=Int.ediv_le_self _ ha
  have r0:=Int.emod_nonneg a (show b≠0 by omega)
  have r1:=Int.emod_lt_of_pos a (show 0 < b by omega)
  have e : a - a / b * b=a % b:=by have:=Int.emod_add_mul_ediv a b;grind
  have p0 : 0≤a / b * b:=Int.mul_nonneg q0 (by omega)
  refine Ev.congr (f:=fun k=>psalteryref03_Div.j0 k b (a / b) (a % b) (decide (a % b ≥ b - a % b))) (fun k => ?_) (Ev.step (f:=fun _=>some (rdn a b)) (fun k => ?_) (Ev.now _))
  · rw [psalteryref03_Div.f,if_neg (by omega),Int.tdiv_eq_ediv_of_nonneg ha,w64 (x:=a / b) (by omega) (by omega),w64 (x:=a / b * b) (by omega) (by omega),e,w64 (x:=a % b) (by omega) (by omega),if_pos r0,w64 (x:=b - a % b) (by omega) (by omega)]
  · rw [psalteryref03_Div.j0]
    unfold rdn
    by_cases c : a % b ≥ b - a % b
    · rw [if_pos (decide_eq_true c),if_pos c,w64 (by omega) (by omega)]
    · rw [if_neg (by simpa using c),if_neg c,if_neg (by omega)]
def Pv (y : List Int) : Prop:=1≤y.length∧y.length≤16∧szs y≤12
instance (y : List Int) : Decidable (Pv y):=by unfold Pv;infer_instance
theorem szs_el : ∀ {y : List Int},szs y≤12→∀ v ∈ y, -12≤v∧v≤12
  | p :: y,h,v,hv=>by
    have h1:=szs_in y;have h2:=sz_in p
    simp only [szs] at h
    rcases List.mem_cons.1 hv with rfl|hv
    · unfold sz at h h2;split at h
      · omega
      · omega
    · exact szs_el (by omega) v hv
theorem sz_mag {v : Int} (h : -12≤v∧v≤12) : sz v=mag v:=by unfold sz mag;rw [if_pos h]
theorem index_ok {y : List Int} (h : Pv y) : ∃ i,Ev (fun k=>comb_Index.f k y) (i,0):=by
  obtain ⟨V,C⟩:=exCnt
  have hs:=szs_in y
  have h2:=h.2.2
  obtain ⟨i,i0,i1,hu⟩:=Unr.ex C y (szs y).toNat h.2.1 (by omega) (by omega)
  exact ⟨i,700,fun k hk=>index_f C h.1 h.2.1 (by omega) hu hk⟩
theorem S2_pv {y : List Int} (h : Pv y) : 0≤S2 y∧S2 y≤2304:=by
  have:=S2_le (c:=12) (by omega) (szs_el h.2.2);have:=S2_nonneg y;have:=h.2.1;omega
theorem prod_pr {p r : Int} (hp : -12≤p∧p≤12) (hr : 0≤r) (hr1 : r≤4194304) : -50331648≤p * r∧p * r≤50331648:=by
  have h1 : 0≤(12 - p) * r:=Int.mul_nonneg (by omega) hr
  have h2 : 0≤(12+p) * r:=Int.mul_nonneg (by omega) hr
  grind
theorem shape_l1 {y : List Int} {r N : Int} (h : Pv y) (hr : 0≤r) (hr1 : r≤4194304) (hN : 1≤N) (hN1 : N < 4294967296) : ∀ (d i : Nat) (o : List Int),i+d=y.length→o.length=y.length →
    Ev (fun k=>pvq_Shape.l1 k r o N y (y.length : Int) (i : Int)) (o.take i ++ (y.drop i).map (fun p=>dv (p * r * 256) N),0)
  | 0,i,o,e,ho=>Ev.step (f:=fun _=>some _) (fun k=>by rw [pvq_Shape.l1,if_neg (by omega),drop_end (by omega),List.map_nil,List.append_nil,List.take_of_length_le (by omega)]) (Ev.now _)
  | d+1,i,o,e,ho=>by
    have hi : i < y.length:=by omega
    have hp:=szs_el h.2.2 _ (List.getElem_mem hi)
    have hb:=prod_pr hp hr hr1
    have hl:=h.2.1
    refine Ev.step (f:=fun k=>pvq_Shape.l1 k r (o.set i (dv (y[i] * r * 256) N)) N y (y.length : Int) ((i+1 : Nat) : Int)) (fun k => ?_) ?_
    · rw [pvq_Shape.l1,if_pos (by omega),if_pos (by omega),if_pos (by omega),rd_at hi,w64 (x:=y[i] * r) (by omega) (by omega),w64 (x:=y[i] * r * 256) (by omega) (by omega),div_f (by omega) (by omega) hN (by omega),Option.bind_some,if_pos (by omega),w_succ hi (by omega),Int.toNat_natCast]
    · have ih:=shape_l1 h hr hr1 hN hN1 d (i+1) (o.set i (dv (y[i] * r * 256) N)) (by omega) (by simpa using ho)
      have e : (o.set i (dv (y[i] * r * 256) N)).take (i+1) ++ (y.drop (i+1)).map (fun p=>dv (p * r * 256) N)=o.take i ++ (y.drop i).map (fun p=>dv (p * r * 256) N):=by
        rw [drop_at hi,List.map_cons,List.take_succ_eq_append_getElem (by simp;omega),List.getElem_set_self,List.append_assoc,List.take_set_of_le (Nat.le_refl i)]
        rfl
      rw [e] at ih;exact ih
theorem shape_l0 {y : List Int} {r : Int} (h : Pv y) {res : List Int × Int} : ∀ (d i : Nat) (s : Int),i+d=y.length→0≤s→s≤144 * i →
    Ev (fun k=>if s+S2 (y.drop i)=0 then some (List.replicate y.length 0,0) else (num_Sqrt.f k ((s+S2 (y.drop i)) * 65536)).bind fun t=>pvq_Shape.l1 k r (List.replicate y.length 0) (wrap64 t) y (y.length : Int) 0) res→Ev (fun k=>pvq_Shape.l0 k y r s y (y.length : Int) (i : Int)) res
  | 0,i,s,e,hs,hs1,hr=>by
    have hl:=h.2.1
    rw [drop_end (by omega),S2,Int.add_zero] at hr
    refine Ev.step (fun k => ?_) hr
    rw [pvq_Shape.l0,if_neg (by omega),if_pos (by omega),Int.toNat_natCast,if_pos (by omega),Option.bind_some,u64 (x:=s * 256) (by omega) (by omega),u64 (x:=s * 256 * 256) (by omega) (by omega),show s * 256 * 256=s * 65536 by omega]
  | d+1,i,s,e,hs,hs1,hr=>by
    have hi : i < y.length:=by omega
    have hl:=h.2.1
    have hp:=szs_el h.2.2 _ (List.getElem_mem hi)
    have hq:=sq_in hp.1 hp.2
    refine Ev.step (fun k => ?_) (shape_l0 h d (i+1) (s+y[i] * y[i]) (by omega) (by omega) (by omega) (r:=r) (res:=res) ?_)
    · rw [pvq_Shape.l0,if_pos (by omega),if_pos (by omega),if_pos (by omega),rd_at hi,w64 (x:=y[i] * y[i]) (by omega) (by omega),u64 (x:=y[i] * y[i]) (by omega) (by omega),u64 (x:=s+y[i] * y[i]) (by omega) (by omega),w_succ hi (by omega)]
    · rw [drop_at hi,S2, ← Int.add_assoc] at hr;exact hr
theorem rshape_l0 {y : List Int} {r : Int} (h : Pv y) {res : List Int} : ∀ (d i : Nat) (s : Int),i+d=y.length→0≤s→s≤144 * i →
    Ev (fun k=>psalteryref07_Shape.l1 k y r (s+S2 (y.drop i)) [] 0) res→Ev (fun k=>psalteryref07_Shape.l0 k y r s (i : Int)) res
  | 0,i,s,e,hs,hs1,hr=>by
    rw [drop_end (by omega),S2,Int.add_zero] at hr
    exact Ev.step (fun k=>by rw [psalteryref07_Shape.l0,if_neg (by omega)]) hr
  | d+1,i,s,e,hs,hs1,hr=>by
    have hi : i < y.length:=by omega
    have hl:=h.2.1
    have hp:=szs_el h.2.2 _ (List.getElem_mem hi)
    have hq:=sq_in hp.1 hp.2
    have hm : sz y[i]=mag y[i]:=sz_mag hp
    have hm0 : 0≤mag y[i]∧mag y[i]≤12:=by unfold mag;split <;> omega
    have hz : Ev (fun k=>psalteryref06_Size.f k y[i]) (mag y[i]):=⟨20,fun k hk=>by rw [← hm];exact refSize_f _ hk⟩
    refine Ev.step (f:=fun k=>(psalteryref06_Size.f k y[i]).bind fun t261=>(psalteryref07_Shape.l0 k y r (IntKind.u64.wrap (s+(IntKind.u64.wrap ((IntKind.u64.wrap (t261)) * (IntKind.u64.wrap (t261)))))) (wrap64 ((i : Int)+1)))) (fun k => ?_) (Ev.bind hz ?_)
    · rw [psalteryref07_Shape.l0,if_pos (by omega),if_pos (by omega),rd_at hi]
    · rw [u64 (x:=mag y[i]) (by omega) (by omega),mag_sq,u64 (x:=y[i] * y[i]) (by omega) (by omega),u64 (x:=s+y[i] * y[i]) (by omega) (by omega),w_succ hi (by omega)]
      refine rshape_l0 h d (i+1) (s+y[i] * y[i]) (by omega) (by omega) (by omega) ?_
      rw [drop_at hi,S2, ← Int.add_assoc] at hr;exact hr
theorem rdn_zero {N : Int} (h : 1≤N) : rdn 0 N=0:=by unfold rdn;rw [if_neg (by simp;omega)];simp
theorem rshape_l1 {y : List Int} {r N : Int} (h : Pv y) (hr : 0≤r) (hr1 : r≤4194304) (hN : 1≤N) (hN1 : N < 4294967296) (h0 : 0 < S2 y) (hq : Ev (fun k=>psalteryref03_Sqrt.f k (S2 y * 65536)) N) : ∀ (d i : Nat) (o : List Int),i+d=y.length→o.length=i →
    Ev (fun k=>psalteryref07_Shape.l1 k y r (S2 y) o (i : Int)) (o ++ (y.drop i).map (fun p=>dv (p * r * 256) N))
  | 0,i,o,e,ho=>Ev.step (f:=fun _=>some _) (fun k=>by rw [psalteryref07_Shape.l1,if_neg (by omega),drop_end (by omega),List.map_nil,List.append_nil]) (Ev.now _)
  | d+1,i,o,e,ho=>by
    have hi : i < y.length:=by omega
    have hl:=h.2.1
    have hs2:=S2_pv h
    have hp:=szs_el h.2.2 _ (List.getElem_mem hi)
    have hm : sz y[i]=mag y[i]:=sz_mag hp
    have hm0 : 0≤mag y[i]∧mag y[i]≤12:=by unfold mag;split <;> omega
    have hb:=prod_pr (p:=mag y[i]) (r:=r) (by omega) hr hr1
    have hb0 : 0≤mag y[i] * r:=Int.mul_nonneg hm0.1 hr
    have hz : Ev (fun k=>psalteryref06_Size.f k y[i]) (mag y[i]):=⟨20,fun k hk=>by rw [← hm];exact refSize_f _ hk⟩
    have ih:=rshape_l1 h hr hr1 hN hN1 h0 hq d (i+1) (o ++ [dv (y[i] * r * 256) N]) (by omega) (by simp [ho])
    have hd:=rdiv_f (a:=mag y[i] * r * 256) (b:=N) (by omega) (by omega) hN (by omega)
    have he : dv (y[i] * r * 256) N=if y[i] < 0 then -(rdn (mag y[i] * r * 256) N) else rdn (mag y[i] * r * 256) N:=by
      by_cases c : y[i] < 0
      · have hm2 : mag y[i] = -y[i]:=by unfold mag;rw [if_pos c]
        have e2 : mag y[i] * r * 256 = -(y[i] * r * 256):=by rw [hm2];grind
        rw [if_pos c,e2];unfold dv
        by_cases c2 : y[i] * r * 256 < 0
        · rw [if_pos c2]
        · rw [if_neg c2]
          have e3 : y[i] * r * 256=0:=by omega
          rw [e3,Int.neg_zero,rdn_zero hN];rfl
      · have hm2 : mag y[i]=y[i]:=by unfold mag;rw [if_neg c]
        rw [if_neg c,hm2];unfold dv
        rw [hm2] at hb0
        rw [if_neg (by omega)]
    have hr' : 0≤rdn (mag y[i] * r * 256) N∧rdn (mag y[i] * r * 256) N≤1152921504606846976:=by
      have q0 : 0≤mag y[i] * r * 256 / N:=Int.ediv_nonneg (by omega) (by omega)
      have q1 : mag y[i] * r * 256 / N≤mag y[i] * r * 256:=Int.ediv_le_self _ (by omega)
      unfold rdn;split <;> omega
    rw [drop_at hi,List.map_cons]
    rw [List.append_assoc] at ih
    refine Ev.step (f:=fun k=>(psalteryref06_Size.f k y[i]).bind fun t263=>((psalteryref03_Sqrt.f k (IntKind.u64.wrap (S2 y * 65536))).bind fun t264=>((psalteryref03_Div.f k (wrap64 ((wrap64 (t263 * r)) * 256)) (wrap64 (t264))).bind fun t265=>(if y[i] < 0 then (if o.length < 17592186044416 then (psalteryref07_Shape.l1 k y r (S2 y) (o ++ [wrap64 (-t265)]) (wrap64 ((i : Int)+1))) else (none)) else (if o.length < 17592186044416 then (psalteryref07_Shape.l1 k y r (S2 y) (o ++ [t265]) (wrap64 ((i : Int)+1))) else (none)))))) (fun k => ?_) (Ev.bind hz ?_)
    · rw [psalteryref07_Shape.l1,if_pos (by omega),if_pos (by omega),if_pos (by omega),rd_at hi]
    · rw [u64 (x:=S2 y * 65536) (by omega) (by omega),w64 (x:=mag y[i] * r) (by omega) (by omega),w64 (x:=mag y[i] * r * 256) (by omega) (by omega)]
      refine Ev.bind hq ?_
      rw [w64 (x:=N) (by omega) (by omega)]
      refine Ev.bind hd ?_
      refine Ev.congr (fun k => ?_) ih
      rw [he,w_succ hi (by omega)]
      by_cases c : y[i] < 0
      · rw [if_pos c,if_pos c,if_pos (by omega),w64 (by omega) (by omega)]
      · rw [if_neg c,if_neg c,if_pos (by omega)]
theorem shape_some {y : List Int} {r : Int} (h : Pv y) (hr : 0≤r) (hr1 : r≤4194304) (h0 : 0 < S2 y) : ∃ N,256≤N∧N < 4294967296∧N * N≤65536 * S2 y∧65536 * S2 y < (N+1) * (N+1) ∧
    Ev (fun k=>pvq_Shape.f k y r) (y.map (fun p=>dv (p * r * 256) N),0)∧Ev (fun k=>psalteryref07_Shape.f k y r) (y.map (fun p=>dv (p * r * 256) N)):=by
  obtain ⟨i,hi⟩:=index_ok h
  have hs:=S2_pv h
  obtain ⟨N,n0,n1,n2,n3,n4,n5⟩:=root_ex (n:=S2 y * 65536) (by omega) (by omega)
  have hN : 256≤N:=by
    apply Int.not_lt.1;intro hlt
    have:=mul_mono (a:=N+1) (c:=N+1) (b:=256) (d:=256) (by omega) (by omega) (by omega) (by omega)
    omega
  refine ⟨N,hN,n1,by omega,by omega, ?_, ?_⟩
  · refine Ev.bind hi ?_
    refine Ev.congr (f:=fun k=>pvq_Shape.j0 k y r false) (fun k=>by rw [if_pos rfl,if_neg (by omega),decide_eq_false (by omega)]) ?_
    refine Ev.step (f:=fun k=>pvq_Shape.l0 k y r 0 y (y.length : Int) ((0 : Nat) : Int)) (fun k=>by rw [pvq_Shape.j0,if_neg (by decide)];rfl) ?_
    refine shape_l0 h y.length 0 0 (by omega) (by omega) (by omega) ?_
    rw [List.drop_zero,Int.zero_add]
    refine Ev.congr (fun k=>by rw [if_neg (by omega)]) (Ev.bind n4 ?_)
    rw [w64 (x:=N) (by omega) (by omega)]
    have:=shape_l1 h hr hr1 (show 1≤N by omega) n1 y.length 0 (List.replicate y.length 0) (by omega) (by simp)
    simpa using this
  · refine rshape_l0 h y.length 0 0 (by omega) (by omega) (by omega) ?_
    rw [List.drop_zero,Int.zero_add]
    have:=rshape_l1 h hr hr1 (show 1≤N by omega) n1 h0 n5 y.length 0 [] (by omega) rfl
    simpa using this
end Go.Proofs.Ytifkhfnmbiefaaa.Pvq
/- The examples of the alloc's chapter, once for all rounds. -/
namespace Go.Proofs.Ytifkhfnmbiefaaa.Alo
open Go Go.RowKit Go.Proofs.YtifkhfnmbiefaaaW.PrintWords Go.Proofs.Ytifkhfnmbiefaaa.Prt
theorem w64 {x : Int} (h0 : -9223372036854775808≤x) (h1 : x≤9223372036854775807) : wrap64 x=x:=by unfold wrap64;omega
def rightB (a b : Int) : Bool:=decide ((b=1∧11≤a∧a≤60)∨(b=2∧17≤a∧a≤60))
theorem right_iff {a b : Int} : rightB a b=true ↔ (b=1∧11≤a∧a≤60)∨(b=2∧17≤a∧a≤60):=by
  unfold rightB
  exact decide_eq_true_iff
theorem right_f (a b : Int) : alloc_Right.f a b=some (rightB a b)∧psalteryref12_Right.f a b=some (rightB a b):=by
  unfold alloc_Right.f psalteryref12_Right.f rightB
  refine ⟨?_, ?_⟩
  · by_cases h1 : b=1
    · rw [if_pos h1]
      by_cases h2 : a ≥ 11
      · rw [if_pos h2]
        congr 1
        rw [decide_eq_decide]
        omega
      · rw [if_neg h2,decide_eq_false (by omega)]
    · rw [if_neg h1]
      by_cases h3 : b=2
      · rw [if_pos h3]
        by_cases h2 : a ≥ 17
        · rw [if_pos h2]
          congr 1
          rw [decide_eq_decide]
          omega
        · rw [if_neg h2,decide_eq_false (by omega)]
      · rw [if_neg h3,decide_eq_false (by omega)]
  · by_cases h0 : a≤60
    · rw [if_pos h0]
      by_cases h1 : b=1
      · rw [if_pos h1]
        by_cases h2 : a ≥ 11
        · rw [if_pos h2,decide_eq_true (by omega)]
        · rw [if_neg h2,if_neg (by omega),decide_eq_false (by omega)]
      · rw [if_neg h1]
        by_cases h3 : b=2
        · rw [if_pos h3]
          congr 1
          rw [decide_eq_decide]
          omega
        · rw [if_neg h3,decide_eq_false (by omega)]
    · rw [if_neg h0,decide_eq_false (by omega)]
def room (a b : Int) : Int:=if b=1 then 8 * a - 86 else (8 * a - 131) / 2
theorem room_ok {a b : Int} (h : rightB a b=true) : alloc_Room.f a b=some (room a b)∧psalteryref12_Room.f a b=some (room a b):=by
  unfold alloc_Room.f psalteryref12_Room.f room
  rw [(right_f a b).1,(right_f a b).2,h,Option.bind_some,Option.bind_some,if_pos rfl,if_pos rfl]
  have hg : gain_Most.f false=some 45:=rfl
  rw [hg,Option.bind_some]
  rcases right_iff.1 h with ⟨rfl,h1,h2⟩ | ⟨rfl,h1,h2⟩
  · rw [if_neg (by decide),if_pos rfl,if_pos rfl,w64 (x:=8 * a) (by omega) (by omega),w64 (x:=8 * a - 41) (by omega) (by omega),w64 (x:=(45 : Int) * 1) (by omega) (by omega),w64 (x:=8 * a - 41 - 45 * 1) (by omega) (by omega),w64 (x:=8 * a - 86) (by omega) (by omega),Int.tdiv_eq_ediv_of_nonneg (by omega),w64 (by omega) (by omega)]
    exact ⟨by congr 1;omega,rfl⟩
  · rw [if_neg (by decide),if_neg (by decide),if_neg (by decide),w64 (x:=8 * a) (by omega) (by omega),w64 (x:=8 * a - 41) (by omega) (by omega),w64 (x:=(45 : Int) * 2) (by omega) (by omega),w64 (x:=8 * a - 41 - 45 * 2) (by omega) (by omega),w64 (x:=8 * a - 131) (by omega) (by omega),Int.tdiv_eq_ediv_of_nonneg (by omega),Int.tdiv_eq_ediv_of_nonneg (by omega),w64 (by omega) (by omega),w64 (by omega) (by omega)]
    exact ⟨by congr 1;omega,rfl⟩
theorem room_in {a b : Int} (h : rightB a b=true) : 0≤room a b∧room a b≤400:=by
  unfold room
  rcases right_iff.1 h with ⟨rfl,h1,h2⟩ | ⟨rfl,h1,h2⟩
  · rw [if_pos rfl];omega
  · rw [if_neg (by decide)];omega
end Go.Proofs.Ytifkhfnmbiefaaa.Alo
/- The pulse vectors: the document's numbers, and the vectors of numbers, by the program and by the document. -/
namespace Go.Proofs.Ytifkhfnmbiefaaa.Com
open Go Go.RowKit Go.Proofs.YtifkhfnmbiefaaaW.PrintWords Go.Proofs.Ytifkhfnmbiefaaa.Prt
set_option linter.unusedVariables false
set_option linter.unusedSimpArgs false
variable {V : Nat→Nat→Int}

theorem rowL_len (n : Nat) : (rowL V n).length=13:=by rw [rowL,List.length_map,List.length_range]
theorem rd_row {n j : Nat} (h : j < 13) : rd (rowL V n) (j : Int)=V n j:=by
  rw [rd_at (by rw [rowL_len];exact h)]
  simp [rowL]
theorem Unr.none (C : Cnt V) {kk : Nat} {i : Int} (hkk : kk < 13) (h0 : 0≤i) (h1 : i < V 0 kk) : Unr V 0 kk i []:=by
  rcases Nat.eq_zero_or_pos kk with rfl|h
  · rw [C.zero (by decide)] at h1
    exact ⟨rfl,by omega,rfl⟩
  · rw [C.none hkk h] at h1
    omega
theorem refCount_ok (C : Cnt V) {n k : Nat} (hn' : n≤16) (hk : k < 13) {q : Nat} (hq : 3000≤q) : psalteryref06_Count.f q (n : Int) (k : Int)=some (V n k):=by
  unfold psalteryref06_Count.f
  rw [C.rows (by omega) hq,Option.bind_some,if_pos (by omega),if_pos (by rw [rowL_len];omega),rd_row hk]
theorem bits_ex : ∀ (j : Nat) (v : Int),0≤v→v < 2 ^ j→(j≤60∧v < 1152921504606846976)→∃ b : Int,0≤b∧b≤j∧(∀ (k : Nat) (c : Int),0≤c→c+j≤1000→comb_width.l0 (k+j+1) v c=some (c+b))∧∀ k : Nat,psalteryref03_Log2.f (k+j+1) v=some (b - 1)
  | 0,v,h0,h1,_=>by
    obtain rfl : v=0:=by
      rw [Int.pow_zero] at h1
      omega
    refine ⟨0,by omega,by omega,fun k c _ _ => ?_,fun k => ?_⟩
    · rw [comb_width.l0,if_neg (by omega),Int.add_zero]
    · rw [psalteryref03_Log2.f,if_pos rfl]
      rfl
  | j+1,v,h0,h1,hj=>by
    by_cases hv : v=0
    · subst hv
      refine ⟨0,by omega,by omega,fun k c _ _ => ?_,fun k => ?_⟩
      · rw [comb_width.l0,if_neg (by omega),Int.add_zero]
      · rw [psalteryref03_Log2.f,if_pos rfl]
        rfl
    · have h2 : (2 : Int) ^ (j+1)=2 * 2 ^ j:=by rw [Int.pow_succ,Int.mul_comm]
      obtain ⟨b,b0,b1,b2,b3⟩:=bits_ex j (v / 2) (by omega) (by omega) ⟨by omega,by omega⟩
      refine ⟨b+1,by omega,by omega,fun k c c0 c1 => ?_,fun k => ?_⟩
      · rw [show k+(j+1)+1=(k+j+1)+1 by omega,comb_width.l0,if_pos (by omega),w64 (by omega) (by omega),b2 k (c+1) (by omega) (by omega)]
        congr 1
        omega
      · rw [show k+(j+1)+1=(k+j+1)+1 by omega,psalteryref03_Log2.f,if_neg hv,Int.tdiv_eq_ediv_of_nonneg h0,u64 (by omega) (by omega),b3 k,Option.bind_some,w64 (by omega) (by omega)]
        congr 1
        omega
end Go.Proofs.Ytifkhfnmbiefaaa.Com
/- What a number of a pulse vector costs, by the program and by the document: the same. -/
namespace Go.Proofs.Ytifkhfnmbiefaaa.Com
open Go Go.RowKit Go.Proofs.YtifkhfnmbiefaaaW.PrintWords Go.Proofs.Ytifkhfnmbiefaaa.Prt
set_option linter.unusedVariables false
set_option linter.unusedSimpArgs false
variable {V : Nat→Nat→Int}
theorem fair_ok {n k : Nat} (hn : 1≤n) (hn' : n≤16) (hk : k < 13) : comb_fair.f (n : Int) (k : Int)=some true:=by
  unfold comb_fair.f
  rw [if_pos (by omega),if_pos (by omega),if_pos (by omega),decide_eq_true (by omega)]
theorem count_ok (C : Cnt V) {n k : Nat} (hn : 1≤n) (hn' : n≤16) (hk : k < 13) : comb_Count.f (n : Int) (k : Int)=some (V n k,0):=by
  unfold comb_Count.f
  rw [fair_ok hn hn' hk,Option.bind_some,if_pos rfl,C.table (by omega) hk,Option.bind_some]
theorem cost_ok (C : Cnt V) {n k : Nat} (hn : 1≤n) (hn' : n≤16) (hk : k < 13) {q : Nat} (hq : 3000≤q) : ∃ c,0≤c∧c≤60∧(k=0→c=0)∧comb_Cost.f q (n : Int) (k : Int)=some (c,0)∧psalteryref06_Cost.f q (n : Int) (k : Int)=some c:=by
  have hV:=VV C (show n < 17 by omega) hk
  have hp:=C.pos (show n < 17 by omega) hk (by omega)
  unfold comb_Cost.f psalteryref06_Cost.f
  rw [count_ok C hn hn' hk,refCount_ok C hn' hk hq,Option.bind_some,Option.bind_some]
  dsimp only
  rw [if_pos rfl,u64 (x:=V n k - 1) (by omega) (by omega)]
  have h40 : (2 : Int) ^ 40=1099511627776:=by decide
  obtain ⟨r,rfl⟩ : ∃ r,q=r+40+1:=⟨q - 41,by omega⟩
  by_cases hc : V n k - 1 < 65536
  · obtain ⟨b,b0,b1,b2,b3⟩:=bits_ex 40 (V n k - 1) (by omega) (by omega) ⟨by omega,by omega⟩
    have b2' := b2 r 0 (by omega) (by omega)
    rw [Int.zero_add] at b2'
    refine ⟨b,b0,by omega,fun hk0 => ?_, ?_, ?_⟩
    · subst hk0
      have hz:=C.zero (show n < 17 by omega)
      rw [hz] at b2'
      have h0 : comb_width.l0 (r+40+1) (1 - 1) 0=some 0:=by rw [comb_width.l0,if_neg (by decide)]
      rw [h0] at b2'
      exact (Option.some.inj b2').symm
    · rw [if_pos hc]
      unfold comb_width.f
      rw [b2',Option.bind_some]
    · rw [if_pos hc,b3 r,Option.bind_some,w64 (by omega) (by omega)]
      congr 1
      omega
  · obtain ⟨b,b0,b1,b2,b3⟩:=bits_ex 40 ((V n k - 1) / 65536) (by omega) (by omega) ⟨by omega,by omega⟩
    have b2' := b2 r 0 (by omega) (by omega)
    rw [Int.zero_add] at b2'
    refine ⟨b+16,by omega,by omega,fun hk0 => ?_, ?_, ?_⟩
    · subst hk0
      have hz:=C.zero (show n < 17 by omega)
      omega
    · rw [if_neg hc]
      unfold comb_width.f
      rw [b2',Option.bind_some,w64 (by omega) (by omega)]
    · rw [if_neg hc,Int.tdiv_eq_ediv_of_nonneg (by omega),u64 (by omega) (by omega),b3 r,Option.bind_some,w64 (by omega) (by omega)]
      congr 1
      omega
structure Cst (K : Nat→Nat→Int) : Prop where
  cost : ∀ {n k : Nat},1≤n→n≤16→k < 13→0≤K n k∧K n k≤60∧(k=0→K n k=0)∧∀ q,3000≤q→comb_Cost.f q (n : Int) (k : Int)=some (K n k,0)∧psalteryref06_Cost.f q (n : Int) (k : Int)=some (K n k)
theorem exCst : ∃ K,Cst K:=by
  obtain ⟨V,C⟩:=exCnt
  refine ⟨fun n k=>((comb_Cost.f 3000 (n : Int) (k : Int)).getD (0,0)).1,⟨fun {n k} hn hn' hk => ?_⟩⟩
  obtain ⟨c,c0,c1,c2,h1,h2⟩:=cost_ok C hn hn' hk (Nat.le_refl 3000)
  have e : ((comb_Cost.f 3000 (n : Int) (k : Int)).getD (0,0)).1=c:=by rw [h1];rfl
  simp only [e]
  exact ⟨c0,c1,c2,fun q hq=>⟨at_rounds (comb_Cost.mono _ _) hq h1,at_rounds (psalteryref06_Cost.mono _ _) hq h2⟩⟩
end Go.Proofs.Ytifkhfnmbiefaaa.Com
/- Pulses of one channel: what a band costs and is worth, by the program and by the document. -/
namespace Go.Proofs.Ytifkhfnmbiefaaa.Alo
open Go Go.RowKit Go.Proofs.YtifkhfnmbiefaaaW.PrintWords Go.Proofs.Ytifkhfnmbiefaaa.Prt
set_option linter.unusedVariables false
set_option linter.unusedSimpArgs false
variable {K : Nat→Nat→Int}
def W (b : Nat) : Nat := [1,1,2,4,8].getD b 0
theorem W_in {b : Nat} (h : b < 5) : 1≤W b∧W b≤8:=(by decide : ∀ b : Fin 5,1≤W b.1∧W b.1≤8) ⟨b,h⟩
def mst (b : Nat) : Int:=if W b=1 then 1 else 12
theorem width_p {b : Nat} (h : b < 5) : band_Width.f (b : Int)=some (W b : Int):=(by decide +kernel : ∀ b : Fin 5,band_Width.f (b.1 : Int)=some (W b.1 : Int)) ⟨b,h⟩
theorem most_p {b : Nat} (h : b < 5) : alloc_most.f (b : Int)=some (mst b):=(by decide +kernel : ∀ b : Fin 5,alloc_most.f (b.1 : Int)=some (mst b.1)) ⟨b,h⟩
theorem width_1 : ∀ b : Fin 5,psalteryref10_Width.f 1 (b.1 : Int)=some (W b.1 : Int):=by decide +kernel
theorem width_r {b : Nat} (h : b < 5) {q : Nat} (hq : 1≤q) : psalteryref10_Width.f q (b : Int)=some (W b : Int):=at_rounds (psalteryref10_Width.mono _) hq (width_1 ⟨b,h⟩)
def Gr (g : List Int) : Prop:=g.length=5∧∀ b : Nat,b < 5→0≤rd g (b : Int)∧rd g (b : Int)≤44
def Ks (l : List Int) : Prop:=l.length=5∧∀ b : Nat,b < 5→0≤rd l (b : Int)∧rd l (b : Int)≤mst b
theorem mst_in (b : Nat) : 1≤mst b∧mst b≤12:=by unfold mst;by_cases h : W b=1 <;> simp [h]
def Kb (K : Nat→Nat→Int) (b : Nat) (v : Int) : Int:=K (W b) v.toNat
theorem Kb_in (C : Com.Cst K) {b : Nat} (h : b < 5) {v : Int} (v0 : 0≤v) (v1 : v≤12) : 0≤Kb K b v∧Kb K b v≤60:=by
  have hw:=W_in h
  have:=C.cost (n:=W b) (k:=v.toNat) (by omega) (by omega) (by omega)
  exact ⟨this.1,this.2.1⟩
theorem Kb_c (C : Com.Cst K) {b : Nat} (h : b < 5) {v : Int} (v0 : 0≤v) (v1 : v≤12) {q : Nat} (hq : 3000≤q) : comb_Cost.f q (W b : Int) v=some (Kb K b v,0)∧psalteryref06_Cost.f q (W b : Int) v=some (Kb K b v):=by
  have hw:=W_in h
  have:=(C.cost (n:=W b) (k:=v.toNat) (by omega) (by omega) (by omega)).2.2.2 q hq
  rw [Int.toNat_of_nonneg v0] at this
  exact this
theorem Kb_0 (C : Com.Cst K) {b : Nat} (h : b < 5) : Kb K b 0=0:=by
  have hw:=W_in h
  exact (C.cost (n:=W b) (k:=0) (by omega) (by omega) (by omega)).2.2.1 rfl
def Sp (K : Nat→Nat→Int) (l : List Int) : Int:=Kb K 0 (rd l 0)+Kb K 1 (rd l 1)+Kb K 2 (rd l 2)+Kb K 3 (rd l 3)+Kb K 4 (rd l 4)
theorem Ks_rd {l : List Int} (h : Ks l) {b : Nat} (hb : b < 5) : 0≤rd l (b : Int)∧rd l (b : Int)≤12:=by
  have:=h.2 b hb
  have:=mst_in b
  omega
theorem Sp_in (C : Com.Cst K) {l : List Int} (h : Ks l) : 0≤Sp K l∧Sp K l≤300:=by
  have f:=fun (b : Nat) (hb : b < 5)=>Kb_in C hb (Ks_rd h hb).1 (Ks_rd h hb).2
  have f0 : 0≤Kb K 0 (rd l 0)∧Kb K 0 (rd l 0)≤60:=f 0 (by decide)
  have f1 : 0≤Kb K 1 (rd l 1)∧Kb K 1 (rd l 1)≤60:=f 1 (by decide)
  have f2 : 0≤Kb K 2 (rd l 2)∧Kb K 2 (rd l 2)≤60:=f 2 (by decide)
  have f3 : 0≤Kb K 3 (rd l 3)∧Kb K 3 (rd l 3)≤60:=f 3 (by decide)
  have f4 : 0≤Kb K 4 (rd l 4)∧Kb K 4 (rd l 4)≤60:=f 4 (by decide)
  unfold Sp
  omega
theorem sp_step (C : Com.Cst K) {l : List Int} (h : Ks l) {b : Nat} (hb : b < 5) {q : Nat} (hq : 3000≤q) {x : Int} (x0 : 0≤x) (x1 : x≤1000) : psalteryref12_Spent.l0 (q+1) l x (b : Int)=psalteryref12_Spent.l0 q l (x+Kb K b (rd l (b : Int))) ((b+1 : Nat) : Int):=by
  have hl:=h.1
  have hr:=Ks_rd h hb
  have hk:=Kb_in C hb hr.1 hr.2
  rw [psalteryref12_Spent.l0,if_pos (by omega),width_r hb (by omega),Option.bind_some,if_pos (by omega),if_pos (by omega),(Kb_c C hb hr.1 hr.2 hq).2,Option.bind_some,w64 (by omega) (by omega),w64 (by omega) (by omega)]
  rfl
theorem spent_f (C : Com.Cst K) {l : List Int} (h : Ks l) {q : Nat} (hq : 3010≤q) : psalteryref12_Spent.f q l=some (Sp K l):=by
  obtain ⟨r,rfl⟩ : ∃ r,q=r+1+1+1+1+1+1:=⟨q - 6,by omega⟩
  have f:=fun (b : Nat) (hb : b < 5)=>Kb_in C hb (Ks_rd h hb).1 (Ks_rd h hb).2
  have f0:=f 0 (by decide)
  have f1:=f 1 (by decide)
  have f2:=f 2 (by decide)
  have f3:=f 3 (by decide)
  unfold psalteryref12_Spent.f
  rw [show (psalteryref12_Spent.l0 (r+1+1+1+1+1+1) l 0 0)=psalteryref12_Spent.l0 (r+1+1+1+1+1+1) l 0 ((0 : Nat) : Int) from rfl,sp_step C h (b:=0) (by omega) (by omega) (by omega) (by omega),sp_step C h (b:=1) (by omega) (by omega) (by omega) (by omega),sp_step C h (b:=2) (by omega) (by omega) (by omega) (by omega),sp_step C h (b:=3) (by omega) (by omega) (by omega) (by omega),sp_step C h (b:=4) (by omega) (by omega) (by omega) (by omega),psalteryref12_Spent.l0,if_neg (by omega),Int.zero_add]
  rfl
def more (l : List Int) (b : Nat) : List Int:=l.set b (rd l (b : Int)+1)
theorem rd_more {l : List Int} (hl : l.length=5) {b c : Nat} (hb : b < 5) (hc : c < 5) : rd (more l b) (c : Int)=if c=b then rd l (b : Int)+1 else rd l (c : Int):=by
  unfold more Go.Proofs.YtifkhfnmbiefaaaW.PrintWords.rd
  simp only [Int.toNat_natCast,List.getD_eq_getElem?_getD,List.getElem?_set]
  by_cases h : b=c
  · subst h
    simp [hl,hb]
  · rw [if_neg h,if_neg (Ne.symm h)]
theorem Sp_more {l : List Int} (hl : l.length=5) {b : Nat} (hb : b < 5) : Sp K (more l b)=Sp K l+(Kb K b (rd l (b : Int)+1) - Kb K b (rd l (b : Int))):=by
  have f:=fun (c : Nat) (hc : c < 5)=>rd_more hl hb hc
  have f0:=f 0 (by decide)
  have f1:=f 1 (by decide)
  have f2:=f 2 (by decide)
  have f3:=f 3 (by decide)
  have f4:=f 4 (by decide)
  have hb' : b=0∨b=1∨b=2∨b=3∨b=4:=by omega
  unfold Sp
  change rd (more l b) 0=_ at f0
  change rd (more l b) 1=_ at f1
  change rd (more l b) 2=_ at f2
  change rd (more l b) 3=_ at f3
  change rd (more l b) 4=_ at f4
  rw [f0,f1,f2,f3,f4]
  rcases hb' with rfl|rfl|rfl|rfl|rfl
  · change Kb K 0 (rd l 0+1)+_+_+_+_=_+(Kb K 0 (rd l 0+1) - Kb K 0 (rd l 0));simp only [show (1 : Nat)≠0 by decide,show (2 : Nat)≠0 by decide,show (3 : Nat)≠0 by decide,show (4 : Nat)≠0 by decide,if_false];change Kb K 0 (rd l 0+1)+Kb K 1 (rd l 1)+Kb K 2 (rd l 2)+Kb K 3 (rd l 3)+Kb K 4 (rd l 4)=_;omega
  · change Kb K 0 (rd l 0)+Kb K 1 (rd l 1+1)+Kb K 2 (rd l 2)+Kb K 3 (rd l 3)+Kb K 4 (rd l 4)=_+(Kb K 1 (rd l 1+1) - Kb K 1 (rd l 1));omega
  · change Kb K 0 (rd l 0)+Kb K 1 (rd l 1)+Kb K 2 (rd l 2+1)+Kb K 3 (rd l 3)+Kb K 4 (rd l 4)=_+(Kb K 2 (rd l 2+1) - Kb K 2 (rd l 2));omega
  · change Kb K 0 (rd l 0)+Kb K 1 (rd l 1)+Kb K 2 (rd l 2)+Kb K 3 (rd l 3+1)+Kb K 4 (rd l 4)=_+(Kb K 3 (rd l 3+1) - Kb K 3 (rd l 3));omega
  · change Kb K 0 (rd l 0)+Kb K 1 (rd l 1)+Kb K 2 (rd l 2)+Kb K 3 (rd l 3)+Kb K 4 (rd l 4+1)=_+(Kb K 4 (rd l 4+1) - Kb K 4 (rd l 4));omega
theorem Ks_more {l : List Int} (h : Ks l) {b : Nat} (hb : b < 5) (hm : rd l (b : Int) < mst b) : Ks (more l b):=by
  refine ⟨by unfold more;rw [List.length_set];exact h.1,fun c hc => ?_⟩
  rw [rd_more h.1 hb hc]
  by_cases e : c=b
  · subst e
    rw [if_pos rfl]
    have:=h.2 c hc
    omega
  · rw [if_neg e]
    exact h.2 c hc
theorem more_f {l : List Int} (h : Ks l) {b : Nat} (hb : b < 5) : psalteryref12_More.f l (b : Int)=some (more l b):=by
  have hr:=Ks_rd h hb
  have hl:=h.1
  unfold psalteryref12_More.f
  rw [Option.bind_some,if_pos (by rw [hl];decide),Option.bind_some,List.nil_append,if_pos (by omega),if_pos (by omega),w64 (by omega) (by omega),Int.toNat_natCast]
  rfl
def may (K : Nat→Nat→Int) (g l : List Int) (R : Int) (b : Nat) : Bool:=decide (1≤rd g (b : Int)∧rd l (b : Int) < mst b∧Sp K (more l b)≤R)
theorem may_f (C : Com.Cst K) {g l : List Int} {R : Int} (hg : Gr g) (h : Ks l) {b : Nat} (hb : b < 5) {q : Nat} (hq : 3020≤q) : psalteryref12_May.f q g l (b : Int) R=some (may K g l R b):=by
  have hgl:=hg.1
  have hl:=h.1
  have hr:=Ks_rd h hb
  have hm:=h.2 b hb
  obtain ⟨q,rfl⟩ : ∃ r,q=r+1:=⟨q - 1,by omega⟩
  unfold psalteryref12_May.f may
  rw [if_pos (by omega),if_pos (by omega)]
  simp only [psalteryref12_May.j0]
  by_cases h1 : rd g (b : Int) < 1
  · rw [if_pos h1,decide_eq_false (by omega),if_pos (by simp)]
  · rw [if_neg h1,if_pos (by omega)]
    by_cases h2 : rd l (b : Int) ≥ 12
    · have:=mst_in b
      rw [if_pos h2,decide_eq_false (by omega),if_pos (by simp)]
    · rw [if_neg h2,width_r hb (by omega),Option.bind_some]
      have key : rd l (b : Int) < mst b→(psalteryref12_More.f l (b : Int)).bind (fun t239=>(psalteryref12_Spent.f q t239).bind fun t242=>some (decide (t242≤R)))=some (decide (1≤rd g (b : Int)∧rd l (b : Int) < mst b∧Sp K (more l b)≤R)):=by
        intro hx
        rw [more_f h hb,Option.bind_some,spent_f C (Ks_more h hb hx) (by omega),Option.bind_some]
        congr 1
        rw [decide_eq_decide]
        exact ⟨fun hz=>⟨by omega,hx,hz⟩,fun hz=>hz.2.2⟩
      by_cases hw : W b=1
      · have hw' : mst b=1:=by unfold mst;rw [if_pos hw]
        rw [if_pos (by omega)]
        by_cases h3 : rd l (b : Int) > 0
        · rw [decide_eq_true h3,if_pos (by simp),decide_eq_false (by omega)]
        · rw [decide_eq_false h3,if_neg (by simp)]
          exact key (by omega)
      · have hw' : mst b=12:=by unfold mst;rw [if_neg hw]
        rw [if_neg (by omega),if_neg (by simp)]
        exact key (by omega)
theorem cost_f (C : Com.Cst K) {g l : List Int} {R : Int} (hg : Gr g) (h : Ks l) {b : Nat} (hb : b < 5) {q : Nat} (hq : 3020≤q) : ∃ c,alloc_cost.f q g (b : Int) l (R - Sp K l)=some (c,may K g l R b)∧(may K g l R b=true→c=Sp K (more l b) - Sp K l):=by
  have hgl:=hg.1
  have hl:=h.1
  have hr:=Ks_rd h hb
  have hm:=h.2 b hb
  have hgb:=hg.2 b hb
  have hms:=mst_in b
  obtain ⟨q,rfl⟩ : ∃ r,q=r+1:=⟨q - 1,by omega⟩
  unfold alloc_cost.f may
  simp only [alloc_cost.j0]
  rw [if_pos (by omega),if_pos (by omega)]
  by_cases h1 : rd g (b : Int)=0
  · rw [if_pos h1,decide_eq_false (by omega),if_pos (by simp)]
    exact ⟨0,rfl,fun hx=>absurd hx (by decide)⟩
  · rw [if_neg h1,if_pos (by omega),most_p hb,Option.bind_some]
    by_cases h2 : rd l (b : Int) ≥ mst b
    · rw [decide_eq_true h2,if_pos (by simp),decide_eq_false (by omega)]
      exact ⟨0,rfl,fun hx=>absurd hx (by decide)⟩
    · have k0:=Kb_in C hb hr.1 hr.2
      have k1:=Kb_in C hb (v:=rd l (b : Int)+1) (by omega) (by omega)
      have hS:=Sp_more (K:=K) hl hb
      rw [decide_eq_false h2,if_neg (by simp),width_p hb,Option.bind_some,if_pos (by omega),if_pos (by omega),(Kb_c C hb hr.1 hr.2 (by omega)).1,Option.bind_some,Option.bind_some,w64 (x:=rd l (b : Int)+1) (by omega) (by omega),(Kb_c C hb (v:=rd l (b : Int)+1) (by omega) (by omega) (by omega)).1,Option.bind_some]
      dsimp only
      rw [w64 (x:=Kb K b (rd l (b : Int)+1) - Kb K b (rd l (b : Int))) (by omega) (by omega)]
      refine ⟨_, ?_,fun _=>(by omega : Kb K b (rd l (b : Int)+1) - Kb K b (rd l (b : Int))=Sp K (more l b) - Sp K l)⟩
      congr 2
      rw [decide_eq_decide]
      omega
def wth (g l : List Int) (b : Nat) : Int:=wrap64 ((wrap64 (8 * (rd g (b : Int)))) - (wrap64 (Int.tdiv (wrap64 (16 * (rd l (b : Int)))) (W b : Int))))
theorem worth_f {g l : List Int} (hg : g.length=5) (h : l.length=5) {b : Nat} (hb : b < 5) {x : Int} : alloc_worth.f g (b : Int) l x=some (wth g l b):=by
  have hw:=W_in hb
  unfold alloc_worth.f wth
  rw [if_pos (by omega),if_pos (by omega),if_pos (by omega),width_p hb,Option.bind_some,if_neg (by omega)]
def nxt (m : Nat→Bool) (w : Nat→Int) (b : Nat) (x : Option Nat) : Option Nat:=if m b=true then (match x with|none=>some b|some y=>if w b > w y then some b else some y) else x
def pick (m : Nat→Bool) (w : Nat→Int) : Nat→Nat→Option Nat→Option Nat
  | 0,_,x=>x
  | d+1,b,x=>pick m w d (b+1) (nxt m w b x)
def cd : Option Nat→Int
  | none => -1
  | some y=>(y : Int)
def Ok5 (m : Nat→Bool) (x : Option Nat) : Prop := ∀ y,x=some y→y < 5∧m y=true
theorem ok_next {m : Nat→Bool} {w : Nat→Int} {b : Nat} (hb : b < 5) {x : Option Nat} (hx : Ok5 m x) : Ok5 m (nxt m w b x):=by
  unfold nxt
  by_cases h : m b=true
  · rw [if_pos h]
    cases x with
    | none =>
      intro y hy
      obtain rfl : b=y:=by simpa using hy
      exact ⟨hb,h⟩
    | some z =>
      dsimp only
      by_cases h2 : w b > w z
      · rw [if_pos h2]
        intro y hy
        obtain rfl : b=y:=by simpa using hy
        exact ⟨hb,h⟩
      · rw [if_neg h2]
        exact hx
  · rw [if_neg h]
    exact hx
theorem pick_ok {m : Nat→Bool} {w : Nat→Int} : ∀ (d b : Nat) (x : Option Nat),b+d=5→Ok5 m x→Ok5 m (pick m w d b x)
  | 0,_,_,_,hx=>hx
  | d+1,b,x,h,hx=>pick_ok d (b+1) _ (by omega) (ok_next (b:=b) (by omega) hx)
theorem pick_some {m : Nat→Bool} {w : Nat→Int} : ∀ (d b : Nat) (x : Option Nat),x≠none→pick m w d b x≠none
  | 0,_,_,h=>h
  | d+1,b,x,h=>by
    rw [pick,nxt.eq_def]
    refine pick_some d (b+1) _ ?_
    by_cases hm : m b=true
    · rw [if_pos hm]
      cases x with
      | none=>exact absurd rfl h
      | some z =>
        dsimp only
        by_cases h2 : w b > w z
        · rw [if_pos h2];simp
        · rw [if_neg h2];simp
    · rw [if_neg hm];exact h
theorem pick_none {m : Nat→Bool} {w : Nat→Int} : ∀ (d b : Nat),pick m w d b none=none→∀ c,b≤c→c < b+d→m c=false
  | 0,b,h,c,c0,c1=>by omega
  | d+1,b,h,c,c0,c1=>by
    rw [pick,nxt.eq_def] at h
    by_cases hm : m b=true
    · rw [if_pos hm] at h
      exact absurd h (pick_some d (b+1) _ (by simp))
    · rw [if_neg hm] at h
      by_cases hc : c=b
      · subst hc;simpa using hm
      · exact pick_none d (b+1) h c (by omega) (by omega)
theorem give_loop (C : Com.Cst K) {g l : List Int} {R : Int} (hg : Gr g) (h : Ks l) {q : Nat} (hq : 3020≤q) : ∀ (d b : Nat) (x : Option Nat),b+d=5→Ok5 (may K g l R) x→alloc_give.l0 (q+d) g l (R - Sp K l) (cd x) (b : Int)=alloc_give.l0 q g l (R - Sp K l) (cd (pick (may K g l R) (wth g l) d b x)) 5
  | 0,b,x,hb,_=>by
    obtain rfl : b=5:=by omega
    rfl
  | d+1,b,x,hb,hx=>by
    obtain ⟨c,hc,_⟩:=cost_f C (R:=R) hg h (b:=b) (by omega) (q:=q+d) (by omega)
    rw [show q+(d+1)=(q+d)+1 by omega,alloc_give.l0,if_pos (by omega),hc,Option.bind_some]
    dsimp only
    have ih:=fun x' hx' => give_loop C (R:=R) hg h hq d (b+1) x' (by omega) hx'
    have hn:=ok_next (w:=wth g l) (b:=b) (by omega) hx
    rw [nxt.eq_def] at hn
    rw [pick,nxt.eq_def,w64 (x:=(b : Int)+1) (by omega) (by omega),show (b : Int)+1=((b+1 : Nat) : Int) by omega]
    by_cases hm : may K g l R b=true
    · rw [if_pos hm] at hn ⊢
      rw [if_pos hm]
      cases x with
      | none =>
        rw [if_pos (by decide : cd none < 0)]
        exact ih _ hn
      | some y =>
        have hy:=(hx y rfl).1
        rw [if_neg (by simp only [cd];omega),worth_f hg.1 h.1 (by omega),Option.bind_some]
        simp only [cd] at ih ⊢
        rw [worth_f hg.1 h.1 hy,Option.bind_some]
        dsimp only at hn
        by_cases h2 : wth g l b > wth g l y
        · rw [if_pos h2] at hn ⊢
          rw [if_pos h2]
          exact ih _ hn
        · rw [if_neg h2] at hn ⊢
          rw [if_neg h2]
          exact ih _ hn
    · rw [if_neg hm] at hn ⊢
      rw [if_neg hm]
      exact ih _ hn
theorem chan_loop (C : Com.Cst K) {g l : List Int} {R : Int} (hg : Gr g) (h : Ks l) {q : Nat} (hq : 3020≤q) : ∀ (d b : Nat) (x : Option Nat) (v : Int),b+d=5→Ok5 (may K g l R) x→(∀ y,x=some y→v=wth g l y)→∃ v',psalteryref12_Channel.l1 (q+d) g R l (cd x) v (b : Int)=psalteryref12_Channel.l1 q g R l (cd (pick (may K g l R) (wth g l) d b x)) v' 5
  | 0,b,x,v,hb,_,_=>by
    obtain rfl : b=5:=by omega
    exact ⟨v,rfl⟩
  | d+1,b,x,v,hb,hx,hv=>by
    have hgl:=hg.1
    have hl:=h.1
    have hw:=W_in (b:=b) (by omega)
    have ih:=fun x' v' hx' hv' => chan_loop C (R:=R) hg h hq d (b+1) x' v' (by omega) hx' hv'
    have hn:=ok_next (w:=wth g l) (b:=b) (by omega) hx
    rw [nxt.eq_def] at hn
    rw [show q+(d+1)=(q+d)+1 by omega,psalteryref12_Channel.l1,if_pos (by omega),if_pos (by omega),if_pos (by omega),if_pos (by omega),width_r (by omega) (by omega),Option.bind_some,if_neg (by omega),may_f C hg h (by omega) (by omega),Option.bind_some]
    rw [pick,nxt.eq_def,w64 (x:=(b : Int)+1) (by omega) (by omega),show (b : Int)+1=((b+1 : Nat) : Int) by omega]
    have hwb : (wrap64 ((wrap64 (8 * (rd g (b : Int)))) - (wrap64 (Int.tdiv (wrap64 (16 * (rd l (b : Int)))) (W b : Int)))))=wth g l b:=rfl
    rw [hwb]
    by_cases hm : may K g l R b=true
    · rw [if_pos hm] at hn ⊢
      rw [if_pos hm]
      cases x with
      | none =>
        rw [if_pos (by decide : cd none < 0)]
        exact ih (some b) _ hn (fun y hy=>by cases (show b=y by simpa using hy);rfl)
      | some y =>
        have hy:=(hx y rfl).1
        rw [if_neg (by simp only [cd];omega),hv y rfl]
        dsimp only at hn
        by_cases h2 : wth g l b > wth g l y
        · rw [if_pos h2] at hn ⊢
          simp only [if_pos h2]
          exact ih (some b) _ hn (fun y hy=>by cases (show b=y by simpa using hy);rfl)
        · rw [if_neg h2] at hn ⊢
          simp only [if_neg h2]
          exact ih (some y) _ hn (fun z hz=>by cases (show y=z by simpa using hz);rfl)
    · rw [if_neg hm] at hn ⊢
      rw [if_neg hm]
      exact ih x v hn hv
end Go.Proofs.Ytifkhfnmbiefaaa.Alo
/- Pulses of one channel: the program's and the document's are the same. -/
namespace Go.Proofs.Ytifkhfnmbiefaaa.Alo
open Go Go.RowKit Go.Proofs.YtifkhfnmbiefaaaW.PrintWords Go.Proofs.Ytifkhfnmbiefaaa.Prt
set_option linter.unusedVariables false
set_option linter.unusedSimpArgs false
variable {K : Nat→Nat→Int}
def best (K : Nat→Nat→Int) (g l : List Int) (R : Int) : Option Nat:=pick (may K g l R) (wth g l) 5 0 none
theorem cd_some (b : Nat) : cd (some b)=(b : Int):=rfl
theorem ok_none (m : Nat→Bool) : Ok5 m none:=fun y hy=>absurd hy (by simp)
theorem give_none (C : Com.Cst K) {g l : List Int} {R : Int} (hg : Gr g) (h : Ks l) (hb : best K g l R=none) {q : Nat} (hq : 3030≤q) : alloc_give.f q g l (R - Sp K l)=some (R - Sp K l,false,l):=by
  obtain ⟨r,rfl⟩ : ∃ r,q=(r+1)+5:=⟨q - 6,by omega⟩
  have e:=give_loop C (R:=R) hg h (q:=r+1) (by omega) 5 0 none rfl (ok_none _)
  unfold best at hb
  rw [hb] at e
  unfold alloc_give.f
  refine Eq.trans e ?_
  rw [alloc_give.l0,if_neg (by decide),if_pos (by decide)]
theorem give_some (C : Com.Cst K) {g l : List Int} {R : Int} (hg : Gr g) (h : Ks l) {b : Nat} (hR : R≤1000) (hb : best K g l R=some b) (hm : may K g l R b=true) (hb5 : b < 5) (h0 : Sp K l≤R) {q : Nat} (hq : 3030≤q) : alloc_give.f q g l (R - Sp K l)=some (R - Sp K (more l b),true,more l b):=by
  obtain ⟨r,rfl⟩ : ∃ r,q=(r+1)+5:=⟨q - 6,by omega⟩
  have hl:=h.1
  have hr:=Ks_rd h hb5
  have e:=give_loop C (R:=R) hg h (q:=r+1) (by omega) 5 0 none rfl (ok_none _)
  unfold best at hb
  rw [hb] at e
  obtain ⟨c,hc,hc'⟩:=cost_f C (R:=R) hg h hb5 (q:=r) (by omega)
  have hm' := hm
  unfold may at hm'
  rw [decide_eq_true_eq] at hm'
  have s1:=Sp_in C h
  have s2:=Sp_in C (Ks_more h hb5 hm'.2.1)
  unfold alloc_give.f
  refine Eq.trans e ?_
  rw [cd_some,alloc_give.l0,if_neg (by decide)]
  rw [if_neg (by omega),hc,Option.bind_some,if_pos (by omega),if_pos (by omega)]
  dsimp only
  rw [hc' hm,w64 (x:=R - Sp K l - (Sp K (more l b) - Sp K l)) (by omega) (by omega),w64 (x:=rd l (b : Int)+1) (by omega) (by omega),Int.toNat_natCast,show R - Sp K l - (Sp K (more l b) - Sp K l)=R - Sp K (more l b) by omega]
  rfl
theorem chan_none (C : Com.Cst K) {g l : List Int} {R : Int} (hg : Gr g) (h : Ks l) (hb : best K g l R=none) {q : Nat} (hq : 3030≤q) : psalteryref12_Channel.l0 q g R l=some l:=by
  obtain ⟨r,rfl⟩ : ∃ r,q=((r+1)+5)+1:=⟨q - 7,by omega⟩
  obtain ⟨v,e⟩:=chan_loop C (R:=R) hg h (q:=r+1) (by omega) 5 0 none 0 rfl (ok_none _) (fun y hy=>absurd hy (by simp))
  unfold best at hb
  rw [hb] at e
  rw [psalteryref12_Channel.l0]
  refine Eq.trans e ?_
  rw [psalteryref12_Channel.l1,if_neg (by decide),if_pos (by decide)]
theorem chan_some (C : Com.Cst K) {g l : List Int} {R : Int} (hg : Gr g) (h : Ks l) {b : Nat} (hb : best K g l R=some b) (hb5 : b < 5) {r : Nat} (hq : 3030≤r) : psalteryref12_Channel.l0 (r+7) g R l=psalteryref12_Channel.l0 r g R (more l b):=by
  obtain ⟨v,e⟩:=chan_loop C (R:=R) hg h (q:=r+1) (by omega) 5 0 none 0 rfl (ok_none _) (fun y hy=>absurd hy (by simp))
  unfold best at hb
  rw [hb] at e
  rw [show r+7=((r+1)+5)+1 by omega,psalteryref12_Channel.l0]
  refine Eq.trans e ?_
  rw [cd_some,psalteryref12_Channel.l1,if_neg (by decide),if_neg (by omega),more_f h hb5,Option.bind_some]
def tot (l : List Int) : Int:=rd l 0+rd l 1+rd l 2+rd l 3+rd l 4
theorem tot_in {l : List Int} (h : Ks l) : 0≤tot l∧tot l≤60:=by
  have f0 : 0≤rd l 0∧rd l 0≤12:=Ks_rd h (b:=0) (by decide)
  have f1 : 0≤rd l 1∧rd l 1≤12:=Ks_rd h (b:=1) (by decide)
  have f2 : 0≤rd l 2∧rd l 2≤12:=Ks_rd h (b:=2) (by decide)
  have f3 : 0≤rd l 3∧rd l 3≤12:=Ks_rd h (b:=3) (by decide)
  have f4 : 0≤rd l 4∧rd l 4≤12:=Ks_rd h (b:=4) (by decide)
  unfold tot
  omega
theorem tot_more {l : List Int} (hl : l.length=5) {b : Nat} (hb : b < 5) : tot (more l b)=tot l+1:=by
  have f0 : rd (more l b) 0=_:=rd_more hl hb (c:=0) (by decide)
  have f1 : rd (more l b) 1=_:=rd_more hl hb (c:=1) (by decide)
  have f2 : rd (more l b) 2=_:=rd_more hl hb (c:=2) (by decide)
  have f3 : rd (more l b) 3=_:=rd_more hl hb (c:=3) (by decide)
  have f4 : rd (more l b) 4=_:=rd_more hl hb (c:=4) (by decide)
  unfold tot
  rw [f0,f1,f2,f3,f4]
  have hb' : b=0∨b=1∨b=2∨b=3∨b=4:=by omega
  rcases hb' with rfl|rfl|rfl|rfl|rfl
  · change rd l 0+1+rd l 1+rd l 2+rd l 3+rd l 4=_;omega
  · change rd l 0+(rd l 1+1)+rd l 2+rd l 3+rd l 4=_;omega
  · change rd l 0+rd l 1+(rd l 2+1)+rd l 3+rd l 4=_;omega
  · change rd l 0+rd l 1+rd l 2+(rd l 3+1)+rd l 4=_;omega
  · change rd l 0+rd l 1+rd l 2+rd l 3+(rd l 4+1)=_;omega
structure Chan (K : Nat→Nat→Int) (g : List Int) (R : Int) (l l' : List Int) : Prop where
  gr : Gr g
  ks : Ks l'
  fit : Sp K l'≤R
  full : ∀ b,b < 5→may K g l' R b=false
  still : ∀ b : Nat,b < 5→rd g (b : Int)=0→rd l' (b : Int)=rd l (b : Int)
  prog : ∀ (q t : Nat),4000≤q→60≤t+tot l→∀ x0 x1 x8 x22 x23 x24 r,x8.length < 5864062014805→alloc_Pulses.l0 q x0 x1 (x8 ++ [l']) x22 x23 (wrap64 (x24+1))=some r→alloc_Pulses.l1 (q+t+1) x0 x1 x8 g l x22 x23 x24 (R - Sp K l)=some r
  doc : ∀ (q t : Nat),4000≤q→60≤t+tot l→psalteryref12_Channel.l0 (q+7 * t) g R l=some l'
theorem chan (C : Com.Cst K) {g : List Int} {R : Int} (hg : Gr g) (hR : R≤1000) : ∀ (d : Nat) (l : List Int),Ks l→Sp K l≤R→60≤d+tot l→∃ l',Chan K g R l l'
  | d,l,h,hs,hd=>by
    cases hb : best K g l R with
    | none =>
      refine ⟨l,⟨hg,h,hs,fun b hb5=>pick_none 5 0 hb b (by omega) (by omega),fun _ _ _=>rfl, ?_, ?_⟩⟩
      · intro q t hq ht x0 x1 x8 x22 x23 x24 r hx hr
        rw [alloc_Pulses.l1,give_none C hg h hb (by omega),Option.bind_some,if_neg (by simp),if_pos hx]
        exact at_rounds (fun k=>(alloc_Pulses.mono_l k).2.1 _ _ _ _ _ _) (Nat.le_add_right q t) hr
      · intro q t hq ht
        exact chan_none C hg h hb (by omega)
    | some b =>
      obtain ⟨hb5,hm⟩:=pick_ok (w:=wth g l) 5 0 none rfl (ok_none (may K g l R)) b hb
      have hm' := hm
      unfold may at hm'
      rw [decide_eq_true_eq] at hm'
      have hk:=Ks_more h hb5 hm'.2.1
      have t1:=tot_more h.1 hb5
      have t2:=tot_in hk
      obtain ⟨d,rfl⟩ : ∃ r,d=r+1:=⟨d - 1,by omega⟩
      obtain ⟨l',c⟩:=chan C hg hR d (more l b) hk hm'.2.2 (by omega)
      refine ⟨l',⟨hg,c.ks,c.fit,c.full, ?_, ?_, ?_⟩⟩
      · intro a ha h0
        rw [c.still a ha h0,rd_more h.1 hb5 ha,if_neg]
        rintro rfl
        omega
      · intro q t hq ht x0 x1 x8 x22 x23 x24 r hx hr
        obtain ⟨t,rfl⟩ : ∃ r,t=r+1:=⟨t - 1,by omega⟩
        rw [show q+(t+1)+1=(q+t+1)+1 by omega,alloc_Pulses.l1,give_some C hg h hR hb hm hb5 hs (by omega),Option.bind_some,if_pos (by simp)]
        exact c.prog q t hq (by omega) x0 x1 x8 x22 x23 x24 r hx hr
      · intro q t hq ht
        obtain ⟨t,rfl⟩ : ∃ r,t=r+1:=⟨t - 1,by omega⟩
        rw [show q+7 * (t+1)=(q+7 * t)+7 by omega,chan_some C hg h hb hb5 (by omega)]
        exact c.doc q t hq (by omega)
def Z5 : List Int := [0,0,0,0,0]
theorem Z5_rd {b : Nat} (h : b < 5) : rd Z5 (b : Int)=0:=(by decide : ∀ b : Fin 5,rd Z5 (b.1 : Int)=0) ⟨b,h⟩
theorem Z5_ks : Ks Z5:=⟨rfl,fun b hb=>by rw [Z5_rd hb];have:=mst_in b;omega⟩
theorem Z5_sp (C : Com.Cst K) : Sp K Z5=0:=by
  have f:=fun (b : Nat) (hb : b < 5)=>Kb_0 C hb
  have f0:=f 0 (by decide)
  have f1:=f 1 (by decide)
  have f2:=f 2 (by decide)
  have f3:=f 3 (by decide)
  have f4:=f 4 (by decide)
  change Kb K 0 0+Kb K 1 0+Kb K 2 0+Kb K 3 0+Kb K 4 0=0
  omega
def rt (l : List Int) : Bool:=((l.length : Int) == 5) && l.all (fun x=>decide (0≤x∧x≤44))
theorem rt_gr {l : List Int} (h : rt l=true) : Gr l:=by
  simp only [rt,Bool.and_eq_true,List.all_eq_true,decide_eq_true_eq,beq_iff_eq] at h
  have hl : l.length=5:=by omega
  refine ⟨hl,fun b hb => ?_⟩
  unfold Go.Proofs.YtifkhfnmbiefaaaW.PrintWords.rd
  rw [List.getD_eq_getElem?_getD,Int.toNat_natCast,List.getElem?_eq_getElem (by omega)]
  exact h.2 _ (List.getElem_mem _)
theorem drop_rd (l : List Int) (i : Nat) (h : i < l.length) : l.drop i=rd l (i : Int) :: l.drop (i+1):=by
  rw [List.drop_eq_getElem_cons h]
  unfold Go.Proofs.YtifkhfnmbiefaaaW.PrintWords.rd
  rw [List.getD_eq_getElem?_getD,Int.toNat_natCast,List.getElem?_eq_getElem h]
  rfl
theorem right_l0 (l : List Int) (hl : l.length≤9000) : ∀ (d i k : Nat),i+d=l.length→d < k→gain_Right.l0 k l l (l.length : Int) (i : Int)=some (((l.length : Int) == 5) && (l.drop i).all (fun x=>decide (0≤x∧x≤44)))
  | 0,i,k,hi,hk=>by
    obtain ⟨k,rfl⟩ : ∃ m,k=m+1:=⟨k - 1,by omega⟩
    simp only [gain_Right.l0]
    rw [if_neg (by omega),List.drop_eq_nil_of_le (by omega)]
    simp
  | d+1,i,k,hi,hk=>by
    obtain ⟨k,rfl⟩ : ∃ m,k=m+1:=⟨k - 1,by omega⟩
    simp only [gain_Right.l0]
    rw [if_pos (by omega),if_pos (by omega),if_pos (by omega),drop_rd l i (by omega),List.all_cons]
    by_cases h0 : rd l (i : Int) < 0
    · rw [if_pos h0,show decide (0≤rd l (i : Int)∧rd l (i : Int)≤44)=false by simp;omega]
      simp
    · rw [if_neg h0]
      by_cases h1 : rd l (i : Int) > 44
      · rw [if_pos h1,show decide (0≤rd l (i : Int)∧rd l (i : Int)≤44)=false by simp;omega]
        simp
      · rw [if_neg h1,w64 (by omega) (by omega),show decide (0≤rd l (i : Int)∧rd l (i : Int)≤44)=true by simp;omega,Bool.true_and]
        exact right_l0 l hl d (i+1) k (by omega) (by omega)
theorem right_ok (l : List Int) (hl : l.length≤9000) (k : Nat) (hk : l.length < k) : gain_Right.f k l=some (rt l):=right_l0 l hl l.length 0 k (by omega) hk
theorem refRight_l0 (l : List Int) (hl : l.length≤9000) : ∀ (d i k : Nat) (ok : Bool),i+d=l.length→d < k→psalteryref11_Right.l0 k l ok (i : Int)=some (ok && (l.drop i).all (fun x=>decide (0≤x∧x≤44)))
  | 0,i,k,ok,hi,hk=>by
    obtain ⟨k,rfl⟩ : ∃ m,k=m+1:=⟨k - 1,by omega⟩
    simp only [psalteryref11_Right.l0]
    rw [if_neg (by omega),List.drop_eq_nil_of_le (by omega)]
    simp
  | d+1,i,k,ok,hi,hk=>by
    obtain ⟨k,rfl⟩ : ∃ m,k=m+1:=⟨k - 1,by omega⟩
    have ih:=fun ok=>refRight_l0 l hl d (i+1) k ok (by omega) (by omega)
    simp only [psalteryref11_Right.l0]
    rw [if_pos (by omega),drop_rd l i (by omega),List.all_cons,w64 (x:=(i : Int)+1) (by omega) (by omega)]
    cases ok with
    | false=>rw [if_neg (by simp)];exact (ih false).trans (by simp)
    | true =>
      rw [if_pos rfl,if_pos (by omega)]
      by_cases h0 : rd l (i : Int) ≥ 0
      · rw [if_pos h0]
        refine (ih _).trans ?_
        rw [show decide (0≤rd l (i : Int)∧rd l (i : Int)≤44)=decide (rd l (i : Int)≤44) from decide_eq_decide.2 ⟨fun h=>h.2,fun h=>⟨h0,h⟩⟩,Bool.true_and]
      · rw [if_neg h0,show decide (0≤rd l (i : Int)∧rd l (i : Int)≤44)=false by simp;omega]
        exact (ih false).trans (by simp)
theorem refRight_ok (l : List Int) (hl : l.length≤9000) (k : Nat) (hk : l.length < k) : psalteryref11_Right.f k l=some (rt l):=by
  unfold psalteryref11_Right.f
  rw [show (0 : Int)=((0 : Nat) : Int) from rfl,refRight_l0 l hl l.length 0 k _ (by omega) hk]
  rfl
end Go.Proofs.Ytifkhfnmbiefaaa.Alo
/- Pulses of all channels: the program's and the document's are the same. -/
namespace Go.Proofs.Ytifkhfnmbiefaaa.Alo
open Go Go.RowKit Go.Proofs.YtifkhfnmbiefaaaW.PrintWords Go.Proofs.Ytifkhfnmbiefaaa.Prt
set_option linter.unusedVariables false
set_option linter.unusedSimpArgs false
variable {K : Nat→Nat→Int}
theorem rdl_mem {l : List (List Int)} {i : Nat} (h : i < l.length) : rd_L2 l (i : Int) ∈ l:=by
  unfold rd_L2
  rw [List.getD_eq_getElem?_getD,Int.toNat_natCast,List.getElem?_eq_getElem h]
  exact List.getElem_mem h
theorem rdl_s (x : List Int) (l : List (List Int)) (j : Nat) : rd_L2 (x :: l) ((j+1 : Nat) : Int)=rd_L2 l (j : Int):=by
  unfold rd_L2
  rw [Int.toNat_natCast,Int.toNat_natCast]
  rfl
theorem chans (C : Com.Cst K) {a b : Int} (hab : rightB a b=true) {l2 : List (List Int)} (h20 : l2.length≤20) (h100 : ∀ g ∈ l2,g.length≤100) : ∀ (d i : Nat) (x8 : List (List Int)),i+d=l2.length→x8.length≤i →
    (∃ out : List (List Int),out.length=d∧(∀ j,j < d→Chan K (rd_L2 l2 ((i+j : Nat) : Int)) (room a b) Z5 (rd_L2 out (j : Int)))∧(∀ q,5000+62 * d≤q→alloc_Pulses.l0 q a b x8 l2 (l2.length : Int) (i : Int)=some (x8 ++ out,0))∧(∀ q,5000+62 * d≤q→psalteryref12_Pulses.l0 q a b l2 x8 (i : Int)=some (x8 ++ out))∧(∀ q,5000+62 * d≤q→psalteryref12_Fair.l0 q l2 (i : Int)=some true))
    ∨ ((∀ q,5000+62 * d≤q→alloc_Pulses.l0 q a b x8 l2 (l2.length : Int) (i : Int)=some ([],1))∧(∀ q,5000+62 * d≤q→psalteryref12_Fair.l0 q l2 (i : Int)=some false))
  | 0,i,x8,hi,hx=>by
    refine Or.inl ⟨[],rfl,fun j hj=>absurd hj (by omega),fun q hq => ?_,fun q hq => ?_,fun q hq => ?_⟩
    · obtain ⟨r,rfl⟩ : ∃ r,q=r+1:=⟨q - 1,by omega⟩
      rw [alloc_Pulses.l0,if_neg (by omega),List.append_nil]
    · obtain ⟨r,rfl⟩ : ∃ r,q=r+1:=⟨q - 1,by omega⟩
      rw [psalteryref12_Pulses.l0,if_neg (by omega),List.append_nil]
    · obtain ⟨r,rfl⟩ : ∃ r,q=r+1:=⟨q - 1,by omega⟩
      rw [psalteryref12_Fair.l0,if_neg (by omega)]
  | d+1,i,x8,hi,hx=>by
    have hlen : (rd_L2 l2 (i : Int)).length≤100:=h100 _ (rdl_mem (by omega))
    have hR:=room_in hab
    have hw : wrap64 ((i : Int)+1)=((i+1 : Nat) : Int):=by rw [w64 (by omega) (by omega)];omega
    by_cases hr : rt (rd_L2 l2 (i : Int))=true
    · obtain ⟨l',c⟩:=chan C (rt_gr hr) (R:=room a b) (by omega) 60 Z5 Z5_ks (by rw [Z5_sp C];omega) (by decide)
      have h0 : (60 : Int)≤(60 : Nat)+tot Z5:=by decide
      have ih:=fun y=>chans C hab h20 h100 d (i+1) (x8 ++ [y]) (by omega) (by rw [List.length_append];simp;omega)
      have P1 : ∀ q r,5000+62 * d≤q→(∀ p,5000+62 * d≤p→alloc_Pulses.l0 p a b (x8 ++ [l']) l2 (l2.length : Int) ((i+1 : Nat) : Int)=some r)→alloc_Pulses.l0 (q+62) a b x8 l2 (l2.length : Int) (i : Int)=some r:=by
        intro q r hq hp
        rw [show q+62=(q+60+1)+1 by omega,alloc_Pulses.l0,if_pos (by omega),if_pos (by omega),if_pos (by omega),right_ok _ (by omega) _ (by omega),Option.bind_some,if_pos hr,(room_ok hab).1,Option.bind_some]
        have e:=c.prog q 60 (by omega) h0 a b x8 l2 (l2.length : Int) (i : Int) r (by omega) (by rw [hw];exact hp q hq)
        rw [Z5_sp C,Int.sub_zero] at e
        exact e
      have P3 : ∀ q r,5000+62 * d≤q→(∀ p,5000+62 * d≤p→psalteryref12_Fair.l0 p l2 ((i+1 : Nat) : Int)=some r)→psalteryref12_Fair.l0 (q+62) l2 (i : Int)=some r:=by
        intro q r hq hp
        rw [show q+62=(q+61)+1 by omega,psalteryref12_Fair.l0,if_pos (by omega),if_pos (by omega),refRight_ok _ (by omega) _ (by omega),Option.bind_some,if_pos hr,hw]
        exact hp _ (by omega)
      rcases ih l' with ⟨out,ho,hc,p1,p2,p3⟩ | ⟨p1,p3⟩
      · refine Or.inl ⟨l' :: out,by rw [List.length_cons,ho], ?_,fun q hq => ?_,fun q hq => ?_,fun q hq => ?_⟩
        · intro j hj
          cases j with
          | zero=>exact c
          | succ j =>
            rw [rdl_s,show i+(j+1)=i+1+j by omega]
            exact hc j (by omega)
        · obtain ⟨r,rfl⟩ : ∃ r,q=r+62:=⟨q - 62,by omega⟩
          refine P1 r _ (by omega) (fun p hp => ?_)
          rw [p1 p hp,List.append_assoc]
          rfl
        · obtain ⟨r,rfl⟩ : ∃ r,q=(r+420)+1:=⟨q - 421,by omega⟩
          have e : psalteryref12_Channel.f (r+420) (rd_L2 l2 (i : Int)) (room a b)=some l' := c.doc r 60 (by omega) h0
          rw [psalteryref12_Pulses.l0,if_pos (by omega),if_pos (by omega),(room_ok hab).2,Option.bind_some,e,Option.bind_some,if_pos (by omega),hw,p2 _ (by omega),List.append_assoc]
          rfl
        · obtain ⟨r,rfl⟩ : ∃ r,q=r+62:=⟨q - 62,by omega⟩
          exact P3 r _ (by omega) p3
      · refine Or.inr ⟨fun q hq => ?_,fun q hq => ?_⟩
        · obtain ⟨r,rfl⟩ : ∃ r,q=r+62:=⟨q - 62,by omega⟩
          exact P1 r _ (by omega) p1
        · obtain ⟨r,rfl⟩ : ∃ r,q=r+62:=⟨q - 62,by omega⟩
          exact P3 r _ (by omega) p3
    · refine Or.inr ⟨fun q hq => ?_,fun q hq => ?_⟩
      · obtain ⟨r,rfl⟩ : ∃ r,q=r+1:=⟨q - 1,by omega⟩
        rw [alloc_Pulses.l0,if_pos (by omega),if_pos (by omega),if_pos (by omega),right_ok _ (by omega) _ (by omega),Option.bind_some,if_neg hr]
      · obtain ⟨r,rfl⟩ : ∃ r,q=r+1:=⟨q - 1,by omega⟩
        rw [psalteryref12_Fair.l0,if_pos (by omega),if_pos (by omega),refRight_ok _ (by omega) _ (by omega),Option.bind_some,if_neg hr]
theorem pulses (C : Com.Cst K) (a b : Int) {l2 : List (List Int)} (h20 : l2.length≤20) (h100 : ∀ g ∈ l2,g.length≤100) :
    (rightB a b=true∧(l2.length : Int)=b∧∃ out : List (List Int),out.length=l2.length∧(∀ j,j < l2.length→Chan K (rd_L2 l2 (j : Int)) (room a b) Z5 (rd_L2 out (j : Int)))∧(∀ q,7000≤q→alloc_Pulses.f q a b l2=some (out,0))∧(∀ q,7000≤q→psalteryref12_Pulses.f q a b l2=some out)∧(∀ q,7000≤q→psalteryref12_Fair.f q b l2=some true))
    ∨ ((∀ q,7000≤q→alloc_Pulses.f q a b l2=some ([],1))∧(rightB a b=false∨∀ q,7000≤q→psalteryref12_Fair.f q b l2=some false)):=by
  cases hab : rightB a b with
  | false =>
    refine Or.inr ⟨fun q hq => ?_,Or.inl rfl⟩
    obtain ⟨r,rfl⟩ : ∃ r,q=r+1:=⟨q - 1,by omega⟩
    unfold alloc_Pulses.f
    rw [(right_f a b).1,Option.bind_some,hab,if_neg (by simp),alloc_Pulses.j0,if_pos rfl]
  | true =>
    by_cases hl : (l2.length : Int)=b
    · rcases chans C hab h20 h100 l2.length 0 [] (by omega) (Nat.le_refl 0) with ⟨out,ho,hc,p1,p2,p3⟩ | ⟨p1,p3⟩
      · refine Or.inl ⟨rfl,hl,out,ho, ?_,fun q hq => ?_,fun q hq => ?_,fun q hq => ?_⟩
        · intro j hj
          have:=hc j hj
          rw [Nat.zero_add] at this
          exact this
        · obtain ⟨r,rfl⟩ : ∃ r,q=r+1:=⟨q - 1,by omega⟩
          unfold alloc_Pulses.f
          rw [(right_f a b).1,Option.bind_some,hab,if_pos rfl,alloc_Pulses.j0,if_neg (by simp [hl])]
          exact p1 r (by omega)
        · exact p2 q (by omega)
        · unfold psalteryref12_Fair.f
          rw [if_pos hl]
          exact p3 q (by omega)
      · refine Or.inr ⟨fun q hq => ?_,Or.inr fun q hq => ?_⟩
        · obtain ⟨r,rfl⟩ : ∃ r,q=r+1:=⟨q - 1,by omega⟩
          unfold alloc_Pulses.f
          rw [(right_f a b).1,Option.bind_some,hab,if_pos rfl,alloc_Pulses.j0,if_neg (by simp [hl])]
          exact p1 r (by omega)
        · unfold psalteryref12_Fair.f
          rw [if_pos hl]
          exact p3 q (by omega)
    · refine Or.inr ⟨fun q hq => ?_,Or.inr fun q hq => ?_⟩
      · obtain ⟨r,rfl⟩ : ∃ r,q=r+1:=⟨q - 1,by omega⟩
        unfold alloc_Pulses.f
        rw [(right_f a b).1,Option.bind_some,hab,if_pos rfl,alloc_Pulses.j0,if_pos (by simp [hl])]
      · unfold psalteryref12_Fair.f
        rw [if_neg hl]
end Go.Proofs.Ytifkhfnmbiefaaa.Alo
/- Bands, and their gains: what the program and the document make of 16 coefficients. -/
namespace Go.Proofs.Ytifkhfnmbiefaaa.Ton
open Go Go.RowKit Go.Proofs.YtifkhfnmbiefaaaW.PrintWords Go.Proofs.YtifkhfnmbiefaaaW.PrintMore Go.Proofs.Ytifkhfnmbiefaaa.Prt Go.Proofs.Ytifkhfnmbiefaaa.Com Go.Proofs.Ytifkhfnmbiefaaa.Pvq Go.Proofs.Ytifkhfnmbiefaaa.PvqN
set_option linter.unusedVariables false
set_option linter.unusedSimpArgs false
open Go.Proofs.Ytifkhfnmbiefaaa.Alo (W)
theorem dropA {α : Type} {l : List α} {i : Nat} (h : i < l.length) : l.drop i=l[i] :: l.drop (i+1):=List.drop_eq_getElem_cons h
theorem dropE {α : Type} {l : List α} {i : Nat} (h : l.length≤i) : l.drop i = []:=List.drop_eq_nil_of_le h
def Fo (b : Nat) : Nat := [0,1,2,4,8].getD b 0
def Bd (x : List Int) (b : Nat) : List Int:=(x.take (Fo b+W b)).drop (Fo b)
def F16 (x : List Int) : Prop:=x.length=16∧Fr x
instance (x : List Int) : Decidable (F16 x):=by unfold F16;infer_instance
theorem fo_in {b : Nat} (h : b < 5) : Fo b+W b≤16:=(by decide : ∀ b : Fin 5,Fo b.1+W b.1≤16) ⟨b,h⟩
theorem from_p {b : Nat} (h : b < 5) : band_From.f (b : Int)=some (Fo b : Int):=(by decide +kernel : ∀ b : Fin 5,band_From.f (b.1 : Int)=some (Fo b.1 : Int)) ⟨b,h⟩
theorem from_r {b : Nat} (h : b < 5) : psalteryref10_From.f (b : Int)=some (Fo b : Int):=(by decide +kernel : ∀ b : Fin 5,psalteryref10_From.f (b.1 : Int)=some (Fo b.1 : Int)) ⟨b,h⟩
theorem width_e {b : Nat} (h : b < 5) : Ev (fun k=>psalteryref10_Width.f k (b : Int)) (W b : Int):=⟨1,fun k hk=>Alo.width_r h hk⟩
theorem Bd_len {x : List Int} (hx : x.length=16) {b : Nat} (hb : b < 5) : (Bd x b).length=W b:=by
  have:=fo_in hb
  unfold Bd
  rw [List.length_drop,List.length_take];omega
theorem Bd_mem {x : List Int} {b : Nat} {v : Int} (h : v ∈ Bd x b) : v ∈ x:=List.mem_of_mem_take (List.mem_of_mem_drop h)
theorem Bd_fr {x : List Int} (h : F16 x) {b : Nat} (hb : b < 5) : Fr (Bd x b):=by
  have:=Alo.W_in hb
  exact ⟨by rw [Bd_len h.1 hb];omega,by rw [Bd_len h.1 hb];omega,fun v hv=>h.2.2.2 v (Bd_mem hv)⟩
theorem Bd_get {x : List Int} {b i : Nat} (h : i < (Bd x b).length) (hx : Fo b+i < x.length) : (Bd x b)[i]=x[Fo b+i]:=by
  simp only [Bd,List.getElem_drop,List.getElem_take]
def bds (x : List Int) (n : Nat) : List (List Int):=(List.range n).map (Bd x)
theorem bds_succ (x : List Int) (n : Nat) : bds x (n+1)=bds x n ++ [Bd x n]:=by simp [bds,List.range_succ]
theorem bds_len (x : List Int) (n : Nat) : (bds x n).length=n:=by simp [bds]
theorem bds_rd (x : List Int) {n b : Nat} (h : b < n) : rd_L1 (bds x n) (b : Int)=Bd x b:=by
  unfold rd_L1
  rw [List.getD_eq_getElem?_getD,Int.toNat_natCast,List.getElem?_eq_getElem (by rw [bds_len];exact h)]
  simp [bds]
theorem split_l0 {x : List Int} (hx : x.length=16) : ∀ (d i : Nat),i+d=5→Ev (fun k=>band_Split.l0 k x (bds x i) (i : Int)) (bds x 5,0)
  | 0,i,h=>by
    obtain rfl : i=5:=by omega
    exact Ev.step (fun k=>by rw [band_Split.l0,if_neg (by omega)]) (Ev.now _)
  | d+1,i,h=>by
    have hb : i < 5:=by omega
    have hf:=fo_in hb
    have hw:=Alo.W_in hb
    have e : wrap64 ((Fo i : Int)+(W i : Int))=((Fo i+W i : Nat) : Int):=by rw [w64 (by omega) (by omega)];omega
    refine Ev.step (fun k => ?_) (split_l0 hx d (i+1) (by omega))
    rw [band_Split.l0,if_pos (by omega),from_p hb,Option.bind_some,Alo.width_p hb,Option.bind_some,if_pos (by omega),e,if_pos (by omega),if_pos (by omega),if_pos (by rw [bds_len];omega),Int.toNat_natCast,Int.toNat_natCast,bds_succ,w_succ (n:=5) hb (by omega)]
    rfl
theorem split_ok {x : List Int} (h : F16 x) : Ev (fun k=>band_Split.f k x) (bds x 5,0):=by
  refine Ev.bind (square_ok h.2) (Ev.congr (fun k=>by rw [if_pos rfl,show ((x.length : Int) != 16)=false by simp;have:=h.1;omega]) ?_)
  refine Ev.step (fun k => ?_) (split_l0 h.1 5 0 (by omega))
  rw [band_Split.j0,if_neg (by decide),Option.bind_some,if_pos (by have:=h.1;simp;omega),List.nil_append]
  rfl
theorem split_bad {x : List Int} (hl : x.length≤100) (h : ¬ F16 x) : Ev (fun k=>band_Split.f k x) ([],1):=by
  have hj : Ev (fun k=>band_Split.j0 k x true) ([],1):=Ev.step (fun k=>by rw [band_Split.j0,if_pos rfl]) (Ev.now _)
  by_cases hf : Fr x
  · have hne : x.length≠16:=fun e=>h ⟨e,hf⟩
    exact Ev.bind (square_ok hf) (Ev.congr (fun k=>by rw [if_pos rfl,show ((x.length : Int) != 16)=true by simp;omega]) hj)
  · exact Ev.bind (square_bad hl hf) (Ev.congr (fun k=>by rw [if_neg (by decide)]) hj)
def lgf : Nat→Nat→Nat
  | 0,_=>0
  | f+1,n=>if n=0 then 0 else lgf f (n / 2)+1
theorem lg_le : ∀ (f n g : Nat),n < 2 ^ g→lgf f n≤g
  | 0,_,_,_=>Nat.zero_le _
  | f+1,n,g,h=>by
    unfold lgf
    by_cases h0 : n=0
    · rw [if_pos h0];exact Nat.zero_le _
    · rw [if_neg h0]
      obtain ⟨g,rfl⟩ : ∃ m,g=m+1:=⟨g - 1,by
        have : g≠0:=fun e=>by subst e;simp at h;omega
        omega⟩
      have:=lg_le f (n / 2) g (by rw [Nat.pow_succ] at h;omega)
      omega
theorem log_l0 : ∀ (f n : Nat) (c : Int),n < 2 ^ f→f≤64→-1≤c→c≤64 - f→Ev (fun k=>num_Log2.l0 k (n : Int) c) (c+(lgf f n : Int))
  | 0,n,c,h,hf,h0,h1=>by
    obtain rfl : n=0:=by simpa using h
    refine Ev.step (f:=fun _=>some (c+((lgf 0 0 : Nat) : Int))) (fun k => ?_) (Ev.now _)
    rw [num_Log2.l0,if_neg (by omega)]
    simp [lgf]
  | f+1,n,c,h,hf,h0,h1=>by
    by_cases hn : n=0
    · subst hn
      refine Ev.step (f:=fun _=>some (c+((lgf (f+1) 0 : Nat) : Int))) (fun k => ?_) (Ev.now _)
      rw [num_Log2.l0,if_neg (by omega)]
      simp [lgf]
    · have e : lgf (f+1) n=lgf f (n / 2)+1:=by rw [lgf,if_neg hn]
      have ih:=log_l0 f (n / 2) (c+1) (by rw [Nat.pow_succ] at h;omega) (by omega) (by omega) (by omega)
      rw [e,show c+((lgf f (n / 2)+1 : Nat) : Int)=c+1+(lgf f (n / 2) : Int) by omega]
      refine Ev.step (fun k => ?_) ih
      rw [num_Log2.l0,if_pos (by omega),w64 (by omega) (by omega),show (n : Int) / 2=((n / 2 : Nat) : Int) by omega]
def Gn (x : List Int) : Nat:=lgf 64 (S2 x).toNat
theorem S2_b8 {x : List Int} (hf : Fr x) (hl : x.length≤8) : 0≤S2 x∧S2 x≤8796093022208:=by
  refine ⟨S2_nonneg x, ?_⟩
  have h:=S2_le (c:=1048576) (by decide) (l:=x) (fun v hv=>by have:=hf.2.2 v hv;unfold In at this;omega)
  have : (1048576 : Int) * 1048576 * (x.length : Int)≤1048576 * 1048576 * 8:=Int.mul_le_mul_of_nonneg_left (by omega) (by decide)
  omega
theorem Gn_le {x : List Int} (hf : Fr x) (hl : x.length≤8) : Gn x≤44:=by
  have:=S2_b8 hf hl
  exact lg_le 64 _ 44 (by
    have : (2 : Nat) ^ 44=17592186044416:=by decide
    omega)
theorem gain_ok {x : List Int} (hf : Fr x) (hl : x.length≤8) : Ev (fun k=>band_Gain.f k x) ((Gn x : Int),0):=by
  have hb:=S2_b8 hf hl
  have hg:=Gn_le hf hl
  have hl0:=log_l0 64 (S2 x).toNat (-1) (by
    have : (2 : Nat) ^ 64=18446744073709551616:=by decide
    omega) (by omega) (by omega) (by omega)
  rw [show (((S2 x).toNat : Nat) : Int)=S2 x by omega] at hl0
  refine Ev.bind (square_ok hf) (Ev.congr (fun k=>by rw [if_pos rfl,if_neg (by omega)]) ?_)
  refine Ev.bind (a:=(Gn x : Int)) ?_ (Ev.now _)
  refine Ev.bind hl0 (Ev.congr (f:=fun _=>some ((Gn x : Nat) : Int)) (fun k => ?_) (Ev.now _))
  rw [w64 (by unfold Gn at hg;omega) (by unfold Gn at hg;omega)]
  unfold Gn
  congr 1;omega
def gns (x : List Int) (n : Nat) : List Int:=(List.range n).map fun b=>(Gn (Bd x b) : Int)
theorem gns_succ (x : List Int) (n : Nat) : gns x (n+1)=gns x n ++ [(Gn (Bd x n) : Int)]:=by simp [gns,List.range_succ]
theorem gns_len (x : List Int) (n : Nat) : (gns x n).length=n:=by simp [gns]
theorem gns_rt {x : List Int} (h : F16 x) : Alo.rt (gns x 5)=true:=by
  unfold Alo.rt
  rw [gns_len,Bool.and_eq_true]
  refine ⟨rfl,List.all_eq_true.2 fun v hv=>decide_eq_true ?_⟩
  obtain ⟨b,hb,rfl⟩:=List.mem_map.1 hv
  have hb:=List.mem_range.1 hb
  have:=Alo.W_in hb
  have:=Gn_le (Bd_fr h hb) (by rw [Bd_len h.1 hb];omega)
  omega
theorem gains_l0 {x : List Int} (h : F16 x) : ∀ (d i : Nat),i+d=5→Ev (fun k=>band_Gains.l0 k (gns x i) (bds x 5) 5 (i : Int)) (gns x 5,0)
  | 0,i,e=>by
    obtain rfl : i=5:=by omega
    exact Ev.step (fun k=>by rw [band_Gains.l0,if_neg (by omega)]) (Ev.now _)
  | d+1,i,e=>by
    have hb : i < 5:=by omega
    have hw:=Alo.W_in hb
    refine Ev.step (f:=fun k=>(band_Gain.f k (Bd x i)).bind fun bt=>if (gns x i).length < 17592186044416 then band_Gains.l0 k (gns x i ++ [bt.1]) (bds x 5) 5 (wrap64 ((i : Int)+1)) else none) (fun k => ?_) (Ev.bind (gain_ok (Bd_fr h hb) (by rw [Bd_len h.1 hb];omega)) (Ev.congr (fun k => ?_) (gains_l0 h d (i+1) (by omega))))
    · rw [band_Gains.l0,if_pos (by omega),if_pos (by omega),if_pos (by rw [bds_len];omega),bds_rd x hb]
    · rw [if_pos (by rw [gns_len];omega),gns_succ,w_succ (n:=5) hb (by omega)]
theorem gains_ok {x : List Int} (h : F16 x) : Ev (fun k=>band_Gains.f k x) (gns x 5,0):=by
  refine Ev.bind (split_ok h) (Ev.congr (fun k => ?_) (gains_l0 h 5 0 (by omega)))
  rw [if_pos rfl,bds_len]
  rfl
theorem rband_l0 {x : List Int} (hx : x.length=16) {b : Nat} (hb : b < 5) : ∀ (d i : Nat),i+d=W b→Ev (fun k=>psalteryref10_Band.l0 k x (b : Int) ((Bd x b).take i) (i : Int)) (Bd x b)
  | 0,i,e=>by
    have hl:=Bd_len hx hb
    refine Ev.step (f:=fun k=>(psalteryref10_Width.f k (b : Int)).bind fun t=>_) (fun k=>by rw [psalteryref10_Band.l0]) (Ev.bind (width_e hb) (Ev.congr (f:=fun _=>some (Bd x b)) (fun k => ?_) (Ev.now _)))
    rw [if_neg (by omega),List.take_of_length_le (by omega)]
  | d+1,i,e=>by
    have hl:=Bd_len hx hb
    have hf:=fo_in hb
    have hw:=Alo.W_in hb
    refine Ev.step (f:=fun k=>(psalteryref10_Width.f k (b : Int)).bind fun t=>_) (fun k=>by rw [psalteryref10_Band.l0]) (Ev.bind (width_e hb) (Ev.congr (fun k => ?_) (rband_l0 hx hb d (i+1) (by omega))))
    have ew : wrap64 ((Fo b : Int)+(i : Int))=((Fo b+i : Nat) : Int):=by rw [w64 (by omega) (by omega)];omega
    rw [if_pos (by omega),from_r hb,Option.bind_some,ew,if_pos (by omega),if_pos (by omega),if_pos (by rw [List.length_take];omega),w_succ (n:=W b) (by omega) (by omega),rd_at (by omega),List.take_succ_eq_append_getElem (by omega),Bd_get (by omega) (by omega)]
theorem rband_ok {x : List Int} (hx : x.length=16) {b : Nat} (hb : b < 5) : Ev (fun k=>psalteryref10_Band.f k x (b : Int)) (Bd x b):=rband_l0 hx hb (W b) 0 (by omega)
theorem rfair16 {x : List Int} (hl : x.length≤100) : Ev (fun k=>psalteryref10_Fair.f k x) (decide (F16 x)):=by
  by_cases h : x.length=16
  · refine Ev.congr (fun k=>by rw [psalteryref10_Fair.f,if_pos (by omega)]) (Ev.bind (rfair_f hl) ?_)
    rw [show decide (F16 x)=decide (Fr x) from decide_eq_decide.2 ⟨fun e=>e.2,fun e=>⟨h,e⟩⟩]
    exact Ev.now _
  · refine Ev.congr (f:=fun _=>some (decide (F16 x))) (fun k => ?_) (Ev.now _)
    rw [psalteryref10_Fair.f,if_neg (by omega),decide_eq_false (fun e=>h e.1)]
def Rt (a b : Int) (l : List (List Int)) : Prop:=Alo.rightB a b=true∧(l.length : Int)=b∧∀ x ∈ l,F16 x
instance (a b : Int) (l : List (List Int)) : Decidable (Rt a b l):=by unfold Rt;infer_instance
theorem rd1_mem {l : List (List Int)} {i : Nat} (h : i < l.length) : rd_L1 l (i : Int)=l[i]:=by
  unfold rd_L1
  rw [List.getD_eq_getElem?_getD,Int.toNat_natCast,List.getElem?_eq_getElem h]
  rfl
def allF (l : List (List Int)) : Bool:=decide (∀ x ∈ l,F16 x)
theorem dec_cons {l : List (List Int)} {i : Nat} (hi : i < l.length) : allF (l.drop i)=(decide (F16 l[i]) && allF (l.drop (i+1))):=by
  unfold allF
  rw [← Bool.decide_and]
  exact decide_eq_decide.2 (by rw [dropA hi];exact List.forall_mem_cons)
theorem right_l0 {l : List (List Int)} (hl : l.length≤10) (h : ∀ x ∈ l,x.length≤100) : ∀ (d i : Nat),i+d=l.length→Ev (fun k=>ccodec_Right.l0 k l (l.length : Int) (i : Int)) (allF (l.drop i))
  | 0,i,e=>by
    refine Ev.step (f:=fun _=>some (allF (l.drop i))) (fun k => ?_) (Ev.now _)
    rw [ccodec_Right.l0,if_neg (by omega),dropE (by omega)]
    rfl
  | d+1,i,e=>by
    have hi : i < l.length:=by omega
    have ih:=right_l0 hl h d (i+1) (by omega)
    rw [dec_cons hi]
    refine Ev.step (f:=fun k=>(band_Split.f k l[i]).bind fun bt=>_) (fun k=>by rw [ccodec_Right.l0,if_pos (by omega),if_pos (by omega),if_pos (by omega),rd1_mem hi]) ?_
    by_cases h0 : F16 l[i]
    · rw [decide_eq_true h0,Bool.true_and]
      refine Ev.bind (split_ok h0) (Ev.congr (fun k => ?_) ih)
      rw [if_pos rfl,w_succ hi (by omega)]
    · rw [decide_eq_false h0,Bool.false_and]
      refine Ev.bind (split_bad (h _ (List.getElem_mem hi)) h0) (Ev.congr (fun k => ?_) (Ev.now _))
      rw [if_neg (by decide)]
theorem right_e (a b : Int) {l : List (List Int)} (hl : l.length≤10) (h : ∀ x ∈ l,x.length≤100) : Ev (fun k=>ccodec_Right.f k a b l) (decide (Rt a b l)):=by
  have hj : Ev (fun k=>ccodec_Right.j0 k true l) false:=Ev.step (fun k=>by rw [ccodec_Right.j0,if_pos rfl]) (Ev.now _)
  refine Ev.congr (f:=fun k=>if Alo.rightB a b=true then ccodec_Right.j0 k ((l.length : Int) != b) l else ccodec_Right.j0 k true l) (fun k=>by rw [ccodec_Right.f,(Alo.right_f a b).1,Option.bind_some]) ?_
  by_cases h0 : Alo.rightB a b=true
  · by_cases h1 : (l.length : Int)=b
    · rw [show decide (Rt a b l)=allF (l.drop 0) from decide_eq_decide.2 ⟨fun e=>e.2.2,fun e=>⟨h0,h1,e⟩⟩]
      refine Ev.congr (fun k=>by rw [if_pos h0,show ((l.length : Int) != b)=false by simp [h1]]) (Ev.step (fun k => ?_) (right_l0 hl h l.length 0 (by omega)))
      rw [ccodec_Right.j0,if_neg (by decide)]
      rfl
    · rw [decide_eq_false (fun e : Rt a b l=>h1 e.2.1)]
      exact Ev.congr (fun k=>by rw [if_pos h0,show ((l.length : Int) != b)=true by simp [h1]]) hj
  · rw [decide_eq_false (fun e : Rt a b l=>h0 e.1)]
    exact Ev.congr (fun k=>by rw [if_neg h0]) hj
theorem rright_l0 {l : List (List Int)} (hl : l.length≤10) (h : ∀ x ∈ l,x.length≤100) : ∀ (d i : Nat),i+d=l.length→Ev (fun k=>psalteryref23_Right.l0 k (l.length : Int) (i : Int) l) (allF (l.drop i))
  | 0,i,e=>by
    refine Ev.step (f:=fun _=>some (allF (l.drop i))) (fun k => ?_) (Ev.now _)
    rw [psalteryref23_Right.l0,if_neg (by omega),dropE (by omega)]
    rfl
  | d+1,i,e=>by
    have hi : i < l.length:=by omega
    have ih:=rright_l0 hl h d (i+1) (by omega)
    rw [dec_cons hi]
    refine Ev.step (f:=fun k=>(psalteryref10_Fair.f k l[i]).bind fun bt=>_) (fun k=>by rw [psalteryref23_Right.l0,if_pos (by omega),if_pos (by omega),if_pos (by omega),rd1_mem hi]) (Ev.bind (rfair16 (h _ (List.getElem_mem hi))) ?_)
    by_cases h0 : F16 l[i]
    · rw [decide_eq_true h0,Bool.true_and]
      refine Ev.congr (fun k => ?_) ih
      rw [if_pos rfl,w_succ hi (by omega)]
    · rw [decide_eq_false h0,Bool.false_and]
      exact Ev.congr (fun k=>by rw [if_neg (by decide)]) (Ev.now _)
theorem rright_e (a b : Int) {l : List (List Int)} (hl : l.length≤10) (h : ∀ x ∈ l,x.length≤100) : Ev (fun k=>psalteryref23_Right.f k a b l) (decide (Rt a b l)):=by
  have hj : Ev (fun k=>psalteryref23_Right.j0 k b true l) false:=Ev.step (fun k=>by rw [psalteryref23_Right.j0,if_pos rfl]) (Ev.now _)
  refine Ev.congr (f:=fun k=>if Alo.rightB a b=true then psalteryref23_Right.j0 k b ((l.length : Int) != b) l else psalteryref23_Right.j0 k b true l) (fun k=>by rw [psalteryref23_Right.f,(Alo.right_f a b).2,Option.bind_some]) ?_
  by_cases h0 : Alo.rightB a b=true
  · by_cases h1 : (l.length : Int)=b
    · rw [show decide (Rt a b l)=allF (l.drop 0) from decide_eq_decide.2 ⟨fun e=>e.2.2,fun e=>⟨h0,h1,e⟩⟩]
      refine Ev.congr (fun k=>by rw [if_pos h0,show ((l.length : Int) != b)=false by simp [h1]]) (Ev.step (fun k => ?_) (rright_l0 hl h l.length 0 (by omega)))
      rw [psalteryref23_Right.j0,if_neg (by decide),h1]
      rfl
    · rw [decide_eq_false (fun e : Rt a b l=>h1 e.2.1)]
      exact Ev.congr (fun k=>by rw [if_pos h0,show ((l.length : Int) != b)=true by simp [h1]]) hj
  · rw [decide_eq_false (fun e : Rt a b l=>h0 e.1)]
    exact Ev.congr (fun k=>by rw [if_neg h0]) hj
end Go.Proofs.Ytifkhfnmbiefaaa.Ton
/- Which packs are right: the program's answer is the document's. -/
namespace Go.Proofs.Ytifkhfnmbiefaaa.Pak
open Go Go.RowKit Go.Proofs.YtifkhfnmbiefaaaW.PrintWords Go.Proofs.Ytifkhfnmbiefaaa.Prt Go.Proofs.Ytifkhfnmbiefaaa.Alo
set_option linter.unusedVariables false
set_option linter.unusedSimpArgs false
variable {V K : Nat→Nat→Int}
theorem szs_drop {y : List Int} {i : Nat} (h : i < y.length) : Com.szs (y.drop i)=Com.sz (rd y (i : Int))+Com.szs (y.drop (i+1)):=by
  rw [List.drop_eq_getElem_cons h,Com.szs,Com.rd_at h]
theorem pulses_l0 {y : List Int} (hy : y.length≤100) (h12 : Com.szs y≤12) : ∀ (d i q : Nat) (x : Int),i+d=y.length→-2000≤x - Com.szs (y.drop i)→x≤12→cpack_pulses.l0 (q+d+1) x y (y.length : Int) (i : Int)=some ((x - Com.szs (y.drop i)) == 0)
  | 0,i,q,x,h,hx,hx1=>by
    rw [cpack_pulses.l0,if_neg (by omega),List.drop_eq_nil_of_le (by omega),Com.szs,Int.sub_zero]
  | d+1,i,q,x,h,hx,hx1=>by
    have hd:=szs_drop (show i < y.length by omega)
    have hn:=Com.szs_in (y.drop (i+1))
    have hs:=Com.sz_in (rd y (i : Int))
    have hle : Com.szs (y.drop i)≤Com.szs y:=by
      clear hx hx1 hd hn hs h
      induction i with
      | zero=>simp
      | succ i ih =>
        rcases Nat.lt_or_ge i y.length with h|h
        · have:=szs_drop h
          have:=Com.sz_in (rd y (i : Int))
          omega
        · rw [List.drop_eq_nil_of_le (by omega)]
          rw [List.drop_eq_nil_of_le h] at ih
          exact ih
    have hv : -12≤rd y (i : Int)∧rd y (i : Int)≤12:=by
      by_cases hv : -12≤rd y (i : Int)∧rd y (i : Int)≤12
      · exact hv
      · unfold Com.sz at hd hs
        rw [if_neg hv] at hd
        omega
    have hm : mx (rd y (i : Int)) (wrap64 (-(rd y (i : Int))))=Com.sz (rd y (i : Int)):=by
      unfold mx Com.sz
      rw [w64 (by omega) (by omega),if_pos hv]
      by_cases h0 : rd y (i : Int) < 0
      · rw [if_pos (by omega),if_pos h0]
      · rw [if_neg h0]
        by_cases h1 : rd y (i : Int) < -(rd y (i : Int))
        · omega
        · rw [if_neg h1]
    rw [show q+(d+1)+1=(q+d+1)+1 by omega,cpack_pulses.l0,if_pos (by omega),if_pos (by omega),if_pos (by omega),hm,w64 (x:=x - Com.sz (rd y (i : Int))) (by omega) (by omega),w64 (by omega) (by omega),show (i : Int)+1=((i+1 : Nat) : Int) by omega,
      pulses_l0 hy h12 d (i+1) q (x - Com.sz (rd y (i : Int))) (by omega) (by omega) (by omega),hd,Int.sub_sub]
def okV (y : List Int) (n k : Int) : Bool:=decide ((y.length : Int)=n∧Com.szs y=k)
theorem pulses_f (C : Com.Cnt V) {y : List Int} (hy : y.length≤100) {n k : Int} (hn : 1≤n) (hn' : n≤16) (hk : 0≤k) (hk' : k≤12) {q : Nat} (hq : 800≤q) : cpack_pulses.f q y n k=some (okV y n k):=by
  have h0:=Com.szs_in y
  unfold cpack_pulses.f
  by_cases hb : y.length < 1∨y.length > 16∨Com.szs y > 12
  · obtain ⟨r,rfl⟩ : ∃ r,q=r+1:=⟨q - 1,by omega⟩
    rw [Com.index_bad hy hb (by omega),Option.bind_some,if_neg (by decide),cpack_pulses.j0,if_pos rfl]
    unfold okV
    rw [decide_eq_false (by omega)]
  · obtain ⟨k',hk1,hk2⟩ : ∃ k' : Nat,(k' : Int)=Com.szs y∧k' < 13:=⟨(Com.szs y).toNat,by omega,by omega⟩
    obtain ⟨i,_,_,hu⟩:=Com.Unr.ex C y k' (by omega) (by omega) hk2
    obtain ⟨r,rfl⟩ : ∃ r,q=(r+y.length+1)+1:=⟨q - y.length - 2,by omega⟩
    rw [Com.index_f C (by omega) (by omega) hk2 hu (by omega),Option.bind_some,if_pos rfl]
    have hl:=pulses_l0 hy (by omega) y.length 0 r k (by omega) (by simp;omega) hk'
    unfold okV
    by_cases he : (y.length : Int)=n
    · rw [cpack_pulses.j0,if_neg (by simp [he]),show (0 : Int)=((0 : Nat) : Int) from rfl,hl]
      simp only [List.drop_zero]
      congr 1
      rw [Bool.eq_iff_iff]
      simp [he]
      omega
    · rw [cpack_pulses.j0,if_pos (by simp [he]),decide_eq_false (fun h=>he h.1)]

def okR (row : List (List Int)) (ks : List Int) : Nat→Nat→Bool
  | 0,_=>true
  | d+1,b=>okV (rd_L2 row (b : Int)) (W b : Int) (rd ks (b : Int)) && okR row ks d (b+1)
def okA (Y : List (List (List Int))) (out : List (List Int)) : Nat→Nat→Bool
  | 0,_=>true
  | d+1,i=>decide ((rd_L4 Y (i : Int)).length=5) && (okR (rd_L4 Y (i : Int)) (rd_L2 out (i : Int)) 5 0 && okA Y out d (i+1))
structure Sized (Y : List (List (List Int))) : Prop where
  n : Y.length≤10
  r : ∀ i : Nat,i < Y.length→(rd_L4 Y (i : Int)).length≤10∧∀ y ∈ rd_L4 Y (i : Int),y.length≤60
theorem l1_p (C : Com.Cnt V) {Y : List (List (List Int))} {out : List (List Int)} {i : Nat} {L : Int} (hi : i < out.length) (ho : out.length≤100) (hks : Ks (rd_L2 out (i : Int))) {row : List (List Int)} (hr : row.length=5) (hs : ∀ y ∈ row,y.length≤60) {q : Nat} (hq : 1000≤q) :
    ∀ (d b : Nat),b+d=5→cpack_Right.l1 (q+d+1) out (i : Int) Y L (i : Int) row 5 (b : Int)=if okR row (rd_L2 out (i : Int)) d b=true then cpack_Right.l0 q out Y L ((i+1 : Nat) : Int) else some false
  | 0,b,h=>by
    rw [cpack_Right.l1,if_neg (by omega),okR,if_pos rfl,w64 (by omega) (by omega)]
    rfl
  | d+1,b,h=>by
    have hk:=Ks_rd hks (show b < 5 by omega)
    have hW:=W_in (show b < 5 by omega)
    have hm:=hs _ (rdl_mem (show b < row.length by omega))
    rw [show q+(d+1)+1=(q+d+1)+1 by omega,cpack_Right.l1,if_pos (by omega),if_pos (by omega),if_pos (by omega),width_p (by omega),Option.bind_some,if_pos (by omega),if_pos (by omega),if_pos (by rw [hks.1];omega),pulses_f C (by omega) (by omega) (by omega) hk.1 hk.2 (by omega),Option.bind_some,okR]
    cases hv : okV (rd_L2 row (b : Int)) (W b : Int) (rd (rd_L2 out (i : Int)) (b : Int)) with
    | false=>rw [if_neg (by simp),if_neg (by simp)]
    | true =>
      rw [if_pos rfl,Bool.true_and,w64 (by omega) (by omega),show (b : Int)+1=((b+1 : Nat) : Int) by omega]
      exact l1_p C hi ho hks hr hs hq d (b+1) (by omega)
theorem l0_p (C : Com.Cnt V) {Y : List (List (List Int))} (S : Sized Y) {out : List (List Int)} (ho : out.length=Y.length) (hks : ∀ i : Nat,i < Y.length→Ks (rd_L2 out (i : Int))) : ∀ (d i q : Nat),i+d=Y.length→1000+8 * d < q→cpack_Right.l0 q out Y (Y.length : Int) (i : Int)=some (okA Y out d i)
  | 0,i,q,h,hq=>by
    obtain ⟨r,rfl⟩ : ∃ r,q=r+1:=⟨q - 1,by omega⟩
    rw [cpack_Right.l0,if_neg (by omega),okA]
  | d+1,i,q,h,hq=>by
    have:=S.n
    obtain ⟨r,rfl⟩ : ∃ r,q=(r+5+1)+1:=⟨q - 7,by omega⟩
    have hs:=S.r i (by omega)
    rw [cpack_Right.l0,if_pos (by omega),if_pos (by omega),if_pos (by omega),okA]
    by_cases h5 : (rd_L4 Y (i : Int)).length=5
    · have hl:=l1_p C (Y:=Y) (L:=(Y.length : Int)) (show i < out.length by omega) (by omega) (hks i (by omega)) h5 hs.2 (show 1000≤r by omega) 5 0 (by omega)
      rw [if_pos (by omega),decide_eq_true h5,Bool.true_and,h5,show ((5 : Nat) : Int)=5 from rfl,show (0 : Int)=((0 : Nat) : Int) from rfl,hl]
      cases hv : okR (rd_L4 Y (i : Int)) (rd_L2 out (i : Int)) 5 0 with
      | false=>rw [if_neg (by simp),Bool.false_and]
      | true =>
        rw [if_pos rfl,Bool.true_and]
        exact l0_p C S ho hks d (i+1) r (by omega) (by omega)
    · rw [if_neg (by omega),decide_eq_false h5,Bool.false_and]
structure Good (K : Nat→Nat→Int) (a b : Int) (G : List (List Int)) (Y : List (List (List Int))) (out : List (List Int)) : Prop where
  ab : rightB a b=true
  g : (G.length : Int)=b
  y : (Y.length : Int)=b
  o : out.length=G.length
  c : ∀ j : Nat,j < G.length→Chan K (rd_L2 G (j : Int)) (room a b) Z5 (rd_L2 out (j : Int))
  p : ∀ q,7000≤q→alloc_Pulses.f q a b G=some (out,0)
  r : ∀ q,7000≤q→psalteryref12_Pulses.f q a b G=some out
  f : ∀ q,7000≤q→psalteryref12_Fair.f q b G=some true
  all : okA Y out Y.length 0=true
end Go.Proofs.Ytifkhfnmbiefaaa.Pak
/- What the coder's functions (and the document's) come to, on numbers and lists. -/
namespace Go.Proofs.Ytifkhfnmbiefaaa.Cod
open Go.RowKit Go.Proofs.YtifkhfnmbiefaaaW.PrintWords Go.Proofs.Ytifkhfnmbiefaaa.Prt Go.Proofs.Ytifkhfnmbiefaaa.Val
set_option linter.unusedVariables false

def Fair (lo hi tot : Int) : Prop:=0≤lo∧lo < hi∧hi≤tot∧tot≤65536
instance (lo hi tot : Int) : Decidable (Fair lo hi tot):=by unfold Fair;exact inferInstance
theorem fair_f (lo hi tot : Int) : coder_fair.f lo hi tot=some (decide (Fair lo hi tot)):=by
  unfold coder_fair.f Fair
  grind
def prt (rg lo hi tot : Int) : Int × Int:=(if hi=tot then rg - rg / tot * lo else rg / tot * (hi - lo),rg / tot * lo)
theorem div_facts {rg lo hi tot : Int} (h0 : 16777216≤rg) (h1 : rg≤4294967295) (hf : Fair lo hi tot) :
    256≤rg / tot∧rg / tot≤rg∧0≤rg / tot * lo∧rg / tot * lo+rg / tot * (hi - lo)=rg / tot * hi∧rg / tot * hi≤rg / tot * tot∧rg / tot * tot≤rg∧rg / tot≤rg / tot * (hi - lo):=by
  obtain ⟨f1,f2,f3,f4⟩:=hf
  have ht : 0 < tot:=by omega
  have e1 : 256≤rg / tot:=by
    rw [Int.le_ediv_iff_mul_le ht];omega
  have e2 : rg / tot * tot≤rg:=Int.ediv_mul_le _ (by omega)
  generalize rg / tot=r at *
  have e3 : r≤r * tot:=by
    have:=Int.mul_le_mul_of_nonneg_left (show (1 : Int)≤tot by omega) (show (0 : Int)≤r by omega)
    omega
  have e4 : r * hi≤r * tot:=Int.mul_le_mul_of_nonneg_left f3 (by omega)
  have e5 : 0≤r * lo:=Int.mul_nonneg (by omega) f1
  have e6 : r≤r * (hi - lo):=by
    have:=Int.mul_le_mul_of_nonneg_left (show (1 : Int)≤hi - lo by omega) (show (0 : Int)≤r by omega)
    omega
  exact ⟨e1,by omega,e5,by rw [Int.mul_sub];omega,e4,e2,e6⟩
theorem prt_facts {rg lo hi tot : Int} (h0 : 16777216≤rg) (h1 : rg≤4294967295) (hf : Fair lo hi tot) :
    256≤(prt rg lo hi tot).1∧0≤(prt rg lo hi tot).2∧(prt rg lo hi tot).1+(prt rg lo hi tot).2≤rg:=by
  obtain ⟨a,b,c,d,e,f,g⟩:=div_facts h0 h1 hf
  unfold prt
  dsimp only
  split <;> omega
def EOk (lo rg : Int) (out : List Int) : Prop:=0≤lo∧lo≤4294967295∧16777216≤rg∧rg≤4294967295∧Bytes out∧out.length≤4000
def num (lo : Int) (out : List Int) : Int:=val out * 4294967296+lo
def mOf (r : Int) : Nat:=if r < 65536 then 2 else if r < 16777216 then 1 else 0
end Go.Proofs.Ytifkhfnmbiefaaa.Cod
/- The document's encoder, and the program's: the same bytes. -/
namespace Go.Proofs.Ytifkhfnmbiefaaa.Cod
open Go.RowKit Go.Proofs.YtifkhfnmbiefaaaW.PrintWords Go.Proofs.Ytifkhfnmbiefaaa.Prt Go.Proofs.Ytifkhfnmbiefaaa.Val
set_option linter.unusedVariables false

end Go.Proofs.Ytifkhfnmbiefaaa.Cod
/- The decoder, the program's and the document's. -/
namespace Go.Proofs.Ytifkhfnmbiefaaa.Cod
open Go.RowKit Go.Proofs.YtifkhfnmbiefaaaW.PrintWords Go.Proofs.YtifkhfnmbiefaaaW.PrintMore Go.Proofs.Ytifkhfnmbiefaaa.Prt Go.Proofs.Ytifkhfnmbiefaaa.Val
set_option linter.unusedVariables false

def gt (code rg tot : Int) : Int:=if code / (rg / tot) > tot - 1 then tot - 1 else code / (rg / tot)
end Go.Proofs.Ytifkhfnmbiefaaa.Cod
/- What was put is taken: the decoder's code is the bytes' number less the encoder's, choice by choice. -/
namespace Go.Proofs.Ytifkhfnmbiefaaa.Cod
open Go.RowKit Go.Proofs.YtifkhfnmbiefaaaW.PrintWords Go.Proofs.Ytifkhfnmbiefaaa.Prt Go.Proofs.Ytifkhfnmbiefaaa.Val
set_option linter.unusedVariables false
abbrev E3:=Int × Int × List Int
def E3.ok (e : E3) : Prop:=EOk e.1 e.2.1 e.2.2
def E3.num (e : E3) : Int:=Cod.num e.1 e.2.2
def E3.len (e : E3) : Nat:=e.2.2.length
structure St (e e' : E3) (lo hi tot : Int) : Prop where
  fair : Cod.Fair lo hi tot
  ok : e'.ok
  rg : e'.2.1=(prt e.2.1 lo hi tot).1 * pw (mOf (prt e.2.1 lo hi tot).1)
  len : e'.len=e.len+mOf (prt e.2.1 lo hi tot).1
  num : e'.num=(e.num+(prt e.2.1 lo hi tot).2) * pw (mOf (prt e.2.1 lo hi tot).1)
structure Ext (F : List Int) (e : E3) : Prop where
  len : e.len+4≤F.length
  low : e.num≤val (F.take (e.len+4))
  high : val (F.take (e.len+4)) < e.num+e.2.1
def Cd (F : List Int) (e : E3) : Int:=val (F.take (e.len+4)) - e.num
theorem take_more {F : List Int} {n : Nat} (h : n < F.length) : F.take (n+1)=F.take n ++ [rd F n]:=by
  rw [List.take_succ_eq_append_getElem h]
  unfold Go.Proofs.YtifkhfnmbiefaaaW.PrintWords.rd
  simp [List.getD_eq_getElem?_getD,List.getElem?_eq_getElem h]
theorem val_more {F : List Int} {n : Nat} (h : n < F.length) : val (F.take (n+1))=val (F.take n) * 256+rd F n:=by rw [take_more h,val_snoc]
theorem val_between {F : List Int} (hb : Bytes F) : ∀ (m n : Nat),n+m≤F.length→val (F.take n) * pw m≤val (F.take (n+m))∧val (F.take (n+m)) < (val (F.take n)+1) * pw m
  | 0,n,_=>by rw [pw_zero];simp;omega
  | m+1,n,h=>by
    have ih:=val_between hb m n (by omega)
    have hr:=hb.rd ((n+m : Nat) : Int)
    rw [← Nat.add_assoc,val_more (by omega),pw_succ,show val (F.take n) * (256 * pw m)=val (F.take n) * pw m * 256 by rw [Int.mul_assoc,Int.mul_comm 256],show (val (F.take n)+1) * (256 * pw m)=(val (F.take n)+1) * pw m * 256 by rw [Int.mul_assoc,Int.mul_comm 256]]
    omega
theorem ext_back {F : List Int} {e e' : E3} {lo hi tot : Int} (he : e.ok) (hs : St e e' lo hi tot) (hb : Bytes F) (hx : Ext F e') :
    Ext F e∧(prt e.2.1 lo hi tot).2≤Cd F e∧Cd F e < (prt e.2.1 lo hi tot).2+(prt e.2.1 lo hi tot).1:=by
  obtain ⟨h1,h2,h3⟩:=hx
  have hp:=prt_facts he.2.2.1 he.2.2.2.1 hs.fair
  rw [hs.len] at h1 h2 h3
  rw [hs.num] at h2 h3
  rw [hs.rg, ← Int.add_mul] at h3
  generalize prt e.2.1 lo hi tot=p at *
  obtain ⟨r,s⟩:=p
  dsimp only at *
  generalize mOf r=m at *
  have hw:=val_between hb m (e.len+4) (by omega)
  rw [show e.len+m+4=e.len+4+m by omega] at h2 h3
  have pm:=pw_pos m
  have g1 : e.num+s < val (F.take (e.len+4))+1:=Int.lt_of_mul_lt_mul_right (Int.lt_of_le_of_lt h2 hw.2) (Int.le_of_lt pm)
  have g2 : val (F.take (e.len+4)) < e.num+s+r:=Int.lt_of_mul_lt_mul_right (Int.lt_of_le_of_lt hw.1 h3) (Int.le_of_lt pm)
  exact ⟨⟨by omega,by omega,by omega⟩,by unfold Cd;omega,by unfold Cd;omega⟩
inductive Run : E3→List (Int × Int × Int)→E3→Prop
  | nil (e : E3) : Run e [] e
  | cons {e e' e'' : E3} {lo hi tot : Int} {cs : List (Int × Int × Int)} : St e e' lo hi tot→Run e' cs e''→Run e ((lo,hi,tot) :: cs) e''
theorem Run.ok {e e' : E3} {cs : List (Int × Int × Int)} (h : Run e cs e') (he : e.ok) : e'.ok:=by
  induction h with
  | nil=>exact he
  | cons s _ ih=>exact ih s.ok
theorem Run.ext {e e' : E3} {cs : List (Int × Int × Int)} (h : Run e cs e') (he : e.ok) {F : List Int} (hb : Bytes F) (hx : Ext F e') : Ext F e:=by
  induction h with
  | nil=>exact hx
  | cons s _ ih=>exact (ext_back he s hb (ih s.ok hx)).1
def all (e : E3) : List Int:=e.2.2 ++ four e.1
end Go.Proofs.Ytifkhfnmbiefaaa.Cod
/- Numbers: put and taken as one choice, or two. -/
namespace Go.Proofs.Ytifkhfnmbiefaaa.Cod
open Go.RowKit Go.Proofs.YtifkhfnmbiefaaaW.PrintWords Go.Proofs.YtifkhfnmbiefaaaW.PrintMore Go.Proofs.Ytifkhfnmbiefaaa.Prt Go.Proofs.Ytifkhfnmbiefaaa.Val
set_option linter.unusedVariables false
section
variable {lo0 rg0 lo rg : Int} {out0 out : List Int} (ho : coder_own.f lo0 rg0 out0=some (lo,rg,out))
include ho
end
end Go.Proofs.Ytifkhfnmbiefaaa.Cod
/- Gains taken: what the program and the document take, step by step; and what gains may be. -/
namespace Go.Proofs.Ytifkhfnmbiefaaa.Gan
open Go.RowKit Go.Proofs.YtifkhfnmbiefaaaW.PrintWords Go.Proofs.YtifkhfnmbiefaaaW.PrintMore Go.Proofs.Ytifkhfnmbiefaaa.Prt Go.Proofs.Ytifkhfnmbiefaaa.Val Go.Proofs.Ytifkhfnmbiefaaa.Cod
set_option linter.unusedVariables false
def rt (l : List Int) : Bool:=((l.length : Int) == 5) && l.all (fun x=>decide (0≤x∧x≤44))
theorem drop_rd (l : List Int) (i : Nat) (h : i < l.length) : l.drop i=rd l (i : Int) :: l.drop (i+1):=by
  rw [List.drop_eq_getElem_cons h]
  unfold Go.Proofs.YtifkhfnmbiefaaaW.PrintWords.rd
  rw [List.getD_eq_getElem?_getD,Int.toNat_natCast,List.getElem?_eq_getElem h]
  rfl
theorem right_l0 (l : List Int) (hl : l.length≤9000) : ∀ (d i k : Nat),i+d=l.length→d < k→gain_Right.l0 k l l (l.length : Int) (i : Int)=some (((l.length : Int) == 5) && (l.drop i).all (fun x=>decide (0≤x∧x≤44)))
  | 0,i,k,hi,hk=>by
    obtain ⟨k,rfl⟩ : ∃ m,k=m+1:=⟨k - 1,by omega⟩
    simp only [gain_Right.l0]
    rw [if_neg (by omega),List.drop_eq_nil_of_le (by omega)]
    simp
  | d+1,i,k,hi,hk=>by
    obtain ⟨k,rfl⟩ : ∃ m,k=m+1:=⟨k - 1,by omega⟩
    simp only [gain_Right.l0]
    rw [if_pos (by omega),if_pos (by omega),if_pos (by omega),drop_rd l i (by omega),List.all_cons]
    by_cases h0 : rd l (i : Int) < 0
    · rw [if_pos h0,show decide (0≤rd l (i : Int)∧rd l (i : Int)≤44)=false by simp;omega]
      simp
    · rw [if_neg h0]
      by_cases h1 : rd l (i : Int) > 44
      · rw [if_pos h1,show decide (0≤rd l (i : Int)∧rd l (i : Int)≤44)=false by simp;omega]
        simp
      · rw [if_neg h1,i64w (by omega) (by omega),show decide (0≤rd l (i : Int)∧rd l (i : Int)≤44)=true by simp;omega,Bool.true_and]
        exact right_l0 l hl d (i+1) k (by omega) (by omega)
theorem right_ok (l : List Int) (hl : l.length≤9000) (k : Nat) (hk : l.length < k) : gain_Right.f k l=some (rt l):=right_l0 l hl l.length 0 k (by omega) hk
theorem refRight_l0 (l : List Int) (hl : l.length≤9000) : ∀ (d i k : Nat) (ok : Bool),i+d=l.length→d < k→psalteryref11_Right.l0 k l ok (i : Int)=some (ok && (l.drop i).all (fun x=>decide (0≤x∧x≤44)))
  | 0,i,k,ok,hi,hk=>by
    obtain ⟨k,rfl⟩ : ∃ m,k=m+1:=⟨k - 1,by omega⟩
    simp only [psalteryref11_Right.l0]
    rw [if_neg (by omega),List.drop_eq_nil_of_le (by omega)]
    simp
  | d+1,i,k,ok,hi,hk=>by
    obtain ⟨k,rfl⟩ : ∃ m,k=m+1:=⟨k - 1,by omega⟩
    have ih:=fun ok=>refRight_l0 l hl d (i+1) k ok (by omega) (by omega)
    simp only [psalteryref11_Right.l0]
    rw [if_pos (by omega),drop_rd l i (by omega),List.all_cons,i64w (x:=(i : Int)+1) (by omega) (by omega)]
    cases ok with
    | false=>rw [if_neg (by simp)];exact (ih false).trans (by simp)
    | true =>
      rw [if_pos rfl,if_pos (by omega)]
      by_cases h0 : rd l (i : Int) ≥ 0
      · rw [if_pos h0]
        refine (ih _).trans ?_
        rw [show decide (0≤rd l (i : Int)∧rd l (i : Int)≤44)=decide (rd l (i : Int)≤44) from decide_eq_decide.2 ⟨fun h=>h.2,fun h=>⟨h0,h⟩⟩,Bool.true_and]
      · rw [if_neg h0,show decide (0≤rd l (i : Int)∧rd l (i : Int)≤44)=false by simp;omega]
        exact (ih false).trans (by simp)
theorem refRight_ok (l : List Int) (hl : l.length≤9000) (k : Nat) (hk : l.length < k) : psalteryref11_Right.f k l=some (rt l):=by
  unfold psalteryref11_Right.f
  rw [show (0 : Int)=((0 : Nat) : Int) from rfl,refRight_l0 l hl l.length 0 k _ (by omega) hk]
  rfl
end Go.Proofs.Ytifkhfnmbiefaaa.Gan
/- Gains put: what the program and the document put, step by step. -/
namespace Go.Proofs.Ytifkhfnmbiefaaa.Gan
open Go.RowKit Go.Proofs.YtifkhfnmbiefaaaW.PrintWords Go.Proofs.YtifkhfnmbiefaaaW.PrintMore Go.Proofs.Ytifkhfnmbiefaaa.Prt Go.Proofs.Ytifkhfnmbiefaaa.Val Go.Proofs.Ytifkhfnmbiefaaa.Cod
set_option linter.unusedVariables false
end Go.Proofs.Ytifkhfnmbiefaaa.Gan
/- What is written: the program's bytes are the document's. -/
namespace Go.Proofs.Ytifkhfnmbiefaaa.Pak
open Go Go.RowKit Go.Proofs.YtifkhfnmbiefaaaW.PrintWords Go.Proofs.Ytifkhfnmbiefaaa.Prt Go.Proofs.Ytifkhfnmbiefaaa.Alo
set_option linter.unusedVariables false
set_option linter.unusedSimpArgs false
open Go.Proofs.Ytifkhfnmbiefaaa.Cod (EOk)
open Go.Proofs.Ytifkhfnmbiefaaa.Val (Bytes four)
variable {V K : Nat→Nat→Int}
def gainsB (b : Int) (A : List (List Int)) : Bool:=decide ((A.length : Int)=b) && A.all Gan.rt
theorem all_step {A : List (List Int)} {i : Nat} (h : i < A.length) : (A.drop i).all Gan.rt=(Gan.rt (rd_L2 A (i : Int)) && (A.drop (i+1)).all Gan.rt):=by
  have : rd_L2 A (i : Int)=A[i]:=by
    unfold rd_L2
    rw [List.getD_eq_getElem?_getD,Int.toNat_natCast,List.getElem?_eq_getElem h]
    rfl
  rw [List.drop_eq_getElem_cons h,List.all_cons,this]
theorem gains_l0 {A : List (List Int)} {b : Int} (hA : A.length≤100) (ha : ∀ g ∈ A,g.length≤100) : ∀ (d i q : Nat),i+d=A.length→200≤q →
    cpack_gains.l0 (q+d+1) b A A (A.length : Int) (i : Int)=some ((A.drop i).all Gan.rt && ((A.length : Int) == b))∧psalteryref12_Fair.l0 (q+d+1) A (i : Int)=some ((A.drop i).all Gan.rt)
  | 0,i,q,h,hq=>by
    rw [cpack_gains.l0,if_neg (by omega),psalteryref12_Fair.l0,if_neg (by omega),List.drop_eq_nil_of_le (by omega)]
    exact ⟨rfl,rfl⟩
  | d+1,i,q,h,hq=>by
    have hm:=ha _ (rdl_mem (show i < A.length by omega))
    obtain ⟨e1,e2⟩:=gains_l0 (b:=b) hA ha d (i+1) q (by omega) hq
    constructor
    · rw [show q+(d+1)+1=(q+d+1)+1 by omega,cpack_gains.l0,if_pos (by omega),if_pos (by omega),if_pos (by omega),Gan.right_ok _ (by omega) _ (by omega),Option.bind_some,all_step (by omega),w64 (x:=(i : Int)+1) (by omega) (by omega),show (i : Int)+1=((i+1 : Nat) : Int) by omega]
      cases hr : Gan.rt (rd_L2 A (i : Int)) with
      | false=>rw [if_neg (by simp)];rfl
      | true=>rw [if_pos rfl,Bool.true_and];exact e1
    · rw [show q+(d+1)+1=(q+d+1)+1 by omega,psalteryref12_Fair.l0,if_pos (by omega),if_pos (by omega),Gan.refRight_ok _ (by omega) _ (by omega),Option.bind_some,all_step (by omega),w64 (x:=(i : Int)+1) (by omega) (by omega),show (i : Int)+1=((i+1 : Nat) : Int) by omega]
      cases hr : Gan.rt (rd_L2 A (i : Int)) with
      | false=>rw [if_neg (by simp)];rfl
      | true=>rw [if_pos rfl,Bool.true_and];exact e2
theorem gains_f {A : List (List Int)} (b : Int) (hA : A.length≤100) (ha : ∀ g ∈ A,g.length≤100) {q : Nat} (hq : 400≤q) : cpack_gains.f q b A=some (gainsB b A)∧psalteryref12_Fair.f q b A=some (gainsB b A):=by
  obtain ⟨r,rfl⟩ : ∃ r,q=r+A.length+1:=⟨q - A.length - 1,by omega⟩
  obtain ⟨e1,e2⟩:=gains_l0 (b:=b) hA ha A.length 0 r (by omega) (by omega)
  unfold cpack_gains.f psalteryref12_Fair.f gainsB
  rw [show (0 : Int)=((0 : Nat) : Int) from rfl,e1,e2,List.drop_zero]
  by_cases hl : (A.length : Int)=b
  · rw [if_pos hl,decide_eq_true hl,Bool.true_and,hl,beq_self_eq_true,Bool.and_true];exact ⟨rfl,rfl⟩
  · rw [if_neg hl,decide_eq_false hl,Bool.false_and,beq_eq_false_iff_ne.mpr hl,Bool.and_false];exact ⟨rfl,rfl⟩
end Go.Proofs.Ytifkhfnmbiefaaa.Pak
/- Frames encoded: the pack that the program and the document make of a frame. -/
namespace Go.Proofs.Ytifkhfnmbiefaaa.Ton
open Go Go.RowKit Go.Proofs.YtifkhfnmbiefaaaW.PrintWords Go.Proofs.YtifkhfnmbiefaaaW.PrintMore Go.Proofs.Ytifkhfnmbiefaaa.Prt Go.Proofs.Ytifkhfnmbiefaaa.Com Go.Proofs.Ytifkhfnmbiefaaa.Pvq Go.Proofs.Ytifkhfnmbiefaaa.PvqN
set_option linter.unusedVariables false
set_option linter.unusedSimpArgs false
open Go.Proofs.Ytifkhfnmbiefaaa.Alo (W)
theorem rd2_at {l : List (List Int)} {i : Nat} (h : i < l.length) : rd_L2 l (i : Int)=l[i]:=by
  unfold rd_L2
  rw [List.getD_eq_getElem?_getD,Int.toNat_natCast,List.getElem?_eq_getElem h]
  rfl
theorem rd4_at {l : List (List (List Int))} {i : Nat} (h : i < l.length) : rd_L4 l (i : Int)=l[i]:=by
  unfold rd_L4
  rw [List.getD_eq_getElem?_getD,Int.toNat_natCast,List.getElem?_eq_getElem h]
  rfl
def Gs (l : List (List Int)) (n : Nat) : List (List Int):=(List.range n).map fun i : Nat=>gns (rd_L1 l (i : Int)) 5
theorem Gs_succ (l : List (List Int)) (n : Nat) : Gs l (n+1)=Gs l n ++ [gns (rd_L1 l (n : Int)) 5]:=by simp [Gs,List.range_succ]
theorem Gs_len (l : List (List Int)) (n : Nat) : (Gs l n).length=n:=by simp [Gs]
theorem Gs_rd (l : List (List Int)) {n i : Nat} (h : i < n) : rd_L2 (Gs l n) (i : Int)=gns (rd_L1 l (i : Int)) 5:=by
  rw [rd2_at (by rw [Gs_len];exact h)]
  simp [Gs]
def Pk (l out : List (List Int)) (i b : Nat) : List Int:=sg (Bd (rd_L1 l (i : Int)) b) (Ps (Bd (rd_L1 l (i : Int)) b) (rd (rd_L2 out (i : Int)) (b : Int)).toNat)
def Yr (l out : List (List Int)) (i n : Nat) : List (List Int):=(List.range n).map (Pk l out i)
theorem Yr_succ (l out : List (List Int)) (i n : Nat) : Yr l out i (n+1)=Yr l out i n ++ [Pk l out i n]:=by simp [Yr,List.range_succ]
theorem Yr_len (l out : List (List Int)) (i n : Nat) : (Yr l out i n).length=n:=by simp [Yr]
theorem Yr_rd (l out : List (List Int)) {i n b : Nat} (h : b < n) : rd_L2 (Yr l out i n) (b : Int)=Pk l out i b:=by
  rw [rd2_at (by rw [Yr_len];exact h)]
  simp [Yr]
def Ys (l out : List (List Int)) (n : Nat) : List (List (List Int)):=(List.range n).map fun i : Nat=>Yr l out i 5
theorem Ys_succ (l out : List (List Int)) (n : Nat) : Ys l out (n+1)=Ys l out n ++ [Yr l out n 5]:=by simp [Ys,List.range_succ]
theorem Ys_len (l out : List (List Int)) (n : Nat) : (Ys l out n).length=n:=by simp [Ys]
theorem Ys_rd (l out : List (List Int)) {n i : Nat} (h : i < n) : rd_L4 (Ys l out n) (i : Int)=Yr l out i 5:=by
  rw [rd4_at (by rw [Ys_len];exact h)]
  simp [Ys]
theorem Rt.f {a b : Int} {l : List (List Int)} (h : Rt a b l) {i : Nat} (hi : i < l.length) : F16 (rd_L1 l (i : Int)):=by
  rw [rd1_mem hi]
  exact h.2.2 _ (List.getElem_mem hi)
theorem Rt.n {a b : Int} {l : List (List Int)} (h : Rt a b l) : l.length≤2:=by
  have h1:=Alo.right_iff.1 h.1
  have h2:=h.2.1
  omega
theorem Gs_rt {a b : Int} {l : List (List Int)} (h : Rt a b l) : ∀ g ∈ Gs l l.length,Alo.rt g=true:=fun g hg=>by
  obtain ⟨i,hi,rfl⟩:=List.mem_map.1 hg
  exact gns_rt (h.f (List.mem_range.1 hi))
theorem Gs_five {a b : Int} {l : List (List Int)} (h : Rt a b l) : ∀ g ∈ Gs l l.length,g.length=5:=fun g hg=>by
  obtain ⟨i,hi,rfl⟩:=List.mem_map.1 hg
  exact gns_len _ _
structure Out (K : Nat→Nat→Int) (a b : Int) (l out : List (List Int)) : Prop where
  o : out.length=l.length
  c : ∀ j : Nat,j < l.length→Alo.Chan K (gns (rd_L1 l (j : Int)) 5) (Alo.room a b) Alo.Z5 (rd_L2 out (j : Int))
  p : ∀ q,7000≤q→alloc_Pulses.f q a b (Gs l l.length)=some (out,0)
  r : ∀ q,7000≤q→psalteryref12_Pulses.f q a b (Gs l l.length)=some out
  f : ∀ q,7000≤q→psalteryref12_Fair.f q b (Gs l l.length)=some true
theorem out_ex {K : Nat→Nat→Int} (C : Cst K) {a b : Int} {l : List (List Int)} (h : Rt a b l) : ∃ out,Out K a b l out:=by
  have hn:=h.n
  have hf:=(Pak.gains_f b (A:=Gs l l.length) (by rw [Gs_len];omega) (fun g hg=>by rw [Gs_five h g hg];omega) (q:=7000) (by omega)).2
  have hB : Pak.gainsB b (Gs l l.length)=true:=by
    unfold Pak.gainsB
    rw [Gs_len,decide_eq_true h.2.1,Bool.true_and]
    exact List.all_eq_true.2 (Gs_rt h)
  rw [hB] at hf
  rcases Alo.pulses C a b (l2:=Gs l l.length) (by rw [Gs_len];omega) (fun g hg=>by rw [Gs_five h g hg];omega) with ⟨_,_,out,ho,hc,p1,p2,p3⟩ | ⟨_,p|p⟩
  · rw [Gs_len] at ho hc
    exact ⟨out,ho,fun j hj=>by have:=hc j hj;rw [Gs_rd l hj] at this;exact this,p1,p2,p3⟩
  · rw [h.1] at p;cases p
  · rw [p 7000 (Nat.le_refl _)] at hf;cases hf
theorem Out.k {K : Nat→Nat→Int} {a b : Int} {l out : List (List Int)} (o : Out K a b l out) {i b' : Nat} (hi : i < l.length) (hb : b' < 5) : 0≤rd (rd_L2 out (i : Int)) (b' : Int)∧rd (rd_L2 out (i : Int)) (b' : Int)≤12:=by
  have h:=(o.c i hi).ks.2 b' hb
  have:=Alo.mst_in b'
  omega
theorem enc_l2 {K : Nat→Nat→Int} {a b : Int} {l out : List (List Int)} (h : Rt a b l) (o : Out K a b l out) {i : Nat} (hi : i < l.length) (I : Bool) (G : List (List Int)) {res : Bool × List (List Int) × List (List (List Int)) × Int}
    (hr : Ev (fun k=>ccodec_Encode.l1 k out l (l.length : Int) ((i+1 : Nat) : Int) I G (Ys l out (i+1))) res) :
    ∀ (d n : Nat),n+d=5→Ev (fun k=>ccodec_Encode.l2 k out (i : Int) (Yr l out i n) l (l.length : Int) (i : Int) (bds (rd_L1 l (i : Int)) 5) 5 (n : Int) I G (Ys l out i)) res
  | 0,n,e=>by
    obtain rfl : n=5:=by omega
    have hn:=h.n
    refine Ev.step (fun k => ?_) hr
    rw [ccodec_Encode.l2,if_neg (by omega),if_pos (by rw [Ys_len];omega),w_succ hi (by omega),Ys_succ]
  | d+1,n,e=>by
    have hn:=h.n
    have hb : n < 5:=by omega
    have hk:=o.k hi hb
    have hx:=h.f hi
    have hl:=(o.c i hi).ks.1
    have hs:=search_ok (Bd_fr hx hb) (K:=(rd (rd_L2 out (i : Int)) (n : Int)).toNat) (by omega)
    rw [Int.toNat_of_nonneg hk.1] at hs
    have ho:=o.o
    refine Ev.step (f:=fun k=>(pvq_Search.f k (Bd (rd_L1 l (i : Int)) n) (rd (rd_L2 out (i : Int)) (n : Int))).bind fun bt=>if (Yr l out i n).length < 5864062014805 then ccodec_Encode.l2 k out (i : Int) (Yr l out i n ++ [bt.1]) l (l.length : Int) (i : Int) (bds (rd_L1 l (i : Int)) 5) 5 (wrap64 ((n : Int)+1)) I G (Ys l out i) else none) (fun k => ?_) (Ev.bind hs (Ev.congr (fun k => ?_) (enc_l2 h o hi I G hr d (n+1) (by omega))))
    · rw [ccodec_Encode.l2,if_pos (by omega),if_pos (by omega),if_pos (by rw [bds_len];omega),if_pos (by omega),if_pos (by omega),if_pos (by omega),bds_rd _ hb]
    · rw [if_pos (by rw [Yr_len];omega),Yr_succ,w_succ (n:=5) hb (by omega)]
      rfl
theorem enc_l1 {K : Nat→Nat→Int} {a b : Int} {l out : List (List Int)} (h : Rt a b l) (o : Out K a b l out) (I : Bool) (G : List (List Int)) : ∀ (d i : Nat),i+d=l.length→Ev (fun k=>ccodec_Encode.l1 k out l (l.length : Int) (i : Int) I G (Ys l out i)) (I,G,Ys l out l.length,0)
  | 0,i,e=>by
    obtain rfl : i=l.length:=by omega
    exact Ev.step (fun k=>by rw [ccodec_Encode.l1,if_neg (by omega)]) (Ev.now _)
  | d+1,i,e=>by
    have hi : i < l.length:=by omega
    refine Ev.step (f:=fun k=>(band_Split.f k (rd_L1 l (i : Int))).bind fun bt=>ccodec_Encode.l2 k out (i : Int) [] l (l.length : Int) (i : Int) bt.1 (bt.1.length : Int) 0 I G (Ys l out i)) (fun k => ?_) (Ev.bind (split_ok (h.f hi)) (Ev.congr (fun k => ?_) (enc_l2 h o hi I G (enc_l1 h o I G d (i+1) (by omega)) 5 0 (by omega))))
    · rw [ccodec_Encode.l1,if_pos (by omega),if_pos (by omega),if_pos (by omega)]
    · rw [bds_len]
      rfl
theorem enc_l0 {K : Nat→Nat→Int} {a b : Int} {l out : List (List Int)} (h : Rt a b l) (o : Out K a b l out) (I : Bool) : ∀ (d i : Nat),i+d=l.length→Ev (fun k=>ccodec_Encode.l0 k a b l (l.length : Int) (i : Int) l I (Gs l i)) (I,Gs l l.length,Ys l out l.length,0)
  | 0,i,e=>by
    obtain rfl : i=l.length:=by omega
    refine Ev.step (f:=fun k=>(alloc_Pulses.f k a b (Gs l l.length)).bind fun bt=>ccodec_Encode.l1 k bt.1 l (l.length : Int) 0 I (Gs l l.length) []) (fun k=>by rw [ccodec_Encode.l0,if_neg (by omega)]) (Ev.bind ⟨7000,o.p⟩ ?_)
    exact enc_l1 h o I _ l.length 0 (by omega)
  | d+1,i,e=>by
    have hi : i < l.length:=by omega
    have hn:=h.n
    refine Ev.step (f:=fun k=>(band_Gains.f k (rd_L1 l (i : Int))).bind fun bt=>if (Gs l i).length < 5864062014805 then ccodec_Encode.l0 k a b l (l.length : Int) (wrap64 ((i : Int)+1)) l I (Gs l i ++ [bt.1]) else none) (fun k => ?_) (Ev.bind (gains_ok (h.f hi)) (Ev.congr (fun k => ?_) (enc_l0 h o I d (i+1) (by omega))))
    · rw [ccodec_Encode.l0,if_pos (by omega),if_pos (by omega),if_pos (by omega)]
    · rw [if_pos (by rw [Gs_len];omega),Gs_succ,w_succ hi (by omega)]
theorem enc_ok {K : Nat→Nat→Int} {a b : Int} {l out : List (List Int)} (h : Rt a b l) (o : Out K a b l out) (I : Bool) : Ev (fun k=>ccodec_Encode.f k a b l I) (I,Gs l l.length,Ys l out l.length,0):=by
  have hn:=h.n
  have hr:=right_e a b (l:=l) (by omega) (fun x hx=>by have:=(h.2.2 x hx).1;omega)
  rw [decide_eq_true h] at hr
  refine Ev.bind hr (Ev.congr (fun k=>by rw [if_pos rfl]) ?_)
  exact enc_l0 h o I l.length 0 (by omega)
theorem enc_bad {a b : Int} {l : List (List Int)} (hl : l.length≤10) (hx : ∀ x ∈ l,x.length≤100) (h : ¬ Rt a b l) (I : Bool) : Ev (fun k=>ccodec_Encode.f k a b l I) (false, [], [],1):=by
  have hr:=right_e a b hl hx
  rw [decide_eq_false h] at hr
  exact Ev.bind hr (Ev.congr (fun k=>by rw [if_neg (by decide)]) (Ev.now _))
theorem great_l0 {l : List (List Int)} (hl : l.length≤9223372036854775807) : ∀ (d i : Nat),i+d=l.length→∃ v,Ev (fun k=>psalterylaw23_great.l0 k (i : Int) l) v∧(v=false→l.length≤10∧∀ x ∈ l.drop i,x.length≤100)
  | 0,i,e=>by
    refine ⟨decide ((l.length : Int) > 10),Ev.step (fun k=>by rw [psalterylaw23_great.l0,if_neg (by omega)]) (Ev.now _),fun h => ?_⟩
    have:=of_decide_eq_false h
    rw [dropE (by omega)]
    exact ⟨by omega,by simp⟩
  | d+1,i,e=>by
    have hi : i < l.length:=by omega
    obtain ⟨v,h1,h2⟩:=great_l0 hl d (i+1) (by omega)
    by_cases hx : ((l[i]).length : Int) > 100
    · exact ⟨true,Ev.step (fun k=>by rw [psalterylaw23_great.l0,if_pos (by omega),if_pos (by omega),rd1_mem hi,if_pos hx]) (Ev.now _),fun h=>by cases h⟩
    · refine ⟨v,Ev.step (fun k => ?_) h1,fun h => ?_⟩
      · rw [psalterylaw23_great.l0,if_pos (by omega),if_pos (by omega),rd1_mem hi,if_neg hx,w64 (by omega) (by omega)]
        rfl
      · obtain ⟨h3,h4⟩:=h2 h
        rw [dropA hi]
        exact ⟨h3,List.forall_mem_cons.2 ⟨by omega,h4⟩⟩
theorem great_f {l : List (List Int)} (hl : l.length≤9223372036854775807) : ∃ v,Ev (fun k=>psalterylaw23_great.f k l) v∧(v=false→l.length≤10∧∀ x ∈ l,x.length≤100):=by
  obtain ⟨v,h1,h2⟩:=great_l0 hl l.length 0 (by omega)
  exact ⟨v,h1,h2⟩
theorem knows_e : Ev (fun k=>psalterylaw23_knows.f k) true:=Ev.of psalterylaw23_knows.mono (k:=700) (by decide +kernel)
theorem knows_j : Ev (fun k=>(psalterylaw23_knows.f k).bind fun t=>some t) true:=Ev.bind knows_e (Ev.now _)
theorem Ys_sz (l out : List (List Int)) {n : Nat} (hn : n≤l.length) (h : ∀ x ∈ l,F16 x) : ∀ r ∈ Ys l out n,r.length=5∧∀ x ∈ r,1≤x.length∧x.length≤8:=fun r hr=>by
  obtain ⟨i,hi,rfl⟩:=List.mem_map.1 hr
  have hi:=List.mem_range.1 hi
  refine ⟨Yr_len _ _ _ _,fun x hx => ?_⟩
  obtain ⟨b,hb,rfl⟩:=List.mem_map.1 hx
  have hb:=List.mem_range.1 hb
  have hf : F16 (rd_L1 l (i : Int)):=by rw [rd1_mem (by omega)];exact h _ (List.getElem_mem _)
  unfold Pk
  rw [sg_len (Ps_len (Bd_fr hf hb) _),Bd_len hf.1 hb]
  exact Alo.W_in hb
end Go.Proofs.Ytifkhfnmbiefaaa.Ton
/- Packs decoded: the frame that the program and the document make of a pack. -/
namespace Go.Proofs.Ytifkhfnmbiefaaa.Ton
open Go Go.RowKit Go.Proofs.YtifkhfnmbiefaaaW.PrintWords Go.Proofs.YtifkhfnmbiefaaaW.PrintMore Go.Proofs.Ytifkhfnmbiefaaa.Prt Go.Proofs.Ytifkhfnmbiefaaa.Com Go.Proofs.Ytifkhfnmbiefaaa.Pvq Go.Proofs.Ytifkhfnmbiefaaa.PvqN
set_option linter.unusedVariables false
set_option linter.unusedSimpArgs false
open Go.Proofs.Ytifkhfnmbiefaaa.Alo (W)
def VL : List Int := [0,1,1,2,2,4,5,8,11,16,22,32,45,64,90,128,181,256,362,512,724,1024,1448,2048,2896,4096,5792,8192,11585,16384,23170,32768,46340,65536,92681,131072,185363,262144,370727,524288,741455,1048576,1482910,2097152,2965820]
def Vl (g : Nat) : Int:=VL.getD g 0
theorem value_p : ∀ g : Fin 45,band_Value.f 60 (g.1 : Int)=some (Vl g.1):=by decide +kernel
theorem value_r : ∀ g : Fin 45,psalteryref10_Value.f 200 (g.1 : Int)=some (Vl g.1):=by decide +kernel
theorem Vl_in : ∀ g : Fin 45,0≤Vl g.1∧Vl g.1≤2965820:=by decide +kernel
theorem value_e {g : Int} (h0 : 0≤g) (h1 : g≤44) : Ev (fun k=>band_Value.f k g) (Vl g.toNat):=by
  have:=Ev.of (band_Value.mono _) (value_p ⟨g.toNat,by omega⟩)
  rwa [show ((g.toNat : Nat) : Int)=g by omega] at this
theorem rvalue_e {g : Int} (h0 : 0≤g) (h1 : g≤44) : Ev (fun k=>psalteryref10_Value.f k g) (Vl g.toNat):=by
  have:=Ev.of (psalteryref10_Value.mono _) (value_r ⟨g.toNat,by omega⟩)
  rwa [show ((g.toNat : Nat) : Int)=g by omega] at this
theorem vl_in {g : Int} (h0 : 0≤g) (h1 : g≤44) : 0≤Vl g.toNat∧Vl g.toNat≤2965820:=Vl_in ⟨g.toNat,by omega⟩
def clp (v : Int) : Int:=if v < -1048576 then -1048576 else if v > 1048576 then 1048576 else v
theorem clp_in (v : Int) : In (clp v):=by unfold In clp;split <;> (try split) <;> omega
theorem clamp_p (v : Int) : num_Clamp.f v (-1048576) 1048576=some (clp v):=by unfold num_Clamp.f clp;split <;> (try split) <;> rfl
theorem clamp_r (v : Int) : psalteryref03_Clamp.f v (-1048576) 1048576=some (clp v):=by unfold psalteryref03_Clamp.f clp;split <;> (try split) <;> rfl
theorem set_mid {y : List Int} {f : Int→Int} {i : Nat} (hi : i < y.length) : ((y.take i).map f ++ y.drop i).set i (f y[i])=(y.take (i+1)).map f ++ y.drop (i+1):=by
  have hl : ((y.take i).map f).length=i:=by rw [List.length_map,List.length_take];omega
  rw [List.set_append_right _ _ (by omega),hl,Nat.sub_self,dropA hi,List.set_cons_zero,List.take_succ_eq_append_getElem hi,List.map_append,List.append_assoc]
  rfl
theorem mid_at {y : List Int} {f : Int→Int} {i : Nat} (hi : i < y.length) : rd ((y.take i).map f ++ y.drop i) (i : Int)=y[i]:=by
  rw [rd_at (by simp;omega),List.getElem_append_right (by simp;omega)]
  simp [show min i y.length=i by omega]
theorem next_l1 {y : List Int} (hy : y.length≤1000) : ∀ (d i : Nat),i+d=y.length→Ev (fun k=>ccodec_next.l1 k ((y.take i).map clp ++ y.drop i) (y.length : Int) (i : Int)) (y.map clp)
  | 0,i,e=>by
    refine Ev.step (f:=fun _=>some (y.map clp)) (fun k => ?_) (Ev.now _)
    rw [ccodec_next.l1,if_neg (by omega),dropE (by omega),List.append_nil,List.take_of_length_le (by omega)]
  | d+1,i,e=>by
    have hi : i < y.length:=by omega
    refine Ev.step (fun k => ?_) (next_l1 hy d (i+1) (by omega))
    rw [ccodec_next.l1,if_pos (by omega),if_pos (by omega),if_pos (by simp;omega),mid_at hi,clamp_p,Option.bind_some,Int.toNat_natCast,set_mid hi,w_succ hi (by omega)]
theorem next_j2 {y : List Int} (hy : y.length≤1000) : Ev (fun k=>ccodec_next.j2 k y) (y.map clp):=by
  refine Ev.step (fun k=>by rw [ccodec_next.j2]) ?_
  have:=next_l1 hy y.length 0 (by omega)
  simpa using this
theorem rband_l1 {y : List Int} (hy : y.length≤1000) : ∀ (d i : Nat),i+d=y.length→Ev (fun k=>psalteryref23_Band.l1 k y ((y.take i).map clp) (i : Int)) (y.map clp)
  | 0,i,e=>by
    refine Ev.step (f:=fun _=>some (y.map clp)) (fun k => ?_) (Ev.now _)
    rw [psalteryref23_Band.l1,if_neg (by omega),List.take_of_length_le (by omega)]
  | d+1,i,e=>by
    have hi : i < y.length:=by omega
    refine Ev.step (fun k => ?_) (rband_l1 hy d (i+1) (by omega))
    rw [psalteryref23_Band.l1,if_pos (by omega),if_pos (by omega),rd_at hi,clamp_r,Option.bind_some,if_pos (by simp;omega),List.take_succ_eq_append_getElem hi,List.map_append,w_succ hi (by omega)]
    rfl
theorem rband_j2 {y : List Int} (hy : y.length≤1000) : Ev (fun k=>psalteryref23_Band.j2 k y) (y.map clp):=Ev.step (fun k=>by rw [psalteryref23_Band.j2];rfl) (rband_l1 hy y.length 0 (by omega))
theorem loud_l0 {y : List Int} (hy : y.length≤1000) : ∀ (d i : Nat),i+d=y.length→Ev (fun k=>ccodec_loud.l0 k y (y.length : Int) (i : Int)) (decide (0 < szs (y.drop i)))
  | 0,i,e=>by
    refine Ev.step (f:=fun _=>some (decide (0 < szs (y.drop i)))) (fun k => ?_) (Ev.now _)
    rw [ccodec_loud.l0,if_neg (by omega),dropE (by omega)]
    rfl
  | d+1,i,e=>by
    have hi : i < y.length:=by omega
    have h1:=sz_in y[i]
    have h2:=szs_in (y.drop (i+1))
    by_cases h0 : y[i]=0
    · have hz : sz y[i]=0:=by rw [h0];decide
      rw [show decide (0 < szs (y.drop i))=decide (0 < szs (y.drop (i+1))) from decide_eq_decide.2 (by rw [dropA hi,szs];omega)]
      refine Ev.step (fun k => ?_) (loud_l0 hy d (i+1) (by omega))
      rw [ccodec_loud.l0,if_pos (by omega),if_pos (by omega),if_pos (by omega),rd_at hi,if_pos h0,w_succ hi (by omega)]
    · have hz : 0 < sz y[i]:=by unfold sz;split <;> (try split) <;> omega
      rw [decide_eq_true (show 0 < szs (y.drop i) by rw [dropA hi,szs];omega)]
      exact Ev.step (fun k=>by rw [ccodec_loud.l0,if_pos (by omega),if_pos (by omega),if_pos (by omega),rd_at hi,if_neg h0]) (Ev.now _)
theorem loud_e {y : List Int} (hy : y.length≤1000) : Ev (fun k=>ccodec_loud.f k y) (decide (0 < szs y)):=loud_l0 hy y.length 0 (by omega)
theorem rpulses_e {y : List Int} (hy : y.length≤1000) : Ev (fun k=>psalteryref06_Pulses.f k y) (szs y):=⟨y.length+21,fun k hk=>refPulses_f hy hk⟩
def tst (ahead : List Int) (z : Int) (i : Nat) : Int:=if rd ahead (Int.tmod (i : Int) (ahead.length : Int)) < 0 then -z else z
def flr (ahead : List Int) (z : Int) (n : Nat) : List Int:=(List.range n).map (tst ahead z)
theorem flr_succ (ahead : List Int) (z : Int) (n : Nat) : flr ahead z (n+1)=flr ahead z n ++ [tst ahead z n]:=by simp [flr,List.range_succ]
theorem flr_len (ahead : List Int) (z : Int) (n : Nat) : (flr ahead z n).length=n:=by simp [flr]
theorem tm_in {i n : Nat} (hn : 0 < n) : 0≤Int.tmod (i : Int) (n : Int)∧Int.tmod (i : Int) (n : Int) < (n : Int):=⟨Int.tmod_nonneg _ (by omega),Int.tmod_lt_of_pos _ (by omega)⟩
theorem flr_set {ahead : List Int} {z : Int} {i n : Nat} (hi : i < n) (v : Int) : (flr ahead z i ++ List.replicate (n - i) 0).set i v=flr ahead z i ++ v :: List.replicate (n - (i+1)) 0:=by
  rw [List.set_append_right _ _ (by rw [flr_len];omega),flr_len,Nat.sub_self,show n - i=(n - (i+1))+1 by omega,List.replicate_succ,List.set_cons_zero]
theorem next_l0 {ahead : List Int} {z : Int} {n : Nat} (hz : -4611686018427387904≤z∧z≤4611686018427387904) (hn : n≤100) (ha : 0 < ahead.length) (ha2 : ahead.length≤1000) {r : List Int} (hr : Ev (fun k=>ccodec_next.j2 k (flr ahead z n)) r) : ∀ (d i : Nat),i+d=n→Ev (fun k=>ccodec_next.l0 k ahead (flr ahead z i ++ List.replicate (n - i) 0) z (n : Int) (i : Int)) r
  | 0,i,e=>by
    obtain rfl : i=n:=by omega
    refine Ev.step (fun k => ?_) hr
    rw [ccodec_next.l0,if_neg (by omega),Nat.sub_self,List.replicate_zero,List.append_nil]
  | d+1,i,e=>by
    have ht:=tm_in (i:=i) ha
    refine Ev.step (fun k => ?_) (next_l0 hz hn ha ha2 hr d (i+1) (by omega))
    rw [ccodec_next.l0,if_pos (by omega),if_pos (by omega),if_pos (by simp [flr_len];omega),Int.toNat_natCast,flr_set (by omega),Option.bind_some,if_neg (by omega),if_pos ht.1,if_pos ht.2,w_succ (n:=n) (by omega) (by omega),flr_succ,List.append_assoc,List.singleton_append]
    unfold tst
    by_cases h : rd ahead (Int.tmod (i : Int) (ahead.length : Int)) < 0
    · rw [if_pos h,if_pos h,List.set_append_right _ _ (by rw [flr_len];omega),flr_len,Nat.sub_self,List.set_cons_zero,w64 (by omega) (by omega)]
    · rw [if_neg h,if_neg h]
theorem rdn_in {a b : Int} (ha : 0≤a) (hb : 1≤b) : 0≤rdn a b∧rdn a b≤a+1:=by
  have q0 : 0≤a / b:=Int.ediv_nonneg ha (by omega)
  have q1 : a / b≤a:=Int.ediv_le_self _ ha
  unfold rdn
  split <;> omega
theorem rquiet_l0 {y ahead : List Int} {r s z : Int} (hy : y.length≤100) (ha : 0 < ahead.length) (ha2 : ahead.length≤1000) (hr0 : 0 < r) (hr1 : r≤4194304) (hs0 : 1≤s) (hs1 : s < 4294967296)
    (hs : Ev (fun k=>psalteryref03_Sqrt.f k (65536 * (y.length : Int))) s) (hz : z=rdn (r * 256) s) {res : List Int} (hr : Ev (fun k=>psalteryref23_Band.j2 k (flr ahead z y.length)) res) : ∀ (d i : Nat),i+d=y.length→Ev (fun k=>psalteryref23_Band.l0 k y ahead r (flr ahead z i) (i : Int)) res
  | 0,i,e=>by
    obtain rfl : i=y.length:=by omega
    refine Ev.step (fun k => ?_) hr
    rw [psalteryref23_Band.l0,if_neg (by omega)]
  | d+1,i,e=>by
    have ht:=tm_in (i:=i) ha
    have hzb:=rdn_in (a:=r * 256) (b:=s) (by omega) hs0
    refine Ev.step (f:=fun k=>psalteryref23_Band.j1 k y ahead r (flr ahead z i) (i : Int) 0 true) (fun k=>by rw [psalteryref23_Band.l0,if_pos (by omega),if_pos (by omega),decide_eq_true (by omega)]) ?_
    refine Ev.step (f:=fun k=>(psalteryref03_Sqrt.f k (65536 * (y.length : Int))).bind fun t=>(psalteryref03_Div.f k (r * 256) (wrap64 t)).bind fun u=>if (ahead.length : Int)=0 then none else if 0≤Int.tmod (i : Int) (ahead.length : Int) then if Int.tmod (i : Int) (ahead.length : Int) < (ahead.length : Int) then if rd ahead (Int.tmod (i : Int) (ahead.length : Int)) < 0 then if (flr ahead z i).length < 17592186044416 then psalteryref23_Band.l0 k y ahead r (flr ahead z i ++ [wrap64 (-u)]) (wrap64 ((i : Int)+1)) else none else if (flr ahead z i).length < 17592186044416 then psalteryref23_Band.l0 k y ahead r (flr ahead z i ++ [u]) (wrap64 ((i : Int)+1)) else none else none else none) (fun k => ?_) ?_
    · rw [psalteryref23_Band.j1,if_pos rfl,w64 (x:=65536 * (y.length : Int)) (by omega) (by omega),u64 (by omega) (by omega),w64 (x:=256 * r) (by omega) (by omega),Int.mul_comm 256 r]
    · refine Ev.bind hs (Ev.congr (fun k=>by rw [w64 (x:=s) (by omega) (by omega)]) (Ev.bind (rdiv_f (a:=r * 256) (b:=s) (by omega) (by omega) hs0 (by omega)) (Ev.congr (fun k => ?_) (rquiet_l0 hy ha ha2 hr0 hr1 hs0 hs1 hs hz hr d (i+1) (by omega)))))
      rw [if_neg (by omega),if_pos ht.1,if_pos ht.2,flr_succ,w_succ (n:=y.length) (by omega) (by omega), ← hz]
      unfold tst
      by_cases h : rd ahead (Int.tmod (i : Int) (ahead.length : Int)) < 0
      · rw [if_pos h,if_pos h,if_pos (by rw [flr_len];omega),w64 (by omega) (by omega)]
      · rw [if_neg h,if_neg h,if_pos (by rw [flr_len];omega)]
theorem rband_none {y ahead : List Int} {r : Int} (hy : y.length≤100) (h : ¬ (r > 0∧0 < ahead.length)) {res : List Int} (hr : Ev (fun k=>psalteryref23_Band.j2 k (List.replicate y.length 0)) res) : ∀ (d i : Nat),i+d=y.length→Ev (fun k=>psalteryref23_Band.l0 k y ahead r (List.replicate i 0) (i : Int)) res
  | 0,i,e=>by
    obtain rfl : i=y.length:=by omega
    refine Ev.step (fun k => ?_) hr
    rw [psalteryref23_Band.l0,if_neg (by omega)]
  | d+1,i,e=>by
    refine Ev.step (f:=fun k=>psalteryref23_Band.j1 k y ahead r (List.replicate i 0) (i : Int) 0 false) (fun k => ?_) (Ev.step (fun k => ?_) (rband_none hy h hr d (i+1) (by omega)))
    · rw [psalteryref23_Band.l0,if_pos (by omega)]
      by_cases h0 : r > 0
      · rw [if_pos h0,decide_eq_false (by omega)]
      · rw [if_neg h0]
    · rw [psalteryref23_Band.j1,if_neg (by decide),if_pos (by simp;omega),w_succ (n:=y.length) (by omega) (by omega),List.replicate_succ']
theorem szs_pos : ∀ {y : List Int},szs y≤12→S2 y=0→szs y=0
  | [],_,_=>rfl
  | v :: l,h,h2=>by
    have h1:=sz_in v
    have h3:=szs_in l
    simp only [szs] at h
    have h4:=S2_nonneg l
    have h5:=sq_nonneg v
    simp only [S2] at h2
    have h6 : v * v=0:=by omega
    have h7 : v=0:=by rcases Int.mul_eq_zero.1 h6 with e|e <;> exact e
    simp only [szs]
    rw [szs_pos (y:=l) (by omega) (by omega),h7]
    decide
structure Nx (y : List Int) (g : Int) (ahead out : List Int) : Prop where
  p : Ev (fun k=>ccodec_next.f k y g ahead) out
  r : Ev (fun k=>psalteryref23_Band.f k y g ahead) out
  len : out.length=y.length
  inn : ∀ v ∈ out,In v
  loud : 0 < szs y→∃ N,256≤N∧N < 4294967296∧N * N≤65536 * S2 y∧65536 * S2 y < (N+1) * (N+1)∧out=(y.map (fun p=>dv (p * Vl g.toNat * 256) N)).map clp
  zero : szs y=0→g=0→out=List.replicate y.length 0
theorem clp_all {x : List Int} : ∀ v ∈ x.map clp,In v:=fun v hv=>by
  obtain ⟨u,_,rfl⟩:=List.mem_map.1 hv
  exact clp_in u
theorem clp_rep (n : Nat) : (List.replicate n (0 : Int)).map clp=List.replicate n 0:=by rw [List.map_replicate];rfl
theorem nx_ex {y ahead : List Int} {g : Int} (h : Pv y) (g0 : 0≤g) (g1 : g≤44) (ha : ahead.length≤1000) : ∃ out,Nx y g ahead out:=by
  have hv:=vl_in g0 g1
  have hl:=h.2.1
  have hl1:=h.1
  have start : ∀ {o : List Int},Ev (fun k=>(ccodec_loud.f k y).bind fun t313=>(if t313=true then ((pvq_Shape.f k y (Vl g.toNat)).bind fun bt314=>(ccodec_next.j2 k bt314.1)) else (if Vl g.toNat > 0 then (ccodec_next.j0 k y ahead (List.replicate y.length 0) (Vl g.toNat) (decide ((ahead.length : Int) > 0))) else (ccodec_next.j0 k y ahead (List.replicate y.length 0) (Vl g.toNat) false)))) o→Ev (fun k=>ccodec_next.f k y g ahead) o:=fun ho=>by
    refine Ev.congr (fun k=>by rw [ccodec_next.f,if_pos (by omega),Int.toNat_natCast,if_pos (by omega),Option.bind_some]) (Ev.bind (value_e g0 g1) ho)
  by_cases hs : 0 < szs y
  · have hS : 0 < S2 y:=by
      have:=S2_nonneg y
      by_cases e : S2 y=0
      · have:=szs_pos h.2.2 e;omega
      · omega
    obtain ⟨N,n1,n2,n3,n4,p1,p2⟩:=shape_some h hv.1 (show Vl g.toNat≤4194304 by omega) hS
    refine ⟨_,⟨start ?_, ?_, ?_,clp_all,fun _=>⟨N,n1,n2,n3,n4,rfl⟩,fun e=>by omega⟩⟩
    · have hd:=loud_e (y:=y) (by omega)
      rw [decide_eq_true hs] at hd
      exact Ev.bind hd (Ev.congr (fun k=>by rw [if_pos rfl]) (Ev.bind p1 (next_j2 (y:=y.map (fun p=>dv (p * Vl g.toNat * 256) N)) (by rw [List.length_map];omega))))
    · exact Ev.bind (rvalue_e g0 g1) (Ev.bind (rpulses_e (by omega)) (Ev.congr (fun k=>by rw [if_pos hs]) (Ev.bind p2 (rband_j2 (y:=y.map (fun p=>dv (p * Vl g.toNat * 256) N)) (by rw [List.length_map];omega)))))
    · simp
  · have h0 : szs y=0:=by have:=szs_in y;omega
    have hd:=loud_e (y:=y) (by omega)
    rw [decide_eq_false hs] at hd
    by_cases hq : Vl g.toNat > 0∧0 < ahead.length
    · obtain ⟨s,s0,s1,s2,s3,e1,e2⟩:=root_ex (n:=65536 * (y.length : Int)) (by omega) (by omega)
      have hs1 : 1≤s:=by
        have : s≠0:=by
          rintro rfl
          omega
        omega
      have hzb:=rdn_in (a:=Vl g.toNat * 256) (b:=s) (by omega) hs1
      have hz0 : g≠0:=by
        rintro rfl
        exact absurd hq.1 (by decide)
      refine ⟨(flr ahead (rdn (Vl g.toNat * 256) s) y.length).map clp,⟨start ?_, ?_,by simp [flr_len],clp_all,fun e=>absurd e hs,fun _ e=>absurd e hz0⟩⟩
      · refine Ev.bind hd (Ev.congr (fun k=>by rw [if_neg (by decide),if_pos hq.1,decide_eq_true (by omega)]) (Ev.step (f:=fun k=>(num_Sqrt.f k (65536 * (y.length : Int))).bind fun t=>(num_Div.f (Vl g.toNat * 256) (wrap64 t)).bind fun bt=>ccodec_next.l0 k ahead (List.replicate y.length 0) bt.1 (y.length : Int) 0) (fun k => ?_) (Ev.bind e1 ?_)))
        · rw [ccodec_next.j0,if_pos rfl,u64 (x:=(y.length : Int)) (by omega) (by omega),u64 (x:=(y.length : Int) * 256) (by omega) (by omega),u64 (by omega) (by omega),w64 (x:=Vl g.toNat * 256) (by omega) (by omega),show (y.length : Int) * 256 * 256=65536 * (y.length : Int) by omega,List.length_replicate]
        · refine Ev.congr (f:=fun k=>ccodec_next.l0 k ahead (List.replicate y.length 0) (rdn (Vl g.toNat * 256) s) (y.length : Int) 0) (fun k => ?_) ?_
          · rw [w64 (x:=s) (by omega) (by omega),div_f (by omega) (by omega) hs1 (by omega),Option.bind_some]
            unfold dv
            rw [if_neg (by omega)]
          · exact next_l0 (z:=rdn (Vl g.toNat * 256) s) (n:=y.length) ⟨by omega,by omega⟩ (by omega) hq.2 ha (next_j2 (by simp [flr_len];omega)) y.length 0 (by omega)
      · refine Ev.bind (rvalue_e g0 g1) (Ev.bind (rpulses_e (by omega)) (Ev.congr (fun k=>by rw [if_neg (by omega)]) ?_))
        exact rquiet_l0 (z:=rdn (Vl g.toNat * 256) s) (by omega) hq.2 ha hq.1 (by omega) hs1 s1 e2 rfl (rband_j2 (by simp [flr_len];omega)) y.length 0 (by omega)
    · refine ⟨List.replicate y.length 0,⟨start ?_, ?_,by simp,fun v hv=>by rw [List.eq_of_mem_replicate hv];decide,fun e=>absurd e hs,fun _ _=>rfl⟩⟩
      · have hj:=next_j2 (y:=List.replicate y.length 0) (by simp;omega)
        rw [clp_rep] at hj
        have hj0 : Ev (fun k=>ccodec_next.j0 k y ahead (List.replicate y.length 0) (Vl g.toNat) false) (List.replicate y.length 0):=Ev.step (fun k=>by rw [ccodec_next.j0,if_neg (by decide)]) hj
        refine Ev.bind hd (Ev.congr (fun k => ?_) hj0)
        rw [if_neg (by decide)]
        by_cases h1 : Vl g.toNat > 0
        · rw [if_pos h1,decide_eq_false (by omega)]
        · rw [if_neg h1]
      · have hj:=rband_j2 (y:=List.replicate y.length 0) (by simp;omega)
        rw [clp_rep] at hj
        refine Ev.bind (rvalue_e g0 g1) (Ev.bind (rpulses_e (by omega)) (Ev.congr (fun k=>by rw [if_neg (by omega)]) ?_))
        exact rband_none (by omega) hq hj y.length 0 (by omega)
end Go.Proofs.Ytifkhfnmbiefaaa.Ton
/- Packs decoded, channel by channel. -/
namespace Go.Proofs.Ytifkhfnmbiefaaa.Ton
open Go Go.RowKit Go.Proofs.YtifkhfnmbiefaaaW.PrintWords Go.Proofs.YtifkhfnmbiefaaaW.PrintMore Go.Proofs.Ytifkhfnmbiefaaa.Prt Go.Proofs.Ytifkhfnmbiefaaa.Com Go.Proofs.Ytifkhfnmbiefaaa.Pvq Go.Proofs.Ytifkhfnmbiefaaa.PvqN
set_option linter.unusedVariables false
set_option linter.unusedSimpArgs false
open Go.Proofs.Ytifkhfnmbiefaaa.Alo (W)
structure Pck (G : List (List Int)) (Y : List (List (List Int))) : Prop where
  n : Y.length≤2
  g : G.length=Y.length
  row : ∀ i : Nat,i < Y.length→(rd_L4 Y (i : Int)).length=5
  y : ∀ i b : Nat,i < Y.length→b < 5→Pv (rd_L2 (rd_L4 Y (i : Int)) (b : Int))∧(rd_L2 (rd_L4 Y (i : Int)) (b : Int)).length=W b
  gr : ∀ i : Nat,i < Y.length→Alo.Gr (rd_L2 G (i : Int))
def Ch (gs : List Int) (ys : List (List Int)) : Nat→List Int→List (List Int)→Prop
  | n,_, []=>n=5
  | n,ahead,o :: os=>n < 5∧Nx (rd_L2 ys (n : Int)) (rd gs (n : Int)) ahead o∧Ch gs ys (n+1) o os
theorem ch_ex {G : List (List Int)} {Y : List (List (List Int))} (P : Pck G Y) {i : Nat} (hi : i < Y.length) : ∀ (d n : Nat) (ahead : List Int),n+d=5→ahead.length≤100→∃ outs,Ch (rd_L2 G (i : Int)) (rd_L4 Y (i : Int)) n ahead outs
  | 0,n,ahead,h,ha=>⟨[],show n=5 by omega⟩
  | d+1,n,ahead,h,ha=>by
    have hb : n < 5:=by omega
    obtain ⟨hy,hl⟩:=P.y i n hi hb
    have hg:=(P.gr i hi).2 n hb
    have hw:=Alo.W_in hb
    obtain ⟨o,ho⟩:=nx_ex (ahead:=ahead) hy hg.1 hg.2 (by omega)
    obtain ⟨os,hos⟩:=ch_ex P hi d (n+1) o (by omega) (by rw [ho.len];omega)
    exact ⟨o :: os,hb,ho,hos⟩
theorem dec_l1 {I : Bool} {G : List (List Int)} {Y : List (List (List Int))} (P : Pck G Y) {i : Nat} (hi : i < Y.length) {R : List (List Int)} (hR : R.length≤2) {res : List (List Int) × Int} : ∀ (outs : List (List Int)) (n : Nat) (ahead acc : List Int),Ch (rd_L2 G (i : Int)) (rd_L4 Y (i : Int)) n ahead outs→acc.length≤8 * n→Ev (fun k=>ccodec_Decode.l0 k Y (Y.length : Int) ((i+1 : Nat) : Int) I G Y (R ++ [acc ++ outs.flatten])) res→Ev (fun k=>ccodec_Decode.l1 k (i : Int) ahead acc Y (Y.length : Int) (i : Int) (rd_L4 Y (i : Int)) 5 (n : Int) I G Y R) res
  | [],n,ahead,acc,h,ha,hr=>by
    have h : n=5:=h
    have hn:=P.n
    refine Ev.step (fun k => ?_) hr
    rw [ccodec_Decode.l1,if_neg (by omega),if_pos (by omega),w_succ hi (by omega),List.flatten_nil,List.append_nil]
  | o :: os,n,ahead,acc,h,ha,hr=>by
    obtain ⟨hb,ho,hos⟩:=h
    have hn:=P.n
    have hg:=P.g
    have hrow:=P.row i hi
    have hgr:=(P.gr i hi).1
    have hw:=Alo.W_in hb
    have hl:=(P.y i n hi hb).2
    have hol:=ho.len
    refine Ev.step (f:=fun k=>(ccodec_next.f k (rd_L2 (rd_L4 Y (i : Int)) (n : Int)) (rd (rd_L2 G (i : Int)) (n : Int)) ahead).bind fun t=>if acc.length+t.length < 17592186044416 then ccodec_Decode.l1 k (i : Int) t (acc ++ t) Y (Y.length : Int) (i : Int) (rd_L4 Y (i : Int)) 5 (wrap64 ((n : Int)+1)) I G Y R else none) (fun k => ?_) (Ev.bind ho.p (Ev.congr (fun k => ?_) (dec_l1 (I:=I) P hi hR os (n+1) o (acc ++ o) hos (by rw [List.length_append];omega) ?_)))
    · rw [ccodec_Decode.l1,if_pos (by omega),if_pos (by omega),if_pos (by omega),if_pos (by omega),if_pos (by omega),if_pos (by omega)]
    · rw [if_pos (by omega),w_succ (n:=5) hb (by omega)]
    · rw [List.append_assoc]
      exact hr
theorem rdec_l1 {I : Bool} {G : List (List Int)} {Y : List (List (List Int))} (P : Pck G Y) {i : Nat} (hi : i < Y.length) {R : List (List Int)} (hR : R.length≤2) {res : List (List Int)} : ∀ (outs : List (List Int)) (n : Nat) (ahead acc : List Int),Ch (rd_L2 G (i : Int)) (rd_L4 Y (i : Int)) n ahead outs→acc.length≤8 * n→Ev (fun k=>psalteryref23_Decode.l0 k ((i+1 : Nat) : Int) I G Y (R ++ [acc ++ outs.flatten])) res→Ev (fun k=>psalteryref23_Decode.l1 k (i : Int) acc ahead (n : Int) I G Y R) res
  | [],n,ahead,acc,h,ha,hr=>by
    have h : n=5:=h
    have hn:=P.n
    refine Ev.step (fun k => ?_) hr
    rw [psalteryref23_Decode.l1,if_neg (by omega),if_pos (by omega),w_succ hi (by omega),List.flatten_nil,List.append_nil]
  | o :: os,n,ahead,acc,h,ha,hr=>by
    obtain ⟨hb,ho,hos⟩:=h
    have hn:=P.n
    have hg:=P.g
    have hrow:=P.row i hi
    have hgr:=(P.gr i hi).1
    have hw:=Alo.W_in hb
    have hl:=(P.y i n hi hb).2
    have hol:=ho.len
    refine Ev.step (f:=fun k=>(psalteryref23_Band.f k (rd_L2 (rd_L4 Y (i : Int)) (n : Int)) (rd (rd_L2 G (i : Int)) (n : Int)) ahead).bind fun t=>if acc.length+t.length < 17592186044416 then psalteryref23_Decode.l1 k (i : Int) (acc ++ t) t (wrap64 ((n : Int)+1)) I G Y R else none) (fun k => ?_) (Ev.bind ho.r (Ev.congr (fun k => ?_) (rdec_l1 (I:=I) P hi hR os (n+1) o (acc ++ o) hos (by rw [List.length_append];omega) ?_)))
    · rw [psalteryref23_Decode.l1,if_pos (by omega),if_pos (by omega),if_pos (by omega),if_pos (by omega),if_pos (by omega),if_pos (by omega),if_pos (by omega)]
    · rw [if_pos (by omega),w_succ (n:=5) hb (by omega)]
    · rw [List.append_assoc]
      exact hr
def Fe (n : Nat) : Nat := [0,1,2,4,8,16].getD n 0
theorem fe_s {n : Nat} (h : n < 5) : Fe (n+1)=Fe n+W n∧Fe n=Fo n:=(by decide : ∀ n : Fin 5,Fe (n.1+1)=Fe n.1+W n.1∧Fe n.1=Fo n.1) ⟨n,h⟩
theorem Bd_app {p o q : List Int} {b : Nat} (hp : p.length=Fo b) (ho : o.length=W b) : Bd (p ++ (o ++ q)) b=o:=by
  unfold Bd
  rw [← hp, ← ho, ← List.append_assoc,List.take_left' (by simp),List.drop_left]
structure Dn (gs : List Int) (ys : List (List Int)) (c : List Int) : Prop where
  len : c.length=16
  inn : ∀ v ∈ c,In v
  bd : ∀ b : Nat,b < 5→∃ ah,Nx (rd_L2 ys (b : Int)) (rd gs (b : Int)) ah (Bd c b)
theorem ch_dn {gs : List Int} {ys : List (List Int)} (hy : ∀ b : Nat,b < 5→(rd_L2 ys (b : Int)).length=W b) : ∀ (outs : List (List Int)) (n : Nat) (ahead pre : List Int),Ch gs ys n ahead outs→n≤5→pre.length=Fe n→(∀ v ∈ pre,In v)→(pre ++ outs.flatten).length=16∧(∀ v ∈ pre ++ outs.flatten,In v)∧∀ b : Nat,n≤b→b < 5→∃ ah,Nx (rd_L2 ys (b : Int)) (rd gs (b : Int)) ah (Bd (pre ++ outs.flatten) b)
  | [],n,ahead,pre,h,hn,hp,hi=>by
    obtain rfl : n=5:=h
    rw [List.flatten_nil,List.append_nil]
    exact ⟨hp,hi,fun b h1 h2=>by omega⟩
  | o :: os,n,ahead,pre,h,hn,hp,hi=>by
    obtain ⟨hb,ho,hos⟩:=h
    obtain ⟨f1,f2⟩:=fe_s hb
    have hl:=ho.len
    rw [hy n hb] at hl
    obtain ⟨e1,e2,e3⟩:=ch_dn hy os (n+1) o (pre ++ o) hos (by omega) (by rw [List.length_append];omega) (fun v hv=>(List.mem_append.1 hv).elim (hi v) (ho.inn v))
    rw [List.append_assoc] at e1 e2 e3
    rw [List.flatten_cons]
    refine ⟨e1,e2,fun b h1 h2 => ?_⟩
    by_cases e : b=n
    · subst e
      exact ⟨ahead,by rw [Bd_app (by omega) hl];exact ho⟩
    · exact e3 b (by omega) h2
theorem dn_of {G : List (List Int)} {Y : List (List (List Int))} (P : Pck G Y) {i : Nat} (hi : i < Y.length) {outs : List (List Int)} (h : Ch (rd_L2 G (i : Int)) (rd_L4 Y (i : Int)) 0 [] outs) : Dn (rd_L2 G (i : Int)) (rd_L4 Y (i : Int)) ([] ++ outs.flatten):=by
  obtain ⟨h1,h2,h3⟩:=ch_dn (fun b hb=>(P.y i b hi hb).2) outs 0 [] [] h (by omega) rfl (by simp)
  exact ⟨h1,h2,fun b hb=>h3 b (by omega) hb⟩
theorem dec_l0 {I : Bool} {G : List (List Int)} {Y : List (List (List Int))} (P : Pck G Y) : ∀ (d i : Nat) (R : List (List Int)),i+d=Y.length→R.length=i→∃ Fs : List (List Int),Fs.length=Y.length∧(∀ j,j < i→rd_L1 Fs (j : Int)=rd_L1 R (j : Int))∧(∀ j,i≤j→j < Y.length→Dn (rd_L2 G (j : Int)) (rd_L4 Y (j : Int)) (rd_L1 Fs (j : Int)))∧Ev (fun k=>ccodec_Decode.l0 k Y (Y.length : Int) (i : Int) I G Y R) (Fs,0)∧Ev (fun k=>psalteryref23_Decode.l0 k (i : Int) I G Y R) Fs
  | 0,i,R,h,hR=>by
    refine ⟨R,by omega,fun _ _=>rfl,fun j h1 h2=>by omega,Ev.step (fun k=>by rw [ccodec_Decode.l0,if_neg (by omega)]) (Ev.now _),Ev.step (fun k=>by rw [psalteryref23_Decode.l0,if_neg (by omega)]) (Ev.now _)⟩
  | d+1,i,R,h,hR=>by
    have hi : i < Y.length:=by omega
    have hn:=P.n
    have hrow:=P.row i hi
    obtain ⟨outs,hc⟩:=ch_ex P hi 5 0 [] (by omega) (by simp)
    obtain ⟨Fs,f1,f2,f3,f4,f5⟩:=dec_l0 P d (i+1) (R ++ [[] ++ outs.flatten]) (by omega) (by simp [hR])
    have hrd : ∀ j,j < i→rd_L1 (R ++ [[] ++ outs.flatten]) (j : Int)=rd_L1 R (j : Int):=fun j hj=>by
      rw [rd1_mem (by simp;omega),rd1_mem (by omega),List.getElem_append_left]
    refine ⟨Fs,f1,fun j hj=>(f2 j (by omega)).trans (hrd j hj),fun j h1 h2 => ?_, ?_, ?_⟩
    · by_cases e : j=i
      · subst e
        rw [f2 j (by omega),rd1_mem (by simp;omega),List.getElem_append_right (by omega)]
        simp only [hR,Nat.sub_self,List.getElem_cons_zero]
        exact dn_of P hi hc
      · exact f3 j (by omega) h2
    · refine Ev.step (fun k => ?_) (dec_l1 P hi (R:=R) (by omega) outs 0 [] [] hc (by simp) f4)
      rw [ccodec_Decode.l0,if_pos (by omega),if_pos (by omega),if_pos (by omega),hrow]
      rfl
    · refine Ev.step (fun k => ?_) (rdec_l1 P hi (R:=R) (by omega) outs 0 [] [] hc (by simp) f5)
      rw [psalteryref23_Decode.l0,if_pos (by omega)]
      rfl
structure Dec (a b : Int) (I : Bool) (G : List (List Int)) (Y : List (List (List Int))) (Fs : List (List Int)) : Prop where
  n : Fs.length=Y.length
  d : ∀ j : Nat,j < Y.length→Dn (rd_L2 G (j : Int)) (rd_L4 Y (j : Int)) (rd_L1 Fs (j : Int))
  p : Ev (fun k=>ccodec_Decode.f k a b I G Y) (Fs,0)
  r : Ev (fun k=>psalteryref23_Decode.f k I G Y) Fs
theorem dec_ex {a b : Int} {I : Bool} {G : List (List Int)} {Y : List (List (List Int))} (P : Pck G Y) (hr : Ev (fun k=>cpack_Right.f k a b I G Y) true) : ∃ Fs,Dec a b I G Y Fs:=by
  obtain ⟨Fs,f1,_,f3,f4,f5⟩:=dec_l0 (I:=I) P Y.length 0 [] (by omega) rfl
  exact ⟨Fs,f1,fun j hj=>f3 j (by omega) hj,Ev.bind hr (Ev.congr (fun k=>by rw [if_pos rfl];rfl) f4),f5⟩
theorem okR_at {row : List (List Int)} {ks : List Int} : ∀ (d n : Nat),Pak.okR row ks d n=true→∀ b : Nat,n≤b→b < n+d→Pak.okV (rd_L2 row (b : Int)) (W b : Int) (rd ks (b : Int))=true
  | 0,n,h,b,h1,h2=>by omega
  | d+1,n,h,b,h1,h2=>by
    unfold Pak.okR at h
    rw [Bool.and_eq_true] at h
    by_cases e : b=n
    · subst e;exact h.1
    · exact okR_at d (n+1) h.2 b (by omega) (by omega)
theorem pck_of {K : Nat→Nat→Int} {a b : Int} {G out : List (List Int)} {Y : List (List (List Int))} (g : Pak.Good K a b G Y out) : Pck G Y:=by
  have h1:=Alo.right_iff.1 g.ab
  have h2:=g.g
  have h3:=g.y
  have h4:=g.o
  have hA : ∀ (d i : Nat),Pak.okA Y out d i=true→∀ j : Nat,i≤j→j < i+d→(rd_L4 Y (j : Int)).length=5∧Pak.okR (rd_L4 Y (j : Int)) (rd_L2 out (j : Int)) 5 0=true:=by
    intro d
    induction d with
    | zero=>intro i h j h1 h2;omega
    | succ d ih =>
      intro i h j h1 h2
      unfold Pak.okA at h
      simp only [Bool.and_eq_true,decide_eq_true_eq] at h
      by_cases e : j=i
      · subst e;exact ⟨h.1,h.2.1⟩
      · exact ih (i+1) h.2.2 j (by omega) (by omega)
  have hB:=hA Y.length 0 g.all
  refine ⟨by omega,by omega,fun i hi=>(hB i (by omega) (by omega)).1,fun i n hi hn => ?_,fun i hi=>(g.c i (by omega)).gr⟩
  have hv:=okR_at 5 0 (hB i (by omega) (by omega)).2 n (by omega) (by omega)
  unfold Pak.okV at hv
  have hv:=of_decide_eq_true hv
  have hw:=Alo.W_in hn
  have hk:=(g.c i (by omega)).ks.2 n hn
  have hm:=Alo.mst_in n
  exact ⟨⟨by omega,by omega,by omega⟩,by omega⟩
end Go.Proofs.Ytifkhfnmbiefaaa.Ton
/- What is encoded is a right pack; what is looked at of a pack. -/
namespace Go.Proofs.Ytifkhfnmbiefaaa.Ton
open Go Go.RowKit Go.Proofs.YtifkhfnmbiefaaaW.PrintWords Go.Proofs.YtifkhfnmbiefaaaW.PrintMore Go.Proofs.Ytifkhfnmbiefaaa.Prt Go.Proofs.Ytifkhfnmbiefaaa.Com Go.Proofs.Ytifkhfnmbiefaaa.Pvq Go.Proofs.Ytifkhfnmbiefaaa.PvqN
set_option linter.unusedVariables false
set_option linter.unusedSimpArgs false
open Go.Proofs.Ytifkhfnmbiefaaa.Alo (W)
theorem szs_sg : ∀ {x y : List Int},y.length=x.length→(∀ v ∈ y,0≤v∧v≤12)→szs (sg x y)=sm y
  | [], [],_,_=>rfl
  | [],_ :: _,h,_=>by simp at h
  | _ :: _, [],h,_=>by simp at h
  | v :: x,p :: y,h,hy=>by
    have ih:=szs_sg (x:=x) (y:=y) (by simpa using h) (fun u hu=>hy u (List.mem_cons_of_mem _ hu))
    have hp:=hy p List.mem_cons_self
    have e : sz (if v < 0 then -p else p)=p:=by
      unfold sz;split <;> split <;> (try split) <;> omega
    simp only [sg,List.zipWith_cons_cons,szs,sm] at ih ⊢
    rw [ih,e]
theorem Pk_len {K : Nat→Nat→Int} {a b : Int} {l : List (List Int)} (h : Rt a b l) (out : List (List Int)) {i n : Nat} (hi : i < l.length) (hn : n < 5) : (Pk l out i n).length=W n:=by
  unfold Pk
  rw [sg_len (Ps_len (Bd_fr (h.f hi) hn) _),Bd_len (h.f hi).1 hn]
theorem Pk_szs {K : Nat→Nat→Int} {a b : Int} {l out : List (List Int)} (h : Rt a b l) (o : Out K a b l out) {i n : Nat} (hi : i < l.length) (hn : n < 5) : szs (Pk l out i n)=rd (rd_L2 out (i : Int)) (n : Int):=by
  have hk:=o.k hi hn
  have hf:=Bd_fr (h.f hi) hn
  unfold Pk
  rw [szs_sg (Ps_len hf _) (Ps_in hf (by omega)),(Ps_gd hf _).sum]
  omega
theorem okV_enc {K : Nat→Nat→Int} {a b : Int} {l out : List (List Int)} (h : Rt a b l) (o : Out K a b l out) {i n : Nat} (hi : i < l.length) (hn : n < 5) : Pak.okV (Pk l out i n) (W n : Int) (rd (rd_L2 out (i : Int)) (n : Int))=true:=by
  unfold Pak.okV
  exact decide_eq_true ⟨by rw [Pk_len (K:=K) h out hi hn],Pk_szs h o hi hn⟩
theorem okR_enc {K : Nat→Nat→Int} {a b : Int} {l out : List (List Int)} (h : Rt a b l) (o : Out K a b l out) {i : Nat} (hi : i < l.length) : ∀ (d n : Nat),n+d=5→Pak.okR (Yr l out i 5) (rd_L2 out (i : Int)) d n=true
  | 0,n,e=>rfl
  | d+1,n,e=>by
    unfold Pak.okR
    rw [Yr_rd l out (by omega),okV_enc h o hi (by omega),okR_enc h o hi d (n+1) (by omega)]
    rfl
theorem okA_enc {K : Nat→Nat→Int} {a b : Int} {l out : List (List Int)} (h : Rt a b l) (o : Out K a b l out) : ∀ (d i : Nat),i+d=l.length→Pak.okA (Ys l out l.length) out d i=true
  | 0,i,e=>rfl
  | d+1,i,e=>by
    unfold Pak.okA
    rw [Ys_rd l out (by omega),Yr_len,okR_enc h o (by omega) 5 0 (by omega),okA_enc h o d (i+1) (by omega)]
    rfl
theorem sized_enc {a b : Int} {l : List (List Int)} (h : Rt a b l) (out : List (List Int)) : Pak.Sized (Ys l out l.length):=by
  have hn:=h.n
  refine ⟨by rw [Ys_len];omega,fun i hi => ?_⟩
  rw [Ys_len] at hi
  rw [Ys_rd l out hi]
  obtain ⟨e1,e2⟩:=Ys_sz l out (Nat.le_refl _) h.2.2 _ (List.mem_map.2 ⟨i,List.mem_range.2 hi,rfl⟩)
  exact ⟨by omega,fun y hy=>by have:=e2 y hy;omega⟩
theorem good_enc {K : Nat→Nat→Int} {a b : Int} {l out : List (List Int)} (h : Rt a b l) (o : Out K a b l out) : Pak.Good K a b (Gs l l.length) (Ys l out l.length) out where
  ab:=h.1
  g:=by rw [Gs_len];exact h.2.1
  y:=by rw [Ys_len];exact h.2.1
  o:=by rw [Gs_len];exact o.o
  c:=fun j hj=>by rw [Gs_len] at hj;rw [Gs_rd l hj];exact o.c j hj
  p:=o.p
  r:=o.r
  f:=o.f
  all:=by rw [Ys_len];exact okA_enc h o l.length 0 (by omega)
theorem right_enc {K : Nat→Nat→Int} {V : Nat→Nat→Int} (C : Cst K) (D : Cnt V) {a b : Int} {l out : List (List Int)} (h : Rt a b l) (o : Out K a b l out) (I : Bool) : ∀ q,7010≤q→cpack_Right.f q a b I (Gs l l.length) (Ys l out l.length)=some true:=by
  have hn:=h.n
  have g:=good_enc h o
  have S:=sized_enc h out
  intro q hq
  obtain ⟨r,rfl⟩ : ∃ r,q=r+1:=⟨q - 1,by omega⟩
  have e1:=Pak.l0_p D S (out:=out) (by rw [Ys_len];exact o.o) (fun i hi=>by rw [Ys_len] at hi;exact (o.c i hi).ks) (Ys l out l.length).length 0 r (by omega) (by rw [Ys_len];omega)
  rw [g.all] at e1
  unfold cpack_Right.f
  rw [o.p _ (by omega),Option.bind_some,if_pos rfl,cpack_Right.j0,if_neg (by simp [g.y])]
  exact e1
end Go.Proofs.Ytifkhfnmbiefaaa.Ton
