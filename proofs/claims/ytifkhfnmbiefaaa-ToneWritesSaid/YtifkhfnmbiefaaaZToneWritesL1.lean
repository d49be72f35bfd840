-- Lemmas, one text behind the other (wip/tools/pack.py).
import Derived.Test.YtifkhfnmbiefaaaZToneWritesWMore
import Derived.Lib.SmallJoins
import Derived.ChangeSlices
import Derived.Test.YtifkhfnmbiefaaaZToneWritesM1
import Derived.Test.YtifkhfnmbiefaaaZToneWritesM4
import Derived.Test.YtifkhfnmbiefaaaZToneWritesM2
import Derived.IntWalk
import Derived.Laws.BitsLemmas
import Derived.Test.YtifkhfnmbiefaaaZToneWritesM3
/- What a law's parameter reads as: typed data out of the row's own reading. A structure of lemmas, kind by kind. -/
namespace Go.Proofs.Ytifkhfnmbiefaaa.Rd
open Go.ChangeShapes Go.WideShapes Go.Joins Go.Deep Go.Proofs.YtifkhfnmbiefaaaW.PrintWords

structure Opens {α : Type} (P : Program) (t : TypeId) (d : Kd α) (ok : α→Prop) : Prop where
  cells : P.cellsOf t=d.sz
  opens : ∀ {H : Type} {enc : TypeId × Value → H} {w : World} {spare : Nat → Bool} {held : Bool} {fuel : Nat} {cs : List Value} {x : DataW H × List MemPlace},
    DataW.trod enc P w 0 spare held fuel t cs=some x→∃ a : α,d.K w a cs∧ok a

theorem list_of {α : Type} {Q : Nat→α→Prop} : ∀ n : Nat,(∀ i,i < n→∃ a,Q i a)→∃ xs : List α,xs.length=n∧∀ i a,xs[i]? = some a→Q i a
  | 0,_=>⟨[],rfl,fun i a h=>by simp at h⟩
  | n+1,h=>by
    obtain ⟨xs,hl,hx⟩:=list_of n (fun i hi=>h i (by omega))
    obtain ⟨a,ha⟩:=h n (by omega)
    refine ⟨xs ++ [a],by simp [hl],fun i b hb => ?_⟩
    rcases Nat.lt_or_ge i n with hi|hi
    · rw [List.getElem?_append_left (by omega)] at hb
      exact hx i b hb
    · have h1:=(List.getElem?_eq_some_iff.1 hb).1
      rw [List.length_append,List.length_singleton] at h1
      obtain rfl : i=n:=by omega
      rw [List.getElem?_append_right (by omega)] at hb
      simp [hl] at hb
      exact hb ▸ ha

variable {P : Program} {t e : TypeId}
theorem Opens.int {k : IntKind} (ht : P.underlying t=some (.int k)) (hc : P.cellsOf t=1) : Opens P t (Kd.int k) (fun a=>(Lit.int k a).wf=true) :=
  ⟨hc,fun h=>by obtain ⟨n,rfl,_,hw⟩:=DataW.trod_int ht h;exact ⟨n,rfl,hw⟩⟩
theorem Opens.bool (ht : P.underlying t=some .bool) (hc : P.cellsOf t=1) : Opens P t Kd.bool (fun _=>True) :=
  ⟨hc,fun h=>by obtain ⟨b,rfl,_⟩:=DataW.trod_bool ht h;exact ⟨b,rfl,trivial⟩⟩
theorem Opens.slice {α : Type} {d : Kd α} {ok : α→Prop} (ht : P.underlying t=some (.slice e)) (hc : P.cellsOf t=1) (he : Opens P e d ok) :
    Opens P t (Kd.slice e d) (fun l=>l.length≤maxLen∧∀ a ∈ l,ok a):=by
  refine ⟨hc,fun {H enc w spare held fuel cs x} h => ?_⟩
  rcases DataW.trod_slice ht h with ⟨rfl,_⟩ | ⟨a,len,cap,elems,rest,n,_,rfl,_,_,hl,hm,hlen,hel,_,_⟩
  · exact ⟨[],⟨none,0,rfl,Nat.le_refl _,Kd.C_nil _ _⟩,by simp [maxLen],by simp⟩
  · have each : ∀ i,i < len→∃ b, ∃ c,w.cells? 0 (a.add (i * P.cellsOf e)) (P.cellsOf e)=some c∧d.K w b c∧ok b:=by
      intro i hi
      have h1:=hel i hi
      rw [List.getElem?_eq_getElem (by omega)] at h1
      obtain ⟨c,hc1,hc2⟩:=Option.bind_eq_some_iff.1 h1
      obtain ⟨b,hb,hok⟩:=he.opens hc2
      exact ⟨b,c,hc1,hb,hok⟩
    obtain ⟨xs,hxl,hx⟩:=list_of len each
    refine ⟨xs,⟨some a,cap,by rw [hxl],by omega,rfl,by rw [hxl];simp only [maxLen] at hm;omega,fun _=>⟨a,rfl,fun j p hj => ?_⟩⟩,by omega,fun b hb => ?_⟩
    · obtain ⟨c,hc1,hK,_⟩:=hx j p hj
      obtain ⟨_,hcl,hcc⟩:=World.cells?_some hc1
      refine ⟨c,by rw [hcl,he.cells],hK,fun i u hu => ?_⟩
      have hi : i < c.length:=(List.getElem?_eq_some_iff.1 hu).1
      rw [← hu, ← hcc i (by omega), ← he.cells]
      rw [Go.Proofs.YtifkhfnmbiefaaaW.PrintWords.add_add]
    · obtain ⟨i,hi⟩:=List.getElem?_of_mem hb
      obtain ⟨_,_,_,hok⟩:=hx i b hi
      exact hok
theorem Opens.agg1 {α : Type} {d0 : Kd α} {ok0 : α→Prop} {f0 : Field} (hs : P.underlying t=some (.struct #[f0])) (hone : oneCellFields P #[f0]=true) (hC : P.cellsOf t=1) (h0 : Opens P f0.type d0 ok0) : Opens P t d0 ok0:=by
  obtain ⟨o0,k0⟩:=hone_of hone 0 f0 rfl
  refine ⟨by rw [hC, ← h0.cells,k0],fun {H enc w spare held fuel cs x} h => ?_⟩
  obtain ⟨xs,n,_,rfl,hl,hlen,hf⟩:=DataW.trod_struct hs h
  rw [hC] at hl
  obtain ⟨c0,rfl⟩ : ∃ c0,cs = [c0]:=by
    match cs,hl with
    | [c0],_=>exact ⟨c0,rfl⟩
  have h1:=hf 0 f0 rfl
  rw [List.getElem?_eq_getElem (by simp at hlen;omega),o0,k0] at h1
  exact h0.opens h1
theorem Opens.mono {α : Type} {d : Kd α} {ok ok' : α→Prop} (h : Opens P t d ok) (hok : ∀ a,ok a→ok' a) : Opens P t d ok' :=
  ⟨h.cells,fun hx=>by obtain ⟨a,ha,ho⟩:=h.opens hx;exact ⟨a,ha,hok a ho⟩⟩
end Go.Proofs.Ytifkhfnmbiefaaa.Rd
/- How many pulse vectors there are: the table's numbers, and what is true of them. -/
namespace Go.Proofs.Ytifkhfnmbiefaaa.Com
open Go Go.RowKit Go.Proofs.YtifkhfnmbiefaaaW.PrintWords Go.Proofs.Ytifkhfnmbiefaaa.Prt
set_option linter.unusedVariables false
set_option linter.unusedSimpArgs false
def VT : List Int := [1,0,0,0,0,0,0,0,0,0,0,0,0,1,2,2,2,2,2,2,2,2,2,2,2,2,1,4,8,12,16,20,24,28,32,36,40,44,48,1,6,18,38,66,102,146,198,258,326,402,486,578,1,8,32,88,192,360,608,952,1408,1992,2720,3608,4672,1,10,50,170,450,1002,1970,3530,5890,9290,14002,20330,28610,1,12,72,292,912,2364,5336,10836,20256,35436,58728,93060,142000,1,14,98,462,1666,4942,12642,28814,59906,115598,209762,361550,596610,1,16,128,688,2816,9424,27008,68464,157184,332688,658048,1229360,2187520,1,18,162,978,4482,16722,53154,148626,374274,864146,1854882,3742290,7159170,1,20,200,1340,6800,28004,97880,299660,822560,2060980,4780008,10377180,21278640,1,22,242,1782,9922,44726,170610,568150,1690370,4573910,11414898,26572086,58227906,1,24,288,2312,14016,68664,284000,1022760,3281280,9545560,25534368,63521352,148321344,1,26,338,2938,19266,101946,454610,1761370,6065410,18892250,53972178,143027898,354870594,1,28,392,3668,25872,147084,703640,2919620,10746400,35704060,108568488,305568564,803467056,1,30,450,4510,34050,207006,1057730,4680990,18347010,64797470,209070018,623207070,1732242690,1,32,512,5472,44032,285088,1549824,7288544,30316544,113461024,387328512,1219605600,3575055360]
def V0 (n k : Nat) : Int:=VT.getD (n * 13+k) 0
set_option maxRecDepth 100000 in
theorem T16 : comb_table.T 16=VT:=by decide +kernel
def pval (p : Nat) : Int:=if p % 2=1 then ((p+1) / 2 : Nat) else -((p / 2 : Nat) : Int)
def psz (p : Nat) : Nat:=(p+1) / 2
def P (V : Nat→Nat→Int) (n k : Nat) : Nat→Int
  | 0=>0
  | p+1=>P V n k p+V n (k - psz p)
def rowL (V : Nat→Nat→Int) (n : Nat) : List Int:=(List.range 13).map (V n)
theorem V_all : ∀ n : Fin 17, ∀ k : Fin 13,0≤V0 n.1 k.1∧V0 n.1 k.1≤1000000000000:=by decide +kernel
theorem V_zero : ∀ n : Fin 17,V0 n.1 0=1:=by decide +kernel
theorem V_none : ∀ k : Fin 13,0 < k.1→V0 0 k.1=0:=by decide +kernel
theorem V_pos : ∀ n : Fin 17, ∀ k : Fin 13,0 < n.1→0 < V0 n.1 k.1:=by decide +kernel
theorem P_all : ∀ n : Fin 16, ∀ k : Fin 13,P V0 n.1 k.1 (2 * k.1+1)=V0 (n.1+1) k.1:=by decide +kernel
theorem V_sum : ∀ n : Fin 16, ∀ k : Fin 12,V0 (n.1+1) (k.1+1)=V0 n.1 (k.1+1)+V0 (n.1+1) k.1+V0 n.1 k.1:=by decide +kernel
theorem rows_0 : ∀ n : Fin 17,r06_Row.f 3000 (n.1 : Int)=some (rowL V0 n.1):=by decide +kernel
structure Cnt (V : Nat→Nat→Int) : Prop where
  all : ∀ {n k : Nat},n < 17→k < 13→0≤V n k∧V n k≤1000000000000
  zero : ∀ {n : Nat},n < 17→V n 0=1
  none : ∀ {k : Nat},k < 13→0 < k→V 0 k=0
  pos : ∀ {n k : Nat},n < 17→k < 13→0 < n→0 < V n k
  top : ∀ {n k : Nat},n < 16→k < 13→P V n k (2 * k+1)=V (n+1) k
  sum : ∀ {n k : Nat},n < 16→k < 12→V (n+1) (k+1)=V n (k+1)+V (n+1) k+V n k
  table : ∀ {n k : Nat},n < 17→k < 13→comb_table.f (n : Int) (k : Int)=some (V n k)
  rows : ∀ {n : Nat},n < 17→∀ {k : Nat},3000≤k→r06_Row.f k (n : Int)=some (rowL V n)
  three : V 3 2=18
theorem exCnt : ∃ V,Cnt V:=⟨V0, {
  all:=fun {n k} hn hk=>V_all ⟨n,hn⟩ ⟨k,hk⟩
  zero:=fun {n} hn=>V_zero ⟨n,hn⟩
  none:=fun {k} hk h=>V_none ⟨k,hk⟩ h
  pos:=fun {n k} hn hk h=>V_pos ⟨n,hn⟩ ⟨k,hk⟩ h
  top:=fun {n k} hn hk=>P_all ⟨n,hn⟩ ⟨k,hk⟩
  sum:=fun {n k} hn hk=>V_sum ⟨n,hn⟩ ⟨k,hk⟩
  table:=fun {n k} hn hk=>by
    unfold comb_table.f
    rw [if_pos (by omega),if_pos (by omega),if_pos (by omega),if_pos (by omega),T16,Int.toNat_natCast,Int.toNat_natCast]
    rfl
  rows:=fun {n} hn {k} hk=>at_rounds (r06_Row.mono _) hk (rows_0 ⟨n,hn⟩)
  three:=by decide +kernel }⟩
end Go.Proofs.Ytifkhfnmbiefaaa.Com
/- The pulse vectors and their numbers: what the program's functions and the document's come to, on numbers and lists. -/
namespace Go.Proofs.Ytifkhfnmbiefaaa.Com
open Go Go.RowKit Go.Proofs.YtifkhfnmbiefaaaW.PrintWords Go.Proofs.Ytifkhfnmbiefaaa.Prt
set_option linter.unusedVariables false
set_option linter.unusedSimpArgs false

theorem w64 {x : Int} (h0 : -9223372036854775808≤x) (h1 : x≤9223372036854775807) : wrap64 x=x:=by unfold wrap64;omega
theorem u64 {x : Int} (h0 : 0≤x) (h1 : x≤18446744073709551615) : IntKind.u64.wrap x=x:=by
  have h : IntKind.u64.wrap x=x % 18446744073709551616:=by simp [IntKind.wrap,IntKind.bits,IntKind.signed]
  rw [h]
  omega
theorem rd_at {l : List Int} {i : Nat} (h : i < l.length) : rd l (i : Int)=l[i]:=by
  unfold rd
  rw [Int.toNat_natCast,List.getD_eq_getElem?_getD,List.getElem?_eq_getElem h,Option.getD_some]
variable {V : Nat→Nat→Int}
theorem VV (C : Cnt V) {n k : Nat} (hn : n < 17) (hk : k < 13) : 0≤V n k∧V n k≤1000000000000:=C.all hn hk
theorem P_succ (V : Nat→Nat→Int) (n k p : Nat) : P V n k (p+1)=P V n k p+V n (k - psz p):=rfl
theorem P_mono (C : Cnt V) {n k : Nat} (hn : n < 17) (hk : k < 13) {p : Nat} : ∀ {q : Nat},p≤q→P V n k p≤P V n k q:=by
  intro q
  induction q with
  | zero =>
    intro h
    obtain rfl : p=0:=by omega
    exact Int.le_refl _
  | succ q ih =>
    intro h
    rcases Nat.lt_or_ge q p with h1|h1
    · obtain rfl : p=q+1:=by omega
      exact Int.le_refl _
    · have:=ih h1
      have:=(VV C hn (show k - psz q < 13 by omega)).1
      rw [P_succ]
      omega
theorem P_top (C : Cnt V) {n k : Nat} (hn : n < 16) (hk : k < 13) : P V n k (2 * k+1)=V (n+1) k:=C.top hn hk
theorem P_nn (C : Cnt V) {n k : Nat} (hn : n < 17) (hk : k < 13) (p : Nat) : 0≤P V n k p:=P_mono C hn hk (Nat.zero_le p)
theorem P_odd (V : Nat→Nat→Int) (n k s : Nat) : P V n k (2 * (s+1)+1)=P V n k (2 * s+1)+2 * V n (k - (s+1)):=by
  rw [show 2 * (s+1)+1=(2 * s+1)+1+1 by omega,P_succ,P_succ,show psz (2 * s+1)=s+1 by unfold psz;omega,show psz (2 * s+1+1)=s+1 by unfold psz;omega]
  omega
theorem P_one (V : Nat→Nat→Int) (n k : Nat) : P V n k 1=V n k:=by
  rw [show (1 : Nat)=0+1 from rfl,P_succ]
  show 0+V n (k - 0)=V n k
  rw [Int.zero_add,Nat.sub_zero]

def Unr (V : Nat→Nat→Int) : Nat→Nat→Int→List Int→Prop
  | 0,k,i,y=>k=0∧i=0∧y = []
  | n+1,k,i,y => ∃ p ys,y=pval p :: ys∧psz p≤k∧P V n k p≤i∧i < P V n k (p+1)∧Unr V n (k - psz p) (i - P V n k p) ys
theorem Unr.fn (C : Cnt V) : ∀ {n k : Nat} {i : Int} {y y' : List Int},n < 17→k < 13→Unr V n k i y→Unr V n k i y'→y=y'
  | 0,_,_,_,_,_,_,h,h' => h.2.2.trans h'.2.2.symm
  | n+1,k,i,y,y',hn,hk,⟨p,ys,e,h1,h2,h3,h4⟩,⟨p',ys',e',h1',h2',h3',h4'⟩=>by
    have hp : p=p' := by
      rcases Nat.lt_trichotomy p p' with h|h|h
      · have:=P_mono C (n:=n) (k:=k) (by omega) hk (show p+1≤p' by omega)
        omega
      · exact h
      · have:=P_mono C (n:=n) (k:=k) (by omega) hk (show p' + 1≤p by omega)
        omega
    subst hp
    rw [e,e',Unr.fn C (by omega) (by omega) h4 h4']
theorem Unr.len : ∀ {n k : Nat} {i : Int} {y : List Int},Unr V n k i y→y.length=n
  | 0,_,_,_,h=>by rw [h.2.2];rfl
  | n+1,k,i,y,⟨p,ys,e,_,_,_,h4⟩=>by rw [e,List.length_cons,Unr.len h4]
theorem pval_sz (p : Nat) : (pval p=(psz p : Int)∧p % 2=1)∨(pval p = -(psz p : Int)∧p % 2=0):=by
  unfold pval psz
  split
  · left;exact ⟨rfl,by assumption⟩
  · right;exact ⟨by congr 2;omega,by omega⟩
theorem pval_of (v : Int) : ∃ p,pval p=v∧(psz p : Int)=if v < 0 then -v else v:=by
  by_cases h : 0 < v
  · refine ⟨2 * v.toNat - 1, ?_, ?_⟩
    · unfold pval
      rw [if_pos (by omega)]
      omega
    · unfold psz
      rw [if_neg (by omega)]
      omega
  · refine ⟨2 * (-v).toNat, ?_, ?_⟩
    · unfold pval
      rw [if_neg (by omega)]
      omega
    · unfold psz
      split <;> omega

def sz (v : Int) : Int:=if -12≤v∧v≤12 then (if v < 0 then -v else v) else 13
def szs : List Int→Int
  | []=>0
  | v :: l=>sz v+szs l
theorem sz_in (v : Int) : 0≤sz v∧sz v≤13:=by
  unfold sz
  split
  · split <;> omega
  · omega
theorem szs_in : ∀ l : List Int,0≤szs l∧szs l≤13 * l.length
  | []=>by simp [szs]
  | v :: l=>by
    have:=szs_in l
    have:=sz_in v
    simp only [szs,List.length_cons]
    omega
theorem sz_pval {p : Nat} (h : psz p≤12) : sz (pval p)=psz p:=by
  unfold sz
  rcases pval_sz p with ⟨e,_⟩ | ⟨e,_⟩
  · rw [e,if_pos (by omega),if_neg (by omega)]
  · rw [e,if_pos (by omega)]
    split <;> omega
theorem size_f {v : Int} : comb_size.f v=some (sz v):=by
  unfold comb_size.f sz
  by_cases h : v < -12
  · rw [if_pos h,if_neg (by omega)]
  · rw [if_neg h]
    by_cases h' : v > 12
    · rw [if_pos h',if_neg (by omega)]
    · rw [if_neg h',if_pos (by omega),w64 (by omega) (by omega)]
      unfold mx
      congr 1
      by_cases h0 : v < 0
      · rw [if_pos (by omega),if_pos h0]
      · rw [if_neg (by omega),if_neg h0]
theorem Unr.szs : ∀ {n k : Nat} {i : Int} {y : List Int},k < 13→Unr V n k i y→szs y=k
  | 0,_,_,_,_,h=>by rw [h.2.2,h.1];rfl
  | n+1,k,i,y,hk,⟨p,ys,e,h1,_,_,h4⟩=>by
    rw [e]
    show sz (pval p)+Com.szs ys=k
    rw [sz_pval (by omega),Unr.szs (by omega) h4]
    omega
theorem Unr.ex (C : Cnt V) : ∀ (y : List Int) (k : Nat),y.length≤16→Com.szs y=k→k < 13→∃ i,0≤i∧i < V y.length k∧Unr V y.length k i y
  | [],k,_,h,hk=>by
    obtain rfl : k=0:=by simpa [Com.szs] using h.symm
    refine ⟨0,by decide, ?_,rfl,rfl,rfl⟩
    rw [show ([] : List Int).length=0 from rfl,C.zero (by decide)]
    decide
  | v :: ys,k,hl,h,hk=>by
    simp only [Com.szs] at h
    simp only [List.length_cons] at hl ⊢
    obtain ⟨p,hp,hps⟩:=pval_of v
    have h1:=sz_in v
    have h2:=szs_in ys
    have hv : -12≤v∧v≤12:=by
      unfold sz at h
      split at h
      · assumption
      · omega
    have hsz : sz v=psz p:=by
      unfold sz
      rw [if_pos hv,hps]
    obtain ⟨i,i0,i1,hi⟩:=Unr.ex C ys (k - psz p) (by omega) (by omega) (by omega)
    have e1 : P V ys.length k (p+1)=P V ys.length k p+V ys.length (k - psz p):=P_succ _ _ _ _
    have m1:=P_mono C (n:=ys.length) (k:=k) (by omega) hk (show p+1≤2 * k+1 by unfold psz at hsz;omega)
    have m2:=P_nn C (n:=ys.length) (k:=k) (by omega) hk p
    rw [P_top C (by omega) hk] at m1
    refine ⟨P V ys.length k p+i,by omega,by omega,p,ys,by rw [hp],by omega,by omega,by omega, ?_⟩
    rw [show P V ys.length k p+i - P V ys.length k p=i by omega]
    exact hi

theorem index_l2 (C : Cnt V) {y : List Int} {n kk s : Nat} (hn : n < 17) (hkk : kk < 13) (hs : s≤kk) (v at_ : Int) (a : Int) (ha : 0≤a) (ha1 : a≤10000000000000000) : ∀ (e d k : Nat),d+1+e=s →
    comb_Index.l2 (k+e+1) y (kk : Int) (a+P V n kk (2 * d+1)) v (n : Int) (s : Int) ((d+1 : Nat) : Int) y (y.length : Int) at_ =
      (if v < 0 then (comb_table.f (n : Int) (wrap64 ((kk : Int) - (s : Int)))).bind fun t119=>comb_Index.l1 k y (wrap64 ((kk : Int) - (s : Int))) (IntKind.u64.wrap (a+P V n kk (2 * (s - 1)+1)+t119)) y (y.length : Int) (wrap64 (at_+1)) else comb_Index.l1 k y (wrap64 ((kk : Int) - (s : Int))) (a+P V n kk (2 * (s - 1)+1)) y (y.length : Int) (wrap64 (at_+1))):=by
  intro e
  induction e with
  | zero =>
    intro d k h
    obtain rfl : d=s - 1:=by omega
    rw [comb_Index.l2,if_neg (by omega)]
  | succ e ih =>
    intro d k h
    have hp:=P_nn C hn hkk (2 * d+1)
    have hV:=VV C hn (show kk - (d+1) < 13 by omega)
    have hP : P V n kk (2 * d+1)≤26 * 1000000000000:=by
      have : ∀ m,m≤26→P V n kk m≤m * 1000000000000:=by
        intro m
        induction m with
        | zero=>intro _;exact Int.le_refl _
        | succ m ihm =>
          intro hm
          have:=ihm (by omega)
          have:=(VV C hn (show kk - psz m < 13 by omega)).2
          rw [P_succ]
          omega
      have:=this (2 * d+1) (by omega)
      omega
    rw [show k+(e+1)+1=(k+e+1)+1 by omega,comb_Index.l2,if_pos (by omega),w64 (x:=(kk : Int) - ((d+1 : Nat) : Int)) (by omega) (by omega),show (kk : Int) - ((d+1 : Nat) : Int)=((kk - (d+1) : Nat) : Int) by omega,C.table hn (by omega),Option.bind_some,u64 (x:=2 * V n (kk - (d+1))) (by omega) (by omega),u64 (by omega) (by omega),w64 (x:=((d+1 : Nat) : Int)+1) (by omega) (by omega),show ((d+1 : Nat) : Int)+1=((d+1+1 : Nat) : Int) by omega]
    have h1:=ih (d+1) k (by omega)
    rw [P_odd] at h1
    rw [Int.add_assoc]
    exact h1
theorem P_le (C : Cnt V) {n k : Nat} (hn : n < 17) (hk : k < 13) : ∀ p,P V n k p≤p * 1000000000000
  | 0=>Int.le_refl _
  | p+1=>by
    have:=P_le C hn hk p
    have:=(VV C hn (show k - psz p < 13 by omega)).2
    rw [P_succ]
    omega
theorem index_l1 (C : Cnt V) {y : List Int} (hy : y.length≤16) : ∀ (n kk at_ k : Nat) (i a : Int),at_+n=y.length→kk < 13→Unr V n kk i (y.drop at_)→0≤a→a≤100000000000000 * at_→30 * n+2≤k →
    comb_Index.l1 k y (kk : Int) a y (y.length : Int) (at_ : Int)=some (a+i,0)
  | 0,kk,at_,k,i,a,h,hkk,hu,ha,ha1,hk=>by
    obtain ⟨q,rfl⟩ : ∃ q,k=q+1:=⟨k - 1,by omega⟩
    rw [comb_Index.l1,if_neg (by omega),hu.2.1,Int.add_zero]
  | n+1,kk,at_,k,i,a,h,hkk,⟨p,ys,e,h1,h2,h3,h4⟩,ha,ha1,hk=>by
    have hat : at_ < y.length:=by omega
    have hd : y.drop (at_+1)=ys:=by
      rw [List.drop_eq_getElem_cons hat] at e
      exact (List.cons.inj e).2
    have hv : y[at_]=pval p:=by
      rw [List.drop_eq_getElem_cons hat] at e
      exact (List.cons.inj e).1
    have hpn:=P_nn C (n:=n) (by omega) hkk p
    have hpl:=P_le C (n:=n) (by omega) hkk p
    have hp24 : p≤24:=by unfold psz at h1;omega
    have ih:=fun q hq=>index_l1 C hy n (kk - psz p) (at_+1) q (i - P V n kk p) (a+P V n kk p) (by omega) (by omega) (by rw [hd];exact h4) (by omega) (by omega) hq
    have hn : Aside0 (wrap64 (wrap64 ((y.length : Int) - (at_ : Int)) - 1)=(n : Int)):=⟨by rw [w64 (x:=(y.length : Int) - at_) (by omega) (by omega),w64 (by omega) (by omega)];omega⟩
    have hk1 : Aside0 (wrap64 ((kk : Int) - (psz p : Int))=((kk - psz p : Nat) : Int)):=⟨by rw [w64 (by omega) (by omega)];omega⟩
    have hat1 : Aside0 (wrap64 ((at_ : Int)+1)=((at_+1 : Nat) : Int)):=⟨by rw [w64 (by omega) (by omega)];omega⟩
    have hfin : a+P V n kk p+(i - P V n kk p)=a+i:=by omega
    rw [hfin] at ih
    have hV0:=VV C (show n < 17 by omega) hkk
    have hV1:=VV C (show n < 17 by omega) (show kk - psz p < 13 by omega)
    by_cases hs : psz p=0
    · obtain ⟨q,rfl⟩ : ∃ q,k=q+1+1+1:=⟨k - 3,by omega⟩
      have hp0 : p=0:=by unfold psz at hs;omega
      subst hp0
      rw [comb_Index.l1,if_pos (by omega),if_pos (by omega),if_pos (by omega),rd_at hat,hv,size_f,sz_pval (by omega),Option.bind_some,if_neg (by omega),comb_Index.j3,hn.out,comb_Index.l2,if_neg (by omega),if_neg (by decide),hk1.out,hat1.out]
      have:=ih q (by omega)
      rw [show P V n kk 0=0 from rfl,Int.add_zero] at this
      exact this
    · obtain ⟨q,rfl⟩ : ∃ q,k=(q+(psz p - 1)+1)+1+1:=⟨k - psz p - 2,by omega⟩
      have hps : p=2 * psz p - 1∨p=2 * psz p:=by unfold psz;omega
      rw [comb_Index.l1,if_pos (by omega),if_pos (by omega),if_pos (by omega),rd_at hat,hv,size_f,sz_pval (by omega),Option.bind_some,if_pos (by omega),hn.out,C.table (by omega) hkk,Option.bind_some,comb_Index.j3,u64 (by omega) (by omega)]
      have hl2:=index_l2 C (y:=y) (n:=n) (kk:=kk) (s:=psz p) (by omega) hkk h1 (pval p) (at_ : Int) a ha (by omega) (psz p - 1) 0 q (by omega)
      rw [show 2 * 0+1=1 from rfl,P_one] at hl2
      rw [show ((0+1 : Nat) : Int)=1 from rfl] at hl2
      rw [hl2,hk1.out,hat1.out]
      rcases pval_sz p with ⟨e1,e2⟩ | ⟨e1,e2⟩
      · rw [if_neg (by omega),show 2 * (psz p - 1)+1=p by omega]
        exact ih q (by omega)
      · have e3 : P V n kk p=P V n kk (2 * (psz p - 1)+1)+V n (kk - psz p):=by
          have h5 : p=(2 * (psz p - 1)+1)+1:=by omega
          have h6 : psz (2 * (psz p - 1)+1)=psz p:=by unfold psz;omega
          have h7:=P_succ V n kk (2 * (psz p - 1)+1)
          rw [h6, ← h5] at h7
          exact h7
        have hp3:=P_nn C (n:=n) (by omega) hkk (2 * (psz p - 1)+1)
        rw [if_pos (by omega),C.table (by omega) (by omega),Option.bind_some,u64 (by omega) (by omega),Int.add_assoc, ← e3]
        exact ih q (by omega)
theorem index_l0 {y : List Int} (hy : y.length≤1000) : ∀ (d i k : Nat) (a : Int),i+d=y.length→0≤a→a≤13 * i→comb_Index.l0 (k+d+1) y a y (y.length : Int) (i : Int)=if a+szs (y.drop i) > 12 then some (0,1) else comb_Index.l1 k y (a+szs (y.drop i)) 0 y (y.length : Int) 0:=by
  intro d
  induction d with
  | zero =>
    intro i k a h h0 h1
    rw [comb_Index.l0,if_neg (by omega),List.drop_eq_nil_of_le (by omega)]
    simp only [szs,Int.add_zero]
  | succ d ih =>
    intro i k a h h0 h1
    have hi : i < y.length:=by omega
    have hs:=sz_in y[i]
    rw [show k+(d+1)+1=(k+d+1)+1 by omega,comb_Index.l0,if_pos (by omega),if_pos (by omega),if_pos (by omega),rd_at hi,size_f,Option.bind_some,w64 (x:=a+sz y[i]) (by omega) (by omega),w64 (x:=(i : Int)+1) (by omega) (by omega),show (i : Int)+1=((i+1 : Nat) : Int) by omega,ih (i+1) k _ (by omega) (by omega) (by omega),List.drop_eq_getElem_cons hi]
    rw [show szs (y[i] :: y.drop (i+1))=sz y[i] + szs (y.drop (i+1)) from rfl,Int.add_assoc]
theorem index_f (C : Cnt V) {y : List Int} {n k : Nat} {i : Int} (hn : 1≤n) (hn' : n≤16) (hk : k < 13) (hu : Unr V n k i y) {q : Nat} (hq : 700≤q) : comb_Index.f q y=some (i,0):=by
  have hl:=hu.len
  obtain ⟨r,rfl⟩ : ∃ r,q=(r+y.length+1)+1:=⟨q - y.length - 2,by omega⟩
  unfold comb_Index.f
  rw [if_neg (by omega),decide_eq_false (by omega),comb_Index.j0,if_neg (by decide)]
  have h0:=index_l0 (y:=y) (by omega) y.length 0 r 0 (by omega) (by omega) (by omega)
  rw [List.drop_zero,Int.zero_add,Unr.szs hk hu,if_neg (by omega),show ((0 : Nat) : Int)=0 from rfl] at h0
  have h1:=index_l1 C (y:=y) (by omega) n k 0 r i 0 (by omega) hk (by rw [List.drop_zero];exact hu) (by omega) (by omega) (by omega)
  rw [Int.zero_add,show ((0 : Nat) : Int)=0 from rfl] at h1
  exact h0.trans h1
theorem index_bad {y : List Int} (hy : y.length≤100) (h : y.length < 1∨y.length > 16∨szs y > 12) {q : Nat} (hq : 700≤q) : comb_Index.f q y=some (0,1):=by
  obtain ⟨r,rfl⟩ : ∃ r,q=(r+y.length+1)+1:=⟨q - y.length - 2,by omega⟩
  unfold comb_Index.f
  by_cases h1 : y.length < 1
  · rw [if_pos (by omega),comb_Index.j0,if_pos rfl]
  · rw [if_neg (by omega)]
    by_cases h2 : y.length > 16
    · rw [decide_eq_true (by omega),comb_Index.j0,if_pos rfl]
    · rw [decide_eq_false (by omega),comb_Index.j0,if_neg (by decide)]
      have h0:=index_l0 (y:=y) (by omega) y.length 0 r 0 (by omega) (by omega) (by omega)
      rw [List.drop_zero,Int.zero_add,if_pos (by omega),show ((0 : Nat) : Int)=0 from rfl] at h0
      exact h0
end Go.Proofs.Ytifkhfnmbiefaaa.Com
/- Pulse vectors, their sizes and numbers: see ComV, ComM. -/
/- A rounded list has nearly the norm that it should have: plain arithmetic, no program in sight. -/
namespace Go.Proofs.Ytifkhfnmbiefaaa.PvqN
theorem sq_le {p q : Int} (hp : 0≤p) (h : q * q≤p * p) : q≤p:=by
  apply Int.not_lt.mp
  intro hlt
  have h1 : p * p≤p * q:=Int.mul_le_mul_of_nonneg_left (by omega) hp
  have h2 : p * q < q * q:=Int.mul_lt_mul_of_pos_right hlt (by omega)
  omega
theorem sq_nonneg (a : Int) : 0≤a * a:=by
  rcases Int.le_total 0 a with h|h
  · exact Int.mul_nonneg h h
  · exact Int.mul_nonneg_of_nonpos_of_nonpos h h
theorem two_mul_le (a b : Int) : 4 * (a * b)≤(a+b) * (a+b):=by
  have:=sq_nonneg (a - b)
  grind
def S2 : List Int→Int
  | []=>0
  | a :: l=>a * a+S2 l
def D2 : List Int→List Int→Int
  | a :: l,b :: m=>a * b+D2 l m
  | _,_=>0
theorem S2_nonneg (l : List Int) : 0≤S2 l:=by
  induction l with
  | nil=>exact Int.le_refl _
  | cons a l ih=>have:=sq_nonneg a;simp only [S2];omega
theorem cs (a b : List Int) : D2 a b * D2 a b≤S2 a * S2 b:=by
  induction a generalizing b with
  | nil=>simp [D2,S2]
  | cons x a ih =>
    cases b with
    | nil=>simp [D2,S2]
    | cons y b =>
      have h:=ih b
      simp only [D2,S2]
      generalize D2 a b=B at h ⊢
      have hA:=S2_nonneg a
      have hC:=S2_nonneg b
      generalize S2 a=A at h hA ⊢
      generalize S2 b=C at h hC ⊢
      have hy:=sq_nonneg y
      have hx:=sq_nonneg x
      have hp : 0≤A * (y * y)+x * x * C:=Int.add_nonneg (Int.mul_nonneg hA hy) (Int.mul_nonneg hx hC)
      have hq : (2 * B * x * y) * (2 * B * x * y)≤(A * (y * y)+x * x * C) * (A * (y * y)+x * x * C):=by
        have h1:=two_mul_le (A * (y * y)) (x * x * C)
        have h2 : (B * B) * ((x * x) * (y * y))≤(A * C) * ((x * x) * (y * y)):=Int.mul_le_mul_of_nonneg_right h (Int.mul_nonneg hx hy)
        grind
      have:=sq_le hp hq
      grind
def Near (r N : Int) : List Int→List Int→Prop
  | y :: l,x :: m=>(-N≤2 * (N * x - 256 * r * y)∧2 * (N * x - 256 * r * y)≤N)∧Near r N l m
  | [], []=>True
  | _,_=>False
theorem Near.len {r N : Int} : ∀ {y x : List Int},Near r N y x→x.length=y.length
  | [], [],_=>rfl
  | [],_ :: _,h=>by simp [Near] at h
  | _ :: _, [],h=>by simp [Near] at h
  | _ :: _,_ :: _,h=>by simp only [Near] at h;simp [Near.len h.2]
theorem mul_mono {a b c d : Int} (ha : 0≤a) (hc : 0≤c) (h : a≤b) (k : c≤d) : a * c≤b * d :=
  Int.le_trans (Int.mul_le_mul_of_nonneg_right h hc) (Int.mul_le_mul_of_nonneg_left k (by omega))
end Go.Proofs.Ytifkhfnmbiefaaa.PvqN
/- Lists of bytes as numbers: plain arithmetic, no program in sight. -/
namespace Go.Proofs.Ytifkhfnmbiefaaa.Val
open Go.RowKit Go.Proofs.YtifkhfnmbiefaaaW.PrintWords

theorem u64w {x : Int} (h0 : 0≤x) (h1 : x≤18446744073709551615) : IntKind.u64.wrap x=x:=IntWalk.u64_in x ⟨h0,h1⟩
theorem i64w {x : Int} (h0 : -9223372036854775808≤x) (h1 : x≤9223372036854775807) : wrap64 x=x:=by unfold wrap64;omega
theorem tdiv_nn {a b : Int} (h : 0≤a) : Int.tdiv a b=a / b:=Int.tdiv_eq_ediv_of_nonneg h
theorem tmod_nn {a b : Int} (h : 0≤a) : Int.tmod a b=a % b:=Int.tmod_eq_emod_of_nonneg h
theorem u64_fit (n : Int) (h₀ : 0≤n) (h₁ : n < 2 ^ 64) : IntKind.u64.wrap n=n:=u64w h₀ (by omega)
theorem and32 {x : Int} (h₀ : 0≤x) (h₁ : x≤18446744073709551615) : Go.bits .and .u64 x 4294967295=x % 4294967296:=by
  have h:=bits_mask .u64 64 (by decide) u64_fit 32 (by decide) x h₀ (by omega)
  exact h
theorem or8 {x y : Int} (hx : 0≤x) (hx1 : x≤18446744073709551615) (hm : x % 256=0) (hy : 0≤y) (hy1 : y < 256) : Go.bits .or .u64 x y=x+y :=
  bits_join .u64 64 (by decide) u64_fit 8 x y hx (by simpa using hm) (by omega) hy (by omega) (by omega)
theorem or16 {x y : Int} (hx : 0≤x) (hx1 : x≤18446744073709551615) (hm : x % 65536=0) (hy : 0≤y) (hy1 : y < 65536) : Go.bits .or .u64 x y=x+y :=
  bits_join .u64 64 (by decide) u64_fit 16 x y hx (by simpa using hm) (by omega) hy (by omega) (by omega)
theorem or24 {x y : Int} (hx : 0≤x) (hx1 : x≤18446744073709551615) (hm : x % 16777216=0) (hy : 0≤y) (hy1 : y < 16777216) : Go.bits .or .u64 x y=x+y :=
  bits_join .u64 64 (by decide) u64_fit 24 x y hx (by simpa using hm) (by omega) hy (by omega) (by omega)

def Bytes (l : List Int) : Prop := ∀ x ∈ l,0≤x∧x < 256
theorem Bytes.nil : Bytes []:=fun _ h=>by cases h
theorem Bytes.append {l m : List Int} (h : Bytes l) (k : Bytes m) : Bytes (l ++ m):=fun x hx=>(List.mem_append.1 hx).elim (h x) (k x)
theorem Bytes.left {l m : List Int} (h : Bytes (l ++ m)) : Bytes l:=fun x hx=>h x (List.mem_append_left _ hx)
theorem Bytes.right {l m : List Int} (h : Bytes (l ++ m)) : Bytes m:=fun x hx=>h x (List.mem_append_right _ hx)
theorem Bytes.one {x : Int} (h : 0≤x) (h' : x < 256) : Bytes [x]:=fun y hy=>by rw [List.mem_singleton.1 hy];exact ⟨h,h'⟩
theorem Bytes.take {l : List Int} (h : Bytes l) (n : Nat) : Bytes (l.take n):=fun x hx=>h x (List.mem_of_mem_take hx)
theorem Bytes.rd {l : List Int} (h : Bytes l) (i : Int) : 0≤rd l i∧rd l i < 256:=by
  unfold Go.Proofs.YtifkhfnmbiefaaaW.PrintWords.rd
  rw [List.getD_eq_getElem?_getD]
  cases he : l[i.toNat]? with
  | none=>exact ⟨by decide,by decide⟩
  | some y=>exact h y (List.mem_of_getElem? he)
theorem Bytes.set {l : List Int} (h : Bytes l) (n : Nat) {x : Int} (h0 : 0≤x) (h1 : x < 256) : Bytes (l.set n x):=fun y hy=>by
  rcases List.mem_or_eq_of_mem_set hy with hy|rfl
  · exact h y hy
  · exact ⟨h0,h1⟩

theorem snocRec {α : Type} {motive : List α→Prop} (l : List α) (nil : motive []) (snoc : ∀ (l : List α) (x : α),motive l→motive (l ++ [x])) : motive l:=by
  have key : ∀ (n : Nat) (l : List α),l.length=n→motive l:=by
    intro n
    induction n with
    | zero=>intro l hl;rw [List.length_eq_zero_iff.1 hl];exact nil
    | succ n ih =>
      intro l hl
      rcases List.eq_nil_or_concat l with rfl | ⟨m,y,rfl⟩
      · exact nil
      · rw [List.concat_eq_append] at *
        exact snoc m y (ih m (by simpa using hl))
  exact key _ l rfl
def val (l : List Int) : Int:=l.foldl (fun a x=>a * 256+x) 0
def pw (n : Nat) : Int:=256 ^ n
theorem pw_pos (n : Nat) : 0 < pw n:=Int.pow_pos (by decide)
theorem pw_zero : pw 0=1:=rfl
theorem pw_succ (n : Nat) : pw (n+1)=256 * pw n:=by unfold pw;rw [Int.pow_succ,Int.mul_comm]
theorem pw_add (m n : Nat) : pw (m+n)=pw m * pw n:=by unfold pw;exact Int.pow_add 256 m n
theorem val_nil : val []=0:=rfl
theorem val_snoc (l : List Int) (x : Int) : val (l ++ [x])=val l * 256+x:=by simp [val]
theorem val_append (l m : List Int) : val (l ++ m)=val l * pw m.length+val m:=by
  induction m using snocRec with
  | nil=>simp [pw_zero,val_nil]
  | snoc m x ih =>
    rw [← List.append_assoc,val_snoc,ih,val_snoc,List.length_append,List.length_singleton,pw_succ]
    generalize val l=a
    generalize pw m.length=p
    generalize val m=b
    rw [Int.add_mul,Int.mul_assoc,Int.mul_comm p 256];omega
theorem val_bound {l : List Int} (h : Bytes l) : 0≤val l∧val l < pw l.length:=by
  induction l using snocRec with
  | nil=>exact ⟨by decide,by decide⟩
  | snoc l x ih =>
    have h1:=ih h.left
    have h2:=h x (by simp)
    rw [val_snoc,List.length_append,List.length_singleton,pw_succ]
    omega
def four (n : Int) : List Int := [n / 16777216 % 256,n / 65536 % 256,n / 256 % 256,n % 256]
theorem four_bytes (n : Int) : Bytes (four n):=fun x hx=>by simp only [four,List.mem_cons,List.not_mem_nil,or_false] at hx;omega
theorem four_val {n : Int} (h0 : 0≤n) (h1 : n < 4294967296) : val (four n)=n:=by simp only [val,four,List.foldl];omega
theorem four_length (n : Int) : (four n).length=4:=rfl
theorem rd_mid (a b : List Int) (x : Int) (n : Int) (hn : n=(a.length : Int)) : rd (a ++ x :: b) n=x:=by
  subst hn
  unfold Go.Proofs.YtifkhfnmbiefaaaW.PrintWords.rd
  simp
theorem set_mid (a b : List Int) (x v : Int) (n : Int) (hn : n=(a.length : Int)) : (a ++ x :: b).set n.toNat v=a ++ v :: b:=by
  subst hn
  simp
theorem ex_snoc {n : Nat} {a : List Int} (h : a.length=n+1) : ∃ a0 x,a=a0 ++ [x]∧a0.length=n:=by
  rcases List.eq_nil_or_concat a with rfl | ⟨m,y,rfl⟩
  · simp at h
  · rw [List.concat_eq_append] at *
    exact ⟨m,y,rfl,by simpa using h⟩
end Go.Proofs.Ytifkhfnmbiefaaa.Val
/- pvq: coefficients, norms and sizes: what the program's functions and the document's come to, on lists. -/
namespace Go.Proofs.Ytifkhfnmbiefaaa.Pvq
open Go Go.RowKit Go.Proofs.YtifkhfnmbiefaaaW.PrintWords Go.Proofs.Ytifkhfnmbiefaaa.Prt Go.Proofs.Ytifkhfnmbiefaaa.Com Go.Proofs.Ytifkhfnmbiefaaa.PvqN
set_option linter.unusedVariables false
set_option linter.unusedSimpArgs false
theorem w_succ {i n : Nat} (h : i < n) (hn : n≤1000) : wrap64 ((i : Int)+1)=((i+1 : Nat) : Int):=by rw [w64 (by omega) (by omega)];omega
theorem drop_at {l : List Int} {i : Nat} (h : i < l.length) : l.drop i=l[i] :: l.drop (i+1):=List.drop_eq_getElem_cons h
theorem drop_end {l : List Int} {i : Nat} (h : l.length≤i) : l.drop i = []:=List.drop_eq_nil_of_le h
def In (v : Int) : Prop := -1048576≤v∧v≤1048576
instance (v : Int) : Decidable (In v):=by unfold In;infer_instance
def Fr (l : List Int) : Prop:=1≤l.length∧l.length≤16∧∀ v ∈ l,In v
instance (l : List Int) : Decidable (Fr l):=by unfold Fr;infer_instance
theorem clamp_in {v : Int} (h : In v) : num_Clamp.f v (-1048576) 1048576=some v:=by
  unfold In at h;unfold num_Clamp.f;rw [if_neg (by omega),if_neg (by omega)]
theorem clamp_out {v : Int} (h : ¬ In v) : ∃ u,num_Clamp.f v (-1048576) 1048576=some u∧v≠u:=by
  unfold In at h;unfold num_Clamp.f
  by_cases h1 : v < -1048576
  · exact ⟨_,by rw [if_pos h1],by omega⟩
  · exact ⟨_,by rw [if_neg h1,if_pos (by omega)],by omega⟩
theorem fair_l0 {l : List Int} (hl : l.length≤100) : ∀ (d i : Nat),i+d=l.length→Ev (fun k=>pvq_fair.l0 k l l (l.length : Int) (i : Int)) (decide (1≤l.length∧l.length≤16∧∀ v ∈ l.drop i,In v))
  | 0,i,h=>by
    refine Ev.step (f:=fun _=>some (decide (1≤l.length∧l.length≤16∧∀ v ∈ l.drop i,In v))) (fun k => ?_) (Ev.now _)
    rw [pvq_fair.l0,if_neg (by omega),drop_end (by omega)]
    by_cases h1 : 1≤l.length
    · rw [if_pos (by omega)];simp [h1];omega
    · rw [if_neg (by omega)];simp [h1]
  | d+1,i,h=>by
    have hi : i < l.length:=by omega
    have ih:=fair_l0 hl d (i+1) (by omega)
    by_cases hv : In l[i]
    · refine Ev.step (f:=fun k=>pvq_fair.l0 k l l (l.length : Int) ((i+1 : Nat) : Int)) (fun k => ?_) ?_
      · rw [pvq_fair.l0,if_pos (by omega),if_pos (by omega),if_pos (by omega),rd_at hi,clamp_in hv,Option.bind_some,if_pos rfl,w_succ hi (by omega)]
      · rw [drop_at hi];simpa [hv, -List.getElem_cons_drop] using ih
    · obtain ⟨u,hu,hne⟩:=clamp_out hv
      refine Ev.step (f:=fun _=>some _) (fun k => ?_) (Ev.now _)
      rw [pvq_fair.l0,if_pos (by omega),if_pos (by omega),if_pos (by omega),rd_at hi,hu,Option.bind_some,if_neg hne,drop_at hi]
      simp [hv, -List.getElem_cons_drop]
theorem fair_f {l : List Int} (hl : l.length≤100) : Ev (fun k=>pvq_fair.f k l) (decide (Fr l)):=fair_l0 hl l.length 0 (by omega)
theorem rfair_l0 {l : List Int} (hl : l.length≤100) : ∀ (d i : Nat) (b : Bool),i+d=l.length→Ev (fun k=>r07_Fair.l0 k l b (i : Int)) (b && decide (∀ v ∈ l.drop i,In v))
  | 0,i,b,h=>by
    refine Ev.step (f:=fun _=>some _) (fun k => ?_) (Ev.now _)
    rw [r07_Fair.l0,if_neg (by omega),drop_end (by omega)]
    simp
  | d+1,i,b,h=>by
    have hi : i < l.length:=by omega
    cases b with
    | false =>
      refine Ev.step (f:=fun k=>r07_Fair.l0 k l false ((i+1 : Nat) : Int)) (fun k => ?_) (by simpa using rfair_l0 hl d (i+1) false (by omega))
      rw [r07_Fair.l0,if_pos (by omega),if_neg (by decide),w_succ hi (by omega)]
    | true =>
      refine Ev.step (f:=fun k=>r07_Fair.l0 k l (decide (In l[i])) ((i+1 : Nat) : Int)) (fun k => ?_) ?_
      · rw [r07_Fair.l0,if_pos (by omega),if_pos rfl,if_pos (by omega),rd_at hi,w_succ hi (by omega)]
        by_cases h1 : l[i] ≥ -1048576
        · have e : decide (In l[i])=decide (l[i]≤1048576):=by rw [Bool.eq_iff_iff,decide_eq_true_iff,decide_eq_true_iff];exact ⟨fun h=>h.2,fun h=>⟨h1,h⟩⟩
          rw [if_pos h1,e]
        · have e : decide (In l[i])=false:=decide_eq_false (fun h=>h1 h.1)
          rw [if_neg h1,e]
      · have ih:=rfair_l0 hl d (i+1) (decide (In l[i])) (by omega)
        rw [drop_at hi];simpa [-List.getElem_cons_drop] using ih
theorem rfair_f {l : List Int} (hl : l.length≤100) : Ev (fun k=>r07_Fair.f k l) (decide (Fr l)):=by
  have hj : ∀ b : Bool,Ev (fun k=>r07_Fair.j0 k l b) (b && decide (∀ v ∈ l,In v)):=fun b =>
    Ev.step (fun k=>by rw [r07_Fair.j0];rfl) (rfair_l0 hl l.length 0 b (by omega))
  by_cases h : 1≤l.length
  · refine Ev.congr (f:=fun k=>r07_Fair.j0 k l (decide ((l.length : Int)≤16))) (fun k => ?_) ?_
    · rw [r07_Fair.f,if_pos (by omega)]
    · have:=hj (decide ((l.length : Int)≤16))
      have e : decide (Fr l)=(decide ((l.length : Int)≤16) && decide (∀ v ∈ l,In v)):=by
        rw [Bool.eq_iff_iff,Bool.and_eq_true,decide_eq_true_iff,decide_eq_true_iff,decide_eq_true_iff];constructor
        · rintro ⟨_,b,c⟩;exact ⟨by omega,c⟩
        · rintro ⟨b,c⟩;exact ⟨h,by omega,c⟩
      rw [e];exact this
  · refine Ev.congr (f:=fun k=>r07_Fair.j0 k l false) (fun k => ?_) ?_
    · rw [r07_Fair.f,if_neg (by omega)]
    · have:=hj false
      have e : decide (Fr l)=false:=decide_eq_false (fun x=>h x.1)
      rw [e];simpa using this
theorem sq_in {v c : Int} (h0 : -c≤v) (h1 : v≤c) : 0≤v * v∧v * v≤c * c:=by
  refine ⟨sq_nonneg v, ?_⟩
  have : 0≤(c - v) * (c+v):=Int.mul_nonneg (by omega) (by omega)
  grind
def mag (v : Int) : Int:=if v < 0 then -v else v
theorem mag_nn (v : Int) : 0≤mag v:=by unfold mag;split <;> omega
theorem mag_in {v : Int} (h : In v) : mag v≤1048576:=by unfold In at h;unfold mag;split <;> omega
theorem S2_le {c : Int} (hc : 0≤c) : ∀ {l : List Int},(∀ v ∈ l, -c≤v∧v≤c)→S2 l≤c * c * (l.length : Int)
  | [],_=>by simp [S2]
  | v :: l,h=>by
    have:=S2_le hc (l:=l) (fun u hu=>h u (List.mem_cons_of_mem _ hu))
    have:=sq_in (h v (List.mem_cons_self)).1 (h v (List.mem_cons_self)).2
    simp only [S2,List.length_cons,Int.natCast_add,Int.cast_ofNat_Int]
    grind
theorem square_l0 {l : List Int} (hf : Fr l) : ∀ (d i : Nat) (s : Int),i+d=l.length→0≤s→s≤1099511627776 * i→Ev (fun k=>pvq_Square.l0 k s l (l.length : Int) (i : Int)) (s+S2 (l.drop i),0)
  | 0,i,s,h,_,_=>by
    refine Ev.step (f:=fun _=>some _) (fun k => ?_) (Ev.now _)
    rw [pvq_Square.l0,if_neg (by omega),drop_end (by omega)]
    simp [S2]
  | d+1,i,s,h,h0,h1=>by
    have hi : i < l.length:=by omega
    have hv : In l[i]:=hf.2.2 _ (List.getElem_mem hi)
    have hq:=sq_in hv.1 hv.2
    have hn:=hf.2.1
    refine Ev.step (f:=fun k=>pvq_Square.l0 k (s+l[i] * l[i]) l (l.length : Int) ((i+1 : Nat) : Int)) (fun k => ?_) ?_
    · rw [pvq_Square.l0,if_pos (by omega),if_pos (by omega),if_pos (by omega),rd_at hi,w_succ hi (by omega),w64 (x:=l[i] * l[i]) (by omega) (by omega),u64 (x:=l[i] * l[i]) (by omega) (by omega),u64 (by omega) (by omega)]
    · have ih:=square_l0 hf d (i+1) (s+l[i] * l[i]) (by omega) (by omega) (by omega)
      rw [drop_at hi,S2, ← Int.add_assoc];exact ih
theorem square_ok {l : List Int} (hf : Fr l) : Ev (fun k=>pvq_Square.f k l) (S2 l,0):=by
  have h:=square_l0 hf l.length 0 0 (by omega) (by omega) (by omega)
  have hn:=hf.2.1
  refine Ev.bind (fair_f (by omega)) ?_
  refine Ev.congr (f:=fun k=>pvq_Square.l0 k 0 l (l.length : Int) 0) (fun k => ?_) ?_
  · rw [if_pos (by simpa using hf)]
  · rw [Int.zero_add,List.drop_zero] at h;exact h
theorem square_bad {l : List Int} (hl : l.length≤100) (hf : ¬ Fr l) : Ev (fun k=>pvq_Square.f k l) (0,1):=by
  refine Ev.bind (fair_f hl) ?_
  refine Ev.congr (f:=fun _=>some (0,1)) (fun k => ?_) (Ev.now _)
  rw [if_neg (by simpa using hf)]
def All (c : Int) (l : List Int) : Prop := ∀ v ∈ l,mag v < c
instance (c : Int) (l : List Int) : Decidable (All c l):=by unfold All;infer_instance
def hal (l : List Int) : Nat:=if All 262144 l then 0 else if All 524288 l then 1 else if All 1048576 l then 2 else 3
def As (l : List Int) : List Int:=l.map fun v=>mag v / 2 ^ hal l
theorem As_len (l : List Int) : (As l).length=l.length:=by simp [As]
theorem As_in {l : List Int} (hf : ∀ v ∈ l,In v) : ∀ a ∈ As l,0≤a∧a < 262144:=by
  intro a ha
  obtain ⟨v,hv,rfl⟩:=List.mem_map.1 ha
  have h0:=mag_nn v
  have h1:=mag_in (hf v hv)
  unfold hal
  split
  · rename_i h;have:=h v hv;simp;omega
  · split
    · rename_i h;have:=h v hv;simp only [Nat.pow_one,Int.pow_succ,Int.pow_zero];omega
    · split
      · rename_i h;have:=h v hv;simp only [Int.pow_succ,Int.pow_zero];omega
      · simp only [Int.pow_succ,Int.pow_zero];omega
theorem shr_nat (x : Int) (n : Nat) (h : n≤64) : shr .i64 x (n : Int)=x / 2 ^ n:=by
  unfold shr;rw [Int.toNat_natCast,Nat.min_eq_left (by simpa [IntKind.bits] using h)]
theorem mx_mag {v : Int} (h : In v) : mx v (wrap64 (-v))=mag v:=by
  unfold In at h;rw [w64 (by omega) (by omega)];unfold mx mag;split <;> split <;> omega
def tops (x : Int) : List Int→Int
  | []=>x
  | v :: l=>tops (mx (mx x v) (wrap64 (-v))) l
theorem tops_lt {c : Int} : ∀ {l : List Int} {x : Int},(∀ v ∈ l,In v)→(tops x l < c ↔ x < c∧All c l)
  | [],x,_=>by simp [tops,All]
  | v :: l,x,h=>by
    have hv:=h v List.mem_cons_self
    have ih:=tops_lt (c:=c) (l:=l) (x:=mx (mx x v) (wrap64 (-v))) (fun u hu=>h u (List.mem_cons_of_mem _ hu))
    have e : mx (mx x v) (wrap64 (-v)) < c ↔ x < c∧mag v < c:=by
      unfold In at hv;rw [w64 (by omega) (by omega)];unfold mx mag;split <;> split <;> split <;> omega
    simp only [tops]
    rw [ih,e]
    unfold All
    simp only [List.mem_cons,forall_eq_or_imp]
    constructor
    · rintro ⟨⟨a,b⟩,d⟩;exact ⟨a,b,d⟩
    · rintro ⟨a,b,d⟩;exact ⟨⟨a,b⟩,d⟩
theorem tops_nn : ∀ {l : List Int} {x : Int},0≤x→0≤tops x l
  | [],x,h=>h
  | v :: l,x,h=>by
    simp only [tops]
    exact tops_nn (by unfold mx;split <;> split <;> omega)
theorem sizes_l2 {l : List Int} (hf : Fr l) {n : Nat} (hn : n≤3) : ∀ (d i : Nat) (y : List Int),i+d=l.length→y.length=l.length→Ev (fun k=>pvq_sizes.l2 k (n : Int) y l (l.length : Int) (i : Int)) (y.take i ++ (l.drop i).map (fun v=>mag v / 2 ^ n))
  | 0,i,y,h,hy=>by
    refine Ev.step (f:=fun _=>some _) (fun k => ?_) (Ev.now _)
    rw [pvq_sizes.l2,if_neg (by omega),drop_end (by omega),List.map_nil,List.append_nil,List.take_of_length_le (by omega)]
  | d+1,i,y,h,hy=>by
    have hi : i < l.length:=by omega
    have hv : In l[i]:=hf.2.2 _ (List.getElem_mem hi)
    have hl:=hf.2.1
    refine Ev.step (f:=fun k=>pvq_sizes.l2 k (n : Int) (y.set i (mag l[i] / 2 ^ n)) l (l.length : Int) ((i+1 : Nat) : Int)) (fun k => ?_) ?_
    · rw [pvq_sizes.l2,if_pos (by omega),if_pos (by omega),if_pos (by omega),rd_at hi,mx_mag hv,num_Shift.f,if_neg (by omega),if_neg (by omega),u64 (by omega) (by omega),if_pos (by omega),Option.bind_some,if_pos (by omega),w_succ hi (by omega),shr_nat _ _ (by omega),Int.toNat_natCast]
    · have ih:=sizes_l2 hf hn d (i+1) (y.set i (mag l[i] / 2 ^ n)) (by omega) (by simpa using hy)
      have e : (y.set i (mag l[i] / 2 ^ n)).take (i+1) ++ (l.drop (i+1)).map (fun v=>mag v / 2 ^ n)=y.take i ++ (l.drop i).map (fun v=>mag v / 2 ^ n):=by
        rw [drop_at hi,List.map_cons,List.take_succ_eq_append_getElem (by simp;omega),List.getElem_set_self,List.append_assoc,List.take_set_of_le (Nat.le_refl i)]
        rfl
      rw [e] at ih;exact ih
theorem sizes_go {l : List Int} (hf : Fr l) {n : Nat} (hn : n≤3) {t : Int} (h : t / 2 ^ n < 262144) : Ev (fun k=>pvq_sizes.l1 k l t (n : Int)) (l.map fun v=>mag v / 2 ^ n):=by
  have hl:=hf.2.1
  refine Ev.step (f:=fun k=>pvq_sizes.l2 k (n : Int) (List.replicate l.length 0) l (l.length : Int) 0) (fun k => ?_) ?_
  · rw [pvq_sizes.l1,if_pos (by omega),shr_nat _ _ (by omega),if_neg (by omega),if_pos (by omega),Int.toNat_natCast,if_pos (by omega)]
  · have:=sizes_l2 hf hn l.length 0 (List.replicate l.length 0) (by omega) (by simp)
    simpa using this
theorem sizes_more {l : List Int} {n : Nat} (hn : n≤3) {t : Int} {r : List Int} (h : 262144≤t / 2 ^ n) (k : Ev (fun k=>pvq_sizes.l1 k l t ((n+1 : Nat) : Int)) r) : Ev (fun k=>pvq_sizes.l1 k l t (n : Int)) r:=by
  refine Ev.step (fun k => ?_) k
  rw [pvq_sizes.l1,if_pos (by omega),shr_nat _ _ (by omega),if_pos (by omega),w_succ (n:=10) (by omega) (by omega)]
theorem sizes_l1 {l : List Int} (hf : Fr l) : Ev (fun k=>pvq_sizes.l1 k l (tops 0 l) ((0 : Nat) : Int)) (As l):=by
  have hlt:=fun c=>tops_lt (c:=c) (x:=0) hf.2.2
  have h0 : 0≤tops 0 l:=tops_nn (Int.le_refl _)
  have hmax : tops 0 l < 1048577:=(hlt _).2 ⟨by omega,fun v hv=>by have:=mag_in (hf.2.2 v hv);omega⟩
  unfold As hal
  generalize tops 0 l=t at *
  by_cases a : All 262144 l
  · rw [if_pos a];have:=(hlt 262144).2 ⟨by omega,a⟩
    exact sizes_go hf (by omega) (by simpa using this)
  have ha : 262144≤t:=by apply Int.not_lt.1;intro h;exact a ((hlt _).1 h).2
  rw [if_neg a]
  refine sizes_more (by omega) (by simpa using ha) ?_
  by_cases b : All 524288 l
  · rw [if_pos b];have:=(hlt 524288).2 ⟨by omega,b⟩
    exact sizes_go hf (by omega) (by simp only [Nat.zero_add,Int.pow_succ,Int.pow_zero];omega)
  have hb : 524288≤t:=by apply Int.not_lt.1;intro h;exact b ((hlt _).1 h).2
  rw [if_neg b]
  refine sizes_more (by omega) (by simp only [Nat.zero_add,Int.pow_succ,Int.pow_zero];omega) ?_
  by_cases c : All 1048576 l
  · rw [if_pos c];have:=(hlt 1048576).2 ⟨by omega,c⟩
    exact sizes_go hf (by omega) (by simp only [Nat.zero_add,Int.pow_succ,Int.pow_zero];omega)
  have hc : 1048576≤t:=by apply Int.not_lt.1;intro h;exact c ((hlt _).1 h).2
  rw [if_neg c]
  refine sizes_more (by omega) (by simp only [Nat.zero_add,Int.pow_succ,Int.pow_zero];omega) ?_
  exact sizes_go hf (by omega) (by simp only [Nat.zero_add,Int.pow_succ,Int.pow_zero];omega)
theorem sizes_l0 {l : List Int} (hf : Fr l) : ∀ (d i : Nat) (t : Int),i+d=l.length→(∀ r,Ev (fun k=>pvq_sizes.l1 k l (tops t (l.drop i)) 0) r→Ev (fun k=>pvq_sizes.l0 k l t l (l.length : Int) (i : Int)) r)
  | 0,i,t,h,r,hr=>by
    rw [drop_end (by omega)] at hr
    refine Ev.step (fun k => ?_) hr
    rw [pvq_sizes.l0,if_neg (by omega),tops]
  | d+1,i,t,h,r,hr=>by
    have hi : i < l.length:=by omega
    have hl:=hf.2.1
    rw [drop_at hi,tops] at hr
    refine Ev.step (fun k => ?_) (sizes_l0 hf d (i+1) _ (by omega) r hr)
    rw [pvq_sizes.l0,if_pos (by omega),if_pos (by omega),if_pos (by omega),rd_at hi,w_succ hi (by omega)]
theorem sizes_f {l : List Int} (hf : Fr l) : Ev (fun k=>pvq_sizes.f k l) (As l):=sizes_l0 hf l.length 0 0 (by omega) _ (by rw [List.drop_zero];exact sizes_l1 hf)
end Go.Proofs.Ytifkhfnmbiefaaa.Pvq
/- pvq: the pulse vector that is found: by the program and by the document. -/
namespace Go.Proofs.Ytifkhfnmbiefaaa.Pvq
open Go Go.RowKit Go.Proofs.YtifkhfnmbiefaaaW.PrintWords Go.Proofs.Ytifkhfnmbiefaaa.Prt Go.Proofs.Ytifkhfnmbiefaaa.Com Go.Proofs.Ytifkhfnmbiefaaa.PvqN
set_option linter.unusedVariables false
set_option linter.unusedSimpArgs false
def sm : List Int→Int
  | []=>0
  | v :: l=>v+sm l
def at0 (l : List Int) (i : Nat) : Int:=l.getD i 0
theorem at_get {l : List Int} {i : Nat} (h : i < l.length) : at0 l i=l[i]:=by unfold at0;simp [h]
theorem rd_nat (l : List Int) (i : Nat) : rd l (i : Int)=at0 l i:=by unfold rd at0;rw [Int.toNat_natCast]
def sc (a y : List Int) (i : Nat) : Int × Int:=(D2 a y+at0 a i,S2 y+(2 * at0 y i+1))
def gt (p q : Int × Int) : Bool:=decide (p.1 * p.1 * q.2 > q.1 * q.1 * p.2)
def pick (a y : List Int) : Nat→Nat→Nat→Nat
  | 0,t,_=>t
  | d+1,t,i=>pick a y d (if gt (sc a y i) (sc a y t)=true then i else t) (i+1)
def best (a y : List Int) : Nat:=pick a y a.length 0 0
def add1 (y : List Int) (j : Nat) : List Int:=y.set j (at0 y j+1)
def run (a : List Int) : Nat→List Int→List Int
  | 0,y=>y
  | n+1,y=>run a n (add1 y (best a y))
theorem pick_lt (a y : List Int) : ∀ (d t i n : Nat),t < n→i+d≤n→pick a y d t i < n
  | 0,t,i,n,h,_=>h
  | d+1,t,i,n,h,k=>by
    rw [pick];apply pick_lt a y d _ (i+1) n
    · split <;> omega
    · omega
theorem gt_self (p : Int × Int) : gt p p=false:=by unfold gt;exact decide_eq_false (by omega)
theorem add1_len (y : List Int) (j : Nat) : (add1 y j).length=y.length:=by simp [add1]
theorem sm_add : ∀ (y : List Int) (j : Nat),j < y.length→sm (add1 y j)=sm y+1
  | v :: y,0,_=>by simp [add1,at0,sm];omega
  | v :: y,j+1,h=>by
    have:=sm_add y j (by simpa using h)
    simp only [add1,at0,List.set_cons_succ,List.getD_cons_succ,sm] at this ⊢; omega
theorem S2_add : ∀ (y : List Int) (j : Nat),j < y.length→S2 (add1 y j)=S2 y+(2 * at0 y j+1)
  | v :: y,0,_=>by simp only [add1,at0,List.set_cons_zero,List.getD_cons_zero,S2];grind
  | v :: y,j+1,h=>by
    have:=S2_add y j (by simpa using h)
    simp only [add1,at0,List.set_cons_succ,List.getD_cons_succ,S2] at this ⊢; omega
theorem D2_add : ∀ (a y : List Int) (j : Nat),j < y.length→a.length=y.length→D2 a (add1 y j)=D2 a y+at0 a j
  | a :: l,v :: y,0,_,_=>by simp only [add1,at0,List.set_cons_zero,List.getD_cons_zero,D2];grind
  | a :: l,v :: y,j+1,h,e=>by
    have:=D2_add l y j (by simpa using h) (by simpa using e)
    simp only [add1,at0,List.set_cons_succ,List.getD_cons_succ,D2] at this ⊢; omega
  | [],v :: y,_,_,e=>by simp at e
theorem nn_sm : ∀ {y : List Int},(∀ v ∈ y,0≤v)→0≤sm y
  | [],_=>Int.le_refl _
  | v :: y,h=>by
    have:=nn_sm (y:=y) (fun u hu=>h u (List.mem_cons_of_mem _ hu));have:=h v List.mem_cons_self;simp only [sm];omega
theorem le_sm : ∀ {y : List Int},(∀ v ∈ y,0≤v)→∀ v ∈ y,v≤sm y
  | v :: y,h,u,hu=>by
    have h1 : ∀ u ∈ y,0≤u:=fun u hu=>h u (List.mem_cons_of_mem _ hu)
    have:=nn_sm h1;have:=h v List.mem_cons_self
    simp only [sm]
    rcases List.mem_cons.1 hu with rfl|hu
    · omega
    · have:=le_sm h1 u hu;omega
theorem S2_sm : ∀ {y : List Int},(∀ v ∈ y,0≤v)→S2 y≤sm y * sm y
  | [],_=>by simp [S2,sm]
  | v :: y,h=>by
    have h1 : ∀ u ∈ y,0≤u:=fun u hu=>h u (List.mem_cons_of_mem _ hu)
    have:=S2_sm h1;have:=Int.mul_nonneg (h v List.mem_cons_self) (nn_sm h1)
    simp only [S2,sm];grind
theorem D2_sm : ∀ {a y : List Int},(∀ v ∈ a,0≤v∧v < 262144)→(∀ v ∈ y,0≤v)→0≤D2 a y∧D2 a y≤262144 * sm y
  | [],y,_,h=>by have:=nn_sm h;simp only [D2];omega
  | a :: l, [],_,_=>by simp [D2,sm]
  | a :: l,v :: y,ha,h=>by
    have ih:=D2_sm (a:=l) (y:=y) (fun u hu=>ha u (List.mem_cons_of_mem _ hu)) (fun u hu=>h u (List.mem_cons_of_mem _ hu))
    have h0:=ha a List.mem_cons_self;have h1:=h v List.mem_cons_self
    have h2:=Int.mul_nonneg h0.1 h1
    have h3 : a * v≤262144 * v:=Int.mul_le_mul_of_nonneg_right (by omega) h1
    simp only [D2,sm];omega
structure Gd (a y : List Int) (n : Nat) : Prop where
  len : a.length=y.length
  one : 1≤y.length
  few : y.length≤16
  sz : ∀ v ∈ a,0≤v∧v < 262144
  nn : ∀ v ∈ y,0≤v
  sum : sm y=n
theorem at_mem {l : List Int} {i : Nat} (h : i < l.length) : at0 l i ∈ l:=by rw [at_get h];exact List.getElem_mem h
theorem Gd.add {a y : List Int} {n j : Nat} (g : Gd a y n) (hj : j < y.length) : Gd a (add1 y j) (n+1) where
  len:=by rw [add1_len];exact g.len
  one:=by rw [add1_len];exact g.one
  few:=by rw [add1_len];exact g.few
  sz:=g.sz
  nn:=by
    intro v hv
    rcases List.mem_or_eq_of_mem_set hv with h|h
    · exact g.nn v h
    · have:=g.nn _ (at_mem hj);omega
  sum:=by rw [sm_add y j hj,g.sum];omega
theorem Gd.at {a y : List Int} {n : Nat} (g : Gd a y n) (hn : n≤13) {i : Nat} (hi : i < y.length) : 0≤at0 a i∧at0 a i < 262144∧0≤at0 y i∧at0 y i≤n:=by
  have h1:=g.sz _ (at_mem (l:=a) (by rw [g.len];exact hi))
  have h2:=g.nn _ (at_mem hi);have h3:=le_sm g.nn _ (at_mem hi);rw [g.sum] at h3
  exact ⟨h1.1,h1.2,h2,h3⟩
theorem Gd.tot {a y : List Int} {n : Nat} (g : Gd a y n) (hn : n≤13) : 0≤D2 a y∧D2 a y≤3407872∧0≤S2 y∧S2 y≤169:=by
  have h1:=D2_sm g.sz g.nn;have h2:=S2_sm g.nn;rw [g.sum] at h1 h2
  have h3 : (n : Int) * n≤13 * 13:=mul_mono (by omega) (by omega) (by omega) (by omega)
  have h4:=S2_nonneg y
  omega
theorem sc_add {a y : List Int} {n j : Nat} (g : Gd a y n) (hj : j < y.length) : sc a y j=(D2 a (add1 y j),S2 (add1 y j)):=by
  rw [D2_add a y j hj g.len,S2_add y j hj];rfl
theorem Gd.sc {a y : List Int} {n : Nat} (g : Gd a y n) (hn : n≤12) {i : Nat} (hi : i < y.length) : 0≤(sc a y i).1∧(sc a y i).1≤3407872∧0≤(sc a y i).2∧(sc a y i).2≤169:=by
  have:=(g.add hi).tot (by omega)
  rw [sc_add g hi];exact this
theorem prod_in {x c d : Int} (h0 : 0≤x) (h1 : x≤3407872) (h2 : 0≤d) (h3 : d≤169) : wrap64 (wrap64 (x * x) * d)=x * x * d:=by
  have a:=sq_nonneg x
  have b : x * x≤3407872 * 3407872:=mul_mono h0 h0 h1 h1
  have e : x * x * d≤(3407872 * 3407872) * 169:=mul_mono a h2 b h3
  have f:=Int.mul_nonneg a h2
  rw [w64 (x:=x * x) (by omega) (by omega),w64 (by omega) (by omega)]
theorem above_f {p q : Int × Int} (h : 0≤p.1∧p.1≤3407872∧0≤p.2∧p.2≤169) (k : 0≤q.1∧q.1≤3407872∧0≤q.2∧q.2≤169) : pvq_above.f p.1 p.2 q.1 q.2=some (gt p q):=by
  unfold pvq_above.f gt
  rw [prod_in (c:=0) h.1 h.2.1 k.2.2.1 k.2.2.2,prod_in (c:=0) k.1 k.2.1 h.2.2.1 h.2.2.2]
def sg (x y : List Int) : List Int:=List.zipWith (fun v p=>if v < 0 then -p else p) x y
theorem sg_len {x y : List Int} (h : y.length=x.length) : (sg x y).length=x.length:=by simp [sg,h]
theorem sg_at {x y : List Int} {i : Nat} (hx : i < x.length) (hy : i < y.length) : at0 (sg x y) i=if at0 x i < 0 then -at0 y i else at0 y i:=by
  rw [at_get (by simp [sg];omega),at_get hx,at_get hy];simp [sg]
theorem sg_step {x y0 : List Int} {i : Nat} (hl : y0.length=x.length) (hi : i < x.length) :
    ((sg x y0).take i ++ y0.drop i).set i (at0 (sg x y0) i)=(sg x y0).take (i+1) ++ y0.drop (i+1):=by
  have h1:=sg_len hl
  rw [List.set_append_right _ _ (by simp;omega),drop_at (l:=y0) (by omega),List.take_succ_eq_append_getElem (l:=sg x y0) (by omega),at_get (by omega)]
  have e : i - (List.take i (sg x y0)).length=0:=by rw [List.length_take];omega
  rw [List.append_assoc,e,List.set_cons_zero]
  rfl
theorem sg_mid {x y0 : List Int} {i : Nat} (hl : y0.length=x.length) (hi : i < x.length) : at0 ((sg x y0).take i ++ y0.drop i) i=at0 y0 i:=by
  have h1:=sg_len hl
  rw [at_get (by simp;omega),at_get (by omega),List.getElem_append_right (by simp;omega)]
  simp [List.length_take,Nat.min_eq_left (by omega : i≤(sg x y0).length)]
theorem run_gd {a : List Int} : ∀ (e n : Nat) (y : List Int),Gd a y n→Gd a (run a e y) (n+e)
  | 0,n,y,g=>g
  | e+1,n,y,g=>by
    have hl:=g.len;have h1:=g.one
    have:=run_gd e (n+1) _ (g.add (pick_lt a y _ _ _ _ (by omega) (by omega) : best a y < y.length))
    rw [show n+(e+1)=n+1+e by omega];exact this
theorem sm_zero : ∀ n : Nat,sm (List.replicate n 0)=0
  | 0=>rfl
  | n+1=>by simp [List.replicate_succ,sm,sm_zero n]
theorem gd_0 {x : List Int} (hf : Fr x) : Gd (As x) (List.replicate x.length 0) 0 where
  len:=by simp [As]
  one:=by simpa using hf.1
  few:=by simpa using hf.2.1
  sz:=As_in hf.2.2
  nn:=by intro v hv;rw [List.eq_of_mem_replicate hv];omega
  sum:=sm_zero _
def Ps (x : List Int) (K : Nat) : List Int:=run (As x) K (List.replicate x.length 0)
theorem Ps_gd {x : List Int} (hf : Fr x) (K : Nat) : Gd (As x) (Ps x K) K:=by have:=run_gd K 0 _ (gd_0 hf);simpa [Ps] using this
theorem Ps_in {x : List Int} (hf : Fr x) {K : Nat} (hK : K≤12) : ∀ v ∈ Ps x K,0≤v∧v≤12:=fun v hv=>by
  have g:=Ps_gd hf K
  have:=g.nn v hv;have:=le_sm g.nn v hv;rw [g.sum] at this;omega
theorem Ps_len {x : List Int} (hf : Fr x) (K : Nat) : (Ps x K).length=x.length:=by have:=(Ps_gd hf K).len;rw [As_len] at this;omega
theorem best_l0 {a y : List Int} {n : Nat} (g : Gd a y n) (hn : n < 12) {L : List S117} (hL : L.length=y.length) (hs : ∀ j,j < y.length→rd_T117 L (j : Int)=⟨(sc a y j).1,(sc a y j).2⟩) :
    ∀ (d t i : Nat),t < y.length→i+d=y.length→Ev (fun k=>pvq_best.l0 k L (t : Int) (L.length : Int) (i : Int)) (pick a y d t i : Int)
  | 0,t,i,ht,h=>by
    refine Ev.step (f:=fun _=>some _) (fun k => ?_) (Ev.now _)
    rw [pvq_best.l0,if_neg (by omega)];rfl
  | d+1,t,i,ht,h=>by
    have hi : i < y.length:=by omega
    have hf:=g.few
    have hp:=g.sc (by omega) hi;have hq:=g.sc (by omega) ht
    rw [pick]
    have st : ∀ k,pvq_best.l0 (k+1) L (t : Int) (L.length : Int) (i : Int)=if gt (sc a y i) (sc a y t)=true then pvq_best.l0 k L (i : Int) (L.length : Int) ((i+1 : Nat) : Int) else pvq_best.l0 k L (t : Int) (L.length : Int) ((i+1 : Nat) : Int):=by
      intro k
      rw [pvq_best.l0,if_pos (by omega),if_pos (by omega),if_pos (by omega),if_pos (by omega),if_pos (by omega),hs i hi,hs t ht,above_f hp hq,Option.bind_some,w_succ hi (by omega)]
      by_cases c : (!((sc a y i).1 == (sc a y t).1) || (!((sc a y i).2 == (sc a y t).2)))=true
      · rw [if_pos c]
      · rw [if_neg c]
        have e : sc a y i=sc a y t:=by
          simp only [Bool.or_eq_true,Bool.not_eq_true',beq_eq_false_iff_ne,ne_eq,not_or,Decidable.not_not] at c
          exact Prod.ext c.1 c.2
        rw [e,gt_self];rfl
    by_cases c : gt (sc a y i) (sc a y t)=true
    · rw [if_pos c]
      exact Ev.step (fun k=>by rw [st,if_pos c]) (best_l0 g hn hL hs d i (i+1) hi (by omega))
    · rw [if_neg c]
      exact Ev.step (fun k=>by rw [st,if_neg c]) (best_l0 g hn hL hs d t (i+1) ht (by omega))
theorem best_f {a y : List Int} {n : Nat} (g : Gd a y n) (hn : n < 12) {L : List S117} (hL : L.length=y.length) (hs : ∀ j,j < y.length→rd_T117 L (j : Int)=⟨(sc a y j).1,(sc a y j).2⟩) : Ev (fun k=>pvq_best.f k L) (best a y : Int):=by
  have h1:=g.one;have hl:=g.len
  unfold best;rw [hl]
  exact best_l0 g hn hL hs y.length 0 0 (by omega) (by omega)
theorem rdT_set {L : List S117} {i : Nat} (h : i < L.length) (v : S117) (j : Nat) : rd_T117 (L.set i v) (j : Int)=if i=j then v else rd_T117 L (j : Int):=by
  unfold rd_T117
  rw [Int.toNat_natCast,List.getD_eq_getElem?_getD,List.getD_eq_getElem?_getD,List.getElem?_set]
  by_cases e : i=j
  · subst e;simp [h]
  · simp [e]
theorem search_l1 {x a y : List Int} {n : Nat} {K : Int} {r : List Int × Int} (g : Gd a y n) (hn : n < 12) : ∀ (d i : Nat) (L : List S117),i+d=y.length→L.length=y.length→(∀ j,j < i→rd_T117 L (j : Int)=⟨(sc a y j).1,(sc a y j).2⟩) →
    Ev (fun k=>pvq_Search.l0 k x a (add1 y (best a y)) K ((n+1 : Nat) : Int) (sc a y (best a y)).1 (sc a y (best a y)).2) r→Ev (fun k=>pvq_Search.l1 k x a y L K (n : Int) (y.length : Int) (i : Int) (D2 a y) (S2 y)) r
  | 0,i,L,h,hL,hs,hr=>by
    have hl:=g.len;have h1:=g.one
    have hb : best a y < y.length:=pick_lt a y _ _ _ _ (by omega) (by omega)
    have ha:=g.at (by omega) hb
    refine Ev.step (f:=fun k=>(pvq_best.f k L).bind fun t138=>(if 0≤t138 then (if t138 < (L.length : Int) then (if t138 < (y.length : Int) then (pvq_Search.l0 k x a (y.set (t138 : Int).toNat (wrap64 ((rd y t138)+1))) K (wrap64 ((n : Int)+1)) ((rd_T117 L t138).f0) ((rd_T117 L t138).f1)) else (none)) else (none)) else (none))) (fun k => ?_) ?_
    · rw [pvq_Search.l1,if_neg (by omega)]
    · refine Ev.bind (best_f g hn hL (fun j hj=>hs j (by omega))) ?_
      refine Ev.congr (fun k => ?_) hr
      rw [if_pos (by omega),if_pos (by omega),if_pos (by omega),rd_nat,hs _ (by omega),w64 (x:=at0 y (best a y)+1) (by omega) (by omega),Int.toNat_natCast,w_succ (n:=1000) (by omega) (by omega)]
      rfl
  | d+1,i,L,h,hL,hs,hr=>by
    have hi : i < y.length:=by omega
    have hl:=g.len;have hf:=g.few
    have ha:=g.at (by omega) hi
    have ht:=g.tot (by omega)
    refine Ev.step (f:=fun k=>pvq_Search.l1 k x a y (L.set i ⟨(sc a y i).1,(sc a y i).2⟩) K (n : Int) (y.length : Int) ((i+1 : Nat) : Int) (D2 a y) (S2 y)) (fun k => ?_) (search_l1 g hn d (i+1) _ (by omega) (by simpa using hL) ?_ hr)
    · rw [pvq_Search.l1,if_pos (by omega),if_pos (by omega),if_pos (by omega),if_pos (by omega),pvq_with.f,Option.bind_some,if_pos (by omega),rd_nat,rd_nat,w64 (x:=2 * at0 y i) (by omega) (by omega),w64 (x:=2 * at0 y i+1) (by omega) (by omega),w64 (x:=D2 a y+at0 a i) (by omega) (by omega),w64 (x:=S2 y+(2 * at0 y i+1)) (by omega) (by omega),w_succ hi (by omega),Int.toNat_natCast]
      rfl
    · intro j hj
      rw [rdT_set (by omega)]
      by_cases e : i=j
      · rw [if_pos e,e]
      · rw [if_neg e];exact hs j (by omega)
theorem search_l0 {x a : List Int} {r : List Int × Int} {K : Nat} (hK : K≤12) (hx : x.length≤16) : ∀ (e n : Nat) (y : List Int),Gd a y n→y.length=x.length→n+e=K →
    Ev (fun k=>pvq_Search.l2 k (run a e y) x (x.length : Int) 0) r→Ev (fun k=>pvq_Search.l0 k x a y (K : Int) (n : Int) (D2 a y) (S2 y)) r
  | 0,n,y,g,hy,h,hr=>by
    refine Ev.step (fun k => ?_) hr
    rw [pvq_Search.l0,if_neg (by omega)];rfl
  | e+1,n,y,g,hy,h,hr=>by
    have hl:=g.len;have h1:=g.one
    have hb : best a y < y.length:=pick_lt a y _ _ _ _ (by omega) (by omega)
    refine Ev.step (f:=fun k=>pvq_Search.l1 k x a y (List.replicate x.length z117) (K : Int) (n : Int) (y.length : Int) ((0 : Nat) : Int) (D2 a y) (S2 y)) (fun k => ?_) ?_
    · rw [pvq_Search.l0,if_pos (by omega),if_pos (by omega),Int.toNat_natCast,if_pos (by omega),Option.bind_some,List.length_replicate,hy];rfl
    · refine search_l1 g (by omega) y.length 0 _ (by omega) (by simp [hy]) (fun j hj=>by omega) ?_
      rw [sc_add g hb]
      exact search_l0 hK hx e (n+1) (add1 y (best a y)) (g.add hb) (by rw [add1_len];exact hy) (by omega) hr
theorem search_l2 {x y0 : List Int} (hl : y0.length=x.length) (hx : x.length≤16) (hy : ∀ v ∈ y0,0≤v∧v≤12) : ∀ (d i : Nat),i+d=x.length→Ev (fun k=>pvq_Search.l2 k ((sg x y0).take i ++ y0.drop i) x (x.length : Int) (i : Int)) (sg x y0,0)
  | 0,i,h=>by
    have h1:=sg_len hl
    refine Ev.step (f:=fun _=>some _) (fun k => ?_) (Ev.now _)
    rw [pvq_Search.l2,if_neg (by omega),drop_end (by omega),List.append_nil,List.take_of_length_le (by omega)]
  | d+1,i,h=>by
    have hi : i < x.length:=by omega
    have h1:=sg_len hl
    have hb:=hy _ (at_mem (l:=y0) (i:=i) (by omega))
    refine Ev.step (fun k => ?_) (search_l2 hl hx hy d (i+1) (by omega))
    rw [pvq_Search.l2,if_pos (by omega),if_pos (by omega),if_pos (by omega),rd_nat, ← sg_step hl hi,sg_at hi (by omega)]
    by_cases c : at0 x i < 0
    · rw [if_pos c,if_pos (by simp;omega),if_pos c,rd_nat,sg_mid hl hi,w64 (by omega) (by omega),Int.toNat_natCast,w_succ hi (by omega)]
    · rw [if_neg c,if_neg c,w_succ hi (by omega), ← sg_mid hl hi,at_get (l:=(sg x y0).take i ++ y0.drop i) (by simp;omega),List.set_getElem_self]
theorem D2_zero : ∀ (a : List Int) (n : Nat),D2 a (List.replicate n 0)=0
  | [],n=>by simp [D2]
  | a :: l,0=>by simp [D2]
  | a :: l,n+1=>by simp [List.replicate_succ,D2,D2_zero l n]
theorem S2_zero : ∀ n : Nat,S2 (List.replicate n 0)=0
  | 0=>rfl
  | n+1=>by simp [List.replicate_succ,S2,S2_zero n]
theorem search_ok {x : List Int} (hf : Fr x) {K : Nat} (hK : K≤12) : Ev (fun k=>pvq_Search.f k x (K : Int)) (sg x (Ps x K),0):=by
  have h1:=hf.2.1
  refine Ev.bind (fair_f (by omega)) ?_
  refine Ev.congr (f:=fun k=>pvq_Search.j0 k x (K : Int) false) (fun k => ?_) ?_
  · rw [if_pos (by simpa using hf),if_neg (by omega),decide_eq_false (by omega)]
  refine Ev.step (f:=fun k=>(pvq_sizes.f k x).bind fun t123=>pvq_Search.l0 k x t123 (List.replicate x.length 0) (K : Int) 0 0 0) (fun k => ?_) ?_
  · rw [pvq_Search.j0,if_neg (by decide)]
    congr 1;funext t
    rw [if_pos (by omega),Int.toNat_natCast,if_pos (by omega)]
  refine Ev.bind (sizes_f hf) ?_
  have h:=search_l0 (x:=x) (r:=(sg x (Ps x K),0)) hK h1 K 0 _ (gd_0 hf) (by simp) (by omega) ?_
  · rw [D2_zero,S2_zero] at h;exact h
  · have:=search_l2 (Ps_len hf K) h1 (Ps_in hf hK) x.length 0 (by omega)
    show Ev (fun k=>pvq_Search.l2 k (Ps x K) x (x.length : Int) 0) _
    simpa using this
end Go.Proofs.Ytifkhfnmbiefaaa.Pvq
/- pvq: the examples of the chapter, once for all rounds; alike lists. -/
namespace Go.Proofs.Ytifkhfnmbiefaaa.Pvq
open Go Go.RowKit Go.Proofs.YtifkhfnmbiefaaaW.PrintWords Go.Proofs.Ytifkhfnmbiefaaa.Prt Go.Proofs.Ytifkhfnmbiefaaa.Com Go.Proofs.Ytifkhfnmbiefaaa.PvqN
set_option linter.unusedVariables false
set_option linter.unusedSimpArgs false
theorem same6_l0 {l : List Int} (hl : l.length≤1000) : ∀ (d i : Nat),i+d=l.length→Ev (fun k=>r06_Same.l0 k l l (i : Int)) true
  | 0,i,h=>Ev.step (f:=fun _=>some _) (fun k=>by rw [r06_Same.l0,if_neg (by omega)]) (Ev.now _)
  | d+1,i,h=>Ev.step (fun k=>by rw [r06_Same.l0,if_pos (by omega),if_pos (by omega),if_pos (by omega),if_pos rfl,w_succ (n:=1000) (by omega) (by omega)]) (same6_l0 hl d (i+1) (by omega))
theorem same6_f {l : List Int} (hl : l.length≤1000) : Ev (fun k=>r06_Same.f k l l) true:=Ev.congr (fun k=>by rw [r06_Same.f,if_pos rfl];rfl) (same6_l0 hl l.length 0 (by omega))
end Go.Proofs.Ytifkhfnmbiefaaa.Pvq
/- pvq: roots, quotients and shapes: by the program and by the document. -/
namespace Go.Proofs.Ytifkhfnmbiefaaa.Pvq
open Go Go.RowKit Go.Proofs.YtifkhfnmbiefaaaW.PrintWords Go.Proofs.Ytifkhfnmbiefaaa.Prt Go.Proofs.Ytifkhfnmbiefaaa.Com Go.Proofs.Ytifkhfnmbiefaaa.PvqN
set_option linter.unusedVariables false
set_option linter.unusedSimpArgs false
def Pv (y : List Int) : Prop:=1≤y.length∧y.length≤16∧szs y≤12
instance (y : List Int) : Decidable (Pv y):=by unfold Pv;infer_instance
end Go.Proofs.Ytifkhfnmbiefaaa.Pvq
/- The examples of the alloc's chapter, once for all rounds. -/
namespace Go.Proofs.Ytifkhfnmbiefaaa.Alo
open Go Go.RowKit Go.Proofs.YtifkhfnmbiefaaaW.PrintWords Go.Proofs.Ytifkhfnmbiefaaa.Prt
theorem w64 {x : Int} (h0 : -9223372036854775808≤x) (h1 : x≤9223372036854775807) : wrap64 x=x:=by unfold wrap64;omega
def rightB (a b : Int) : Bool:=decide ((b=1∧11≤a∧a≤60)∨(b=2∧17≤a∧a≤60))
theorem right_iff {a b : Int} : rightB a b=true ↔ (b=1∧11≤a∧a≤60)∨(b=2∧17≤a∧a≤60):=by
  unfold rightB
  exact decide_eq_true_iff
theorem right_f (a b : Int) : alloc_Right.f a b=some (rightB a b)∧r12_Right.f a b=some (rightB a b):=by
  unfold alloc_Right.f r12_Right.f rightB
  refine ⟨?_, ?_⟩
  · by_cases h1 : b=1
    · rw [if_pos h1]
      by_cases h2 : a ≥ 11
      · rw [if_pos h2]
        congr 1
        rw [decide_eq_decide]
        omega
      · rw [if_neg h2,decide_eq_false (by omega)]
    · rw [if_neg h1]
      by_cases h3 : b=2
      · rw [if_pos h3]
        by_cases h2 : a ≥ 17
        · rw [if_pos h2]
          congr 1
          rw [decide_eq_decide]
          omega
        · rw [if_neg h2,decide_eq_false (by omega)]
      · rw [if_neg h3,decide_eq_false (by omega)]
  · by_cases h0 : a≤60
    · rw [if_pos h0]
      by_cases h1 : b=1
      · rw [if_pos h1]
        by_cases h2 : a ≥ 11
        · rw [if_pos h2,decide_eq_true (by omega)]
        · rw [if_neg h2,if_neg (by omega),decide_eq_false (by omega)]
      · rw [if_neg h1]
        by_cases h3 : b=2
        · rw [if_pos h3]
          congr 1
          rw [decide_eq_decide]
          omega
        · rw [if_neg h3,decide_eq_false (by omega)]
    · rw [if_neg h0,decide_eq_false (by omega)]
def room (a b : Int) : Int:=if b=1 then 8 * a - 86 else (8 * a - 131) / 2
theorem room_ok {a b : Int} (h : rightB a b=true) : alloc_Room.f a b=some (room a b)∧r12_Room.f a b=some (room a b):=by
  unfold alloc_Room.f r12_Room.f room
  rw [(right_f a b).1,(right_f a b).2,h,Option.bind_some,Option.bind_some,if_pos rfl,if_pos rfl]
  have hg : gain_Most.f false=some 45:=rfl
  rw [hg,Option.bind_some]
  rcases right_iff.1 h with ⟨rfl,h1,h2⟩ | ⟨rfl,h1,h2⟩
  · rw [if_neg (by decide),if_pos rfl,if_pos rfl,w64 (x:=8 * a) (by omega) (by omega),w64 (x:=8 * a - 41) (by omega) (by omega),w64 (x:=(45 : Int) * 1) (by omega) (by omega),w64 (x:=8 * a - 41 - 45 * 1) (by omega) (by omega),w64 (x:=8 * a - 86) (by omega) (by omega),Int.tdiv_eq_ediv_of_nonneg (by omega),w64 (by omega) (by omega)]
    exact ⟨by congr 1;omega,rfl⟩
  · rw [if_neg (by decide),if_neg (by decide),if_neg (by decide),w64 (x:=8 * a) (by omega) (by omega),w64 (x:=8 * a - 41) (by omega) (by omega),w64 (x:=(45 : Int) * 2) (by omega) (by omega),w64 (x:=8 * a - 41 - 45 * 2) (by omega) (by omega),w64 (x:=8 * a - 131) (by omega) (by omega),Int.tdiv_eq_ediv_of_nonneg (by omega),Int.tdiv_eq_ediv_of_nonneg (by omega),w64 (by omega) (by omega),w64 (by omega) (by omega)]
    exact ⟨by congr 1;omega,rfl⟩
theorem room_in {a b : Int} (h : rightB a b=true) : 0≤room a b∧room a b≤400:=by
  unfold room
  rcases right_iff.1 h with ⟨rfl,h1,h2⟩ | ⟨rfl,h1,h2⟩
  · rw [if_pos rfl];omega
  · rw [if_neg (by decide)];omega
end Go.Proofs.Ytifkhfnmbiefaaa.Alo
/- The pulse vectors: the document's numbers, and the vectors of numbers, by the program and by the document. -/
namespace Go.Proofs.Ytifkhfnmbiefaaa.Com
open Go Go.RowKit Go.Proofs.YtifkhfnmbiefaaaW.PrintWords Go.Proofs.Ytifkhfnmbiefaaa.Prt
set_option linter.unusedVariables false
set_option linter.unusedSimpArgs false
variable {V : Nat→Nat→Int}

theorem rowL_len (n : Nat) : (rowL V n).length=13:=by rw [rowL,List.length_map,List.length_range]
theorem rd_row {n j : Nat} (h : j < 13) : rd (rowL V n) (j : Int)=V n j:=by
  rw [rd_at (by rw [rowL_len];exact h)]
  simp [rowL]
theorem wsub {a b : Nat} (h : b≤a) (ha : a≤1000) : wrap64 ((a : Int) - (b : Int))=((a - b : Nat) : Int):=by rw [w64 (by omega) (by omega)];omega
theorem wpred {a : Nat} (ha : a≤1000) : wrap64 (((a+1 : Nat) : Int) - 1)=(a : Int):=by rw [w64 (by omega) (by omega)];omega
theorem wone {a : Nat} (h : 1≤a) (ha : a≤1000) : wrap64 ((a : Int) - 1)=((a - 1 : Nat) : Int):=by rw [w64 (by omega) (by omega)];omega
theorem wsucc {a : Nat} (ha : a≤1000) : wrap64 ((a : Int)+1)=((a+1 : Nat) : Int):=by rw [w64 (by omega) (by omega)];omega
theorem vec_l1 (C : Cnt V) {n kk : Nat} (hn : n < 16) (hkk : kk < 13) {i : Int} (hi : i < V (n+1) kk) {out : List Int} (ho : out.length≤100) : ∀ (e s k : Nat),s+1+e=kk→P V n kk (2 * s+1)≤i →
    ∃ p k',k≤k'∧psz p≤kk∧P V n kk p≤i∧i < P V n kk (p+1) ∧
      comb_Vector.l1 (k+e+1) ((n+1 : Nat) : Int) (kk : Int) (i - P V n kk (2 * s+1)) out ((s+1 : Nat) : Int) (V n (kk - (s+1)))=comb_Vector.l0 k' (n : Int) ((kk - psz p : Nat) : Int) (i - P V n kk p) (out ++ [pval p]):=by
  intro e
  induction e with
  | zero =>
    intro s k h hP
    have hV:=VV C (show n < 17 by omega) (show kk - (s+1) < 13 by omega)
    have hW:=VV C (show n+1 < 17 by omega) hkk
    have hPn:=P_nn C (n:=n) (by omega) hkk (2 * s+1)
    have hodd:=P_odd V n kk s
    have htop:=C.top hn hkk
    rw [show 2 * kk+1=2 * (s+1)+1 by omega] at htop
    have e2 : P V n kk (2 * s+1+1)=P V n kk (2 * s+1)+V n (kk - (s+1)):=by rw [P_succ,show psz (2 * s+1)=s+1 by unfold psz;omega]
    rw [show k+0+1=k+1 from rfl,comb_Vector.l1,u64 (x:=2 * V n (kk - (s+1))) (by omega) (by omega),if_neg (by omega),wpred (by omega),wsub (by omega) (by omega),C.table (by omega) (by omega),Option.bind_some]
    by_cases hc : i - P V n kk (2 * s+1) ≥ V n (kk - (s+1))
    · refine ⟨2 * (s+1),k,Nat.le_refl _,by unfold psz;omega,by rw [show 2 * (s+1)=2 * s+1+1 by omega,e2];omega,by rw [hodd];omega, ?_⟩
      rw [if_pos hc,if_pos (by omega),u64 (by omega) (by omega),show psz (2 * (s+1))=s+1 by unfold psz;omega,show 2 * (s+1)=2 * s+1+1 by omega,e2,w64 (x := -((s+1 : Nat) : Int)) (by omega) (by omega),show pval (2 * s+1+1) = -((s+1 : Nat) : Int) by unfold pval;rw [if_neg (by omega)];omega,
        show i - (P V n kk (2 * s+1)+V n (kk - (s+1)))=i - P V n kk (2 * s+1) - V n (kk - (s+1)) by omega]
    · refine ⟨2 * s+1,k,Nat.le_refl _,by unfold psz;omega,hP,by rw [e2];omega, ?_⟩
      rw [if_neg hc,if_pos (by omega),show psz (2 * s+1)=s+1 by unfold psz;omega,show pval (2 * s+1)=((s+1 : Nat) : Int) by unfold pval;rw [if_pos (by omega)];omega]
  | succ e ih =>
    intro s k h hP
    have hV:=VV C (show n < 17 by omega) (show kk - (s+1) < 13 by omega)
    have hW:=VV C (show n+1 < 17 by omega) hkk
    have hPn:=P_nn C (n:=n) (by omega) hkk (2 * s+1)
    have hodd:=P_odd V n kk s
    have e2 : P V n kk (2 * s+1+1)=P V n kk (2 * s+1)+V n (kk - (s+1)):=by rw [P_succ,show psz (2 * s+1)=s+1 by unfold psz;omega]
    by_cases h2 : i - P V n kk (2 * s+1) ≥ 2 * V n (kk - (s+1))
    · obtain ⟨p,k',g1,g2,g3,g4,g5⟩:=ih (s+1) k (by omega) (by rw [hodd];omega)
      refine ⟨p,k',g1,g2,g3,g4, ?_⟩
      rw [hodd] at g5
      rw [show k+(e+1)+1=(k+e+1)+1 by omega,comb_Vector.l1,u64 (x:=2 * V n (kk - (s+1))) (by omega) (by omega),if_pos h2,wpred (by omega),wsucc (by omega),wsub (by omega) (by omega),C.table (by omega) (by omega),Option.bind_some,u64 (by omega) (by omega),
        show i - P V n kk (2 * s+1) - 2 * V n (kk - (s+1))=i - (P V n kk (2 * s+1)+2 * V n (kk - (s+1))) by omega]
      exact g5
    · have hn1 : wrap64 (((n+1 : Nat) : Int) - 1)=(n : Int):=by rw [w64 (by omega) (by omega)];omega
      rw [show k+(e+1)+1=(k+(e+1))+1 from rfl,comb_Vector.l1,u64 (x:=2 * V n (kk - (s+1))) (by omega) (by omega),if_neg h2,wpred (by omega),wsub (by omega) (by omega),C.table (by omega) (by omega),Option.bind_some]
      by_cases hc : i - P V n kk (2 * s+1) ≥ V n (kk - (s+1))
      · refine ⟨2 * (s+1),k+(e+1),by omega,by unfold psz;omega,by rw [show 2 * (s+1)=2 * s+1+1 by omega,e2];omega,by rw [hodd];omega, ?_⟩
        rw [if_pos hc,if_pos (by omega),u64 (by omega) (by omega),show psz (2 * (s+1))=s+1 by unfold psz;omega,show 2 * (s+1)=2 * s+1+1 by omega,e2,w64 (x := -((s+1 : Nat) : Int)) (by omega) (by omega),show pval (2 * s+1+1) = -((s+1 : Nat) : Int) by unfold pval;rw [if_neg (by omega)];omega,
          show i - (P V n kk (2 * s+1)+V n (kk - (s+1)))=i - P V n kk (2 * s+1) - V n (kk - (s+1)) by omega]
      · refine ⟨2 * s+1,k+(e+1),by omega,by unfold psz;omega,hP,by rw [e2];omega, ?_⟩
        rw [if_neg hc,if_pos (by omega),show psz (2 * s+1)=s+1 by unfold psz;omega,show pval (2 * s+1)=((s+1 : Nat) : Int) by unfold pval;rw [if_pos (by omega)];omega]
theorem Unr.none (C : Cnt V) {kk : Nat} {i : Int} (hkk : kk < 13) (h0 : 0≤i) (h1 : i < V 0 kk) : Unr V 0 kk i []:=by
  rcases Nat.eq_zero_or_pos kk with rfl|h
  · rw [C.zero (by decide)] at h1
    exact ⟨rfl,by omega,rfl⟩
  · rw [C.none hkk h] at h1
    omega
theorem vec_l0 (C : Cnt V) : ∀ (n kk k : Nat) (i : Int) (out : List Int),n≤16→kk < 13→0≤i→i < V n kk→out.length+n≤50→20 * n+1≤k →
    ∃ y,Unr V n kk i y∧comb_Vector.l0 k (n : Int) (kk : Int) i out=some (out ++ y,0)
  | 0,kk,k,i,out,hn,hkk,h0,h1,ho,hk=>by
    obtain ⟨q,rfl⟩ : ∃ q,k=q+1:=⟨k - 1,by omega⟩
    refine ⟨[],Unr.none C hkk h0 h1, ?_⟩
    rw [comb_Vector.l0,if_neg (by omega),List.append_nil]
  | n+1,kk,k,i,out,hn,hkk,h0,h1,ho,hk=>by
    have hV:=VV C (show n < 17 by omega) hkk
    have hW:=VV C (show n+1 < 17 by omega) hkk
    by_cases hc : i ≥ V n kk
    · have hk0 : 0 < kk:=by
        rcases Nat.eq_zero_or_pos kk with rfl|h
        · rw [C.zero (by omega)] at h1 hc
          omega
        · exact h
      obtain ⟨q,rfl⟩ : ∃ q,k=(q+(kk - 1)+1)+1:=⟨k - kk - 1,by omega⟩
      obtain ⟨p,k',g1,g2,g3,g4,g5⟩:=vec_l1 C (n:=n) (by omega) hkk h1 (out:=out) (by omega) (kk - 1) 0 q (by omega) (by rw [show 2 * 0+1=1 from rfl,P_one];exact hc)
      have hV2:=P_succ V n kk p
      obtain ⟨y,hy,hy2⟩:=vec_l0 C n (kk - psz p) k' (i - P V n kk p) (out ++ [pval p]) (by omega) (by omega) (by omega) (by omega) (by rw [List.length_append,List.length_singleton];omega) (by omega)
      refine ⟨pval p :: y,⟨p,y,rfl,g2,g3,g4,hy⟩, ?_⟩
      rw [comb_Vector.l0,if_pos (by omega),wpred (by omega),wone (by omega) (by omega),C.table (by omega) hkk,Option.bind_some,if_pos hc,C.table (by omega) (by omega),Option.bind_some,u64 (by omega) (by omega)]
      rw [show 2 * 0+1=1 from rfl,P_one] at g5
      rw [show ((0+1 : Nat) : Int)=1 from rfl,show kk - (0+1)=kk - 1 from rfl] at g5
      rw [g5,hy2,List.append_assoc,List.singleton_append]
    · obtain ⟨q,rfl⟩ : ∃ q,k=q+1:=⟨k - 1,by omega⟩
      obtain ⟨y,hy,hy2⟩:=vec_l0 C n kk q i (out ++ [0]) (by omega) hkk h0 (by omega) (by rw [List.length_append,List.length_singleton];omega) (by omega)
      refine ⟨pval 0 :: y,⟨0,y,rfl,Nat.zero_le _,h0,by rw [show 0+1=1 from rfl,P_one];omega, ?_⟩, ?_⟩
      · rw [show kk - psz 0=kk from rfl,show P V n kk 0=0 from rfl,Int.sub_zero]
        exact hy
      · have hn1 : wrap64 (((n+1 : Nat) : Int) - 1)=(n : Int):=by rw [w64 (by omega) (by omega)];omega
        rw [comb_Vector.l0,if_pos (by omega),wpred (by omega),C.table (by omega) hkk,Option.bind_some,if_neg hc,if_pos (by omega),hy2,List.append_assoc]
        rfl
theorem refCount_ok (C : Cnt V) {n k : Nat} (hn' : n≤16) (hk : k < 13) {q : Nat} (hq : 3000≤q) : r06_Count.f q (n : Int) (k : Int)=some (V n k):=by
  unfold r06_Count.f
  rw [C.rows (by omega) hq,Option.bind_some,if_pos (by omega),if_pos (by rw [rowL_len];omega),rd_row hk]
theorem bits_ex : ∀ (j : Nat) (v : Int),0≤v→v < 2 ^ j→(j≤60∧v < 1152921504606846976)→∃ b : Int,0≤b∧b≤j∧(∀ (k : Nat) (c : Int),0≤c→c+j≤1000→comb_width.l0 (k+j+1) v c=some (c+b))∧∀ k : Nat,r03_Log2.f (k+j+1) v=some (b - 1)
  | 0,v,h0,h1,_=>by
    obtain rfl : v=0:=by
      rw [Int.pow_zero] at h1
      omega
    refine ⟨0,by omega,by omega,fun k c _ _ => ?_,fun k => ?_⟩
    · rw [comb_width.l0,if_neg (by omega),Int.add_zero]
    · rw [r03_Log2.f,if_pos rfl]
      rfl
  | j+1,v,h0,h1,hj=>by
    by_cases hv : v=0
    · subst hv
      refine ⟨0,by omega,by omega,fun k c _ _ => ?_,fun k => ?_⟩
      · rw [comb_width.l0,if_neg (by omega),Int.add_zero]
      · rw [r03_Log2.f,if_pos rfl]
        rfl
    · have h2 : (2 : Int) ^ (j+1)=2 * 2 ^ j:=by rw [Int.pow_succ,Int.mul_comm]
      obtain ⟨b,b0,b1,b2,b3⟩:=bits_ex j (v / 2) (by omega) (by omega) ⟨by omega,by omega⟩
      refine ⟨b+1,by omega,by omega,fun k c c0 c1 => ?_,fun k => ?_⟩
      · rw [show k+(j+1)+1=(k+j+1)+1 by omega,comb_width.l0,if_pos (by omega),w64 (by omega) (by omega),b2 k (c+1) (by omega) (by omega)]
        congr 1
        omega
      · rw [show k+(j+1)+1=(k+j+1)+1 by omega,r03_Log2.f,if_neg hv,Int.tdiv_eq_ediv_of_nonneg h0,u64 (by omega) (by omega),b3 k,Option.bind_some,w64 (by omega) (by omega)]
        congr 1
        omega
theorem same_l0 {l : List Int} (hl : l.length≤1000) : ∀ (d i k : Nat),i+d=l.length→r06_Same.l0 (k+d+1) l l (i : Int)=some true:=by
  intro d
  induction d with
  | zero =>
    intro i k h
    rw [r06_Same.l0,if_neg (by omega)]
  | succ d ih =>
    intro i k h
    rw [show k+(d+1)+1=(k+d+1)+1 by omega,r06_Same.l0,if_pos (by omega),if_pos (by omega),if_pos (by omega),if_pos rfl,w64 (by omega) (by omega),show (i : Int)+1=((i+1 : Nat) : Int) by omega]
    exact ih (i+1) k (by omega)
theorem same_f {l : List Int} (hl : l.length≤1000) {k : Nat} (hk : l.length < k) : r06_Same.f k l l=some true:=by
  unfold r06_Same.f
  rw [if_pos rfl]
  obtain ⟨j,rfl⟩ : ∃ j,k=j+l.length+1:=⟨k - l.length - 1,by omega⟩
  exact same_l0 hl l.length 0 j (by omega)
end Go.Proofs.Ytifkhfnmbiefaaa.Com
/- What a number of a pulse vector costs, by the program and by the document: the same. -/
namespace Go.Proofs.Ytifkhfnmbiefaaa.Com
open Go Go.RowKit Go.Proofs.YtifkhfnmbiefaaaW.PrintWords Go.Proofs.Ytifkhfnmbiefaaa.Prt
set_option linter.unusedVariables false
set_option linter.unusedSimpArgs false
variable {V : Nat→Nat→Int}
theorem fair_ok {n k : Nat} (hn : 1≤n) (hn' : n≤16) (hk : k < 13) : comb_fair.f (n : Int) (k : Int)=some true:=by
  unfold comb_fair.f
  rw [if_pos (by omega),if_pos (by omega),if_pos (by omega),decide_eq_true (by omega)]
theorem vector_ok (C : Cnt V) {n k : Nat} {i : Int} (hn : 1≤n) (hn' : n≤16) (hk : k < 13) (h0 : 0≤i) (h1 : i < V n k) : ∃ y,Unr V n k i y∧∀ q,400≤q→comb_Vector.f q (n : Int) (k : Int) i=some (y,0):=by
  obtain ⟨y,hy,hy2⟩:=vec_l0 C n k 400 i [] hn' hk h0 h1 (by simp;omega) (by omega)
  refine ⟨y,hy,fun q hq => ?_⟩
  obtain ⟨y',hy',hy2'⟩:=vec_l0 C n k q i [] hn' hk h0 h1 (by simp;omega) (by omega)
  obtain rfl:=Unr.fn C (by omega) hk hy hy'
  unfold comb_Vector.f
  rw [fair_ok hn hn' hk,Option.bind_some,if_pos rfl,C.table (by omega) hk,Option.bind_some,if_neg (by omega),hy2',List.nil_append]
theorem count_ok (C : Cnt V) {n k : Nat} (hn : 1≤n) (hn' : n≤16) (hk : k < 13) : comb_Count.f (n : Int) (k : Int)=some (V n k,0):=by
  unfold comb_Count.f
  rw [fair_ok hn hn' hk,Option.bind_some,if_pos rfl,C.table (by omega) hk,Option.bind_some]
theorem cost_ok (C : Cnt V) {n k : Nat} (hn : 1≤n) (hn' : n≤16) (hk : k < 13) {q : Nat} (hq : 3000≤q) : ∃ c,0≤c∧c≤60∧(k=0→c=0)∧comb_Cost.f q (n : Int) (k : Int)=some (c,0)∧r06_Cost.f q (n : Int) (k : Int)=some c:=by
  have hV:=VV C (show n < 17 by omega) hk
  have hp:=C.pos (show n < 17 by omega) hk (by omega)
  unfold comb_Cost.f r06_Cost.f
  rw [count_ok C hn hn' hk,refCount_ok C hn' hk hq,Option.bind_some,Option.bind_some]
  dsimp only
  rw [if_pos rfl,u64 (x:=V n k - 1) (by omega) (by omega)]
  have h40 : (2 : Int) ^ 40=1099511627776:=by decide
  obtain ⟨r,rfl⟩ : ∃ r,q=r+40+1:=⟨q - 41,by omega⟩
  by_cases hc : V n k - 1 < 65536
  · obtain ⟨b,b0,b1,b2,b3⟩:=bits_ex 40 (V n k - 1) (by omega) (by omega) ⟨by omega,by omega⟩
    have b2' := b2 r 0 (by omega) (by omega)
    rw [Int.zero_add] at b2'
    refine ⟨b,b0,by omega,fun hk0 => ?_, ?_, ?_⟩
    · subst hk0
      have hz:=C.zero (show n < 17 by omega)
      rw [hz] at b2'
      have h0 : comb_width.l0 (r+40+1) (1 - 1) 0=some 0:=by rw [comb_width.l0,if_neg (by decide)]
      rw [h0] at b2'
      exact (Option.some.inj b2').symm
    · rw [if_pos hc]
      unfold comb_width.f
      rw [b2',Option.bind_some]
    · rw [if_pos hc,b3 r,Option.bind_some,w64 (by omega) (by omega)]
      congr 1
      omega
  · obtain ⟨b,b0,b1,b2,b3⟩:=bits_ex 40 ((V n k - 1) / 65536) (by omega) (by omega) ⟨by omega,by omega⟩
    have b2' := b2 r 0 (by omega) (by omega)
    rw [Int.zero_add] at b2'
    refine ⟨b+16,by omega,by omega,fun hk0 => ?_, ?_, ?_⟩
    · subst hk0
      have hz:=C.zero (show n < 17 by omega)
      omega
    · rw [if_neg hc]
      unfold comb_width.f
      rw [b2',Option.bind_some,w64 (by omega) (by omega)]
    · rw [if_neg hc,Int.tdiv_eq_ediv_of_nonneg (by omega),u64 (by omega) (by omega),b3 r,Option.bind_some,w64 (by omega) (by omega)]
      congr 1
      omega
structure Cst (K : Nat→Nat→Int) : Prop where
  cost : ∀ {n k : Nat},1≤n→n≤16→k < 13→0≤K n k∧K n k≤60∧(k=0→K n k=0)∧∀ q,3000≤q→comb_Cost.f q (n : Int) (k : Int)=some (K n k,0)∧r06_Cost.f q (n : Int) (k : Int)=some (K n k)
theorem exCst : ∃ K,Cst K:=by
  obtain ⟨V,C⟩:=exCnt
  refine ⟨fun n k=>((comb_Cost.f 3000 (n : Int) (k : Int)).getD (0,0)).1,⟨fun {n k} hn hn' hk => ?_⟩⟩
  obtain ⟨c,c0,c1,c2,h1,h2⟩:=cost_ok C hn hn' hk (Nat.le_refl 3000)
  have e : ((comb_Cost.f 3000 (n : Int) (k : Int)).getD (0,0)).1=c:=by rw [h1];rfl
  simp only [e]
  exact ⟨c0,c1,c2,fun q hq=>⟨at_rounds (comb_Cost.mono _ _) hq h1,at_rounds (r06_Cost.mono _ _) hq h2⟩⟩
end Go.Proofs.Ytifkhfnmbiefaaa.Com
/- Pulses of one channel: what a band costs and is worth, by the program and by the document. -/
namespace Go.Proofs.Ytifkhfnmbiefaaa.Alo
open Go Go.RowKit Go.Proofs.YtifkhfnmbiefaaaW.PrintWords Go.Proofs.Ytifkhfnmbiefaaa.Prt
set_option linter.unusedVariables false
set_option linter.unusedSimpArgs false
variable {K : Nat→Nat→Int}
def W (b : Nat) : Nat := [1,1,2,4,8].getD b 0
theorem W_in {b : Nat} (h : b < 5) : 1≤W b∧W b≤8:=(by decide : ∀ b : Fin 5,1≤W b.1∧W b.1≤8) ⟨b,h⟩
def mst (b : Nat) : Int:=if W b=1 then 1 else 12
theorem width_p {b : Nat} (h : b < 5) : band_Width.f (b : Int)=some (W b : Int):=(by decide +kernel : ∀ b : Fin 5,band_Width.f (b.1 : Int)=some (W b.1 : Int)) ⟨b,h⟩
theorem most_p {b : Nat} (h : b < 5) : alloc_most.f (b : Int)=some (mst b):=(by decide +kernel : ∀ b : Fin 5,alloc_most.f (b.1 : Int)=some (mst b.1)) ⟨b,h⟩
theorem width_1 : ∀ b : Fin 5,r10_Width.f 1 (b.1 : Int)=some (W b.1 : Int):=by decide +kernel
theorem width_r {b : Nat} (h : b < 5) {q : Nat} (hq : 1≤q) : r10_Width.f q (b : Int)=some (W b : Int):=at_rounds (r10_Width.mono _) hq (width_1 ⟨b,h⟩)
def Gr (g : List Int) : Prop:=g.length=5∧∀ b : Nat,b < 5→0≤rd g (b : Int)∧rd g (b : Int)≤44
def Ks (l : List Int) : Prop:=l.length=5∧∀ b : Nat,b < 5→0≤rd l (b : Int)∧rd l (b : Int)≤mst b
theorem mst_in (b : Nat) : 1≤mst b∧mst b≤12:=by unfold mst;by_cases h : W b=1 <;> simp [h]
def Kb (K : Nat→Nat→Int) (b : Nat) (v : Int) : Int:=K (W b) v.toNat
theorem Kb_in (C : Com.Cst K) {b : Nat} (h : b < 5) {v : Int} (v0 : 0≤v) (v1 : v≤12) : 0≤Kb K b v∧Kb K b v≤60:=by
  have hw:=W_in h
  have:=C.cost (n:=W b) (k:=v.toNat) (by omega) (by omega) (by omega)
  exact ⟨this.1,this.2.1⟩
theorem Kb_c (C : Com.Cst K) {b : Nat} (h : b < 5) {v : Int} (v0 : 0≤v) (v1 : v≤12) {q : Nat} (hq : 3000≤q) : comb_Cost.f q (W b : Int) v=some (Kb K b v,0)∧r06_Cost.f q (W b : Int) v=some (Kb K b v):=by
  have hw:=W_in h
  have:=(C.cost (n:=W b) (k:=v.toNat) (by omega) (by omega) (by omega)).2.2.2 q hq
  rw [Int.toNat_of_nonneg v0] at this
  exact this
theorem Kb_0 (C : Com.Cst K) {b : Nat} (h : b < 5) : Kb K b 0=0:=by
  have hw:=W_in h
  exact (C.cost (n:=W b) (k:=0) (by omega) (by omega) (by omega)).2.2.1 rfl
def Sp (K : Nat→Nat→Int) (l : List Int) : Int:=Kb K 0 (rd l 0)+Kb K 1 (rd l 1)+Kb K 2 (rd l 2)+Kb K 3 (rd l 3)+Kb K 4 (rd l 4)
theorem Ks_rd {l : List Int} (h : Ks l) {b : Nat} (hb : b < 5) : 0≤rd l (b : Int)∧rd l (b : Int)≤12:=by
  have:=h.2 b hb
  have:=mst_in b
  omega
theorem Sp_in (C : Com.Cst K) {l : List Int} (h : Ks l) : 0≤Sp K l∧Sp K l≤300:=by
  have f:=fun (b : Nat) (hb : b < 5)=>Kb_in C hb (Ks_rd h hb).1 (Ks_rd h hb).2
  have f0 : 0≤Kb K 0 (rd l 0)∧Kb K 0 (rd l 0)≤60:=f 0 (by decide)
  have f1 : 0≤Kb K 1 (rd l 1)∧Kb K 1 (rd l 1)≤60:=f 1 (by decide)
  have f2 : 0≤Kb K 2 (rd l 2)∧Kb K 2 (rd l 2)≤60:=f 2 (by decide)
  have f3 : 0≤Kb K 3 (rd l 3)∧Kb K 3 (rd l 3)≤60:=f 3 (by decide)
  have f4 : 0≤Kb K 4 (rd l 4)∧Kb K 4 (rd l 4)≤60:=f 4 (by decide)
  unfold Sp
  omega
theorem sp_step (C : Com.Cst K) {l : List Int} (h : Ks l) {b : Nat} (hb : b < 5) {q : Nat} (hq : 3000≤q) {x : Int} (x0 : 0≤x) (x1 : x≤1000) : r12_Spent.l0 (q+1) l x (b : Int)=r12_Spent.l0 q l (x+Kb K b (rd l (b : Int))) ((b+1 : Nat) : Int):=by
  have hl:=h.1
  have hr:=Ks_rd h hb
  have hk:=Kb_in C hb hr.1 hr.2
  rw [r12_Spent.l0,if_pos (by omega),width_r hb (by omega),Option.bind_some,if_pos (by omega),if_pos (by omega),(Kb_c C hb hr.1 hr.2 hq).2,Option.bind_some,w64 (by omega) (by omega),w64 (by omega) (by omega)]
  rfl
theorem spent_f (C : Com.Cst K) {l : List Int} (h : Ks l) {q : Nat} (hq : 3010≤q) : r12_Spent.f q l=some (Sp K l):=by
  obtain ⟨r,rfl⟩ : ∃ r,q=r+1+1+1+1+1+1:=⟨q - 6,by omega⟩
  have f:=fun (b : Nat) (hb : b < 5)=>Kb_in C hb (Ks_rd h hb).1 (Ks_rd h hb).2
  have f0:=f 0 (by decide)
  have f1:=f 1 (by decide)
  have f2:=f 2 (by decide)
  have f3:=f 3 (by decide)
  unfold r12_Spent.f
  rw [show (r12_Spent.l0 (r+1+1+1+1+1+1) l 0 0)=r12_Spent.l0 (r+1+1+1+1+1+1) l 0 ((0 : Nat) : Int) from rfl,sp_step C h (b:=0) (by omega) (by omega) (by omega) (by omega),sp_step C h (b:=1) (by omega) (by omega) (by omega) (by omega),sp_step C h (b:=2) (by omega) (by omega) (by omega) (by omega),sp_step C h (b:=3) (by omega) (by omega) (by omega) (by omega),sp_step C h (b:=4) (by omega) (by omega) (by omega) (by omega),r12_Spent.l0,if_neg (by omega),Int.zero_add]
  rfl
def more (l : List Int) (b : Nat) : List Int:=l.set b (rd l (b : Int)+1)
theorem rd_more {l : List Int} (hl : l.length=5) {b c : Nat} (hb : b < 5) (hc : c < 5) : rd (more l b) (c : Int)=if c=b then rd l (b : Int)+1 else rd l (c : Int):=by
  unfold more Go.Proofs.YtifkhfnmbiefaaaW.PrintWords.rd
  simp only [Int.toNat_natCast,List.getD_eq_getElem?_getD,List.getElem?_set]
  by_cases h : b=c
  · subst h
    simp [hl,hb]
  · rw [if_neg h,if_neg (Ne.symm h)]
theorem Sp_more {l : List Int} (hl : l.length=5) {b : Nat} (hb : b < 5) : Sp K (more l b)=Sp K l+(Kb K b (rd l (b : Int)+1) - Kb K b (rd l (b : Int))):=by
  have f:=fun (c : Nat) (hc : c < 5)=>rd_more hl hb hc
  have f0:=f 0 (by decide)
  have f1:=f 1 (by decide)
  have f2:=f 2 (by decide)
  have f3:=f 3 (by decide)
  have f4:=f 4 (by decide)
  have hb' : b=0∨b=1∨b=2∨b=3∨b=4:=by omega
  unfold Sp
  change rd (more l b) 0=_ at f0
  change rd (more l b) 1=_ at f1
  change rd (more l b) 2=_ at f2
  change rd (more l b) 3=_ at f3
  change rd (more l b) 4=_ at f4
  rw [f0,f1,f2,f3,f4]
  rcases hb' with rfl|rfl|rfl|rfl|rfl
  · change Kb K 0 (rd l 0+1)+_+_+_+_=_+(Kb K 0 (rd l 0+1) - Kb K 0 (rd l 0));simp only [show (1 : Nat)≠0 by decide,show (2 : Nat)≠0 by decide,show (3 : Nat)≠0 by decide,show (4 : Nat)≠0 by decide,if_false];change Kb K 0 (rd l 0+1)+Kb K 1 (rd l 1)+Kb K 2 (rd l 2)+Kb K 3 (rd l 3)+Kb K 4 (rd l 4)=_;omega
  · change Kb K 0 (rd l 0)+Kb K 1 (rd l 1+1)+Kb K 2 (rd l 2)+Kb K 3 (rd l 3)+Kb K 4 (rd l 4)=_+(Kb K 1 (rd l 1+1) - Kb K 1 (rd l 1));omega
  · change Kb K 0 (rd l 0)+Kb K 1 (rd l 1)+Kb K 2 (rd l 2+1)+Kb K 3 (rd l 3)+Kb K 4 (rd l 4)=_+(Kb K 2 (rd l 2+1) - Kb K 2 (rd l 2));omega
  · change Kb K 0 (rd l 0)+Kb K 1 (rd l 1)+Kb K 2 (rd l 2)+Kb K 3 (rd l 3+1)+Kb K 4 (rd l 4)=_+(Kb K 3 (rd l 3+1) - Kb K 3 (rd l 3));omega
  · change Kb K 0 (rd l 0)+Kb K 1 (rd l 1)+Kb K 2 (rd l 2)+Kb K 3 (rd l 3)+Kb K 4 (rd l 4+1)=_+(Kb K 4 (rd l 4+1) - Kb K 4 (rd l 4));omega
theorem Ks_more {l : List Int} (h : Ks l) {b : Nat} (hb : b < 5) (hm : rd l (b : Int) < mst b) : Ks (more l b):=by
  refine ⟨by unfold more;rw [List.length_set];exact h.1,fun c hc => ?_⟩
  rw [rd_more h.1 hb hc]
  by_cases e : c=b
  · subst e
    rw [if_pos rfl]
    have:=h.2 c hc
    omega
  · rw [if_neg e]
    exact h.2 c hc
theorem more_f {l : List Int} (h : Ks l) {b : Nat} (hb : b < 5) : r12_More.f l (b : Int)=some (more l b):=by
  have hr:=Ks_rd h hb
  have hl:=h.1
  unfold r12_More.f
  rw [Option.bind_some,if_pos (by rw [hl];decide),Option.bind_some,List.nil_append,if_pos (by omega),if_pos (by omega),w64 (by omega) (by omega),Int.toNat_natCast]
  rfl
def may (K : Nat→Nat→Int) (g l : List Int) (R : Int) (b : Nat) : Bool:=decide (1≤rd g (b : Int)∧rd l (b : Int) < mst b∧Sp K (more l b)≤R)
theorem may_f (C : Com.Cst K) {g l : List Int} {R : Int} (hg : Gr g) (h : Ks l) {b : Nat} (hb : b < 5) {q : Nat} (hq : 3020≤q) : r12_May.f q g l (b : Int) R=some (may K g l R b):=by
  have hgl:=hg.1
  have hl:=h.1
  have hr:=Ks_rd h hb
  have hm:=h.2 b hb
  obtain ⟨q,rfl⟩ : ∃ r,q=r+1:=⟨q - 1,by omega⟩
  unfold r12_May.f may
  rw [if_pos (by omega),if_pos (by omega)]
  simp only [r12_May.j0]
  by_cases h1 : rd g (b : Int) < 1
  · rw [if_pos h1,decide_eq_false (by omega),if_pos (by simp)]
  · rw [if_neg h1,if_pos (by omega)]
    by_cases h2 : rd l (b : Int) ≥ 12
    · have:=mst_in b
      rw [if_pos h2,decide_eq_false (by omega),if_pos (by simp)]
    · rw [if_neg h2,width_r hb (by omega),Option.bind_some]
      have key : rd l (b : Int) < mst b→(r12_More.f l (b : Int)).bind (fun t239=>(r12_Spent.f q t239).bind fun t242=>some (decide (t242≤R)))=some (decide (1≤rd g (b : Int)∧rd l (b : Int) < mst b∧Sp K (more l b)≤R)):=by
        intro hx
        rw [more_f h hb,Option.bind_some,spent_f C (Ks_more h hb hx) (by omega),Option.bind_some]
        congr 1
        rw [decide_eq_decide]
        exact ⟨fun hz=>⟨by omega,hx,hz⟩,fun hz=>hz.2.2⟩
      by_cases hw : W b=1
      · have hw' : mst b=1:=by unfold mst;rw [if_pos hw]
        rw [if_pos (by omega)]
        by_cases h3 : rd l (b : Int) > 0
        · rw [decide_eq_true h3,if_pos (by simp),decide_eq_false (by omega)]
        · rw [decide_eq_false h3,if_neg (by simp)]
          exact key (by omega)
      · have hw' : mst b=12:=by unfold mst;rw [if_neg hw]
        rw [if_neg (by omega),if_neg (by simp)]
        exact key (by omega)
theorem cost_f (C : Com.Cst K) {g l : List Int} {R : Int} (hg : Gr g) (h : Ks l) {b : Nat} (hb : b < 5) {q : Nat} (hq : 3020≤q) : ∃ c,alloc_cost.f q g (b : Int) l (R - Sp K l)=some (c,may K g l R b)∧(may K g l R b=true→c=Sp K (more l b) - Sp K l):=by
  have hgl:=hg.1
  have hl:=h.1
  have hr:=Ks_rd h hb
  have hm:=h.2 b hb
  have hgb:=hg.2 b hb
  have hms:=mst_in b
  obtain ⟨q,rfl⟩ : ∃ r,q=r+1:=⟨q - 1,by omega⟩
  unfold alloc_cost.f may
  simp only [alloc_cost.j0]
  rw [if_pos (by omega),if_pos (by omega)]
  by_cases h1 : rd g (b : Int)=0
  · rw [if_pos h1,decide_eq_false (by omega),if_pos (by simp)]
    exact ⟨0,rfl,fun hx=>absurd hx (by decide)⟩
  · rw [if_neg h1,if_pos (by omega),most_p hb,Option.bind_some]
    by_cases h2 : rd l (b : Int) ≥ mst b
    · rw [decide_eq_true h2,if_pos (by simp),decide_eq_false (by omega)]
      exact ⟨0,rfl,fun hx=>absurd hx (by decide)⟩
    · have k0:=Kb_in C hb hr.1 hr.2
      have k1:=Kb_in C hb (v:=rd l (b : Int)+1) (by omega) (by omega)
      have hS:=Sp_more (K:=K) hl hb
      rw [decide_eq_false h2,if_neg (by simp),width_p hb,Option.bind_some,if_pos (by omega),if_pos (by omega),(Kb_c C hb hr.1 hr.2 (by omega)).1,Option.bind_some,Option.bind_some,w64 (x:=rd l (b : Int)+1) (by omega) (by omega),(Kb_c C hb (v:=rd l (b : Int)+1) (by omega) (by omega) (by omega)).1,Option.bind_some]
      dsimp only
      rw [w64 (x:=Kb K b (rd l (b : Int)+1) - Kb K b (rd l (b : Int))) (by omega) (by omega)]
      refine ⟨_, ?_,fun _=>(by omega : Kb K b (rd l (b : Int)+1) - Kb K b (rd l (b : Int))=Sp K (more l b) - Sp K l)⟩
      congr 2
      rw [decide_eq_decide]
      omega
def wth (g l : List Int) (b : Nat) : Int:=wrap64 ((wrap64 (8 * (rd g (b : Int)))) - (wrap64 (Int.tdiv (wrap64 (16 * (rd l (b : Int)))) (W b : Int))))
theorem worth_f {g l : List Int} (hg : g.length=5) (h : l.length=5) {b : Nat} (hb : b < 5) {x : Int} : alloc_worth.f g (b : Int) l x=some (wth g l b):=by
  have hw:=W_in hb
  unfold alloc_worth.f wth
  rw [if_pos (by omega),if_pos (by omega),if_pos (by omega),width_p hb,Option.bind_some,if_neg (by omega)]
def nxt (m : Nat→Bool) (w : Nat→Int) (b : Nat) (x : Option Nat) : Option Nat:=if m b=true then (match x with|none=>some b|some y=>if w b > w y then some b else some y) else x
def pick (m : Nat→Bool) (w : Nat→Int) : Nat→Nat→Option Nat→Option Nat
  | 0,_,x=>x
  | d+1,b,x=>pick m w d (b+1) (nxt m w b x)
def cd : Option Nat→Int
  | none => -1
  | some y=>(y : Int)
def Ok5 (m : Nat→Bool) (x : Option Nat) : Prop := ∀ y,x=some y→y < 5∧m y=true
theorem ok_next {m : Nat→Bool} {w : Nat→Int} {b : Nat} (hb : b < 5) {x : Option Nat} (hx : Ok5 m x) : Ok5 m (nxt m w b x):=by
  unfold nxt
  by_cases h : m b=true
  · rw [if_pos h]
    cases x with
    | none =>
      intro y hy
      obtain rfl : b=y:=by simpa using hy
      exact ⟨hb,h⟩
    | some z =>
      dsimp only
      by_cases h2 : w b > w z
      · rw [if_pos h2]
        intro y hy
        obtain rfl : b=y:=by simpa using hy
        exact ⟨hb,h⟩
      · rw [if_neg h2]
        exact hx
  · rw [if_neg h]
    exact hx
theorem pick_ok {m : Nat→Bool} {w : Nat→Int} : ∀ (d b : Nat) (x : Option Nat),b+d=5→Ok5 m x→Ok5 m (pick m w d b x)
  | 0,_,_,_,hx=>hx
  | d+1,b,x,h,hx=>pick_ok d (b+1) _ (by omega) (ok_next (b:=b) (by omega) hx)
theorem pick_some {m : Nat→Bool} {w : Nat→Int} : ∀ (d b : Nat) (x : Option Nat),x≠none→pick m w d b x≠none
  | 0,_,_,h=>h
  | d+1,b,x,h=>by
    rw [pick,nxt.eq_def]
    refine pick_some d (b+1) _ ?_
    by_cases hm : m b=true
    · rw [if_pos hm]
      cases x with
      | none=>exact absurd rfl h
      | some z =>
        dsimp only
        by_cases h2 : w b > w z
        · rw [if_pos h2];simp
        · rw [if_neg h2];simp
    · rw [if_neg hm];exact h
theorem pick_none {m : Nat→Bool} {w : Nat→Int} : ∀ (d b : Nat),pick m w d b none=none→∀ c,b≤c→c < b+d→m c=false
  | 0,b,h,c,c0,c1=>by omega
  | d+1,b,h,c,c0,c1=>by
    rw [pick,nxt.eq_def] at h
    by_cases hm : m b=true
    · rw [if_pos hm] at h
      exact absurd h (pick_some d (b+1) _ (by simp))
    · rw [if_neg hm] at h
      by_cases hc : c=b
      · subst hc;simpa using hm
      · exact pick_none d (b+1) h c (by omega) (by omega)
theorem give_loop (C : Com.Cst K) {g l : List Int} {R : Int} (hg : Gr g) (h : Ks l) {q : Nat} (hq : 3020≤q) : ∀ (d b : Nat) (x : Option Nat),b+d=5→Ok5 (may K g l R) x→alloc_give.l0 (q+d) g l (R - Sp K l) (cd x) (b : Int)=alloc_give.l0 q g l (R - Sp K l) (cd (pick (may K g l R) (wth g l) d b x)) 5
  | 0,b,x,hb,_=>by
    obtain rfl : b=5:=by omega
    rfl
  | d+1,b,x,hb,hx=>by
    obtain ⟨c,hc,_⟩:=cost_f C (R:=R) hg h (b:=b) (by omega) (q:=q+d) (by omega)
    rw [show q+(d+1)=(q+d)+1 by omega,alloc_give.l0,if_pos (by omega),hc,Option.bind_some]
    dsimp only
    have ih:=fun x' hx' => give_loop C (R:=R) hg h hq d (b+1) x' (by omega) hx'
    have hn:=ok_next (w:=wth g l) (b:=b) (by omega) hx
    rw [nxt.eq_def] at hn
    rw [pick,nxt.eq_def,w64 (x:=(b : Int)+1) (by omega) (by omega),show (b : Int)+1=((b+1 : Nat) : Int) by omega]
    by_cases hm : may K g l R b=true
    · rw [if_pos hm] at hn ⊢
      rw [if_pos hm]
      cases x with
      | none =>
        rw [if_pos (by decide : cd none < 0)]
        exact ih _ hn
      | some y =>
        have hy:=(hx y rfl).1
        rw [if_neg (by simp only [cd];omega),worth_f hg.1 h.1 (by omega),Option.bind_some]
        simp only [cd] at ih ⊢
        rw [worth_f hg.1 h.1 hy,Option.bind_some]
        dsimp only at hn
        by_cases h2 : wth g l b > wth g l y
        · rw [if_pos h2] at hn ⊢
          rw [if_pos h2]
          exact ih _ hn
        · rw [if_neg h2] at hn ⊢
          rw [if_neg h2]
          exact ih _ hn
    · rw [if_neg hm] at hn ⊢
      rw [if_neg hm]
      exact ih _ hn
theorem chan_loop (C : Com.Cst K) {g l : List Int} {R : Int} (hg : Gr g) (h : Ks l) {q : Nat} (hq : 3020≤q) : ∀ (d b : Nat) (x : Option Nat) (v : Int),b+d=5→Ok5 (may K g l R) x→(∀ y,x=some y→v=wth g l y)→∃ v',r12_Channel.l1 (q+d) g R l (cd x) v (b : Int)=r12_Channel.l1 q g R l (cd (pick (may K g l R) (wth g l) d b x)) v' 5
  | 0,b,x,v,hb,_,_=>by
    obtain rfl : b=5:=by omega
    exact ⟨v,rfl⟩
  | d+1,b,x,v,hb,hx,hv=>by
    have hgl:=hg.1
    have hl:=h.1
    have hw:=W_in (b:=b) (by omega)
    have ih:=fun x' v' hx' hv' => chan_loop C (R:=R) hg h hq d (b+1) x' v' (by omega) hx' hv'
    have hn:=ok_next (w:=wth g l) (b:=b) (by omega) hx
    rw [nxt.eq_def] at hn
    rw [show q+(d+1)=(q+d)+1 by omega,r12_Channel.l1,if_pos (by omega),if_pos (by omega),if_pos (by omega),if_pos (by omega),width_r (by omega) (by omega),Option.bind_some,if_neg (by omega),may_f C hg h (by omega) (by omega),Option.bind_some]
    rw [pick,nxt.eq_def,w64 (x:=(b : Int)+1) (by omega) (by omega),show (b : Int)+1=((b+1 : Nat) : Int) by omega]
    have hwb : (wrap64 ((wrap64 (8 * (rd g (b : Int)))) - (wrap64 (Int.tdiv (wrap64 (16 * (rd l (b : Int)))) (W b : Int)))))=wth g l b:=rfl
    rw [hwb]
    by_cases hm : may K g l R b=true
    · rw [if_pos hm] at hn ⊢
      rw [if_pos hm]
      cases x with
      | none =>
        rw [if_pos (by decide : cd none < 0)]
        exact ih (some b) _ hn (fun y hy=>by cases (show b=y by simpa using hy);rfl)
      | some y =>
        have hy:=(hx y rfl).1
        rw [if_neg (by simp only [cd];omega),hv y rfl]
        dsimp only at hn
        by_cases h2 : wth g l b > wth g l y
        · rw [if_pos h2] at hn ⊢
          simp only [if_pos h2]
          exact ih (some b) _ hn (fun y hy=>by cases (show b=y by simpa using hy);rfl)
        · rw [if_neg h2] at hn ⊢
          simp only [if_neg h2]
          exact ih (some y) _ hn (fun z hz=>by cases (show y=z by simpa using hz);rfl)
    · rw [if_neg hm] at hn ⊢
      rw [if_neg hm]
      exact ih x v hn hv
end Go.Proofs.Ytifkhfnmbiefaaa.Alo
/- Pulses of one channel: the program's and the document's are the same. -/
namespace Go.Proofs.Ytifkhfnmbiefaaa.Alo
open Go Go.RowKit Go.Proofs.YtifkhfnmbiefaaaW.PrintWords Go.Proofs.Ytifkhfnmbiefaaa.Prt
set_option linter.unusedVariables false
set_option linter.unusedSimpArgs false
variable {K : Nat→Nat→Int}
def best (K : Nat→Nat→Int) (g l : List Int) (R : Int) : Option Nat:=pick (may K g l R) (wth g l) 5 0 none
theorem cd_some (b : Nat) : cd (some b)=(b : Int):=rfl
theorem ok_none (m : Nat→Bool) : Ok5 m none:=fun y hy=>absurd hy (by simp)
theorem give_none (C : Com.Cst K) {g l : List Int} {R : Int} (hg : Gr g) (h : Ks l) (hb : best K g l R=none) {q : Nat} (hq : 3030≤q) : alloc_give.f q g l (R - Sp K l)=some (R - Sp K l,false,l):=by
  obtain ⟨r,rfl⟩ : ∃ r,q=(r+1)+5:=⟨q - 6,by omega⟩
  have e:=give_loop C (R:=R) hg h (q:=r+1) (by omega) 5 0 none rfl (ok_none _)
  unfold best at hb
  rw [hb] at e
  unfold alloc_give.f
  refine Eq.trans e ?_
  rw [alloc_give.l0,if_neg (by decide),if_pos (by decide)]
theorem give_some (C : Com.Cst K) {g l : List Int} {R : Int} (hg : Gr g) (h : Ks l) {b : Nat} (hR : R≤1000) (hb : best K g l R=some b) (hm : may K g l R b=true) (hb5 : b < 5) (h0 : Sp K l≤R) {q : Nat} (hq : 3030≤q) : alloc_give.f q g l (R - Sp K l)=some (R - Sp K (more l b),true,more l b):=by
  obtain ⟨r,rfl⟩ : ∃ r,q=(r+1)+5:=⟨q - 6,by omega⟩
  have hl:=h.1
  have hr:=Ks_rd h hb5
  have e:=give_loop C (R:=R) hg h (q:=r+1) (by omega) 5 0 none rfl (ok_none _)
  unfold best at hb
  rw [hb] at e
  obtain ⟨c,hc,hc'⟩:=cost_f C (R:=R) hg h hb5 (q:=r) (by omega)
  have hm' := hm
  unfold may at hm'
  rw [decide_eq_true_eq] at hm'
  have s1:=Sp_in C h
  have s2:=Sp_in C (Ks_more h hb5 hm'.2.1)
  unfold alloc_give.f
  refine Eq.trans e ?_
  rw [cd_some,alloc_give.l0,if_neg (by decide)]
  rw [if_neg (by omega),hc,Option.bind_some,if_pos (by omega),if_pos (by omega)]
  dsimp only
  rw [hc' hm,w64 (x:=R - Sp K l - (Sp K (more l b) - Sp K l)) (by omega) (by omega),w64 (x:=rd l (b : Int)+1) (by omega) (by omega),Int.toNat_natCast,show R - Sp K l - (Sp K (more l b) - Sp K l)=R - Sp K (more l b) by omega]
  rfl
theorem chan_none (C : Com.Cst K) {g l : List Int} {R : Int} (hg : Gr g) (h : Ks l) (hb : best K g l R=none) {q : Nat} (hq : 3030≤q) : r12_Channel.l0 q g R l=some l:=by
  obtain ⟨r,rfl⟩ : ∃ r,q=((r+1)+5)+1:=⟨q - 7,by omega⟩
  obtain ⟨v,e⟩:=chan_loop C (R:=R) hg h (q:=r+1) (by omega) 5 0 none 0 rfl (ok_none _) (fun y hy=>absurd hy (by simp))
  unfold best at hb
  rw [hb] at e
  rw [r12_Channel.l0]
  refine Eq.trans e ?_
  rw [r12_Channel.l1,if_neg (by decide),if_pos (by decide)]
theorem chan_some (C : Com.Cst K) {g l : List Int} {R : Int} (hg : Gr g) (h : Ks l) {b : Nat} (hb : best K g l R=some b) (hb5 : b < 5) {r : Nat} (hq : 3030≤r) : r12_Channel.l0 (r+7) g R l=r12_Channel.l0 r g R (more l b):=by
  obtain ⟨v,e⟩:=chan_loop C (R:=R) hg h (q:=r+1) (by omega) 5 0 none 0 rfl (ok_none _) (fun y hy=>absurd hy (by simp))
  unfold best at hb
  rw [hb] at e
  rw [show r+7=((r+1)+5)+1 by omega,r12_Channel.l0]
  refine Eq.trans e ?_
  rw [cd_some,r12_Channel.l1,if_neg (by decide),if_neg (by omega),more_f h hb5,Option.bind_some]
def tot (l : List Int) : Int:=rd l 0+rd l 1+rd l 2+rd l 3+rd l 4
theorem tot_in {l : List Int} (h : Ks l) : 0≤tot l∧tot l≤60:=by
  have f0 : 0≤rd l 0∧rd l 0≤12:=Ks_rd h (b:=0) (by decide)
  have f1 : 0≤rd l 1∧rd l 1≤12:=Ks_rd h (b:=1) (by decide)
  have f2 : 0≤rd l 2∧rd l 2≤12:=Ks_rd h (b:=2) (by decide)
  have f3 : 0≤rd l 3∧rd l 3≤12:=Ks_rd h (b:=3) (by decide)
  have f4 : 0≤rd l 4∧rd l 4≤12:=Ks_rd h (b:=4) (by decide)
  unfold tot
  omega
theorem tot_more {l : List Int} (hl : l.length=5) {b : Nat} (hb : b < 5) : tot (more l b)=tot l+1:=by
  have f0 : rd (more l b) 0=_:=rd_more hl hb (c:=0) (by decide)
  have f1 : rd (more l b) 1=_:=rd_more hl hb (c:=1) (by decide)
  have f2 : rd (more l b) 2=_:=rd_more hl hb (c:=2) (by decide)
  have f3 : rd (more l b) 3=_:=rd_more hl hb (c:=3) (by decide)
  have f4 : rd (more l b) 4=_:=rd_more hl hb (c:=4) (by decide)
  unfold tot
  rw [f0,f1,f2,f3,f4]
  have hb' : b=0∨b=1∨b=2∨b=3∨b=4:=by omega
  rcases hb' with rfl|rfl|rfl|rfl|rfl
  · change rd l 0+1+rd l 1+rd l 2+rd l 3+rd l 4=_;omega
  · change rd l 0+(rd l 1+1)+rd l 2+rd l 3+rd l 4=_;omega
  · change rd l 0+rd l 1+(rd l 2+1)+rd l 3+rd l 4=_;omega
  · change rd l 0+rd l 1+rd l 2+(rd l 3+1)+rd l 4=_;omega
  · change rd l 0+rd l 1+rd l 2+rd l 3+(rd l 4+1)=_;omega
structure Chan (K : Nat→Nat→Int) (g : List Int) (R : Int) (l l' : List Int) : Prop where
  gr : Gr g
  ks : Ks l'
  fit : Sp K l'≤R
  full : ∀ b,b < 5→may K g l' R b=false
  still : ∀ b : Nat,b < 5→rd g (b : Int)=0→rd l' (b : Int)=rd l (b : Int)
  prog : ∀ (q t : Nat),4000≤q→60≤t+tot l→∀ x0 x1 x8 x22 x23 x24 r,x8.length < 5864062014805→alloc_Pulses.l0 q x0 x1 (x8 ++ [l']) x22 x23 (wrap64 (x24+1))=some r→alloc_Pulses.l1 (q+t+1) x0 x1 x8 g l x22 x23 x24 (R - Sp K l)=some r
  doc : ∀ (q t : Nat),4000≤q→60≤t+tot l→r12_Channel.l0 (q+7 * t) g R l=some l'
theorem chan (C : Com.Cst K) {g : List Int} {R : Int} (hg : Gr g) (hR : R≤1000) : ∀ (d : Nat) (l : List Int),Ks l→Sp K l≤R→60≤d+tot l→∃ l',Chan K g R l l'
  | d,l,h,hs,hd=>by
    cases hb : best K g l R with
    | none =>
      refine ⟨l,⟨hg,h,hs,fun b hb5=>pick_none 5 0 hb b (by omega) (by omega),fun _ _ _=>rfl, ?_, ?_⟩⟩
      · intro q t hq ht x0 x1 x8 x22 x23 x24 r hx hr
        rw [alloc_Pulses.l1,give_none C hg h hb (by omega),Option.bind_some,if_neg (by simp),if_pos hx]
        exact at_rounds (fun k=>(alloc_Pulses.mono_l k).2.1 _ _ _ _ _ _) (Nat.le_add_right q t) hr
      · intro q t hq ht
        exact chan_none C hg h hb (by omega)
    | some b =>
      obtain ⟨hb5,hm⟩:=pick_ok (w:=wth g l) 5 0 none rfl (ok_none (may K g l R)) b hb
      have hm' := hm
      unfold may at hm'
      rw [decide_eq_true_eq] at hm'
      have hk:=Ks_more h hb5 hm'.2.1
      have t1:=tot_more h.1 hb5
      have t2:=tot_in hk
      obtain ⟨d,rfl⟩ : ∃ r,d=r+1:=⟨d - 1,by omega⟩
      obtain ⟨l',c⟩:=chan C hg hR d (more l b) hk hm'.2.2 (by omega)
      refine ⟨l',⟨hg,c.ks,c.fit,c.full, ?_, ?_, ?_⟩⟩
      · intro a ha h0
        rw [c.still a ha h0,rd_more h.1 hb5 ha,if_neg]
        rintro rfl
        omega
      · intro q t hq ht x0 x1 x8 x22 x23 x24 r hx hr
        obtain ⟨t,rfl⟩ : ∃ r,t=r+1:=⟨t - 1,by omega⟩
        rw [show q+(t+1)+1=(q+t+1)+1 by omega,alloc_Pulses.l1,give_some C hg h hR hb hm hb5 hs (by omega),Option.bind_some,if_pos (by simp)]
        exact c.prog q t hq (by omega) x0 x1 x8 x22 x23 x24 r hx hr
      · intro q t hq ht
        obtain ⟨t,rfl⟩ : ∃ r,t=r+1:=⟨t - 1,by omega⟩
        rw [show q+7 * (t+1)=(q+7 * t)+7 by omega,chan_some C hg h hb hb5 (by omega)]
        exact c.doc q t hq (by omega)
def Z5 : List Int := [0,0,0,0,0]
theorem Z5_rd {b : Nat} (h : b < 5) : rd Z5 (b : Int)=0:=(by decide : ∀ b : Fin 5,rd Z5 (b.1 : Int)=0) ⟨b,h⟩
theorem Z5_ks : Ks Z5:=⟨rfl,fun b hb=>by rw [Z5_rd hb];have:=mst_in b;omega⟩
theorem Z5_sp (C : Com.Cst K) : Sp K Z5=0:=by
  have f:=fun (b : Nat) (hb : b < 5)=>Kb_0 C hb
  have f0:=f 0 (by decide)
  have f1:=f 1 (by decide)
  have f2:=f 2 (by decide)
  have f3:=f 3 (by decide)
  have f4:=f 4 (by decide)
  change Kb K 0 0+Kb K 1 0+Kb K 2 0+Kb K 3 0+Kb K 4 0=0
  omega
def rt (l : List Int) : Bool:=((l.length : Int) == 5) && l.all (fun x=>decide (0≤x∧x≤44))
theorem rt_gr {l : List Int} (h : rt l=true) : Gr l:=by
  simp only [rt,Bool.and_eq_true,List.all_eq_true,decide_eq_true_eq,beq_iff_eq] at h
  have hl : l.length=5:=by omega
  refine ⟨hl,fun b hb => ?_⟩
  unfold Go.Proofs.YtifkhfnmbiefaaaW.PrintWords.rd
  rw [List.getD_eq_getElem?_getD,Int.toNat_natCast,List.getElem?_eq_getElem (by omega)]
  exact h.2 _ (List.getElem_mem _)
theorem drop_rd (l : List Int) (i : Nat) (h : i < l.length) : l.drop i=rd l (i : Int) :: l.drop (i+1):=by
  rw [List.drop_eq_getElem_cons h]
  unfold Go.Proofs.YtifkhfnmbiefaaaW.PrintWords.rd
  rw [List.getD_eq_getElem?_getD,Int.toNat_natCast,List.getElem?_eq_getElem h]
  rfl
theorem right_l0 (l : List Int) (hl : l.length≤9000) : ∀ (d i k : Nat),i+d=l.length→d < k→gain_Right.l0 k l l (l.length : Int) (i : Int)=some (((l.length : Int) == 5) && (l.drop i).all (fun x=>decide (0≤x∧x≤44)))
  | 0,i,k,hi,hk=>by
    obtain ⟨k,rfl⟩ : ∃ m,k=m+1:=⟨k - 1,by omega⟩
    simp only [gain_Right.l0]
    rw [if_neg (by omega),List.drop_eq_nil_of_le (by omega)]
    simp
  | d+1,i,k,hi,hk=>by
    obtain ⟨k,rfl⟩ : ∃ m,k=m+1:=⟨k - 1,by omega⟩
    simp only [gain_Right.l0]
    rw [if_pos (by omega),if_pos (by omega),if_pos (by omega),drop_rd l i (by omega),List.all_cons]
    by_cases h0 : rd l (i : Int) < 0
    · rw [if_pos h0,show decide (0≤rd l (i : Int)∧rd l (i : Int)≤44)=false by simp;omega]
      simp
    · rw [if_neg h0]
      by_cases h1 : rd l (i : Int) > 44
      · rw [if_pos h1,show decide (0≤rd l (i : Int)∧rd l (i : Int)≤44)=false by simp;omega]
        simp
      · rw [if_neg h1,w64 (by omega) (by omega),show decide (0≤rd l (i : Int)∧rd l (i : Int)≤44)=true by simp;omega,Bool.true_and]
        exact right_l0 l hl d (i+1) k (by omega) (by omega)
theorem right_ok (l : List Int) (hl : l.length≤9000) (k : Nat) (hk : l.length < k) : gain_Right.f k l=some (rt l):=right_l0 l hl l.length 0 k (by omega) hk
theorem refRight_l0 (l : List Int) (hl : l.length≤9000) : ∀ (d i k : Nat) (ok : Bool),i+d=l.length→d < k→r11_Right.l0 k l ok (i : Int)=some (ok && (l.drop i).all (fun x=>decide (0≤x∧x≤44)))
  | 0,i,k,ok,hi,hk=>by
    obtain ⟨k,rfl⟩ : ∃ m,k=m+1:=⟨k - 1,by omega⟩
    simp only [r11_Right.l0]
    rw [if_neg (by omega),List.drop_eq_nil_of_le (by omega)]
    simp
  | d+1,i,k,ok,hi,hk=>by
    obtain ⟨k,rfl⟩ : ∃ m,k=m+1:=⟨k - 1,by omega⟩
    have ih:=fun ok=>refRight_l0 l hl d (i+1) k ok (by omega) (by omega)
    simp only [r11_Right.l0]
    rw [if_pos (by omega),drop_rd l i (by omega),List.all_cons,w64 (x:=(i : Int)+1) (by omega) (by omega)]
    cases ok with
    | false=>rw [if_neg (by simp)];exact (ih false).trans (by simp)
    | true =>
      rw [if_pos rfl,if_pos (by omega)]
      by_cases h0 : rd l (i : Int) ≥ 0
      · rw [if_pos h0]
        refine (ih _).trans ?_
        rw [show decide (0≤rd l (i : Int)∧rd l (i : Int)≤44)=decide (rd l (i : Int)≤44) from decide_eq_decide.2 ⟨fun h=>h.2,fun h=>⟨h0,h⟩⟩,Bool.true_and]
      · rw [if_neg h0,show decide (0≤rd l (i : Int)∧rd l (i : Int)≤44)=false by simp;omega]
        exact (ih false).trans (by simp)
theorem refRight_ok (l : List Int) (hl : l.length≤9000) (k : Nat) (hk : l.length < k) : r11_Right.f k l=some (rt l):=by
  unfold r11_Right.f
  rw [show (0 : Int)=((0 : Nat) : Int) from rfl,refRight_l0 l hl l.length 0 k _ (by omega) hk]
  rfl
end Go.Proofs.Ytifkhfnmbiefaaa.Alo
/- Pulses of all channels: the program's and the document's are the same. -/
namespace Go.Proofs.Ytifkhfnmbiefaaa.Alo
open Go Go.RowKit Go.Proofs.YtifkhfnmbiefaaaW.PrintWords Go.Proofs.Ytifkhfnmbiefaaa.Prt
set_option linter.unusedVariables false
set_option linter.unusedSimpArgs false
variable {K : Nat→Nat→Int}
theorem rdl_mem {l : List (List Int)} {i : Nat} (h : i < l.length) : rd_L2 l (i : Int) ∈ l:=by
  unfold rd_L2
  rw [List.getD_eq_getElem?_getD,Int.toNat_natCast,List.getElem?_eq_getElem h]
  exact List.getElem_mem h
theorem rdl_s (x : List Int) (l : List (List Int)) (j : Nat) : rd_L2 (x :: l) ((j+1 : Nat) : Int)=rd_L2 l (j : Int):=by
  unfold rd_L2
  rw [Int.toNat_natCast,Int.toNat_natCast]
  rfl
theorem chans (C : Com.Cst K) {a b : Int} (hab : rightB a b=true) {l2 : List (List Int)} (h20 : l2.length≤20) (h100 : ∀ g ∈ l2,g.length≤100) : ∀ (d i : Nat) (x8 : List (List Int)),i+d=l2.length→x8.length≤i →
    (∃ out : List (List Int),out.length=d∧(∀ j,j < d→Chan K (rd_L2 l2 ((i+j : Nat) : Int)) (room a b) Z5 (rd_L2 out (j : Int)))∧(∀ q,5000+62 * d≤q→alloc_Pulses.l0 q a b x8 l2 (l2.length : Int) (i : Int)=some (x8 ++ out,0))∧(∀ q,5000+62 * d≤q→r12_Pulses.l0 q a b l2 x8 (i : Int)=some (x8 ++ out))∧(∀ q,5000+62 * d≤q→r12_Fair.l0 q l2 (i : Int)=some true))
    ∨ ((∀ q,5000+62 * d≤q→alloc_Pulses.l0 q a b x8 l2 (l2.length : Int) (i : Int)=some ([],1))∧(∀ q,5000+62 * d≤q→r12_Fair.l0 q l2 (i : Int)=some false))
  | 0,i,x8,hi,hx=>by
    refine Or.inl ⟨[],rfl,fun j hj=>absurd hj (by omega),fun q hq => ?_,fun q hq => ?_,fun q hq => ?_⟩
    · obtain ⟨r,rfl⟩ : ∃ r,q=r+1:=⟨q - 1,by omega⟩
      rw [alloc_Pulses.l0,if_neg (by omega),List.append_nil]
    · obtain ⟨r,rfl⟩ : ∃ r,q=r+1:=⟨q - 1,by omega⟩
      rw [r12_Pulses.l0,if_neg (by omega),List.append_nil]
    · obtain ⟨r,rfl⟩ : ∃ r,q=r+1:=⟨q - 1,by omega⟩
      rw [r12_Fair.l0,if_neg (by omega)]
  | d+1,i,x8,hi,hx=>by
    have hlen : (rd_L2 l2 (i : Int)).length≤100:=h100 _ (rdl_mem (by omega))
    have hR:=room_in hab
    have hw : wrap64 ((i : Int)+1)=((i+1 : Nat) : Int):=by rw [w64 (by omega) (by omega)];omega
    by_cases hr : rt (rd_L2 l2 (i : Int))=true
    · obtain ⟨l',c⟩:=chan C (rt_gr hr) (R:=room a b) (by omega) 60 Z5 Z5_ks (by rw [Z5_sp C];omega) (by decide)
      have h0 : (60 : Int)≤(60 : Nat)+tot Z5:=by decide
      have ih:=fun y=>chans C hab h20 h100 d (i+1) (x8 ++ [y]) (by omega) (by rw [List.length_append];simp;omega)
      have P1 : ∀ q r,5000+62 * d≤q→(∀ p,5000+62 * d≤p→alloc_Pulses.l0 p a b (x8 ++ [l']) l2 (l2.length : Int) ((i+1 : Nat) : Int)=some r)→alloc_Pulses.l0 (q+62) a b x8 l2 (l2.length : Int) (i : Int)=some r:=by
        intro q r hq hp
        rw [show q+62=(q+60+1)+1 by omega,alloc_Pulses.l0,if_pos (by omega),if_pos (by omega),if_pos (by omega),right_ok _ (by omega) _ (by omega),Option.bind_some,if_pos hr,(room_ok hab).1,Option.bind_some]
        have e:=c.prog q 60 (by omega) h0 a b x8 l2 (l2.length : Int) (i : Int) r (by omega) (by rw [hw];exact hp q hq)
        rw [Z5_sp C,Int.sub_zero] at e
        exact e
      have P3 : ∀ q r,5000+62 * d≤q→(∀ p,5000+62 * d≤p→r12_Fair.l0 p l2 ((i+1 : Nat) : Int)=some r)→r12_Fair.l0 (q+62) l2 (i : Int)=some r:=by
        intro q r hq hp
        rw [show q+62=(q+61)+1 by omega,r12_Fair.l0,if_pos (by omega),if_pos (by omega),refRight_ok _ (by omega) _ (by omega),Option.bind_some,if_pos hr,hw]
        exact hp _ (by omega)
      rcases ih l' with ⟨out,ho,hc,p1,p2,p3⟩ | ⟨p1,p3⟩
      · refine Or.inl ⟨l' :: out,by rw [List.length_cons,ho], ?_,fun q hq => ?_,fun q hq => ?_,fun q hq => ?_⟩
        · intro j hj
          cases j with
          | zero=>exact c
          | succ j =>
            rw [rdl_s,show i+(j+1)=i+1+j by omega]
            exact hc j (by omega)
        · obtain ⟨r,rfl⟩ : ∃ r,q=r+62:=⟨q - 62,by omega⟩
          refine P1 r _ (by omega) (fun p hp => ?_)
          rw [p1 p hp,List.append_assoc]
          rfl
        · obtain ⟨r,rfl⟩ : ∃ r,q=(r+420)+1:=⟨q - 421,by omega⟩
          have e : r12_Channel.f (r+420) (rd_L2 l2 (i : Int)) (room a b)=some l' := c.doc r 60 (by omega) h0
          rw [r12_Pulses.l0,if_pos (by omega),if_pos (by omega),(room_ok hab).2,Option.bind_some,e,Option.bind_some,if_pos (by omega),hw,p2 _ (by omega),List.append_assoc]
          rfl
        · obtain ⟨r,rfl⟩ : ∃ r,q=r+62:=⟨q - 62,by omega⟩
          exact P3 r _ (by omega) p3
      · refine Or.inr ⟨fun q hq => ?_,fun q hq => ?_⟩
        · obtain ⟨r,rfl⟩ : ∃ r,q=r+62:=⟨q - 62,by omega⟩
          exact P1 r _ (by omega) p1
        · obtain ⟨r,rfl⟩ : ∃ r,q=r+62:=⟨q - 62,by omega⟩
          exact P3 r _ (by omega) p3
    · refine Or.inr ⟨fun q hq => ?_,fun q hq => ?_⟩
      · obtain ⟨r,rfl⟩ : ∃ r,q=r+1:=⟨q - 1,by omega⟩
        rw [alloc_Pulses.l0,if_pos (by omega),if_pos (by omega),if_pos (by omega),right_ok _ (by omega) _ (by omega),Option.bind_some,if_neg hr]
      · obtain ⟨r,rfl⟩ : ∃ r,q=r+1:=⟨q - 1,by omega⟩
        rw [r12_Fair.l0,if_pos (by omega),if_pos (by omega),refRight_ok _ (by omega) _ (by omega),Option.bind_some,if_neg hr]
theorem pulses (C : Com.Cst K) (a b : Int) {l2 : List (List Int)} (h20 : l2.length≤20) (h100 : ∀ g ∈ l2,g.length≤100) :
    (rightB a b=true∧(l2.length : Int)=b∧∃ out : List (List Int),out.length=l2.length∧(∀ j,j < l2.length→Chan K (rd_L2 l2 (j : Int)) (room a b) Z5 (rd_L2 out (j : Int)))∧(∀ q,7000≤q→alloc_Pulses.f q a b l2=some (out,0))∧(∀ q,7000≤q→r12_Pulses.f q a b l2=some out)∧(∀ q,7000≤q→r12_Fair.f q b l2=some true))
    ∨ ((∀ q,7000≤q→alloc_Pulses.f q a b l2=some ([],1))∧(rightB a b=false∨∀ q,7000≤q→r12_Fair.f q b l2=some false)):=by
  cases hab : rightB a b with
  | false =>
    refine Or.inr ⟨fun q hq => ?_,Or.inl rfl⟩
    obtain ⟨r,rfl⟩ : ∃ r,q=r+1:=⟨q - 1,by omega⟩
    unfold alloc_Pulses.f
    rw [(right_f a b).1,Option.bind_some,hab,if_neg (by simp),alloc_Pulses.j0,if_pos rfl]
  | true =>
    by_cases hl : (l2.length : Int)=b
    · rcases chans C hab h20 h100 l2.length 0 [] (by omega) (Nat.le_refl 0) with ⟨out,ho,hc,p1,p2,p3⟩ | ⟨p1,p3⟩
      · refine Or.inl ⟨rfl,hl,out,ho, ?_,fun q hq => ?_,fun q hq => ?_,fun q hq => ?_⟩
        · intro j hj
          have:=hc j hj
          rw [Nat.zero_add] at this
          exact this
        · obtain ⟨r,rfl⟩ : ∃ r,q=r+1:=⟨q - 1,by omega⟩
          unfold alloc_Pulses.f
          rw [(right_f a b).1,Option.bind_some,hab,if_pos rfl,alloc_Pulses.j0,if_neg (by simp [hl])]
          exact p1 r (by omega)
        · exact p2 q (by omega)
        · unfold r12_Fair.f
          rw [if_pos hl]
          exact p3 q (by omega)
      · refine Or.inr ⟨fun q hq => ?_,Or.inr fun q hq => ?_⟩
        · obtain ⟨r,rfl⟩ : ∃ r,q=r+1:=⟨q - 1,by omega⟩
          unfold alloc_Pulses.f
          rw [(right_f a b).1,Option.bind_some,hab,if_pos rfl,alloc_Pulses.j0,if_neg (by simp [hl])]
          exact p1 r (by omega)
        · unfold r12_Fair.f
          rw [if_pos hl]
          exact p3 q (by omega)
    · refine Or.inr ⟨fun q hq => ?_,Or.inr fun q hq => ?_⟩
      · obtain ⟨r,rfl⟩ : ∃ r,q=r+1:=⟨q - 1,by omega⟩
        unfold alloc_Pulses.f
        rw [(right_f a b).1,Option.bind_some,hab,if_pos rfl,alloc_Pulses.j0,if_pos (by simp [hl])]
      · unfold r12_Fair.f
        rw [if_neg hl]
theorem same12_l0 {l : List (List Int)} (h20 : l.length≤20) (h5 : ∀ j : Nat,j < l.length→(rd_L2 l (j : Int)).length=5) : ∀ (d i q : Nat),i+d=l.length→100+d≤q→r12_Same.l0 q l l (i : Int)=some true
  | 0,i,q,hi,hq=>by
    obtain ⟨r,rfl⟩ : ∃ r,q=r+1:=⟨q - 1,by omega⟩
    rw [r12_Same.l0,if_neg (by omega)]
  | d+1,i,q,hi,hq=>by
    have:=h5 i (by omega)
    obtain ⟨r,rfl⟩ : ∃ r,q=r+1:=⟨q - 1,by omega⟩
    rw [r12_Same.l0,if_pos (by omega),if_pos (by omega),if_pos (by omega),Com.same_f (by omega) (by omega),Option.bind_some,if_pos rfl,w64 (by omega) (by omega),show (i : Int)+1=((i+1 : Nat) : Int) by omega]
    exact same12_l0 h20 h5 d (i+1) r (by omega) (by omega)
end Go.Proofs.Ytifkhfnmbiefaaa.Alo
/- Bands, and their gains: what the program and the document make of 16 coefficients. -/
namespace Go.Proofs.Ytifkhfnmbiefaaa.Ton
open Go Go.RowKit Go.Proofs.YtifkhfnmbiefaaaW.PrintWords Go.Proofs.YtifkhfnmbiefaaaW.PrintMore Go.Proofs.Ytifkhfnmbiefaaa.Prt Go.Proofs.Ytifkhfnmbiefaaa.Com Go.Proofs.Ytifkhfnmbiefaaa.Pvq Go.Proofs.Ytifkhfnmbiefaaa.PvqN
set_option linter.unusedVariables false
set_option linter.unusedSimpArgs false
open Go.Proofs.Ytifkhfnmbiefaaa.Alo (W)
theorem dropA {α : Type} {l : List α} {i : Nat} (h : i < l.length) : l.drop i=l[i] :: l.drop (i+1):=List.drop_eq_getElem_cons h
theorem dropE {α : Type} {l : List α} {i : Nat} (h : l.length≤i) : l.drop i = []:=List.drop_eq_nil_of_le h
def Fo (b : Nat) : Nat := [0,1,2,4,8].getD b 0
def Bd (x : List Int) (b : Nat) : List Int:=(x.take (Fo b+W b)).drop (Fo b)
def F16 (x : List Int) : Prop:=x.length=16∧Fr x
instance (x : List Int) : Decidable (F16 x):=by unfold F16;infer_instance
theorem fo_in {b : Nat} (h : b < 5) : Fo b+W b≤16:=(by decide : ∀ b : Fin 5,Fo b.1+W b.1≤16) ⟨b,h⟩
theorem from_p {b : Nat} (h : b < 5) : band_From.f (b : Int)=some (Fo b : Int):=(by decide +kernel : ∀ b : Fin 5,band_From.f (b.1 : Int)=some (Fo b.1 : Int)) ⟨b,h⟩
theorem Bd_len {x : List Int} (hx : x.length=16) {b : Nat} (hb : b < 5) : (Bd x b).length=W b:=by
  have:=fo_in hb
  unfold Bd
  rw [List.length_drop,List.length_take];omega
theorem Bd_mem {x : List Int} {b : Nat} {v : Int} (h : v ∈ Bd x b) : v ∈ x:=List.mem_of_mem_take (List.mem_of_mem_drop h)
theorem Bd_fr {x : List Int} (h : F16 x) {b : Nat} (hb : b < 5) : Fr (Bd x b):=by
  have:=Alo.W_in hb
  exact ⟨by rw [Bd_len h.1 hb];omega,by rw [Bd_len h.1 hb];omega,fun v hv=>h.2.2.2 v (Bd_mem hv)⟩
def bds (x : List Int) (n : Nat) : List (List Int):=(List.range n).map (Bd x)
theorem bds_succ (x : List Int) (n : Nat) : bds x (n+1)=bds x n ++ [Bd x n]:=by simp [bds,List.range_succ]
theorem bds_len (x : List Int) (n : Nat) : (bds x n).length=n:=by simp [bds]
theorem bds_rd (x : List Int) {n b : Nat} (h : b < n) : rd_L1 (bds x n) (b : Int)=Bd x b:=by
  unfold rd_L1
  rw [List.getD_eq_getElem?_getD,Int.toNat_natCast,List.getElem?_eq_getElem (by rw [bds_len];exact h)]
  simp [bds]
theorem split_l0 {x : List Int} (hx : x.length=16) : ∀ (d i : Nat),i+d=5→Ev (fun k=>band_Split.l0 k x (bds x i) (i : Int)) (bds x 5,0)
  | 0,i,h=>by
    obtain rfl : i=5:=by omega
    exact Ev.step (fun k=>by rw [band_Split.l0,if_neg (by omega)]) (Ev.now _)
  | d+1,i,h=>by
    have hb : i < 5:=by omega
    have hf:=fo_in hb
    have hw:=Alo.W_in hb
    have e : wrap64 ((Fo i : Int)+(W i : Int))=((Fo i+W i : Nat) : Int):=by rw [w64 (by omega) (by omega)];omega
    refine Ev.step (fun k => ?_) (split_l0 hx d (i+1) (by omega))
    rw [band_Split.l0,if_pos (by omega),from_p hb,Option.bind_some,Alo.width_p hb,Option.bind_some,if_pos (by omega),e,if_pos (by omega),if_pos (by omega),if_pos (by rw [bds_len];omega),Int.toNat_natCast,Int.toNat_natCast,bds_succ,w_succ (n:=5) hb (by omega)]
    rfl
theorem split_ok {x : List Int} (h : F16 x) : Ev (fun k=>band_Split.f k x) (bds x 5,0):=by
  refine Ev.bind (square_ok h.2) (Ev.congr (fun k=>by rw [if_pos rfl,show ((x.length : Int) != 16)=false by simp;have:=h.1;omega]) ?_)
  refine Ev.step (fun k => ?_) (split_l0 h.1 5 0 (by omega))
  rw [band_Split.j0,if_neg (by decide),Option.bind_some,if_pos (by have:=h.1;simp;omega),List.nil_append]
  rfl
theorem split_bad {x : List Int} (hl : x.length≤100) (h : ¬ F16 x) : Ev (fun k=>band_Split.f k x) ([],1):=by
  have hj : Ev (fun k=>band_Split.j0 k x true) ([],1):=Ev.step (fun k=>by rw [band_Split.j0,if_pos rfl]) (Ev.now _)
  by_cases hf : Fr x
  · have hne : x.length≠16:=fun e=>h ⟨e,hf⟩
    exact Ev.bind (square_ok hf) (Ev.congr (fun k=>by rw [if_pos rfl,show ((x.length : Int) != 16)=true by simp;omega]) hj)
  · exact Ev.bind (square_bad hl hf) (Ev.congr (fun k=>by rw [if_neg (by decide)]) hj)
def lgf : Nat→Nat→Nat
  | 0,_=>0
  | f+1,n=>if n=0 then 0 else lgf f (n / 2)+1
theorem lg_le : ∀ (f n g : Nat),n < 2 ^ g→lgf f n≤g
  | 0,_,_,_=>Nat.zero_le _
  | f+1,n,g,h=>by
    unfold lgf
    by_cases h0 : n=0
    · rw [if_pos h0];exact Nat.zero_le _
    · rw [if_neg h0]
      obtain ⟨g,rfl⟩ : ∃ m,g=m+1:=⟨g - 1,by
        have : g≠0:=fun e=>by subst e;simp at h;omega
        omega⟩
      have:=lg_le f (n / 2) g (by rw [Nat.pow_succ] at h;omega)
      omega
theorem log_l0 : ∀ (f n : Nat) (c : Int),n < 2 ^ f→f≤64→-1≤c→c≤64 - f→Ev (fun k=>num_Log2.l0 k (n : Int) c) (c+(lgf f n : Int))
  | 0,n,c,h,hf,h0,h1=>by
    obtain rfl : n=0:=by simpa using h
    refine Ev.step (f:=fun _=>some (c+((lgf 0 0 : Nat) : Int))) (fun k => ?_) (Ev.now _)
    rw [num_Log2.l0,if_neg (by omega)]
    simp [lgf]
  | f+1,n,c,h,hf,h0,h1=>by
    by_cases hn : n=0
    · subst hn
      refine Ev.step (f:=fun _=>some (c+((lgf (f+1) 0 : Nat) : Int))) (fun k => ?_) (Ev.now _)
      rw [num_Log2.l0,if_neg (by omega)]
      simp [lgf]
    · have e : lgf (f+1) n=lgf f (n / 2)+1:=by rw [lgf,if_neg hn]
      have ih:=log_l0 f (n / 2) (c+1) (by rw [Nat.pow_succ] at h;omega) (by omega) (by omega) (by omega)
      rw [e,show c+((lgf f (n / 2)+1 : Nat) : Int)=c+1+(lgf f (n / 2) : Int) by omega]
      refine Ev.step (fun k => ?_) ih
      rw [num_Log2.l0,if_pos (by omega),w64 (by omega) (by omega),show (n : Int) / 2=((n / 2 : Nat) : Int) by omega]
def Gn (x : List Int) : Nat:=lgf 64 (S2 x).toNat
theorem S2_b8 {x : List Int} (hf : Fr x) (hl : x.length≤8) : 0≤S2 x∧S2 x≤8796093022208:=by
  refine ⟨S2_nonneg x, ?_⟩
  have h:=S2_le (c:=1048576) (by decide) (l:=x) (fun v hv=>by have:=hf.2.2 v hv;unfold In at this;omega)
  have : (1048576 : Int) * 1048576 * (x.length : Int)≤1048576 * 1048576 * 8:=Int.mul_le_mul_of_nonneg_left (by omega) (by decide)
  omega
theorem Gn_le {x : List Int} (hf : Fr x) (hl : x.length≤8) : Gn x≤44:=by
  have:=S2_b8 hf hl
  exact lg_le 64 _ 44 (by
    have : (2 : Nat) ^ 44=17592186044416:=by decide
    omega)
theorem gain_ok {x : List Int} (hf : Fr x) (hl : x.length≤8) : Ev (fun k=>band_Gain.f k x) ((Gn x : Int),0):=by
  have hb:=S2_b8 hf hl
  have hg:=Gn_le hf hl
  have hl0:=log_l0 64 (S2 x).toNat (-1) (by
    have : (2 : Nat) ^ 64=18446744073709551616:=by decide
    omega) (by omega) (by omega) (by omega)
  rw [show (((S2 x).toNat : Nat) : Int)=S2 x by omega] at hl0
  refine Ev.bind (square_ok hf) (Ev.congr (fun k=>by rw [if_pos rfl,if_neg (by omega)]) ?_)
  refine Ev.bind (a:=(Gn x : Int)) ?_ (Ev.now _)
  refine Ev.bind hl0 (Ev.congr (f:=fun _=>some ((Gn x : Nat) : Int)) (fun k => ?_) (Ev.now _))
  rw [w64 (by unfold Gn at hg;omega) (by unfold Gn at hg;omega)]
  unfold Gn
  congr 1;omega
def gns (x : List Int) (n : Nat) : List Int:=(List.range n).map fun b=>(Gn (Bd x b) : Int)
theorem gns_succ (x : List Int) (n : Nat) : gns x (n+1)=gns x n ++ [(Gn (Bd x n) : Int)]:=by simp [gns,List.range_succ]
theorem gns_len (x : List Int) (n : Nat) : (gns x n).length=n:=by simp [gns]
theorem gns_rt {x : List Int} (h : F16 x) : Alo.rt (gns x 5)=true:=by
  unfold Alo.rt
  rw [gns_len,Bool.and_eq_true]
  refine ⟨rfl,List.all_eq_true.2 fun v hv=>decide_eq_true ?_⟩
  obtain ⟨b,hb,rfl⟩:=List.mem_map.1 hv
  have hb:=List.mem_range.1 hb
  have:=Alo.W_in hb
  have:=Gn_le (Bd_fr h hb) (by rw [Bd_len h.1 hb];omega)
  omega
theorem gains_l0 {x : List Int} (h : F16 x) : ∀ (d i : Nat),i+d=5→Ev (fun k=>band_Gains.l0 k (gns x i) (bds x 5) 5 (i : Int)) (gns x 5,0)
  | 0,i,e=>by
    obtain rfl : i=5:=by omega
    exact Ev.step (fun k=>by rw [band_Gains.l0,if_neg (by omega)]) (Ev.now _)
  | d+1,i,e=>by
    have hb : i < 5:=by omega
    have hw:=Alo.W_in hb
    refine Ev.step (f:=fun k=>(band_Gain.f k (Bd x i)).bind fun bt=>if (gns x i).length < 17592186044416 then band_Gains.l0 k (gns x i ++ [bt.1]) (bds x 5) 5 (wrap64 ((i : Int)+1)) else none) (fun k => ?_) (Ev.bind (gain_ok (Bd_fr h hb) (by rw [Bd_len h.1 hb];omega)) (Ev.congr (fun k => ?_) (gains_l0 h d (i+1) (by omega))))
    · rw [band_Gains.l0,if_pos (by omega),if_pos (by omega),if_pos (by rw [bds_len];omega),bds_rd x hb]
    · rw [if_pos (by rw [gns_len];omega),gns_succ,w_succ (n:=5) hb (by omega)]
theorem gains_ok {x : List Int} (h : F16 x) : Ev (fun k=>band_Gains.f k x) (gns x 5,0):=by
  refine Ev.bind (split_ok h) (Ev.congr (fun k => ?_) (gains_l0 h 5 0 (by omega)))
  rw [if_pos rfl,bds_len]
  rfl
theorem rfair16 {x : List Int} (hl : x.length≤100) : Ev (fun k=>r10_Fair.f k x) (decide (F16 x)):=by
  by_cases h : x.length=16
  · refine Ev.congr (fun k=>by rw [r10_Fair.f,if_pos (by omega)]) (Ev.bind (rfair_f hl) ?_)
    rw [show decide (F16 x)=decide (Fr x) from decide_eq_decide.2 ⟨fun e=>e.2,fun e=>⟨h,e⟩⟩]
    exact Ev.now _
  · refine Ev.congr (f:=fun _=>some (decide (F16 x))) (fun k => ?_) (Ev.now _)
    rw [r10_Fair.f,if_neg (by omega),decide_eq_false (fun e=>h e.1)]
def Rt (a b : Int) (l : List (List Int)) : Prop:=Alo.rightB a b=true∧(l.length : Int)=b∧∀ x ∈ l,F16 x
instance (a b : Int) (l : List (List Int)) : Decidable (Rt a b l):=by unfold Rt;infer_instance
theorem rd1_mem {l : List (List Int)} {i : Nat} (h : i < l.length) : rd_L1 l (i : Int)=l[i]:=by
  unfold rd_L1
  rw [List.getD_eq_getElem?_getD,Int.toNat_natCast,List.getElem?_eq_getElem h]
  rfl
def allF (l : List (List Int)) : Bool:=decide (∀ x ∈ l,F16 x)
theorem dec_cons {l : List (List Int)} {i : Nat} (hi : i < l.length) : allF (l.drop i)=(decide (F16 l[i]) && allF (l.drop (i+1))):=by
  unfold allF
  rw [← Bool.decide_and]
  exact decide_eq_decide.2 (by rw [dropA hi];exact List.forall_mem_cons)
theorem right_l0 {l : List (List Int)} (hl : l.length≤10) (h : ∀ x ∈ l,x.length≤100) : ∀ (d i : Nat),i+d=l.length→Ev (fun k=>ccodec_Right.l0 k l (l.length : Int) (i : Int)) (allF (l.drop i))
  | 0,i,e=>by
    refine Ev.step (f:=fun _=>some (allF (l.drop i))) (fun k => ?_) (Ev.now _)
    rw [ccodec_Right.l0,if_neg (by omega),dropE (by omega)]
    rfl
  | d+1,i,e=>by
    have hi : i < l.length:=by omega
    have ih:=right_l0 hl h d (i+1) (by omega)
    rw [dec_cons hi]
    refine Ev.step (f:=fun k=>(band_Split.f k l[i]).bind fun bt=>_) (fun k=>by rw [ccodec_Right.l0,if_pos (by omega),if_pos (by omega),if_pos (by omega),rd1_mem hi]) ?_
    by_cases h0 : F16 l[i]
    · rw [decide_eq_true h0,Bool.true_and]
      refine Ev.bind (split_ok h0) (Ev.congr (fun k => ?_) ih)
      rw [if_pos rfl,w_succ hi (by omega)]
    · rw [decide_eq_false h0,Bool.false_and]
      refine Ev.bind (split_bad (h _ (List.getElem_mem hi)) h0) (Ev.congr (fun k => ?_) (Ev.now _))
      rw [if_neg (by decide)]
theorem right_e (a b : Int) {l : List (List Int)} (hl : l.length≤10) (h : ∀ x ∈ l,x.length≤100) : Ev (fun k=>ccodec_Right.f k a b l) (decide (Rt a b l)):=by
  have hj : Ev (fun k=>ccodec_Right.j0 k true l) false:=Ev.step (fun k=>by rw [ccodec_Right.j0,if_pos rfl]) (Ev.now _)
  refine Ev.congr (f:=fun k=>if Alo.rightB a b=true then ccodec_Right.j0 k ((l.length : Int) != b) l else ccodec_Right.j0 k true l) (fun k=>by rw [ccodec_Right.f,(Alo.right_f a b).1,Option.bind_some]) ?_
  by_cases h0 : Alo.rightB a b=true
  · by_cases h1 : (l.length : Int)=b
    · rw [show decide (Rt a b l)=allF (l.drop 0) from decide_eq_decide.2 ⟨fun e=>e.2.2,fun e=>⟨h0,h1,e⟩⟩]
      refine Ev.congr (fun k=>by rw [if_pos h0,show ((l.length : Int) != b)=false by simp [h1]]) (Ev.step (fun k => ?_) (right_l0 hl h l.length 0 (by omega)))
      rw [ccodec_Right.j0,if_neg (by decide)]
      rfl
    · rw [decide_eq_false (fun e : Rt a b l=>h1 e.2.1)]
      exact Ev.congr (fun k=>by rw [if_pos h0,show ((l.length : Int) != b)=true by simp [h1]]) hj
  · rw [decide_eq_false (fun e : Rt a b l=>h0 e.1)]
    exact Ev.congr (fun k=>by rw [if_neg h0]) hj
theorem rright_l0 {l : List (List Int)} (hl : l.length≤10) (h : ∀ x ∈ l,x.length≤100) : ∀ (d i : Nat),i+d=l.length→Ev (fun k=>r23_Right.l0 k (l.length : Int) (i : Int) l) (allF (l.drop i))
  | 0,i,e=>by
    refine Ev.step (f:=fun _=>some (allF (l.drop i))) (fun k => ?_) (Ev.now _)
    rw [r23_Right.l0,if_neg (by omega),dropE (by omega)]
    rfl
  | d+1,i,e=>by
    have hi : i < l.length:=by omega
    have ih:=rright_l0 hl h d (i+1) (by omega)
    rw [dec_cons hi]
    refine Ev.step (f:=fun k=>(r10_Fair.f k l[i]).bind fun bt=>_) (fun k=>by rw [r23_Right.l0,if_pos (by omega),if_pos (by omega),if_pos (by omega),rd1_mem hi]) (Ev.bind (rfair16 (h _ (List.getElem_mem hi))) ?_)
    by_cases h0 : F16 l[i]
    · rw [decide_eq_true h0,Bool.true_and]
      refine Ev.congr (fun k => ?_) ih
      rw [if_pos rfl,w_succ hi (by omega)]
    · rw [decide_eq_false h0,Bool.false_and]
      exact Ev.congr (fun k=>by rw [if_neg (by decide)]) (Ev.now _)
theorem rright_e (a b : Int) {l : List (List Int)} (hl : l.length≤10) (h : ∀ x ∈ l,x.length≤100) : Ev (fun k=>r23_Right.f k a b l) (decide (Rt a b l)):=by
  have hj : Ev (fun k=>r23_Right.j0 k b true l) false:=Ev.step (fun k=>by rw [r23_Right.j0,if_pos rfl]) (Ev.now _)
  refine Ev.congr (f:=fun k=>if Alo.rightB a b=true then r23_Right.j0 k b ((l.length : Int) != b) l else r23_Right.j0 k b true l) (fun k=>by rw [r23_Right.f,(Alo.right_f a b).2,Option.bind_some]) ?_
  by_cases h0 : Alo.rightB a b=true
  · by_cases h1 : (l.length : Int)=b
    · rw [show decide (Rt a b l)=allF (l.drop 0) from decide_eq_decide.2 ⟨fun e=>e.2.2,fun e=>⟨h0,h1,e⟩⟩]
      refine Ev.congr (fun k=>by rw [if_pos h0,show ((l.length : Int) != b)=false by simp [h1]]) (Ev.step (fun k => ?_) (rright_l0 hl h l.length 0 (by omega)))
      rw [r23_Right.j0,if_neg (by decide),h1]
      rfl
    · rw [decide_eq_false (fun e : Rt a b l=>h1 e.2.1)]
      exact Ev.congr (fun k=>by rw [if_pos h0,show ((l.length : Int) != b)=true by simp [h1]]) hj
  · rw [decide_eq_false (fun e : Rt a b l=>h0 e.1)]
    exact Ev.congr (fun k=>by rw [if_neg h0]) hj
end Go.Proofs.Ytifkhfnmbiefaaa.Ton
/- Which packs are right: the program's answer is the document's. -/
namespace Go.Proofs.Ytifkhfnmbiefaaa.Pak
open Go Go.RowKit Go.Proofs.YtifkhfnmbiefaaaW.PrintWords Go.Proofs.Ytifkhfnmbiefaaa.Prt Go.Proofs.Ytifkhfnmbiefaaa.Alo
set_option linter.unusedVariables false
set_option linter.unusedSimpArgs false
variable {V K : Nat→Nat→Int}
theorem szs_drop {y : List Int} {i : Nat} (h : i < y.length) : Com.szs (y.drop i)=Com.sz (rd y (i : Int))+Com.szs (y.drop (i+1)):=by
  rw [List.drop_eq_getElem_cons h,Com.szs,Com.rd_at h]
theorem pulses_l0 {y : List Int} (hy : y.length≤100) (h12 : Com.szs y≤12) : ∀ (d i q : Nat) (x : Int),i+d=y.length→-2000≤x - Com.szs (y.drop i)→x≤12→cpack_pulses.l0 (q+d+1) x y (y.length : Int) (i : Int)=some ((x - Com.szs (y.drop i)) == 0)
  | 0,i,q,x,h,hx,hx1=>by
    rw [cpack_pulses.l0,if_neg (by omega),List.drop_eq_nil_of_le (by omega),Com.szs,Int.sub_zero]
  | d+1,i,q,x,h,hx,hx1=>by
    have hd:=szs_drop (show i < y.length by omega)
    have hn:=Com.szs_in (y.drop (i+1))
    have hs:=Com.sz_in (rd y (i : Int))
    have hle : Com.szs (y.drop i)≤Com.szs y:=by
      clear hx hx1 hd hn hs h
      induction i with
      | zero=>simp
      | succ i ih =>
        rcases Nat.lt_or_ge i y.length with h|h
        · have:=szs_drop h
          have:=Com.sz_in (rd y (i : Int))
          omega
        · rw [List.drop_eq_nil_of_le (by omega)]
          rw [List.drop_eq_nil_of_le h] at ih
          exact ih
    have hv : -12≤rd y (i : Int)∧rd y (i : Int)≤12:=by
      by_cases hv : -12≤rd y (i : Int)∧rd y (i : Int)≤12
      · exact hv
      · unfold Com.sz at hd hs
        rw [if_neg hv] at hd
        omega
    have hm : mx (rd y (i : Int)) (wrap64 (-(rd y (i : Int))))=Com.sz (rd y (i : Int)):=by
      unfold mx Com.sz
      rw [w64 (by omega) (by omega),if_pos hv]
      by_cases h0 : rd y (i : Int) < 0
      · rw [if_pos (by omega),if_pos h0]
      · rw [if_neg h0]
        by_cases h1 : rd y (i : Int) < -(rd y (i : Int))
        · omega
        · rw [if_neg h1]
    rw [show q+(d+1)+1=(q+d+1)+1 by omega,cpack_pulses.l0,if_pos (by omega),if_pos (by omega),if_pos (by omega),hm,w64 (x:=x - Com.sz (rd y (i : Int))) (by omega) (by omega),w64 (by omega) (by omega),show (i : Int)+1=((i+1 : Nat) : Int) by omega,
      pulses_l0 hy h12 d (i+1) q (x - Com.sz (rd y (i : Int))) (by omega) (by omega) (by omega),hd,Int.sub_sub]
def okV (y : List Int) (n k : Int) : Bool:=decide ((y.length : Int)=n∧Com.szs y=k)
theorem pulses_f (C : Com.Cnt V) {y : List Int} (hy : y.length≤100) {n k : Int} (hn : 1≤n) (hn' : n≤16) (hk : 0≤k) (hk' : k≤12) {q : Nat} (hq : 800≤q) : cpack_pulses.f q y n k=some (okV y n k):=by
  have h0:=Com.szs_in y
  unfold cpack_pulses.f
  by_cases hb : y.length < 1∨y.length > 16∨Com.szs y > 12
  · obtain ⟨r,rfl⟩ : ∃ r,q=r+1:=⟨q - 1,by omega⟩
    rw [Com.index_bad hy hb (by omega),Option.bind_some,if_neg (by decide),cpack_pulses.j0,if_pos rfl]
    unfold okV
    rw [decide_eq_false (by omega)]
  · obtain ⟨k',hk1,hk2⟩ : ∃ k' : Nat,(k' : Int)=Com.szs y∧k' < 13:=⟨(Com.szs y).toNat,by omega,by omega⟩
    obtain ⟨i,_,_,hu⟩:=Com.Unr.ex C y k' (by omega) (by omega) hk2
    obtain ⟨r,rfl⟩ : ∃ r,q=(r+y.length+1)+1:=⟨q - y.length - 2,by omega⟩
    rw [Com.index_f C (by omega) (by omega) hk2 hu (by omega),Option.bind_some,if_pos rfl]
    have hl:=pulses_l0 hy (by omega) y.length 0 r k (by omega) (by simp;omega) hk'
    unfold okV
    by_cases he : (y.length : Int)=n
    · rw [cpack_pulses.j0,if_neg (by simp [he]),show (0 : Int)=((0 : Nat) : Int) from rfl,hl]
      simp only [List.drop_zero]
      congr 1
      rw [Bool.eq_iff_iff]
      simp [he]
      omega
    · rw [cpack_pulses.j0,if_pos (by simp [he]),decide_eq_false (fun h=>he h.1)]

def okR (row : List (List Int)) (ks : List Int) : Nat→Nat→Bool
  | 0,_=>true
  | d+1,b=>okV (rd_L2 row (b : Int)) (W b : Int) (rd ks (b : Int)) && okR row ks d (b+1)
def okA (Y : List (List (List Int))) (out : List (List Int)) : Nat→Nat→Bool
  | 0,_=>true
  | d+1,i=>decide ((rd_L4 Y (i : Int)).length=5) && (okR (rd_L4 Y (i : Int)) (rd_L2 out (i : Int)) 5 0 && okA Y out d (i+1))
structure Sized (Y : List (List (List Int))) : Prop where
  n : Y.length≤10
  r : ∀ i : Nat,i < Y.length→(rd_L4 Y (i : Int)).length≤10∧∀ y ∈ rd_L4 Y (i : Int),y.length≤60
theorem l1_p (C : Com.Cnt V) {Y : List (List (List Int))} {out : List (List Int)} {i : Nat} {L : Int} (hi : i < out.length) (ho : out.length≤100) (hks : Ks (rd_L2 out (i : Int))) {row : List (List Int)} (hr : row.length=5) (hs : ∀ y ∈ row,y.length≤60) {q : Nat} (hq : 1000≤q) :
    ∀ (d b : Nat),b+d=5→cpack_Right.l1 (q+d+1) out (i : Int) Y L (i : Int) row 5 (b : Int)=if okR row (rd_L2 out (i : Int)) d b=true then cpack_Right.l0 q out Y L ((i+1 : Nat) : Int) else some false
  | 0,b,h=>by
    rw [cpack_Right.l1,if_neg (by omega),okR,if_pos rfl,w64 (by omega) (by omega)]
    rfl
  | d+1,b,h=>by
    have hk:=Ks_rd hks (show b < 5 by omega)
    have hW:=W_in (show b < 5 by omega)
    have hm:=hs _ (rdl_mem (show b < row.length by omega))
    rw [show q+(d+1)+1=(q+d+1)+1 by omega,cpack_Right.l1,if_pos (by omega),if_pos (by omega),if_pos (by omega),width_p (by omega),Option.bind_some,if_pos (by omega),if_pos (by omega),if_pos (by rw [hks.1];omega),pulses_f C (by omega) (by omega) (by omega) hk.1 hk.2 (by omega),Option.bind_some,okR]
    cases hv : okV (rd_L2 row (b : Int)) (W b : Int) (rd (rd_L2 out (i : Int)) (b : Int)) with
    | false=>rw [if_neg (by simp),if_neg (by simp)]
    | true =>
      rw [if_pos rfl,Bool.true_and,w64 (by omega) (by omega),show (b : Int)+1=((b+1 : Nat) : Int) by omega]
      exact l1_p C hi ho hks hr hs hq d (b+1) (by omega)
theorem l0_p (C : Com.Cnt V) {Y : List (List (List Int))} (S : Sized Y) {out : List (List Int)} (ho : out.length=Y.length) (hks : ∀ i : Nat,i < Y.length→Ks (rd_L2 out (i : Int))) : ∀ (d i q : Nat),i+d=Y.length→1000+8 * d < q→cpack_Right.l0 q out Y (Y.length : Int) (i : Int)=some (okA Y out d i)
  | 0,i,q,h,hq=>by
    obtain ⟨r,rfl⟩ : ∃ r,q=r+1:=⟨q - 1,by omega⟩
    rw [cpack_Right.l0,if_neg (by omega),okA]
  | d+1,i,q,h,hq=>by
    have:=S.n
    obtain ⟨r,rfl⟩ : ∃ r,q=(r+5+1)+1:=⟨q - 7,by omega⟩
    have hs:=S.r i (by omega)
    rw [cpack_Right.l0,if_pos (by omega),if_pos (by omega),if_pos (by omega),okA]
    by_cases h5 : (rd_L4 Y (i : Int)).length=5
    · have hl:=l1_p C (Y:=Y) (L:=(Y.length : Int)) (show i < out.length by omega) (by omega) (hks i (by omega)) h5 hs.2 (show 1000≤r by omega) 5 0 (by omega)
      rw [if_pos (by omega),decide_eq_true h5,Bool.true_and,h5,show ((5 : Nat) : Int)=5 from rfl,show (0 : Int)=((0 : Nat) : Int) from rfl,hl]
      cases hv : okR (rd_L4 Y (i : Int)) (rd_L2 out (i : Int)) 5 0 with
      | false=>rw [if_neg (by simp),Bool.false_and]
      | true =>
        rw [if_pos rfl,Bool.true_and]
        exact l0_p C S ho hks d (i+1) r (by omega) (by omega)
    · rw [if_neg (by omega),decide_eq_false h5,Bool.false_and]
structure Good (K : Nat→Nat→Int) (a b : Int) (G : List (List Int)) (Y : List (List (List Int))) (out : List (List Int)) : Prop where
  ab : rightB a b=true
  g : (G.length : Int)=b
  y : (Y.length : Int)=b
  o : out.length=G.length
  c : ∀ j : Nat,j < G.length→Chan K (rd_L2 G (j : Int)) (room a b) Z5 (rd_L2 out (j : Int))
  p : ∀ q,7000≤q→alloc_Pulses.f q a b G=some (out,0)
  r : ∀ q,7000≤q→r12_Pulses.f q a b G=some out
  f : ∀ q,7000≤q→r12_Fair.f q b G=some true
  all : okA Y out Y.length 0=true
end Go.Proofs.Ytifkhfnmbiefaaa.Pak
/- What the coder's functions (and the document's) come to, on numbers and lists. -/
namespace Go.Proofs.Ytifkhfnmbiefaaa.Cod
open Go.RowKit Go.Proofs.YtifkhfnmbiefaaaW.PrintWords Go.Proofs.Ytifkhfnmbiefaaa.Prt Go.Proofs.Ytifkhfnmbiefaaa.Val
set_option linter.unusedVariables false

def Fair (lo hi tot : Int) : Prop:=0≤lo∧lo < hi∧hi≤tot∧tot≤65536
instance (lo hi tot : Int) : Decidable (Fair lo hi tot):=by unfold Fair;exact inferInstance
theorem fair_f (lo hi tot : Int) : coder_fair.f lo hi tot=some (decide (Fair lo hi tot)):=by
  unfold coder_fair.f Fair
  grind
def prt (rg lo hi tot : Int) : Int × Int:=(if hi=tot then rg - rg / tot * lo else rg / tot * (hi - lo),rg / tot * lo)
theorem div_facts {rg lo hi tot : Int} (h0 : 16777216≤rg) (h1 : rg≤4294967295) (hf : Fair lo hi tot) :
    256≤rg / tot∧rg / tot≤rg∧0≤rg / tot * lo∧rg / tot * lo+rg / tot * (hi - lo)=rg / tot * hi∧rg / tot * hi≤rg / tot * tot∧rg / tot * tot≤rg∧rg / tot≤rg / tot * (hi - lo):=by
  obtain ⟨f1,f2,f3,f4⟩:=hf
  have ht : 0 < tot:=by omega
  have e1 : 256≤rg / tot:=by
    rw [Int.le_ediv_iff_mul_le ht];omega
  have e2 : rg / tot * tot≤rg:=Int.ediv_mul_le _ (by omega)
  generalize rg / tot=r at *
  have e3 : r≤r * tot:=by
    have:=Int.mul_le_mul_of_nonneg_left (show (1 : Int)≤tot by omega) (show (0 : Int)≤r by omega)
    omega
  have e4 : r * hi≤r * tot:=Int.mul_le_mul_of_nonneg_left f3 (by omega)
  have e5 : 0≤r * lo:=Int.mul_nonneg (by omega) f1
  have e6 : r≤r * (hi - lo):=by
    have:=Int.mul_le_mul_of_nonneg_left (show (1 : Int)≤hi - lo by omega) (show (0 : Int)≤r by omega)
    omega
  exact ⟨e1,by omega,e5,by rw [Int.mul_sub];omega,e4,e2,e6⟩
theorem prt_facts {rg lo hi tot : Int} (h0 : 16777216≤rg) (h1 : rg≤4294967295) (hf : Fair lo hi tot) :
    256≤(prt rg lo hi tot).1∧0≤(prt rg lo hi tot).2∧(prt rg lo hi tot).1+(prt rg lo hi tot).2≤rg:=by
  obtain ⟨a,b,c,d,e,f,g⟩:=div_facts h0 h1 hf
  unfold prt
  dsimp only
  split <;> omega
theorem part_f {rg lo hi tot : Int} (h0 : 16777216≤rg) (h1 : rg≤4294967295) (hf : Fair lo hi tot) : coder_part.f rg lo hi tot=some (prt rg lo hi tot):=by
  obtain ⟨a,b,c,d,e,f,g⟩:=div_facts h0 h1 hf
  obtain ⟨f1,f2,f3,f4⟩:=hf
  have w1 : tot % 4294967296=tot:=by omega
  have w2 : IntKind.u64.wrap lo=lo:=u64w (by omega) (by omega)
  have w3 : wrap64 (hi - lo)=hi - lo:=i64w (by omega) (by omega)
  have w4 : (hi - lo) % 4294967296=hi - lo:=by omega
  unfold coder_part.f prt
  rw [w1,tdiv_nn (by omega : (0 : Int)≤rg),w2,w3,w4]
  generalize rg / tot=r at *
  have w5 : r % 4294967296=r:=by omega
  rw [w5,u64w c (by omega),if_neg (by omega)]
  by_cases h : hi=tot
  · rw [if_pos h,if_pos h];congr 2;omega
  · rw [if_neg h,if_neg h];congr 2;omega
theorem carry_l0 : ∀ (n : Nat) (a b : List Int) (k : Nat),a.length=n→Bytes a→(a ++ b).length≤10000→n < k →
    ∃ a',coder_carry.l0 k (a ++ b) ((n : Int) - 1)=some (a' ++ b)∧Bytes a'∧a'.length=n∧val a' = (val a+1) % pw n
  | 0,a,b,k,ha,_,hl,hk=>by
    obtain ⟨k,rfl⟩ : ∃ m,k=m+1:=⟨k - 1,by omega⟩
    obtain rfl:=List.length_eq_zero_iff.1 ha
    refine ⟨[], ?_,Bytes.nil,rfl,by rw [pw_zero,val_nil];omega⟩
    simp only [coder_carry.l0]
    rw [if_neg (by omega)]
  | n+1,a,b,k,ha,hb,hl,hk=>by
    obtain ⟨k,rfl⟩ : ∃ m,k=m+1:=⟨k - 1,by omega⟩
    obtain ⟨a0,x,rfl,ha0⟩:=ex_snoc ha
    have hx:=hb x (by simp)
    have e : ((n+1 : Nat) : Int) - 1=(n : Int):=by omega
    have hlen : (a0 ++ [x] ++ b).length=n+1+b.length:=by simp [ha0];omega
    have hn : (n : Int)=(a0.length : Int):=by omega
    rw [List.append_assoc,List.singleton_append] at *
    rw [e]
    simp only [coder_carry.l0]
    rw [if_pos (by omega),if_pos (by omega),if_pos (by omega),Option.bind_some,rd_mid a0 b x _ hn,set_mid a0 b x _ _ hn,rd_mid a0 b _ _ hn]
    by_cases h : (x+1) % 256=0
    · obtain rfl : x=255:=by omega
      rw [if_pos h,i64w (by omega) (by omega)]
      obtain ⟨a',h1,h2,h3,h4⟩:=carry_l0 n a0 (0 :: b) k ha0 hb.left (by simp at hl ⊢; omega) (by omega)
      refine ⟨a' ++ [0], ?_,h2.append (Bytes.one (by decide) (by decide)),by simp [h3], ?_⟩
      · rw [List.append_assoc,List.singleton_append];exact h1
      · rw [val_snoc,val_snoc,h4,pw_succ,show val a0 * 256+255+1=256 * (val a0+1) by omega,Int.mul_emod_mul_of_pos _ _ (by decide)];omega
    · rw [if_neg h]
      refine ⟨a0 ++ [x+1], ?_,hb.left.append (Bytes.one (by omega) (by omega)),by simp [ha0], ?_⟩
      · rw [List.append_assoc,List.singleton_append,show (x+1) % 256=x+1 by omega]
      · have hv:=val_bound hb.left
        rw [val_snoc,val_snoc,pw_succ]
        rw [ha0] at hv
        rw [Int.emod_eq_of_lt (by omega) (by omega)];omega
theorem carry_f (l : List Int) (k : Nat) (hb : Bytes l) (hl : l.length≤10000) (hk : l.length < k) : ∃ r,coder_carry.f k l=some r∧Bytes r∧r.length=l.length∧val r=(val l+1) % pw l.length:=by
  obtain ⟨r,h1,h2,h3,h4⟩:=carry_l0 l.length l [] k rfl hb (by simpa using hl) hk
  refine ⟨r, ?_,h2,h3,h4⟩
  unfold coder_carry.f
  rw [i64w (by omega) (by omega)]
  simpa using h1
def EOk (lo rg : Int) (out : List Int) : Prop:=0≤lo∧lo≤4294967295∧16777216≤rg∧rg≤4294967295∧Bytes out∧out.length≤4000
def num (lo : Int) (out : List Int) : Int:=val out * 4294967296+lo
theorem rightEnc_f (lo rg : Int) (out : List Int) : coder_RightEnc.f lo rg out=some (decide (lo≤4294967295∧16777216≤rg∧(out.length : Int)≤4000)):=by
  unfold coder_RightEnc.f
  grind
theorem own_ok {lo rg : Int} {out : List Int} (h : EOk lo rg out) : coder_own.f lo rg out=some (lo,rg,out):=by
  obtain ⟨a,b,c,d,e,f⟩:=h
  unfold coder_own.f
  rw [rightEnc_f,Option.bind_some,if_pos (by simp;omega)]
  simp only [Option.bind_some,List.nil_append,List.length_nil,Nat.zero_add]
  rw [if_pos (by omega)]
theorem new_ok : EOk 0 4294967295 []:=⟨by decide,by decide,by decide,by decide,Bytes.nil,by decide⟩
def mOf (r : Int) : Nat:=if r < 65536 then 2 else if r < 16777216 then 1 else 0
theorem mOf_range {r : Int} (h : 256≤r) (h1 : r≤4294967295) : 16777216≤r * pw (mOf r)∧r * pw (mOf r)≤4294967295∧mOf r≤2:=by
  unfold mOf
  have e2 : pw 2=65536:=rfl
  have e1 : pw 1=256:=rfl
  have e0 : pw 0=1:=rfl
  split
  · rw [e2];omega
  · split
    · rw [e1];omega
    · rw [e0];omega
theorem put_stop (k : Nat) {r : Int} (low rg : Int) (out : List Int) (h : ¬ r < 16777216) : coder_Put.l0 (k+1) r low rg out=some (low,r,out,0):=by
  simp only [coder_Put.l0]
  rw [if_neg h]
theorem put_step (k : Nat) {r low : Int} (rg : Int) {out : List Int} (h : r < 16777216) (h0 : 256≤r) (hl : 0≤low) (hl1 : low≤4294967295) (ho : out.length≤9000) :
    coder_Put.l0 (k+1) r low rg out=coder_Put.l0 k (r * 256) (low * 256 % 4294967296) rg (out ++ [low / 16777216]):=by
  simp only [coder_Put.l0]
  rw [if_pos h,if_pos (by omega),u64w (by omega) (by omega),and32 (by omega) (by omega),Int.emod_eq_of_lt (a:=r * 256) (by omega) (by omega),Int.emod_eq_of_lt (a:=low / 16777216) (by omega) (by omega)]
theorem num_step {low : Int} {out : List Int} (hl : 0≤low) (hl1 : low≤4294967295) : num (low * 256 % 4294967296) (out ++ [low / 16777216])=num low out * 256:=by
  unfold num
  rw [val_snoc];omega
theorem put_l0 {r low : Int} (rg : Int) {out : List Int} (h : 256≤r) (h1 : r≤4294967295) (hl : 0≤low) (hl1 : low≤4294967295) (hb : Bytes out) (ho : out.length≤8000) :
    ∃ low' out',(∀ k,3≤k→coder_Put.l0 k r low rg out=some (low',r * pw (mOf r),out',0))∧0≤low'∧low'≤4294967295∧Bytes out'∧out'.length=out.length+mOf r∧num low' out' = num low out * pw (mOf r):=by
  have e2 : pw 2=65536:=rfl
  have e1 : pw 1=256:=rfl
  have e0 : pw 0=1:=rfl
  have b1 : Bytes (out ++ [low / 16777216]):=hb.append (Bytes.one (by omega) (by omega))
  unfold mOf
  split
  · rename_i h2
    refine ⟨low * 256 % 4294967296 * 256 % 4294967296,out ++ [low / 16777216] ++ [low * 256 % 4294967296 / 16777216],fun k hk => ?_, ?_, ?_, ?_, ?_, ?_⟩
    · obtain ⟨k,rfl⟩ : ∃ m,k=m+3:=⟨k - 3,by omega⟩
      rw [put_step (k+2) rg (by omega) h hl hl1 (by omega),put_step (k+1) rg (by omega) (by omega) (by omega) (by omega) (by simp;omega),put_stop k _ _ _ (by omega),e2,Int.mul_assoc,show (256 : Int) * 256=65536 from rfl]
    · omega
    · omega
    · exact b1.append (Bytes.one (by omega) (by omega))
    · simp
    · rw [num_step (by omega) (by omega),num_step hl hl1,e2];omega
  · split
    · refine ⟨low * 256 % 4294967296,out ++ [low / 16777216],fun k hk => ?_, ?_, ?_,b1, ?_, ?_⟩
      · obtain ⟨k,rfl⟩ : ∃ m,k=m+2:=⟨k - 2,by omega⟩
        rw [put_step (k+1) rg (by omega) h hl hl1 (by omega),put_stop k _ _ _ (by omega),e1]
      · omega
      · omega
      · simp
      · rw [num_step hl hl1,e1]
    · refine ⟨low,out,fun k hk => ?_,hl,hl1,hb,by simp,by rw [e0];omega⟩
      obtain ⟨k,rfl⟩ : ∃ m,k=m+1:=⟨k - 1,by omega⟩
      rw [put_stop k _ _ _ (by omega),e0,Int.mul_one]
theorem put_j0 (k : Nat) (r low rg : Int) (out : List Int) : coder_Put.j0 (k+1) r low rg out=coder_Put.l0 k r low rg out:=by simp only [coder_Put.j0]
theorem put_bad (k : Nat) {lo rg lo' rg' clo chi ctot : Int} {out out' : List Int} (ho : coder_own.f lo rg out=some (lo',rg',out')) (hf : ¬ Fair clo chi ctot) : coder_Put.f k lo rg out clo chi ctot=some (lo',rg',out',1):=by
  unfold coder_Put.f
  rw [ho]
  simp only [Option.bind_some]
  rw [fair_f,Option.bind_some,if_neg (by simpa using hf)]
theorem put_ok {lo rg lo0 rg0 clo chi ctot : Int} {out out0 : List Int} (ho : coder_own.f lo0 rg0 out0=some (lo,rg,out)) (he : EOk lo rg out) (hf : Fair clo chi ctot) (hl : out.length < 3996) :
    ∃ lo' out',(∀ k,5000≤k→coder_Put.f k lo0 rg0 out0 clo chi ctot=some (lo',(prt rg clo chi ctot).1 * pw (mOf (prt rg clo chi ctot).1),out',0)) ∧
      EOk lo' ((prt rg clo chi ctot).1 * pw (mOf (prt rg clo chi ctot).1)) out'∧out'.length=out.length+mOf (prt rg clo chi ctot).1 ∧
      num lo' out' = (num lo out+(prt rg clo chi ctot).2) % (4294967296 * pw out.length) * pw (mOf (prt rg clo chi ctot).1):=by
  obtain ⟨a,b,c,d,e,f⟩:=he
  obtain ⟨p1,p2,p3⟩:=prt_facts c d hf
  have hpart:=part_f c d hf
  generalize prt rg clo chi ctot=p at *
  obtain ⟨r,s⟩:=p
  dsimp only at *
  obtain ⟨m1,m2,m3⟩:=mOf_range p1 (by omega)
  have hw : IntKind.u64.wrap (lo+s)=lo+s:=u64w (by omega) (by omega)
  have hv:=val_bound e
  by_cases hc : lo+s > 4294967295
  · obtain ⟨out1,q1,q2,q3,q4⟩:=carry_f out 4999 e (by omega) (by omega)
    obtain ⟨lo',out',g1,g2,g3,g4,g5,g6⟩:=put_l0 (r:=r) (low:=(lo+s) % 4294967296) rg p1 (by omega) (by omega) (by omega) q2 (by omega)
    refine ⟨lo',out',fun k hk => ?_,⟨g2,g3,m1,m2,g4,by omega⟩,by omega, ?_⟩
    · obtain ⟨k,rfl⟩ : ∃ m,k=m+1:=⟨k - 1,by omega⟩
      have q1' : coder_carry.f (k+1) out=some out1:=at_rounds (coder_carry.mono out) (by omega) q1
      unfold coder_Put.f
      rw [ho]
      simp only [Option.bind_some]
      rw [fair_f,Option.bind_some,if_pos (by simpa using hf),if_neg (by omega),hpart,Option.bind_some]
      dsimp only
      rw [hw,if_pos hc,q1',Option.bind_some,put_j0,and32 (by omega) (by omega),g1 k (by omega)]
    · rw [g6]
      congr 1
      unfold num
      rw [q4]
      generalize pw out.length=P at *
      have h1 : val out * 4294967296+lo+s=4294967296 * (val out+1)+(lo+s - 4294967296):=by omega
      have h2:=Int.mul_ediv_add_emod (val out+1) P
      have h3:=Int.emod_nonneg (val out+1) (show P≠0 by omega)
      have h4:=Int.emod_lt_of_pos (val out+1) (show 0 < P by omega)
      have h5 : val out * 4294967296+lo+s=4294967296 * ((val out+1) % P)+(lo+s - 4294967296)+4294967296 * P * ((val out+1) / P):=by rw [Int.mul_assoc];omega
      rw [h5,Int.add_mul_emod_self_left,Int.emod_eq_of_lt (a:=4294967296 * ((val out+1) % P)+(lo+s - 4294967296)) (by omega) (by omega)]
      omega
  · obtain ⟨lo',out',g1,g2,g3,g4,g5,g6⟩:=put_l0 (r:=r) (low:=lo+s) rg p1 (by omega) (by omega) (by omega) e (by omega)
    refine ⟨lo',out',fun k hk => ?_,⟨g2,g3,m1,m2,g4,by omega⟩,g5, ?_⟩
    · obtain ⟨k,rfl⟩ : ∃ m,k=m+1:=⟨k - 1,by omega⟩
      unfold coder_Put.f
      rw [ho]
      simp only [Option.bind_some]
      rw [fair_f,Option.bind_some,if_pos (by simpa using hf),if_neg (by omega),hpart,Option.bind_some]
      dsimp only
      rw [hw,if_neg hc,put_j0,g1 k (by omega)]
    · rw [g6]
      congr 1
      unfold num
      rw [Int.emod_eq_of_lt (by omega) (by omega)]
      omega
end Go.Proofs.Ytifkhfnmbiefaaa.Cod
/- The document's encoder, and the program's: the same bytes. -/
namespace Go.Proofs.Ytifkhfnmbiefaaa.Cod
open Go.RowKit Go.Proofs.YtifkhfnmbiefaaaW.PrintWords Go.Proofs.Ytifkhfnmbiefaaa.Prt Go.Proofs.Ytifkhfnmbiefaaa.Val
set_option linter.unusedVariables false

theorem mOf_least {r : Int} (h : 256≤r) : ∀ j,j < mOf r→r * pw j < 16777216:=by
  have e1 : pw 1=256:=rfl
  have e0 : pw 0=1:=rfl
  unfold mOf
  intro j hj
  split at hj
  · rcases (show j=0∨j=1 by omega) with rfl|rfl
    · rw [e0];omega
    · rw [e1];omega
  · split at hj
    · obtain rfl : j=0:=by omega
      rw [e0];omega
    · omega
theorem num_val (lo : Int) (out : List Int) (h0 : 0≤lo) (h1 : lo≤4294967295) : val (out ++ four lo)=num lo out:=by
  rw [val_append,four_val h0 (by omega),four_length]
  rfl
theorem finish_ok {lo rg : Int} {out : List Int} (h : EOk lo rg out) : coder_Finish.f lo rg out=some (out ++ four lo):=by
  unfold coder_Finish.f
  rw [own_ok h]
  simp only [Option.bind_some]
  rw [if_pos (by have:=h.2.2.2.2.2;simp;omega)]
  rfl
end Go.Proofs.Ytifkhfnmbiefaaa.Cod
/- The decoder, the program's and the document's. -/
namespace Go.Proofs.Ytifkhfnmbiefaaa.Cod
open Go.RowKit Go.Proofs.YtifkhfnmbiefaaaW.PrintWords Go.Proofs.YtifkhfnmbiefaaaW.PrintMore Go.Proofs.Ytifkhfnmbiefaaa.Prt Go.Proofs.Ytifkhfnmbiefaaa.Val
set_option linter.unusedVariables false

theorem rd_out (l : List Int) (i : Int) (h : (l.length : Int)≤i) : rd l i=0:=by
  unfold Go.Proofs.YtifkhfnmbiefaaaW.PrintWords.rd
  rw [List.getD_eq_getElem?_getD,List.getElem?_eq_none (by omega)]
  rfl
def DOk (code rg at_ : Int) : Prop:=0≤code∧code≤4294967295∧16777216≤rg∧rg≤4294967295∧0≤at_∧at_≤9223372036854775807
theorem at_f {l : List Int} (hb : Bytes l) {i : Int} (h : 0≤i) : coder_at.f l i=some (rd l i):=by
  have hr:=hb.rd i
  unfold coder_at.f
  by_cases h1 : i ≥ (l.length : Int)
  · rw [if_pos h1,rd_out l i (by omega)]
  · rw [if_neg h1,if_pos h,if_pos (by omega),u64w (by omega) (by omega)]
def head4 (l : List Int) : Int:=rd l 0 * 16777216+rd l 1 * 65536+rd l 2 * 256+rd l 3
theorem head4_bound {l : List Int} (hb : Bytes l) : 0≤head4 l∧head4 l≤4294967295:=by
  have h0:=hb.rd 0
  have h1:=hb.rd 1
  have h2:=hb.rd 2
  have h3:=hb.rd 3
  unfold head4;omega
theorem open_f {l : List Int} (hb : Bytes l) : coder_Open.f l=some (head4 l,4294967295,l,4):=by
  have h0:=hb.rd 0
  have h1:=hb.rd 1
  have h2:=hb.rd 2
  have h3:=hb.rd 3
  unfold coder_Open.f
  rw [at_f hb (by decide),Option.bind_some,at_f hb (by decide),Option.bind_some,at_f hb (by decide),Option.bind_some,at_f hb (by decide),Option.bind_some]
  rw [u64w (by omega) (by omega),u64w (by omega) (by omega),u64w (by omega) (by omega),or24 (x:=rd l 0 * 16777216) (y:=rd l 1 * 65536) (by omega) (by omega) (by omega) (by omega) (by omega),or16 (x:=rd l 0 * 16777216+rd l 1 * 65536) (y:=rd l 2 * 256) (by omega) (by omega) (by omega) (by omega) (by omega),or8 (by omega) (by omega) (by omega) (by omega) (by omega)]
  rfl
theorem rightDec_f (code rg at_ : Int) (l : List Int) : coder_RightDec.f code rg l at_=some (decide (code≤4294967295∧16777216≤rg∧0≤at_)):=by
  unfold coder_RightDec.f
  grind
theorem good_ok {code rg at_ : Int} {l : List Int} (h : DOk code rg at_) : coder_good.f code rg l at_=some (code,rg,l,at_):=by
  obtain ⟨a,b,c,d,e,f⟩:=h
  unfold coder_good.f
  rw [rightDec_f,Option.bind_some,if_pos (by simp;omega)]
theorem open_ok {l : List Int} (hb : Bytes l) : DOk (head4 l) 4294967295 4:=by
  have:=head4_bound hb
  unfold DOk;omega
def gt (code rg tot : Int) : Int:=if code / (rg / tot) > tot - 1 then tot - 1 else code / (rg / tot)
theorem get_pre {rg tot : Int} (c : 16777216≤rg) (h0 : 1≤tot) (h1 : tot≤65536) : 256≤rg / tot∧rg / tot≤rg:=by
  have a : 256≤rg / tot:=by rw [Int.le_ediv_iff_mul_le (by omega)];omega
  exact ⟨a,Int.ediv_le_self _ (by omega)⟩
theorem gt_bound {code rg tot : Int} (a : 0≤code) (c : 16777216≤rg) (h0 : 1≤tot) (h1 : tot≤65536) : 0≤gt code rg tot∧gt code rg tot < tot:=by
  have h:=get_pre c h0 h1
  have h2 : 0≤code / (rg / tot):=Int.ediv_nonneg a (by omega)
  unfold gt
  split <;> omega
theorem get_ok {code0 rg0 at0 code rg at_ tot : Int} {l0 l : List Int} (hg : coder_good.f code0 rg0 l0 at0=some (code,rg,l,at_)) (h : DOk code rg at_) (h0 : 1≤tot) (h1 : tot≤65536) : coder_Get.f code0 rg0 l0 at0 tot=some (gt code rg tot,0):=by
  obtain ⟨a,b,c,d,e,f⟩:=h
  have hp:=get_pre c h0 h1
  have h2 : 0≤code / (rg / tot):=Int.ediv_nonneg a (by omega)
  have h3 : code / (rg / tot)≤code:=Int.ediv_le_self _ a
  unfold coder_Get.f
  rw [hg,Option.bind_some]
  dsimp only
  rw [if_neg (by omega),if_neg (by omega),show tot % 4294967296=tot by omega,if_neg (by omega),tdiv_nn (by omega : (0 : Int)≤rg)]
  unfold gt
  generalize rg / tot=r at *
  rw [show r % 4294967296=r by omega,if_neg (by omega),tdiv_nn a]
  generalize code / r=q at *
  rw [u64w (by omega) (by omega),i64w (by omega) (by omega),i64w (by omega) (by omega)]
  unfold num_Clamp.f
  rw [if_neg (by omega)]
  split <;> rfl
def dn (l : List Int) : Nat→Int × Int→Int × Int
  | 0,s=>s
  | m+1,s=>dn l m (s.1 * 256 % 4294967296+rd l s.2,if s.2 < (l.length : Int) then s.2+1 else s.2)
theorem dn_bound {l : List Int} (hb : Bytes l) : ∀ (m : Nat) (s : Int × Int),0≤s.1→s.1≤4294967295→0≤s.2→s.2≤9223372036854775807→l.length≤9000 →
    0≤(dn l m s).1∧(dn l m s).1≤4294967295∧0≤(dn l m s).2∧(dn l m s).2≤9223372036854775807
  | 0,s,a,b,c,d,_=>⟨a,b,c,d⟩
  | m+1,s,a,b,c,d,hl=>by
    have hr:=hb.rd s.2
    refine dn_bound hb m _ ?_ ?_ ?_ ?_ hl <;> dsimp only
    · omega
    · omega
    · split <;> omega
    · split <;> omega
theorem take_l0 {l : List Int} (hb : Bytes l) (hl : l.length≤9000) (rg : Int) : ∀ (m : Nat) (r : Int) (s : Int × Int) (k : Nat),0 < r→16777216≤r * pw m→r * pw m≤4294967295→(∀ j,j < m→r * pw j < 16777216)→0≤s.1→s.1≤4294967295→0≤s.2→s.2≤9223372036854775807→m < k →
    coder_Take.l0 k r s.1 rg l s.2=some ((dn l m s).1,r * pw m,l,(dn l m s).2,0)
  | 0,r,s,k,h0,h1,h1',h2,a,b,c,d,hk=>by
    obtain ⟨k,rfl⟩ : ∃ m,k=m+1:=⟨k - 1,by omega⟩
    rw [pw_zero] at h1
    simp only [coder_Take.l0]
    rw [if_neg (by omega),pw_zero,Int.mul_one]
    rfl
  | m+1,r,s,k,h0,h1,h1',h2,a,b,c,d,hk=>by
    obtain ⟨k,rfl⟩ : ∃ m,k=m+1:=⟨k - 1,by omega⟩
    have h3:=h2 0 (by omega)
    rw [pw_zero] at h3
    have hr:=hb.rd s.2
    have e : ∀ j,r * 256 * pw j=r * pw (j+1):=fun j=>by rw [pw_succ,Int.mul_assoc]
    simp only [coder_Take.l0]
    rw [if_pos (by omega),at_f hb c,Option.bind_some,u64w (x:=s.1 * 256) (by omega) (by omega),and32 (by omega) (by omega),or8 (by omega) (by omega) (by omega) (by omega) (by omega),Int.emod_eq_of_lt (a:=r * 256) (by omega) (by omega)]
    have ih:=fun (a2 : Int) (ha : 0≤a2) (hb2 : a2≤9223372036854775807)=>take_l0 hb hl rg m (r * 256) (s.1 * 256 % 4294967296+rd l s.2,a2) k (by omega) (by rw [e];exact h1) (by rw [e];exact h1') (fun j hj=>by rw [e];exact h2 (j+1) (by omega)) (by dsimp only;omega) (by dsimp only;omega) ha hb2 (by omega)
    by_cases h4 : s.2 < (l.length : Int)
    · rw [if_pos h4,i64w (by omega) (by omega),ih (s.2+1) (by omega) (by omega),e]
      simp only [dn,if_pos h4]
    · rw [if_neg h4,ih s.2 c d,e]
      simp only [dn,if_neg h4]
def tk (l : List Int) (code rg at_ lo hi tot : Int) : Int × Int × Int :=
  let p:=prt rg lo hi tot
  let s:=dn l (mOf p.1) (code - (if p.2 < code then p.2 else code),at_)
  (s.1,p.1 * pw (mOf p.1),s.2)
theorem tk_ok {l : List Int} {code rg at_ lo hi tot : Int} (hb : Bytes l) (hl : l.length≤9000) (h : DOk code rg at_) (hf : Fair lo hi tot) : DOk (tk l code rg at_ lo hi tot).1 (tk l code rg at_ lo hi tot).2.1 (tk l code rg at_ lo hi tot).2.2:=by
  obtain ⟨a,b,c,d,e,f⟩:=h
  obtain ⟨p1,p2,p3⟩:=prt_facts c d hf
  obtain ⟨m1,m2,m3⟩:=mOf_range p1 (by omega)
  obtain ⟨d1,d2,d3,d4⟩:=dn_bound hb (mOf (prt rg lo hi tot).1) (code - (if (prt rg lo hi tot).2 < code then (prt rg lo hi tot).2 else code),at_) (by dsimp only;split <;> omega) (by dsimp only;split <;> omega) e f hl
  exact ⟨d1,d2,m1,m2,d3,d4⟩
theorem take_ok {code0 rg0 at0 code rg at_ lo hi tot : Int} {l0 l : List Int} (hg : coder_good.f code0 rg0 l0 at0=some (code,rg,l,at_)) (h : DOk code rg at_) (hb : Bytes l) (hl : l.length≤9000) (hf : Fair lo hi tot) (k : Nat) (hk : 4≤k) :
    coder_Take.f k code0 rg0 l0 at0 lo hi tot=some ((tk l code rg at_ lo hi tot).1,(tk l code rg at_ lo hi tot).2.1,l,(tk l code rg at_ lo hi tot).2.2,0):=by
  obtain ⟨a,b,c,d,e,f⟩:=h
  obtain ⟨p1,p2,p3⟩:=prt_facts c d hf
  have hpart:=part_f c d hf
  unfold coder_Take.f tk
  rw [hg,Option.bind_some]
  dsimp only
  rw [fair_f,Option.bind_some,if_pos (by simpa using hf),hpart,Option.bind_some]
  generalize prt rg lo hi tot=p at *
  obtain ⟨r,s⟩:=p
  dsimp only at *
  obtain ⟨m1,m2,m3⟩:=mOf_range p1 (by omega)
  have e1 : IntKind.u64.wrap (code - mn code s)=code - (if s < code then s else code):=by
    unfold mn
    split <;> exact u64w (by omega) (by omega)
  rw [e1]
  exact take_l0 hb hl rg (mOf r) r (code - (if s < code then s else code),at_) k (by omega) m1 m2 (mOf_least p1) (by dsimp only;split <;> omega) (by dsimp only;split <;> omega) e f (by omega)
end Go.Proofs.Ytifkhfnmbiefaaa.Cod
/- What was put is taken: the decoder's code is the bytes' number less the encoder's, choice by choice. -/
namespace Go.Proofs.Ytifkhfnmbiefaaa.Cod
open Go.RowKit Go.Proofs.YtifkhfnmbiefaaaW.PrintWords Go.Proofs.Ytifkhfnmbiefaaa.Prt Go.Proofs.Ytifkhfnmbiefaaa.Val
set_option linter.unusedVariables false
abbrev E3:=Int × Int × List Int
def E3.ok (e : E3) : Prop:=EOk e.1 e.2.1 e.2.2
def E3.num (e : E3) : Int:=Cod.num e.1 e.2.2
def E3.len (e : E3) : Nat:=e.2.2.length
structure St (e e' : E3) (lo hi tot : Int) : Prop where
  fair : Cod.Fair lo hi tot
  ok : e'.ok
  rg : e'.2.1=(prt e.2.1 lo hi tot).1 * pw (mOf (prt e.2.1 lo hi tot).1)
  len : e'.len=e.len+mOf (prt e.2.1 lo hi tot).1
  num : e'.num=(e.num+(prt e.2.1 lo hi tot).2) * pw (mOf (prt e.2.1 lo hi tot).1)
def Nov (e : E3) : Prop:=e.num+e.2.1≤4294967296 * pw e.len
structure Ext (F : List Int) (e : E3) : Prop where
  len : e.len+4≤F.length
  low : e.num≤val (F.take (e.len+4))
  high : val (F.take (e.len+4)) < e.num+e.2.1
def Cd (F : List Int) (e : E3) : Int:=val (F.take (e.len+4)) - e.num
theorem new_e : E3.ok (0,4294967295, []):=new_ok
theorem new_nov : Nov (0,4294967295, []):=by unfold Nov E3.num E3.len Cod.num;decide
theorem st_of_put {e : E3} (he : e.ok) (hn : Nov e) {lo hi tot : Int} (hf : Cod.Fair lo hi tot) (hl : e.len < 3996) :
    ∃ e' : E3,(∀ k,5000≤k→coder_Put.f k e.1 e.2.1 e.2.2 lo hi tot=some (e'.1,e'.2.1,e'.2.2,0))∧St e e' lo hi tot∧Nov e' := by
  obtain ⟨lo',out',a,b,c,d⟩:=put_ok (own_ok he) he hf hl
  have hp:=prt_facts he.2.2.1 he.2.2.2.1 hf
  have hv:=val_bound he.2.2.2.2.1
  have h0 : 0≤e.num:=by unfold E3.num Cod.num;have:=he.1;omega
  unfold Nov at hn
  have e1 : (Cod.num e.1 e.2.2+(prt e.2.1 lo hi tot).2) % (4294967296 * pw e.2.2.length)=Cod.num e.1 e.2.2+(prt e.2.1 lo hi tot).2 :=
    Int.emod_eq_of_lt (by unfold E3.num at h0;omega) (by unfold E3.num E3.len at *; omega)
  rw [e1] at d
  refine ⟨(lo',_,out'),a,⟨hf,b,rfl,c,d⟩, ?_⟩
  unfold Nov
  show Cod.num lo' out' + _≤4294967296 * pw out'.length
  rw [d,c,pw_add, ← Int.mul_assoc, ← Int.add_mul]
  refine Int.mul_le_mul_of_nonneg_right ?_ (Int.le_of_lt (pw_pos _))
  unfold E3.num E3.len at *; omega
theorem take_more {F : List Int} {n : Nat} (h : n < F.length) : F.take (n+1)=F.take n ++ [rd F n]:=by
  rw [List.take_succ_eq_append_getElem h]
  unfold Go.Proofs.YtifkhfnmbiefaaaW.PrintWords.rd
  simp [List.getD_eq_getElem?_getD,List.getElem?_eq_getElem h]
theorem val_more {F : List Int} {n : Nat} (h : n < F.length) : val (F.take (n+1))=val (F.take n) * 256+rd F n:=by rw [take_more h,val_snoc]
theorem val_between {F : List Int} (hb : Bytes F) : ∀ (m n : Nat),n+m≤F.length→val (F.take n) * pw m≤val (F.take (n+m))∧val (F.take (n+m)) < (val (F.take n)+1) * pw m
  | 0,n,_=>by rw [pw_zero];simp;omega
  | m+1,n,h=>by
    have ih:=val_between hb m n (by omega)
    have hr:=hb.rd ((n+m : Nat) : Int)
    rw [← Nat.add_assoc,val_more (by omega),pw_succ,show val (F.take n) * (256 * pw m)=val (F.take n) * pw m * 256 by rw [Int.mul_assoc,Int.mul_comm 256],show (val (F.take n)+1) * (256 * pw m)=(val (F.take n)+1) * pw m * 256 by rw [Int.mul_assoc,Int.mul_comm 256]]
    omega
theorem ext_back {F : List Int} {e e' : E3} {lo hi tot : Int} (he : e.ok) (hs : St e e' lo hi tot) (hb : Bytes F) (hx : Ext F e') :
    Ext F e∧(prt e.2.1 lo hi tot).2≤Cd F e∧Cd F e < (prt e.2.1 lo hi tot).2+(prt e.2.1 lo hi tot).1:=by
  obtain ⟨h1,h2,h3⟩:=hx
  have hp:=prt_facts he.2.2.1 he.2.2.2.1 hs.fair
  rw [hs.len] at h1 h2 h3
  rw [hs.num] at h2 h3
  rw [hs.rg, ← Int.add_mul] at h3
  generalize prt e.2.1 lo hi tot=p at *
  obtain ⟨r,s⟩:=p
  dsimp only at *
  generalize mOf r=m at *
  have hw:=val_between hb m (e.len+4) (by omega)
  rw [show e.len+m+4=e.len+4+m by omega] at h2 h3
  have pm:=pw_pos m
  have g1 : e.num+s < val (F.take (e.len+4))+1:=Int.lt_of_mul_lt_mul_right (Int.lt_of_le_of_lt h2 hw.2) (Int.le_of_lt pm)
  have g2 : val (F.take (e.len+4)) < e.num+s+r:=Int.lt_of_mul_lt_mul_right (Int.lt_of_le_of_lt hw.1 h3) (Int.le_of_lt pm)
  exact ⟨⟨by omega,by omega,by omega⟩,by unfold Cd;omega,by unfold Cd;omega⟩
theorem dn_eq {F : List Int} (hb : Bytes F) : ∀ (m : Nat) (c r : Int) (L : Nat),0≤c→c < r→(∀ j,j < m→r * pw j < 16777216)→L+m≤F.length →
    dn F m (c,(L : Int))=(c * pw m+(val (F.take (L+m)) - val (F.take L) * pw m),((L+m : Nat) : Int))
  | 0,c,r,L,h0,h1,h2,h3=>by simp only [dn];rw [pw_zero,Nat.add_zero];congr 1;omega
  | m+1,c,r,L,h0,h1,h2,h3=>by
    have hr:=hb.rd (L : Int)
    have hz:=h2 0 (by omega)
    rw [pw_zero] at hz
    simp only [dn]
    rw [if_pos (by omega),show (L : Int)+1=((L+1 : Nat) : Int) by omega,Int.emod_eq_of_lt (by omega) (by omega),dn_eq hb m (c * 256+rd F L) (r * 256) (L+1) (by omega) (by omega) (fun j hj=>by have:=h2 (j+1) (by omega);rw [pw_succ, ← Int.mul_assoc] at this;exact this) (by omega)]
    rw [val_more (by omega),show L+1+m=L+(m+1) by omega,pw_succ]
    congr 1
    generalize pw m=q
    generalize val (F.take L)=y
    generalize val (F.take (L+(m+1)))=z
    generalize rd F L=x
    rw [Int.add_mul,Int.add_mul,Int.mul_assoc,Int.mul_assoc];omega
theorem tk_eq {F : List Int} {e e' : E3} {lo hi tot : Int} (he : e.ok) (hs : St e e' lo hi tot) (hb : Bytes F) (hx : Ext F e') :
    tk F (Cd F e) e.2.1 ((e.len+4 : Nat) : Int) lo hi tot=(Cd F e',e'.2.1,((e'.len+4 : Nat) : Int)):=by
  obtain ⟨_,g1,g2⟩:=ext_back he hs hb hx
  have h1:=hx.len
  have hp:=prt_facts he.2.2.1 he.2.2.2.1 hs.fair
  have hl:=mOf_least hp.1
  unfold tk
  rw [hs.len] at h1
  have n1:=hs.num
  have n2:=hs.len
  have n3:=hs.rg
  generalize prt e.2.1 lo hi tot=p at *
  obtain ⟨r,s⟩:=p
  dsimp only at *
  rw [show (if s < Cd F e then s else Cd F e)=s by split <;> omega,dn_eq hb (mOf r) (Cd F e - s) r (e.len+4) (by omega) (by omega) hl (by omega)]
  dsimp only
  rw [n3]
  generalize mOf r=m at *
  refine Prod.ext ?_ (Prod.ext rfl ?_)
  · show _=val (F.take (e'.len+4)) - e'.num
    rw [n1,n2,show e.len+m+4=e.len+4+m by omega]
    unfold Cd
    rw [Int.sub_mul,Int.sub_mul,Int.add_mul];omega
  · show ((e.len+4+m : Nat) : Int)=((e'.len+4 : Nat) : Int)
    rw [n2];omega
theorem cd_ok {F : List Int} {e : E3} (he : e.ok) (hx : Ext F e) (hl : F.length≤9000) : DOk (Cd F e) e.2.1 ((e.len+4 : Nat) : Int):=by
  obtain ⟨a,b,c,d,f,g⟩:=he
  obtain ⟨h1,h2,h3⟩:=hx
  unfold DOk Cd;omega
theorem gt_in {rg lo hi tot code : Int} (c : 16777216≤rg) (d : rg≤4294967295) (hf : Cod.Fair lo hi tot) (h1 : (prt rg lo hi tot).2≤code) (h2 : code < (prt rg lo hi tot).2+(prt rg lo hi tot).1) : lo≤gt code rg tot∧gt code rg tot < hi:=by
  obtain ⟨e1,e2,e3,e4,e5,e6,e7⟩:=div_facts c d hf
  obtain ⟨f1,f2,f3,f4⟩:=hf
  unfold prt at h1 h2
  unfold gt
  dsimp only at h1 h2
  generalize rg / tot=q at *
  have g1 : lo≤code / q:=by rw [Int.le_ediv_iff_mul_le (by omega),Int.mul_comm];exact h1
  by_cases hh : hi=tot
  · split <;> omega
  · rw [if_neg hh] at h2
    have g2 : code / q < hi:=by rw [Int.ediv_lt_iff_lt_mul (by omega),Int.mul_comm];omega
    split <;> omega
inductive Run : E3→List (Int × Int × Int)→E3→Prop
  | nil (e : E3) : Run e [] e
  | cons {e e' e'' : E3} {lo hi tot : Int} {cs : List (Int × Int × Int)} : St e e' lo hi tot→Run e' cs e''→Run e ((lo,hi,tot) :: cs) e''
theorem Run.append {e e' e'' : E3} {cs ds : List (Int × Int × Int)} (h : Run e cs e') (k : Run e' ds e'') : Run e (cs ++ ds) e'' := by
  induction h with
  | nil=>exact k
  | cons s _ ih=>exact .cons s (ih k)
theorem Run.ok {e e' : E3} {cs : List (Int × Int × Int)} (h : Run e cs e') (he : e.ok) : e'.ok:=by
  induction h with
  | nil=>exact he
  | cons s _ ih=>exact ih s.ok
theorem Run.ext {e e' : E3} {cs : List (Int × Int × Int)} (h : Run e cs e') (he : e.ok) {F : List Int} (hb : Bytes F) (hx : Ext F e') : Ext F e:=by
  induction h with
  | nil=>exact hx
  | cons s _ ih=>exact (ext_back he s hb (ih s.ok hx)).1
def all (e : E3) : List Int:=e.2.2 ++ four e.1
theorem all_bytes {e : E3} (he : e.ok) : Bytes (all e):=he.2.2.2.2.1.append (four_bytes _)
theorem all_len {e : E3} (he : e.ok) : (all e).length=e.len+4:=by unfold all E3.len;simp [four]
theorem all_ext {e : E3} (he : e.ok) : Ext (all e) e:=by
  have hl:=all_len he
  have hv : val (all e)=e.num:=num_val e.1 e.2.2 he.1 he.2.1
  refine ⟨by omega, ?_, ?_⟩
  · rw [List.take_of_length_le (by omega),hv];exact Int.le_refl _
  · rw [List.take_of_length_le (by omega),hv]
    have:=he.2.2.1
    omega
theorem open_cd {F : List Int} (hb : Bytes F) (hx : Ext F (0,4294967295, [])) : head4 F=Cd F (0,4294967295, []):=by
  have h : 4≤F.length:=by have:=hx.len;unfold E3.len at this;simpa using this
  unfold Cd E3.len E3.num Cod.num
  show head4 F=val (F.take 4) - (val [] * 4294967296+0)
  rw [val_nil,val_more (n:=3) (by omega),val_more (n:=2) (by omega),val_more (n:=1) (by omega),val_more (n:=0) (by omega)]
  rw [show rd F ((3 : Nat) : Int)=rd F 3 from rfl,show rd F ((2 : Nat) : Int)=rd F 2 from rfl,show rd F ((1 : Nat) : Int)=rd F 1 from rfl,show rd F ((0 : Nat) : Int)=rd F 0 from rfl]
  unfold head4
  simp only [List.take_zero,val_nil]
  omega
end Go.Proofs.Ytifkhfnmbiefaaa.Cod
/- Numbers: put and taken as one choice, or two. -/
namespace Go.Proofs.Ytifkhfnmbiefaaa.Cod
open Go.RowKit Go.Proofs.YtifkhfnmbiefaaaW.PrintWords Go.Proofs.YtifkhfnmbiefaaaW.PrintMore Go.Proofs.Ytifkhfnmbiefaaa.Prt Go.Proofs.Ytifkhfnmbiefaaa.Val
set_option linter.unusedVariables false
def half1 (n : Int) : Int:=(n - 1) / 65536+1
theorem halves_small {n : Int} (h0 : 1≤n) (h : n≤65536) : coder_halves.f n=some (n,1):=by
  unfold coder_halves.f
  rw [if_pos h,i64w (by omega) (by omega)]
theorem halves_great {n : Int} (h : 65536 < n) (h1 : n≤4294967296) : coder_halves.f n=some (half1 n,65536):=by
  unfold coder_halves.f half1
  rw [if_neg (by omega),u64w (x:=n - 1) (by omega) (by omega),tdiv_nn (by omega),u64w (by omega) (by omega),i64w (x:=(n - 1) / 65536) (by omega) (by omega),i64w (by omega) (by omega)]
theorem fair_small {v n : Int} (h0 : 0≤v) (h1 : v < n) (h2 : n≤65536) : Cod.Fair v (v+1) n:=⟨h0,by omega,by omega,h2⟩
theorem fair_high {v n : Int} (h0 : 0≤v) (h1 : v < n) (h2 : n≤4294967296) : Cod.Fair (v / 65536) (v / 65536+1) (half1 n):=by unfold half1;exact ⟨by omega,by omega,by omega,by omega⟩
theorem fair_low (v : Int) : Cod.Fair (v % 65536) (v % 65536+1) 65536:=⟨by omega,by omega,by omega,by omega⟩
section
variable {lo0 rg0 lo rg : Int} {out0 out : List Int} (ho : coder_own.f lo0 rg0 out0=some (lo,rg,out))
include ho
theorem putNum_pre {v n : Int} (h0 : 0≤v) (h1 : v < n) (h2 : n≤4294967296) (k : Nat) : coder_PutNum.f k lo0 rg0 out0 v n=coder_PutNum.j0 k v n false lo rg out:=by
  unfold coder_PutNum.f
  rw [ho,Option.bind_some]
  dsimp only
  rw [if_neg (by omega),if_neg (by omega),show decide (v ≥ n)=false by simp;omega]
theorem putNum_small {v n lo1 rg1 e1 : Int} {out1 : List Int} (h0 : 0≤v) (h1 : v < n) (h2 : n≤65536) (hp : ∀ k,5000≤k→coder_Put.f k lo rg out v (v+1) n=some (lo1,rg1,out1,e1)) (k : Nat) (hk : 5010≤k) :
    coder_PutNum.f k lo0 rg0 out0 v n=if e1=0 then some (lo1,rg1,out1,0) else some (lo,rg,out,e1):=by
  rw [putNum_pre ho h0 h1 (by omega)]
  obtain ⟨k,rfl⟩ : ∃ m,k=m+2:=⟨k - 2,by omega⟩
  simp only [coder_PutNum.j0,halves_small (show 1≤n by omega) h2,Option.bind_some]
  rw [if_neg (by simp),if_neg (by decide),i64w (x:=v) (by omega) (by omega),Int.tdiv_one,i64w (x:=v) (by omega) (by omega),i64w (by omega) (by omega),hp _ (by omega),Option.bind_some]
  dsimp only
  by_cases h : e1=0
  · rw [if_pos h,if_pos h]
    simp only [coder_PutNum.j1]
    rw [if_neg (by simp),if_pos h]
  · rw [if_neg h,if_neg h]
    simp only [coder_PutNum.j1]
    rw [if_neg (by decide),if_neg h]
theorem putNum_great2 {v n lo1 rg1 lo2 rg2 e2 : Int} {out1 out2 : List Int} (h0 : 0≤v) (h1 : v < n) (h2 : 65536 < n) (h3 : n≤4294967296) (hp : ∀ k,5000≤k→coder_Put.f k lo rg out (v / 65536) (v / 65536+1) (half1 n)=some (lo1,rg1,out1,0))
    (hq : ∀ k,5000≤k→coder_Put.f k lo1 rg1 out1 (v % 65536) (v % 65536+1) 65536=some (lo2,rg2,out2,e2)) (k : Nat) (hk : 5010≤k) :
    coder_PutNum.f k lo0 rg0 out0 v n=if e2=0 then some (lo2,rg2,out2,0) else some (lo,rg,out,e2):=by
  rw [putNum_pre ho h0 h1 h3]
  obtain ⟨k,rfl⟩ : ∃ m,k=m+2:=⟨k - 2,by omega⟩
  simp only [coder_PutNum.j0,halves_great h2 h3,Option.bind_some]
  rw [if_neg (by simp),if_neg (by decide),i64w (x:=v) (by omega) (by omega),tdiv_nn h0,i64w (x:=v / 65536) (by omega) (by omega),i64w (x:=v / 65536+1) (by omega) (by omega),hp _ (by omega),Option.bind_some]
  dsimp only
  rw [if_pos rfl,tmod_nn h0]
  simp only [coder_PutNum.j1]
  rw [if_pos (by simp),i64w (by omega) (by omega),hq _ (by omega),Option.bind_some]
end
def tn (l : List Int) (code rg at_ n : Int) : Int × Int × Int × Int :=
  if n≤65536 then let g:=gt code rg n;let t:=tk l code rg at_ g (g+1) n;(t.1,t.2.1,t.2.2,g)
  else let g:=gt code rg (half1 n);let t:=tk l code rg at_ g (g+1) (half1 n);let m:=gt t.1 t.2.1 65536;let u:=tk l t.1 t.2.1 t.2.2 m (m+1) 65536
    (u.1,u.2.1,u.2.2,if n - 1 < g * 65536+m then n - 1 else g * 65536+m)
theorem gt_fair {code rg tot : Int} (a : 0≤code) (c : 16777216≤rg) (h0 : 1≤tot) (h1 : tot≤65536) : Cod.Fair (gt code rg tot) (gt code rg tot+1) tot:=by
  have:=gt_bound a c h0 h1
  exact ⟨by omega,by omega,by omega,h1⟩
theorem tn_ok {l : List Int} {code rg at_ n : Int} (hb : Bytes l) (hl : l.length≤9000) (h : DOk code rg at_) (h0 : 1≤n) (h1 : n≤4294967296) : DOk (tn l code rg at_ n).1 (tn l code rg at_ n).2.1 (tn l code rg at_ n).2.2.1∧0≤(tn l code rg at_ n).2.2.2∧(tn l code rg at_ n).2.2.2 < n:=by
  unfold tn
  split
  · have hg:=gt_bound (code:=code) h.1 h.2.2.1 h0 (by assumption)
    exact ⟨tk_ok hb hl h (gt_fair h.1 h.2.2.1 h0 (by assumption)),hg.1,hg.2⟩
  · have hh : 1≤half1 n∧half1 n≤65536:=by unfold half1;omega
    have hg:=gt_bound (code:=code) h.1 h.2.2.1 hh.1 hh.2
    have ht:=tk_ok hb hl h (gt_fair h.1 h.2.2.1 hh.1 hh.2)
    have hm:=gt_bound ht.1 ht.2.2.1 (show (1 : Int)≤65536 by decide) (by decide)
    refine ⟨tk_ok hb hl ht (gt_fair ht.1 ht.2.2.1 (by decide) (by decide)), ?_, ?_⟩
    · dsimp only;split <;> omega
    · dsimp only;split <;> omega
theorem takeNum_ok {code0 rg0 at0 code rg at_ n : Int} {l0 l : List Int} (hg : coder_good.f code0 rg0 l0 at0=some (code,rg,l,at_)) (h : DOk code rg at_) (hb : Bytes l) (hl : l.length≤9000) (h0 : 1≤n) (h1 : n≤4294967296) (k : Nat) (hk : 10≤k) :
    coder_TakeNum.f k code0 rg0 l0 at0 n=some ((tn l code rg at_ n).1,(tn l code rg at_ n).2.1,l,(tn l code rg at_ n).2.2.1,(tn l code rg at_ n).2.2.2,0):=by
  obtain ⟨k,rfl⟩ : ∃ m,k=m+1:=⟨k - 1,by omega⟩
  unfold coder_TakeNum.f tn
  rw [hg,Option.bind_some]
  dsimp only
  rw [if_neg (by omega),show decide (n > 4294967296)=false by simp;omega]
  simp only [coder_TakeNum.j0]
  rw [if_neg (by simp)]
  by_cases hs : n≤65536
  · have hgt:=gt_bound (code:=code) h.1 h.2.2.1 h0 hs
    have hf:=gt_fair (code:=code) h.1 h.2.2.1 h0 hs
    rw [halves_small h0 hs,Option.bind_some]
    dsimp only
    rw [get_ok (good_ok h) h h0 hs,Option.bind_some]
    dsimp only
    rw [i64w (x:=gt code rg n+1) (by omega) (by omega),take_ok (good_ok h) h hb hl hf k (by omega),Option.bind_some]
    dsimp only
    rw [if_neg (by decide),if_pos hs,u64w (x:=gt code rg n) (by omega) (by omega),u64w (x:=n - 1) (by omega) (by omega)]
    dsimp only
    have e : mn (gt code rg n) (n - 1)=gt code rg n:=by unfold mn;rw [if_neg (by omega)]
    rw [e]
  · have hh : 1≤half1 n∧half1 n≤65536:=by unfold half1;omega
    have hgt:=gt_bound (code:=code) h.1 h.2.2.1 hh.1 hh.2
    have hf:=gt_fair (code:=code) h.1 h.2.2.1 hh.1 hh.2
    have ht:=tk_ok (at_:=at_) hb hl h hf
    have hm:=gt_bound ht.1 ht.2.2.1 (show (1 : Int)≤65536 by decide) (by decide)
    have hf2:=gt_fair ht.1 ht.2.2.1 (show (1 : Int)≤65536 by decide) (by decide)
    rw [halves_great (by omega) h1,Option.bind_some]
    dsimp only
    rw [get_ok (good_ok h) h hh.1 hh.2,Option.bind_some]
    dsimp only
    rw [i64w (x:=gt code rg (half1 n)+1) (by omega) (by omega),take_ok (good_ok h) h hb hl hf k (by omega),Option.bind_some]
    dsimp only
    rw [if_pos (by decide),get_ok (good_ok ht) ht (by decide) (by decide),Option.bind_some]
    dsimp only
    rw [i64w (x:=gt _ _ 65536+1) (by omega) (by omega),take_ok (good_ok ht) ht hb hl hf2 k (by omega),Option.bind_some]
    dsimp only
    rw [if_neg hs,u64w (x:=gt code rg (half1 n)) (by omega) (by omega),u64w (x:=65536) (by decide) (by decide),u64w (x:=gt code rg (half1 n) * 65536) (by omega) (by omega),u64w (x:=gt _ _ 65536) (by omega) (by omega),u64w (x:=_+_) (by omega) (by omega),u64w (x:=n - 1) (by omega) (by omega)]
    rfl
end Go.Proofs.Ytifkhfnmbiefaaa.Cod
/- Gains taken: what the program and the document take, step by step; and what gains may be. -/
namespace Go.Proofs.Ytifkhfnmbiefaaa.Gan
open Go.RowKit Go.Proofs.YtifkhfnmbiefaaaW.PrintWords Go.Proofs.YtifkhfnmbiefaaaW.PrintMore Go.Proofs.Ytifkhfnmbiefaaa.Prt Go.Proofs.Ytifkhfnmbiefaaa.Val Go.Proofs.Ytifkhfnmbiefaaa.Cod
set_option linter.unusedVariables false
def rt (l : List Int) : Bool:=((l.length : Int) == 5) && l.all (fun x=>decide (0≤x∧x≤44))
theorem rt_len {l : List Int} (h : rt l=true) : l.length=5:=by simp [rt] at h;omega
theorem rt_rd {l : List Int} (h : rt l=true) (i : Int) : 0≤rd l i∧rd l i≤44:=by
  simp only [rt,Bool.and_eq_true,List.all_eq_true,decide_eq_true_eq] at h
  unfold Go.Proofs.YtifkhfnmbiefaaaW.PrintWords.rd
  rw [List.getD_eq_getElem?_getD]
  by_cases hi : i.toNat < l.length
  · rw [List.getElem?_eq_getElem hi];exact h.2 _ (List.getElem_mem hi)
  · rw [List.getElem?_eq_none (by omega)];exact ⟨by decide,by decide⟩
theorem drop_rd (l : List Int) (i : Nat) (h : i < l.length) : l.drop i=rd l (i : Int) :: l.drop (i+1):=by
  rw [List.drop_eq_getElem_cons h]
  unfold Go.Proofs.YtifkhfnmbiefaaaW.PrintWords.rd
  rw [List.getD_eq_getElem?_getD,Int.toNat_natCast,List.getElem?_eq_getElem h]
  rfl
theorem right_l0 (l : List Int) (hl : l.length≤9000) : ∀ (d i k : Nat),i+d=l.length→d < k→gain_Right.l0 k l l (l.length : Int) (i : Int)=some (((l.length : Int) == 5) && (l.drop i).all (fun x=>decide (0≤x∧x≤44)))
  | 0,i,k,hi,hk=>by
    obtain ⟨k,rfl⟩ : ∃ m,k=m+1:=⟨k - 1,by omega⟩
    simp only [gain_Right.l0]
    rw [if_neg (by omega),List.drop_eq_nil_of_le (by omega)]
    simp
  | d+1,i,k,hi,hk=>by
    obtain ⟨k,rfl⟩ : ∃ m,k=m+1:=⟨k - 1,by omega⟩
    simp only [gain_Right.l0]
    rw [if_pos (by omega),if_pos (by omega),if_pos (by omega),drop_rd l i (by omega),List.all_cons]
    by_cases h0 : rd l (i : Int) < 0
    · rw [if_pos h0,show decide (0≤rd l (i : Int)∧rd l (i : Int)≤44)=false by simp;omega]
      simp
    · rw [if_neg h0]
      by_cases h1 : rd l (i : Int) > 44
      · rw [if_pos h1,show decide (0≤rd l (i : Int)∧rd l (i : Int)≤44)=false by simp;omega]
        simp
      · rw [if_neg h1,i64w (by omega) (by omega),show decide (0≤rd l (i : Int)∧rd l (i : Int)≤44)=true by simp;omega,Bool.true_and]
        exact right_l0 l hl d (i+1) k (by omega) (by omega)
theorem right_ok (l : List Int) (hl : l.length≤9000) (k : Nat) (hk : l.length < k) : gain_Right.f k l=some (rt l):=right_l0 l hl l.length 0 k (by omega) hk
theorem refRight_l0 (l : List Int) (hl : l.length≤9000) : ∀ (d i k : Nat) (ok : Bool),i+d=l.length→d < k→r11_Right.l0 k l ok (i : Int)=some (ok && (l.drop i).all (fun x=>decide (0≤x∧x≤44)))
  | 0,i,k,ok,hi,hk=>by
    obtain ⟨k,rfl⟩ : ∃ m,k=m+1:=⟨k - 1,by omega⟩
    simp only [r11_Right.l0]
    rw [if_neg (by omega),List.drop_eq_nil_of_le (by omega)]
    simp
  | d+1,i,k,ok,hi,hk=>by
    obtain ⟨k,rfl⟩ : ∃ m,k=m+1:=⟨k - 1,by omega⟩
    have ih:=fun ok=>refRight_l0 l hl d (i+1) k ok (by omega) (by omega)
    simp only [r11_Right.l0]
    rw [if_pos (by omega),drop_rd l i (by omega),List.all_cons,i64w (x:=(i : Int)+1) (by omega) (by omega)]
    cases ok with
    | false=>rw [if_neg (by simp)];exact (ih false).trans (by simp)
    | true =>
      rw [if_pos rfl,if_pos (by omega)]
      by_cases h0 : rd l (i : Int) ≥ 0
      · rw [if_pos h0]
        refine (ih _).trans ?_
        rw [show decide (0≤rd l (i : Int)∧rd l (i : Int)≤44)=decide (rd l (i : Int)≤44) from decide_eq_decide.2 ⟨fun h=>h.2,fun h=>⟨h0,h⟩⟩,Bool.true_and]
      · rw [if_neg h0,show decide (0≤rd l (i : Int)∧rd l (i : Int)≤44)=false by simp;omega]
        exact (ih false).trans (by simp)
theorem refRight_ok (l : List Int) (hl : l.length≤9000) (k : Nat) (hk : l.length < k) : r11_Right.f k l=some (rt l):=by
  unfold r11_Right.f
  rw [show (0 : Int)=((0 : Nat) : Int) from rfl,refRight_l0 l hl l.length 0 k _ (by omega) hk]
  rfl
theorem same_l0 (l : List Int) (hl : l.length≤9000) : ∀ (d i k : Nat),i+d=l.length→d < k→r06_Same.l0 k l l (i : Int)=some true
  | 0,i,k,hi,hk=>by
    obtain ⟨k,rfl⟩ : ∃ m,k=m+1:=⟨k - 1,by omega⟩
    simp only [r06_Same.l0]
    rw [if_neg (by omega)]
  | d+1,i,k,hi,hk=>by
    obtain ⟨k,rfl⟩ : ∃ m,k=m+1:=⟨k - 1,by omega⟩
    simp only [r06_Same.l0]
    rw [if_pos (by omega),if_pos (by omega),if_pos (by omega),if_pos trivial,i64w (x:=(i : Int)+1) (by omega) (by omega)]
    exact same_l0 l hl d (i+1) k (by omega) (by omega)
def gt1 (l : List Int) (code rg at_ ahead : Int) (intra : Bool) : Int × Int × Int × Int :=
  if intra=true then tn l code rg at_ 45
  else let g:=gt code rg 8;let t:=tk l code rg at_ g (g+1) 8
    if g=7 then tn l t.1 t.2.1 t.2.2 45 else (t.1,t.2.1,t.2.2,if ahead+g - 3 < 0 then 0 else if ahead+g - 3 > 44 then 44 else ahead+g - 3)
theorem gt1_ok {l : List Int} {code rg at_ ahead : Int} {intra : Bool} (hb : Bytes l) (hl : l.length≤9000) (h : DOk code rg at_) :
    DOk (gt1 l code rg at_ ahead intra).1 (gt1 l code rg at_ ahead intra).2.1 (gt1 l code rg at_ ahead intra).2.2.1∧0≤(gt1 l code rg at_ ahead intra).2.2.2∧(gt1 l code rg at_ ahead intra).2.2.2≤44:=by
  unfold gt1
  cases intra with
  | true =>
    rw [if_pos rfl]
    have:=tn_ok (n:=45) hb hl h (by decide) (by decide)
    exact ⟨this.1,this.2.1,by omega⟩
  | false =>
    rw [if_neg (by simp)]
    have hf:=gt_fair (code:=code) h.1 h.2.2.1 (show (1 : Int)≤8 by decide) (by decide)
    have ht:=tk_ok (at_:=at_) hb hl h hf
    dsimp only
    split
    · have:=tn_ok (n:=45) hb hl ht (by decide) (by decide)
      exact ⟨this.1,this.2.1,by omega⟩
    · refine ⟨ht, ?_, ?_⟩
      · dsimp only;split
        · decide
        · split <;> omega
      · dsimp only;split
        · decide
        · split <;> omega
theorem take1_ok {code0 rg0 at0 code rg at_ ahead : Int} {l0 l : List Int} {intra : Bool} (hg : coder_good.f code0 rg0 l0 at0=some (code,rg,l,at_)) (h : DOk code rg at_) (hb : Bytes l) (hl : l.length≤9000) (a0 : 0≤ahead) (a1 : ahead≤44) (k : Nat) (hk : 10≤k) :
    gain_take.f k code0 rg0 l0 at0 ahead intra=some ((gt1 l code rg at_ ahead intra).1,(gt1 l code rg at_ ahead intra).2.1,l,(gt1 l code rg at_ ahead intra).2.2.1,(gt1 l code rg at_ ahead intra).2.2.2):=by
  have tw : ∀ {c r t : Int},DOk c r t→wrap64 (tn l c r t 45).2.2.2=(tn l c r t 45).2.2.2:=fun hd=>by
    have:=tn_ok (n:=45) hb hl hd (by decide) (by decide)
    exact i64w (by omega) (by omega)
  unfold gain_take.f gt1
  cases intra with
  | true =>
    rw [if_pos rfl,if_pos rfl,takeNum_ok hg h hb hl (by decide) (by decide) k (by omega),Option.bind_some]
    dsimp only
    rw [tw h]
  | false =>
    have hgt:=gt_bound (code:=code) h.1 h.2.2.1 (show (1 : Int)≤8 by decide) (by decide)
    have hf:=gt_fair (code:=code) h.1 h.2.2.1 (show (1 : Int)≤8 by decide) (by decide)
    have ht:=tk_ok (at_:=at_) hb hl h hf
    rw [if_neg (by simp),if_neg (by simp),get_ok hg h (by decide) (by decide),Option.bind_some]
    dsimp only
    rw [i64w (x:=gt code rg 8+1) (by omega) (by omega),take_ok hg h hb hl hf k (by omega),Option.bind_some]
    dsimp only
    by_cases h7 : gt code rg 8=7
    · rw [if_pos h7,if_pos h7,takeNum_ok (good_ok ht) ht hb hl (by decide) (by decide) k (by omega),Option.bind_some]
      dsimp only
      rw [tw ht]
    · rw [if_neg h7,if_neg h7,i64w (x:=ahead+gt code rg 8) (by omega) (by omega),i64w (x:=ahead+gt code rg 8 - 3) (by omega) (by omega)]
      dsimp only
      congr 5
      unfold mx mn
      split <;> split <;> first|omega|(split <;> omega)
def gts (l a : List Int) (intra : Bool) : Nat→Int→Int→Int→Int→List Int→Int × Int × Int × List Int
  | 0,_,c,r,t,acc=>(c,r,t,acc)
  | d+1,i,c,r,t,acc=>gts l a intra d (i+1) (gt1 l c r t (rd a i) intra).1 (gt1 l c r t (rd a i) intra).2.1 (gt1 l c r t (rd a i) intra).2.2.1 (acc ++ [(gt1 l c r t (rd a i) intra).2.2.2])
theorem takes_l0 {a : List Int} {intra : Bool} (ha : intra=true∨rt a=true) : ∀ (d : Nat) (i code0 rg0 at0 code rg at_ : Int) (l0 l acc : List Int) (k : Nat),coder_good.f code0 rg0 l0 at0=some (code,rg,l,at_)→DOk code rg at_→Bytes l→l.length≤9000 →
    (d=0→code0=code∧rg0=rg∧l0=l∧at0=at_)→0≤i→i+d=5→acc.length+d≤5→20+d < k →
    gain_Take.l0 k a intra acc i code0 rg0 l0 at0=some ((gts l a intra d i code rg at_ acc).1,(gts l a intra d i code rg at_ acc).2.1,l,(gts l a intra d i code rg at_ acc).2.2.1,(gts l a intra d i code rg at_ acc).2.2.2,0)
  | 0,i,code0,rg0,at0,code,rg,at_,l0,l,acc,k,hg,h,hb,hl,h0,hi,hd,hc,hk=>by
    obtain ⟨k,rfl⟩ : ∃ m,k=m+1:=⟨k - 1,by omega⟩
    obtain ⟨rfl,rfl,rfl,rfl⟩:=h0 rfl
    simp only [gain_Take.l0]
    rw [if_neg (by omega)]
    rfl
  | d+1,i,code0,rg0,at0,code,rg,at_,l0,l,acc,k,hg,h,hb,hl,h0,hi,hd,hc,hk=>by
    obtain ⟨k,rfl⟩ : ∃ m,k=m+1:=⟨k - 1,by omega⟩
    have h1:=gt1_ok (ahead:=rd a i) (intra:=intra) hb hl h
    have ih:=takes_l0 ha d (i+1) _ _ _ _ _ _ _ _ (acc ++ [(gt1 l code rg at_ (rd a i) intra).2.2.2]) k (good_ok (l:=l) h1.1) h1.1 hb hl (fun _=>⟨rfl,rfl,rfl,rfl⟩) (by omega) (by omega) (by simp;omega) (by omega)
    simp only [gain_Take.l0,gts]
    rw [if_pos (by omega)]
    cases intra with
    | true =>
      rw [if_pos rfl,take1_ok hg h hb hl (by decide) (by decide) k (by omega),Option.bind_some]
      dsimp only
      rw [if_pos (by omega),i64w (x:=i+1) (by omega) (by omega)]
      exact ih
    | false =>
      have hr : rt a=true:=ha.resolve_left (by simp)
      have h5:=rt_len hr
      have ar:=rt_rd hr i
      rw [if_neg (by simp),if_pos hi,if_pos (by omega),take1_ok hg h hb hl ar.1 ar.2 k (by omega),Option.bind_some]
      dsimp only
      rw [if_pos (by omega),i64w (x:=i+1) (by omega) (by omega)]
      exact ih
theorem takes_ok {a : List Int} {intra : Bool} (hla : a.length≤100) {code0 rg0 at0 code rg at_ : Int} {l0 l : List Int} (hg : coder_good.f code0 rg0 l0 at0=some (code,rg,l,at_)) (h : DOk code rg at_) (hb : Bytes l) (hl : l.length≤9000) (k : Nat) (hk : 200≤k) :
    gain_Take.f k code0 rg0 l0 at0 a intra=if intra=true∨rt a=true then some ((gts l a intra 5 0 code rg at_ []).1,(gts l a intra 5 0 code rg at_ []).2.1,l,(gts l a intra 5 0 code rg at_ []).2.2.1,(gts l a intra 5 0 code rg at_ []).2.2.2,0) else some ((tk l code rg at_ 0 1 1).1,(tk l code rg at_ 0 1 1).2.1,l,(tk l code rg at_ 0 1 1).2.2, [],1):=by
  obtain ⟨k,rfl⟩ : ∃ m,k=m+1:=⟨k - 1,by omega⟩
  have key : intra=true∨rt a=true→gain_Take.j0 (k+1) a intra false code0 rg0 l0 at0=some ((gts l a intra 5 0 code rg at_ []).1,(gts l a intra 5 0 code rg at_ []).2.1,l,(gts l a intra 5 0 code rg at_ []).2.2.1,(gts l a intra 5 0 code rg at_ []).2.2.2,0):=fun ha=>by
    simp only [gain_Take.j0]
    rw [if_neg (by simp)]
    exact takes_l0 ha 5 0 _ _ _ _ _ _ _ _ [] k hg h hb hl (by simp) (by omega) (by omega) (by simp) (by omega)
  unfold gain_Take.f
  cases intra with
  | true=>rw [if_pos rfl,if_pos (.inl rfl)];exact key (.inl rfl)
  | false =>
    rw [if_neg (by simp),right_ok a (by omega) _ (by omega),Option.bind_some]
    cases hr : rt a with
    | true=>rw [if_pos (.inr rfl)];exact key (.inr hr)
    | false =>
      rw [if_neg (by simp)]
      simp only [gain_Take.j0,Bool.not_false, ↓reduceIte]
      rw [take_ok hg h hb hl ⟨by decide,by decide,by decide,by decide⟩ k (by omega),Option.bind_some]
end Go.Proofs.Ytifkhfnmbiefaaa.Gan
/- Gains put: what the program and the document put, step by step. -/
namespace Go.Proofs.Ytifkhfnmbiefaaa.Gan
open Go.RowKit Go.Proofs.YtifkhfnmbiefaaaW.PrintWords Go.Proofs.YtifkhfnmbiefaaaW.PrintMore Go.Proofs.Ytifkhfnmbiefaaa.Prt Go.Proofs.Ytifkhfnmbiefaaa.Val Go.Proofs.Ytifkhfnmbiefaaa.Cod
set_option linter.unusedVariables false
end Go.Proofs.Ytifkhfnmbiefaaa.Gan
/- What is written: the program's bytes are the document's. -/
namespace Go.Proofs.Ytifkhfnmbiefaaa.Pak
open Go Go.RowKit Go.Proofs.YtifkhfnmbiefaaaW.PrintWords Go.Proofs.Ytifkhfnmbiefaaa.Prt Go.Proofs.Ytifkhfnmbiefaaa.Alo
set_option linter.unusedVariables false
set_option linter.unusedSimpArgs false
open Go.Proofs.Ytifkhfnmbiefaaa.Cod (EOk)
open Go.Proofs.Ytifkhfnmbiefaaa.Val (Bytes four)
variable {V K : Nat→Nat→Int}
def gainsB (b : Int) (A : List (List Int)) : Bool:=decide ((A.length : Int)=b) && A.all Gan.rt
theorem all_step {A : List (List Int)} {i : Nat} (h : i < A.length) : (A.drop i).all Gan.rt=(Gan.rt (rd_L2 A (i : Int)) && (A.drop (i+1)).all Gan.rt):=by
  have : rd_L2 A (i : Int)=A[i]:=by
    unfold rd_L2
    rw [List.getD_eq_getElem?_getD,Int.toNat_natCast,List.getElem?_eq_getElem h]
    rfl
  rw [List.drop_eq_getElem_cons h,List.all_cons,this]
theorem gains_l0 {A : List (List Int)} {b : Int} (hA : A.length≤100) (ha : ∀ g ∈ A,g.length≤100) : ∀ (d i q : Nat),i+d=A.length→200≤q →
    cpack_gains.l0 (q+d+1) b A A (A.length : Int) (i : Int)=some ((A.drop i).all Gan.rt && ((A.length : Int) == b))∧r12_Fair.l0 (q+d+1) A (i : Int)=some ((A.drop i).all Gan.rt)
  | 0,i,q,h,hq=>by
    rw [cpack_gains.l0,if_neg (by omega),r12_Fair.l0,if_neg (by omega),List.drop_eq_nil_of_le (by omega)]
    exact ⟨rfl,rfl⟩
  | d+1,i,q,h,hq=>by
    have hm:=ha _ (rdl_mem (show i < A.length by omega))
    obtain ⟨e1,e2⟩:=gains_l0 (b:=b) hA ha d (i+1) q (by omega) hq
    constructor
    · rw [show q+(d+1)+1=(q+d+1)+1 by omega,cpack_gains.l0,if_pos (by omega),if_pos (by omega),if_pos (by omega),Gan.right_ok _ (by omega) _ (by omega),Option.bind_some,all_step (by omega),w64 (x:=(i : Int)+1) (by omega) (by omega),show (i : Int)+1=((i+1 : Nat) : Int) by omega]
      cases hr : Gan.rt (rd_L2 A (i : Int)) with
      | false=>rw [if_neg (by simp)];rfl
      | true=>rw [if_pos rfl,Bool.true_and];exact e1
    · rw [show q+(d+1)+1=(q+d+1)+1 by omega,r12_Fair.l0,if_pos (by omega),if_pos (by omega),Gan.refRight_ok _ (by omega) _ (by omega),Option.bind_some,all_step (by omega),w64 (x:=(i : Int)+1) (by omega) (by omega),show (i : Int)+1=((i+1 : Nat) : Int) by omega]
      cases hr : Gan.rt (rd_L2 A (i : Int)) with
      | false=>rw [if_neg (by simp)];rfl
      | true=>rw [if_pos rfl,Bool.true_and];exact e2
theorem gains_f {A : List (List Int)} (b : Int) (hA : A.length≤100) (ha : ∀ g ∈ A,g.length≤100) {q : Nat} (hq : 400≤q) : cpack_gains.f q b A=some (gainsB b A)∧r12_Fair.f q b A=some (gainsB b A):=by
  obtain ⟨r,rfl⟩ : ∃ r,q=r+A.length+1:=⟨q - A.length - 1,by omega⟩
  obtain ⟨e1,e2⟩:=gains_l0 (b:=b) hA ha A.length 0 r (by omega) (by omega)
  unfold cpack_gains.f r12_Fair.f gainsB
  rw [show (0 : Int)=((0 : Nat) : Int) from rfl,e1,e2,List.drop_zero]
  by_cases hl : (A.length : Int)=b
  · rw [if_pos hl,decide_eq_true hl,Bool.true_and,hl,beq_self_eq_true,Bool.and_true];exact ⟨rfl,rfl⟩
  · rw [if_neg hl,decide_eq_false hl,Bool.false_and,beq_eq_false_iff_ne.mpr hl,Bool.and_false];exact ⟨rfl,rfl⟩
def ofL (A : List (List Int)) (i : Int) : List Int:=if i < (A.length : Int) then rd_L2 A i else []
theorem of_len {A : List (List Int)} (ha : ∀ g ∈ A,g.length≤60) (i : Nat) : (ofL A (i : Int)).length≤60:=by
  unfold ofL
  split
  · exact ha _ (rdl_mem (by omega))
  · simp
def fin (n : Nat) (all : List Int) : List Int:=(List.range n).map fun (j : Nat)=>rd all (j : Int)
theorem fin_len (n : Nat) (all : List Int) : (fin n all).length=n:=by simp [fin]
theorem fin_p (n : Nat) (all : List Int) : all.take n ++ (List.replicate n 0).drop all.length=fin n all:=by
  refine List.ext_getElem? fun j => ?_
  unfold fin
  rw [List.getElem?_map]
  rcases Nat.lt_or_ge j n with hj|hj
  · rcases Nat.lt_or_ge j all.length with ha|ha
    · rw [List.getElem?_append_left (by simp;omega),List.getElem?_take,if_pos hj,List.getElem?_range hj]
      simp [Com.rd_at ha,ha]
    · rw [List.getElem?_append_right (by simp;omega),List.getElem?_drop,List.length_take,List.getElem?_replicate,if_pos (by omega),List.getElem?_range hj]
      simp [Cod.rd_out all (j : Int) (by omega)]
  · rw [List.getElem?_eq_none (by simp;omega),List.getElem?_eq_none (by simp;omega)]
    rfl
theorem new_p : coder_New.f=some (0,4294967295, []):=by rfl
end Go.Proofs.Ytifkhfnmbiefaaa.Pak
/- Frames encoded: the pack that the program and the document make of a frame. -/
namespace Go.Proofs.Ytifkhfnmbiefaaa.Ton
open Go Go.RowKit Go.Proofs.YtifkhfnmbiefaaaW.PrintWords Go.Proofs.YtifkhfnmbiefaaaW.PrintMore Go.Proofs.Ytifkhfnmbiefaaa.Prt Go.Proofs.Ytifkhfnmbiefaaa.Com Go.Proofs.Ytifkhfnmbiefaaa.Pvq Go.Proofs.Ytifkhfnmbiefaaa.PvqN
set_option linter.unusedVariables false
set_option linter.unusedSimpArgs false
open Go.Proofs.Ytifkhfnmbiefaaa.Alo (W)
theorem rd2_at {l : List (List Int)} {i : Nat} (h : i < l.length) : rd_L2 l (i : Int)=l[i]:=by
  unfold rd_L2
  rw [List.getD_eq_getElem?_getD,Int.toNat_natCast,List.getElem?_eq_getElem h]
  rfl
theorem rd4_at {l : List (List (List Int))} {i : Nat} (h : i < l.length) : rd_L4 l (i : Int)=l[i]:=by
  unfold rd_L4
  rw [List.getD_eq_getElem?_getD,Int.toNat_natCast,List.getElem?_eq_getElem h]
  rfl
def Gs (l : List (List Int)) (n : Nat) : List (List Int):=(List.range n).map fun i : Nat=>gns (rd_L1 l (i : Int)) 5
theorem Gs_succ (l : List (List Int)) (n : Nat) : Gs l (n+1)=Gs l n ++ [gns (rd_L1 l (n : Int)) 5]:=by simp [Gs,List.range_succ]
theorem Gs_len (l : List (List Int)) (n : Nat) : (Gs l n).length=n:=by simp [Gs]
theorem Gs_rd (l : List (List Int)) {n i : Nat} (h : i < n) : rd_L2 (Gs l n) (i : Int)=gns (rd_L1 l (i : Int)) 5:=by
  rw [rd2_at (by rw [Gs_len];exact h)]
  simp [Gs]
def Pk (l out : List (List Int)) (i b : Nat) : List Int:=sg (Bd (rd_L1 l (i : Int)) b) (Ps (Bd (rd_L1 l (i : Int)) b) (rd (rd_L2 out (i : Int)) (b : Int)).toNat)
def Yr (l out : List (List Int)) (i n : Nat) : List (List Int):=(List.range n).map (Pk l out i)
theorem Yr_succ (l out : List (List Int)) (i n : Nat) : Yr l out i (n+1)=Yr l out i n ++ [Pk l out i n]:=by simp [Yr,List.range_succ]
theorem Yr_len (l out : List (List Int)) (i n : Nat) : (Yr l out i n).length=n:=by simp [Yr]
theorem Yr_rd (l out : List (List Int)) {i n b : Nat} (h : b < n) : rd_L2 (Yr l out i n) (b : Int)=Pk l out i b:=by
  rw [rd2_at (by rw [Yr_len];exact h)]
  simp [Yr]
def Ys (l out : List (List Int)) (n : Nat) : List (List (List Int)):=(List.range n).map fun i : Nat=>Yr l out i 5
theorem Ys_succ (l out : List (List Int)) (n : Nat) : Ys l out (n+1)=Ys l out n ++ [Yr l out n 5]:=by simp [Ys,List.range_succ]
theorem Ys_len (l out : List (List Int)) (n : Nat) : (Ys l out n).length=n:=by simp [Ys]
theorem Ys_rd (l out : List (List Int)) {n i : Nat} (h : i < n) : rd_L4 (Ys l out n) (i : Int)=Yr l out i 5:=by
  rw [rd4_at (by rw [Ys_len];exact h)]
  simp [Ys]
theorem Rt.f {a b : Int} {l : List (List Int)} (h : Rt a b l) {i : Nat} (hi : i < l.length) : F16 (rd_L1 l (i : Int)):=by
  rw [rd1_mem hi]
  exact h.2.2 _ (List.getElem_mem hi)
theorem Rt.n {a b : Int} {l : List (List Int)} (h : Rt a b l) : l.length≤2:=by
  have h1:=Alo.right_iff.1 h.1
  have h2:=h.2.1
  omega
theorem Gs_rt {a b : Int} {l : List (List Int)} (h : Rt a b l) : ∀ g ∈ Gs l l.length,Alo.rt g=true:=fun g hg=>by
  obtain ⟨i,hi,rfl⟩:=List.mem_map.1 hg
  exact gns_rt (h.f (List.mem_range.1 hi))
theorem Gs_five {a b : Int} {l : List (List Int)} (h : Rt a b l) : ∀ g ∈ Gs l l.length,g.length=5:=fun g hg=>by
  obtain ⟨i,hi,rfl⟩:=List.mem_map.1 hg
  exact gns_len _ _
structure Out (K : Nat→Nat→Int) (a b : Int) (l out : List (List Int)) : Prop where
  o : out.length=l.length
  c : ∀ j : Nat,j < l.length→Alo.Chan K (gns (rd_L1 l (j : Int)) 5) (Alo.room a b) Alo.Z5 (rd_L2 out (j : Int))
  p : ∀ q,7000≤q→alloc_Pulses.f q a b (Gs l l.length)=some (out,0)
  r : ∀ q,7000≤q→r12_Pulses.f q a b (Gs l l.length)=some out
  f : ∀ q,7000≤q→r12_Fair.f q b (Gs l l.length)=some true
theorem out_ex {K : Nat→Nat→Int} (C : Cst K) {a b : Int} {l : List (List Int)} (h : Rt a b l) : ∃ out,Out K a b l out:=by
  have hn:=h.n
  have hf:=(Pak.gains_f b (A:=Gs l l.length) (by rw [Gs_len];omega) (fun g hg=>by rw [Gs_five h g hg];omega) (q:=7000) (by omega)).2
  have hB : Pak.gainsB b (Gs l l.length)=true:=by
    unfold Pak.gainsB
    rw [Gs_len,decide_eq_true h.2.1,Bool.true_and]
    exact List.all_eq_true.2 (Gs_rt h)
  rw [hB] at hf
  rcases Alo.pulses C a b (l2:=Gs l l.length) (by rw [Gs_len];omega) (fun g hg=>by rw [Gs_five h g hg];omega) with ⟨_,_,out,ho,hc,p1,p2,p3⟩ | ⟨_,p|p⟩
  · rw [Gs_len] at ho hc
    exact ⟨out,ho,fun j hj=>by have:=hc j hj;rw [Gs_rd l hj] at this;exact this,p1,p2,p3⟩
  · rw [h.1] at p;cases p
  · rw [p 7000 (Nat.le_refl _)] at hf;cases hf
theorem Out.k {K : Nat→Nat→Int} {a b : Int} {l out : List (List Int)} (o : Out K a b l out) {i b' : Nat} (hi : i < l.length) (hb : b' < 5) : 0≤rd (rd_L2 out (i : Int)) (b' : Int)∧rd (rd_L2 out (i : Int)) (b' : Int)≤12:=by
  have h:=(o.c i hi).ks.2 b' hb
  have:=Alo.mst_in b'
  omega
theorem enc_l2 {K : Nat→Nat→Int} {a b : Int} {l out : List (List Int)} (h : Rt a b l) (o : Out K a b l out) {i : Nat} (hi : i < l.length) (I : Bool) (G : List (List Int)) {res : Bool × List (List Int) × List (List (List Int)) × Int}
    (hr : Ev (fun k=>ccodec_Encode.l1 k out l (l.length : Int) ((i+1 : Nat) : Int) I G (Ys l out (i+1))) res) :
    ∀ (d n : Nat),n+d=5→Ev (fun k=>ccodec_Encode.l2 k out (i : Int) (Yr l out i n) l (l.length : Int) (i : Int) (bds (rd_L1 l (i : Int)) 5) 5 (n : Int) I G (Ys l out i)) res
  | 0,n,e=>by
    obtain rfl : n=5:=by omega
    have hn:=h.n
    refine Ev.step (fun k => ?_) hr
    rw [ccodec_Encode.l2,if_neg (by omega),if_pos (by rw [Ys_len];omega),w_succ hi (by omega),Ys_succ]
  | d+1,n,e=>by
    have hn:=h.n
    have hb : n < 5:=by omega
    have hk:=o.k hi hb
    have hx:=h.f hi
    have hl:=(o.c i hi).ks.1
    have hs:=search_ok (Bd_fr hx hb) (K:=(rd (rd_L2 out (i : Int)) (n : Int)).toNat) (by omega)
    rw [Int.toNat_of_nonneg hk.1] at hs
    have ho:=o.o
    refine Ev.step (f:=fun k=>(pvq_Search.f k (Bd (rd_L1 l (i : Int)) n) (rd (rd_L2 out (i : Int)) (n : Int))).bind fun bt=>if (Yr l out i n).length < 5864062014805 then ccodec_Encode.l2 k out (i : Int) (Yr l out i n ++ [bt.1]) l (l.length : Int) (i : Int) (bds (rd_L1 l (i : Int)) 5) 5 (wrap64 ((n : Int)+1)) I G (Ys l out i) else none) (fun k => ?_) (Ev.bind hs (Ev.congr (fun k => ?_) (enc_l2 h o hi I G hr d (n+1) (by omega))))
    · rw [ccodec_Encode.l2,if_pos (by omega),if_pos (by omega),if_pos (by rw [bds_len];omega),if_pos (by omega),if_pos (by omega),if_pos (by omega),bds_rd _ hb]
    · rw [if_pos (by rw [Yr_len];omega),Yr_succ,w_succ (n:=5) hb (by omega)]
      rfl
theorem enc_l1 {K : Nat→Nat→Int} {a b : Int} {l out : List (List Int)} (h : Rt a b l) (o : Out K a b l out) (I : Bool) (G : List (List Int)) : ∀ (d i : Nat),i+d=l.length→Ev (fun k=>ccodec_Encode.l1 k out l (l.length : Int) (i : Int) I G (Ys l out i)) (I,G,Ys l out l.length,0)
  | 0,i,e=>by
    obtain rfl : i=l.length:=by omega
    exact Ev.step (fun k=>by rw [ccodec_Encode.l1,if_neg (by omega)]) (Ev.now _)
  | d+1,i,e=>by
    have hi : i < l.length:=by omega
    refine Ev.step (f:=fun k=>(band_Split.f k (rd_L1 l (i : Int))).bind fun bt=>ccodec_Encode.l2 k out (i : Int) [] l (l.length : Int) (i : Int) bt.1 (bt.1.length : Int) 0 I G (Ys l out i)) (fun k => ?_) (Ev.bind (split_ok (h.f hi)) (Ev.congr (fun k => ?_) (enc_l2 h o hi I G (enc_l1 h o I G d (i+1) (by omega)) 5 0 (by omega))))
    · rw [ccodec_Encode.l1,if_pos (by omega),if_pos (by omega),if_pos (by omega)]
    · rw [bds_len]
      rfl
theorem enc_l0 {K : Nat→Nat→Int} {a b : Int} {l out : List (List Int)} (h : Rt a b l) (o : Out K a b l out) (I : Bool) : ∀ (d i : Nat),i+d=l.length→Ev (fun k=>ccodec_Encode.l0 k a b l (l.length : Int) (i : Int) l I (Gs l i)) (I,Gs l l.length,Ys l out l.length,0)
  | 0,i,e=>by
    obtain rfl : i=l.length:=by omega
    refine Ev.step (f:=fun k=>(alloc_Pulses.f k a b (Gs l l.length)).bind fun bt=>ccodec_Encode.l1 k bt.1 l (l.length : Int) 0 I (Gs l l.length) []) (fun k=>by rw [ccodec_Encode.l0,if_neg (by omega)]) (Ev.bind ⟨7000,o.p⟩ ?_)
    exact enc_l1 h o I _ l.length 0 (by omega)
  | d+1,i,e=>by
    have hi : i < l.length:=by omega
    have hn:=h.n
    refine Ev.step (f:=fun k=>(band_Gains.f k (rd_L1 l (i : Int))).bind fun bt=>if (Gs l i).length < 5864062014805 then ccodec_Encode.l0 k a b l (l.length : Int) (wrap64 ((i : Int)+1)) l I (Gs l i ++ [bt.1]) else none) (fun k => ?_) (Ev.bind (gains_ok (h.f hi)) (Ev.congr (fun k => ?_) (enc_l0 h o I d (i+1) (by omega))))
    · rw [ccodec_Encode.l0,if_pos (by omega),if_pos (by omega),if_pos (by omega)]
    · rw [if_pos (by rw [Gs_len];omega),Gs_succ,w_succ hi (by omega)]
theorem enc_ok {K : Nat→Nat→Int} {a b : Int} {l out : List (List Int)} (h : Rt a b l) (o : Out K a b l out) (I : Bool) : Ev (fun k=>ccodec_Encode.f k a b l I) (I,Gs l l.length,Ys l out l.length,0):=by
  have hn:=h.n
  have hr:=right_e a b (l:=l) (by omega) (fun x hx=>by have:=(h.2.2 x hx).1;omega)
  rw [decide_eq_true h] at hr
  refine Ev.bind hr (Ev.congr (fun k=>by rw [if_pos rfl]) ?_)
  exact enc_l0 h o I l.length 0 (by omega)
theorem enc_bad {a b : Int} {l : List (List Int)} (hl : l.length≤10) (hx : ∀ x ∈ l,x.length≤100) (h : ¬ Rt a b l) (I : Bool) : Ev (fun k=>ccodec_Encode.f k a b l I) (false, [], [],1):=by
  have hr:=right_e a b hl hx
  rw [decide_eq_false h] at hr
  exact Ev.bind hr (Ev.congr (fun k=>by rw [if_neg (by decide)]) (Ev.now _))
theorem great_l0 {l : List (List Int)} (hl : l.length≤9223372036854775807) : ∀ (d i : Nat),i+d=l.length→∃ v,Ev (fun k=>w23_great.l0 k (i : Int) l) v∧(v=false→l.length≤10∧∀ x ∈ l.drop i,x.length≤100)
  | 0,i,e=>by
    refine ⟨decide ((l.length : Int) > 10),Ev.step (fun k=>by rw [w23_great.l0,if_neg (by omega)]) (Ev.now _),fun h => ?_⟩
    have:=of_decide_eq_false h
    rw [dropE (by omega)]
    exact ⟨by omega,by simp⟩
  | d+1,i,e=>by
    have hi : i < l.length:=by omega
    obtain ⟨v,h1,h2⟩:=great_l0 hl d (i+1) (by omega)
    by_cases hx : ((l[i]).length : Int) > 100
    · exact ⟨true,Ev.step (fun k=>by rw [w23_great.l0,if_pos (by omega),if_pos (by omega),rd1_mem hi,if_pos hx]) (Ev.now _),fun h=>by cases h⟩
    · refine ⟨v,Ev.step (fun k => ?_) h1,fun h => ?_⟩
      · rw [w23_great.l0,if_pos (by omega),if_pos (by omega),rd1_mem hi,if_neg hx,w64 (by omega) (by omega)]
        rfl
      · obtain ⟨h3,h4⟩:=h2 h
        rw [dropA hi]
        exact ⟨h3,List.forall_mem_cons.2 ⟨by omega,h4⟩⟩
theorem great_f {l : List (List Int)} (hl : l.length≤9223372036854775807) : ∃ v,Ev (fun k=>w23_great.f k l) v∧(v=false→l.length≤10∧∀ x ∈ l,x.length≤100):=by
  obtain ⟨v,h1,h2⟩:=great_l0 hl l.length 0 (by omega)
  exact ⟨v,h1,h2⟩
theorem same12_l0 {l : List (List Int)} (hl : l.length≤1000) (h : ∀ x ∈ l,x.length≤1000) : ∀ (d i : Nat),i+d=l.length→Ev (fun k=>r12_Same.l0 k l l (i : Int)) true
  | 0,i,e=>Ev.step (fun k=>by rw [r12_Same.l0,if_neg (by omega)]) (Ev.now _)
  | d+1,i,e=>by
    have hi : i < l.length:=by omega
    refine Ev.step (f:=fun k=>(r06_Same.f k l[i] l[i]).bind fun t=>if t=true then r12_Same.l0 k l l (wrap64 ((i : Int)+1)) else some false) (fun k=>by rw [r12_Same.l0,if_pos (by omega),if_pos (by omega),if_pos (by omega),rd2_at hi]) (Ev.bind (same6_f (h _ (List.getElem_mem hi))) (Ev.congr (fun k => ?_) (same12_l0 hl h d (i+1) (by omega))))
    rw [if_pos rfl,w_succ hi (by omega)]
theorem same12_f {l : List (List Int)} (hl : l.length≤1000) (h : ∀ x ∈ l,x.length≤1000) : Ev (fun k=>r12_Same.f k l l) true:=Ev.congr (fun k=>by rw [r12_Same.f,if_pos rfl];rfl) (same12_l0 hl h l.length 0 (by omega))
theorem same13_l0 {I : Bool} {G : List (List Int)} {Y : List (List (List Int))} (hl : Y.length≤1000) (h : ∀ r ∈ Y,r.length≤1000∧∀ x ∈ r,x.length≤1000) : ∀ (d i : Nat),i+d=Y.length→Ev (fun k=>r13_Same.l0 k (i : Int) I G Y I G Y) true
  | 0,i,e=>Ev.step (fun k=>by rw [r13_Same.l0,if_neg (by omega)]) (Ev.now _)
  | d+1,i,e=>by
    have hi : i < Y.length:=by omega
    have hm:=h _ (List.getElem_mem hi)
    refine Ev.step (f:=fun k=>(r12_Same.f k Y[i] Y[i]).bind fun t=>if t=true then r13_Same.l0 k (wrap64 ((i : Int)+1)) I G Y I G Y else some false) (fun k=>by rw [r13_Same.l0,if_pos (by omega),if_pos (by omega),if_pos (by omega),rd4_at hi]) (Ev.bind (same12_f hm.1 hm.2) (Ev.congr (fun k => ?_) (same13_l0 (I:=I) (G:=G) hl h d (i+1) (by omega))))
    rw [if_pos rfl,w_succ hi (by omega)]
theorem same13_f {I : Bool} {G : List (List Int)} {Y : List (List (List Int))} (hG : G.length≤1000) (hg : ∀ x ∈ G,x.length≤1000) (hl : Y.length≤1000) (h : ∀ r ∈ Y,r.length≤1000∧∀ x ∈ r,x.length≤1000) : Ev (fun k=>r13_Same.f k I G Y I G Y) true:=by
  refine Ev.congr (fun k=>by rw [r13_Same.f,if_neg (by simp),show ((Y.length : Int) != (Y.length : Int))=false by simp]) (Ev.bind (same12_f hG hg) (Ev.congr (fun k=>by rw [if_pos rfl]) (Ev.step (fun k=>by rw [r13_Same.j0,if_neg (by decide)]) ?_)))
  exact same13_l0 hl h Y.length 0 (by omega)
theorem knows_e : Ev (fun k=>w23_knows.f k) true:=Ev.of w23_knows.mono (k:=700) (by decide +kernel)
theorem knows_j : Ev (fun k=>(w23_knows.f k).bind fun t=>some t) true:=Ev.bind knows_e (Ev.now _)
theorem Ys_sz (l out : List (List Int)) {n : Nat} (hn : n≤l.length) (h : ∀ x ∈ l,F16 x) : ∀ r ∈ Ys l out n,r.length=5∧∀ x ∈ r,1≤x.length∧x.length≤8:=fun r hr=>by
  obtain ⟨i,hi,rfl⟩:=List.mem_map.1 hr
  have hi:=List.mem_range.1 hi
  refine ⟨Yr_len _ _ _ _,fun x hx => ?_⟩
  obtain ⟨b,hb,rfl⟩:=List.mem_map.1 hx
  have hb:=List.mem_range.1 hb
  have hf : F16 (rd_L1 l (i : Int)):=by rw [rd1_mem (by omega)];exact h _ (List.getElem_mem _)
  unfold Pk
  rw [sg_len (Ps_len (Bd_fr hf hb) _),Bd_len hf.1 hb]
  exact Alo.W_in hb
theorem same_enc {a b : Int} {l : List (List Int)} (h : Rt a b l) (out : List (List Int)) (I : Bool) : Ev (fun k=>r13_Same.f k I (Gs l l.length) (Ys l out l.length) I (Gs l l.length) (Ys l out l.length)) true:=by
  have hn:=h.n
  refine same13_f (by rw [Gs_len];omega) (fun x hx=>by rw [Gs_five h x hx];omega) (by rw [Ys_len];omega) (fun r hr => ?_)
  obtain ⟨e1,e2⟩:=Ys_sz l out (Nat.le_refl _) h.2.2 r hr
  exact ⟨by omega,fun x hx=>by have:=e2 x hx;omega⟩
end Go.Proofs.Ytifkhfnmbiefaaa.Ton
/- Packs decoded: the frame that the program and the document make of a pack. -/
namespace Go.Proofs.Ytifkhfnmbiefaaa.Ton
open Go Go.RowKit Go.Proofs.YtifkhfnmbiefaaaW.PrintWords Go.Proofs.YtifkhfnmbiefaaaW.PrintMore Go.Proofs.Ytifkhfnmbiefaaa.Prt Go.Proofs.Ytifkhfnmbiefaaa.Com Go.Proofs.Ytifkhfnmbiefaaa.Pvq Go.Proofs.Ytifkhfnmbiefaaa.PvqN
set_option linter.unusedVariables false
set_option linter.unusedSimpArgs false
open Go.Proofs.Ytifkhfnmbiefaaa.Alo (W)
theorem set_mid {y : List Int} {f : Int→Int} {i : Nat} (hi : i < y.length) : ((y.take i).map f ++ y.drop i).set i (f y[i])=(y.take (i+1)).map f ++ y.drop (i+1):=by
  have hl : ((y.take i).map f).length=i:=by rw [List.length_map,List.length_take];omega
  rw [List.set_append_right _ _ (by omega),hl,Nat.sub_self,dropA hi,List.set_cons_zero,List.take_succ_eq_append_getElem hi,List.map_append,List.append_assoc]
  rfl
end Go.Proofs.Ytifkhfnmbiefaaa.Ton
/- Packs decoded, channel by channel. -/
namespace Go.Proofs.Ytifkhfnmbiefaaa.Ton
open Go Go.RowKit Go.Proofs.YtifkhfnmbiefaaaW.PrintWords Go.Proofs.YtifkhfnmbiefaaaW.PrintMore Go.Proofs.Ytifkhfnmbiefaaa.Prt Go.Proofs.Ytifkhfnmbiefaaa.Com Go.Proofs.Ytifkhfnmbiefaaa.Pvq Go.Proofs.Ytifkhfnmbiefaaa.PvqN
set_option linter.unusedVariables false
set_option linter.unusedSimpArgs false
open Go.Proofs.Ytifkhfnmbiefaaa.Alo (W)
end Go.Proofs.Ytifkhfnmbiefaaa.Ton
/- What is encoded is a right pack; what is looked at of a pack. -/
namespace Go.Proofs.Ytifkhfnmbiefaaa.Ton
open Go Go.RowKit Go.Proofs.YtifkhfnmbiefaaaW.PrintWords Go.Proofs.YtifkhfnmbiefaaaW.PrintMore Go.Proofs.Ytifkhfnmbiefaaa.Prt Go.Proofs.Ytifkhfnmbiefaaa.Com Go.Proofs.Ytifkhfnmbiefaaa.Pvq Go.Proofs.Ytifkhfnmbiefaaa.PvqN
set_option linter.unusedVariables false
set_option linter.unusedSimpArgs false
open Go.Proofs.Ytifkhfnmbiefaaa.Alo (W)
theorem szs_sg : ∀ {x y : List Int},y.length=x.length→(∀ v ∈ y,0≤v∧v≤12)→szs (sg x y)=sm y
  | [], [],_,_=>rfl
  | [],_ :: _,h,_=>by simp at h
  | _ :: _, [],h,_=>by simp at h
  | v :: x,p :: y,h,hy=>by
    have ih:=szs_sg (x:=x) (y:=y) (by simpa using h) (fun u hu=>hy u (List.mem_cons_of_mem _ hu))
    have hp:=hy p List.mem_cons_self
    have e : sz (if v < 0 then -p else p)=p:=by
      unfold sz;split <;> split <;> (try split) <;> omega
    simp only [sg,List.zipWith_cons_cons,szs,sm] at ih ⊢
    rw [ih,e]
theorem Pk_len {K : Nat→Nat→Int} {a b : Int} {l : List (List Int)} (h : Rt a b l) (out : List (List Int)) {i n : Nat} (hi : i < l.length) (hn : n < 5) : (Pk l out i n).length=W n:=by
  unfold Pk
  rw [sg_len (Ps_len (Bd_fr (h.f hi) hn) _),Bd_len (h.f hi).1 hn]
theorem Pk_szs {K : Nat→Nat→Int} {a b : Int} {l out : List (List Int)} (h : Rt a b l) (o : Out K a b l out) {i n : Nat} (hi : i < l.length) (hn : n < 5) : szs (Pk l out i n)=rd (rd_L2 out (i : Int)) (n : Int):=by
  have hk:=o.k hi hn
  have hf:=Bd_fr (h.f hi) hn
  unfold Pk
  rw [szs_sg (Ps_len hf _) (Ps_in hf (by omega)),(Ps_gd hf _).sum]
  omega
theorem okV_enc {K : Nat→Nat→Int} {a b : Int} {l out : List (List Int)} (h : Rt a b l) (o : Out K a b l out) {i n : Nat} (hi : i < l.length) (hn : n < 5) : Pak.okV (Pk l out i n) (W n : Int) (rd (rd_L2 out (i : Int)) (n : Int))=true:=by
  unfold Pak.okV
  exact decide_eq_true ⟨by rw [Pk_len (K:=K) h out hi hn],Pk_szs h o hi hn⟩
theorem okR_enc {K : Nat→Nat→Int} {a b : Int} {l out : List (List Int)} (h : Rt a b l) (o : Out K a b l out) {i : Nat} (hi : i < l.length) : ∀ (d n : Nat),n+d=5→Pak.okR (Yr l out i 5) (rd_L2 out (i : Int)) d n=true
  | 0,n,e=>rfl
  | d+1,n,e=>by
    unfold Pak.okR
    rw [Yr_rd l out (by omega),okV_enc h o hi (by omega),okR_enc h o hi d (n+1) (by omega)]
    rfl
theorem okA_enc {K : Nat→Nat→Int} {a b : Int} {l out : List (List Int)} (h : Rt a b l) (o : Out K a b l out) : ∀ (d i : Nat),i+d=l.length→Pak.okA (Ys l out l.length) out d i=true
  | 0,i,e=>rfl
  | d+1,i,e=>by
    unfold Pak.okA
    rw [Ys_rd l out (by omega),Yr_len,okR_enc h o (by omega) 5 0 (by omega),okA_enc h o d (i+1) (by omega)]
    rfl
theorem sized_enc {a b : Int} {l : List (List Int)} (h : Rt a b l) (out : List (List Int)) : Pak.Sized (Ys l out l.length):=by
  have hn:=h.n
  refine ⟨by rw [Ys_len];omega,fun i hi => ?_⟩
  rw [Ys_len] at hi
  rw [Ys_rd l out hi]
  obtain ⟨e1,e2⟩:=Ys_sz l out (Nat.le_refl _) h.2.2 _ (List.mem_map.2 ⟨i,List.mem_range.2 hi,rfl⟩)
  exact ⟨by omega,fun y hy=>by have:=e2 y hy;omega⟩
theorem good_enc {K : Nat→Nat→Int} {a b : Int} {l out : List (List Int)} (h : Rt a b l) (o : Out K a b l out) : Pak.Good K a b (Gs l l.length) (Ys l out l.length) out where
  ab:=h.1
  g:=by rw [Gs_len];exact h.2.1
  y:=by rw [Ys_len];exact h.2.1
  o:=by rw [Gs_len];exact o.o
  c:=fun j hj=>by rw [Gs_len] at hj;rw [Gs_rd l hj];exact o.c j hj
  p:=o.p
  r:=o.r
  f:=o.f
  all:=by rw [Ys_len];exact okA_enc h o l.length 0 (by omega)
theorem right_enc {K : Nat→Nat→Int} {V : Nat→Nat→Int} (C : Cst K) (D : Cnt V) {a b : Int} {l out : List (List Int)} (h : Rt a b l) (o : Out K a b l out) (I : Bool) : ∀ q,7010≤q→cpack_Right.f q a b I (Gs l l.length) (Ys l out l.length)=some true:=by
  have hn:=h.n
  have g:=good_enc h o
  have S:=sized_enc h out
  intro q hq
  obtain ⟨r,rfl⟩ : ∃ r,q=r+1:=⟨q - 1,by omega⟩
  have e1:=Pak.l0_p D S (out:=out) (by rw [Ys_len];exact o.o) (fun i hi=>by rw [Ys_len] at hi;exact (o.c i hi).ks) (Ys l out l.length).length 0 r (by omega) (by rw [Ys_len];omega)
  rw [g.all] at e1
  unfold cpack_Right.f
  rw [o.p _ (by omega),Option.bind_some,if_pos rfl,cpack_Right.j0,if_neg (by simp [g.y])]
  exact e1
end Go.Proofs.Ytifkhfnmbiefaaa.Ton
/- What is read: the program's pack is the document's. -/
namespace Go.Proofs.Ytifkhfnmbiefaaa.Pak
open Go Go.RowKit Go.Proofs.YtifkhfnmbiefaaaW.PrintWords Go.Proofs.Ytifkhfnmbiefaaa.Prt Go.Proofs.Ytifkhfnmbiefaaa.Alo
set_option linter.unusedVariables false
set_option linter.unusedSimpArgs false
open Go.Proofs.Ytifkhfnmbiefaaa.Cod (DOk gt tk tn)
open Go.Proofs.Ytifkhfnmbiefaaa.Val (Bytes)
variable {V K : Nat→Nat→Int}
theorem ofL_rt {A : List (List Int)} {b : Int} {i : Nat} (h : gainsB b A=true) (hi : (i : Int) < b) : Gan.rt (ofL A (i : Int))=true:=by
  unfold gainsB at h
  rw [Bool.and_eq_true] at h
  obtain ⟨h1,h2⟩:=h
  have h1:=of_decide_eq_true h1
  unfold ofL
  rw [if_pos (by omega)]
  exact List.all_eq_true.1 h2 _ (rdl_mem (by omega))
theorem cnt_le : ∀ b : Fin 5, ∀ k : Fin 13,((comb_Count.f (W b.1 : Int) (k.1 : Int)).map fun p=>decide (p.1≤4294967296))=some true:=by decide +kernel
theorem V_le (D : Com.Cnt V) {n k : Nat} (hn : n < 5) (hk : k < 13) : V (W n) k≤4294967296:=by
  have hW:=W_in hn
  have h:=cnt_le ⟨n,hn⟩ ⟨k,hk⟩
  dsimp only at h
  rw [Com.count_ok D (by omega) (by omega) hk] at h
  simpa using h
theorem szs_zero : ∀ {y : List Int},Com.szs y=0→y=List.replicate y.length 0
  | [],_=>rfl
  | v :: l,h=>by
    have h1:=Com.sz_in v
    have h2:=Com.szs_in l
    simp only [Com.szs] at h
    have h3 : Com.sz v=0:=by omega
    have h4 : v=0:=by
      unfold Com.sz at h3
      by_cases hv : -12≤v∧v≤12
      · rw [if_pos hv] at h3;split at h3 <;> omega
      · rw [if_neg hv] at h3;omega
    rw [List.length_cons,List.replicate_succ, ← szs_zero (y:=l) (by omega),h4]
theorem rdl_app (acc : List (List Int)) (y : List Int) {m : Nat} (h : m < acc.length) : rd_L2 (acc ++ [y]) (m : Int)=rd_L2 acc (m : Int):=by
  unfold rd_L2
  rw [List.getD_eq_getElem?_getD,List.getD_eq_getElem?_getD,Int.toNat_natCast,List.getElem?_append_left h]
theorem rdl_last (acc : List (List Int)) (y : List Int) : rd_L2 (acc ++ [y]) (acc.length : Int)=y:=by
  unfold rd_L2
  rw [List.getD_eq_getElem?_getD,Int.toNat_natCast,List.getElem?_append_right (Nat.le_refl _)]
  simp
def Rw (row : List (List Int)) (ks : List Int) (n : Nat) : Prop:=row.length=n∧∀ m : Nat,m < n→okV (rd_L2 row (m : Int)) (W m : Int) (rd ks (m : Int))=true
theorem Rw.snoc {row : List (List Int)} {ks : List Int} {n : Nat} (h : Rw row ks n) {y : List Int} (hy : okV y (W n : Int) (rd ks (n : Int))=true) : Rw (row ++ [y]) ks (n+1):=by
  refine ⟨by simp [h.1],fun m hm => ?_⟩
  by_cases e : m=n
  · subst e
    have:=rdl_last row y
    rw [h.1] at this
    rw [this];exact hy
  · rw [rdl_app _ _ (by have:=h.1;omega)]
    exact h.2 m (by omega)
theorem Rw.okR {row : List (List Int)} {ks : List Int} (h : Rw row ks 5) : ∀ (d b : Nat),b+d=5→okR row ks d b=true
  | 0,b,_=>rfl
  | d+1,b,hb=>by rw [Pak.okR,Bool.and_eq_true];exact ⟨h.2 b (by omega),Rw.okR h d (b+1) (by omega)⟩
def Chs (Y : List (List (List Int))) (out : List (List Int)) (n : Nat) : Prop:=Y.length=n∧∀ j : Nat,j < n→Rw (rd_L4 Y (j : Int)) (rd_L2 out (j : Int)) 5
theorem Chs.snoc {Y : List (List (List Int))} {out : List (List Int)} {n : Nat} (h : Chs Y out n) {row : List (List Int)} (hr : Rw row (rd_L2 out (n : Int)) 5) : Chs (Y ++ [row]) out (n+1):=by
  refine ⟨by simp [h.1],fun j hj => ?_⟩
  have h1:=h.1
  by_cases e : j=n
  · subst e
    have : rd_L4 (Y ++ [row]) (j : Int)=row:=by
      unfold rd_L4
      rw [List.getD_eq_getElem?_getD,Int.toNat_natCast,List.getElem?_append_right (by omega)]
      simp [h1]
    rw [this];exact hr
  · have : rd_L4 (Y ++ [row]) (j : Int)=rd_L4 Y (j : Int):=by
      unfold rd_L4
      rw [List.getD_eq_getElem?_getD,List.getD_eq_getElem?_getD,Int.toNat_natCast,List.getElem?_append_left (by omega)]
    rw [this];exact h.2 j (by omega)
theorem Chs.okA {Y : List (List (List Int))} {out : List (List Int)} {n : Nat} (h : Chs Y out n) : ∀ (d i : Nat),i+d=n→okA Y out d i=true
  | 0,i,_=>rfl
  | d+1,i,hi=>by
    have hr:=h.2 i (by omega)
    rw [Pak.okA,Bool.and_eq_true,Bool.and_eq_true]
    exact ⟨decide_eq_true hr.1,hr.okR 5 0 rfl,Chs.okA h d (i+1) (by omega)⟩
theorem same12_l0 {l : List (List Int)} (h20 : l.length≤20) (hs : ∀ y ∈ l,y.length≤60) : ∀ (d i q : Nat),i+d=l.length→100+d≤q→r12_Same.l0 q l l (i : Int)=some true
  | 0,i,q,h,hq=>by
    obtain ⟨q,rfl⟩ : ∃ p,q=p+1:=⟨q - 1,by omega⟩
    rw [r12_Same.l0,if_neg (by omega)]
  | d+1,i,q,h,hq=>by
    obtain ⟨q,rfl⟩ : ∃ p,q=p+1:=⟨q - 1,by omega⟩
    have hm:=hs _ (rdl_mem (show i < l.length by omega))
    rw [r12_Same.l0,if_pos (by omega),if_pos (by omega),if_pos (by omega),Com.same_f (by omega) (by omega),Option.bind_some,if_pos rfl,w64 (by omega) (by omega),show (i : Int)+1=((i+1 : Nat) : Int) by omega]
    exact same12_l0 h20 hs d (i+1) q (by omega) (by omega)
theorem same12_f {l : List (List Int)} (h20 : l.length≤20) (hs : ∀ y ∈ l,y.length≤60) {q : Nat} (hq : 200≤q) : r12_Same.f q l l=some true:=by
  unfold r12_Same.f
  rw [if_pos rfl]
  exact same12_l0 h20 hs l.length 0 q (by omega) (by omega)
theorem same13_l0 {I : Bool} {G : List (List Int)} {Y : List (List (List Int))} (S : Sized Y) : ∀ (d i q : Nat),i+d=Y.length→300+d≤q→r13_Same.l0 q (i : Int) I G Y I G Y=some true
  | 0,i,q,h,hq=>by
    obtain ⟨q,rfl⟩ : ∃ p,q=p+1:=⟨q - 1,by omega⟩
    rw [r13_Same.l0,if_neg (by omega)]
  | d+1,i,q,h,hq=>by
    obtain ⟨q,rfl⟩ : ∃ p,q=p+1:=⟨q - 1,by omega⟩
    have hr:=S.r i (by omega)
    have hn:=S.n
    rw [r13_Same.l0,if_pos (by omega),if_pos (by omega),if_pos (by omega),same12_f (by omega) hr.2 (by omega),Option.bind_some,if_pos rfl,w64 (by omega) (by omega),show (i : Int)+1=((i+1 : Nat) : Int) by omega]
    exact same13_l0 S d (i+1) q (by omega) (by omega)
end Go.Proofs.Ytifkhfnmbiefaaa.Pak
/- Numbers that were put are taken: each is one choice, or two. -/
namespace Go.Proofs.Ytifkhfnmbiefaaa.Cod
open Go.RowKit Go.Proofs.YtifkhfnmbiefaaaW.PrintWords Go.Proofs.YtifkhfnmbiefaaaW.PrintMore Go.Proofs.Ytifkhfnmbiefaaa.Prt Go.Proofs.Ytifkhfnmbiefaaa.Val
set_option linter.unusedVariables false
def chs (v n : Int) : List (Int × Int × Int):=if n≤65536 then [(v,v+1,n)] else [(v / 65536,v / 65536+1,half1 n),(v % 65536,v % 65536+1,65536)]
theorem tn_run {F : List Int} {e e' : E3} {v n : Int} (he : e.ok) (hv : 0≤v) (h1 : v < n) (h2 : n≤4294967296) (hr : Run e (chs v n) e') (hb : Bytes F) (hF : F.length≤9000) (hx : Ext F e') :
    tn F (Cd F e) e.2.1 ((e.len+4 : Nat) : Int) n=(Cd F e',e'.2.1,((e'.len+4 : Nat) : Int),v):=by
  unfold chs at hr
  unfold tn
  by_cases hs : n≤65536
  · rw [if_pos hs] at hr
    rw [if_pos hs]
    cases hr with
    | cons s hr =>
      cases hr
      obtain ⟨g0,g1,g2⟩:=ext_back he s hb hx
      have hg:=gt_in he.2.2.1 he.2.2.2.1 s.fair g1 g2
      have e1 : gt (Cd F e) e.2.1 n=v:=by omega
      dsimp only
      rw [e1,tk_eq he s hb hx]
  · rw [if_neg hs] at hr
    rw [if_neg hs]
    cases hr with
    | cons s hr =>
      cases hr with
      | cons s2 hr =>
        cases hr
        obtain ⟨q0,q1,q2⟩:=ext_back s.ok s2 hb hx
        obtain ⟨g0,g1,g2⟩:=ext_back he s hb q0
        have hg:=gt_in he.2.2.1 he.2.2.2.1 s.fair g1 g2
        have hq:=gt_in s.ok.2.2.1 s.ok.2.2.2.1 s2.fair q1 q2
        have e1 : gt (Cd F e) e.2.1 (half1 n)=v / 65536:=by omega
        dsimp only
        rw [e1,tk_eq he s hb q0]
        dsimp only
        rw [show gt _ _ 65536=v % 65536 by omega,tk_eq s.ok s2 hb hx]
        dsimp only
        rw [show (if n - 1 < v / 65536 * 65536+v % 65536 then n - 1 else v / 65536 * 65536+v % 65536)=v by split <;> omega]
end Go.Proofs.Ytifkhfnmbiefaaa.Cod
/- How long a coder's bytes get: each choice costs its logarithm and a little more. -/
namespace Go.Proofs.Ytifkhfnmbiefaaa.Cod
open Go.RowKit Go.Proofs.YtifkhfnmbiefaaaW.PrintWords Go.Proofs.Ytifkhfnmbiefaaa.Prt Go.Proofs.Ytifkhfnmbiefaaa.Val
set_option linter.unusedVariables false
set_option linter.unusedSimpArgs false
def Cost (n S : Nat) (rg : Int) (len : Nat) : Prop:=256 ^ n * 4294967295 * pw len≤257 ^ n * 2 ^ S * rg
theorem cost_new : Cost 0 0 4294967295 0:=by unfold Cost;decide
theorem cost_part {rg lo hi tot : Int} (c : 16777216≤rg) (d : rg≤4294967295) (hf : Fair lo hi tot) : 256 * rg≤257 * tot * (prt rg lo hi tot).1:=by
  obtain ⟨e1,e2,e3,e4,e5,e6,e7⟩:=div_facts c d hf
  obtain ⟨f1,f2,f3,f4⟩:=hf
  have h1 : rg / tot≤(prt rg lo hi tot).1:=by
    unfold prt;dsimp only;split
    · have : rg / tot * hi=rg / tot * tot:=by rw [‹hi=tot›]
      omega
    · omega
  have h2 : rg < (rg / tot+1) * tot:=Int.lt_ediv_add_one_mul_self rg (by omega)
  generalize rg / tot=r at *
  generalize (prt rg lo hi tot).1=q at *
  have h3 : 256 * (r+1)≤257 * r:=by omega
  have h4 : 256 * (r+1) * tot≤257 * r * tot:=Int.mul_le_mul_of_nonneg_right h3 (by omega)
  have h5 : tot * r≤tot * q:=Int.mul_le_mul_of_nonneg_left h1 (by omega)
  have h6 : 256 * (r+1) * tot=256 * ((r+1) * tot):=Int.mul_assoc ..
  have h7 : 257 * r * tot=257 * (tot * r):=by rw [Int.mul_assoc,Int.mul_comm r tot]
  have h8 : 257 * tot * q=257 * (tot * q):=Int.mul_assoc ..
  omega
theorem cost_step {n S len b m : Nat} {rg r tot : Int} (h : Cost n S rg len) (hr : 256 * rg≤257 * tot * r) (hb : tot≤2 ^ b) (h0 : 0≤r) : Cost (n+1) (S+b) (r * pw m) (len+m):=by
  unfold Cost at *
  have p1 : (0 : Int) < 257 ^ n:=Int.pow_pos (by decide)
  have p2 : (0 : Int) < 2 ^ S:=Int.pow_pos (by decide)
  have p3:=pw_pos m
  have h1 : 257 * tot * r≤257 * 2 ^ b * r:=Int.mul_le_mul_of_nonneg_right (Int.mul_le_mul_of_nonneg_left hb (by decide)) h0
  have h2 : 256 * rg≤257 * 2 ^ b * r:=Int.le_trans hr h1
  have h3 : (257 ^ n * 2 ^ S) * (256 * rg)≤(257 ^ n * 2 ^ S) * (257 * 2 ^ b * r):=Int.mul_le_mul_of_nonneg_left h2 (Int.le_of_lt (Int.mul_pos p1 p2))
  have h4 : 256 * (256 ^ n * 4294967295 * pw len)≤256 * (257 ^ n * 2 ^ S * rg):=Int.mul_le_mul_of_nonneg_left h (by decide)
  have e1 : (257 ^ n * 2 ^ S) * (256 * rg)=256 * (257 ^ n * 2 ^ S * rg):=by rw [Int.mul_left_comm]
  have h5 : 256 * (256 ^ n * 4294967295 * pw len) * pw m≤(257 ^ n * 2 ^ S) * (257 * 2 ^ b * r) * pw m:=Int.mul_le_mul_of_nonneg_right (by omega) (Int.le_of_lt p3)
  have e2 : (256 : Int) ^ (n+1) * 4294967295 * pw (len+m)=256 * (256 ^ n * 4294967295 * pw len) * pw m:=by rw [Int.pow_succ,pw_add];simp only [Int.mul_assoc,Int.mul_left_comm,Int.mul_comm]
  have e3 : (257 : Int) ^ (n+1) * 2 ^ (S+b) * (r * pw m)=(257 ^ n * 2 ^ S) * (257 * 2 ^ b * r) * pw m:=by rw [Int.pow_succ,Int.pow_add];simp only [Int.mul_assoc,Int.mul_left_comm,Int.mul_comm]
  rw [e2,e3];exact h5
theorem small_top : 257 ^ 300 < 4 * 256 ^ 300:=by decide +kernel
theorem small300 (n : Nat) (hn : n≤300) : 257 ^ n < 4 * 256 ^ n:=by
  apply Decidable.byContradiction
  intro hc
  have h1 : 256 ^ (300 - n)≤257 ^ (300 - n):=Nat.pow_le_pow_left (by decide) _
  have h2 : 4 * 256 ^ n * 256 ^ (300 - n)≤257 ^ n * 257 ^ (300 - n):=Nat.mul_le_mul (by omega) h1
  rw [Nat.mul_assoc, ← Nat.pow_add, ← Nat.pow_add,show n+(300 - n)=300 by omega] at h2
  exact absurd small_top (Nat.not_lt.2 h2)
theorem cost_end {n S len : Nat} {rg : Int} (h : Cost n S rg len) (hr : rg≤4294967295) (hn : n≤300) : 8 * len≤S+1:=by
  unfold Cost at h
  have p1 : (0 : Int) < 257 ^ n:=Int.pow_pos (by decide)
  have p2 : (0 : Int) < 2 ^ S:=Int.pow_pos (by decide)
  have h1 : 257 ^ n * 2 ^ S * rg≤257 ^ n * 2 ^ S * 4294967295:=Int.mul_le_mul_of_nonneg_left hr (Int.le_of_lt (Int.mul_pos p1 p2))
  have h2 : 4294967295 * (256 ^ n * pw len)≤4294967295 * (257 ^ n * 2 ^ S):=by
    generalize (256 : Int) ^ n=a at *
    generalize (257 : Int) ^ n * 2 ^ S=b at *
    have e1 : (4294967295 : Int) * (a * pw len)=a * 4294967295 * pw len:=by rw [Int.mul_comm a 4294967295,Int.mul_assoc]
    rw [e1,Int.mul_comm 4294967295 b]
    exact Int.le_trans h h1
  have h3 : (256 : Int) ^ n * pw len≤257 ^ n * 2 ^ S:=Int.le_of_mul_le_mul_left h2 (by decide)
  have h4 : 256 ^ n * 256 ^ len≤257 ^ n * 2 ^ S:=by
    unfold pw at h3
    have c1 : ((256 ^ n * 256 ^ len : Nat) : Int)=(256 : Int) ^ n * 256 ^ len:=by rw [Int.natCast_mul,Int.natCast_pow,Int.natCast_pow];rfl
    have c2 : ((257 ^ n * 2 ^ S : Nat) : Int)=(257 : Int) ^ n * 2 ^ S:=by rw [Int.natCast_mul,Int.natCast_pow,Int.natCast_pow];rfl
    rw [← c1, ← c2] at h3
    exact Int.ofNat_le.1 h3
  have h5:=small300 n hn
  apply Decidable.byContradiction
  intro hc
  have h6 : 4 * 2 ^ S≤256 ^ len:=by
    have : (256 : Nat) ^ len=2 ^ (8 * len):=by rw [Nat.pow_mul]
    rw [this,show 4 * 2 ^ S=2 ^ (S+2) by rw [Nat.pow_add];omega]
    exact Nat.pow_le_pow_right (by decide) (by omega)
  have h7 : 256 ^ n * (4 * 2 ^ S)≤257 ^ n * 2 ^ S:=Nat.le_trans (Nat.mul_le_mul_left _ h6) h4
  have h8 : 257 ^ n * 2 ^ S < 4 * 256 ^ n * 2 ^ S:=Nat.mul_lt_mul_of_pos_right h5 (Nat.pow_pos (by decide))
  have h9 : 256 ^ n * (4 * 2 ^ S)=4 * 256 ^ n * 2 ^ S:=by rw [← Nat.mul_assoc,Nat.mul_comm (256 ^ n) 4]
  omega
end Go.Proofs.Ytifkhfnmbiefaaa.Cod
