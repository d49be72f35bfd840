/- How many pulse vectors there are: the table's numbers, and what is true of them. -/
import Derived.Test.YtnmbndkojpjkmaaZPackRightsM1
import Derived.Test.YtnmbndkojpjkmaaZPackRightsM3
import Derived.Test.YtnmbndkojpjkmaaZPackRightsWMore
namespace Go.Proofs.Ytnmbndkojpjkmaa.Com
open Go Go.RowKit Go.Proofs.YtnmbndkojpjkmaaW.PrintWords Go.Proofs.Ytnmbndkojpjkmaa.Prt
set_option linter.unusedVariables false
set_option linter.unusedSimpArgs false
def VT : List Int := [1,0,0,0,0,0,0,0,0,0,0,0,0,1,2,2,2,2,2,2,2,2,2,2,2,2,1,4,8,12,16,20,24,28,32,36,40,44,48,1,6,18,38,66,102,146,198,258,326,402,486,578,1,8,32,88,192,360,608,952,1408,1992,2720,3608,4672,1,10,50,170,450,1002,1970,3530,5890,9290,14002,20330,28610,1,12,72,292,912,2364,5336,10836,20256,35436,58728,93060,142000,1,14,98,462,1666,4942,12642,28814,59906,115598,209762,361550,596610,1,16,128,688,2816,9424,27008,68464,157184,332688,658048,1229360,2187520,1,18,162,978,4482,16722,53154,148626,374274,864146,1854882,3742290,7159170,1,20,200,1340,6800,28004,97880,299660,822560,2060980,4780008,10377180,21278640,1,22,242,1782,9922,44726,170610,568150,1690370,4573910,11414898,26572086,58227906,1,24,288,2312,14016,68664,284000,1022760,3281280,9545560,25534368,63521352,148321344,1,26,338,2938,19266,101946,454610,1761370,6065410,18892250,53972178,143027898,354870594,1,28,392,3668,25872,147084,703640,2919620,10746400,35704060,108568488,305568564,803467056,1,30,450,4510,34050,207006,1057730,4680990,18347010,64797470,209070018,623207070,1732242690,1,32,512,5472,44032,285088,1549824,7288544,30316544,113461024,387328512,1219605600,3575055360]
def V0 (n k : Nat) : Int:=VT.getD (n * 13+k) 0
set_option maxRecDepth 100000 in
theorem T16 : comb_table.T 16=VT:=by decide +kernel
def pval (p : Nat) : Int:=if p % 2=1 then ((p+1) / 2 : Nat) else -((p / 2 : Nat) : Int)
def psz (p : Nat) : Nat:=(p+1) / 2
def P (V : Nat→Nat→Int) (n k : Nat) : Nat→Int
  | 0=>0
  | p+1=>P V n k p+V n (k - psz p)
def rowL (V : Nat→Nat→Int) (n : Nat) : List Int:=(List.range 13).map (V n)
theorem V_all : ∀ n : Fin 17, ∀ k : Fin 13,0≤V0 n.1 k.1∧V0 n.1 k.1≤1000000000000:=by decide +kernel
theorem V_zero : ∀ n : Fin 17,V0 n.1 0=1:=by decide +kernel
theorem V_none : ∀ k : Fin 13,0 < k.1→V0 0 k.1=0:=by decide +kernel
theorem V_pos : ∀ n : Fin 17, ∀ k : Fin 13,0 < n.1→0 < V0 n.1 k.1:=by decide +kernel
theorem P_all : ∀ n : Fin 16, ∀ k : Fin 13,P V0 n.1 k.1 (2 * k.1+1)=V0 (n.1+1) k.1:=by decide +kernel
theorem V_sum : ∀ n : Fin 16, ∀ k : Fin 12,V0 (n.1+1) (k.1+1)=V0 n.1 (k.1+1)+V0 (n.1+1) k.1+V0 n.1 k.1:=by decide +kernel
theorem rows_0 : ∀ n : Fin 17,psalteryref06_Row.f 3000 (n.1 : Int)=some (rowL V0 n.1):=by decide +kernel
structure Cnt (V : Nat→Nat→Int) : Prop where
  all : ∀ {n k : Nat},n < 17→k < 13→0≤V n k∧V n k≤1000000000000
  zero : ∀ {n : Nat},n < 17→V n 0=1
  none : ∀ {k : Nat},k < 13→0 < k→V 0 k=0
  pos : ∀ {n k : Nat},n < 17→k < 13→0 < n→0 < V n k
  top : ∀ {n k : Nat},n < 16→k < 13→P V n k (2 * k+1)=V (n+1) k
  sum : ∀ {n k : Nat},n < 16→k < 12→V (n+1) (k+1)=V n (k+1)+V (n+1) k+V n k
  table : ∀ {n k : Nat},n < 17→k < 13→comb_table.f (n : Int) (k : Int)=some (V n k)
  rows : ∀ {n : Nat},n < 17→∀ {k : Nat},3000≤k→psalteryref06_Row.f k (n : Int)=some (rowL V n)
  three : V 3 2=18
theorem exCnt : ∃ V,Cnt V:=⟨V0, {
  all:=fun {n k} hn hk=>V_all ⟨n,hn⟩ ⟨k,hk⟩
  zero:=fun {n} hn=>V_zero ⟨n,hn⟩
  none:=fun {k} hk h=>V_none ⟨k,hk⟩ h
  pos:=fun {n k} hn hk h=>V_pos ⟨n,hn⟩ ⟨k,hk⟩ h
  top:=fun {n k} hn hk=>P_all ⟨n,hn⟩ ⟨k,hk⟩
  sum:=fun {n k} hn hk=>V_sum ⟨n,hn⟩ ⟨k,hk⟩
  table:=fun {n k} hn hk=>by
    unfold comb_table.f
    rw [if_pos (by omega),if_pos (by omega),if_pos (by omega),if_pos (by omega),T16,Int.toNat_natCast,Int.toNat_natCast]
    rfl
  rows:=fun {n} hn {k} hk=>at_rounds (psalteryref06_Row.mono _) hk (rows_0 ⟨n,hn⟩)
  three:=by decide +kernel }⟩
end Go.Proofs.Ytnmbndkojpjkmaa.Com
