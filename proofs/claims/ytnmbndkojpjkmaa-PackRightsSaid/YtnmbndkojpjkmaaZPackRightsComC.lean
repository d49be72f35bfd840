/- What a number of a pulse vector costs, by the program and by the document: the same. -/
import Derived.Test.YtnmbndkojpjkmaaZPackRightsComR
import Derived.Test.YtnmbndkojpjkmaaZPackRightsM1
import Derived.Test.YtnmbndkojpjkmaaZPackRightsM2
import Derived.Test.YtnmbndkojpjkmaaZPackRightsM3
namespace Go.Proofs.Ytnmbndkojpjkmaa.Com
open Go Go.RowKit Go.Proofs.YtnmbndkojpjkmaaW.PrintWords Go.Proofs.Ytnmbndkojpjkmaa.Prt
set_option linter.unusedVariables false
set_option linter.unusedSimpArgs false
variable {V : Nat→Nat→Int}
theorem fair_ok {n k : Nat} (hn : 1≤n) (hn' : n≤16) (hk : k < 13) : comb_fair.f (n : Int) (k : Int)=some true:=by
  unfold comb_fair.f
  rw [if_pos (by omega),if_pos (by omega),if_pos (by omega),decide_eq_true (by omega)]
theorem count_ok (C : Cnt V) {n k : Nat} (hn : 1≤n) (hn' : n≤16) (hk : k < 13) : comb_Count.f (n : Int) (k : Int)=some (V n k,0):=by
  unfold comb_Count.f
  rw [fair_ok hn hn' hk,Option.bind_some,if_pos rfl,C.table (by omega) hk,Option.bind_some]
theorem cost_ok (C : Cnt V) {n k : Nat} (hn : 1≤n) (hn' : n≤16) (hk : k < 13) {q : Nat} (hq : 3000≤q) : ∃ c,0≤c∧c≤60∧(k=0→c=0)∧comb_Cost.f q (n : Int) (k : Int)=some (c,0)∧psalteryref06_Cost.f q (n : Int) (k : Int)=some c:=by
  have hV:=VV C (show n < 17 by omega) hk
  have hp:=C.pos (show n < 17 by omega) hk (by omega)
  unfold comb_Cost.f psalteryref06_Cost.f
  rw [count_ok C hn hn' hk,refCount_ok C hn' hk hq,Option.bind_some,Option.bind_some]
  dsimp only
  rw [if_pos rfl,u64 (x:=V n k - 1) (by omega) (by omega)]
  have h40 : (2 : Int) ^ 40=1099511627776:=by decide
  obtain ⟨r,rfl⟩ : ∃ r,q=r+40+1:=⟨q - 41,by omega⟩
  by_cases hc : V n k - 1 < 65536
  · obtain ⟨b,b0,b1,b2,b3⟩:=bits_ex 40 (V n k - 1) (by omega) (by omega) ⟨by omega,by omega⟩
    have b2' := b2 r 0 (by omega) (by omega)
    rw [Int.zero_add] at b2'
    refine ⟨b,b0,by omega,fun hk0 => ?_, ?_, ?_⟩
    · subst hk0
      have hz:=C.zero (show n < 17 by omega)
      rw [hz] at b2'
      have h0 : comb_width.l0 (r+40+1) (1 - 1) 0=some 0:=by rw [comb_width.l0,if_neg (by decide)]
      rw [h0] at b2'
      exact (Option.some.inj b2').symm
    · rw [if_pos hc]
      unfold comb_width.f
      rw [b2',Option.bind_some]
    · rw [if_pos hc,b3 r,Option.bind_some,w64 (by omega) (by omega)]
      congr 1
      omega
  · obtain ⟨b,b0,b1,b2,b3⟩:=bits_ex 40 ((V n k - 1) / 65536) (by omega) (by omega) ⟨by omega,by omega⟩
    have b2' := b2 r 0 (by omega) (by omega)
    rw [Int.zero_add] at b2'
    refine ⟨b+16,by omega,by omega,fun hk0 => ?_, ?_, ?_⟩
    · subst hk0
      have hz:=C.zero (show n < 17 by omega)
      omega
    · rw [if_neg hc]
      unfold comb_width.f
      rw [b2',Option.bind_some,w64 (by omega) (by omega)]
    · rw [if_neg hc,Int.tdiv_eq_ediv_of_nonneg (by omega),u64 (by omega) (by omega),b3 r,Option.bind_some,w64 (by omega) (by omega)]
      congr 1
      omega
structure Cst (K : Nat→Nat→Int) : Prop where
  cost : ∀ {n k : Nat},1≤n→n≤16→k < 13→0≤K n k∧K n k≤60∧(k=0→K n k=0)∧∀ q,3000≤q→comb_Cost.f q (n : Int) (k : Int)=some (K n k,0)∧psalteryref06_Cost.f q (n : Int) (k : Int)=some (K n k)
theorem exCst : ∃ K,Cst K:=by
  obtain ⟨V,C⟩:=exCnt
  refine ⟨fun n k=>((comb_Cost.f 3000 (n : Int) (k : Int)).getD (0,0)).1,⟨fun {n k} hn hn' hk => ?_⟩⟩
  obtain ⟨c,c0,c1,c2,h1,h2⟩:=cost_ok C hn hn' hk (Nat.le_refl 3000)
  have e : ((comb_Cost.f 3000 (n : Int) (k : Int)).getD (0,0)).1=c:=by rw [h1];rfl
  simp only [e]
  exact ⟨c0,c1,c2,fun q hq=>⟨at_rounds (comb_Cost.mono _ _) hq h1,at_rounds (psalteryref06_Cost.mono _ _) hq h2⟩⟩
end Go.Proofs.Ytnmbndkojpjkmaa.Com
