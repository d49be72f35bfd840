/- The pulse vectors: the document's numbers, and the vectors of numbers, by the program and by the document. -/
import Derived.Test.YtgjdgpkjdffhkaaZCombCountsComM
import Derived.Test.YtgjdgpkjdffhkaaZCombCountsM1
namespace Go.Proofs.Ytgjdgpkjdffhkaa.Com
open Go Go.RowKit Go.Proofs.YtgjdgpkjdffhkaaW.PrintWords Go.Proofs.Ytgjdgpkjdffhkaa.Prt
set_option linter.unusedVariables false
set_option linter.unusedSimpArgs false
variable {V : Nat→Nat→Int}

theorem rowL_len (n : Nat) : (rowL V n).length=13:=by rw [rowL,List.length_map,List.length_range]
theorem rd_row {n j : Nat} (h : j < 13) : rd (rowL V n) (j : Int)=V n j:=by
  rw [rd_at (by rw [rowL_len];exact h)]
  simp [rowL]
theorem Unr.none (C : Cnt V) {kk : Nat} {i : Int} (hkk : kk < 13) (h0 : 0≤i) (h1 : i < V 0 kk) : Unr V 0 kk i []:=by
  rcases Nat.eq_zero_or_pos kk with rfl|h
  · rw [C.zero (by decide)] at h1
    exact ⟨rfl,by omega,rfl⟩
  · rw [C.none hkk h] at h1
    omega
theorem fair_ok {n k : Nat} (hn : 1≤n) (hn' : n≤16) (hk : k < 13) : comb_fair.f (n : Int) (k : Int)=some true∧psalteryref06_Fair.f (n : Int) (k : Int)=some true:=by
  unfold comb_fair.f psalteryref06_Fair.f
  rw [if_pos (by omega),if_pos (by omega),if_pos (by omega),decide_eq_true (by omega),if_pos (by omega)]
  exact ⟨rfl,rfl⟩
theorem fair_bad {a b : Int} (h : ¬ (1≤a∧a≤16∧0≤b∧b≤12)) : comb_fair.f a b=some false∧psalteryref06_Fair.f a b=some false:=by
  unfold comb_fair.f psalteryref06_Fair.f
  by_cases h1 : a ≥ 1
  · rw [if_pos h1,if_pos (show a > 0 by omega)]
    by_cases h2 : a≤16
    · rw [if_pos h2]
      by_cases h3 : b ≥ 0
      · rw [if_pos h3,decide_eq_false (by omega)]
        exact ⟨rfl,rfl⟩
      · rw [if_neg h3]
        exact ⟨rfl,rfl⟩
    · rw [if_neg h2]
      exact ⟨rfl,rfl⟩
  · rw [if_neg h1,if_neg (show ¬ a > 0 by omega)]
    exact ⟨rfl,rfl⟩
theorem count_ok (C : Cnt V) {n k : Nat} (hn : 1≤n) (hn' : n≤16) (hk : k < 13) : comb_Count.f (n : Int) (k : Int)=some (V n k,0):=by
  unfold comb_Count.f
  rw [(fair_ok hn hn' hk).1,Option.bind_some,if_pos rfl,C.table (by omega) hk,Option.bind_some]
theorem count_bad {a b : Int} (h : ¬ (1≤a∧a≤16∧0≤b∧b≤12)) : comb_Count.f a b=some (0,1):=by
  unfold comb_Count.f
  rw [(fair_bad h).1,Option.bind_some,if_neg (by decide)]
theorem refCount_ok (C : Cnt V) {n k : Nat} (hn' : n≤16) (hk : k < 13) {q : Nat} (hq : 3000≤q) : psalteryref06_Count.f q (n : Int) (k : Int)=some (V n k):=by
  unfold psalteryref06_Count.f
  rw [C.rows (by omega) hq,Option.bind_some,if_pos (by omega),if_pos (by rw [rowL_len];omega),rd_row hk]
theorem bits_ex : ∀ (j : Nat) (v : Int),0≤v→v < 2 ^ j→(j≤60∧v < 1152921504606846976)→∃ b : Int,0≤b∧b≤j∧(∀ (k : Nat) (c : Int),0≤c→c+j≤1000→comb_width.l0 (k+j+1) v c=some (c+b))∧∀ k : Nat,psalteryref03_Log2.f (k+j+1) v=some (b - 1)
  | 0,v,h0,h1,_=>by
    obtain rfl : v=0:=by
      rw [Int.pow_zero] at h1
      omega
    refine ⟨0,by omega,by omega,fun k c _ _ => ?_,fun k => ?_⟩
    · rw [comb_width.l0,if_neg (by omega),Int.add_zero]
    · rw [psalteryref03_Log2.f,if_pos rfl]
      rfl
  | j+1,v,h0,h1,hj=>by
    by_cases hv : v=0
    · subst hv
      refine ⟨0,by omega,by omega,fun k c _ _ => ?_,fun k => ?_⟩
      · rw [comb_width.l0,if_neg (by omega),Int.add_zero]
      · rw [psalteryref03_Log2.f,if_pos rfl]
        rfl
    · have h2 : (2 : Int) ^ (j+1)=2 * 2 ^ j:=by rw [Int.pow_succ,Int.mul_comm]
      obtain ⟨b,b0,b1,b2,b3⟩:=bits_ex j (v / 2) (by omega) (by omega) ⟨by omega,by omega⟩
      refine ⟨b+1,by omega,by omega,fun k c c0 c1 => ?_,fun k => ?_⟩
      · rw [show k+(j+1)+1=(k+j+1)+1 by omega,comb_width.l0,if_pos (by omega),w64 (by omega) (by omega),b2 k (c+1) (by omega) (by omega)]
        congr 1
        omega
      · rw [show k+(j+1)+1=(k+j+1)+1 by omega,psalteryref03_Log2.f,if_neg hv,Int.tdiv_eq_ediv_of_nonneg h0,u64 (by omega) (by omega),b3 k,Option.bind_some,w64 (by omega) (by omega)]
        congr 1
        omega
theorem cost_ok (C : Cnt V) {n k : Nat} (hn : 1≤n) (hn' : n≤16) (hk : k < 13) {q : Nat} (hq : 3000≤q) : ∃ c,comb_Cost.f q (n : Int) (k : Int)=some (c,0)∧psalteryref06_Cost.f q (n : Int) (k : Int)=some c:=by
  have hV:=VV C (show n < 17 by omega) hk
  have hp:=C.pos (show n < 17 by omega) hk (by omega)
  unfold comb_Cost.f psalteryref06_Cost.f
  rw [count_ok C hn hn' hk,refCount_ok C hn' hk hq,Option.bind_some,Option.bind_some]
  dsimp only
  rw [if_pos rfl,u64 (x:=V n k - 1) (by omega) (by omega)]
  have h40 : (2 : Int) ^ 40=1099511627776:=by decide
  obtain ⟨r,rfl⟩ : ∃ r,q=r+40+1:=⟨q - 41,by omega⟩
  by_cases hc : V n k - 1 < 65536
  · obtain ⟨b,b0,b1,b2,b3⟩:=bits_ex 40 (V n k - 1) (by omega) (by omega) ⟨by omega,by omega⟩
    have b2' := b2 r 0 (by omega) (by omega)
    rw [Int.zero_add] at b2'
    refine ⟨b, ?_, ?_⟩
    · rw [if_pos hc]
      unfold comb_width.f
      rw [b2',Option.bind_some]
    · rw [if_pos hc,b3 r,Option.bind_some,w64 (by omega) (by omega)]
      congr 1
      omega
  · obtain ⟨b,b0,b1,b2,b3⟩:=bits_ex 40 ((V n k - 1) / 65536) (by omega) (by omega) ⟨by omega,by omega⟩
    have b2' := b2 r 0 (by omega) (by omega)
    rw [Int.zero_add] at b2'
    refine ⟨b+16, ?_, ?_⟩
    · rw [if_neg hc]
      unfold comb_width.f
      rw [b2',Option.bind_some,w64 (by omega) (by omega)]
    · rw [if_neg hc,Int.tdiv_eq_ediv_of_nonneg (by omega),u64 (by omega) (by omega),b3 r,Option.bind_some,w64 (by omega) (by omega)]
      congr 1
      omega
end Go.Proofs.Ytgjdgpkjdffhkaa.Com
