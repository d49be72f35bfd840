/- The pulse vectors: the document's numbers, and the vectors of numbers, by the program and by the document. -/
import Derived.Test.YtnmbndkojpjkmaaZPackRightsComM
import Derived.Test.YtnmbndkojpjkmaaZPackRightsM2
import Derived.Test.YtnmbndkojpjkmaaZPackRightsM1
import Derived.Test.YtnmbndkojpjkmaaZPackRightsM3
namespace Go.Proofs.Ytnmbndkojpjkmaa.Com
open Go Go.RowKit Go.Proofs.YtnmbndkojpjkmaaW.PrintWords Go.Proofs.Ytnmbndkojpjkmaa.Prt
set_option linter.unusedVariables false
set_option linter.unusedSimpArgs false
variable {V : Nat→Nat→Int}

theorem rowL_len (n : Nat) : (rowL V n).length=13:=by rw [rowL,List.length_map,List.length_range]
theorem rd_row {n j : Nat} (h : j < 13) : rd (rowL V n) (j : Int)=V n j:=by
  rw [rd_at (by rw [rowL_len];exact h)]
  simp [rowL]
theorem Unr.none (C : Cnt V) {kk : Nat} {i : Int} (hkk : kk < 13) (h0 : 0≤i) (h1 : i < V 0 kk) : Unr V 0 kk i []:=by
  rcases Nat.eq_zero_or_pos kk with rfl|h
  · rw [C.zero (by decide)] at h1
    exact ⟨rfl,by omega,rfl⟩
  · rw [C.none hkk h] at h1
    omega
theorem refCount_ok (C : Cnt V) {n k : Nat} (hn' : n≤16) (hk : k < 13) {q : Nat} (hq : 3000≤q) : psalteryref06_Count.f q (n : Int) (k : Int)=some (V n k):=by
  unfold psalteryref06_Count.f
  rw [C.rows (by omega) hq,Option.bind_some,if_pos (by omega),if_pos (by rw [rowL_len];omega),rd_row hk]
theorem bits_ex : ∀ (j : Nat) (v : Int),0≤v→v < 2 ^ j→(j≤60∧v < 1152921504606846976)→∃ b : Int,0≤b∧b≤j∧(∀ (k : Nat) (c : Int),0≤c→c+j≤1000→comb_width.l0 (k+j+1) v c=some (c+b))∧∀ k : Nat,psalteryref03_Log2.f (k+j+1) v=some (b - 1)
  | 0,v,h0,h1,_=>by
    obtain rfl : v=0:=by
      rw [Int.pow_zero] at h1
      omega
    refine ⟨0,by omega,by omega,fun k c _ _ => ?_,fun k => ?_⟩
    · rw [comb_width.l0,if_neg (by omega),Int.add_zero]
    · rw [psalteryref03_Log2.f,if_pos rfl]
      rfl
  | j+1,v,h0,h1,hj=>by
    by_cases hv : v=0
    · subst hv
      refine ⟨0,by omega,by omega,fun k c _ _ => ?_,fun k => ?_⟩
      · rw [comb_width.l0,if_neg (by omega),Int.add_zero]
      · rw [psalteryref03_Log2.f,if_pos rfl]
        rfl
    · have h2 : (2 : Int) ^ (j+1)=2 * 2 ^ j:=by rw [Int.pow_succ,Int.mul_comm]
      obtain ⟨b,b0,b1,b2,b3⟩:=bits_ex j (v / 2) (by omega) (by omega) ⟨by omega,by omega⟩
      refine ⟨b+1,by omega,by omega,fun k c c0 c1 => ?_,fun k => ?_⟩
      · rw [show k+(j+1)+1=(k+j+1)+1 by omega,comb_width.l0,if_pos (by omega),w64 (by omega) (by omega),b2 k (c+1) (by omega) (by omega)]
        congr 1
        omega
      · rw [show k+(j+1)+1=(k+j+1)+1 by omega,psalteryref03_Log2.f,if_neg hv,Int.tdiv_eq_ediv_of_nonneg h0,u64 (by omega) (by omega),b3 k,Option.bind_some,w64 (by omega) (by omega)]
        congr 1
        omega
end Go.Proofs.Ytnmbndkojpjkmaa.Com
