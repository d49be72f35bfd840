/- Gains taken: what the program and the document take, step by step; and what gains may be. -/
import Derived.Test.YtkaoiblgfpphoaaZGainPutsCodN
import Derived.Test.YtkaoiblgfpphoaaZGainPutsM3
import Derived.Test.YtkaoiblgfpphoaaZGainPutsM1
import Derived.Test.YtkaoiblgfpphoaaZGainPutsM4
namespace Go.Proofs.Ytkaoiblgfpphoaa.Gan
open Go.RowKit Go.Proofs.YtkaoiblgfpphoaaW.PrintWords Go.Proofs.YtkaoiblgfpphoaaW.PrintMore Go.Proofs.Ytkaoiblgfpphoaa.Prt Go.Proofs.Ytkaoiblgfpphoaa.Val Go.Proofs.Ytkaoiblgfpphoaa.Cod
set_option linter.unusedVariables false
def rt (l : List Int) : Bool:=((l.length : Int) == 5) && l.all (fun x=>decide (0≤x∧x≤44))
theorem rt_len {l : List Int} (h : rt l=true) : l.length=5:=by simp [rt] at h;omega
theorem rt_rd {l : List Int} (h : rt l=true) (i : Int) : 0≤rd l i∧rd l i≤44:=by
  simp only [rt,Bool.and_eq_true,List.all_eq_true,decide_eq_true_eq] at h
  unfold Go.Proofs.YtkaoiblgfpphoaaW.PrintWords.rd
  rw [List.getD_eq_getElem?_getD]
  by_cases hi : i.toNat < l.length
  · rw [List.getElem?_eq_getElem hi];exact h.2 _ (List.getElem_mem hi)
  · rw [List.getElem?_eq_none (by omega)];exact ⟨by decide,by decide⟩
theorem drop_rd (l : List Int) (i : Nat) (h : i < l.length) : l.drop i=rd l (i : Int) :: l.drop (i+1):=by
  rw [List.drop_eq_getElem_cons h]
  unfold Go.Proofs.YtkaoiblgfpphoaaW.PrintWords.rd
  rw [List.getD_eq_getElem?_getD,Int.toNat_natCast,List.getElem?_eq_getElem h]
  rfl
theorem right_l0 (l : List Int) (hl : l.length≤9000) : ∀ (d i k : Nat),i+d=l.length→d < k→gain_Right.l0 k l l (l.length : Int) (i : Int)=some (((l.length : Int) == 5) && (l.drop i).all (fun x=>decide (0≤x∧x≤44)))
  | 0,i,k,hi,hk=>by
    obtain ⟨k,rfl⟩ : ∃ m,k=m+1:=⟨k - 1,by omega⟩
    simp only [gain_Right.l0]
    rw [if_neg (by omega),List.drop_eq_nil_of_le (by omega)]
    simp
  | d+1,i,k,hi,hk=>by
    obtain ⟨k,rfl⟩ : ∃ m,k=m+1:=⟨k - 1,by omega⟩
    simp only [gain_Right.l0]
    rw [if_pos (by omega),if_pos (by omega),if_pos (by omega),drop_rd l i (by omega),List.all_cons]
    by_cases h0 : rd l (i : Int) < 0
    · rw [if_pos h0,show decide (0≤rd l (i : Int)∧rd l (i : Int)≤44)=false by simp;omega]
      simp
    · rw [if_neg h0]
      by_cases h1 : rd l (i : Int) > 44
      · rw [if_pos h1,show decide (0≤rd l (i : Int)∧rd l (i : Int)≤44)=false by simp;omega]
        simp
      · rw [if_neg h1,i64w (by omega) (by omega),show decide (0≤rd l (i : Int)∧rd l (i : Int)≤44)=true by simp;omega,Bool.true_and]
        exact right_l0 l hl d (i+1) k (by omega) (by omega)
theorem right_ok (l : List Int) (hl : l.length≤9000) (k : Nat) (hk : l.length < k) : gain_Right.f k l=some (rt l):=right_l0 l hl l.length 0 k (by omega) hk
theorem refRight_l0 (l : List Int) (hl : l.length≤9000) : ∀ (d i k : Nat) (ok : Bool),i+d=l.length→d < k→psalteryref11_Right.l0 k l ok (i : Int)=some (ok && (l.drop i).all (fun x=>decide (0≤x∧x≤44)))
  | 0,i,k,ok,hi,hk=>by
    obtain ⟨k,rfl⟩ : ∃ m,k=m+1:=⟨k - 1,by omega⟩
    simp only [psalteryref11_Right.l0]
    rw [if_neg (by omega),List.drop_eq_nil_of_le (by omega)]
    simp
  | d+1,i,k,ok,hi,hk=>by
    obtain ⟨k,rfl⟩ : ∃ m,k=m+1:=⟨k - 1,by omega⟩
    have ih:=fun ok=>refRight_l0 l hl d (i+1) k ok (by omega) (by omega)
    simp only [psalteryref11_Right.l0]
    rw [if_pos (by omega),drop_rd l i (by omega),List.all_cons,i64w (x:=(i : Int)+1) (by omega) (by omega)]
    cases ok with
    | false=>rw [if_neg (by simp)];exact (ih false).trans (by simp)
    | true =>
      rw [if_pos rfl,if_pos (by omega)]
      by_cases h0 : rd l (i : Int) ≥ 0
      · rw [if_pos h0]
        refine (ih _).trans ?_
        rw [show decide (0≤rd l (i : Int)∧rd l (i : Int)≤44)=decide (rd l (i : Int)≤44) from decide_eq_decide.2 ⟨fun h=>h.2,fun h=>⟨h0,h⟩⟩,Bool.true_and]
      · rw [if_neg h0,show decide (0≤rd l (i : Int)∧rd l (i : Int)≤44)=false by simp;omega]
        exact (ih false).trans (by simp)
theorem refRight_ok (l : List Int) (hl : l.length≤9000) (k : Nat) (hk : l.length < k) : psalteryref11_Right.f k l=some (rt l):=by
  unfold psalteryref11_Right.f
  rw [show (0 : Int)=((0 : Nat) : Int) from rfl,refRight_l0 l hl l.length 0 k _ (by omega) hk]
  rfl
end Go.Proofs.Ytkaoiblgfpphoaa.Gan
