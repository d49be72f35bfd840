/- The document's encoder, and the program's: the same bytes. -/
import Derived.Test.YtkaoiblgfpphoaaZGainAloneCod
import Derived.Test.YtkaoiblgfpphoaaZGainAloneM4
import Derived.Test.YtkaoiblgfpphoaaZGainAloneM1
namespace Go.Proofs.Ytkaoiblgfpphoaa.Cod
open Go.RowKit Go.Proofs.YtkaoiblgfpphoaaW.PrintWords Go.Proofs.Ytkaoiblgfpphoaa.Prt Go.Proofs.Ytkaoiblgfpphoaa.Val
set_option linter.unusedVariables false

theorem asEnc_l0 (lo rg RG : Int) (out : List Int) (hb : Bytes out) (hl : out.length≤9000) (h0 : 0≤lo) (h1 : lo≤4294967295) :
    ∀ (d : Nat) (i : Nat) (k : Nat),i+d=out.length→d < k→psalterylaw05_AsEnc.l0 k (i : Int) lo rg out RG (out.take i)=some (RG,out ++ four lo)
  | 0,i,k,hi,hk=>by
    obtain ⟨k,rfl⟩ : ∃ m,k=m+1:=⟨k - 1,by omega⟩
    simp only [psalterylaw05_AsEnc.l0]
    rw [if_neg (by omega),List.take_of_length_le (by omega),Option.bind_some,if_pos (by simp;omega)]
    rw [tdiv_nn h0,tdiv_nn h0,tdiv_nn h0,tmod_nn h0,u64w (x:=lo / 16777216) (by omega) (by omega),u64w (x:=lo / 65536) (by omega) (by omega),u64w (x:=lo / 256) (by omega) (by omega),tmod_nn (by omega),tmod_nn (by omega),i64w (by omega) (by omega),i64w (by omega) (by omega),i64w (by omega) (by omega),i64w (by omega) (by omega)]
    unfold four
    rw [show lo / 16777216 % 256=lo / 16777216 by omega]
  | d+1,i,k,hi,hk=>by
    obtain ⟨k,rfl⟩ : ∃ m,k=m+1:=⟨k - 1,by omega⟩
    have hr:=hb.rd (i : Int)
    have ht : out.take i ++ [rd out i]=out.take (i+1):=by
      rw [List.take_succ_eq_append_getElem (by omega)]
      unfold Go.Proofs.YtkaoiblgfpphoaaW.PrintWords.rd
      simp [List.getD_eq_getElem?_getD,List.getElem?_eq_getElem (show i < out.length by omega)]
    simp only [psalterylaw05_AsEnc.l0]
    rw [if_pos (by omega),if_pos (by omega),if_pos (by rw [List.length_take];omega),i64w (by omega) (by omega),i64w (by omega) (by omega),ht]
    exact asEnc_l0 lo rg RG out hb hl h0 h1 d (i+1) k (by omega) (by omega)
theorem asEnc_ok {lo rg : Int} {out : List Int} (h : EOk lo rg out) (k : Nat) (hk : 5000≤k) : psalterylaw05_AsEnc.f k lo rg out=some (rg,out ++ four lo):=by
  obtain ⟨a,b,c,d,e,f⟩:=h
  unfold psalterylaw05_AsEnc.f
  rw [right_f,Option.bind_some,if_pos (by simp;omega),u64w (by omega) (by omega)]
  exact asEnc_l0 lo rg rg out e (by omega) a b out.length 0 k (by omega) (by omega)
theorem mOf_least {r : Int} (h : 256≤r) : ∀ j,j < mOf r→r * pw j < 16777216:=by
  have e1 : pw 1=256:=rfl
  have e0 : pw 0=1:=rfl
  unfold mOf
  intro j hj
  split at hj
  · rcases (show j=0∨j=1 by omega) with rfl|rfl
    · rw [e0];omega
    · rw [e1];omega
  · split at hj
    · obtain rfl : j=0:=by omega
      rw [e0];omega
    · omega
theorem sameEnc_l0 (x y : Int) (l : List Int) (hl : l.length≤9000) : ∀ (d i k : Nat),i+d=l.length→d < k→psalterylaw05_SameEnc.l0 k (i : Int) x l y l=some true
  | 0,i,k,hi,hk=>by
    obtain ⟨k,rfl⟩ : ∃ m,k=m+1:=⟨k - 1,by omega⟩
    simp only [psalterylaw05_SameEnc.l0]
    rw [if_neg (by omega)]
  | d+1,i,k,hi,hk=>by
    obtain ⟨k,rfl⟩ : ∃ m,k=m+1:=⟨k - 1,by omega⟩
    simp only [psalterylaw05_SameEnc.l0]
    rw [if_pos (by omega),if_pos (by omega),if_pos (by omega),if_pos trivial,i64w (by omega) (by omega)]
    exact sameEnc_l0 x y l hl d (i+1) k (by omega) (by omega)
theorem sameEnc_ok {lo rg : Int} {out : List Int} (h : EOk lo rg out) (k : Nat) (hk : 5000≤k) : psalterylaw05_SameEnc.f k lo rg out rg (out ++ four lo)=some true:=by
  have h' := h
  obtain ⟨a,b,c,d,e,f⟩:=h
  obtain ⟨k,rfl⟩ : ∃ m,k=m+1:=⟨k - 1,by omega⟩
  unfold psalterylaw05_SameEnc.f
  rw [asEnc_ok h' (k+1) hk,Option.bind_some,right_f,Option.bind_some,if_pos (by simp;omega),if_pos rfl]
  simp only [psalterylaw05_SameEnc.j0]
  rw [if_neg (by simp)]
  exact sameEnc_l0 rg rg _ (by simp [four];omega) (out ++ four lo).length 0 k (by omega) (by simp [four];omega)
end Go.Proofs.Ytkaoiblgfpphoaa.Cod
