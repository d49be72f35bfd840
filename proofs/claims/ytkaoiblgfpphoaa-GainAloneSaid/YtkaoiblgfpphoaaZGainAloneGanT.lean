/- Gains taken: what the program and the document take, step by step; and what gains may be. -/
import Derived.Test.YtkaoiblgfpphoaaZGainAloneCodN
import Derived.Test.YtkaoiblgfpphoaaZGainAloneM2
import Derived.Test.YtkaoiblgfpphoaaZGainAloneM1
import Derived.Test.YtkaoiblgfpphoaaZGainAloneM3
import Derived.Test.YtkaoiblgfpphoaaZGainAloneM4
namespace Go.Proofs.Ytkaoiblgfpphoaa.Gan
open Go.RowKit Go.Proofs.YtkaoiblgfpphoaaW.PrintWords Go.Proofs.YtkaoiblgfpphoaaW.PrintMore Go.Proofs.Ytkaoiblgfpphoaa.Prt Go.Proofs.Ytkaoiblgfpphoaa.Val Go.Proofs.Ytkaoiblgfpphoaa.Cod
set_option linter.unusedVariables false
def rt (l : List Int) : Bool:=((l.length : Int) == 5) && l.all (fun x=>decide (0≤x∧x≤44))
theorem rt_len {l : List Int} (h : rt l=true) : l.length=5:=by simp [rt] at h;omega
theorem rt_rd {l : List Int} (h : rt l=true) (i : Int) : 0≤rd l i∧rd l i≤44:=by
  simp only [rt,Bool.and_eq_true,List.all_eq_true,decide_eq_true_eq] at h
  unfold Go.Proofs.YtkaoiblgfpphoaaW.PrintWords.rd
  rw [List.getD_eq_getElem?_getD]
  by_cases hi : i.toNat < l.length
  · rw [List.getElem?_eq_getElem hi];exact h.2 _ (List.getElem_mem hi)
  · rw [List.getElem?_eq_none (by omega)];exact ⟨by decide,by decide⟩
theorem drop_rd (l : List Int) (i : Nat) (h : i < l.length) : l.drop i=rd l (i : Int) :: l.drop (i+1):=by
  rw [List.drop_eq_getElem_cons h]
  unfold Go.Proofs.YtkaoiblgfpphoaaW.PrintWords.rd
  rw [List.getD_eq_getElem?_getD,Int.toNat_natCast,List.getElem?_eq_getElem h]
  rfl
theorem right_l0 (l : List Int) (hl : l.length≤9000) : ∀ (d i k : Nat),i+d=l.length→d < k→gain_Right.l0 k l l (l.length : Int) (i : Int)=some (((l.length : Int) == 5) && (l.drop i).all (fun x=>decide (0≤x∧x≤44)))
  | 0,i,k,hi,hk=>by
    obtain ⟨k,rfl⟩ : ∃ m,k=m+1:=⟨k - 1,by omega⟩
    simp only [gain_Right.l0]
    rw [if_neg (by omega),List.drop_eq_nil_of_le (by omega)]
    simp
  | d+1,i,k,hi,hk=>by
    obtain ⟨k,rfl⟩ : ∃ m,k=m+1:=⟨k - 1,by omega⟩
    simp only [gain_Right.l0]
    rw [if_pos (by omega),if_pos (by omega),if_pos (by omega),drop_rd l i (by omega),List.all_cons]
    by_cases h0 : rd l (i : Int) < 0
    · rw [if_pos h0,show decide (0≤rd l (i : Int)∧rd l (i : Int)≤44)=false by simp;omega]
      simp
    · rw [if_neg h0]
      by_cases h1 : rd l (i : Int) > 44
      · rw [if_pos h1,show decide (0≤rd l (i : Int)∧rd l (i : Int)≤44)=false by simp;omega]
        simp
      · rw [if_neg h1,i64w (by omega) (by omega),show decide (0≤rd l (i : Int)∧rd l (i : Int)≤44)=true by simp;omega,Bool.true_and]
        exact right_l0 l hl d (i+1) k (by omega) (by omega)
theorem right_ok (l : List Int) (hl : l.length≤9000) (k : Nat) (hk : l.length < k) : gain_Right.f k l=some (rt l):=right_l0 l hl l.length 0 k (by omega) hk
theorem same_l0 (l : List Int) (hl : l.length≤9000) : ∀ (d i k : Nat),i+d=l.length→d < k→psalteryref06_Same.l0 k l l (i : Int)=some true
  | 0,i,k,hi,hk=>by
    obtain ⟨k,rfl⟩ : ∃ m,k=m+1:=⟨k - 1,by omega⟩
    simp only [psalteryref06_Same.l0]
    rw [if_neg (by omega)]
  | d+1,i,k,hi,hk=>by
    obtain ⟨k,rfl⟩ : ∃ m,k=m+1:=⟨k - 1,by omega⟩
    simp only [psalteryref06_Same.l0]
    rw [if_pos (by omega),if_pos (by omega),if_pos (by omega),if_pos trivial,i64w (x:=(i : Int)+1) (by omega) (by omega)]
    exact same_l0 l hl d (i+1) k (by omega) (by omega)
theorem same_ok (l : List Int) (hl : l.length≤9000) (k : Nat) (hk : l.length < k) : psalteryref06_Same.f k l l=some true:=by
  unfold psalteryref06_Same.f
  rw [if_pos rfl]
  exact same_l0 l hl l.length 0 k (by omega) hk
def gt1 (l : List Int) (code rg at_ ahead : Int) (intra : Bool) : Int × Int × Int × Int :=
  if intra=true then tn l code rg at_ 45
  else let g:=gt code rg 8;let t:=tk l code rg at_ g (g+1) 8
    if g=7 then tn l t.1 t.2.1 t.2.2 45 else (t.1,t.2.1,t.2.2,if ahead+g - 3 < 0 then 0 else if ahead+g - 3 > 44 then 44 else ahead+g - 3)
theorem gt1_ok {l : List Int} {code rg at_ ahead : Int} {intra : Bool} (hb : Bytes l) (hl : l.length≤9000) (h : DOk code rg at_) :
    DOk (gt1 l code rg at_ ahead intra).1 (gt1 l code rg at_ ahead intra).2.1 (gt1 l code rg at_ ahead intra).2.2.1∧0≤(gt1 l code rg at_ ahead intra).2.2.2∧(gt1 l code rg at_ ahead intra).2.2.2≤44:=by
  unfold gt1
  cases intra with
  | true =>
    rw [if_pos rfl]
    have:=tn_ok (n:=45) hb hl h (by decide) (by decide)
    exact ⟨this.1,this.2.1,by omega⟩
  | false =>
    rw [if_neg (by simp)]
    have hf:=gt_fair (code:=code) h.1 h.2.2.1 (show (1 : Int)≤8 by decide) (by decide)
    have ht:=tk_ok (at_:=at_) hb hl h hf
    dsimp only
    split
    · have:=tn_ok (n:=45) hb hl ht (by decide) (by decide)
      exact ⟨this.1,this.2.1,by omega⟩
    · refine ⟨ht, ?_, ?_⟩
      · dsimp only;split
        · decide
        · split <;> omega
      · dsimp only;split
        · decide
        · split <;> omega
theorem take1_ok {code0 rg0 at0 code rg at_ ahead : Int} {l0 l : List Int} {intra : Bool} (hg : coder_good.f code0 rg0 l0 at0=some (code,rg,l,at_)) (h : DOk code rg at_) (hb : Bytes l) (hl : l.length≤9000) (a0 : 0≤ahead) (a1 : ahead≤44) (k : Nat) (hk : 10≤k) :
    gain_take.f k code0 rg0 l0 at0 ahead intra=some ((gt1 l code rg at_ ahead intra).1,(gt1 l code rg at_ ahead intra).2.1,l,(gt1 l code rg at_ ahead intra).2.2.1,(gt1 l code rg at_ ahead intra).2.2.2):=by
  have tw : ∀ {c r t : Int},DOk c r t→wrap64 (tn l c r t 45).2.2.2=(tn l c r t 45).2.2.2:=fun hd=>by
    have:=tn_ok (n:=45) hb hl hd (by decide) (by decide)
    exact i64w (by omega) (by omega)
  unfold gain_take.f gt1
  cases intra with
  | true =>
    rw [if_pos rfl,if_pos rfl,takeNum_ok hg h hb hl (by decide) (by decide) k (by omega),Option.bind_some]
    dsimp only
    rw [tw h]
  | false =>
    have hgt:=gt_bound (code:=code) h.1 h.2.2.1 (show (1 : Int)≤8 by decide) (by decide)
    have hf:=gt_fair (code:=code) h.1 h.2.2.1 (show (1 : Int)≤8 by decide) (by decide)
    have ht:=tk_ok (at_:=at_) hb hl h hf
    rw [if_neg (by simp),if_neg (by simp),get_ok hg h (by decide) (by decide),Option.bind_some]
    dsimp only
    rw [i64w (x:=gt code rg 8+1) (by omega) (by omega),take_ok hg h hb hl hf k (by omega),Option.bind_some]
    dsimp only
    by_cases h7 : gt code rg 8=7
    · rw [if_pos h7,if_pos h7,takeNum_ok (good_ok ht) ht hb hl (by decide) (by decide) k (by omega),Option.bind_some]
      dsimp only
      rw [tw ht]
    · rw [if_neg h7,if_neg h7,i64w (x:=ahead+gt code rg 8) (by omega) (by omega),i64w (x:=ahead+gt code rg 8 - 3) (by omega) (by omega)]
      dsimp only
      congr 5
      unfold mx mn
      split <;> split <;> first|omega|(split <;> omega)
def gts (l a : List Int) (intra : Bool) : Nat→Int→Int→Int→Int→List Int→Int × Int × Int × List Int
  | 0,_,c,r,t,acc=>(c,r,t,acc)
  | d+1,i,c,r,t,acc=>gts l a intra d (i+1) (gt1 l c r t (rd a i) intra).1 (gt1 l c r t (rd a i) intra).2.1 (gt1 l c r t (rd a i) intra).2.2.1 (acc ++ [(gt1 l c r t (rd a i) intra).2.2.2])
theorem gts_ok {l a : List Int} {intra : Bool} (hb : Bytes l) (hl : l.length≤9000) : ∀ (d : Nat) (i c r t : Int) (acc : List Int),DOk c r t→(∀ x ∈ acc,0≤x∧x≤44) →
    DOk (gts l a intra d i c r t acc).1 (gts l a intra d i c r t acc).2.1 (gts l a intra d i c r t acc).2.2.1∧(gts l a intra d i c r t acc).2.2.2.length=acc.length+d∧∀ x ∈ (gts l a intra d i c r t acc).2.2.2,0≤x∧x≤44
  | 0,i,c,r,t,acc,h,ha=>⟨h,rfl,ha⟩
  | d+1,i,c,r,t,acc,h,ha=>by
    have h1:=gt1_ok (ahead:=rd a i) (intra:=intra) hb hl h
    have ih:=gts_ok (a:=a) (intra:=intra) hb hl d (i+1) _ _ _ (acc ++ [(gt1 l c r t (rd a i) intra).2.2.2]) h1.1 (fun x hx=>by
      rcases List.mem_append.1 hx with hx|hx
      · exact ha x hx
      · rw [List.mem_singleton.1 hx];exact h1.2)
    refine ⟨ih.1,ih.2.1.trans ?_,ih.2.2⟩
    simp;omega
theorem gts_alone {l : List Int} (a b : List Int) : ∀ (d : Nat) (i c r t : Int) (acc : List Int),gts l a true d i c r t acc=gts l b true d i c r t acc
  | 0,i,c,r,t,acc=>rfl
  | d+1,i,c,r,t,acc=>by
    have e : gt1 l c r t (rd a i) true=gt1 l c r t (rd b i) true:=rfl
    simp only [gts]
    rw [e,gts_alone a b d]
theorem takes_l0 {a : List Int} {intra : Bool} (ha : intra=true∨rt a=true) : ∀ (d : Nat) (i code0 rg0 at0 code rg at_ : Int) (l0 l acc : List Int) (k : Nat),coder_good.f code0 rg0 l0 at0=some (code,rg,l,at_)→DOk code rg at_→Bytes l→l.length≤9000 →
    (d=0→code0=code∧rg0=rg∧l0=l∧at0=at_)→0≤i→i+d=5→acc.length+d≤5→20+d < k →
    gain_Take.l0 k a intra acc i code0 rg0 l0 at0=some ((gts l a intra d i code rg at_ acc).1,(gts l a intra d i code rg at_ acc).2.1,l,(gts l a intra d i code rg at_ acc).2.2.1,(gts l a intra d i code rg at_ acc).2.2.2,0)
  | 0,i,code0,rg0,at0,code,rg,at_,l0,l,acc,k,hg,h,hb,hl,h0,hi,hd,hc,hk=>by
    obtain ⟨k,rfl⟩ : ∃ m,k=m+1:=⟨k - 1,by omega⟩
    obtain ⟨rfl,rfl,rfl,rfl⟩:=h0 rfl
    simp only [gain_Take.l0]
    rw [if_neg (by omega)]
    rfl
  | d+1,i,code0,rg0,at0,code,rg,at_,l0,l,acc,k,hg,h,hb,hl,h0,hi,hd,hc,hk=>by
    obtain ⟨k,rfl⟩ : ∃ m,k=m+1:=⟨k - 1,by omega⟩
    have h1:=gt1_ok (ahead:=rd a i) (intra:=intra) hb hl h
    have ih:=takes_l0 ha d (i+1) _ _ _ _ _ _ _ _ (acc ++ [(gt1 l code rg at_ (rd a i) intra).2.2.2]) k (good_ok (l:=l) h1.1) h1.1 hb hl (fun _=>⟨rfl,rfl,rfl,rfl⟩) (by omega) (by omega) (by simp;omega) (by omega)
    simp only [gain_Take.l0,gts]
    rw [if_pos (by omega)]
    cases intra with
    | true =>
      rw [if_pos rfl,take1_ok hg h hb hl (by decide) (by decide) k (by omega),Option.bind_some]
      dsimp only
      rw [if_pos (by omega),i64w (x:=i+1) (by omega) (by omega)]
      exact ih
    | false =>
      have hr : rt a=true:=ha.resolve_left (by simp)
      have h5:=rt_len hr
      have ar:=rt_rd hr i
      rw [if_neg (by simp),if_pos hi,if_pos (by omega),take1_ok hg h hb hl ar.1 ar.2 k (by omega),Option.bind_some]
      dsimp only
      rw [if_pos (by omega),i64w (x:=i+1) (by omega) (by omega)]
      exact ih
theorem takes_ok {a : List Int} {intra : Bool} (hla : a.length≤100) {code0 rg0 at0 code rg at_ : Int} {l0 l : List Int} (hg : coder_good.f code0 rg0 l0 at0=some (code,rg,l,at_)) (h : DOk code rg at_) (hb : Bytes l) (hl : l.length≤9000) (k : Nat) (hk : 200≤k) :
    gain_Take.f k code0 rg0 l0 at0 a intra=if intra=true∨rt a=true then some ((gts l a intra 5 0 code rg at_ []).1,(gts l a intra 5 0 code rg at_ []).2.1,l,(gts l a intra 5 0 code rg at_ []).2.2.1,(gts l a intra 5 0 code rg at_ []).2.2.2,0) else some ((tk l code rg at_ 0 1 1).1,(tk l code rg at_ 0 1 1).2.1,l,(tk l code rg at_ 0 1 1).2.2, [],1):=by
  obtain ⟨k,rfl⟩ : ∃ m,k=m+1:=⟨k - 1,by omega⟩
  have key : intra=true∨rt a=true→gain_Take.j0 (k+1) a intra false code0 rg0 l0 at0=some ((gts l a intra 5 0 code rg at_ []).1,(gts l a intra 5 0 code rg at_ []).2.1,l,(gts l a intra 5 0 code rg at_ []).2.2.1,(gts l a intra 5 0 code rg at_ []).2.2.2,0):=fun ha=>by
    simp only [gain_Take.j0]
    rw [if_neg (by simp)]
    exact takes_l0 ha 5 0 _ _ _ _ _ _ _ _ [] k hg h hb hl (by simp) (by omega) (by omega) (by simp) (by omega)
  unfold gain_Take.f
  cases intra with
  | true=>rw [if_pos rfl,if_pos (.inl rfl)];exact key (.inl rfl)
  | false =>
    rw [if_neg (by simp),right_ok a (by omega) _ (by omega),Option.bind_some]
    cases hr : rt a with
    | true=>rw [if_pos (.inr rfl)];exact key (.inr hr)
    | false =>
      rw [if_neg (by simp)]
      simp only [gain_Take.j0,Bool.not_false, ↓reduceIte]
      rw [take_ok hg h hb hl ⟨by decide,by decide,by decide,by decide⟩ k (by omega),Option.bind_some]
end Go.Proofs.Ytkaoiblgfpphoaa.Gan
