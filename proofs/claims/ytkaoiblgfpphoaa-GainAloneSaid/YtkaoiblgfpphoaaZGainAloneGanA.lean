/- Gains put by themselves: what the program answers, without the document's encoder. -/
import Derived.Test.YtkaoiblgfpphoaaZGainAloneGanP
import Derived.Test.YtkaoiblgfpphoaaZGainAloneM1
import Derived.Test.YtkaoiblgfpphoaaZGainAloneM2
namespace Go.Proofs.Ytkaoiblgfpphoaa.Gan
open Go.RowKit Go.Proofs.YtkaoiblgfpphoaaW.PrintWords Go.Proofs.YtkaoiblgfpphoaaW.PrintMore Go.Proofs.Ytkaoiblgfpphoaa.Prt Go.Proofs.Ytkaoiblgfpphoaa.Val Go.Proofs.Ytkaoiblgfpphoaa.Cod
set_option linter.unusedVariables false
theorem put_any {lo rg lo0 rg0 clo chi ctot : Int} {out out0 : List Int} (ho : coder_own.f lo0 rg0 out0=some (lo,rg,out)) (he : EOk lo rg out) :
    ∃ lo' rg' out' e,(∀ k,5000≤k→coder_Put.f k lo0 rg0 out0 clo chi ctot=some (lo',rg',out',e))∧EOk lo' rg' out' := by
  by_cases hf : Cod.Fair clo chi ctot
  · by_cases hl : out.length < 3996
    · obtain ⟨lo',out',a,b,_⟩:=put_ok ho he hf hl
      exact ⟨lo',_,out',0,a,b⟩
    · exact ⟨lo,rg,out,3,fun k _=>put_full k ho hf (by omega),he⟩
  · exact ⟨lo,rg,out,1,fun k _=>put_bad k ho hf,he⟩
theorem putNum_any {lo rg lo0 rg0 v : Int} {out out0 : List Int} (ho : coder_own.f lo0 rg0 out0=some (lo,rg,out)) (he : EOk lo rg out) (h0 : 0≤v) (h1 : v < 45) :
    ∃ lo' rg' out' e,(∀ k,5010≤k→coder_PutNum.f k lo0 rg0 out0 v 45=some (lo',rg',out',e))∧EOk lo' rg' out' := by
  obtain ⟨lo1,rg1,out1,e1,a,b⟩:=put_any (clo:=v) (chi:=v+1) (ctot:=45) (own_ok he) he
  by_cases h : e1=0
  · exact ⟨lo1,rg1,out1,0,fun k hk=>by rw [putNum_small ho h0 h1 (by decide) a k hk,if_pos h],b⟩
  · exact ⟨lo,rg,out,e1,fun k hk=>by rw [putNum_small ho h0 h1 (by decide) a k hk,if_neg h],he⟩
theorem alone_l0 {g a : List Int} (hg : rt g=true) {lo1 rg1 : Int} {out1 : List Int} (he1 : EOk lo1 rg1 out1) : ∀ (d : Nat) (i lo0 rg0 lo rg : Int) (out0 out : List Int),coder_own.f lo0 rg0 out0=some (lo,rg,out)→EOk lo rg out→(d=0→lo0=lo∧rg0=rg∧out0=out)→0≤i→i+d=5 →
    ∃ lo' rg' out' e,(∀ k,5030+2 * d≤k→gain_Put.l0 k g a true i lo1 rg1 out1 lo0 rg0 out0=some (lo',rg',out',e))∧EOk lo' rg' out'
  | 0,i,lo0,rg0,lo,rg,out0,out,ho,he,h0,hi,hd=>by
    obtain ⟨rfl,rfl,rfl⟩:=h0 rfl
    refine ⟨lo0,rg0,out0,0,fun k hk => ?_,he⟩
    obtain ⟨k,rfl⟩ : ∃ m,k=m+1:=⟨k - 1,by omega⟩
    simp only [gain_Put.l0]
    rw [if_neg (by omega)]
  | d+1,i,lo0,rg0,lo,rg,out0,out,ho,he,h0,hi,hd=>by
    have hl:=rt_len hg
    have hr:=rt_rd hg i
    obtain ⟨lo2,rg2,out2,e2,s1,s2⟩:=putNum_any (v:=rd g i) ho he hr.1 (by omega)
    have gq : ∀ k,5030≤k→gain_Put.l0 (k+2) g a true i lo1 rg1 out1 lo0 rg0 out0=if e2=0 then gain_Put.l0 k g a true (i+1) lo1 rg1 out1 lo2 rg2 out2 else some (lo1,rg1,out1,e2):=fun k hk=>by
      simp only [gain_Put.l0]
      rw [if_pos (by omega),if_pos trivial]
      simp only [gain_Put.j2]
      rw [if_pos hi,if_pos (by omega)]
      unfold gain_put.f
      rw [if_pos rfl,u64w (by omega) (by omega),s1 k (by omega),Option.bind_some,Option.bind_some,i64w (x:=i+1) (by omega) (by omega)]
    by_cases h2 : e2=0
    · obtain ⟨lo',rg',out',e,t1,t2⟩:=alone_l0 (a:=a) hg he1 d (i+1) lo2 rg2 lo2 rg2 out2 out2 (own_ok s2) s2 (fun _=>⟨rfl,rfl,rfl⟩) (by omega) (by omega)
      refine ⟨lo',rg',out',e,fun k hk => ?_,t2⟩
      obtain ⟨k,rfl⟩ : ∃ m,k=m+2:=⟨k - 2,by omega⟩
      rw [gq k (by omega),if_pos h2]
      exact t1 k (by omega)
    · refine ⟨lo1,rg1,out1,e2,fun k hk => ?_,he1⟩
      obtain ⟨k,rfl⟩ : ∃ m,k=m+2:=⟨k - 2,by omega⟩
      rw [gq k (by omega),if_neg h2]
theorem alone_ok {g a : List Int} (hgl : g.length≤100) {lo rg lo0 rg0 : Int} {out out0 : List Int} (ho : coder_own.f lo0 rg0 out0=some (lo,rg,out)) (he : EOk lo rg out) :
    ∃ lo' rg' out' e,(∀ k,5100≤k→gain_Put.f k lo0 rg0 out0 g a true=some (lo',rg',out',e))∧EOk lo' rg' out' := by
  have pb : ∀ k,coder_Put.f k lo0 rg0 out0 0 1 0=some (lo,rg,out,1):=fun k=>put_bad k ho (fun h=>by have:=h.2.2.1;omega)
  by_cases hg : rt g=true
  · obtain ⟨lo',rg',out',e,t1,t3⟩:=alone_l0 (a:=a) hg he 5 0 lo0 rg0 lo rg out0 out ho he (by simp) (by omega) (by omega)
    refine ⟨lo',rg',out',e,fun k hk => ?_,t3⟩
    obtain ⟨k,rfl⟩ : ∃ m,k=m+1:=⟨k - 1,by omega⟩
    unfold gain_Put.f
    rw [pb,Option.bind_some,right_ok g (by omega) _ (by omega),Option.bind_some,if_pos hg,if_pos rfl]
    simp only [gain_Put.j0]
    rw [if_neg (by simp)]
    exact t1 k (by omega)
  · refine ⟨lo,rg,out,1,fun k hk => ?_,he⟩
    obtain ⟨k,rfl⟩ : ∃ m,k=m+1:=⟨k - 1,by omega⟩
    unfold gain_Put.f
    rw [pb,Option.bind_some,right_ok g (by omega) _ (by omega),Option.bind_some,if_neg hg]
    simp only [gain_Put.j0, ↓reduceIte]
end Go.Proofs.Ytkaoiblgfpphoaa.Gan
