/- Gains put: what the program and the document put, step by step. -/
import Derived.Test.YtkaoiblgfpphoaaZGainPutsGanT
import Derived.Test.YtkaoiblgfpphoaaZGainPutsM1
import Derived.Test.YtkaoiblgfpphoaaZGainPutsM2
import Derived.Test.YtkaoiblgfpphoaaZGainPutsM4
import Derived.Test.YtkaoiblgfpphoaaZGainPutsM5
namespace Go.Proofs.Ytkaoiblgfpphoaa.Gan
open Go.RowKit Go.Proofs.YtkaoiblgfpphoaaW.PrintWords Go.Proofs.YtkaoiblgfpphoaaW.PrintMore Go.Proofs.Ytkaoiblgfpphoaa.Prt Go.Proofs.Ytkaoiblgfpphoaa.Val Go.Proofs.Ytkaoiblgfpphoaa.Cod
set_option linter.unusedVariables false
theorem j3_true {g a all all2 ALL : List Int} {intra : Bool} {i R rg rg2 e : Int} (hi : 0≤i) (h5 : i < 5) (hg : rt g=true) (hp : ∀ k,5010≤k→psalteryref05_PutNum.f k rg all (rd g i) 45=some (rg2,all2,e)) (k : Nat) (hk : 5010≤k) :
    psalteryref11_Put.j3 (k+1) g a intra i true R ALL rg all=if e=0 then psalteryref11_Put.l0 k g a intra (i+1) R ALL rg2 all2 else some (R,ALL,e):=by
  have hl:=rt_len hg
  have hr:=rt_rd hg i
  simp only [psalteryref11_Put.j3]
  rw [if_pos trivial,if_pos hi,if_pos (by omega),u64w (by omega) (by omega),hp k hk,Option.bind_some,i64w (x:=i+1) (by omega) (by omega)]
theorem j3_false {g a all ALL : List Int} {intra : Bool} {i R rg : Int} (hi : 0≤i) (h5 : i < 5) (k : Nat) :
    psalteryref11_Put.j3 (k+1) g a intra i false R ALL rg all=psalteryref11_Put.l0 k g a intra (i+1) R ALL rg all:=by
  simp only [psalteryref11_Put.j3]
  rw [if_neg (by simp),i64w (x:=i+1) (by omega) (by omega)]
theorem step_same {g a ALL : List Int} {intra : Bool} (hg : rt g=true) (ha : intra=true∨rt a=true) {R i lo0 rg0 lo rg : Int} {out0 out : List Int} (ho : coder_own.f lo0 rg0 out0=some (lo,rg,out)) (he : EOk lo rg out) (hi : 0≤i) (h5 : i < 5) :
    ∃ lo2 rg2 out2 e2,(∀ k,5020≤k→gain_put.f k lo0 rg0 out0 (rd g i) (if intra=true then 0 else rd a i) intra=some (lo2,rg2,out2,e2))∧EOk lo2 rg2 out2 ∧
      (e2=0→∀ r K,5020≤K→(∀ k,K≤k→psalteryref11_Put.l0 k g a intra (i+1) R ALL rg2 (out2 ++ four lo2)=some r)→∀ k,K+4≤k→psalteryref11_Put.l0 k g a intra i R ALL rg (out ++ four lo)=some r) ∧
      (e2≠0→∀ k,5030≤k→psalteryref11_Put.l0 k g a intra i R ALL rg (out ++ four lo)=some (R,ALL,e2)):=by
  have hl:=rt_len hg
  have hr:=rt_rd hg i
  cases intra with
  | true =>
    obtain ⟨lo2,rg2,out2,e2,p1,p2,p3,_⟩:=putNum_same (v:=rd g i) (n:=45) ho he (by omega) (by decide)
    have q : ∀ k,5010≤k→psalteryref11_Put.l0 (k+2) g a true i R ALL rg (out ++ four lo)=if e2=0 then psalteryref11_Put.l0 k g a true (i+1) R ALL rg2 (out2 ++ four lo2) else some (R,ALL,e2):=fun k hk=>by
      rw [← j3_true (a:=a) (intra:=true) (R:=R) (ALL:=ALL) hi h5 hg p3 k hk]
      simp only [psalteryref11_Put.l0]
      rw [if_pos (by omega),if_pos trivial]
    refine ⟨lo2,rg2,out2,e2,fun k hk => ?_,p2,fun h r K hK hn k hk => ?_,fun h k hk => ?_⟩
    · unfold gain_put.f
      rw [if_pos rfl,u64w (by omega) (by omega),p1 k (by omega),Option.bind_some]
    · obtain ⟨k,rfl⟩ : ∃ m,k=m+2:=⟨k - 2,by omega⟩
      rw [q k (by omega),if_pos h]
      exact hn k (by omega)
    · obtain ⟨k,rfl⟩ : ∃ m,k=m+2:=⟨k - 2,by omega⟩
      rw [q k (by omega),if_neg h]
  | false =>
    have hra : rt a=true:=ha.resolve_left (by simp)
    have hla:=rt_len hra
    have ar:=rt_rd hra i
    rw [if_neg (by simp)]
    by_cases hn : -3≤rd g i - rd a i∧rd g i - rd a i≤3
    · obtain ⟨lo2,rg2,out2,e2,p1,p2,p3,_⟩:=put_same (clo:=rd g i - rd a i+3) (chi:=rd g i - rd a i+3+1) (ctot:=8) ho he
      have q : ∀ k,5010≤k→psalteryref11_Put.l0 (k+3) g a false i R ALL rg (out ++ four lo)=if e2=0 then psalteryref11_Put.l0 k g a false (i+1) R ALL rg2 (out2 ++ four lo2) else some (R,ALL,e2):=fun k hk=>by
        rw [← j3_false (g:=g) (a:=a) (intra:=false) (R:=R) (ALL:=ALL) hi h5 k]
        simp only [psalteryref11_Put.l0]
        rw [if_pos (by omega),if_neg (by simp),if_pos hi,if_pos (by omega),if_pos (by omega),i64w (x:=rd g i - rd a i) (by omega) (by omega),i64w (x:=rd g i - rd a i+3) (by omega) (by omega),if_neg (by omega),show decide (rd g i - rd a i+3 > 6)=false by simp;omega]
        simp only [psalteryref11_Put.j2]
        rw [if_neg (by simp),i64w (x:=rd g i - rd a i+3+1) (by omega) (by omega),p3 _ (by omega),Option.bind_some]
      refine ⟨lo2,rg2,out2,e2,fun k hk => ?_,p2,fun h r K hK hn k hk => ?_,fun h k hk => ?_⟩
      · obtain ⟨k,rfl⟩ : ∃ m,k=m+1:=⟨k - 1,by omega⟩
        unfold gain_put.f
        rw [if_neg (by simp),i64w (x:=rd g i - rd a i) (by omega) (by omega),if_pos (by omega),show decide (rd g i - rd a i≤3)=true by simp;omega]
        simp only [gain_put.j0]
        rw [if_pos trivial,i64w (x:=rd g i - rd a i+3) (by omega) (by omega),i64w (x:=rd g i - rd a i+3+1) (by omega) (by omega),p1 k (by omega),Option.bind_some]
      · obtain ⟨k,rfl⟩ : ∃ m,k=m+3:=⟨k - 3,by omega⟩
        rw [q k (by omega),if_pos h]
        exact hn k (by omega)
      · obtain ⟨k,rfl⟩ : ∃ m,k=m+3:=⟨k - 3,by omega⟩
        rw [q k (by omega),if_neg h]
    · obtain ⟨lo1,rg1,out1,e1,p1,p2,p3,_⟩:=put_same (clo:=7) (chi:=8) (ctot:=8) ho he
      have p3' : ∀ k,5000≤k→psalteryref05_Put.f k rg (out ++ four lo) 7 (7+1) 8=some (rg1,out1 ++ four lo1,e1):=p3
      have gq : ∀ k,5010≤k→gain_put.f (k+1) lo0 rg0 out0 (rd g i) (rd a i) false=if e1=0 then coder_PutNum.f k lo1 rg1 out1 (rd g i) 45 else some (lo1,rg1,out1,e1):=fun k hk=>by
        have e : gain_put.j0 (k+1) (rd g i) (rd g i - rd a i) false lo0 rg0 out0=if e1=0 then coder_PutNum.f k lo1 rg1 out1 (rd g i) 45 else some (lo1,rg1,out1,e1):=by
          simp only [gain_put.j0]
          rw [if_neg (by simp),p1 k (by omega),Option.bind_some,u64w (by omega) (by omega)]
          dsimp only
          split
          · cases coder_PutNum.f k lo1 rg1 out1 (rd g i) 45 <;> rfl
          · rfl
        unfold gain_put.f
        rw [if_neg (by simp),i64w (x:=rd g i - rd a i) (by omega) (by omega)]
        split
        · rw [show decide (rd g i - rd a i≤3)=false by simp;omega]
          exact e
        · exact e
      have rq : ∀ k,5010≤k→psalteryref11_Put.l0 (k+3) g a false i R ALL rg (out ++ four lo)=if e1=0 then psalteryref11_Put.j3 (k+1) g a false i true R ALL rg1 (out1 ++ four lo1) else some (R,ALL,e1):=fun k hk=>by
        have e : psalteryref11_Put.j2 (k+2) g a false i false (rd g i - rd a i+3) true R ALL rg (out ++ four lo)=if e1=0 then psalteryref11_Put.j3 (k+1) g a false i true R ALL rg1 (out1 ++ four lo1) else some (R,ALL,e1):=by
          simp only [psalteryref11_Put.j2]
          rw [if_pos trivial,p3' (k+1) (by omega),Option.bind_some]
        simp only [psalteryref11_Put.l0]
        rw [if_pos (by omega),if_neg (by simp),if_pos hi,if_pos (by omega),if_pos (by omega),i64w (x:=rd g i - rd a i) (by omega) (by omega),i64w (x:=rd g i - rd a i+3) (by omega) (by omega)]
        split
        · exact e
        · rw [show decide (rd g i - rd a i+3 > 6)=true by simp;omega]
          exact e
      by_cases h1 : e1=0
      · obtain ⟨lo2,rg2,out2,e2,s1,s2,s3,_⟩:=putNum_same (v:=rd g i) (n:=45) (own_ok p2) p2 (by omega) (by decide)
        have q : ∀ k,5010≤k→psalteryref11_Put.l0 (k+3) g a false i R ALL rg (out ++ four lo)=if e2=0 then psalteryref11_Put.l0 k g a false (i+1) R ALL rg2 (out2 ++ four lo2) else some (R,ALL,e2):=fun k hk=>by
          rw [rq k hk,if_pos h1,j3_true hi h5 hg s3 k hk]
        refine ⟨lo2,rg2,out2,e2,fun k hk => ?_,s2,fun h r K hK hn k hk => ?_,fun h k hk => ?_⟩
        · obtain ⟨k,rfl⟩ : ∃ m,k=m+1:=⟨k - 1,by omega⟩
          rw [gq k (by omega),if_pos h1,s1 k (by omega)]
        · obtain ⟨k,rfl⟩ : ∃ m,k=m+3:=⟨k - 3,by omega⟩
          rw [q k (by omega),if_pos h]
          exact hn k (by omega)
        · obtain ⟨k,rfl⟩ : ∃ m,k=m+3:=⟨k - 3,by omega⟩
          rw [q k (by omega),if_neg h]
      · refine ⟨lo1,rg1,out1,e1,fun k hk => ?_,p2,fun h=>absurd h h1,fun h k hk => ?_⟩
        · obtain ⟨k,rfl⟩ : ∃ m,k=m+1:=⟨k - 1,by omega⟩
          rw [gq k (by omega),if_neg h1]
        · obtain ⟨k,rfl⟩ : ∃ m,k=m+3:=⟨k - 3,by omega⟩
          rw [rq k (by omega),if_neg h1]
theorem puts_l0 {g a : List Int} {intra : Bool} (hg : rt g=true) (ha : intra=true∨rt a=true) {lo1 rg1 : Int} {out1 : List Int} (he1 : EOk lo1 rg1 out1) : ∀ (d : Nat) (i lo0 rg0 lo rg : Int) (out0 out : List Int),coder_own.f lo0 rg0 out0=some (lo,rg,out)→EOk lo rg out→(d=0→lo0=lo∧rg0=rg∧out0=out)→0≤i→i+d=5 →
    ∃ lo' rg' out' e,(∀ k,5030+2 * d≤k→gain_Put.l0 k g a intra i lo1 rg1 out1 lo0 rg0 out0=some (lo',rg',out',e))∧(∀ k,5030+4 * d≤k→psalteryref11_Put.l0 k g a intra i rg1 (out1 ++ four lo1) rg (out ++ four lo)=some (rg',out' ++ four lo',e))∧EOk lo' rg' out'
  | 0,i,lo0,rg0,lo,rg,out0,out,ho,he,h0,hi,hd=>by
    obtain ⟨rfl,rfl,rfl⟩:=h0 rfl
    refine ⟨lo0,rg0,out0,0,fun k hk => ?_,fun k hk => ?_,he⟩
    · obtain ⟨k,rfl⟩ : ∃ m,k=m+1:=⟨k - 1,by omega⟩
      simp only [gain_Put.l0]
      rw [if_neg (by omega)]
    · obtain ⟨k,rfl⟩ : ∃ m,k=m+1:=⟨k - 1,by omega⟩
      simp only [psalteryref11_Put.l0]
      rw [if_neg (by omega)]
  | d+1,i,lo0,rg0,lo,rg,out0,out,ho,he,h0,hi,hd=>by
    have hl:=rt_len hg
    obtain ⟨lo2,rg2,out2,e2,s1,s2,s3,s4⟩:=step_same (ALL:=out1 ++ four lo1) (R:=rg1) hg ha ho he hi (by omega)
    have gq : ∀ k,5030≤k→gain_Put.l0 (k+2) g a intra i lo1 rg1 out1 lo0 rg0 out0=if e2=0 then gain_Put.l0 k g a intra (i+1) lo1 rg1 out1 lo2 rg2 out2 else some (lo1,rg1,out1,e2):=fun k hk=>by
      have e : gain_Put.j2 (k+1) g a intra i (if intra=true then 0 else rd a i) i lo1 rg1 out1 lo0 rg0 out0=if e2=0 then gain_Put.l0 k g a intra (i+1) lo1 rg1 out1 lo2 rg2 out2 else some (lo1,rg1,out1,e2):=by
        simp only [gain_Put.j2]
        rw [if_pos hi,if_pos (by omega),s1 k (by omega),Option.bind_some,i64w (x:=i+1) (by omega) (by omega)]
      simp only [gain_Put.l0]
      rw [if_pos (by omega)]
      cases intra with
      | true=>rw [if_pos rfl];exact e
      | false =>
        have hla:=rt_len (ha.resolve_left (by simp))
        rw [if_neg (by simp),if_pos hi,if_pos (by omega)]
        exact e
    by_cases h2 : e2=0
    · obtain ⟨lo',rg',out',e,t1,t2,t3⟩:=puts_l0 hg ha he1 d (i+1) lo2 rg2 lo2 rg2 out2 out2 (own_ok s2) s2 (fun _=>⟨rfl,rfl,rfl⟩) (by omega) (by omega)
      refine ⟨lo',rg',out',e,fun k hk => ?_,fun k hk=>s3 h2 _ (5030+4 * d) (by omega) t2 k (by omega),t3⟩
      obtain ⟨k,rfl⟩ : ∃ m,k=m+2:=⟨k - 2,by omega⟩
      rw [gq k (by omega),if_pos h2]
      exact t1 k (by omega)
    · refine ⟨lo1,rg1,out1,e2,fun k hk => ?_,fun k hk=>s4 h2 k (by omega),he1⟩
      obtain ⟨k,rfl⟩ : ∃ m,k=m+2:=⟨k - 2,by omega⟩
      rw [gq k (by omega),if_neg h2]
theorem puts_same {g a : List Int} (intra : Bool) (hgl : g.length≤100) (hal : a.length≤100) {lo rg lo0 rg0 : Int} {out out0 : List Int} (ho : coder_own.f lo0 rg0 out0=some (lo,rg,out)) (he : EOk lo rg out) :
    ∃ lo' rg' out' e,(∀ k,5100≤k→gain_Put.f k lo0 rg0 out0 g a intra=some (lo',rg',out',e))∧(∀ k,5100≤k→psalteryref11_Put.f k rg (out ++ four lo) g a intra=some (rg',out' ++ four lo',e))∧EOk lo' rg' out' := by
  have pb : ∀ k,coder_Put.f k lo0 rg0 out0 0 1 0=some (lo,rg,out,1):=fun k=>put_bad k ho (fun h=>by have:=h.2.2.1;omega)
  have jt : ∀ k,gain_Put.j0 (k+1) g a intra true lo0 rg0 out0 lo rg out=some (lo,rg,out,1):=fun k=>by simp only [gain_Put.j0, ↓reduceIte]
  have rt' : ∀ k,psalteryref11_Put.j0 (k+1) g a intra true rg (out ++ four lo)=some (rg,out ++ four lo,1):=fun k=>by simp only [psalteryref11_Put.j0, ↓reduceIte]
  by_cases hg : rt g=true
  · by_cases ha : intra=true∨rt a=true
    · obtain ⟨lo',rg',out',e,t1,t2,t3⟩:=puts_l0 hg ha he 5 0 lo0 rg0 lo rg out0 out ho he (by simp) (by omega) (by omega)
      refine ⟨lo',rg',out',e,fun k hk => ?_,fun k hk => ?_,t3⟩
      · obtain ⟨k,rfl⟩ : ∃ m,k=m+1:=⟨k - 1,by omega⟩
        have key : gain_Put.j0 (k+1) g a intra false lo0 rg0 out0 lo rg out=some (lo',rg',out',e):=by
          simp only [gain_Put.j0]
          rw [if_neg (by simp)]
          exact t1 k (by omega)
        unfold gain_Put.f
        rw [pb,Option.bind_some,right_ok g (by omega) _ (by omega),Option.bind_some,if_pos hg]
        cases intra with
        | true=>rw [if_pos rfl];exact key
        | false =>
          rw [if_neg (by simp),right_ok a (by omega) _ (by omega),Option.bind_some,ha.resolve_left (by simp)]
          exact key
      · obtain ⟨k,rfl⟩ : ∃ m,k=m+1:=⟨k - 1,by omega⟩
        have key : psalteryref11_Put.j0 (k+1) g a intra false rg (out ++ four lo)=some (rg',out' ++ four lo',e):=by
          simp only [psalteryref11_Put.j0]
          rw [if_neg (by simp)]
          exact t2 k (by omega)
        unfold psalteryref11_Put.f
        rw [refRight_ok g (by omega) _ (by omega),Option.bind_some,if_pos hg]
        cases intra with
        | true=>rw [if_pos rfl];exact key
        | false =>
          rw [if_neg (by simp),refRight_ok a (by omega) _ (by omega),Option.bind_some,ha.resolve_left (by simp)]
          exact key
    · have hi : intra=false:=by cases intra with|true=>exact absurd (.inl rfl) ha|false=>rfl
      have hra : rt a=false:=by cases h : rt a with|true=>exact absurd (.inr h) ha|false=>rfl
      subst hi
      refine ⟨lo,rg,out,1,fun k hk => ?_,fun k hk => ?_,he⟩
      · obtain ⟨k,rfl⟩ : ∃ m,k=m+1:=⟨k - 1,by omega⟩
        unfold gain_Put.f
        rw [pb,Option.bind_some,right_ok g (by omega) _ (by omega),Option.bind_some,if_pos hg,if_neg (by simp),right_ok a (by omega) _ (by omega),Option.bind_some,hra]
        exact jt k
      · obtain ⟨k,rfl⟩ : ∃ m,k=m+1:=⟨k - 1,by omega⟩
        unfold psalteryref11_Put.f
        rw [refRight_ok g (by omega) _ (by omega),Option.bind_some,if_pos hg,if_neg (by simp),refRight_ok a (by omega) _ (by omega),Option.bind_some,hra]
        exact rt' k
  · refine ⟨lo,rg,out,1,fun k hk => ?_,fun k hk => ?_,he⟩
    · obtain ⟨k,rfl⟩ : ∃ m,k=m+1:=⟨k - 1,by omega⟩
      unfold gain_Put.f
      rw [pb,Option.bind_some,right_ok g (by omega) _ (by omega),Option.bind_some,if_neg hg]
      exact jt k
    · obtain ⟨k,rfl⟩ : ∃ m,k=m+1:=⟨k - 1,by omega⟩
      unfold psalteryref11_Put.f
      rw [refRight_ok g (by omega) _ (by omega),Option.bind_some,if_neg hg]
      exact rt' k
end Go.Proofs.Ytkaoiblgfpphoaa.Gan
