/- Numbers: put and taken as one choice, or two. -/
import Derived.Test.YtkaoiblgfpphoaaZGainPutsCodB
import Derived.Test.YtkaoiblgfpphoaaZGainPutsM1
import Derived.Test.YtkaoiblgfpphoaaZGainPutsM3
import Derived.Test.YtkaoiblgfpphoaaZGainPutsM4
namespace Go.Proofs.Ytkaoiblgfpphoaa.Cod
open Go.RowKit Go.Proofs.YtkaoiblgfpphoaaW.PrintWords Go.Proofs.YtkaoiblgfpphoaaW.PrintMore Go.Proofs.Ytkaoiblgfpphoaa.Prt Go.Proofs.Ytkaoiblgfpphoaa.Val
set_option linter.unusedVariables false
def half1 (n : Int) : Int:=(n - 1) / 65536+1
theorem halves_small {n : Int} (h0 : 1≤n) (h : n≤65536) : coder_halves.f n=some (n,1):=by
  unfold coder_halves.f
  rw [if_pos h,i64w (by omega) (by omega)]
theorem halves_great {n : Int} (h : 65536 < n) (h1 : n≤4294967296) : coder_halves.f n=some (half1 n,65536):=by
  unfold coder_halves.f half1
  rw [if_neg (by omega),u64w (x:=n - 1) (by omega) (by omega),tdiv_nn (by omega),u64w (by omega) (by omega),i64w (x:=(n - 1) / 65536) (by omega) (by omega),i64w (by omega) (by omega)]
section
variable {lo0 rg0 lo rg : Int} {out0 out : List Int} (ho : coder_own.f lo0 rg0 out0=some (lo,rg,out))
include ho
theorem putNum_bad {v n : Int} (h : n < 1∨4294967296 < n∨n≤v) (k : Nat) (hk : 2≤k) : coder_PutNum.f k lo0 rg0 out0 v n=some (lo,rg,out,1):=by
  obtain ⟨k,rfl⟩ : ∃ m,k=m+1:=⟨k - 1,by omega⟩
  have e : coder_PutNum.j0 (k+1) v n true lo rg out=some (lo,rg,out,1):=by simp only [coder_PutNum.j0, ↓reduceIte]
  unfold coder_PutNum.f
  rw [ho,Option.bind_some]
  dsimp only
  by_cases h1 : n < 1
  · rw [if_pos h1,e]
  · rw [if_neg h1]
    by_cases h2 : n > 4294967296
    · rw [if_pos h2,e]
    · rw [if_neg h2,show decide (v ≥ n)=true by simp;omega,e]
theorem putNum_pre {v n : Int} (h0 : 0≤v) (h1 : v < n) (h2 : n≤4294967296) (k : Nat) : coder_PutNum.f k lo0 rg0 out0 v n=coder_PutNum.j0 k v n false lo rg out:=by
  unfold coder_PutNum.f
  rw [ho,Option.bind_some]
  dsimp only
  rw [if_neg (by omega),if_neg (by omega),show decide (v ≥ n)=false by simp;omega]
theorem putNum_small {v n lo1 rg1 e1 : Int} {out1 : List Int} (h0 : 0≤v) (h1 : v < n) (h2 : n≤65536) (hp : ∀ k,5000≤k→coder_Put.f k lo rg out v (v+1) n=some (lo1,rg1,out1,e1)) (k : Nat) (hk : 5010≤k) :
    coder_PutNum.f k lo0 rg0 out0 v n=if e1=0 then some (lo1,rg1,out1,0) else some (lo,rg,out,e1):=by
  rw [putNum_pre ho h0 h1 (by omega)]
  obtain ⟨k,rfl⟩ : ∃ m,k=m+2:=⟨k - 2,by omega⟩
  simp only [coder_PutNum.j0,halves_small (show 1≤n by omega) h2,Option.bind_some]
  rw [if_neg (by simp),if_neg (by decide),i64w (x:=v) (by omega) (by omega),Int.tdiv_one,i64w (x:=v) (by omega) (by omega),i64w (by omega) (by omega),hp _ (by omega),Option.bind_some]
  dsimp only
  by_cases h : e1=0
  · rw [if_pos h,if_pos h]
    simp only [coder_PutNum.j1]
    rw [if_neg (by simp),if_pos h]
  · rw [if_neg h,if_neg h]
    simp only [coder_PutNum.j1]
    rw [if_neg (by decide),if_neg h]
theorem putNum_great1 {v n lo1 rg1 e1 : Int} {out1 : List Int} (h0 : 0≤v) (h1 : v < n) (h2 : 65536 < n) (h3 : n≤4294967296) (hp : ∀ k,5000≤k→coder_Put.f k lo rg out (v / 65536) (v / 65536+1) (half1 n)=some (lo1,rg1,out1,e1)) (he : e1≠0) (k : Nat) (hk : 5010≤k) :
    coder_PutNum.f k lo0 rg0 out0 v n=some (lo,rg,out,e1):=by
  rw [putNum_pre ho h0 h1 h3]
  obtain ⟨k,rfl⟩ : ∃ m,k=m+2:=⟨k - 2,by omega⟩
  simp only [coder_PutNum.j0,halves_great h2 h3,Option.bind_some]
  rw [if_neg (by simp),if_neg (by decide),i64w (x:=v) (by omega) (by omega),tdiv_nn h0,i64w (x:=v / 65536) (by omega) (by omega),i64w (by omega) (by omega),hp _ (by omega),Option.bind_some]
  dsimp only
  rw [if_neg he]
  simp only [coder_PutNum.j1]
  rw [if_neg (by decide),if_neg he]
theorem putNum_great2 {v n lo1 rg1 lo2 rg2 e2 : Int} {out1 out2 : List Int} (h0 : 0≤v) (h1 : v < n) (h2 : 65536 < n) (h3 : n≤4294967296) (hp : ∀ k,5000≤k→coder_Put.f k lo rg out (v / 65536) (v / 65536+1) (half1 n)=some (lo1,rg1,out1,0))
    (hq : ∀ k,5000≤k→coder_Put.f k lo1 rg1 out1 (v % 65536) (v % 65536+1) 65536=some (lo2,rg2,out2,e2)) (k : Nat) (hk : 5010≤k) :
    coder_PutNum.f k lo0 rg0 out0 v n=if e2=0 then some (lo2,rg2,out2,0) else some (lo,rg,out,e2):=by
  rw [putNum_pre ho h0 h1 h3]
  obtain ⟨k,rfl⟩ : ∃ m,k=m+2:=⟨k - 2,by omega⟩
  simp only [coder_PutNum.j0,halves_great h2 h3,Option.bind_some]
  rw [if_neg (by simp),if_neg (by decide),i64w (x:=v) (by omega) (by omega),tdiv_nn h0,i64w (x:=v / 65536) (by omega) (by omega),i64w (x:=v / 65536+1) (by omega) (by omega),hp _ (by omega),Option.bind_some]
  dsimp only
  rw [if_pos rfl,tmod_nn h0]
  simp only [coder_PutNum.j1]
  rw [if_pos (by simp),i64w (by omega) (by omega),hq _ (by omega),Option.bind_some]
end
theorem refPutNum_bad {rg v n : Int} {all : List Int} (h : n=0∨4294967296 < n∨n≤v) (k : Nat) (hk : 2≤k) : psalteryref05_PutNum.f k rg all v n=some (rg,all,1):=by
  obtain ⟨k,rfl⟩ : ∃ m,k=m+1:=⟨k - 1,by omega⟩
  have e : psalteryref05_PutNum.j0 (k+1) v n true rg all=some (rg,all,1):=by simp only [psalteryref05_PutNum.j0, ↓reduceIte]
  unfold psalteryref05_PutNum.f
  by_cases h1 : n=0
  · rw [if_pos h1,e]
  · rw [if_neg h1]
    by_cases h2 : n > 4294967296
    · rw [if_pos h2,e]
    · rw [if_neg h2,show decide (v ≥ n)=true by simp;omega,e]
theorem refPutNum_pre {rg v n : Int} {all : List Int} (h0 : 0≤v) (h1 : v < n) (h2 : n≤4294967296) (k : Nat) : psalteryref05_PutNum.f k rg all v n=psalteryref05_PutNum.j0 k v n false rg all:=by
  unfold psalteryref05_PutNum.f
  rw [if_neg (by omega),if_neg (by omega),show decide (v ≥ n)=false by simp;omega]
theorem refPutNum_small {rg v n rg1 e1 : Int} {all all1 : List Int} (h0 : 0≤v) (h1 : v < n) (h2 : n≤65536) (hp : ∀ k,5000≤k→psalteryref05_Put.f k rg all v (v+1) n=some (rg1,all1,e1)) (k : Nat) (hk : 5010≤k) :
    psalteryref05_PutNum.f k rg all v n=some (rg1,all1,e1):=by
  rw [refPutNum_pre h0 h1 (by omega)]
  obtain ⟨k,rfl⟩ : ∃ m,k=m+1:=⟨k - 1,by omega⟩
  simp only [psalteryref05_PutNum.j0]
  rw [if_neg (by simp),if_pos h2,i64w (x:=v) (by omega) (by omega),i64w (x:=v+1) (by omega) (by omega),i64w (x:=n) (by omega) (by omega),hp _ (by omega)]
  rfl
theorem refPutNum_great1 {rg v n rg1 e1 : Int} {all all1 : List Int} (h0 : 0≤v) (h1 : v < n) (h2 : 65536 < n) (h3 : n≤4294967296) (hp : ∀ k,5000≤k→psalteryref05_Put.f k rg all (v / 65536) (v / 65536+1) (half1 n)=some (rg1,all1,e1)) (he : e1≠0) (k : Nat) (hk : 5010≤k) :
    psalteryref05_PutNum.f k rg all v n=some (rg,all,e1):=by
  rw [refPutNum_pre h0 h1 h3]
  obtain ⟨k,rfl⟩ : ∃ m,k=m+1:=⟨k - 1,by omega⟩
  simp only [psalteryref05_PutNum.j0]
  unfold half1 at hp
  rw [if_neg (by simp),if_neg (by omega),tdiv_nn h0,u64w (x:=v / 65536) (by omega) (by omega),i64w (x:=v / 65536) (by omega) (by omega),i64w (x:=v / 65536+1) (by omega) (by omega),u64w (x:=n - 1) (by omega) (by omega),tdiv_nn (by omega),u64w (x:=(n - 1) / 65536) (by omega) (by omega),i64w (x:=(n - 1) / 65536) (by omega) (by omega),i64w (x:=(n - 1) / 65536+1) (by omega) (by omega),hp _ (by omega),Option.bind_some]
  dsimp only
  rw [if_neg he]
theorem refPutNum_great2 {rg v n rg1 rg2 e2 : Int} {all all1 all2 : List Int} (h0 : 0≤v) (h1 : v < n) (h2 : 65536 < n) (h3 : n≤4294967296) (hp : ∀ k,5000≤k→psalteryref05_Put.f k rg all (v / 65536) (v / 65536+1) (half1 n)=some (rg1,all1,0))
    (hq : ∀ k,5000≤k→psalteryref05_Put.f k rg1 all1 (v % 65536) (v % 65536+1) 65536=some (rg2,all2,e2)) (k : Nat) (hk : 5010≤k) :
    psalteryref05_PutNum.f k rg all v n=if e2=0 then some (rg2,all2,0) else some (rg,all,e2):=by
  rw [refPutNum_pre h0 h1 h3]
  obtain ⟨k,rfl⟩ : ∃ m,k=m+1:=⟨k - 1,by omega⟩
  simp only [psalteryref05_PutNum.j0]
  unfold half1 at hp
  rw [if_neg (by simp),if_neg (by omega),tdiv_nn h0,u64w (x:=v / 65536) (by omega) (by omega),i64w (x:=v / 65536) (by omega) (by omega),i64w (x:=v / 65536+1) (by omega) (by omega),u64w (x:=n - 1) (by omega) (by omega),tdiv_nn (by omega),u64w (x:=(n - 1) / 65536) (by omega) (by omega),i64w (x:=(n - 1) / 65536) (by omega) (by omega),i64w (x:=(n - 1) / 65536+1) (by omega) (by omega),hp _ (by omega),Option.bind_some]
  dsimp only
  rw [if_pos rfl,tmod_nn h0,i64w (x:=v % 65536) (by omega) (by omega),i64w (x:=v % 65536+1) (by omega) (by omega),hq _ (by omega),Option.bind_some]
theorem putNum_same {lo rg lo0 rg0 v n : Int} {out out0 : List Int} (ho : coder_own.f lo0 rg0 out0=some (lo,rg,out)) (he : EOk lo rg out) (hv : 0≤v) (hn : 0≤n) :
    ∃ lo' rg' out' e,(∀ k,5010≤k→coder_PutNum.f k lo0 rg0 out0 v n=some (lo',rg',out',e))∧EOk lo' rg' out'∧(∀ k,5010≤k→psalteryref05_PutNum.f k rg (out ++ four lo) v n=some (rg',out' ++ four lo',e))∧(e≠0→lo' = lo∧rg' = rg∧out' = out)∧0≤e∧e≤3:=by
  by_cases hb : n < 1∨4294967296 < n∨n≤v
  · exact ⟨lo,rg,out,1,fun k hk=>putNum_bad ho hb k (by omega),he,fun k hk=>refPutNum_bad (by omega) k (by omega),fun _=>⟨rfl,rfl,rfl⟩,by decide,by decide⟩
  · by_cases hs : n≤65536
    · obtain ⟨lo1,rg1,out1,e1,a,b,c,d,_,d0,d3⟩:=put_same (clo:=v) (chi:=v+1) (ctot:=n) (own_ok he) he
      by_cases h1 : e1=0
      · subst h1
        exact ⟨lo1,rg1,out1,0,fun k hk=>putNum_small ho hv (by omega) hs a k hk,b,fun k hk=>refPutNum_small hv (by omega) hs c k hk,fun h=>absurd rfl h,by decide,by decide⟩
      · obtain ⟨rfl,rfl,rfl⟩:=d h1
        exact ⟨lo1,rg1,out1,e1,fun k hk=>by rw [putNum_small ho hv (by omega) hs a k hk,if_neg h1],he,fun k hk=>refPutNum_small hv (by omega) hs c k hk,fun _=>⟨rfl,rfl,rfl⟩,d0,d3⟩
    · obtain ⟨lo1,rg1,out1,e1,a,b,c,d,_,d0,d3⟩:=put_same (clo:=v / 65536) (chi:=v / 65536+1) (ctot:=half1 n) (own_ok he) he
      by_cases h1 : e1=0
      · subst h1
        obtain ⟨lo2,rg2,out2,e2,a2,b2,c2,d2,_,d02,d32⟩:=put_same (clo:=v % 65536) (chi:=v % 65536+1) (ctot:=65536) (own_ok b) b
        by_cases h2 : e2=0
        · subst h2
          exact ⟨lo2,rg2,out2,0,fun k hk=>putNum_great2 ho hv (by omega) (by omega) (by omega) a a2 k hk,b2,fun k hk=>refPutNum_great2 hv (by omega) (by omega) (by omega) c c2 k hk,fun h=>absurd rfl h,by decide,by decide⟩
        · exact ⟨lo,rg,out,e2,fun k hk=>by rw [putNum_great2 ho hv (by omega) (by omega) (by omega) a a2 k hk,if_neg h2],he,fun k hk=>by rw [refPutNum_great2 hv (by omega) (by omega) (by omega) c c2 k hk,if_neg h2],fun _=>⟨rfl,rfl,rfl⟩,d02,d32⟩
      · exact ⟨lo,rg,out,e1,fun k hk=>putNum_great1 ho hv (by omega) (by omega) (by omega) a h1 k hk,he,fun k hk=>refPutNum_great1 hv (by omega) (by omega) (by omega) c h1 k hk,fun _=>⟨rfl,rfl,rfl⟩,d0,d3⟩
end Go.Proofs.Ytkaoiblgfpphoaa.Cod
