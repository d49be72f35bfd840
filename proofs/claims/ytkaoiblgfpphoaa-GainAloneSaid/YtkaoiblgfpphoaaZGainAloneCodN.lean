/- Numbers: put and taken as one choice, or two. -/
import Derived.Test.YtkaoiblgfpphoaaZGainAloneCodB
import Derived.Test.YtkaoiblgfpphoaaZGainAloneM1
import Derived.Test.YtkaoiblgfpphoaaZGainAloneM3
import Derived.Test.YtkaoiblgfpphoaaZGainAloneM2
namespace Go.Proofs.Ytkaoiblgfpphoaa.Cod
open Go.RowKit Go.Proofs.YtkaoiblgfpphoaaW.PrintWords Go.Proofs.YtkaoiblgfpphoaaW.PrintMore Go.Proofs.Ytkaoiblgfpphoaa.Prt Go.Proofs.Ytkaoiblgfpphoaa.Val
set_option linter.unusedVariables false
def half1 (n : Int) : Int:=(n - 1) / 65536+1
theorem halves_small {n : Int} (h0 : 1≤n) (h : n≤65536) : coder_halves.f n=some (n,1):=by
  unfold coder_halves.f
  rw [if_pos h,i64w (by omega) (by omega)]
theorem halves_great {n : Int} (h : 65536 < n) (h1 : n≤4294967296) : coder_halves.f n=some (half1 n,65536):=by
  unfold coder_halves.f half1
  rw [if_neg (by omega),u64w (x:=n - 1) (by omega) (by omega),tdiv_nn (by omega),u64w (by omega) (by omega),i64w (x:=(n - 1) / 65536) (by omega) (by omega),i64w (by omega) (by omega)]
section
variable {lo0 rg0 lo rg : Int} {out0 out : List Int} (ho : coder_own.f lo0 rg0 out0=some (lo,rg,out))
include ho
theorem putNum_pre {v n : Int} (h0 : 0≤v) (h1 : v < n) (h2 : n≤4294967296) (k : Nat) : coder_PutNum.f k lo0 rg0 out0 v n=coder_PutNum.j0 k v n false lo rg out:=by
  unfold coder_PutNum.f
  rw [ho,Option.bind_some]
  dsimp only
  rw [if_neg (by omega),if_neg (by omega),show decide (v ≥ n)=false by simp;omega]
theorem putNum_small {v n lo1 rg1 e1 : Int} {out1 : List Int} (h0 : 0≤v) (h1 : v < n) (h2 : n≤65536) (hp : ∀ k,5000≤k→coder_Put.f k lo rg out v (v+1) n=some (lo1,rg1,out1,e1)) (k : Nat) (hk : 5010≤k) :
    coder_PutNum.f k lo0 rg0 out0 v n=if e1=0 then some (lo1,rg1,out1,0) else some (lo,rg,out,e1):=by
  rw [putNum_pre ho h0 h1 (by omega)]
  obtain ⟨k,rfl⟩ : ∃ m,k=m+2:=⟨k - 2,by omega⟩
  simp only [coder_PutNum.j0,halves_small (show 1≤n by omega) h2,Option.bind_some]
  rw [if_neg (by simp),if_neg (by decide),i64w (x:=v) (by omega) (by omega),Int.tdiv_one,i64w (x:=v) (by omega) (by omega),i64w (by omega) (by omega),hp _ (by omega),Option.bind_some]
  dsimp only
  by_cases h : e1=0
  · rw [if_pos h,if_pos h]
    simp only [coder_PutNum.j1]
    rw [if_neg (by simp),if_pos h]
  · rw [if_neg h,if_neg h]
    simp only [coder_PutNum.j1]
    rw [if_neg (by decide),if_neg h]
end
def tn (l : List Int) (code rg at_ n : Int) : Int × Int × Int × Int :=
  if n≤65536 then let g:=gt code rg n;let t:=tk l code rg at_ g (g+1) n;(t.1,t.2.1,t.2.2,g)
  else let g:=gt code rg (half1 n);let t:=tk l code rg at_ g (g+1) (half1 n);let m:=gt t.1 t.2.1 65536;let u:=tk l t.1 t.2.1 t.2.2 m (m+1) 65536
    (u.1,u.2.1,u.2.2,if n - 1 < g * 65536+m then n - 1 else g * 65536+m)
theorem gt_fair {code rg tot : Int} (a : 0≤code) (c : 16777216≤rg) (h0 : 1≤tot) (h1 : tot≤65536) : Cod.Fair (gt code rg tot) (gt code rg tot+1) tot:=by
  have:=gt_bound a c h0 h1
  exact ⟨by omega,by omega,by omega,h1⟩
theorem tn_ok {l : List Int} {code rg at_ n : Int} (hb : Bytes l) (hl : l.length≤9000) (h : DOk code rg at_) (h0 : 1≤n) (h1 : n≤4294967296) : DOk (tn l code rg at_ n).1 (tn l code rg at_ n).2.1 (tn l code rg at_ n).2.2.1∧0≤(tn l code rg at_ n).2.2.2∧(tn l code rg at_ n).2.2.2 < n:=by
  unfold tn
  split
  · have hg:=gt_bound (code:=code) h.1 h.2.2.1 h0 (by assumption)
    exact ⟨tk_ok hb hl h (gt_fair h.1 h.2.2.1 h0 (by assumption)),hg.1,hg.2⟩
  · have hh : 1≤half1 n∧half1 n≤65536:=by unfold half1;omega
    have hg:=gt_bound (code:=code) h.1 h.2.2.1 hh.1 hh.2
    have ht:=tk_ok hb hl h (gt_fair h.1 h.2.2.1 hh.1 hh.2)
    have hm:=gt_bound ht.1 ht.2.2.1 (show (1 : Int)≤65536 by decide) (by decide)
    refine ⟨tk_ok hb hl ht (gt_fair ht.1 ht.2.2.1 (by decide) (by decide)), ?_, ?_⟩
    · dsimp only;split <;> omega
    · dsimp only;split <;> omega
theorem takeNum_ok {code0 rg0 at0 code rg at_ n : Int} {l0 l : List Int} (hg : coder_good.f code0 rg0 l0 at0=some (code,rg,l,at_)) (h : DOk code rg at_) (hb : Bytes l) (hl : l.length≤9000) (h0 : 1≤n) (h1 : n≤4294967296) (k : Nat) (hk : 10≤k) :
    coder_TakeNum.f k code0 rg0 l0 at0 n=some ((tn l code rg at_ n).1,(tn l code rg at_ n).2.1,l,(tn l code rg at_ n).2.2.1,(tn l code rg at_ n).2.2.2,0):=by
  obtain ⟨k,rfl⟩ : ∃ m,k=m+1:=⟨k - 1,by omega⟩
  unfold coder_TakeNum.f tn
  rw [hg,Option.bind_some]
  dsimp only
  rw [if_neg (by omega),show decide (n > 4294967296)=false by simp;omega]
  simp only [coder_TakeNum.j0]
  rw [if_neg (by simp)]
  by_cases hs : n≤65536
  · have hgt:=gt_bound (code:=code) h.1 h.2.2.1 h0 hs
    have hf:=gt_fair (code:=code) h.1 h.2.2.1 h0 hs
    rw [halves_small h0 hs,Option.bind_some]
    dsimp only
    rw [get_ok (good_ok h) h h0 hs,Option.bind_some]
    dsimp only
    rw [i64w (x:=gt code rg n+1) (by omega) (by omega),take_ok (good_ok h) h hb hl hf k (by omega),Option.bind_some]
    dsimp only
    rw [if_neg (by decide),if_pos hs,u64w (x:=gt code rg n) (by omega) (by omega),u64w (x:=n - 1) (by omega) (by omega)]
    dsimp only
    have e : mn (gt code rg n) (n - 1)=gt code rg n:=by unfold mn;rw [if_neg (by omega)]
    rw [e]
  · have hh : 1≤half1 n∧half1 n≤65536:=by unfold half1;omega
    have hgt:=gt_bound (code:=code) h.1 h.2.2.1 hh.1 hh.2
    have hf:=gt_fair (code:=code) h.1 h.2.2.1 hh.1 hh.2
    have ht:=tk_ok (at_:=at_) hb hl h hf
    have hm:=gt_bound ht.1 ht.2.2.1 (show (1 : Int)≤65536 by decide) (by decide)
    have hf2:=gt_fair ht.1 ht.2.2.1 (show (1 : Int)≤65536 by decide) (by decide)
    rw [halves_great (by omega) h1,Option.bind_some]
    dsimp only
    rw [get_ok (good_ok h) h hh.1 hh.2,Option.bind_some]
    dsimp only
    rw [i64w (x:=gt code rg (half1 n)+1) (by omega) (by omega),take_ok (good_ok h) h hb hl hf k (by omega),Option.bind_some]
    dsimp only
    rw [if_pos (by decide),get_ok (good_ok ht) ht (by decide) (by decide),Option.bind_some]
    dsimp only
    rw [i64w (x:=gt _ _ 65536+1) (by omega) (by omega),take_ok (good_ok ht) ht hb hl hf2 k (by omega),Option.bind_some]
    dsimp only
    rw [if_neg hs,u64w (x:=gt code rg (half1 n)) (by omega) (by omega),u64w (x:=65536) (by decide) (by decide),u64w (x:=gt code rg (half1 n) * 65536) (by omega) (by omega),u64w (x:=gt _ _ 65536) (by omega) (by omega),u64w (x:=_+_) (by omega) (by omega),u64w (x:=n - 1) (by omega) (by omega)]
    rfl
end Go.Proofs.Ytkaoiblgfpphoaa.Cod
