/- The document's encoder, and the program's: the same bytes. -/
import Derived.Test.YtkaoiblgfpphoaaZGainPutsCod
import Derived.Test.YtkaoiblgfpphoaaZGainPutsM3
import Derived.Test.YtkaoiblgfpphoaaZGainPutsM1
import Derived.Test.YtkaoiblgfpphoaaZGainPutsM2
import Derived.Test.YtkaoiblgfpphoaaZGainPutsM4
namespace Go.Proofs.Ytkaoiblgfpphoaa.Cod
open Go.RowKit Go.Proofs.YtkaoiblgfpphoaaW.PrintWords Go.Proofs.Ytkaoiblgfpphoaa.Prt Go.Proofs.Ytkaoiblgfpphoaa.Val
set_option linter.unusedVariables false

theorem asEnc_l0 (lo rg RG : Int) (out : List Int) (hb : Bytes out) (hl : out.length≤9000) (h0 : 0≤lo) (h1 : lo≤4294967295) :
    ∀ (d : Nat) (i : Nat) (k : Nat),i+d=out.length→d < k→psalterylaw05_AsEnc.l0 k (i : Int) lo rg out RG (out.take i)=some (RG,out ++ four lo)
  | 0,i,k,hi,hk=>by
    obtain ⟨k,rfl⟩ : ∃ m,k=m+1:=⟨k - 1,by omega⟩
    simp only [psalterylaw05_AsEnc.l0]
    rw [if_neg (by omega),List.take_of_length_le (by omega),Option.bind_some,if_pos (by simp;omega)]
    rw [tdiv_nn h0,tdiv_nn h0,tdiv_nn h0,tmod_nn h0,u64w (x:=lo / 16777216) (by omega) (by omega),u64w (x:=lo / 65536) (by omega) (by omega),u64w (x:=lo / 256) (by omega) (by omega),tmod_nn (by omega),tmod_nn (by omega),i64w (by omega) (by omega),i64w (by omega) (by omega),i64w (by omega) (by omega),i64w (by omega) (by omega)]
    unfold four
    rw [show lo / 16777216 % 256=lo / 16777216 by omega]
  | d+1,i,k,hi,hk=>by
    obtain ⟨k,rfl⟩ : ∃ m,k=m+1:=⟨k - 1,by omega⟩
    have hr:=hb.rd (i : Int)
    have ht : out.take i ++ [rd out i]=out.take (i+1):=by
      rw [List.take_succ_eq_append_getElem (by omega)]
      unfold Go.Proofs.YtkaoiblgfpphoaaW.PrintWords.rd
      simp [List.getD_eq_getElem?_getD,List.getElem?_eq_getElem (show i < out.length by omega)]
    simp only [psalterylaw05_AsEnc.l0]
    rw [if_pos (by omega),if_pos (by omega),if_pos (by rw [List.length_take];omega),i64w (by omega) (by omega),i64w (by omega) (by omega),ht]
    exact asEnc_l0 lo rg RG out hb hl h0 h1 d (i+1) k (by omega) (by omega)
theorem asEnc_ok {lo rg : Int} {out : List Int} (h : EOk lo rg out) (k : Nat) (hk : 5000≤k) : psalterylaw05_AsEnc.f k lo rg out=some (rg,out ++ four lo):=by
  obtain ⟨a,b,c,d,e,f⟩:=h
  unfold psalterylaw05_AsEnc.f
  rw [right_f,Option.bind_some,if_pos (by simp;omega),u64w (by omega) (by omega)]
  exact asEnc_l0 lo rg rg out e (by omega) a b out.length 0 k (by omega) (by omega)
theorem asEnc_bad {lo rg : Int} {out : List Int} (h : ¬ (lo≤4294967295∧16777216≤rg∧(out.length : Int)≤4000)) (k : Nat) : psalterylaw05_AsEnc.f k lo rg out=some (4294967295, [] ++ four 0):=by
  unfold psalterylaw05_AsEnc.f psalteryref05_New.f
  rw [right_f,Option.bind_some,if_neg (by simpa using h)]
  rfl
theorem refPut_l0 : ∀ (m : Nat) (r : Int) (all : List Int) (k : Nat),0 < r→16777216≤r * pw m→(∀ j,j < m→r * pw j < 16777216)→m≤2→all.length+m≤9000→m < k →
    psalteryref05_Put.l0 k r all=some (r * pw m,all ++ List.replicate m 0,0)
  | 0,r,all,k,h0,h1,h2,hm,hl,hk=>by
    obtain ⟨k,rfl⟩ : ∃ m,k=m+1:=⟨k - 1,by omega⟩
    rw [pw_zero] at h1
    simp only [psalteryref05_Put.l0]
    rw [if_neg (by omega),pw_zero]
    simp
  | m+1,r,all,k,h0,h1,h2,hm,hl,hk=>by
    obtain ⟨k,rfl⟩ : ∃ m,k=m+1:=⟨k - 1,by omega⟩
    have h3:=h2 0 (by omega)
    rw [pw_zero] at h3
    simp only [psalteryref05_Put.l0]
    rw [if_pos (by omega),if_pos (by omega),u64w (by omega) (by omega)]
    have e : ∀ j,r * 256 * pw j=r * pw (j+1):=fun j=>by rw [pw_succ,Int.mul_assoc]
    rw [refPut_l0 m (r * 256) (all ++ [0]) k (by omega) (by rw [e];exact h1) (fun j hj=>by rw [e];exact h2 (j+1) (by omega)) (by omega) (by simp;omega) (by omega),e]
    simp [List.replicate_succ]
theorem mOf_least {r : Int} (h : 256≤r) : ∀ j,j < mOf r→r * pw j < 16777216:=by
  have e1 : pw 1=256:=rfl
  have e0 : pw 0=1:=rfl
  unfold mOf
  intro j hj
  split at hj
  · rcases (show j=0∨j=1 by omega) with rfl|rfl
    · rw [e0];omega
    · rw [e1];omega
  · split at hj
    · obtain rfl : j=0:=by omega
      rw [e0];omega
    · omega
theorem zeros_val (m : Nat) : val (List.replicate m 0)=0:=by
  induction m with
  | zero=>rfl
  | succ m ih=>rw [List.replicate_succ',val_snoc,ih];rfl
theorem zeros_bytes (m : Nat) : Bytes (List.replicate m 0):=fun x hx=>by rw [List.eq_of_mem_replicate hx];exact ⟨by decide,by decide⟩
theorem refPut_bad (k : Nat) {rg clo chi ctot : Int} {all : List Int} (hf : ¬ Fair clo chi ctot) : psalteryref05_Put.f k rg all clo chi ctot=some (rg,all,1):=by
  unfold psalteryref05_Put.f
  rw [Fair_f,Option.bind_some,if_neg (by simpa using hf)]
theorem refPut_full (k : Nat) {rg clo chi ctot : Int} {all : List Int} (hf : Fair clo chi ctot) (hl : 4000≤all.length) : psalteryref05_Put.f k rg all clo chi ctot=some (rg,all,3):=by
  unfold psalteryref05_Put.f
  rw [Fair_f,Option.bind_some,if_pos (by simpa using hf),if_pos (by omega)]
theorem refPut_ok {rg clo chi ctot : Int} {all : List Int} (c : 16777216≤rg) (d : rg≤4294967295) (hb : Bytes all) (hf : Fair clo chi ctot) (hl : all.length < 4000) :
    ∃ all',(∀ k,5000≤k→psalteryref05_Put.f k rg all clo chi ctot=some ((prt rg clo chi ctot).1 * pw (mOf (prt rg clo chi ctot).1),all',0))∧Bytes all'∧all'.length=all.length+mOf (prt rg clo chi ctot).1 ∧
      val all' = (val all+(prt rg clo chi ctot).2) % pw all.length * pw (mOf (prt rg clo chi ctot).1):=by
  obtain ⟨p1,p2,p3⟩:=prt_facts c d hf
  have hpart:=Part_f c d hf
  generalize prt rg clo chi ctot=p at *
  obtain ⟨r,s⟩:=p
  dsimp only at *
  obtain ⟨m1,m2,m3⟩:=mOf_range p1 (by omega)
  obtain ⟨b,q1,q2,q3,q4⟩:=add_f all s 4999 hb (by omega) p2 (by omega) (by omega)
  refine ⟨b ++ List.replicate (mOf r) 0,fun k hk => ?_,q2.append (zeros_bytes _),by simp [q3],by rw [val_append,zeros_val,List.length_replicate,q4,Int.add_zero]⟩
  unfold psalteryref05_Put.f
  rw [Fair_f,Option.bind_some,if_pos (by simpa using hf),if_neg (by omega),hpart,Option.bind_some]
  dsimp only
  rw [at_rounds (psalteryref05_add.mono all s) (by omega) q1,Option.bind_some,refPut_l0 (mOf r) r b k (by omega) m1 (mOf_least p1) m3 (by omega) (by omega)]
theorem num_val (lo : Int) (out : List Int) (h0 : 0≤lo) (h1 : lo≤4294967295) : val (out ++ four lo)=num lo out:=by
  rw [val_append,four_val h0 (by omega),four_length]
  rfl
theorem put_same {lo rg lo0 rg0 clo chi ctot : Int} {out out0 : List Int} (ho : coder_own.f lo0 rg0 out0=some (lo,rg,out)) (he : EOk lo rg out) :
    ∃ lo' rg' out' e,(∀ k,5000≤k→coder_Put.f k lo0 rg0 out0 clo chi ctot=some (lo',rg',out',e))∧EOk lo' rg' out'∧(∀ k,5000≤k→psalteryref05_Put.f k rg (out ++ four lo) clo chi ctot=some (rg',out' ++ four lo',e)) ∧
      (e≠0→lo' = lo∧rg' = rg∧out' = out)∧(e=0 ↔ Fair clo chi ctot∧out.length < 3996)∧0≤e∧e≤3:=by
  have hlen : (out ++ four lo).length=out.length+4:=by simp [four]
  by_cases hf : Fair clo chi ctot
  · by_cases hl : out.length < 3996
    · obtain ⟨lo',out',a,b,c,d⟩:=put_ok ho he hf hl
      obtain ⟨a0,b0,c0,d0,e0,f0⟩:=he
      obtain ⟨all',a',b',c',d'⟩:=refPut_ok c0 d0 (e0.append (four_bytes lo)) hf (by omega)
      refine ⟨lo',_,out',0,a,b,fun k hk => ?_,fun h=>absurd rfl h,by simp [hf,hl],by decide,by decide⟩
      rw [a' k hk]
      have : all' = out' ++ four lo' := by
        refine val_inj b' (b.2.2.2.2.1.append (four_bytes _)) (by rw [c',hlen,List.length_append,four_length,c];omega) ?_
        rw [d',num_val lo' out' b.1 b.2.1,d,num_val lo out a0 b0,hlen,pw_add]
        rw [show pw 4=4294967296 from rfl,Int.mul_comm (pw out.length)]
      rw [this]
    · exact ⟨lo,rg,out,3,fun k _=>put_full k ho hf (by omega),he,fun k _=>refPut_full k hf (by omega),fun _=>⟨rfl,rfl,rfl⟩,by simp [hl],by decide,by decide⟩
  · exact ⟨lo,rg,out,1,fun k _=>put_bad k ho hf,he,fun k _=>refPut_bad k hf,fun _=>⟨rfl,rfl,rfl⟩,by simp [hf],by decide,by decide⟩
theorem sameEnc_l0 (x y : Int) (l : List Int) (hl : l.length≤9000) : ∀ (d i k : Nat),i+d=l.length→d < k→psalterylaw05_SameEnc.l0 k (i : Int) x l y l=some true
  | 0,i,k,hi,hk=>by
    obtain ⟨k,rfl⟩ : ∃ m,k=m+1:=⟨k - 1,by omega⟩
    simp only [psalterylaw05_SameEnc.l0]
    rw [if_neg (by omega)]
  | d+1,i,k,hi,hk=>by
    obtain ⟨k,rfl⟩ : ∃ m,k=m+1:=⟨k - 1,by omega⟩
    simp only [psalterylaw05_SameEnc.l0]
    rw [if_pos (by omega),if_pos (by omega),if_pos (by omega),if_pos trivial,i64w (by omega) (by omega)]
    exact sameEnc_l0 x y l hl d (i+1) k (by omega) (by omega)
theorem sameEnc_ok {lo rg : Int} {out : List Int} (h : EOk lo rg out) (k : Nat) (hk : 5000≤k) : psalterylaw05_SameEnc.f k lo rg out rg (out ++ four lo)=some true:=by
  have h' := h
  obtain ⟨a,b,c,d,e,f⟩:=h
  obtain ⟨k,rfl⟩ : ∃ m,k=m+1:=⟨k - 1,by omega⟩
  unfold psalterylaw05_SameEnc.f
  rw [asEnc_ok h' (k+1) hk,Option.bind_some,right_f,Option.bind_some,if_pos (by simp;omega),if_pos rfl]
  simp only [psalterylaw05_SameEnc.j0]
  rw [if_neg (by simp)]
  exact sameEnc_l0 rg rg _ (by simp [four];omega) (out ++ four lo).length 0 k (by omega) (by simp [four];omega)
end Go.Proofs.Ytkaoiblgfpphoaa.Cod
