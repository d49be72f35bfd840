/- The decoder, the program's and the document's. -/
import Derived.Test.YtkaoiblgfpphoaaZGainAloneCodR
import Derived.Test.YtkaoiblgfpphoaaZGainAloneM3
import Derived.Test.YtkaoiblgfpphoaaZGainAloneM2
import Derived.Test.YtkaoiblgfpphoaaZGainAloneM4
namespace Go.Proofs.Ytkaoiblgfpphoaa.Cod
open Go.RowKit Go.Proofs.YtkaoiblgfpphoaaW.PrintWords Go.Proofs.YtkaoiblgfpphoaaW.PrintMore Go.Proofs.Ytkaoiblgfpphoaa.Prt Go.Proofs.Ytkaoiblgfpphoaa.Val
set_option linter.unusedVariables false

theorem rd_out (l : List Int) (i : Int) (h : (l.length : Int)≤i) : rd l i=0:=by
  unfold Go.Proofs.YtkaoiblgfpphoaaW.PrintWords.rd
  rw [List.getD_eq_getElem?_getD,List.getElem?_eq_none (by omega)]
  rfl
def DOk (code rg at_ : Int) : Prop:=0≤code∧code≤4294967295∧16777216≤rg∧rg≤4294967295∧0≤at_∧at_≤9223372036854775807
theorem at_f {l : List Int} (hb : Bytes l) {i : Int} (h : 0≤i) : coder_at.f l i=some (rd l i):=by
  have hr:=hb.rd i
  unfold coder_at.f
  by_cases h1 : i ≥ (l.length : Int)
  · rw [if_pos h1,rd_out l i (by omega)]
  · rw [if_neg h1,if_pos h,if_pos (by omega),u64w (by omega) (by omega)]
theorem next_f {l : List Int} (hb : Bytes l) (hl : l.length≤9000) {i : Int} (h : 0≤i) : psalteryref05_next.f l i=some (rd l i,if i < (l.length : Int) then i+1 else i):=by
  have hr:=hb.rd i
  unfold psalteryref05_next.f
  by_cases h1 : i < (l.length : Int)
  · rw [if_pos h1,if_pos h,if_pos h1,u64w (by omega) (by omega),i64w (by omega) (by omega)]
  · rw [if_neg h1,if_neg h1,rd_out l i (by omega)]
def head4 (l : List Int) : Int:=rd l 0 * 16777216+rd l 1 * 65536+rd l 2 * 256+rd l 3
theorem open_f {l : List Int} (hb : Bytes l) : coder_Open.f l=some (head4 l,4294967295,l,4):=by
  have h0:=hb.rd 0
  have h1:=hb.rd 1
  have h2:=hb.rd 2
  have h3:=hb.rd 3
  unfold coder_Open.f
  rw [at_f hb (by decide),Option.bind_some,at_f hb (by decide),Option.bind_some,at_f hb (by decide),Option.bind_some,at_f hb (by decide),Option.bind_some]
  rw [u64w (by omega) (by omega),u64w (by omega) (by omega),u64w (by omega) (by omega),or24 (x:=rd l 0 * 16777216) (y:=rd l 1 * 65536) (by omega) (by omega) (by omega) (by omega) (by omega),or16 (x:=rd l 0 * 16777216+rd l 1 * 65536) (y:=rd l 2 * 256) (by omega) (by omega) (by omega) (by omega) (by omega),or8 (by omega) (by omega) (by omega) (by omega) (by omega)]
  rfl
theorem rd_stuck (l : List Int) (j : Int) : rd l (if j < (l.length : Int) then j else (l.length : Int))=rd l j:=by
  split
  · rfl
  · rw [rd_out l j (by omega),rd_out l _ (by omega)]
theorem open_step {l : List Int} (hb : Bytes l) (hl : l.length≤9000) (k : Nat) (j code rg a : Int) (l' : List Int) (h0 : 0≤j) (h1 : j < 4) (hc : 0≤code) (hc1 : code≤16777215) :
    psalteryref05_Open.l0 (k+1) l (if j < (l.length : Int) then j else (l.length : Int)) j code rg l' a=psalteryref05_Open.l0 k l (if j+1 < (l.length : Int) then j+1 else (l.length : Int)) (j+1) (code * 256+rd l j) rg l' a:=by
  have hr:=hb.rd j
  simp only [psalteryref05_Open.l0]
  rw [if_pos h1,next_f hb hl (by split <;> omega),Option.bind_some]
  dsimp only
  rw [rd_stuck,i64w (by omega) (by omega),u64w (x:=code * 256) (by omega) (by omega),u64w (by omega) (by omega)]
  congr 1
  repeat' split
  all_goals omega
theorem refOpen_f {l : List Int} (hb : Bytes l) (hl : l.length≤9000) (k : Nat) (hk : 5≤k) : psalteryref05_Open.f k l=some (head4 l,4294967295,l,4):=by
  have h0:=hb.rd 0
  have h1:=hb.rd 1
  have h2:=hb.rd 2
  have h3:=hb.rd 3
  obtain ⟨k,rfl⟩ : ∃ m,k=m+5:=⟨k - 5,by omega⟩
  unfold psalteryref05_Open.f
  have s:=open_step hb hl (k+4) 0 0 4294967295 4 l (by omega) (by omega) (by omega) (by omega)
  rw [show (if (0 : Int) < (l.length : Int) then (0 : Int) else (l.length : Int))=0 by split <;> omega] at s
  have z1 : (0 : Int)+1=1:=rfl
  have z2 : (1 : Int)+1=2:=rfl
  have z3 : (2 : Int)+1=3:=rfl
  rw [s,z1,open_step hb hl (k+3) 1 _ 4294967295 4 l (by omega) (by omega) (by omega) (by omega),z2,open_step hb hl (k+2) 2 _ 4294967295 4 l (by omega) (by omega) (by omega) (by omega),z3,open_step hb hl (k+1) 3 _ 4294967295 4 l (by omega) (by omega) (by omega) (by omega)]
  simp only [psalteryref05_Open.l0]
  rw [if_neg (by omega)]
  unfold head4
  show some ((((0 * 256+rd l 0) * 256+rd l 1) * 256+rd l 2) * 256+rd l 3,(4294967295 : Int),l,(4 : Int))=_
  congr 2;omega
theorem rightDec_f (code rg at_ : Int) (l : List Int) : coder_RightDec.f code rg l at_=some (decide (code≤4294967295∧16777216≤rg∧0≤at_)):=by
  unfold coder_RightDec.f
  grind
theorem good_ok {code rg at_ : Int} {l : List Int} (h : DOk code rg at_) : coder_good.f code rg l at_=some (code,rg,l,at_):=by
  obtain ⟨a,b,c,d,e,f⟩:=h
  unfold coder_good.f
  rw [rightDec_f,Option.bind_some,if_pos (by simp;omega)]
theorem good_bad {code rg at_ : Int} {l : List Int} (h : ¬ (code≤4294967295∧16777216≤rg∧0≤at_)) : coder_good.f code rg l at_=some (0,4294967295, [],4):=by
  unfold coder_good.f
  rw [rightDec_f,Option.bind_some,if_neg (by simpa using h),open_f Bytes.nil]
  rfl
theorem nil_ok : DOk 0 4294967295 4:=by unfold DOk;decide
theorem asDec_ok {code rg at_ : Int} {l : List Int} (h : DOk code rg at_) (k : Nat) : psalterylaw05_AsDec.f k code rg l at_=some (code,rg,l,at_):=by
  obtain ⟨a,b,c,d,e,f⟩:=h
  unfold psalterylaw05_AsDec.f
  rw [if_neg (by omega),if_neg (by omega),if_neg (by omega),u64w (by omega) (by omega)]
theorem asDec_bad {code rg at_ : Int} {l : List Int} (h : ¬ (code≤4294967295∧16777216≤rg∧0≤at_)) (k : Nat) (hk : 5≤k) : psalterylaw05_AsDec.f k code rg l at_=some (0,4294967295, [],4):=by
  have e : psalteryref05_Open.f k []=some (0,4294967295, [],4):=refOpen_f Bytes.nil (by decide) k hk
  unfold psalterylaw05_AsDec.f
  rw [e]
  simp only [Option.bind_some]
  by_cases h1 : code > 4294967295
  · rw [if_pos h1]
  · rw [if_neg h1]
    by_cases h2 : rg < 16777216
    · rw [if_pos h2]
    · rw [if_neg h2,if_pos (by omega)]
def gt (code rg tot : Int) : Int:=if code / (rg / tot) > tot - 1 then tot - 1 else code / (rg / tot)
theorem get_pre {rg tot : Int} (c : 16777216≤rg) (h0 : 1≤tot) (h1 : tot≤65536) : 256≤rg / tot∧rg / tot≤rg:=by
  have a : 256≤rg / tot:=by rw [Int.le_ediv_iff_mul_le (by omega)];omega
  exact ⟨a,Int.ediv_le_self _ (by omega)⟩
theorem gt_bound {code rg tot : Int} (a : 0≤code) (c : 16777216≤rg) (h0 : 1≤tot) (h1 : tot≤65536) : 0≤gt code rg tot∧gt code rg tot < tot:=by
  have h:=get_pre c h0 h1
  have h2 : 0≤code / (rg / tot):=Int.ediv_nonneg a (by omega)
  unfold gt
  split <;> omega
theorem get_ok {code0 rg0 at0 code rg at_ tot : Int} {l0 l : List Int} (hg : coder_good.f code0 rg0 l0 at0=some (code,rg,l,at_)) (h : DOk code rg at_) (h0 : 1≤tot) (h1 : tot≤65536) : coder_Get.f code0 rg0 l0 at0 tot=some (gt code rg tot,0):=by
  obtain ⟨a,b,c,d,e,f⟩:=h
  have hp:=get_pre c h0 h1
  have h2 : 0≤code / (rg / tot):=Int.ediv_nonneg a (by omega)
  have h3 : code / (rg / tot)≤code:=Int.ediv_le_self _ a
  unfold coder_Get.f
  rw [hg,Option.bind_some]
  dsimp only
  rw [if_neg (by omega),if_neg (by omega),show tot % 4294967296=tot by omega,if_neg (by omega),tdiv_nn (by omega : (0 : Int)≤rg)]
  unfold gt
  generalize rg / tot=r at *
  rw [show r % 4294967296=r by omega,if_neg (by omega),tdiv_nn a]
  generalize code / r=q at *
  rw [u64w (by omega) (by omega),i64w (by omega) (by omega),i64w (by omega) (by omega)]
  unfold num_Clamp.f
  rw [if_neg (by omega)]
  split <;> rfl
def dn (l : List Int) : Nat→Int × Int→Int × Int
  | 0,s=>s
  | m+1,s=>dn l m (s.1 * 256 % 4294967296+rd l s.2,if s.2 < (l.length : Int) then s.2+1 else s.2)
theorem dn_bound {l : List Int} (hb : Bytes l) : ∀ (m : Nat) (s : Int × Int),0≤s.1→s.1≤4294967295→0≤s.2→s.2≤9223372036854775807→l.length≤9000 →
    0≤(dn l m s).1∧(dn l m s).1≤4294967295∧0≤(dn l m s).2∧(dn l m s).2≤9223372036854775807
  | 0,s,a,b,c,d,_=>⟨a,b,c,d⟩
  | m+1,s,a,b,c,d,hl=>by
    have hr:=hb.rd s.2
    refine dn_bound hb m _ ?_ ?_ ?_ ?_ hl <;> dsimp only
    · omega
    · omega
    · split <;> omega
    · split <;> omega
theorem take_l0 {l : List Int} (hb : Bytes l) (hl : l.length≤9000) (rg : Int) : ∀ (m : Nat) (r : Int) (s : Int × Int) (k : Nat),0 < r→16777216≤r * pw m→r * pw m≤4294967295→(∀ j,j < m→r * pw j < 16777216)→0≤s.1→s.1≤4294967295→0≤s.2→s.2≤9223372036854775807→m < k →
    coder_Take.l0 k r s.1 rg l s.2=some ((dn l m s).1,r * pw m,l,(dn l m s).2,0)
  | 0,r,s,k,h0,h1,h1',h2,a,b,c,d,hk=>by
    obtain ⟨k,rfl⟩ : ∃ m,k=m+1:=⟨k - 1,by omega⟩
    rw [pw_zero] at h1
    simp only [coder_Take.l0]
    rw [if_neg (by omega),pw_zero,Int.mul_one]
    rfl
  | m+1,r,s,k,h0,h1,h1',h2,a,b,c,d,hk=>by
    obtain ⟨k,rfl⟩ : ∃ m,k=m+1:=⟨k - 1,by omega⟩
    have h3:=h2 0 (by omega)
    rw [pw_zero] at h3
    have hr:=hb.rd s.2
    have e : ∀ j,r * 256 * pw j=r * pw (j+1):=fun j=>by rw [pw_succ,Int.mul_assoc]
    simp only [coder_Take.l0]
    rw [if_pos (by omega),at_f hb c,Option.bind_some,u64w (x:=s.1 * 256) (by omega) (by omega),and32 (by omega) (by omega),or8 (by omega) (by omega) (by omega) (by omega) (by omega),Int.emod_eq_of_lt (a:=r * 256) (by omega) (by omega)]
    have ih:=fun (a2 : Int) (ha : 0≤a2) (hb2 : a2≤9223372036854775807)=>take_l0 hb hl rg m (r * 256) (s.1 * 256 % 4294967296+rd l s.2,a2) k (by omega) (by rw [e];exact h1) (by rw [e];exact h1') (fun j hj=>by rw [e];exact h2 (j+1) (by omega)) (by dsimp only;omega) (by dsimp only;omega) ha hb2 (by omega)
    by_cases h4 : s.2 < (l.length : Int)
    · rw [if_pos h4,i64w (by omega) (by omega),ih (s.2+1) (by omega) (by omega),e]
      simp only [dn,if_pos h4]
    · rw [if_neg h4,ih s.2 c d,e]
      simp only [dn,if_neg h4]
def tk (l : List Int) (code rg at_ lo hi tot : Int) : Int × Int × Int :=
  let p:=prt rg lo hi tot
  let s:=dn l (mOf p.1) (code - (if p.2 < code then p.2 else code),at_)
  (s.1,p.1 * pw (mOf p.1),s.2)
theorem tk_ok {l : List Int} {code rg at_ lo hi tot : Int} (hb : Bytes l) (hl : l.length≤9000) (h : DOk code rg at_) (hf : Fair lo hi tot) : DOk (tk l code rg at_ lo hi tot).1 (tk l code rg at_ lo hi tot).2.1 (tk l code rg at_ lo hi tot).2.2:=by
  obtain ⟨a,b,c,d,e,f⟩:=h
  obtain ⟨p1,p2,p3⟩:=prt_facts c d hf
  obtain ⟨m1,m2,m3⟩:=mOf_range p1 (by omega)
  obtain ⟨d1,d2,d3,d4⟩:=dn_bound hb (mOf (prt rg lo hi tot).1) (code - (if (prt rg lo hi tot).2 < code then (prt rg lo hi tot).2 else code),at_) (by dsimp only;split <;> omega) (by dsimp only;split <;> omega) e f hl
  exact ⟨d1,d2,m1,m2,d3,d4⟩
theorem take_ok {code0 rg0 at0 code rg at_ lo hi tot : Int} {l0 l : List Int} (hg : coder_good.f code0 rg0 l0 at0=some (code,rg,l,at_)) (h : DOk code rg at_) (hb : Bytes l) (hl : l.length≤9000) (hf : Fair lo hi tot) (k : Nat) (hk : 4≤k) :
    coder_Take.f k code0 rg0 l0 at0 lo hi tot=some ((tk l code rg at_ lo hi tot).1,(tk l code rg at_ lo hi tot).2.1,l,(tk l code rg at_ lo hi tot).2.2,0):=by
  obtain ⟨a,b,c,d,e,f⟩:=h
  obtain ⟨p1,p2,p3⟩:=prt_facts c d hf
  have hpart:=part_f c d hf
  unfold coder_Take.f tk
  rw [hg,Option.bind_some]
  dsimp only
  rw [fair_f,Option.bind_some,if_pos (by simpa using hf),hpart,Option.bind_some]
  generalize prt rg lo hi tot=p at *
  obtain ⟨r,s⟩:=p
  dsimp only at *
  obtain ⟨m1,m2,m3⟩:=mOf_range p1 (by omega)
  have e1 : IntKind.u64.wrap (code - mn code s)=code - (if s < code then s else code):=by
    unfold mn
    split <;> exact u64w (by omega) (by omega)
  rw [e1]
  exact take_l0 hb hl rg (mOf r) r (code - (if s < code then s else code),at_) k (by omega) m1 m2 (mOf_least p1) (by dsimp only;split <;> omega) (by dsimp only;split <;> omega) e f (by omega)
theorem sameDec_f (code rg at_ : Int) (l : List Int) (h : 0≤rg) (h1 : rg≤4294967295) : psalterylaw05_SameDec.f code rg l at_ code rg l at_=some true:=by
  unfold psalterylaw05_SameDec.f
  rw [if_pos rfl,u64w h (by omega),if_pos rfl,if_pos rfl]
  simp
theorem dec_any {code rg at_ : Int} {l : List Int} (hc : 0≤code) (hr : rg≤4294967295) (ha : at_≤9223372036854775807) (hb : Bytes l) (hl : l.length≤9000) :
    ∃ code' rg' l' at',coder_good.f code rg l at_=some (code',rg',l',at')∧DOk code' rg' at'∧Bytes l'∧l'.length≤9000∧∀ k,5≤k→psalterylaw05_AsDec.f k code rg l at_=some (code',rg',l',at'):=by
  by_cases h : code≤4294967295∧16777216≤rg∧0≤at_
  · have hd : DOk code rg at_:=⟨hc,h.1,h.2.1,hr,h.2.2,ha⟩
    exact ⟨code,rg,l,at_,good_ok hd,hd,hb,hl,fun k _=>asDec_ok hd k⟩
  · exact ⟨0,4294967295, [],4,good_bad h,nil_ok,Bytes.nil,by decide,fun k hk=>asDec_bad h k hk⟩
end Go.Proofs.Ytkaoiblgfpphoaa.Cod
