/- What the coder's functions (and the document's) come to, on numbers and lists. -/
import Derived.Test.YtkaoiblgfpphoaaZGainPutsVal
import Derived.Test.YtkaoiblgfpphoaaZGainPutsM1
import Derived.Test.YtkaoiblgfpphoaaZGainPutsM2
import Derived.Test.YtkaoiblgfpphoaaZGainPutsM4
namespace Go.Proofs.Ytkaoiblgfpphoaa.Cod
open Go.RowKit Go.Proofs.YtkaoiblgfpphoaaW.PrintWords Go.Proofs.Ytkaoiblgfpphoaa.Prt Go.Proofs.Ytkaoiblgfpphoaa.Val
set_option linter.unusedVariables false

def Fair (lo hi tot : Int) : Prop:=0≤lo∧lo < hi∧hi≤tot∧tot≤65536
instance (lo hi tot : Int) : Decidable (Fair lo hi tot):=by unfold Fair;exact inferInstance
theorem fair_f (lo hi tot : Int) : coder_fair.f lo hi tot=some (decide (Fair lo hi tot)):=by
  unfold coder_fair.f Fair
  grind
theorem Fair_f (lo hi tot : Int) : psalteryref05_Fair.f lo hi tot=some (decide (Fair lo hi tot)):=by
  unfold psalteryref05_Fair.f Fair
  grind
def prt (rg lo hi tot : Int) : Int × Int:=(if hi=tot then rg - rg / tot * lo else rg / tot * (hi - lo),rg / tot * lo)
theorem div_facts {rg lo hi tot : Int} (h0 : 16777216≤rg) (h1 : rg≤4294967295) (hf : Fair lo hi tot) :
    256≤rg / tot∧rg / tot≤rg∧0≤rg / tot * lo∧rg / tot * lo+rg / tot * (hi - lo)=rg / tot * hi∧rg / tot * hi≤rg / tot * tot∧rg / tot * tot≤rg∧rg / tot≤rg / tot * (hi - lo):=by
  obtain ⟨f1,f2,f3,f4⟩:=hf
  have ht : 0 < tot:=by omega
  have e1 : 256≤rg / tot:=by
    rw [Int.le_ediv_iff_mul_le ht];omega
  have e2 : rg / tot * tot≤rg:=Int.ediv_mul_le _ (by omega)
  generalize rg / tot=r at *
  have e3 : r≤r * tot:=by
    have:=Int.mul_le_mul_of_nonneg_left (show (1 : Int)≤tot by omega) (show (0 : Int)≤r by omega)
    omega
  have e4 : r * hi≤r * tot:=Int.mul_le_mul_of_nonneg_left f3 (by omega)
  have e5 : 0≤r * lo:=Int.mul_nonneg (by omega) f1
  have e6 : r≤r * (hi - lo):=by
    have:=Int.mul_le_mul_of_nonneg_left (show (1 : Int)≤hi - lo by omega) (show (0 : Int)≤r by omega)
    omega
  exact ⟨e1,by omega,e5,by rw [Int.mul_sub];omega,e4,e2,e6⟩
theorem prt_facts {rg lo hi tot : Int} (h0 : 16777216≤rg) (h1 : rg≤4294967295) (hf : Fair lo hi tot) :
    256≤(prt rg lo hi tot).1∧0≤(prt rg lo hi tot).2∧(prt rg lo hi tot).1+(prt rg lo hi tot).2≤rg:=by
  obtain ⟨a,b,c,d,e,f,g⟩:=div_facts h0 h1 hf
  unfold prt
  dsimp only
  split <;> omega
theorem part_f {rg lo hi tot : Int} (h0 : 16777216≤rg) (h1 : rg≤4294967295) (hf : Fair lo hi tot) : coder_part.f rg lo hi tot=some (prt rg lo hi tot):=by
  obtain ⟨a,b,c,d,e,f,g⟩:=div_facts h0 h1 hf
  obtain ⟨f1,f2,f3,f4⟩:=hf
  have w1 : tot % 4294967296=tot:=by omega
  have w2 : IntKind.u64.wrap lo=lo:=u64w (by omega) (by omega)
  have w3 : wrap64 (hi - lo)=hi - lo:=i64w (by omega) (by omega)
  have w4 : (hi - lo) % 4294967296=hi - lo:=by omega
  unfold coder_part.f prt
  rw [w1,tdiv_nn (by omega : (0 : Int)≤rg),w2,w3,w4]
  generalize rg / tot=r at *
  have w5 : r % 4294967296=r:=by omega
  rw [w5,u64w c (by omega),if_neg (by omega)]
  by_cases h : hi=tot
  · rw [if_pos h,if_pos h];congr 2;omega
  · rw [if_neg h,if_neg h];congr 2;omega
theorem Part_f {rg lo hi tot : Int} (h0 : 16777216≤rg) (h1 : rg≤4294967295) (hf : Fair lo hi tot) : psalteryref05_part.f rg lo hi tot=some (prt rg lo hi tot):=by
  obtain ⟨a,b,c,d,e,f,g⟩:=div_facts h0 h1 hf
  obtain ⟨f1,f2,f3,f4⟩:=hf
  have w1 : IntKind.u64.wrap tot=tot:=u64w (by omega) (by omega)
  have w2 : IntKind.u64.wrap lo=lo:=u64w (by omega) (by omega)
  have w3 : wrap64 (hi - lo)=hi - lo:=i64w (by omega) (by omega)
  have w4 : IntKind.u64.wrap (hi - lo)=hi - lo:=u64w (by omega) (by omega)
  unfold psalteryref05_part.f prt
  rw [w1,tdiv_nn (by omega : (0 : Int)≤rg),w2,w3,w4]
  generalize rg / tot=r at *
  rw [u64w (x:=r) (by omega) (by omega),u64w c (by omega),if_neg (by omega)]
  by_cases h : hi=tot
  · rw [if_pos h,if_pos h,u64w (by omega) (by omega)]
  · rw [if_neg h,if_neg h,u64w (by omega) (by omega)]

theorem carry_l0 : ∀ (n : Nat) (a b : List Int) (k : Nat),a.length=n→Bytes a→(a ++ b).length≤10000→n < k →
    ∃ a',coder_carry.l0 k (a ++ b) ((n : Int) - 1)=some (a' ++ b)∧Bytes a'∧a'.length=n∧val a' = (val a+1) % pw n
  | 0,a,b,k,ha,_,hl,hk=>by
    obtain ⟨k,rfl⟩ : ∃ m,k=m+1:=⟨k - 1,by omega⟩
    obtain rfl:=List.length_eq_zero_iff.1 ha
    refine ⟨[], ?_,Bytes.nil,rfl,by rw [pw_zero,val_nil];omega⟩
    simp only [coder_carry.l0]
    rw [if_neg (by omega)]
  | n+1,a,b,k,ha,hb,hl,hk=>by
    obtain ⟨k,rfl⟩ : ∃ m,k=m+1:=⟨k - 1,by omega⟩
    obtain ⟨a0,x,rfl,ha0⟩:=ex_snoc ha
    have hx:=hb x (by simp)
    have e : ((n+1 : Nat) : Int) - 1=(n : Int):=by omega
    have hlen : (a0 ++ [x] ++ b).length=n+1+b.length:=by simp [ha0];omega
    have hn : (n : Int)=(a0.length : Int):=by omega
    rw [List.append_assoc,List.singleton_append] at *
    rw [e]
    simp only [coder_carry.l0]
    rw [if_pos (by omega),if_pos (by omega),if_pos (by omega),Option.bind_some,rd_mid a0 b x _ hn,set_mid a0 b x _ _ hn,rd_mid a0 b _ _ hn]
    by_cases h : (x+1) % 256=0
    · obtain rfl : x=255:=by omega
      rw [if_pos h,i64w (by omega) (by omega)]
      obtain ⟨a',h1,h2,h3,h4⟩:=carry_l0 n a0 (0 :: b) k ha0 hb.left (by simp at hl ⊢; omega) (by omega)
      refine ⟨a' ++ [0], ?_,h2.append (Bytes.one (by decide) (by decide)),by simp [h3], ?_⟩
      · rw [List.append_assoc,List.singleton_append];exact h1
      · rw [val_snoc,val_snoc,h4,pw_succ,show val a0 * 256+255+1=256 * (val a0+1) by omega,Int.mul_emod_mul_of_pos _ _ (by decide)];omega
    · rw [if_neg h]
      refine ⟨a0 ++ [x+1], ?_,hb.left.append (Bytes.one (by omega) (by omega)),by simp [ha0], ?_⟩
      · rw [List.append_assoc,List.singleton_append,show (x+1) % 256=x+1 by omega]
      · have hv:=val_bound hb.left
        rw [val_snoc,val_snoc,pw_succ]
        rw [ha0] at hv
        rw [Int.emod_eq_of_lt (by omega) (by omega)];omega
theorem carry_f (l : List Int) (k : Nat) (hb : Bytes l) (hl : l.length≤10000) (hk : l.length < k) : ∃ r,coder_carry.f k l=some r∧Bytes r∧r.length=l.length∧val r=(val l+1) % pw l.length:=by
  obtain ⟨r,h1,h2,h3,h4⟩:=carry_l0 l.length l [] k rfl hb (by simpa using hl) hk
  refine ⟨r, ?_,h2,h3,h4⟩
  unfold coder_carry.f
  rw [i64w (by omega) (by omega)]
  simpa using h1
theorem add_l0 : ∀ (n : Nat) (a b : List Int) (c : Int) (k : Nat),a.length=n→Bytes a→(a ++ b).length≤10000→0≤c→c≤1152921504606846976→n < k →
    ∃ a',psalteryref05_add.l0 k c (a ++ b) ((n : Int) - 1)=some (a' ++ b)∧Bytes a'∧a'.length=n∧val a' = (val a+c) % pw n
  | 0,a,b,c,k,ha,_,hl,hc,hc',hk=>by
    obtain ⟨k,rfl⟩ : ∃ m,k=m+1:=⟨k - 1,by omega⟩
    obtain rfl:=List.length_eq_zero_iff.1 ha
    refine ⟨[], ?_,Bytes.nil,rfl,by rw [pw_zero,val_nil];omega⟩
    simp only [psalteryref05_add.l0]
    rw [if_neg (by omega)]
  | n+1,a,b,c,k,ha,hb,hl,hc,hc',hk=>by
    obtain ⟨k,rfl⟩ : ∃ m,k=m+1:=⟨k - 1,by omega⟩
    obtain ⟨a0,x,rfl,ha0⟩:=ex_snoc ha
    have hx:=hb x (by simp)
    have e : ((n+1 : Nat) : Int) - 1=(n : Int):=by omega
    have hlen : (a0 ++ [x] ++ b).length=n+1+b.length:=by simp [ha0];omega
    have hn : (n : Int)=(a0.length : Int):=by omega
    rw [List.append_assoc,List.singleton_append] at *
    rw [e]
    simp only [psalteryref05_add.l0]
    rw [if_pos (by omega),if_pos (by omega),if_pos (by omega),rd_mid a0 b x _ hn,set_mid a0 b x _ _ hn,u64w (x:=x) (by omega) (by omega),u64w (x:=c+x) (by omega) (by omega),tdiv_nn (by omega),tmod_nn (by omega),u64w (by omega) (by omega),i64w (by omega) (by omega),i64w (by omega) (by omega)]
    obtain ⟨a',h1,h2,h3,h4⟩:=add_l0 n a0 ((c+x) % 256 :: b) ((c+x) / 256) k ha0 hb.left (by simp at hl ⊢; omega) (by omega) (by omega) (by omega)
    refine ⟨a' ++ [(c+x) % 256], ?_,h2.append (Bytes.one (by omega) (by omega)),by simp [h3], ?_⟩
    · rw [List.append_assoc,List.singleton_append];exact h1
    · rw [val_snoc,val_snoc,h4,pw_succ]
      have h5 : val a0 * 256+x+c=256 * (val a0+(c+x) / 256)+(c+x) % 256:=by omega
      have hp:=pw_pos n
      have h6:=Int.emod_lt_of_pos (val a0+(c+x) / 256) hp
      have h7:=Int.emod_nonneg (val a0+(c+x) / 256) (show pw n≠0 by omega)
      have h8:=Int.mul_ediv_add_emod (val a0+(c+x) / 256) (pw n)
      rw [h5]
      generalize val a0+(c+x) / 256=y at *
      have h9 : 256 * y+(c+x) % 256=256 * (y % pw n)+(c+x) % 256+256 * pw n * (y / pw n):=by rw [Int.mul_assoc];omega
      rw [h9,Int.add_mul_emod_self_left,Int.emod_eq_of_lt (a:=256 * (y % pw n)+(c+x) % 256) (b:=256 * pw n) (by omega) (by omega)];omega
theorem add_f (l : List Int) (c : Int) (k : Nat) (hb : Bytes l) (hl : l.length≤10000) (hc : 0≤c) (hc' : c≤1152921504606846976) (hk : l.length < k) :
    ∃ r,psalteryref05_add.f k l c=some r∧Bytes r∧r.length=l.length∧val r=(val l+c) % pw l.length:=by
  obtain ⟨r,h1,h2,h3,h4⟩:=add_l0 l.length l [] c k rfl hb (by simpa using hl) hc hc' hk
  refine ⟨r, ?_,h2,h3,h4⟩
  unfold psalteryref05_add.f
  simp only [Option.bind_some,List.nil_append,List.length_nil,Nat.zero_add]
  rw [if_pos (by omega),i64w (by omega) (by omega)]
  simpa using h1

def EOk (lo rg : Int) (out : List Int) : Prop:=0≤lo∧lo≤4294967295∧16777216≤rg∧rg≤4294967295∧Bytes out∧out.length≤4000
def num (lo : Int) (out : List Int) : Int:=val out * 4294967296+lo
theorem rightEnc_f (lo rg : Int) (out : List Int) : coder_RightEnc.f lo rg out=some (decide (lo≤4294967295∧16777216≤rg∧(out.length : Int)≤4000)):=by
  unfold coder_RightEnc.f
  grind
theorem right_f (lo rg : Int) (out : List Int) : psalterylaw05_right.f lo rg out=some (decide (lo≤4294967295∧16777216≤rg∧(out.length : Int)≤4000)):=by
  unfold psalterylaw05_right.f
  grind
theorem own_ok {lo rg : Int} {out : List Int} (h : EOk lo rg out) : coder_own.f lo rg out=some (lo,rg,out):=by
  obtain ⟨a,b,c,d,e,f⟩:=h
  unfold coder_own.f
  rw [rightEnc_f,Option.bind_some,if_pos (by simp;omega)]
  simp only [Option.bind_some,List.nil_append,List.length_nil,Nat.zero_add]
  rw [if_pos (by omega)]
theorem own_bad {lo rg : Int} {out : List Int} (h : ¬ (lo≤4294967295∧16777216≤rg∧(out.length : Int)≤4000)) : coder_own.f lo rg out=some (0,4294967295, []):=by
  unfold coder_own.f coder_New.f
  rw [rightEnc_f,Option.bind_some,if_neg (by simpa using h)]
  rfl
theorem new_ok : EOk 0 4294967295 []:=⟨by decide,by decide,by decide,by decide,Bytes.nil,by decide⟩
def mOf (r : Int) : Nat:=if r < 65536 then 2 else if r < 16777216 then 1 else 0
theorem mOf_range {r : Int} (h : 256≤r) (h1 : r≤4294967295) : 16777216≤r * pw (mOf r)∧r * pw (mOf r)≤4294967295∧mOf r≤2:=by
  unfold mOf
  have e2 : pw 2=65536:=rfl
  have e1 : pw 1=256:=rfl
  have e0 : pw 0=1:=rfl
  split
  · rw [e2];omega
  · split
    · rw [e1];omega
    · rw [e0];omega
theorem put_stop (k : Nat) {r : Int} (low rg : Int) (out : List Int) (h : ¬ r < 16777216) : coder_Put.l0 (k+1) r low rg out=some (low,r,out,0):=by
  simp only [coder_Put.l0]
  rw [if_neg h]
theorem put_step (k : Nat) {r low : Int} (rg : Int) {out : List Int} (h : r < 16777216) (h0 : 256≤r) (hl : 0≤low) (hl1 : low≤4294967295) (ho : out.length≤9000) :
    coder_Put.l0 (k+1) r low rg out=coder_Put.l0 k (r * 256) (low * 256 % 4294967296) rg (out ++ [low / 16777216]):=by
  simp only [coder_Put.l0]
  rw [if_pos h,if_pos (by omega),u64w (by omega) (by omega),and32 (by omega) (by omega),Int.emod_eq_of_lt (a:=r * 256) (by omega) (by omega),Int.emod_eq_of_lt (a:=low / 16777216) (by omega) (by omega)]
theorem num_step {low : Int} {out : List Int} (hl : 0≤low) (hl1 : low≤4294967295) : num (low * 256 % 4294967296) (out ++ [low / 16777216])=num low out * 256:=by
  unfold num
  rw [val_snoc];omega
theorem put_l0 {r low : Int} (rg : Int) {out : List Int} (h : 256≤r) (h1 : r≤4294967295) (hl : 0≤low) (hl1 : low≤4294967295) (hb : Bytes out) (ho : out.length≤8000) :
    ∃ low' out',(∀ k,3≤k→coder_Put.l0 k r low rg out=some (low',r * pw (mOf r),out',0))∧0≤low'∧low'≤4294967295∧Bytes out'∧out'.length=out.length+mOf r∧num low' out' = num low out * pw (mOf r):=by
  have e2 : pw 2=65536:=rfl
  have e1 : pw 1=256:=rfl
  have e0 : pw 0=1:=rfl
  have b1 : Bytes (out ++ [low / 16777216]):=hb.append (Bytes.one (by omega) (by omega))
  unfold mOf
  split
  · rename_i h2
    refine ⟨low * 256 % 4294967296 * 256 % 4294967296,out ++ [low / 16777216] ++ [low * 256 % 4294967296 / 16777216],fun k hk => ?_, ?_, ?_, ?_, ?_, ?_⟩
    · obtain ⟨k,rfl⟩ : ∃ m,k=m+3:=⟨k - 3,by omega⟩
      rw [put_step (k+2) rg (by omega) h hl hl1 (by omega),put_step (k+1) rg (by omega) (by omega) (by omega) (by omega) (by simp;omega),put_stop k _ _ _ (by omega),e2,Int.mul_assoc,show (256 : Int) * 256=65536 from rfl]
    · omega
    · omega
    · exact b1.append (Bytes.one (by omega) (by omega))
    · simp
    · rw [num_step (by omega) (by omega),num_step hl hl1,e2];omega
  · split
    · refine ⟨low * 256 % 4294967296,out ++ [low / 16777216],fun k hk => ?_, ?_, ?_,b1, ?_, ?_⟩
      · obtain ⟨k,rfl⟩ : ∃ m,k=m+2:=⟨k - 2,by omega⟩
        rw [put_step (k+1) rg (by omega) h hl hl1 (by omega),put_stop k _ _ _ (by omega),e1]
      · omega
      · omega
      · simp
      · rw [num_step hl hl1,e1]
    · refine ⟨low,out,fun k hk => ?_,hl,hl1,hb,by simp,by rw [e0];omega⟩
      obtain ⟨k,rfl⟩ : ∃ m,k=m+1:=⟨k - 1,by omega⟩
      rw [put_stop k _ _ _ (by omega),e0,Int.mul_one]
theorem put_j0 (k : Nat) (r low rg : Int) (out : List Int) : coder_Put.j0 (k+1) r low rg out=coder_Put.l0 k r low rg out:=by simp only [coder_Put.j0]
theorem put_bad (k : Nat) {lo rg lo' rg' clo chi ctot : Int} {out out' : List Int} (ho : coder_own.f lo rg out=some (lo',rg',out')) (hf : ¬ Fair clo chi ctot) : coder_Put.f k lo rg out clo chi ctot=some (lo',rg',out',1):=by
  unfold coder_Put.f
  rw [ho]
  simp only [Option.bind_some]
  rw [fair_f,Option.bind_some,if_neg (by simpa using hf)]
theorem put_full (k : Nat) {lo rg lo' rg' clo chi ctot : Int} {out out' : List Int} (ho : coder_own.f lo rg out=some (lo',rg',out')) (hf : Fair clo chi ctot) (hl : 3996≤out'.length) : coder_Put.f k lo rg out clo chi ctot=some (lo',rg',out',3):=by
  unfold coder_Put.f
  rw [ho]
  simp only [Option.bind_some]
  rw [fair_f,Option.bind_some,if_pos (by simpa using hf),if_pos (by omega)]
theorem put_ok {lo rg lo0 rg0 clo chi ctot : Int} {out out0 : List Int} (ho : coder_own.f lo0 rg0 out0=some (lo,rg,out)) (he : EOk lo rg out) (hf : Fair clo chi ctot) (hl : out.length < 3996) :
    ∃ lo' out',(∀ k,5000≤k→coder_Put.f k lo0 rg0 out0 clo chi ctot=some (lo',(prt rg clo chi ctot).1 * pw (mOf (prt rg clo chi ctot).1),out',0)) ∧
      EOk lo' ((prt rg clo chi ctot).1 * pw (mOf (prt rg clo chi ctot).1)) out'∧out'.length=out.length+mOf (prt rg clo chi ctot).1 ∧
      num lo' out' = (num lo out+(prt rg clo chi ctot).2) % (4294967296 * pw out.length) * pw (mOf (prt rg clo chi ctot).1):=by
  obtain ⟨a,b,c,d,e,f⟩:=he
  obtain ⟨p1,p2,p3⟩:=prt_facts c d hf
  have hpart:=part_f c d hf
  generalize prt rg clo chi ctot=p at *
  obtain ⟨r,s⟩:=p
  dsimp only at *
  obtain ⟨m1,m2,m3⟩:=mOf_range p1 (by omega)
  have hw : IntKind.u64.wrap (lo+s)=lo+s:=u64w (by omega) (by omega)
  have hv:=val_bound e
  by_cases hc : lo+s > 4294967295
  · obtain ⟨out1,q1,q2,q3,q4⟩:=carry_f out 4999 e (by omega) (by omega)
    obtain ⟨lo',out',g1,g2,g3,g4,g5,g6⟩:=put_l0 (r:=r) (low:=(lo+s) % 4294967296) rg p1 (by omega) (by omega) (by omega) q2 (by omega)
    refine ⟨lo',out',fun k hk => ?_,⟨g2,g3,m1,m2,g4,by omega⟩,by omega, ?_⟩
    · obtain ⟨k,rfl⟩ : ∃ m,k=m+1:=⟨k - 1,by omega⟩
      have q1' : coder_carry.f (k+1) out=some out1:=at_rounds (coder_carry.mono out) (by omega) q1
      unfold coder_Put.f
      rw [ho]
      simp only [Option.bind_some]
      rw [fair_f,Option.bind_some,if_pos (by simpa using hf),if_neg (by omega),hpart,Option.bind_some]
      dsimp only
      rw [hw,if_pos hc,q1',Option.bind_some,put_j0,and32 (by omega) (by omega),g1 k (by omega)]
    · rw [g6]
      congr 1
      unfold num
      rw [q4]
      generalize pw out.length=P at *
      have h1 : val out * 4294967296+lo+s=4294967296 * (val out+1)+(lo+s - 4294967296):=by omega
      have h2:=Int.mul_ediv_add_emod (val out+1) P
      have h3:=Int.emod_nonneg (val out+1) (show P≠0 by omega)
      have h4:=Int.emod_lt_of_pos (val out+1) (show 0 < P by omega)
      have h5 : val out * 4294967296+lo+s=4294967296 * ((val out+1) % P)+(lo+s - 4294967296)+4294967296 * P * ((val out+1) / P):=by rw [Int.mul_assoc];omega
      rw [h5,Int.add_mul_emod_self_left,Int.emod_eq_of_lt (a:=4294967296 * ((val out+1) % P)+(lo+s - 4294967296)) (by omega) (by omega)]
      omega
  · obtain ⟨lo',out',g1,g2,g3,g4,g5,g6⟩:=put_l0 (r:=r) (low:=lo+s) rg p1 (by omega) (by omega) (by omega) e (by omega)
    refine ⟨lo',out',fun k hk => ?_,⟨g2,g3,m1,m2,g4,by omega⟩,g5, ?_⟩
    · obtain ⟨k,rfl⟩ : ∃ m,k=m+1:=⟨k - 1,by omega⟩
      unfold coder_Put.f
      rw [ho]
      simp only [Option.bind_some]
      rw [fair_f,Option.bind_some,if_pos (by simpa using hf),if_neg (by omega),hpart,Option.bind_some]
      dsimp only
      rw [hw,if_neg hc,put_j0,g1 k (by omega)]
    · rw [g6]
      congr 1
      unfold num
      rw [Int.emod_eq_of_lt (by omega) (by omega)]
      omega
end Go.Proofs.Ytkaoiblgfpphoaa.Cod
