-- Lemmas, one text behind the other (wip/tools/pack.py).
import Derived.Test.YtifkhfnmbiefaaaZToneWritesL1
import Derived.Test.YtifkhfnmbiefaaaZToneWritesM1
import Derived.Test.YtifkhfnmbiefaaaZToneWritesM2
import Derived.Test.YtifkhfnmbiefaaaZToneWritesM3
/- A piece of what is put: it goes on, is told apart in the bytes, and costs so many bits. -/
namespace Go.Proofs.Ytifkhfnmbiefaaa.Cod
open Go.RowKit Go.Proofs.YtifkhfnmbiefaaaW.PrintWords Go.Proofs.Ytifkhfnmbiefaaa.Prt Go.Proofs.Ytifkhfnmbiefaaa.Val
set_option linter.unusedVariables false
theorem cost_more {n S m T len : Nat} {rg : Int} (h : Cost n S rg len) (hn : n≤m) (hS : S≤T) (hr : 0≤rg) : Cost m T rg len:=by
  unfold Cost at *
  obtain ⟨d,rfl⟩ : ∃ d,m=n+d:=⟨m - n,by omega⟩
  obtain ⟨s,rfl⟩ : ∃ s,T=S+s:=⟨T - S,by omega⟩
  have p1 : (256 : Int) ^ d≤257 ^ d:=by
    have : (256 : Nat) ^ d≤257 ^ d:=Nat.pow_le_pow_left (by decide) _
    have h2:=Int.ofNat_le.2 this
    rw [Int.natCast_pow,Int.natCast_pow] at h2
    exact h2
  have p2 : (1 : Int)≤2 ^ s:=by have : (0 : Int) < 2 ^ s:=Int.pow_pos (by decide);omega
  have a0 : (0 : Int)≤257 ^ n * 2 ^ S * rg:=Int.mul_nonneg (Int.mul_nonneg (Int.le_of_lt (Int.pow_pos (by decide))) (Int.le_of_lt (Int.pow_pos (by decide)))) hr
  have a1 : (0 : Int)≤257 ^ d:=Int.le_of_lt (Int.pow_pos (by decide))
  have e1 : (256 : Int) ^ (n+d) * 4294967295 * pw len=256 ^ d * (256 ^ n * 4294967295 * pw len):=by rw [Int.pow_add];simp only [Int.mul_assoc,Int.mul_left_comm,Int.mul_comm]
  have e2 : (257 : Int) ^ (n+d) * 2 ^ (S+s) * rg=257 ^ d * (2 ^ s * (257 ^ n * 2 ^ S * rg)):=by rw [Int.pow_add,Int.pow_add];simp only [Int.mul_assoc,Int.mul_left_comm,Int.mul_comm]
  rw [e1,e2]
  have b0 : (0 : Int)≤256 ^ n * 4294967295 * pw len:=Int.mul_nonneg (Int.mul_nonneg (Int.le_of_lt (Int.pow_pos (by decide))) (by decide)) (Int.le_of_lt (pw_pos _))
  refine Int.le_trans (Int.mul_le_mul_of_nonneg_right p1 b0) (Int.mul_le_mul_of_nonneg_left ?_ a1)
  refine Int.le_trans h ?_
  have:=Int.mul_le_mul_of_nonneg_right p2 a0
  rw [Int.one_mul] at this
  exact this
structure Piece (e e' : E3) (n S : Nat) : Prop where
  ok : e'.ok
  nov : Nov e'
  len : e'.len≤e.len+2 * n
  ext : ∀ F,Bytes F→Ext F e'→Ext F e
  cost : ∀ m T,Cost m T e.2.1 e.len→Cost (m+n) (T+S) e'.2.1 e'.len
theorem Piece.nil {e : E3} (he : e.ok) (hn : Nov e) : Piece e e 0 0:=⟨he,hn,by omega,fun _ _ h=>h,fun _ _ h=>h⟩
theorem Piece.trans {e e' e'' : E3} {n m S T : Nat} (h : Piece e e' n S) (k : Piece e' e'' m T) : Piece e e'' (n+m) (S+T) :=
  ⟨k.ok,k.nov,by have:=h.len;have:=k.len;omega,fun F hb hx=>h.ext F hb (k.ext F hb hx),fun a b hc=>by have:=k.cost _ _ (h.cost a b hc);rw [Nat.add_assoc,Nat.add_assoc] at this;exact this⟩
theorem Piece.more {e e' : E3} {n m S T : Nat} (h : Piece e e' n S) (hn : n≤m) (hS : S≤T) : Piece e e' m T :=
  ⟨h.ok,h.nov,by have:=h.len;omega,h.ext,fun a b hc=>cost_more (h.cost a b hc) (by omega) (by omega) (by have:=h.ok.2.2.1;omega)⟩
theorem Piece.st {e e' : E3} {lo hi tot : Int} {b : Nat} (he : e.ok) (s : St e e' lo hi tot) (hn : Nov e') (ht : tot≤2 ^ b) : Piece e e' 1 b:=by
  have hp:=prt_facts he.2.2.1 he.2.2.2.1 s.fair
  have hm : mOf (prt e.2.1 lo hi tot).1≤2:=by
    unfold mOf
    split
    · omega
    · split <;> omega
  refine ⟨s.ok,hn,by rw [s.len];omega,fun F hb hx=>(ext_back he s hb hx).1,fun m T hc => ?_⟩
  rw [s.rg,s.len]
  exact cost_step hc (cost_part he.2.2.1 he.2.2.2.1 s.fair) ht (by omega)
end Go.Proofs.Ytifkhfnmbiefaaa.Cod
/- Gains that are put, as pieces of what is put: they are taken back as they were. -/

namespace Go.Proofs.Ytifkhfnmbiefaaa.Gan
open Go.RowKit Go.Proofs.YtifkhfnmbiefaaaW.PrintWords Go.Proofs.Ytifkhfnmbiefaaa.Prt Go.Proofs.Ytifkhfnmbiefaaa.Val Go.Proofs.Ytifkhfnmbiefaaa.Cod
set_option linter.unusedVariables false
set_option linter.unusedSimpArgs false
theorem rd_ahead {a : List Int} {I : Bool} (ha : I=true∨rt a=true) (i : Int) : 0≤(if I=true then 0 else rd a i)∧(if I=true then 0 else rd a i)≤44:=by
  cases I with
  | true=>simp
  | false=>rw [if_neg (by simp)];exact rt_rd (ha.resolve_left (by simp)) i
theorem gt1_intra {F : List Int} {c r t a b : Int} : gt1 F c r t a true=gt1 F c r t b true:=by unfold gt1;rw [if_pos rfl,if_pos rfl]
end Go.Proofs.Ytifkhfnmbiefaaa.Gan
/- What was written is read as it was; and it is not longer than its packet. -/
namespace Go.Proofs.Ytifkhfnmbiefaaa.Pak
open Go Go.RowKit Go.Proofs.YtifkhfnmbiefaaaW.PrintWords Go.Proofs.Ytifkhfnmbiefaaa.Prt Go.Proofs.Ytifkhfnmbiefaaa.Alo
set_option linter.unusedVariables false
set_option linter.unusedSimpArgs false
open Go.Proofs.Ytifkhfnmbiefaaa.Cod (E3 Piece Ext Cd Nov all)
open Go.Proofs.Ytifkhfnmbiefaaa.Val (Bytes)
variable {V K : Nat→Nat→Int}
theorem takeL1 {l : List (List Int)} {i : Nat} (h : i < l.length) : l.take i ++ [rd_L2 l (i : Int)]=l.take (i+1):=by
  have : rd_L2 l (i : Int)=l[i]:=by unfold rd_L2;rw [List.getD_eq_getElem?_getD,Int.toNat_natCast,List.getElem?_eq_getElem h];rfl
  rw [List.take_succ_eq_append_getElem h,this]
theorem takeL2 {l : List (List (List Int))} {i : Nat} (h : i < l.length) : l.take i ++ [rd_L4 l (i : Int)]=l.take (i+1):=by
  have : rd_L4 l (i : Int)=l[i]:=by unfold rd_L4;rw [List.getD_eq_getElem?_getD,Int.toNat_natCast,List.getElem?_eq_getElem h];rfl
  rw [List.take_succ_eq_append_getElem h,this]
theorem gr_rt {g : List Int} (h : Gr g) : Gan.rt g=true:=by
  unfold Gan.rt
  rw [Bool.and_eq_true]
  refine ⟨by rw [h.1];rfl,List.all_eq_true.2 fun x hx => ?_⟩
  obtain ⟨j,hj,rfl⟩:=List.mem_iff_getElem.1 hx
  have:=h.2 j (by have:=h.1;omega)
  rw [Com.rd_at hj] at this
  exact decide_eq_true this
theorem cost_all : ∀ b : Fin 5, ∀ k : Fin 13,((comb_Count.f (W b.1 : Int) (k.1 : Int)).bind fun p=>(comb_Cost.f 3000 (W b.1 : Int) (k.1 : Int)).map fun c=>decide (p.1≤2 ^ c.1.toNat))=some true:=by decide +kernel
theorem V_cost (C : Com.Cst K) (D : Com.Cnt V) {n k : Nat} (hn : n < 5) (hk : k < 13) : V (W n) k≤2 ^ (K (W n) k).toNat:=by
  have hW:=W_in hn
  have h:=cost_all ⟨n,hn⟩ ⟨k,hk⟩
  dsimp only at h
  rw [Com.count_ok D (by omega) (by omega) hk,((C.cost (show 1≤W n by omega) (by omega) hk).2.2.2 3000 (Nat.le_refl _)).1] at h
  simpa using h
def SK (K : Nat→Nat→Int) (ks : List Int) : Nat→Nat→Nat
  | 0,_=>0
  | d+1,n=>(Kb K n (rd ks (n : Int))).toNat+SK K ks d (n+1)
theorem SK_sp (C : Com.Cst K) {ks : List Int} (h : Ks ks) : (SK K ks 5 0 : Int)=Sp K ks:=by
  have k : ∀ n : Nat,n < 5→0≤Kb K n (rd ks (n : Int)):=fun n hn=>by have hr:=Ks_rd h hn;exact (Kb_in C hn hr.1 hr.2).1
  have k0:=k 0 (by omega)
  have k1:=k 1 (by omega)
  have k2:=k 2 (by omega)
  have k3:=k 3 (by omega)
  have k4:=k 4 (by omega)
  unfold Sp
  simp only [SK,Nat.reduceAdd,Nat.zero_add]
  simp only [Int.natCast_zero,show ((1 : Nat) : Int)=1 from rfl,show ((0+1 : Nat) : Int)=1 from rfl,show ((0+1+1 : Nat) : Int)=2 from rfl,show ((0+1+1+1 : Nat) : Int)=3 from rfl,show ((0+1+1+1+1 : Nat) : Int)=4 from rfl,show ((0 : Nat) : Int)=0 from rfl,show ((2 : Nat) : Int)=2 from rfl,show ((3 : Nat) : Int)=3 from rfl,show ((4 : Nat) : Int)=4 from rfl] at *
  omega
theorem fin_all {n : Nat} {l : List Int} (h : l.length≤n) : fin n l=l ++ List.replicate (n - l.length) 0:=by
  rw [← fin_p,List.take_of_length_le h,List.drop_replicate]
theorem ext_fin {e : E3} (he : e.ok) {n : Nat} (h : e.len+4≤n) : Ext (fin n (all e)) e:=by
  have hl:=Cod.all_len he
  have hx:=Cod.all_ext he
  have ht : (fin n (all e)).take (e.len+4)=(all e).take (e.len+4):=by rw [fin_all (by omega),List.take_append_of_le_length (by omega)]
  exact ⟨by rw [fin_len];exact h,by rw [ht];exact hx.low,by rw [ht];exact hx.high⟩
theorem fin_bytes {e : E3} (he : e.ok) {n : Nat} (h : e.len+4≤n) : Bytes (fin n (all e)):=by
  have hl:=Cod.all_len he
  rw [fin_all (by omega)]
  exact (Cod.all_bytes he).append fun x hx=>by rw [List.eq_of_mem_replicate hx];exact ⟨by decide,by decide⟩
theorem fits {a b : Int} (hab : rightB a b=true) {e : E3} {n : Nat} (hn : n≤2 * 25+1) {B : Nat} (hB : (B : Int)=b) (hp : Piece (0,4294967295, []) e n (1+(45 * B+(room a b).toNat * B))) : e.len+4≤a.toNat:=by
  have hc:=Cod.cost_end (hp.cost 0 0 Cod.cost_new) (by have:=hp.ok.2.2.2.1;omega) (by omega)
  have hr:=right_iff.1 hab
  unfold room at hc
  rcases hr with ⟨rfl,_,_⟩ | ⟨rfl,_,_⟩
  · obtain rfl : B=1:=by omega
    rw [if_pos rfl] at hc
    omega
  · obtain rfl : B=2:=by omega
    rw [if_neg (by decide)] at hc
    omega
end Go.Proofs.Ytifkhfnmbiefaaa.Pak
/- What cpack writes is read as it was, told of the program alone. Printed by wip/tools/tonw.py out of CodP, GanR, PakW and PakB. -/
namespace Go.Proofs.Ytifkhfnmbiefaaa.Cod
open Go.RowKit Go.Proofs.YtifkhfnmbiefaaaW.PrintWords Go.Proofs.Ytifkhfnmbiefaaa.Prt Go.Proofs.Ytifkhfnmbiefaaa.Val
set_option linter.unusedVariables false
theorem put_piece {e : E3} (he : e.ok) (hn : Nov e) {lo hi tot : Int} (hf : Cod.Fair lo hi tot) (hl : e.len < 3996) {b : Nat} (ht : tot≤2 ^ b) :
    ∃ e' : E3,(∀ k,5000≤k→coder_Put.f k e.1 e.2.1 e.2.2 lo hi tot=some (e'.1,e'.2.1,e'.2.2,0))∧Piece e e' 1 b∧St e e' lo hi tot:=by
  obtain ⟨e',p,s,n⟩:=st_of_put he hn hf hl
  exact ⟨e',p,Piece.st he s n ht,s⟩
theorem num_piece {e : E3} (he : e.ok) (hn : Nov e) {v n : Int} (hv : 0≤v) (h1 : v < n) (h2 : n≤4294967296) (hl : e.len < 3990) {b : Nat} (ht : n≤2 ^ b) :
    ∃ e' : E3,(∀ k,5010≤k→coder_PutNum.f k e.1 e.2.1 e.2.2 v n=some (e'.1,e'.2.1,e'.2.2,0))∧Piece e e' 2 b ∧
      ∀ F,Bytes F→F.length≤9000→Ext F e'→tn F (Cd F e) e.2.1 ((e.len+4 : Nat) : Int) n=(Cd F e',e'.2.1,((e'.len+4 : Nat) : Int),v):=by
  have key : ∃ e' : E3,(∀ k,5010≤k→coder_PutNum.f k e.1 e.2.1 e.2.2 v n=some (e'.1,e'.2.1,e'.2.2,0))∧Piece e e' 2 b∧Run e (chs v n) e' := by
    by_cases hs : n≤65536
    · obtain ⟨e',p,s,x⟩:=st_of_put he hn (fair_small hv h1 hs) (by omega)
      refine ⟨e',fun k hk=>by rw [putNum_small (own_ok he) hv h1 hs p k hk,if_pos rfl],(Piece.st he s x ht).more (by omega) (Nat.le_refl _), ?_⟩
      unfold chs;rw [if_pos hs];exact .cons s (.nil _)
    · obtain ⟨e1,p1,s1,x1⟩:=st_of_put he hn (fair_high hv h1 h2) (by omega)
      have hb : 16≤b:=by
        apply Decidable.byContradiction
        intro hc
        have : (2 : Int) ^ b≤2 ^ 15:=by
          have h3 : (2 : Nat) ^ b≤2 ^ 15:=Nat.pow_le_pow_right (by decide) (by omega)
          have h4:=Int.ofNat_le.2 h3
          rw [Int.natCast_pow,Int.natCast_pow] at h4
          exact h4
        have : (2 : Int) ^ 15=32768:=by decide
        omega
      obtain ⟨c,rfl⟩ : ∃ c,b=c+16:=⟨b - 16,by omega⟩
      have hh : half1 n≤2 ^ c:=by
        rw [Int.pow_add,show (2 : Int) ^ 16=65536 from by decide] at ht
        unfold half1
        generalize (2 : Int) ^ c=z at *
        omega
      have l1:=(Piece.st he s1 x1 hh).len
      obtain ⟨e2,p2,s2,x2⟩:=st_of_put s1.ok x1 (fair_low v) (by omega)
      refine ⟨e2,fun k hk=>by rw [putNum_great2 (own_ok he) hv h1 (by omega) h2 p1 p2 k hk,if_pos rfl],(Piece.st he s1 x1 hh).trans (Piece.st s1.ok s2 x2 (b:=16) (by decide)), ?_⟩
      unfold chs;rw [if_neg hs];exact .cons s1 (.cons s2 (.nil _))
  obtain ⟨e',p,q,r⟩:=key
  exact ⟨e',p,q,fun F hb hF hx=>tn_run he hv h1 h2 r hb hF hx⟩
end Go.Proofs.Ytifkhfnmbiefaaa.Cod
namespace Go.Proofs.Ytifkhfnmbiefaaa.Gan
open Go.RowKit Go.Proofs.YtifkhfnmbiefaaaW.PrintWords Go.Proofs.Ytifkhfnmbiefaaa.Prt Go.Proofs.Ytifkhfnmbiefaaa.Val Go.Proofs.Ytifkhfnmbiefaaa.Cod
set_option linter.unusedVariables false
set_option linter.unusedSimpArgs false
theorem put1_piece {e : E3} (he : e.ok) (hn : Nov e) {g a : Int} (I : Bool) (g0 : 0≤g) (g1 : g≤44) (a0 : 0≤a) (a1 : a≤44) (hl : e.len < 3980) :
    ∃ e' : E3,(∀ k,5020≤k→gain_put.f k e.1 e.2.1 e.2.2 g a I=some (e'.1,e'.2.1,e'.2.2,0))∧Piece e e' 3 (if I=true then 6 else 9) ∧
      ∀ F,Bytes F→F.length≤9000→Ext F e'→gt1 F (Cd F e) e.2.1 ((e.len+4 : Nat) : Int) a I=(Cd F e',e'.2.1,((e'.len+4 : Nat) : Int),g):=by
  cases I with
  | true =>
    obtain ⟨e',p,q,r⟩:=num_piece he hn (v:=g) (n:=45) g0 (by omega) (by decide) (by omega) (b:=6) (by decide)
    refine ⟨e',fun k hk => ?_,q.more (by omega) (by simp),fun F hb hF hx => ?_⟩
    · unfold gain_put.f
      rw [if_pos rfl,u64w g0 (by omega),p k (by omega),Option.bind_some]
    · unfold gt1
      rw [if_pos rfl,r F hb hF hx]
  | false =>
    have j0 : ∀ (k : Nat) (x : Bool),gain_put.f (k+1) e.1 e.2.1 e.2.2 g a false=gain_put.j0 (k+1) g (g - a) (decide (-3≤g - a∧g - a≤3)) e.1 e.2.1 e.2.2:=fun k x=>by
      unfold gain_put.f
      rw [if_neg (by simp),i64w (x:=g - a) (by omega) (by omega)]
      by_cases h3 : g - a ≥ -3
      · rw [if_pos h3]
        congr 1
        rw [Bool.eq_iff_iff];simp;omega
      · rw [if_neg h3]
        congr 1
        rw [eq_comm,decide_eq_false_iff_not];omega
    by_cases hd : -3≤g - a∧g - a≤3
    · obtain ⟨e',p,q,s⟩:=put_piece he hn (lo:=g - a+3) (hi:=g - a+3+1) (tot:=8) ⟨by omega,by omega,by omega,by decide⟩ (by omega) (b:=3) (by decide)
      refine ⟨e',fun k hk => ?_,q.more (by omega) (by simp),fun F hb hF hx => ?_⟩
      · obtain ⟨k,rfl⟩ : ∃ m,k=m+1:=⟨k - 1,by omega⟩
        rw [j0 k true,decide_eq_true hd]
        simp only [gain_put.j0]
        rw [if_pos trivial,i64w (x:=g - a+3) (by omega) (by omega),i64w (x:=g - a+3+1) (by omega) (by omega),p k (by omega),Option.bind_some]
      · obtain ⟨h0,h1,h2⟩:=ext_back he s hb hx
        have hg:=gt_in he.2.2.1 he.2.2.2.1 s.fair h1 h2
        unfold gt1
        rw [if_neg (by simp)]
        dsimp only
        rw [show gt (Cd F e) e.2.1 8=g - a+3 by omega,if_neg (by omega),tk_eq he s hb hx,if_neg (by omega),if_neg (by omega),show a+(g - a+3) - 3=g by omega]
    · obtain ⟨e1,p1,q1,s1⟩:=put_piece he hn (lo:=7) (hi:=8) (tot:=8) ⟨by decide,by decide,by decide,by decide⟩ (by omega) (b:=3) (by decide)
      have l1:=q1.len
      obtain ⟨e',p,q,r⟩:=num_piece q1.ok q1.nov (v:=g) (n:=45) g0 (by omega) (by decide) (by omega) (b:=6) (by decide)
      refine ⟨e',fun k hk => ?_,(q1.trans q).more (by omega) (by simp),fun F hb hF hx => ?_⟩
      · obtain ⟨k,rfl⟩ : ∃ m,k=m+1:=⟨k - 1,by omega⟩
        rw [j0 k true,decide_eq_false hd]
        simp only [gain_put.j0]
        rw [if_neg (by simp),p1 k (by omega),Option.bind_some]
        dsimp only
        rw [if_pos rfl,u64w g0 (by omega),p k (by omega),Option.bind_some]
      · have hx1:=q.ext F hb hx
        obtain ⟨h0,h1,h2⟩:=ext_back he s1 hb hx1
        have hg:=gt_in he.2.2.1 he.2.2.2.1 s1.fair h1 h2
        unfold gt1
        rw [if_neg (by simp)]
        dsimp only
        rw [show gt (Cd F e) e.2.1 8=7 by omega,if_pos rfl,show (7 : Int)+1=8 from rfl,tk_eq he s1 hb hx1]
        dsimp only
        rw [r F hb hF hx]
theorem puts_piece {g a : List Int} {I : Bool} (hg : rt g=true) (ha : I=true∨rt a=true) (X1 X2 : Int) (X3 : List Int) : ∀ (d i : Nat) (e : E3),i+d=5→e.ok→Nov e→e.len+6 * d < 3980 →
    ∃ e' : E3,(∀ k,5030+2 * d≤k→gain_Put.l0 k g a I (i : Int) X1 X2 X3 e.1 e.2.1 e.2.2=some (e'.1,e'.2.1,e'.2.2,0))∧Piece e e' (3 * d) ((if I=true then 6 else 9) * d) ∧
      ∀ F,Bytes F→F.length≤9000→Ext F e'→gts F a I d (i : Int) (Cd F e) e.2.1 ((e.len+4 : Nat) : Int) (g.take i)=(Cd F e',e'.2.1,((e'.len+4 : Nat) : Int),g)
  | 0,i,e,h,he,hn,hl=>by
    have hgl:=rt_len hg
    refine ⟨e,fun k hk => ?_,(Piece.nil he hn).more (by omega) (by omega),fun F hb hF hx => ?_⟩
    · obtain ⟨k,rfl⟩ : ∃ m,k=m+1:=⟨k - 1,by omega⟩
      simp only [gain_Put.l0]
      rw [if_neg (by omega)]
    · rw [gts,List.take_of_length_le (by omega)]
  | d+1,i,e,h,he,hn,hl=>by
    have hgl:=rt_len hg
    have hgi:=rt_rd hg (i : Int)
    have hai:=rd_ahead ha (i : Int)
    obtain ⟨e1,p1,q1,r1⟩:=put1_piece he hn I hgi.1 hgi.2 hai.1 hai.2 (by omega)
    have l1:=q1.len
    obtain ⟨e',p,q,r⟩:=puts_piece hg ha X1 X2 X3 d (i+1) e1 (by omega) q1.ok q1.nov (by omega)
    refine ⟨e',fun k hk => ?_,(q1.trans q).more (by omega) (by rw [Nat.mul_add,Nat.mul_one,Nat.add_comm];exact Nat.le_refl _),fun F hb hF hx => ?_⟩
    · obtain ⟨k,rfl⟩ : ∃ m,k=m+2:=⟨k - 2,by omega⟩
      have j2 : gain_Put.j2 (k+1) g a I (i : Int) (if I=true then 0 else rd a (i : Int)) (i : Int) X1 X2 X3 e.1 e.2.1 e.2.2=some (e'.1,e'.2.1,e'.2.2,0):=by
        simp only [gain_Put.j2]
        rw [if_pos (by omega),if_pos (by omega),p1 k (by omega),Option.bind_some]
        dsimp only
        rw [if_pos rfl,i64w (by omega) (by omega),show (i : Int)+1=((i+1 : Nat) : Int) by omega]
        exact p k (by omega)
      simp only [gain_Put.l0]
      rw [if_pos (by omega)]
      cases I with
      | true=>rw [if_pos rfl];exact j2
      | false =>
        have hla:=rt_len (ha.resolve_left (by simp))
        rw [if_neg (by simp),if_pos (by omega),if_pos (by omega)]
        exact j2
    · have hx1:=q.ext F hb hx
      have e1' : gt1 F (Cd F e) e.2.1 ((e.len+4 : Nat) : Int) (rd a (i : Int)) I=(Cd F e1,e1.2.1,((e1.len+4 : Nat) : Int),rd g (i : Int)):=by
        have:=r1 F hb hF hx1
        cases I with
        | true=>rw [gt1_intra (b:=if true=true then 0 else rd a (i : Int))];exact this
        | false=>exact this
      rw [gts,e1']
      dsimp only
      have ht : g.take i ++ [rd g (i : Int)]=g.take (i+1):=(take_more (show i < g.length by omega)).symm
      rw [ht,show (i : Int)+1=((i+1 : Nat) : Int) by omega]
      exact r F hb hF hx
theorem put_piece {g a : List Int} {I : Bool} (hg : rt g=true) (ha : I=true∨rt a=true) (hal : a.length≤100) {e : E3} (he : e.ok) (hn : Nov e) (hl : e.len < 3900) :
    ∃ e' : E3,(∀ k,5100≤k→gain_Put.f k e.1 e.2.1 e.2.2 g a I=some (e'.1,e'.2.1,e'.2.2,0))∧Piece e e' 15 (if I=true then 30 else 45) ∧
      ∀ F,Bytes F→F.length≤9000→Ext F e'→gts F a I 5 0 (Cd F e) e.2.1 ((e.len+4 : Nat) : Int) []=(Cd F e',e'.2.1,((e'.len+4 : Nat) : Int),g):=by
  have hgl:=rt_len hg
  have pb : ∀ k,coder_Put.f k e.1 e.2.1 e.2.2 0 1 0=some (e.1,e.2.1,e.2.2,1):=fun k=>put_bad k (own_ok he) (fun h=>by have:=h.2.2.1;omega)
  obtain ⟨e',p,q,r⟩:=puts_piece hg ha e.1 e.2.1 e.2.2 5 0 e rfl he hn (by omega)
  have hp : ∀ k,5100≤k→gain_Put.f k e.1 e.2.1 e.2.2 g a I=some (e'.1,e'.2.1,e'.2.2,0):=fun k hk=>by
    obtain ⟨k,rfl⟩ : ∃ m,k=m+1:=⟨k - 1,by omega⟩
    have key : gain_Put.j0 (k+1) g a I false e.1 e.2.1 e.2.2 e.1 e.2.1 e.2.2=some (e'.1,e'.2.1,e'.2.2,0):=by
      simp only [gain_Put.j0]
      rw [if_neg (by simp)]
      exact p k (by omega)
    unfold gain_Put.f
    rw [pb,Option.bind_some,right_ok g (by omega) _ (by omega),Option.bind_some,if_pos hg]
    cases I with
    | true=>rw [if_pos rfl];exact key
    | false =>
      rw [if_neg (by simp),right_ok a (by omega) _ (by omega),Option.bind_some,ha.resolve_left (by simp)]
      exact key
  refine ⟨e',hp,q.more (by omega) (by cases I <;> simp),fun F hb hF hx => ?_⟩
  · have:=r F hb hF hx
    rw [List.take_zero] at this
    exact this
end Go.Proofs.Ytifkhfnmbiefaaa.Gan
namespace Go.Proofs.Ytifkhfnmbiefaaa.Pak
open Go Go.RowKit Go.Proofs.YtifkhfnmbiefaaaW.PrintWords Go.Proofs.Ytifkhfnmbiefaaa.Prt Go.Proofs.Ytifkhfnmbiefaaa.Alo
set_option linter.unusedVariables false
set_option linter.unusedSimpArgs false
open Go.Proofs.Ytifkhfnmbiefaaa.Cod (E3 Piece Ext Cd Nov all)
open Go.Proofs.Ytifkhfnmbiefaaa.Val (Bytes)
variable {V K : Nat→Nat→Int}
theorem of_f (A : List (List Int)) (i : Nat) : cpack_of.f A (i : Int)=some (ofL A (i : Int)):=by
  unfold cpack_of.f ofL
  by_cases h : (i : Int) < (A.length : Int)
  · rw [if_pos h,if_pos (by omega),if_pos h]
  · rw [if_neg h,if_neg h]
theorem gainsW {a b : Int} {I : Bool} {G A : List (List Int)} {Y : List (List (List Int))} (hG : G.length≤10) (hg : ∀ g ∈ G,Gan.rt g=true) (hA : I=true∨gainsB b A=true) (ha : ∀ g ∈ A,g.length≤60) (hb : (G.length : Int)=b) :
    ∀ (d i : Nat) (e : E3),i+d=G.length→e.ok→Nov e→e.len+30 * d < 3000 →
    ∃ e' : E3,(∀ q,5100≤q→cpack_Write.l0 (q+d+1) a b A G (G.length : Int) (i : Int) I G Y e.1 e.2.1 e.2.2=(alloc_Pulses.f q a b G).bind fun bt=>cpack_Write.l1 q a bt.1 Y (Y.length : Int) 0 e'.1 e'.2.1 e'.2.2)∧Piece e e' (15 * d) (45 * d) ∧
      ∀ F,Bytes F→F.length≤9000→Ext F e'→∀ q,300≤q→cpack_Read.l0 (q+d+1) a b A b (i : Int) (Cd F e) e.2.1 F ((e.len+4 : Nat) : Int) I (G.take i)=(alloc_Pulses.f q a b G).bind fun bt=>cpack_Read.l1 q bt.1 b 0 (Cd F e') e'.2.1 F ((e'.len+4 : Nat) : Int) I G []
  | 0,i,e,h,he,hn,hl=>⟨e,fun q hq=>by rw [cpack_Write.l0,if_neg (by omega)],(Piece.nil he hn).more (by omega) (by omega),fun F hB hF hx q hq=>by rw [cpack_Read.l0,if_neg (by omega),List.take_of_length_le (by omega)]⟩
  | d+1,i,e,h,he,hn,hl=>by
    have hm:=hg _ (rdl_mem (show i < G.length by omega))
    have ho:=of_len ha i
    have hc : I=true∨Gan.rt (ofL A (i : Int))=true:=hA.imp id (fun h2=>ofL_rt h2 (by omega))
    obtain ⟨e1,p1,q1,r1⟩:=Gan.put_piece hm hc (by omega) he hn (by omega)
    have l1:=q1.len
    obtain ⟨e',p,q,r⟩:=gainsW (a:=a) (Y:=Y) hG hg hA ha hb d (i+1) e1 (by omega) q1.ok q1.nov (by omega)
    refine ⟨e',fun k hk => ?_,(q1.trans q).more (by omega) (by split <;> omega),fun F hB hF hx k hk => ?_⟩
    · rw [show k+(d+1)+1=(k+d+1)+1 by omega,cpack_Write.l0,if_pos (by omega),if_pos (by omega),if_pos (by omega),of_f A i,Option.bind_some,p1 _ (by omega),Option.bind_some,w64 (by omega) (by omega),show (i : Int)+1=((i+1 : Nat) : Int) by omega]
      exact p k hk
    · have hx1:=q.ext F hB hx
      have hd:=Cod.cd_ok he (q1.ext F hB hx1) hF
      rw [show k+(d+1)+1=(k+d+1)+1 by omega,cpack_Read.l0,if_pos (by omega),of_f A i,Option.bind_some,Gan.takes_ok (by omega) (Cod.good_ok hd) hd hB hF _ (by omega),if_pos hc,Option.bind_some,if_pos (by rw [List.length_take];omega),r1 F hB hF hx1]
      dsimp only
      rw [takeL1 (by omega),w64 (by omega) (by omega),show (i : Int)+1=((i+1 : Nat) : Int) by omega]
      exact r F hB hF hx k hk
theorem numsW (C : Com.Cst K) (D : Com.Cnt V) {a b L : Int} {I : Bool} {G out : List (List Int)} {Y Y0 : List (List (List Int))} {i : Nat} (hi : i < out.length) (hiY : i < Y.length) (hY0 : Y0.length≤100) (ho : out.length≤100) (hks : Ks (rd_L2 out (i : Int))) (hr : (rd_L4 Y (i : Int)).length=5) (hs : ∀ y ∈ rd_L4 Y (i : Int),y.length≤60) :
    ∀ (d n : Nat) (e : E3),n+d=5→okR (rd_L4 Y (i : Int)) (rd_L2 out (i : Int)) d n=true→e.ok→Nov e→e.len+4 * d < 3900 →
    ∃ e' : E3,(∀ q,6000≤q→cpack_Write.l2 (q+d+1) a out (i : Int) Y L (i : Int) (rd_L4 Y (i : Int)) 5 (n : Int) e.1 e.2.1 e.2.2=cpack_Write.l1 q a out Y L ((i+1 : Nat) : Int) e'.1 e'.2.1 e'.2.2)∧Piece e e' (2 * d) (SK K (rd_L2 out (i : Int)) d n) ∧
      (∀ F,Bytes F→F.length≤9000→Ext F e'→∀ q,6000≤q→cpack_Read.l2 (q+d+1) out (i : Int) ((rd_L4 Y (i : Int)).take n) b (i : Int) (n : Int) (Cd F e) e.2.1 F ((e.len+4 : Nat) : Int) I G Y0=cpack_Read.l1 q out b ((i+1 : Nat) : Int) (Cd F e') e'.2.1 F ((e'.len+4 : Nat) : Int) I G (Y0 ++ [rd_L4 Y (i : Int)]))
  | 0,n,e,h,hk,he,hn,hl=>by
    refine ⟨e,fun q hq=>by rw [cpack_Write.l2,if_neg (by omega),w64 (by omega) (by omega),show (i : Int)+1=((i+1 : Nat) : Int) by omega],Piece.nil he hn,fun F hB hF hx q hq => ?_⟩
    rw [cpack_Read.l2,if_neg (by omega),if_pos (by omega),w64 (by omega) (by omega),show (i : Int)+1=((i+1 : Nat) : Int) by omega,List.take_of_length_le (by omega)]
  | d+1,n,e,h,hk,he,hn,hl=>by
    have hkr:=Ks_rd hks (show n < 5 by omega)
    have hW:=W_in (show n < 5 by omega)
    have hm:=hs _ (rdl_mem (show n < (rd_L4 Y (i : Int)).length by omega))
    rw [okR,Bool.and_eq_true] at hk
    obtain ⟨hk1,hk2⟩:=hk
    obtain ⟨hy,hz⟩:=of_decide_eq_true hk1
    obtain ⟨kk,hkk,hk13⟩ : ∃ kk : Nat,(kk : Int)=rd (rd_L2 out (i : Int)) (n : Int)∧kk < 13:=⟨(rd (rd_L2 out (i : Int)) (n : Int)).toNat,by omega,by omega⟩
    have htk:=takeL1 (show n < (rd_L4 Y (i : Int)).length by omega)
    have hyl : (rd_L2 (rd_L4 Y (i : Int)) (n : Int)).length=W n:=by omega
    by_cases h0 : rd (rd_L2 out (i : Int)) (n : Int)=0
    · obtain ⟨e',p,q,r⟩:=numsW C D (a:=a) (b:=b) (L:=L) (I:=I) (G:=G) hi hiY hY0 ho hks hr hs d (n+1) e (by omega) hk2 he hn (by omega)
      refine ⟨e',fun k hk => ?_,q.more (by omega) (by rw [SK];omega),fun F hB hF hx k hk => ?_⟩
      · rw [show k+(d+1)+1=(k+d+1)+1 by omega,cpack_Write.l2,if_pos (by omega),if_pos (by omega),if_pos (by omega),if_pos (by omega),if_pos (by omega),if_pos (by rw [hks.1];omega),if_pos h0,w64 (x:=(n : Int)+1) (by omega) (by omega),show (n : Int)+1=((n+1 : Nat) : Int) by omega]
        exact p k hk
      · have hz0:=szs_zero (show Com.szs (rd_L2 (rd_L4 Y (i : Int)) (n : Int))=0 by omega)
        rw [hyl] at hz0
        rw [show k+(d+1)+1=(k+d+1)+1 by omega,cpack_Read.l2,if_pos (by omega),width_p (by omega),Option.bind_some,if_pos (by omega),if_pos (by omega),if_pos (by omega),if_pos (by omega),if_pos (by omega),if_pos (by rw [hks.1];omega),if_neg (by omega),if_pos (by rw [List.length_take];omega),w64 (x:=(n : Int)+1) (by omega) (by omega),show (n : Int)+1=((n+1 : Nat) : Int) by omega,Int.toNat_natCast, ← hz0,htk]
        exact r F hB hF hx k hk
    · obtain ⟨ix,hx0,hx1,hu⟩:=Com.Unr.ex D (rd_L2 (rd_L4 Y (i : Int)) (n : Int)) kk (by omega) (by omega) hk13
      rw [hyl] at hu hx1
      have hV:=V_le D (show n < 5 by omega) hk13
      have hVc:=V_cost C D (show n < 5 by omega) hk13
      obtain ⟨e1,p1,q1,r1⟩:=Cod.num_piece he hn hx0 hx1 hV (by omega) hVc
      have l1:=q1.len
      obtain ⟨e',p,q,r⟩:=numsW C D (a:=a) (b:=b) (L:=L) (I:=I) (G:=G) hi hiY hY0 ho hks hr hs d (n+1) e1 (by omega) hk2 q1.ok q1.nov (by omega)
      refine ⟨e',fun k hk => ?_,(q1.trans q).more (by omega) (by rw [SK,Kb, ← hkk,Int.toNat_natCast];exact Nat.le_refl _),fun F hB hF hx k hk => ?_⟩
      · rw [show k+(d+1)+1=(k+d+1)+1 by omega,cpack_Write.l2,if_pos (by omega),if_pos (by omega),if_pos (by omega),if_pos (by omega),if_pos (by omega),if_pos (by rw [hks.1];omega),if_neg h0,width_p (by omega),Option.bind_some, ← hkk,Com.count_ok D (by omega) (by omega) hk13,Option.bind_some,
          Com.index_f D (by omega) (by omega) hk13 hu (by omega),Option.bind_some,p1 _ (by omega),Option.bind_some,w64 (x:=(n : Int)+1) (by omega) (by omega),show (n : Int)+1=((n+1 : Nat) : Int) by omega]
        exact p k hk
      · have hxe:=q.ext F hB hx
        have hd:=Cod.cd_ok he (q1.ext F hB hxe) hF
        obtain ⟨y',hu',hy'⟩:=Com.vector_ok D (show 1≤W n by omega) (by omega) hk13 hx0 hx1
        obtain rfl:=Com.Unr.fn D (by omega) hk13 hu hu'
        have hp:=D.pos (show W n < 17 by omega) hk13 (by omega)
        have hr1:=r1 F hB hF hxe
        rw [show k+(d+1)+1=(k+d+1)+1 by omega,cpack_Read.l2,if_pos (by omega),width_p (by omega),Option.bind_some,if_pos (by omega),if_pos (by omega),if_pos (by omega),if_pos (by omega),if_pos (by omega),if_pos (by rw [hks.1];omega),if_pos (by omega),Option.bind_some, ← hkk,Com.count_ok D (by omega) (by omega) hk13,Option.bind_some,
          Cod.takeNum_ok (Cod.good_ok hd) hd hB hF (by omega) hV _ (by omega),Option.bind_some,Option.bind_some,hr1]
        dsimp only
        rw [hy' _ (by omega),Option.bind_some,if_pos (by rw [List.length_take];omega),w64 (x:=(n : Int)+1) (by omega) (by omega),show (n : Int)+1=((n+1 : Nat) : Int) by omega,htk]
        exact r F hB hF hx k hk
theorem chansW (C : Com.Cst K) (D : Com.Cnt V) {a b : Int} {I : Bool} {G out : List (List Int)} {Y : List (List (List Int))} {R : Nat} (S : Sized Y) (ho : out.length=Y.length) (hb : (Y.length : Int)=b) (h0 : 0≤a) (h1 : a≤1000) (hks : ∀ i : Nat,i < Y.length→Ks (rd_L2 out (i : Int))∧Sp K (rd_L2 out (i : Int))≤R) :
    ∀ (d i : Nat) (e : E3),i+d=Y.length→okA Y out d i=true→e.ok→Nov e→e.len+20 * d < 3800 →
    ∃ e' : E3,(∀ q,8000+10 * d < q→cpack_Write.l1 q a out Y (Y.length : Int) (i : Int) e.1 e.2.1 e.2.2=some (fin a.toNat (all e'),0))∧Piece e e' (10 * d) (R * d) ∧
      ∀ F,Bytes F→F.length≤9000→Ext F e'→∀ q,8000+10 * d < q→cpack_Read.l1 q out b (i : Int) (Cd F e) e.2.1 F ((e.len+4 : Nat) : Int) I G (Y.take i)=some (I,G,Y,0)
  | 0,i,e,h,hA,he,hn,hl=>by
    refine ⟨e,fun q hq => ?_,(Piece.nil he hn).more (by omega) (by omega),fun F hB hF hx q hq => ?_⟩
    · obtain ⟨r,rfl⟩ : ∃ r,q=r+1:=⟨q - 1,by omega⟩
      rw [cpack_Write.l1,if_neg (by omega),if_pos h0,if_pos (by omega),Option.bind_some,Cod.finish_ok he,Option.bind_some,List.length_replicate,fin_p]
      rfl
    · obtain ⟨r,rfl⟩ : ∃ r,q=r+1:=⟨q - 1,by omega⟩
      rw [cpack_Read.l1,if_neg (by omega),List.take_of_length_le (by omega)]
  | d+1,i,e,h,hA,he,hn,hl=>by
    have hSn:=S.n
    have hs:=S.r i (by omega)
    rw [okA,Bool.and_eq_true,Bool.and_eq_true] at hA
    obtain ⟨hA1,hA2,hA3⟩:=hA
    have h5:=of_decide_eq_true hA1
    have hki:=hks i (by omega)
    obtain ⟨e1,p1,q1,r1⟩:=numsW C D (a:=a) (b:=b) (L:=(Y.length : Int)) (I:=I) (G:=G) (Y0:=Y.take i) (show i < out.length by omega) (by omega) (by rw [List.length_take];omega) (by omega) hki.1 h5 hs.2 5 0 e (by omega) hA2 he hn (by omega)
    have l1:=q1.len
    have hsk:=SK_sp C hki.1
    obtain ⟨e',p,q,r⟩:=chansW C D (I:=I) (G:=G) S ho hb h0 h1 hks d (i+1) e1 (by omega) hA3 q1.ok q1.nov (by omega)
    refine ⟨e',fun k hk => ?_,(q1.trans q).more (by omega) (by rw [Nat.mul_add,Nat.mul_one];omega),fun F hB hF hx k hk => ?_⟩
    · obtain ⟨k,rfl⟩ : ∃ r,k=(r+5+1)+1:=⟨k - 7,by omega⟩
      rw [cpack_Write.l1,if_pos (by omega),if_pos (by omega),if_pos (by omega),h5,show ((5 : Nat) : Int)=5 from rfl,show (0 : Int)=((0 : Nat) : Int) from rfl,p1 k (by omega)]
      exact p k (by omega)
    · obtain ⟨k,rfl⟩ : ∃ r,k=(r+5+1)+1:=⟨k - 7,by omega⟩
      have:=r1 F hB hF (q.ext F hB hx) k (by omega)
      rw [List.take_zero] at this
      rw [cpack_Read.l1,if_pos (by omega),show (0 : Int)=((0 : Nat) : Int) from rfl,this,takeL2 (by omega)]
      exact r F hB hF hx k (by omega)
theorem back_ok (C : Com.Cst K) (D : Com.Cnt V) {a b : Int} {I : Bool} {G A out : List (List Int)} {Y : List (List (List Int))} (hA : A.length≤10) (ha : ∀ g ∈ A,g.length≤60) (S : Sized Y) (g : Good K a b G Y out) (hr : ∀ q,7010≤q→cpack_Right.f q a b I G Y=some true) (hI : I=true∨gainsB b A=true) :
    ∃ x : List Int,(x.length : Int)=a∧Bytes x∧(∀ q,9000≤q→cpack_Write.f q a b I G Y A=some (x,0))∧∀ q,9100≤q→cpack_Read.f q a b x A=some (I,G,Y,0):=by
  have hab:=right_iff.1 g.ab
  have hSn:=S.n
  have hgo:=g.o
  have hgy:=g.y
  have hgg:=g.g
  have hgr : ∀ x ∈ G,Gan.rt x=true:=fun x hx=>by
    obtain ⟨j,hj,rfl⟩:=List.mem_iff_getElem.1 hx
    have:=gr_rt (g.c j hj).gr
    unfold rd_L2 at this
    rw [List.getD_eq_getElem?_getD,Int.toNat_natCast,List.getElem?_eq_getElem hj] at this
    exact this
  have hrm:=room_in g.ab
  obtain ⟨v,hv,hv0,hv1⟩ : ∃ v : Int,(v=if I=true then 1 else 0)∧0≤v∧v≤1:=⟨_,rfl,by split <;> omega,by split <;> omega⟩
  obtain ⟨e1,p1,q1,s1⟩:=Cod.put_piece Cod.new_e Cod.new_nov (lo:=v) (hi:=v+1) (tot:=2) ⟨hv0,by omega,by omega,by decide⟩ (by decide) (b:=1) (by decide)
  have l1:=q1.len
  obtain ⟨e2,p2,q2,r2⟩:=gainsW (a:=a) (I:=I) (Y:=Y) (by omega) hgr hI ha hgg G.length 0 e1 (by omega) q1.ok q1.nov (by simp only [E3.len,List.length_nil] at *; omega)
  have l2:=q2.len
  obtain ⟨e3,p3,q3,r3⟩:=chansW C D (a:=a) (b:=b) (I:=I) (G:=G) (R:=(room a b).toNat) S (by omega) hgy (by omega) (by omega) (fun i hi=>⟨(g.c i (by omega)).ks,by have:=(g.c i (by omega)).fit;omega⟩) Y.length 0 e2 (by omega) g.all q2.ok q2.nov (by simp only [E3.len,List.length_nil] at *; omega)
  have hfit : e3.len+4≤a.toNat:=fits g.ab (e:=e3) (n:=1+(15 * G.length+10 * Y.length)) (by omega) (B:=G.length) hgg (((q1.trans (q2.trans q3))).more (Nat.le_refl _) (by rw [show Y.length=G.length by omega];exact Nat.le_refl _))
  have hxl:=fin_len a.toNat (all e3)
  refine ⟨fin a.toNat (all e3),by omega,fin_bytes q3.ok hfit,fun q hq => ?_,fun q hq => ?_⟩
  · have j1 : ∀ q,8900≤q→cpack_Write.j1 q a b A v I G Y=some (fin a.toNat (all e3),0):=fun q hq=>by
      obtain ⟨r,rfl⟩ : ∃ r,q=(r+G.length+1)+1:=⟨q - G.length - 2,by omega⟩
      rw [cpack_Write.j1,new_p,Option.bind_some,w64 (by omega) (by omega),show coder_Put.f _ 0 4294967295 [] v (v+1) 2=_ from p1 _ (by omega),Option.bind_some,show cpack_Write.l0 (r+G.length+1) a b A G (G.length : Int) 0 I G Y e1.1 e1.2.1 e1.2.2=_ from p2 r (by omega),g.p r (by omega),Option.bind_some]
      exact p3 r (by omega)
    have j0 : ∀ q,8950≤q→cpack_Write.j0 q a b A false I G Y=some (fin a.toNat (all e3),0):=fun q hq=>by
      obtain ⟨r,rfl⟩ : ∃ r,q=r+1:=⟨q - 1,by omega⟩
      have:=j1 r (by omega)
      rw [cpack_Write.j0,if_neg (by simp)]
      cases I with
      | true=>rw [if_pos rfl];rw [hv,if_pos rfl] at this;exact this
      | false=>rw [if_neg (by simp)];rw [hv,if_neg (by simp)] at this;exact this
    unfold cpack_Write.f
    rw [hr q (by omega),Option.bind_some,if_pos rfl]
    cases I with
    | true=>rw [if_pos rfl];exact j0 q (by omega)
    | false =>
      rcases hI with hI|hI
      · exact absurd hI (by decide)
      · rw [if_neg (by simp),(gains_f b (by omega) (fun g hg=>by have:=ha g hg;omega) (by omega)).1,Option.bind_some,hI]
        exact j0 q (by omega)
  · have hB:=fin_bytes q3.ok hfit
    have hx3:=ext_fin q3.ok hfit
    generalize fin a.toNat (all e3)=F at *
    have hF : F.length≤9000:=by omega
    have hx2:=q3.ext F hB hx3
    have hx1:=q2.ext F hB hx2
    obtain ⟨hx0,c1,c2⟩:=Cod.ext_back Cod.new_e s1 hB hx1
    have hd:=Cod.open_ok hB
    have hcd:=Cod.open_cd hB hx0
    have hgt:=Cod.gt_in (by decide) (by decide) s1.fair c1 c2
    have hgv : Cod.gt (Cod.head4 F) 4294967295 2=v:=by
      rw [hcd]
      have h1 : v≤Cod.gt (Cd F (0,4294967295, [])) 4294967295 2:=hgt.1
      have h2 : Cod.gt (Cd F (0,4294967295, [])) 4294967295 2 < v+1:=hgt.2
      omega
    have htk : Cod.tk F (Cod.head4 F) 4294967295 4 v (v+1) 2=(Cd F e1,e1.2.1,((e1.len+4 : Nat) : Int)):=by
      rw [hcd]
      exact Cod.tk_eq Cod.new_e s1 hB hx1
    have hf : Cod.Fair v (v+1) 2:=s1.fair
    have j0 : ∀ q,9000≤q→cpack_Read.j0 q a b A false (Cd F e1) e1.2.1 F ((e1.len+4 : Nat) : Int) I=some (I,G,Y,0):=fun q hq=>by
      obtain ⟨q,rfl⟩ : ∃ r,q=(r+G.length+1)+1:=⟨q - G.length - 2,by omega⟩
      have h2:=r2 F hB hF hx2 q (by omega)
      rw [List.take_zero] at h2
      have h3:=r3 F hB hF hx3 q (by omega)
      rw [List.take_zero] at h3
      rw [cpack_Read.j0,if_neg (by simp),show (0 : Int)=((0 : Nat) : Int) from rfl,h2,g.p q (by omega),Option.bind_some]
      exact h3
    unfold cpack_Read.f
    rw [(right_f a b).1,Option.bind_some,g.ab,if_pos rfl,if_pos (by omega),Cod.open_f hB,Option.bind_some,Cod.get_ok (Cod.good_ok hd) hd (by decide) (by decide),Option.bind_some]
    dsimp only
    rw [hgv,w64 (x:=v+1) (by omega) (by omega),Cod.take_ok (Cod.good_ok hd) hd hB hF hf q (by omega),Option.bind_some,htk]
    dsimp only
    cases I with
    | true =>
      rw [if_pos rfl] at hv
      subst hv
      rw [if_pos rfl]
      exact j0 q (by omega)
    | false =>
      rw [if_neg (by simp)] at hv
      subst hv
      rcases hI with hI|hI
      · exact absurd hI (by decide)
      · rw [if_neg (by decide),(gains_f b (by omega) (fun g hg=>by have:=ha g hg;omega) (by omega)).1,Option.bind_some,hI]
        exact j0 q (by omega)
end Go.Proofs.Ytifkhfnmbiefaaa.Pak
