/- The pulse vectors and their numbers: what the program's functions and the document's come to, on numbers and lists. -/
import Derived.Test.YtnmbndkojpjkmaaZPackRightsComV
import Derived.Test.YtnmbndkojpjkmaaZPackRightsM1
import Derived.Test.YtnmbndkojpjkmaaZPackRightsM3
namespace Go.Proofs.Ytnmbndkojpjkmaa.Com
open Go Go.RowKit Go.Proofs.YtnmbndkojpjkmaaW.PrintWords Go.Proofs.Ytnmbndkojpjkmaa.Prt
set_option linter.unusedVariables false
set_option linter.unusedSimpArgs false

theorem w64 {x : Int} (h0 : -9223372036854775808≤x) (h1 : x≤9223372036854775807) : wrap64 x=x:=by unfold wrap64;omega
theorem u64 {x : Int} (h0 : 0≤x) (h1 : x≤18446744073709551615) : IntKind.u64.wrap x=x:=by
  have h : IntKind.u64.wrap x=x % 18446744073709551616:=by simp [IntKind.wrap,IntKind.bits,IntKind.signed]
  rw [h]
  omega
theorem rd_at {l : List Int} {i : Nat} (h : i < l.length) : rd l (i : Int)=l[i]:=by
  unfold rd
  rw [Int.toNat_natCast,List.getD_eq_getElem?_getD,List.getElem?_eq_getElem h,Option.getD_some]
variable {V : Nat→Nat→Int}
theorem VV (C : Cnt V) {n k : Nat} (hn : n < 17) (hk : k < 13) : 0≤V n k∧V n k≤1000000000000:=C.all hn hk
theorem P_succ (V : Nat→Nat→Int) (n k p : Nat) : P V n k (p+1)=P V n k p+V n (k - psz p):=rfl
theorem P_mono (C : Cnt V) {n k : Nat} (hn : n < 17) (hk : k < 13) {p : Nat} : ∀ {q : Nat},p≤q→P V n k p≤P V n k q:=by
  intro q
  induction q with
  | zero =>
    intro h
    obtain rfl : p=0:=by omega
    exact Int.le_refl _
  | succ q ih =>
    intro h
    rcases Nat.lt_or_ge q p with h1|h1
    · obtain rfl : p=q+1:=by omega
      exact Int.le_refl _
    · have:=ih h1
      have:=(VV C hn (show k - psz q < 13 by omega)).1
      rw [P_succ]
      omega
theorem P_top (C : Cnt V) {n k : Nat} (hn : n < 16) (hk : k < 13) : P V n k (2 * k+1)=V (n+1) k:=C.top hn hk
theorem P_nn (C : Cnt V) {n k : Nat} (hn : n < 17) (hk : k < 13) (p : Nat) : 0≤P V n k p:=P_mono C hn hk (Nat.zero_le p)
theorem P_odd (V : Nat→Nat→Int) (n k s : Nat) : P V n k (2 * (s+1)+1)=P V n k (2 * s+1)+2 * V n (k - (s+1)):=by
  rw [show 2 * (s+1)+1=(2 * s+1)+1+1 by omega,P_succ,P_succ,show psz (2 * s+1)=s+1 by unfold psz;omega,show psz (2 * s+1+1)=s+1 by unfold psz;omega]
  omega
theorem P_one (V : Nat→Nat→Int) (n k : Nat) : P V n k 1=V n k:=by
  rw [show (1 : Nat)=0+1 from rfl,P_succ]
  show 0+V n (k - 0)=V n k
  rw [Int.zero_add,Nat.sub_zero]

def Unr (V : Nat→Nat→Int) : Nat→Nat→Int→List Int→Prop
  | 0,k,i,y=>k=0∧i=0∧y = []
  | n+1,k,i,y => ∃ p ys,y=pval p :: ys∧psz p≤k∧P V n k p≤i∧i < P V n k (p+1)∧Unr V n (k - psz p) (i - P V n k p) ys
theorem Unr.len : ∀ {n k : Nat} {i : Int} {y : List Int},Unr V n k i y→y.length=n
  | 0,_,_,_,h=>by rw [h.2.2];rfl
  | n+1,k,i,y,⟨p,ys,e,_,_,_,h4⟩=>by rw [e,List.length_cons,Unr.len h4]
theorem pval_sz (p : Nat) : (pval p=(psz p : Int)∧p % 2=1)∨(pval p = -(psz p : Int)∧p % 2=0):=by
  unfold pval psz
  split
  · left;exact ⟨rfl,by assumption⟩
  · right;exact ⟨by congr 2;omega,by omega⟩
theorem pval_of (v : Int) : ∃ p,pval p=v∧(psz p : Int)=if v < 0 then -v else v:=by
  by_cases h : 0 < v
  · refine ⟨2 * v.toNat - 1, ?_, ?_⟩
    · unfold pval
      rw [if_pos (by omega)]
      omega
    · unfold psz
      rw [if_neg (by omega)]
      omega
  · refine ⟨2 * (-v).toNat, ?_, ?_⟩
    · unfold pval
      rw [if_neg (by omega)]
      omega
    · unfold psz
      split <;> omega

def sz (v : Int) : Int:=if -12≤v∧v≤12 then (if v < 0 then -v else v) else 13
def szs : List Int→Int
  | []=>0
  | v :: l=>sz v+szs l
theorem sz_in (v : Int) : 0≤sz v∧sz v≤13:=by
  unfold sz
  split
  · split <;> omega
  · omega
theorem szs_in : ∀ l : List Int,0≤szs l∧szs l≤13 * l.length
  | []=>by simp [szs]
  | v :: l=>by
    have:=szs_in l
    have:=sz_in v
    simp only [szs,List.length_cons]
    omega
theorem sz_pval {p : Nat} (h : psz p≤12) : sz (pval p)=psz p:=by
  unfold sz
  rcases pval_sz p with ⟨e,_⟩ | ⟨e,_⟩
  · rw [e,if_pos (by omega),if_neg (by omega)]
  · rw [e,if_pos (by omega)]
    split <;> omega
theorem size_f {v : Int} : comb_size.f v=some (sz v):=by
  unfold comb_size.f sz
  by_cases h : v < -12
  · rw [if_pos h,if_neg (by omega)]
  · rw [if_neg h]
    by_cases h' : v > 12
    · rw [if_pos h',if_neg (by omega)]
    · rw [if_neg h',if_pos (by omega),w64 (by omega) (by omega)]
      unfold mx
      congr 1
      by_cases h0 : v < 0
      · rw [if_pos (by omega),if_pos h0]
      · rw [if_neg (by omega),if_neg h0]
theorem refSize_l0 (v : Int) : ∀ (d j k : Nat),j+d=13→(-(j : Int) < v→v < j→False)→psalteryref06_Size.l0 (k+d+1) v (j : Int)=some (sz v):=by
  intro d
  induction d with
  | zero =>
    intro j k h hv
    rw [psalteryref06_Size.l0,if_neg (by omega)]
    unfold sz
    rw [if_neg (fun hh=>hv (by omega) (by omega))]
  | succ d ih =>
    intro j k h hv
    rw [show k+(d+1)+1=(k+d+1)+1 by omega,psalteryref06_Size.l0,if_pos (by omega),w64 (x := -(j : Int)) (by omega) (by omega),w64 (x:=(j : Int)+1) (by omega) (by omega)]
    by_cases h1 : v=j
    · rw [if_pos h1]
      unfold sz
      rw [if_pos (by omega)]
      congr 1
      split <;> omega
    · rw [if_neg h1]
      by_cases h2 : v = -j
      · rw [if_pos h2]
        unfold sz
        rw [if_pos (by omega)]
        congr 1
        split <;> omega
      · rw [if_neg h2,show (j : Int)+1=((j+1 : Nat) : Int) by omega]
        exact ih (j+1) k (by omega) (fun a b=>hv (by omega) (by omega))
theorem refSize_f (v : Int) {k : Nat} (hk : 20≤k) : psalteryref06_Size.f k v=some (sz v):=by
  unfold psalteryref06_Size.f
  obtain ⟨q,rfl⟩ : ∃ q,k=q+13+1:=⟨k - 14,by omega⟩
  exact refSize_l0 v 13 0 q (by omega) (by omega)
theorem refPulses_l0 {y : List Int} (hy : y.length≤1000) : ∀ (d i k : Nat) (a : Int),i+d=y.length→20≤k→0≤a→a≤13 * i→psalteryref06_Pulses.l0 (k+d+1) y a (i : Int)=some (a+szs (y.drop i)):=by
  intro d
  induction d with
  | zero =>
    intro i k a h hk h0 h1
    rw [psalteryref06_Pulses.l0,if_neg (by omega),List.drop_eq_nil_of_le (by omega)]
    simp [szs]
  | succ d ih =>
    intro i k a h hk h0 h1
    have hi : i < y.length:=by omega
    have hs:=sz_in y[i]
    rw [show k+(d+1)+1=(k+d+1)+1 by omega,psalteryref06_Pulses.l0,if_pos (by omega),if_pos (by omega),rd_at hi,refSize_f _ (by omega),Option.bind_some,w64 (x:=a+sz y[i]) (by omega) (by omega),w64 (x:=(i : Int)+1) (by omega) (by omega),show (i : Int)+1=((i+1 : Nat) : Int) by omega,ih (i+1) k _ (by omega) hk (by omega) (by omega),List.drop_eq_getElem_cons hi]
    simp only [szs]
    rw [Int.add_assoc]
theorem refPulses_f {y : List Int} (hy : y.length≤1000) {k : Nat} (hk : y.length+21≤k) : psalteryref06_Pulses.f k y=some (szs y):=by
  unfold psalteryref06_Pulses.f
  obtain ⟨q,rfl⟩ : ∃ q,k=q+y.length+1:=⟨k - y.length - 1,by omega⟩
  have:=refPulses_l0 hy y.length 0 q 0 (by omega) (by omega) (by omega) (by omega)
  rw [List.drop_zero,Int.zero_add] at this
  exact this
theorem Unr.szs : ∀ {n k : Nat} {i : Int} {y : List Int},k < 13→Unr V n k i y→szs y=k
  | 0,_,_,_,_,h=>by rw [h.2.2,h.1];rfl
  | n+1,k,i,y,hk,⟨p,ys,e,h1,_,_,h4⟩=>by
    rw [e]
    show sz (pval p)+Com.szs ys=k
    rw [sz_pval (by omega),Unr.szs (by omega) h4]
    omega
theorem Unr.ex (C : Cnt V) : ∀ (y : List Int) (k : Nat),y.length≤16→Com.szs y=k→k < 13→∃ i,0≤i∧i < V y.length k∧Unr V y.length k i y
  | [],k,_,h,hk=>by
    obtain rfl : k=0:=by simpa [Com.szs] using h.symm
    refine ⟨0,by decide, ?_,rfl,rfl,rfl⟩
    rw [show ([] : List Int).length=0 from rfl,C.zero (by decide)]
    decide
  | v :: ys,k,hl,h,hk=>by
    simp only [Com.szs] at h
    simp only [List.length_cons] at hl ⊢
    obtain ⟨p,hp,hps⟩:=pval_of v
    have h1:=sz_in v
    have h2:=szs_in ys
    have hv : -12≤v∧v≤12:=by
      unfold sz at h
      split at h
      · assumption
      · omega
    have hsz : sz v=psz p:=by
      unfold sz
      rw [if_pos hv,hps]
    obtain ⟨i,i0,i1,hi⟩:=Unr.ex C ys (k - psz p) (by omega) (by omega) (by omega)
    have e1 : P V ys.length k (p+1)=P V ys.length k p+V ys.length (k - psz p):=P_succ _ _ _ _
    have m1:=P_mono C (n:=ys.length) (k:=k) (by omega) hk (show p+1≤2 * k+1 by unfold psz at hsz;omega)
    have m2:=P_nn C (n:=ys.length) (k:=k) (by omega) hk p
    rw [P_top C (by omega) hk] at m1
    refine ⟨P V ys.length k p+i,by omega,by omega,p,ys,by rw [hp],by omega,by omega,by omega, ?_⟩
    rw [show P V ys.length k p+i - P V ys.length k p=i by omega]
    exact hi

theorem index_l2 (C : Cnt V) {y : List Int} {n kk s : Nat} (hn : n < 17) (hkk : kk < 13) (hs : s≤kk) (v at_ : Int) (a : Int) (ha : 0≤a) (ha1 : a≤10000000000000000) : ∀ (e d k : Nat),d+1+e=s →
    comb_Index.l2 (k+e+1) y (kk : Int) (a+P V n kk (2 * d+1)) v (n : Int) (s : Int) ((d+1 : Nat) : Int) y (y.length : Int) at_ =
      (if v < 0 then (comb_table.f (n : Int) (wrap64 ((kk : Int) - (s : Int)))).bind fun t119=>comb_Index.l1 k y (wrap64 ((kk : Int) - (s : Int))) (IntKind.u64.wrap (a+P V n kk (2 * (s - 1)+1)+t119)) y (y.length : Int) (wrap64 (at_+1)) else comb_Index.l1 k y (wrap64 ((kk : Int) - (s : Int))) (a+P V n kk (2 * (s - 1)+1)) y (y.length : Int) (wrap64 (at_+1))):=by
  intro e
  induction e with
  | zero =>
    intro d k h
    obtain rfl : d=s - 1:=by omega
    rw [comb_Index.l2,if_neg (by omega)]
  | succ e ih =>
    intro d k h
    have hp:=P_nn C hn hkk (2 * d+1)
    have hV:=VV C hn (show kk - (d+1) < 13 by omega)
    have hP : P V n kk (2 * d+1)≤26 * 1000000000000:=by
      have : ∀ m,m≤26→P V n kk m≤m * 1000000000000:=by
        intro m
        induction m with
        | zero=>intro _;exact Int.le_refl _
        | succ m ihm =>
          intro hm
          have:=ihm (by omega)
          have:=(VV C hn (show kk - psz m < 13 by omega)).2
          rw [P_succ]
          omega
      have:=this (2 * d+1) (by omega)
      omega
    rw [show k+(e+1)+1=(k+e+1)+1 by omega,comb_Index.l2,if_pos (by omega),w64 (x:=(kk : Int) - ((d+1 : Nat) : Int)) (by omega) (by omega),show (kk : Int) - ((d+1 : Nat) : Int)=((kk - (d+1) : Nat) : Int) by omega,C.table hn (by omega),Option.bind_some,u64 (x:=2 * V n (kk - (d+1))) (by omega) (by omega),u64 (by omega) (by omega),w64 (x:=((d+1 : Nat) : Int)+1) (by omega) (by omega),show ((d+1 : Nat) : Int)+1=((d+1+1 : Nat) : Int) by omega]
    have h1:=ih (d+1) k (by omega)
    rw [P_odd] at h1
    rw [Int.add_assoc]
    exact h1
theorem P_le (C : Cnt V) {n k : Nat} (hn : n < 17) (hk : k < 13) : ∀ p,P V n k p≤p * 1000000000000
  | 0=>Int.le_refl _
  | p+1=>by
    have:=P_le C hn hk p
    have:=(VV C hn (show k - psz p < 13 by omega)).2
    rw [P_succ]
    omega
theorem index_l1 (C : Cnt V) {y : List Int} (hy : y.length≤16) : ∀ (n kk at_ k : Nat) (i a : Int),at_+n=y.length→kk < 13→Unr V n kk i (y.drop at_)→0≤a→a≤100000000000000 * at_→30 * n+2≤k →
    comb_Index.l1 k y (kk : Int) a y (y.length : Int) (at_ : Int)=some (a+i,0)
  | 0,kk,at_,k,i,a,h,hkk,hu,ha,ha1,hk=>by
    obtain ⟨q,rfl⟩ : ∃ q,k=q+1:=⟨k - 1,by omega⟩
    rw [comb_Index.l1,if_neg (by omega),hu.2.1,Int.add_zero]
  | n+1,kk,at_,k,i,a,h,hkk,⟨p,ys,e,h1,h2,h3,h4⟩,ha,ha1,hk=>by
    have hat : at_ < y.length:=by omega
    have hd : y.drop (at_+1)=ys:=by
      rw [List.drop_eq_getElem_cons hat] at e
      exact (List.cons.inj e).2
    have hv : y[at_]=pval p:=by
      rw [List.drop_eq_getElem_cons hat] at e
      exact (List.cons.inj e).1
    have hpn:=P_nn C (n:=n) (by omega) hkk p
    have hpl:=P_le C (n:=n) (by omega) hkk p
    have hp24 : p≤24:=by unfold psz at h1;omega
    have ih:=fun q hq=>index_l1 C hy n (kk - psz p) (at_+1) q (i - P V n kk p) (a+P V n kk p) (by omega) (by omega) (by rw [hd];exact h4) (by omega) (by omega) hq
    have hn : Aside0 (wrap64 (wrap64 ((y.length : Int) - (at_ : Int)) - 1)=(n : Int)):=⟨by rw [w64 (x:=(y.length : Int) - at_) (by omega) (by omega),w64 (by omega) (by omega)];omega⟩
    have hk1 : Aside0 (wrap64 ((kk : Int) - (psz p : Int))=((kk - psz p : Nat) : Int)):=⟨by rw [w64 (by omega) (by omega)];omega⟩
    have hat1 : Aside0 (wrap64 ((at_ : Int)+1)=((at_+1 : Nat) : Int)):=⟨by rw [w64 (by omega) (by omega)];omega⟩
    have hfin : a+P V n kk p+(i - P V n kk p)=a+i:=by omega
    rw [hfin] at ih
    have hV0:=VV C (show n < 17 by omega) hkk
    have hV1:=VV C (show n < 17 by omega) (show kk - psz p < 13 by omega)
    by_cases hs : psz p=0
    · obtain ⟨q,rfl⟩ : ∃ q,k=q+1+1+1:=⟨k - 3,by omega⟩
      have hp0 : p=0:=by unfold psz at hs;omega
      subst hp0
      rw [comb_Index.l1,if_pos (by omega),if_pos (by omega),if_pos (by omega),rd_at hat,hv,size_f,sz_pval (by omega),Option.bind_some,if_neg (by omega),comb_Index.j3,hn.out,comb_Index.l2,if_neg (by omega),if_neg (by decide),hk1.out,hat1.out]
      have:=ih q (by omega)
      rw [show P V n kk 0=0 from rfl,Int.add_zero] at this
      exact this
    · obtain ⟨q,rfl⟩ : ∃ q,k=(q+(psz p - 1)+1)+1+1:=⟨k - psz p - 2,by omega⟩
      have hps : p=2 * psz p - 1∨p=2 * psz p:=by unfold psz;omega
      rw [comb_Index.l1,if_pos (by omega),if_pos (by omega),if_pos (by omega),rd_at hat,hv,size_f,sz_pval (by omega),Option.bind_some,if_pos (by omega),hn.out,C.table (by omega) hkk,Option.bind_some,comb_Index.j3,u64 (by omega) (by omega)]
      have hl2:=index_l2 C (y:=y) (n:=n) (kk:=kk) (s:=psz p) (by omega) hkk h1 (pval p) (at_ : Int) a ha (by omega) (psz p - 1) 0 q (by omega)
      rw [show 2 * 0+1=1 from rfl,P_one] at hl2
      rw [show ((0+1 : Nat) : Int)=1 from rfl] at hl2
      rw [hl2,hk1.out,hat1.out]
      rcases pval_sz p with ⟨e1,e2⟩ | ⟨e1,e2⟩
      · rw [if_neg (by omega),show 2 * (psz p - 1)+1=p by omega]
        exact ih q (by omega)
      · have e3 : P V n kk p=P V n kk (2 * (psz p - 1)+1)+V n (kk - psz p):=by
          have h5 : p=(2 * (psz p - 1)+1)+1:=by omega
          have h6 : psz (2 * (psz p - 1)+1)=psz p:=by unfold psz;omega
          have h7:=P_succ V n kk (2 * (psz p - 1)+1)
          rw [h6, ← h5] at h7
          exact h7
        have hp3:=P_nn C (n:=n) (by omega) hkk (2 * (psz p - 1)+1)
        rw [if_pos (by omega),C.table (by omega) (by omega),Option.bind_some,u64 (by omega) (by omega),Int.add_assoc, ← e3]
        exact ih q (by omega)
theorem index_l0 {y : List Int} (hy : y.length≤1000) : ∀ (d i k : Nat) (a : Int),i+d=y.length→0≤a→a≤13 * i→comb_Index.l0 (k+d+1) y a y (y.length : Int) (i : Int)=if a+szs (y.drop i) > 12 then some (0,1) else comb_Index.l1 k y (a+szs (y.drop i)) 0 y (y.length : Int) 0:=by
  intro d
  induction d with
  | zero =>
    intro i k a h h0 h1
    rw [comb_Index.l0,if_neg (by omega),List.drop_eq_nil_of_le (by omega)]
    simp only [szs,Int.add_zero]
  | succ d ih =>
    intro i k a h h0 h1
    have hi : i < y.length:=by omega
    have hs:=sz_in y[i]
    rw [show k+(d+1)+1=(k+d+1)+1 by omega,comb_Index.l0,if_pos (by omega),if_pos (by omega),if_pos (by omega),rd_at hi,size_f,Option.bind_some,w64 (x:=a+sz y[i]) (by omega) (by omega),w64 (x:=(i : Int)+1) (by omega) (by omega),show (i : Int)+1=((i+1 : Nat) : Int) by omega,ih (i+1) k _ (by omega) (by omega) (by omega),List.drop_eq_getElem_cons hi]
    rw [show szs (y[i] :: y.drop (i+1))=sz y[i] + szs (y.drop (i+1)) from rfl,Int.add_assoc]
theorem index_f (C : Cnt V) {y : List Int} {n k : Nat} {i : Int} (hn : 1≤n) (hn' : n≤16) (hk : k < 13) (hu : Unr V n k i y) {q : Nat} (hq : 700≤q) : comb_Index.f q y=some (i,0):=by
  have hl:=hu.len
  obtain ⟨r,rfl⟩ : ∃ r,q=(r+y.length+1)+1:=⟨q - y.length - 2,by omega⟩
  unfold comb_Index.f
  rw [if_neg (by omega),decide_eq_false (by omega),comb_Index.j0,if_neg (by decide)]
  have h0:=index_l0 (y:=y) (by omega) y.length 0 r 0 (by omega) (by omega) (by omega)
  rw [List.drop_zero,Int.zero_add,Unr.szs hk hu,if_neg (by omega),show ((0 : Nat) : Int)=0 from rfl] at h0
  have h1:=index_l1 C (y:=y) (by omega) n k 0 r i 0 (by omega) hk (by rw [List.drop_zero];exact hu) (by omega) (by omega) (by omega)
  rw [Int.zero_add,show ((0 : Nat) : Int)=0 from rfl] at h1
  exact h0.trans h1
theorem index_bad {y : List Int} (hy : y.length≤100) (h : y.length < 1∨y.length > 16∨szs y > 12) {q : Nat} (hq : 700≤q) : comb_Index.f q y=some (0,1):=by
  obtain ⟨r,rfl⟩ : ∃ r,q=(r+y.length+1)+1:=⟨q - y.length - 2,by omega⟩
  unfold comb_Index.f
  by_cases h1 : y.length < 1
  · rw [if_pos (by omega),comb_Index.j0,if_pos rfl]
  · rw [if_neg (by omega)]
    by_cases h2 : y.length > 16
    · rw [decide_eq_true (by omega),comb_Index.j0,if_pos rfl]
    · rw [decide_eq_false (by omega),comb_Index.j0,if_neg (by decide)]
      have h0:=index_l0 (y:=y) (by omega) y.length 0 r 0 (by omega) (by omega) (by omega)
      rw [List.drop_zero,Int.zero_add,if_pos (by omega),show ((0 : Nat) : Int)=0 from rfl] at h0
      exact h0
end Go.Proofs.Ytnmbndkojpjkmaa.Com
