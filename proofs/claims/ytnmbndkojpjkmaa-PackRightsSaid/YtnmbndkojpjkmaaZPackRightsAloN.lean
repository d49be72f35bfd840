/- Pulses of one channel: the program's and the document's are the same. -/
import Derived.Test.YtnmbndkojpjkmaaZPackRightsAloM
import Derived.Test.YtnmbndkojpjkmaaZPackRightsM1
import Derived.Test.YtnmbndkojpjkmaaZPackRightsM3
import Derived.Test.YtnmbndkojpjkmaaZPackRightsM4
namespace Go.Proofs.Ytnmbndkojpjkmaa.Alo
open Go Go.RowKit Go.Proofs.YtnmbndkojpjkmaaW.PrintWords Go.Proofs.Ytnmbndkojpjkmaa.Prt
set_option linter.unusedVariables false
set_option linter.unusedSimpArgs false
variable {K : Nat→Nat→Int}
def best (K : Nat→Nat→Int) (g l : List Int) (R : Int) : Option Nat:=pick (may K g l R) (wth g l) 5 0 none
theorem cd_some (b : Nat) : cd (some b)=(b : Int):=rfl
theorem ok_none (m : Nat→Bool) : Ok5 m none:=fun y hy=>absurd hy (by simp)
theorem give_none (C : Com.Cst K) {g l : List Int} {R : Int} (hg : Gr g) (h : Ks l) (hb : best K g l R=none) {q : Nat} (hq : 3030≤q) : alloc_give.f q g l (R - Sp K l)=some (R - Sp K l,false,l):=by
  obtain ⟨r,rfl⟩ : ∃ r,q=(r+1)+5:=⟨q - 6,by omega⟩
  have e:=give_loop C (R:=R) hg h (q:=r+1) (by omega) 5 0 none rfl (ok_none _)
  unfold best at hb
  rw [hb] at e
  unfold alloc_give.f
  refine Eq.trans e ?_
  rw [alloc_give.l0,if_neg (by decide),if_pos (by decide)]
theorem give_some (C : Com.Cst K) {g l : List Int} {R : Int} (hg : Gr g) (h : Ks l) {b : Nat} (hR : R≤1000) (hb : best K g l R=some b) (hm : may K g l R b=true) (hb5 : b < 5) (h0 : Sp K l≤R) {q : Nat} (hq : 3030≤q) : alloc_give.f q g l (R - Sp K l)=some (R - Sp K (more l b),true,more l b):=by
  obtain ⟨r,rfl⟩ : ∃ r,q=(r+1)+5:=⟨q - 6,by omega⟩
  have hl:=h.1
  have hr:=Ks_rd h hb5
  have e:=give_loop C (R:=R) hg h (q:=r+1) (by omega) 5 0 none rfl (ok_none _)
  unfold best at hb
  rw [hb] at e
  obtain ⟨c,hc,hc'⟩:=cost_f C (R:=R) hg h hb5 (q:=r) (by omega)
  have hm' := hm
  unfold may at hm'
  rw [decide_eq_true_eq] at hm'
  have s1:=Sp_in C h
  have s2:=Sp_in C (Ks_more h hb5 hm'.2.1)
  unfold alloc_give.f
  refine Eq.trans e ?_
  rw [cd_some,alloc_give.l0,if_neg (by decide)]
  rw [if_neg (by omega),hc,Option.bind_some,if_pos (by omega),if_pos (by omega)]
  dsimp only
  rw [hc' hm,w64 (x:=R - Sp K l - (Sp K (more l b) - Sp K l)) (by omega) (by omega),w64 (x:=rd l (b : Int)+1) (by omega) (by omega),Int.toNat_natCast,show R - Sp K l - (Sp K (more l b) - Sp K l)=R - Sp K (more l b) by omega]
  rfl
theorem chan_none (C : Com.Cst K) {g l : List Int} {R : Int} (hg : Gr g) (h : Ks l) (hb : best K g l R=none) {q : Nat} (hq : 3030≤q) : psalteryref12_Channel.l0 q g R l=some l:=by
  obtain ⟨r,rfl⟩ : ∃ r,q=((r+1)+5)+1:=⟨q - 7,by omega⟩
  obtain ⟨v,e⟩:=chan_loop C (R:=R) hg h (q:=r+1) (by omega) 5 0 none 0 rfl (ok_none _) (fun y hy=>absurd hy (by simp))
  unfold best at hb
  rw [hb] at e
  rw [psalteryref12_Channel.l0]
  refine Eq.trans e ?_
  rw [psalteryref12_Channel.l1,if_neg (by decide),if_pos (by decide)]
theorem chan_some (C : Com.Cst K) {g l : List Int} {R : Int} (hg : Gr g) (h : Ks l) {b : Nat} (hb : best K g l R=some b) (hb5 : b < 5) {r : Nat} (hq : 3030≤r) : psalteryref12_Channel.l0 (r+7) g R l=psalteryref12_Channel.l0 r g R (more l b):=by
  obtain ⟨v,e⟩:=chan_loop C (R:=R) hg h (q:=r+1) (by omega) 5 0 none 0 rfl (ok_none _) (fun y hy=>absurd hy (by simp))
  unfold best at hb
  rw [hb] at e
  rw [show r+7=((r+1)+5)+1 by omega,psalteryref12_Channel.l0]
  refine Eq.trans e ?_
  rw [cd_some,psalteryref12_Channel.l1,if_neg (by decide),if_neg (by omega),more_f h hb5,Option.bind_some]
def tot (l : List Int) : Int:=rd l 0+rd l 1+rd l 2+rd l 3+rd l 4
theorem tot_in {l : List Int} (h : Ks l) : 0≤tot l∧tot l≤60:=by
  have f0 : 0≤rd l 0∧rd l 0≤12:=Ks_rd h (b:=0) (by decide)
  have f1 : 0≤rd l 1∧rd l 1≤12:=Ks_rd h (b:=1) (by decide)
  have f2 : 0≤rd l 2∧rd l 2≤12:=Ks_rd h (b:=2) (by decide)
  have f3 : 0≤rd l 3∧rd l 3≤12:=Ks_rd h (b:=3) (by decide)
  have f4 : 0≤rd l 4∧rd l 4≤12:=Ks_rd h (b:=4) (by decide)
  unfold tot
  omega
theorem tot_more {l : List Int} (hl : l.length=5) {b : Nat} (hb : b < 5) : tot (more l b)=tot l+1:=by
  have f0 : rd (more l b) 0=_:=rd_more hl hb (c:=0) (by decide)
  have f1 : rd (more l b) 1=_:=rd_more hl hb (c:=1) (by decide)
  have f2 : rd (more l b) 2=_:=rd_more hl hb (c:=2) (by decide)
  have f3 : rd (more l b) 3=_:=rd_more hl hb (c:=3) (by decide)
  have f4 : rd (more l b) 4=_:=rd_more hl hb (c:=4) (by decide)
  unfold tot
  rw [f0,f1,f2,f3,f4]
  have hb' : b=0∨b=1∨b=2∨b=3∨b=4:=by omega
  rcases hb' with rfl|rfl|rfl|rfl|rfl
  · change rd l 0+1+rd l 1+rd l 2+rd l 3+rd l 4=_;omega
  · change rd l 0+(rd l 1+1)+rd l 2+rd l 3+rd l 4=_;omega
  · change rd l 0+rd l 1+(rd l 2+1)+rd l 3+rd l 4=_;omega
  · change rd l 0+rd l 1+rd l 2+(rd l 3+1)+rd l 4=_;omega
  · change rd l 0+rd l 1+rd l 2+rd l 3+(rd l 4+1)=_;omega
structure Chan (K : Nat→Nat→Int) (g : List Int) (R : Int) (l l' : List Int) : Prop where
  gr : Gr g
  ks : Ks l'
  fit : Sp K l'≤R
  full : ∀ b,b < 5→may K g l' R b=false
  still : ∀ b : Nat,b < 5→rd g (b : Int)=0→rd l' (b : Int)=rd l (b : Int)
  prog : ∀ (q t : Nat),4000≤q→60≤t+tot l→∀ x0 x1 x8 x22 x23 x24 r,x8.length < 5864062014805→alloc_Pulses.l0 q x0 x1 (x8 ++ [l']) x22 x23 (wrap64 (x24+1))=some r→alloc_Pulses.l1 (q+t+1) x0 x1 x8 g l x22 x23 x24 (R - Sp K l)=some r
  doc : ∀ (q t : Nat),4000≤q→60≤t+tot l→psalteryref12_Channel.l0 (q+7 * t) g R l=some l'
theorem chan (C : Com.Cst K) {g : List Int} {R : Int} (hg : Gr g) (hR : R≤1000) : ∀ (d : Nat) (l : List Int),Ks l→Sp K l≤R→60≤d+tot l→∃ l',Chan K g R l l'
  | d,l,h,hs,hd=>by
    cases hb : best K g l R with
    | none =>
      refine ⟨l,⟨hg,h,hs,fun b hb5=>pick_none 5 0 hb b (by omega) (by omega),fun _ _ _=>rfl, ?_, ?_⟩⟩
      · intro q t hq ht x0 x1 x8 x22 x23 x24 r hx hr
        rw [alloc_Pulses.l1,give_none C hg h hb (by omega),Option.bind_some,if_neg (by simp),if_pos hx]
        exact at_rounds (fun k=>(alloc_Pulses.mono_l k).2.1 _ _ _ _ _ _) (Nat.le_add_right q t) hr
      · intro q t hq ht
        exact chan_none C hg h hb (by omega)
    | some b =>
      obtain ⟨hb5,hm⟩:=pick_ok (w:=wth g l) 5 0 none rfl (ok_none (may K g l R)) b hb
      have hm' := hm
      unfold may at hm'
      rw [decide_eq_true_eq] at hm'
      have hk:=Ks_more h hb5 hm'.2.1
      have t1:=tot_more h.1 hb5
      have t2:=tot_in hk
      obtain ⟨d,rfl⟩ : ∃ r,d=r+1:=⟨d - 1,by omega⟩
      obtain ⟨l',c⟩:=chan C hg hR d (more l b) hk hm'.2.2 (by omega)
      refine ⟨l',⟨hg,c.ks,c.fit,c.full, ?_, ?_, ?_⟩⟩
      · intro a ha h0
        rw [c.still a ha h0,rd_more h.1 hb5 ha,if_neg]
        rintro rfl
        omega
      · intro q t hq ht x0 x1 x8 x22 x23 x24 r hx hr
        obtain ⟨t,rfl⟩ : ∃ r,t=r+1:=⟨t - 1,by omega⟩
        rw [show q+(t+1)+1=(q+t+1)+1 by omega,alloc_Pulses.l1,give_some C hg h hR hb hm hb5 hs (by omega),Option.bind_some,if_pos (by simp)]
        exact c.prog q t hq (by omega) x0 x1 x8 x22 x23 x24 r hx hr
      · intro q t hq ht
        obtain ⟨t,rfl⟩ : ∃ r,t=r+1:=⟨t - 1,by omega⟩
        rw [show q+7 * (t+1)=(q+7 * t)+7 by omega,chan_some C hg h hb hb5 (by omega)]
        exact c.doc q t hq (by omega)
def Z5 : List Int := [0,0,0,0,0]
theorem Z5_rd {b : Nat} (h : b < 5) : rd Z5 (b : Int)=0:=(by decide : ∀ b : Fin 5,rd Z5 (b.1 : Int)=0) ⟨b,h⟩
theorem Z5_ks : Ks Z5:=⟨rfl,fun b hb=>by rw [Z5_rd hb];have:=mst_in b;omega⟩
theorem Z5_sp (C : Com.Cst K) : Sp K Z5=0:=by
  have f:=fun (b : Nat) (hb : b < 5)=>Kb_0 C hb
  have f0:=f 0 (by decide)
  have f1:=f 1 (by decide)
  have f2:=f 2 (by decide)
  have f3:=f 3 (by decide)
  have f4:=f 4 (by decide)
  change Kb K 0 0+Kb K 1 0+Kb K 2 0+Kb K 3 0+Kb K 4 0=0
  omega
def rt (l : List Int) : Bool:=((l.length : Int) == 5) && l.all (fun x=>decide (0≤x∧x≤44))
theorem rt_gr {l : List Int} (h : rt l=true) : Gr l:=by
  simp only [rt,Bool.and_eq_true,List.all_eq_true,decide_eq_true_eq,beq_iff_eq] at h
  have hl : l.length=5:=by omega
  refine ⟨hl,fun b hb => ?_⟩
  unfold Go.Proofs.YtnmbndkojpjkmaaW.PrintWords.rd
  rw [List.getD_eq_getElem?_getD,Int.toNat_natCast,List.getElem?_eq_getElem (by omega)]
  exact h.2 _ (List.getElem_mem _)
theorem drop_rd (l : List Int) (i : Nat) (h : i < l.length) : l.drop i=rd l (i : Int) :: l.drop (i+1):=by
  rw [List.drop_eq_getElem_cons h]
  unfold Go.Proofs.YtnmbndkojpjkmaaW.PrintWords.rd
  rw [List.getD_eq_getElem?_getD,Int.toNat_natCast,List.getElem?_eq_getElem h]
  rfl
theorem right_l0 (l : List Int) (hl : l.length≤9000) : ∀ (d i k : Nat),i+d=l.length→d < k→gain_Right.l0 k l l (l.length : Int) (i : Int)=some (((l.length : Int) == 5) && (l.drop i).all (fun x=>decide (0≤x∧x≤44)))
  | 0,i,k,hi,hk=>by
    obtain ⟨k,rfl⟩ : ∃ m,k=m+1:=⟨k - 1,by omega⟩
    simp only [gain_Right.l0]
    rw [if_neg (by omega),List.drop_eq_nil_of_le (by omega)]
    simp
  | d+1,i,k,hi,hk=>by
    obtain ⟨k,rfl⟩ : ∃ m,k=m+1:=⟨k - 1,by omega⟩
    simp only [gain_Right.l0]
    rw [if_pos (by omega),if_pos (by omega),if_pos (by omega),drop_rd l i (by omega),List.all_cons]
    by_cases h0 : rd l (i : Int) < 0
    · rw [if_pos h0,show decide (0≤rd l (i : Int)∧rd l (i : Int)≤44)=false by simp;omega]
      simp
    · rw [if_neg h0]
      by_cases h1 : rd l (i : Int) > 44
      · rw [if_pos h1,show decide (0≤rd l (i : Int)∧rd l (i : Int)≤44)=false by simp;omega]
        simp
      · rw [if_neg h1,w64 (by omega) (by omega),show decide (0≤rd l (i : Int)∧rd l (i : Int)≤44)=true by simp;omega,Bool.true_and]
        exact right_l0 l hl d (i+1) k (by omega) (by omega)
theorem right_ok (l : List Int) (hl : l.length≤9000) (k : Nat) (hk : l.length < k) : gain_Right.f k l=some (rt l):=right_l0 l hl l.length 0 k (by omega) hk
theorem refRight_l0 (l : List Int) (hl : l.length≤9000) : ∀ (d i k : Nat) (ok : Bool),i+d=l.length→d < k→psalteryref11_Right.l0 k l ok (i : Int)=some (ok && (l.drop i).all (fun x=>decide (0≤x∧x≤44)))
  | 0,i,k,ok,hi,hk=>by
    obtain ⟨k,rfl⟩ : ∃ m,k=m+1:=⟨k - 1,by omega⟩
    simp only [psalteryref11_Right.l0]
    rw [if_neg (by omega),List.drop_eq_nil_of_le (by omega)]
    simp
  | d+1,i,k,ok,hi,hk=>by
    obtain ⟨k,rfl⟩ : ∃ m,k=m+1:=⟨k - 1,by omega⟩
    have ih:=fun ok=>refRight_l0 l hl d (i+1) k ok (by omega) (by omega)
    simp only [psalteryref11_Right.l0]
    rw [if_pos (by omega),drop_rd l i (by omega),List.all_cons,w64 (x:=(i : Int)+1) (by omega) (by omega)]
    cases ok with
    | false=>rw [if_neg (by simp)];exact (ih false).trans (by simp)
    | true =>
      rw [if_pos rfl,if_pos (by omega)]
      by_cases h0 : rd l (i : Int) ≥ 0
      · rw [if_pos h0]
        refine (ih _).trans ?_
        rw [show decide (0≤rd l (i : Int)∧rd l (i : Int)≤44)=decide (rd l (i : Int)≤44) from decide_eq_decide.2 ⟨fun h=>h.2,fun h=>⟨h0,h⟩⟩,Bool.true_and]
      · rw [if_neg h0,show decide (0≤rd l (i : Int)∧rd l (i : Int)≤44)=false by simp;omega]
        exact (ih false).trans (by simp)
theorem refRight_ok (l : List Int) (hl : l.length≤9000) (k : Nat) (hk : l.length < k) : psalteryref11_Right.f k l=some (rt l):=by
  unfold psalteryref11_Right.f
  rw [show (0 : Int)=((0 : Nat) : Int) from rfl,refRight_l0 l hl l.length 0 k _ (by omega) hk]
  rfl
end Go.Proofs.Ytnmbndkojpjkmaa.Alo
