/- Pulses of one channel: what a band costs and is worth, by the program and by the document. -/
import Derived.Test.YtnmbndkojpjkmaaZPackRightsAloK
import Derived.Test.YtnmbndkojpjkmaaZPackRightsComC
import Derived.Test.YtnmbndkojpjkmaaZPackRightsM1
import Derived.Test.YtnmbndkojpjkmaaZPackRightsM3
import Derived.Test.YtnmbndkojpjkmaaZPackRightsM4
namespace Go.Proofs.Ytnmbndkojpjkmaa.Alo
open Go Go.RowKit Go.Proofs.YtnmbndkojpjkmaaW.PrintWords Go.Proofs.Ytnmbndkojpjkmaa.Prt
set_option linter.unusedVariables false
set_option linter.unusedSimpArgs false
variable {K : Nat→Nat→Int}
def W (b : Nat) : Nat := [1,1,2,4,8].getD b 0
theorem W_in {b : Nat} (h : b < 5) : 1≤W b∧W b≤8:=(by decide : ∀ b : Fin 5,1≤W b.1∧W b.1≤8) ⟨b,h⟩
def mst (b : Nat) : Int:=if W b=1 then 1 else 12
theorem width_p {b : Nat} (h : b < 5) : band_Width.f (b : Int)=some (W b : Int):=(by decide +kernel : ∀ b : Fin 5,band_Width.f (b.1 : Int)=some (W b.1 : Int)) ⟨b,h⟩
theorem most_p {b : Nat} (h : b < 5) : alloc_most.f (b : Int)=some (mst b):=(by decide +kernel : ∀ b : Fin 5,alloc_most.f (b.1 : Int)=some (mst b.1)) ⟨b,h⟩
theorem width_1 : ∀ b : Fin 5,psalteryref10_Width.f 1 (b.1 : Int)=some (W b.1 : Int):=by decide +kernel
theorem width_r {b : Nat} (h : b < 5) {q : Nat} (hq : 1≤q) : psalteryref10_Width.f q (b : Int)=some (W b : Int):=at_rounds (psalteryref10_Width.mono _) hq (width_1 ⟨b,h⟩)
def Gr (g : List Int) : Prop:=g.length=5∧∀ b : Nat,b < 5→0≤rd g (b : Int)∧rd g (b : Int)≤44
def Ks (l : List Int) : Prop:=l.length=5∧∀ b : Nat,b < 5→0≤rd l (b : Int)∧rd l (b : Int)≤mst b
theorem mst_in (b : Nat) : 1≤mst b∧mst b≤12:=by unfold mst;by_cases h : W b=1 <;> simp [h]
def Kb (K : Nat→Nat→Int) (b : Nat) (v : Int) : Int:=K (W b) v.toNat
theorem Kb_in (C : Com.Cst K) {b : Nat} (h : b < 5) {v : Int} (v0 : 0≤v) (v1 : v≤12) : 0≤Kb K b v∧Kb K b v≤60:=by
  have hw:=W_in h
  have:=C.cost (n:=W b) (k:=v.toNat) (by omega) (by omega) (by omega)
  exact ⟨this.1,this.2.1⟩
theorem Kb_c (C : Com.Cst K) {b : Nat} (h : b < 5) {v : Int} (v0 : 0≤v) (v1 : v≤12) {q : Nat} (hq : 3000≤q) : comb_Cost.f q (W b : Int) v=some (Kb K b v,0)∧psalteryref06_Cost.f q (W b : Int) v=some (Kb K b v):=by
  have hw:=W_in h
  have:=(C.cost (n:=W b) (k:=v.toNat) (by omega) (by omega) (by omega)).2.2.2 q hq
  rw [Int.toNat_of_nonneg v0] at this
  exact this
theorem Kb_0 (C : Com.Cst K) {b : Nat} (h : b < 5) : Kb K b 0=0:=by
  have hw:=W_in h
  exact (C.cost (n:=W b) (k:=0) (by omega) (by omega) (by omega)).2.2.1 rfl
def Sp (K : Nat→Nat→Int) (l : List Int) : Int:=Kb K 0 (rd l 0)+Kb K 1 (rd l 1)+Kb K 2 (rd l 2)+Kb K 3 (rd l 3)+Kb K 4 (rd l 4)
theorem Ks_rd {l : List Int} (h : Ks l) {b : Nat} (hb : b < 5) : 0≤rd l (b : Int)∧rd l (b : Int)≤12:=by
  have:=h.2 b hb
  have:=mst_in b
  omega
theorem Sp_in (C : Com.Cst K) {l : List Int} (h : Ks l) : 0≤Sp K l∧Sp K l≤300:=by
  have f:=fun (b : Nat) (hb : b < 5)=>Kb_in C hb (Ks_rd h hb).1 (Ks_rd h hb).2
  have f0 : 0≤Kb K 0 (rd l 0)∧Kb K 0 (rd l 0)≤60:=f 0 (by decide)
  have f1 : 0≤Kb K 1 (rd l 1)∧Kb K 1 (rd l 1)≤60:=f 1 (by decide)
  have f2 : 0≤Kb K 2 (rd l 2)∧Kb K 2 (rd l 2)≤60:=f 2 (by decide)
  have f3 : 0≤Kb K 3 (rd l 3)∧Kb K 3 (rd l 3)≤60:=f 3 (by decide)
  have f4 : 0≤Kb K 4 (rd l 4)∧Kb K 4 (rd l 4)≤60:=f 4 (by decide)
  unfold Sp
  omega
theorem sp_step (C : Com.Cst K) {l : List Int} (h : Ks l) {b : Nat} (hb : b < 5) {q : Nat} (hq : 3000≤q) {x : Int} (x0 : 0≤x) (x1 : x≤1000) : psalteryref12_Spent.l0 (q+1) l x (b : Int)=psalteryref12_Spent.l0 q l (x+Kb K b (rd l (b : Int))) ((b+1 : Nat) : Int):=by
  have hl:=h.1
  have hr:=Ks_rd h hb
  have hk:=Kb_in C hb hr.1 hr.2
  rw [psalteryref12_Spent.l0,if_pos (by omega),width_r hb (by omega),Option.bind_some,if_pos (by omega),if_pos (by omega),(Kb_c C hb hr.1 hr.2 hq).2,Option.bind_some,w64 (by omega) (by omega),w64 (by omega) (by omega)]
  rfl
theorem spent_f (C : Com.Cst K) {l : List Int} (h : Ks l) {q : Nat} (hq : 3010≤q) : psalteryref12_Spent.f q l=some (Sp K l):=by
  obtain ⟨r,rfl⟩ : ∃ r,q=r+1+1+1+1+1+1:=⟨q - 6,by omega⟩
  have f:=fun (b : Nat) (hb : b < 5)=>Kb_in C hb (Ks_rd h hb).1 (Ks_rd h hb).2
  have f0:=f 0 (by decide)
  have f1:=f 1 (by decide)
  have f2:=f 2 (by decide)
  have f3:=f 3 (by decide)
  unfold psalteryref12_Spent.f
  rw [show (psalteryref12_Spent.l0 (r+1+1+1+1+1+1) l 0 0)=psalteryref12_Spent.l0 (r+1+1+1+1+1+1) l 0 ((0 : Nat) : Int) from rfl,sp_step C h (b:=0) (by omega) (by omega) (by omega) (by omega),sp_step C h (b:=1) (by omega) (by omega) (by omega) (by omega),sp_step C h (b:=2) (by omega) (by omega) (by omega) (by omega),sp_step C h (b:=3) (by omega) (by omega) (by omega) (by omega),sp_step C h (b:=4) (by omega) (by omega) (by omega) (by omega),psalteryref12_Spent.l0,if_neg (by omega),Int.zero_add]
  rfl
def more (l : List Int) (b : Nat) : List Int:=l.set b (rd l (b : Int)+1)
theorem rd_more {l : List Int} (hl : l.length=5) {b c : Nat} (hb : b < 5) (hc : c < 5) : rd (more l b) (c : Int)=if c=b then rd l (b : Int)+1 else rd l (c : Int):=by
  unfold more Go.Proofs.YtnmbndkojpjkmaaW.PrintWords.rd
  simp only [Int.toNat_natCast,List.getD_eq_getElem?_getD,List.getElem?_set]
  by_cases h : b=c
  · subst h
    simp [hl,hb]
  · rw [if_neg h,if_neg (Ne.symm h)]
theorem Sp_more {l : List Int} (hl : l.length=5) {b : Nat} (hb : b < 5) : Sp K (more l b)=Sp K l+(Kb K b (rd l (b : Int)+1) - Kb K b (rd l (b : Int))):=by
  have f:=fun (c : Nat) (hc : c < 5)=>rd_more hl hb hc
  have f0:=f 0 (by decide)
  have f1:=f 1 (by decide)
  have f2:=f 2 (by decide)
  have f3:=f 3 (by decide)
  have f4:=f 4 (by decide)
  have hb' : b=0∨b=1∨b=2∨b=3∨b=4:=by omega
  unfold Sp
  change rd (more l b) 0=_ at f0
  change rd (more l b) 1=_ at f1
  change rd (more l b) 2=_ at f2
  change rd (more l b) 3=_ at f3
  change rd (more l b) 4=_ at f4
  rw [f0,f1,f2,f3,f4]
  rcases hb' with rfl|rfl|rfl|rfl|rfl
  · change Kb K 0 (rd l 0+1)+_+_+_+_=_+(Kb K 0 (rd l 0+1) - Kb K 0 (rd l 0));simp only [show (1 : Nat)≠0 by decide,show (2 : Nat)≠0 by decide,show (3 : Nat)≠0 by decide,show (4 : Nat)≠0 by decide,if_false];change Kb K 0 (rd l 0+1)+Kb K 1 (rd l 1)+Kb K 2 (rd l 2)+Kb K 3 (rd l 3)+Kb K 4 (rd l 4)=_;omega
  · change Kb K 0 (rd l 0)+Kb K 1 (rd l 1+1)+Kb K 2 (rd l 2)+Kb K 3 (rd l 3)+Kb K 4 (rd l 4)=_+(Kb K 1 (rd l 1+1) - Kb K 1 (rd l 1));omega
  · change Kb K 0 (rd l 0)+Kb K 1 (rd l 1)+Kb K 2 (rd l 2+1)+Kb K 3 (rd l 3)+Kb K 4 (rd l 4)=_+(Kb K 2 (rd l 2+1) - Kb K 2 (rd l 2));omega
  · change Kb K 0 (rd l 0)+Kb K 1 (rd l 1)+Kb K 2 (rd l 2)+Kb K 3 (rd l 3+1)+Kb K 4 (rd l 4)=_+(Kb K 3 (rd l 3+1) - Kb K 3 (rd l 3));omega
  · change Kb K 0 (rd l 0)+Kb K 1 (rd l 1)+Kb K 2 (rd l 2)+Kb K 3 (rd l 3)+Kb K 4 (rd l 4+1)=_+(Kb K 4 (rd l 4+1) - Kb K 4 (rd l 4));omega
theorem Ks_more {l : List Int} (h : Ks l) {b : Nat} (hb : b < 5) (hm : rd l (b : Int) < mst b) : Ks (more l b):=by
  refine ⟨by unfold more;rw [List.length_set];exact h.1,fun c hc => ?_⟩
  rw [rd_more h.1 hb hc]
  by_cases e : c=b
  · subst e
    rw [if_pos rfl]
    have:=h.2 c hc
    omega
  · rw [if_neg e]
    exact h.2 c hc
theorem more_f {l : List Int} (h : Ks l) {b : Nat} (hb : b < 5) : psalteryref12_More.f l (b : Int)=some (more l b):=by
  have hr:=Ks_rd h hb
  have hl:=h.1
  unfold psalteryref12_More.f
  rw [Option.bind_some,if_pos (by rw [hl];decide),Option.bind_some,List.nil_append,if_pos (by omega),if_pos (by omega),w64 (by omega) (by omega),Int.toNat_natCast]
  rfl
def may (K : Nat→Nat→Int) (g l : List Int) (R : Int) (b : Nat) : Bool:=decide (1≤rd g (b : Int)∧rd l (b : Int) < mst b∧Sp K (more l b)≤R)
theorem may_f (C : Com.Cst K) {g l : List Int} {R : Int} (hg : Gr g) (h : Ks l) {b : Nat} (hb : b < 5) {q : Nat} (hq : 3020≤q) : psalteryref12_May.f q g l (b : Int) R=some (may K g l R b):=by
  have hgl:=hg.1
  have hl:=h.1
  have hr:=Ks_rd h hb
  have hm:=h.2 b hb
  obtain ⟨q,rfl⟩ : ∃ r,q=r+1:=⟨q - 1,by omega⟩
  unfold psalteryref12_May.f may
  rw [if_pos (by omega),if_pos (by omega)]
  simp only [psalteryref12_May.j0]
  by_cases h1 : rd g (b : Int) < 1
  · rw [if_pos h1,decide_eq_false (by omega),if_pos (by simp)]
  · rw [if_neg h1,if_pos (by omega)]
    by_cases h2 : rd l (b : Int) ≥ 12
    · have:=mst_in b
      rw [if_pos h2,decide_eq_false (by omega),if_pos (by simp)]
    · rw [if_neg h2,width_r hb (by omega),Option.bind_some]
      have key : rd l (b : Int) < mst b→(psalteryref12_More.f l (b : Int)).bind (fun t239=>(psalteryref12_Spent.f q t239).bind fun t242=>some (decide (t242≤R)))=some (decide (1≤rd g (b : Int)∧rd l (b : Int) < mst b∧Sp K (more l b)≤R)):=by
        intro hx
        rw [more_f h hb,Option.bind_some,spent_f C (Ks_more h hb hx) (by omega),Option.bind_some]
        congr 1
        rw [decide_eq_decide]
        exact ⟨fun hz=>⟨by omega,hx,hz⟩,fun hz=>hz.2.2⟩
      by_cases hw : W b=1
      · have hw' : mst b=1:=by unfold mst;rw [if_pos hw]
        rw [if_pos (by omega)]
        by_cases h3 : rd l (b : Int) > 0
        · rw [decide_eq_true h3,if_pos (by simp),decide_eq_false (by omega)]
        · rw [decide_eq_false h3,if_neg (by simp)]
          exact key (by omega)
      · have hw' : mst b=12:=by unfold mst;rw [if_neg hw]
        rw [if_neg (by omega),if_neg (by simp)]
        exact key (by omega)
theorem cost_f (C : Com.Cst K) {g l : List Int} {R : Int} (hg : Gr g) (h : Ks l) {b : Nat} (hb : b < 5) {q : Nat} (hq : 3020≤q) : ∃ c,alloc_cost.f q g (b : Int) l (R - Sp K l)=some (c,may K g l R b)∧(may K g l R b=true→c=Sp K (more l b) - Sp K l):=by
  have hgl:=hg.1
  have hl:=h.1
  have hr:=Ks_rd h hb
  have hm:=h.2 b hb
  have hgb:=hg.2 b hb
  have hms:=mst_in b
  obtain ⟨q,rfl⟩ : ∃ r,q=r+1:=⟨q - 1,by omega⟩
  unfold alloc_cost.f may
  simp only [alloc_cost.j0]
  rw [if_pos (by omega),if_pos (by omega)]
  by_cases h1 : rd g (b : Int)=0
  · rw [if_pos h1,decide_eq_false (by omega),if_pos (by simp)]
    exact ⟨0,rfl,fun hx=>absurd hx (by decide)⟩
  · rw [if_neg h1,if_pos (by omega),most_p hb,Option.bind_some]
    by_cases h2 : rd l (b : Int) ≥ mst b
    · rw [decide_eq_true h2,if_pos (by simp),decide_eq_false (by omega)]
      exact ⟨0,rfl,fun hx=>absurd hx (by decide)⟩
    · have k0:=Kb_in C hb hr.1 hr.2
      have k1:=Kb_in C hb (v:=rd l (b : Int)+1) (by omega) (by omega)
      have hS:=Sp_more (K:=K) hl hb
      rw [decide_eq_false h2,if_neg (by simp),width_p hb,Option.bind_some,if_pos (by omega),if_pos (by omega),(Kb_c C hb hr.1 hr.2 (by omega)).1,Option.bind_some,Option.bind_some,w64 (x:=rd l (b : Int)+1) (by omega) (by omega),(Kb_c C hb (v:=rd l (b : Int)+1) (by omega) (by omega) (by omega)).1,Option.bind_some]
      dsimp only
      rw [w64 (x:=Kb K b (rd l (b : Int)+1) - Kb K b (rd l (b : Int))) (by omega) (by omega)]
      refine ⟨_, ?_,fun _=>(by omega : Kb K b (rd l (b : Int)+1) - Kb K b (rd l (b : Int))=Sp K (more l b) - Sp K l)⟩
      congr 2
      rw [decide_eq_decide]
      omega
def wth (g l : List Int) (b : Nat) : Int:=wrap64 ((wrap64 (8 * (rd g (b : Int)))) - (wrap64 (Int.tdiv (wrap64 (16 * (rd l (b : Int)))) (W b : Int))))
theorem worth_f {g l : List Int} (hg : g.length=5) (h : l.length=5) {b : Nat} (hb : b < 5) {x : Int} : alloc_worth.f g (b : Int) l x=some (wth g l b):=by
  have hw:=W_in hb
  unfold alloc_worth.f wth
  rw [if_pos (by omega),if_pos (by omega),if_pos (by omega),width_p hb,Option.bind_some,if_neg (by omega)]
def nxt (m : Nat→Bool) (w : Nat→Int) (b : Nat) (x : Option Nat) : Option Nat:=if m b=true then (match x with|none=>some b|some y=>if w b > w y then some b else some y) else x
def pick (m : Nat→Bool) (w : Nat→Int) : Nat→Nat→Option Nat→Option Nat
  | 0,_,x=>x
  | d+1,b,x=>pick m w d (b+1) (nxt m w b x)
def cd : Option Nat→Int
  | none => -1
  | some y=>(y : Int)
def Ok5 (m : Nat→Bool) (x : Option Nat) : Prop := ∀ y,x=some y→y < 5∧m y=true
theorem ok_next {m : Nat→Bool} {w : Nat→Int} {b : Nat} (hb : b < 5) {x : Option Nat} (hx : Ok5 m x) : Ok5 m (nxt m w b x):=by
  unfold nxt
  by_cases h : m b=true
  · rw [if_pos h]
    cases x with
    | none =>
      intro y hy
      obtain rfl : b=y:=by simpa using hy
      exact ⟨hb,h⟩
    | some z =>
      dsimp only
      by_cases h2 : w b > w z
      · rw [if_pos h2]
        intro y hy
        obtain rfl : b=y:=by simpa using hy
        exact ⟨hb,h⟩
      · rw [if_neg h2]
        exact hx
  · rw [if_neg h]
    exact hx
theorem pick_ok {m : Nat→Bool} {w : Nat→Int} : ∀ (d b : Nat) (x : Option Nat),b+d=5→Ok5 m x→Ok5 m (pick m w d b x)
  | 0,_,_,_,hx=>hx
  | d+1,b,x,h,hx=>pick_ok d (b+1) _ (by omega) (ok_next (b:=b) (by omega) hx)
theorem pick_some {m : Nat→Bool} {w : Nat→Int} : ∀ (d b : Nat) (x : Option Nat),x≠none→pick m w d b x≠none
  | 0,_,_,h=>h
  | d+1,b,x,h=>by
    rw [pick,nxt.eq_def]
    refine pick_some d (b+1) _ ?_
    by_cases hm : m b=true
    · rw [if_pos hm]
      cases x with
      | none=>exact absurd rfl h
      | some z =>
        dsimp only
        by_cases h2 : w b > w z
        · rw [if_pos h2];simp
        · rw [if_neg h2];simp
    · rw [if_neg hm];exact h
theorem pick_none {m : Nat→Bool} {w : Nat→Int} : ∀ (d b : Nat),pick m w d b none=none→∀ c,b≤c→c < b+d→m c=false
  | 0,b,h,c,c0,c1=>by omega
  | d+1,b,h,c,c0,c1=>by
    rw [pick,nxt.eq_def] at h
    by_cases hm : m b=true
    · rw [if_pos hm] at h
      exact absurd h (pick_some d (b+1) _ (by simp))
    · rw [if_neg hm] at h
      by_cases hc : c=b
      · subst hc;simpa using hm
      · exact pick_none d (b+1) h c (by omega) (by omega)
theorem give_loop (C : Com.Cst K) {g l : List Int} {R : Int} (hg : Gr g) (h : Ks l) {q : Nat} (hq : 3020≤q) : ∀ (d b : Nat) (x : Option Nat),b+d=5→Ok5 (may K g l R) x→alloc_give.l0 (q+d) g l (R - Sp K l) (cd x) (b : Int)=alloc_give.l0 q g l (R - Sp K l) (cd (pick (may K g l R) (wth g l) d b x)) 5
  | 0,b,x,hb,_=>by
    obtain rfl : b=5:=by omega
    rfl
  | d+1,b,x,hb,hx=>by
    obtain ⟨c,hc,_⟩:=cost_f C (R:=R) hg h (b:=b) (by omega) (q:=q+d) (by omega)
    rw [show q+(d+1)=(q+d)+1 by omega,alloc_give.l0,if_pos (by omega),hc,Option.bind_some]
    dsimp only
    have ih:=fun x' hx' => give_loop C (R:=R) hg h hq d (b+1) x' (by omega) hx'
    have hn:=ok_next (w:=wth g l) (b:=b) (by omega) hx
    rw [nxt.eq_def] at hn
    rw [pick,nxt.eq_def,w64 (x:=(b : Int)+1) (by omega) (by omega),show (b : Int)+1=((b+1 : Nat) : Int) by omega]
    by_cases hm : may K g l R b=true
    · rw [if_pos hm] at hn ⊢
      rw [if_pos hm]
      cases x with
      | none =>
        rw [if_pos (by decide : cd none < 0)]
        exact ih _ hn
      | some y =>
        have hy:=(hx y rfl).1
        rw [if_neg (by simp only [cd];omega),worth_f hg.1 h.1 (by omega),Option.bind_some]
        simp only [cd] at ih ⊢
        rw [worth_f hg.1 h.1 hy,Option.bind_some]
        dsimp only at hn
        by_cases h2 : wth g l b > wth g l y
        · rw [if_pos h2] at hn ⊢
          rw [if_pos h2]
          exact ih _ hn
        · rw [if_neg h2] at hn ⊢
          rw [if_neg h2]
          exact ih _ hn
    · rw [if_neg hm] at hn ⊢
      rw [if_neg hm]
      exact ih _ hn
theorem chan_loop (C : Com.Cst K) {g l : List Int} {R : Int} (hg : Gr g) (h : Ks l) {q : Nat} (hq : 3020≤q) : ∀ (d b : Nat) (x : Option Nat) (v : Int),b+d=5→Ok5 (may K g l R) x→(∀ y,x=some y→v=wth g l y)→∃ v',psalteryref12_Channel.l1 (q+d) g R l (cd x) v (b : Int)=psalteryref12_Channel.l1 q g R l (cd (pick (may K g l R) (wth g l) d b x)) v' 5
  | 0,b,x,v,hb,_,_=>by
    obtain rfl : b=5:=by omega
    exact ⟨v,rfl⟩
  | d+1,b,x,v,hb,hx,hv=>by
    have hgl:=hg.1
    have hl:=h.1
    have hw:=W_in (b:=b) (by omega)
    have ih:=fun x' v' hx' hv' => chan_loop C (R:=R) hg h hq d (b+1) x' v' (by omega) hx' hv'
    have hn:=ok_next (w:=wth g l) (b:=b) (by omega) hx
    rw [nxt.eq_def] at hn
    rw [show q+(d+1)=(q+d)+1 by omega,psalteryref12_Channel.l1,if_pos (by omega),if_pos (by omega),if_pos (by omega),if_pos (by omega),width_r (by omega) (by omega),Option.bind_some,if_neg (by omega),may_f C hg h (by omega) (by omega),Option.bind_some]
    rw [pick,nxt.eq_def,w64 (x:=(b : Int)+1) (by omega) (by omega),show (b : Int)+1=((b+1 : Nat) : Int) by omega]
    have hwb : (wrap64 ((wrap64 (8 * (rd g (b : Int)))) - (wrap64 (Int.tdiv (wrap64 (16 * (rd l (b : Int)))) (W b : Int)))))=wth g l b:=rfl
    rw [hwb]
    by_cases hm : may K g l R b=true
    · rw [if_pos hm] at hn ⊢
      rw [if_pos hm]
      cases x with
      | none =>
        rw [if_pos (by decide : cd none < 0)]
        exact ih (some b) _ hn (fun y hy=>by cases (show b=y by simpa using hy);rfl)
      | some y =>
        have hy:=(hx y rfl).1
        rw [if_neg (by simp only [cd];omega),hv y rfl]
        dsimp only at hn
        by_cases h2 : wth g l b > wth g l y
        · rw [if_pos h2] at hn ⊢
          simp only [if_pos h2]
          exact ih (some b) _ hn (fun y hy=>by cases (show b=y by simpa using hy);rfl)
        · rw [if_neg h2] at hn ⊢
          simp only [if_neg h2]
          exact ih (some y) _ hn (fun z hz=>by cases (show y=z by simpa using hz);rfl)
    · rw [if_neg hm] at hn ⊢
      rw [if_neg hm]
      exact ih x v hn hv
end Go.Proofs.Ytnmbndkojpjkmaa.Alo
