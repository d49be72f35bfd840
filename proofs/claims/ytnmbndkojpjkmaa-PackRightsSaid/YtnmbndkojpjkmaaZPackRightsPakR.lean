/- Which packs are right: the program's answer is the document's. -/
import Derived.Test.YtnmbndkojpjkmaaZPackRightsAloP
import Derived.Test.YtnmbndkojpjkmaaZPackRightsComC
import Derived.Test.YtnmbndkojpjkmaaZPackRightsM1
import Derived.Test.YtnmbndkojpjkmaaZPackRightsM3
import Derived.Test.YtnmbndkojpjkmaaZPackRightsM4
namespace Go.Proofs.Ytnmbndkojpjkmaa.Pak
open Go Go.RowKit Go.Proofs.YtnmbndkojpjkmaaW.PrintWords Go.Proofs.Ytnmbndkojpjkmaa.Prt Go.Proofs.Ytnmbndkojpjkmaa.Alo
set_option linter.unusedVariables false
set_option linter.unusedSimpArgs false
variable {V K : Nat→Nat→Int}
theorem szs_drop {y : List Int} {i : Nat} (h : i < y.length) : Com.szs (y.drop i)=Com.sz (rd y (i : Int))+Com.szs (y.drop (i+1)):=by
  rw [List.drop_eq_getElem_cons h,Com.szs,Com.rd_at h]
theorem pulses_l0 {y : List Int} (hy : y.length≤100) (h12 : Com.szs y≤12) : ∀ (d i q : Nat) (x : Int),i+d=y.length→-2000≤x - Com.szs (y.drop i)→x≤12→cpack_pulses.l0 (q+d+1) x y (y.length : Int) (i : Int)=some ((x - Com.szs (y.drop i)) == 0)
  | 0,i,q,x,h,hx,hx1=>by
    rw [cpack_pulses.l0,if_neg (by omega),List.drop_eq_nil_of_le (by omega),Com.szs,Int.sub_zero]
  | d+1,i,q,x,h,hx,hx1=>by
    have hd:=szs_drop (show i < y.length by omega)
    have hn:=Com.szs_in (y.drop (i+1))
    have hs:=Com.sz_in (rd y (i : Int))
    have hle : Com.szs (y.drop i)≤Com.szs y:=by
      clear hx hx1 hd hn hs h
      induction i with
      | zero=>simp
      | succ i ih =>
        rcases Nat.lt_or_ge i y.length with h|h
        · have:=szs_drop h
          have:=Com.sz_in (rd y (i : Int))
          omega
        · rw [List.drop_eq_nil_of_le (by omega)]
          rw [List.drop_eq_nil_of_le h] at ih
          exact ih
    have hv : -12≤rd y (i : Int)∧rd y (i : Int)≤12:=by
      by_cases hv : -12≤rd y (i : Int)∧rd y (i : Int)≤12
      · exact hv
      · unfold Com.sz at hd hs
        rw [if_neg hv] at hd
        omega
    have hm : mx (rd y (i : Int)) (wrap64 (-(rd y (i : Int))))=Com.sz (rd y (i : Int)):=by
      unfold mx Com.sz
      rw [w64 (by omega) (by omega),if_pos hv]
      by_cases h0 : rd y (i : Int) < 0
      · rw [if_pos (by omega),if_pos h0]
      · rw [if_neg h0]
        by_cases h1 : rd y (i : Int) < -(rd y (i : Int))
        · omega
        · rw [if_neg h1]
    rw [show q+(d+1)+1=(q+d+1)+1 by omega,cpack_pulses.l0,if_pos (by omega),if_pos (by omega),if_pos (by omega),hm,w64 (x:=x - Com.sz (rd y (i : Int))) (by omega) (by omega),w64 (by omega) (by omega),show (i : Int)+1=((i+1 : Nat) : Int) by omega,
      pulses_l0 hy h12 d (i+1) q (x - Com.sz (rd y (i : Int))) (by omega) (by omega) (by omega),hd,Int.sub_sub]
def okV (y : List Int) (n k : Int) : Bool:=decide ((y.length : Int)=n∧Com.szs y=k)
theorem pulses_f (C : Com.Cnt V) {y : List Int} (hy : y.length≤100) {n k : Int} (hn : 1≤n) (hn' : n≤16) (hk : 0≤k) (hk' : k≤12) {q : Nat} (hq : 800≤q) : cpack_pulses.f q y n k=some (okV y n k):=by
  have h0:=Com.szs_in y
  unfold cpack_pulses.f
  by_cases hb : y.length < 1∨y.length > 16∨Com.szs y > 12
  · obtain ⟨r,rfl⟩ : ∃ r,q=r+1:=⟨q - 1,by omega⟩
    rw [Com.index_bad hy hb (by omega),Option.bind_some,if_neg (by decide),cpack_pulses.j0,if_pos rfl]
    unfold okV
    rw [decide_eq_false (by omega)]
  · obtain ⟨k',hk1,hk2⟩ : ∃ k' : Nat,(k' : Int)=Com.szs y∧k' < 13:=⟨(Com.szs y).toNat,by omega,by omega⟩
    obtain ⟨i,_,_,hu⟩:=Com.Unr.ex C y k' (by omega) (by omega) hk2
    obtain ⟨r,rfl⟩ : ∃ r,q=(r+y.length+1)+1:=⟨q - y.length - 2,by omega⟩
    rw [Com.index_f C (by omega) (by omega) hk2 hu (by omega),Option.bind_some,if_pos rfl]
    have hl:=pulses_l0 hy (by omega) y.length 0 r k (by omega) (by simp;omega) hk'
    unfold okV
    by_cases he : (y.length : Int)=n
    · rw [cpack_pulses.j0,if_neg (by simp [he]),show (0 : Int)=((0 : Nat) : Int) from rfl,hl]
      simp only [List.drop_zero]
      congr 1
      rw [Bool.eq_iff_iff]
      simp [he]
      omega
    · rw [cpack_pulses.j0,if_pos (by simp [he]),decide_eq_false (fun h=>he h.1)]

def okR (row : List (List Int)) (ks : List Int) : Nat→Nat→Bool
  | 0,_=>true
  | d+1,b=>okV (rd_L1 row (b : Int)) (W b : Int) (rd ks (b : Int)) && okR row ks d (b+1)
def okA (Y : List (List (List Int))) (out : List (List Int)) : Nat→Nat→Bool
  | 0,_=>true
  | d+1,i=>decide ((rd_L2 Y (i : Int)).length=5) && (okR (rd_L2 Y (i : Int)) (rd_L1 out (i : Int)) 5 0 && okA Y out d (i+1))
structure Sized (Y : List (List (List Int))) : Prop where
  n : Y.length≤10
  r : ∀ i : Nat,i < Y.length→(rd_L2 Y (i : Int)).length≤10∧∀ y ∈ rd_L2 Y (i : Int),y.length≤60
theorem l1_p (C : Com.Cnt V) {Y : List (List (List Int))} {out : List (List Int)} {i : Nat} {L : Int} (hi : i < out.length) (ho : out.length≤100) (hks : Ks (rd_L1 out (i : Int))) {row : List (List Int)} (hr : row.length=5) (hs : ∀ y ∈ row,y.length≤60) {q : Nat} (hq : 1000≤q) :
    ∀ (d b : Nat),b+d=5→cpack_Right.l1 (q+d+1) out (i : Int) Y L (i : Int) row 5 (b : Int)=if okR row (rd_L1 out (i : Int)) d b=true then cpack_Right.l0 q out Y L ((i+1 : Nat) : Int) else some false
  | 0,b,h=>by
    rw [cpack_Right.l1,if_neg (by omega),okR,if_pos rfl,w64 (by omega) (by omega)]
    rfl
  | d+1,b,h=>by
    have hk:=Ks_rd hks (show b < 5 by omega)
    have hW:=W_in (show b < 5 by omega)
    have hm:=hs _ (rdl_mem (show b < row.length by omega))
    rw [show q+(d+1)+1=(q+d+1)+1 by omega,cpack_Right.l1,if_pos (by omega),if_pos (by omega),if_pos (by omega),width_p (by omega),Option.bind_some,if_pos (by omega),if_pos (by omega),if_pos (by rw [hks.1];omega),pulses_f C (by omega) (by omega) (by omega) hk.1 hk.2 (by omega),Option.bind_some,okR]
    cases hv : okV (rd_L1 row (b : Int)) (W b : Int) (rd (rd_L1 out (i : Int)) (b : Int)) with
    | false=>rw [if_neg (by simp),if_neg (by simp)]
    | true =>
      rw [if_pos rfl,Bool.true_and,w64 (by omega) (by omega),show (b : Int)+1=((b+1 : Nat) : Int) by omega]
      exact l1_p C hi ho hks hr hs hq d (b+1) (by omega)
theorem l1_r {Y : List (List (List Int))} {out G : List (List Int)} {i : Nat} {x1 : Int} {I : Bool} (hi : i < out.length) (hiY : i < Y.length) (ho : out.length≤100) (hks : Ks (rd_L1 out (i : Int))) (hr : (rd_L2 Y (i : Int)).length=5) (hs : ∀ y ∈ rd_L2 Y (i : Int),y.length≤60) {q : Nat} (hq : 1000≤q) :
    ∀ (d b : Nat),b+d=5→psalteryref13_Right.l1 (q+d+1) x1 out (i : Int) (b : Int) I G Y=if okR (rd_L2 Y (i : Int)) (rd_L1 out (i : Int)) d b=true then psalteryref13_Right.l0 q x1 out ((i+1 : Nat) : Int) I G Y else some false
  | 0,b,h=>by
    rw [psalteryref13_Right.l1,if_neg (by omega),okR,if_pos rfl,w64 (by omega) (by omega)]
    rfl
  | d+1,b,h=>by
    have hk:=Ks_rd hks (show b < 5 by omega)
    have hm:=hs _ (rdl_mem (show b < (rd_L2 Y (i : Int)).length by omega))
    rw [show q+(d+1)+1=(q+d+1)+1 by omega,psalteryref13_Right.l1,if_pos (by omega),if_pos (by omega),if_pos (by omega),if_pos (by omega),if_pos (by omega),width_r (by omega) (by omega),Option.bind_some,okR,okV]
    by_cases hl : ((rd_L1 (rd_L2 Y (i : Int)) (b : Int)).length : Int)=(W b : Int)
    · rw [if_pos hl,Com.refPulses_f (by omega) (by omega),Option.bind_some,if_pos (by omega),if_pos (by rw [hks.1];omega)]
      by_cases hz : Com.szs (rd_L1 (rd_L2 Y (i : Int)) (b : Int))=rd (rd_L1 out (i : Int)) (b : Int)
      · rw [if_pos hz,decide_eq_true ⟨hl,hz⟩,Bool.true_and,w64 (by omega) (by omega),show (b : Int)+1=((b+1 : Nat) : Int) by omega]
        exact l1_r hi hiY ho hks hr hs hq d (b+1) (by omega)
      · rw [if_neg hz,decide_eq_false (fun h=>hz h.2),Bool.false_and,if_neg (by simp)]
    · rw [if_neg hl,decide_eq_false (fun h=>hl h.1),Bool.false_and,if_neg (by simp)]
theorem l0_p (C : Com.Cnt V) {Y : List (List (List Int))} (S : Sized Y) {out : List (List Int)} (ho : out.length=Y.length) (hks : ∀ i : Nat,i < Y.length→Ks (rd_L1 out (i : Int))) : ∀ (d i q : Nat),i+d=Y.length→1000+8 * d < q→cpack_Right.l0 q out Y (Y.length : Int) (i : Int)=some (okA Y out d i)
  | 0,i,q,h,hq=>by
    obtain ⟨r,rfl⟩ : ∃ r,q=r+1:=⟨q - 1,by omega⟩
    rw [cpack_Right.l0,if_neg (by omega),okA]
  | d+1,i,q,h,hq=>by
    have:=S.n
    obtain ⟨r,rfl⟩ : ∃ r,q=(r+5+1)+1:=⟨q - 7,by omega⟩
    have hs:=S.r i (by omega)
    rw [cpack_Right.l0,if_pos (by omega),if_pos (by omega),if_pos (by omega),okA]
    by_cases h5 : (rd_L2 Y (i : Int)).length=5
    · have hl:=l1_p C (Y:=Y) (L:=(Y.length : Int)) (show i < out.length by omega) (by omega) (hks i (by omega)) h5 hs.2 (show 1000≤r by omega) 5 0 (by omega)
      rw [if_pos (by omega),decide_eq_true h5,Bool.true_and,h5,show ((5 : Nat) : Int)=5 from rfl,show (0 : Int)=((0 : Nat) : Int) from rfl,hl]
      cases hv : okR (rd_L2 Y (i : Int)) (rd_L1 out (i : Int)) 5 0 with
      | false=>rw [if_neg (by simp),Bool.false_and]
      | true =>
        rw [if_pos rfl,Bool.true_and]
        exact l0_p C S ho hks d (i+1) r (by omega) (by omega)
    · rw [if_neg (by omega),decide_eq_false h5,Bool.false_and]
theorem l0_r {Y : List (List (List Int))} (S : Sized Y) {out G : List (List Int)} {I : Bool} (ho : out.length=Y.length) (hks : ∀ i : Nat,i < Y.length→Ks (rd_L1 out (i : Int))) : ∀ (d i q : Nat),i+d=Y.length→1000+8 * d < q→psalteryref13_Right.l0 q (Y.length : Int) out (i : Int) I G Y=some (okA Y out d i)
  | 0,i,q,h,hq=>by
    obtain ⟨r,rfl⟩ : ∃ r,q=r+1:=⟨q - 1,by omega⟩
    rw [psalteryref13_Right.l0,if_neg (by omega),okA]
  | d+1,i,q,h,hq=>by
    have:=S.n
    obtain ⟨r,rfl⟩ : ∃ r,q=(r+5+1)+1:=⟨q - 7,by omega⟩
    have hs:=S.r i (by omega)
    rw [psalteryref13_Right.l0,if_pos (by omega),if_pos (by omega),if_pos (by omega),okA]
    by_cases h5 : (rd_L2 Y (i : Int)).length=5
    · have hl:=l1_r (x1:=(Y.length : Int)) (G:=G) (I:=I) (show i < out.length by omega) (show i < Y.length by omega) (by omega) (hks i (by omega)) h5 hs.2 (show 1000≤r by omega) 5 0 (by omega)
      rw [if_pos (by omega),decide_eq_true h5,Bool.true_and,show (0 : Int)=((0 : Nat) : Int) from rfl,hl]
      cases hv : okR (rd_L2 Y (i : Int)) (rd_L1 out (i : Int)) 5 0 with
      | false=>rw [if_neg (by simp),Bool.false_and]
      | true =>
        rw [if_pos rfl,Bool.true_and]
        exact l0_r S ho hks d (i+1) r (by omega) (by omega)
    · rw [if_neg (by omega),decide_eq_false h5,Bool.false_and]
structure Good (K : Nat→Nat→Int) (a b : Int) (G : List (List Int)) (Y : List (List (List Int))) (out : List (List Int)) : Prop where
  ab : rightB a b=true
  g : (G.length : Int)=b
  y : (Y.length : Int)=b
  o : out.length=G.length
  c : ∀ j : Nat,j < G.length→Chan K (rd_L1 G (j : Int)) (room a b) Z5 (rd_L1 out (j : Int))
  p : ∀ q,7000≤q→alloc_Pulses.f q a b G=some (out,0)
  r : ∀ q,7000≤q→psalteryref12_Pulses.f q a b G=some out
  f : ∀ q,7000≤q→psalteryref12_Fair.f q b G=some true
  all : okA Y out Y.length 0=true
theorem right_same (C : Com.Cst K) (D : Com.Cnt V) (a b : Int) (I : Bool) {G : List (List Int)} {Y : List (List (List Int))} (hG : G.length≤20) (hg : ∀ g ∈ G,g.length≤100) (S : Sized Y) :
    ((∃ out,Good K a b G Y out)∧∀ q,7010≤q→cpack_Right.f q a b I G Y=some true∧psalteryref13_Right.f q a b I G Y=some true)∨(∀ q,7010≤q→cpack_Right.f q a b I G Y=some false∧psalteryref13_Right.f q a b I G Y=some false):=by
  rcases pulses C a b hG hg with ⟨hab,hlb,out,ho,hc,p1,p2,p3⟩ | ⟨p1,p3⟩
  · by_cases hy : (Y.length : Int)=b
    · have hks : ∀ i : Nat,i < Y.length→Ks (rd_L1 out (i : Int)):=fun i hi=>(hc i (by omega)).ks
      have hSn:=S.n
      have key : ∀ q,7010≤q→cpack_Right.f q a b I G Y=some (okA Y out Y.length 0)∧psalteryref13_Right.f q a b I G Y=some (okA Y out Y.length 0):=by
        intro q hq
        obtain ⟨r,rfl⟩ : ∃ r,q=r+1:=⟨q - 1,by omega⟩
        have e1:=l0_p D S (by omega) hks Y.length 0 r (by omega) (by omega)
        have e2:=l0_r (G:=G) (I:=I) S (by omega) hks Y.length 0 r (by omega) (by omega)
        unfold cpack_Right.f psalteryref13_Right.f
        rw [p1 _ (by omega),Option.bind_some,if_pos rfl,(right_f a b).2,Option.bind_some,hab,if_pos rfl,p3 _ (by omega),Option.bind_some,if_pos rfl,cpack_Right.j0,if_neg (by simp [hy]),psalteryref13_Right.j0,if_neg (by simp [hy]),p2 _ (by omega),Option.bind_some]
        refine ⟨e1, ?_⟩
        rw [hy] at e2
        exact e2
      cases hA : okA Y out Y.length 0 with
      | true=>exact .inl ⟨⟨out,hab,hlb,hy,ho,hc,p1,p2,p3,hA⟩,fun q hq=>by rw [← hA];exact key q hq⟩
      | false=>exact .inr fun q hq=>by rw [← hA];exact key q hq
    · refine .inr fun q hq => ?_
      obtain ⟨r,rfl⟩ : ∃ r,q=r+1:=⟨q - 1,by omega⟩
      unfold cpack_Right.f psalteryref13_Right.f
      rw [p1 _ (by omega),Option.bind_some,if_pos rfl,(right_f a b).2,Option.bind_some,hab,if_pos rfl,p3 _ (by omega),Option.bind_some,if_pos rfl,cpack_Right.j0,if_pos (by simp [hy]),psalteryref13_Right.j0,if_pos (by simp [hy])]
      exact ⟨rfl,rfl⟩
  · refine .inr fun q hq => ?_
    obtain ⟨r,rfl⟩ : ∃ r,q=r+1:=⟨q - 1,by omega⟩
    unfold cpack_Right.f psalteryref13_Right.f
    rw [p1 _ (by omega),Option.bind_some,if_neg (by decide),cpack_Right.j0,if_pos rfl,(right_f a b).2,Option.bind_some]
    refine ⟨rfl, ?_⟩
    rcases p3 with p3|p3
    · rw [p3,if_neg (by simp),psalteryref13_Right.j0,if_pos rfl]
    · cases hab : rightB a b with
      | false=>rw [if_neg (by simp),psalteryref13_Right.j0,if_pos rfl]
      | true=>rw [if_pos rfl,p3 _ (by omega),Option.bind_some,if_neg (by simp),psalteryref13_Right.j0,if_pos rfl]

theorem rdl2_mem {l : List (List (List Int))} {i : Nat} (h : i < l.length) : rd_L2 l (i : Int) ∈ l:=by
  unfold rd_L2
  rw [List.getD_eq_getElem?_getD,Int.toNat_natCast,List.getElem?_eq_getElem h]
  exact List.getElem_mem h
theorem wide_l0 {l : List (List Int)} (hl : l.length≤9223372036854775807) : ∀ (d i : Nat),i+d=l.length→∃ v,(∀ q,d < q→psalterylaw13_wide.l0 q l (i : Int)=some v)∧(v=false→l.length≤10∧∀ j,i≤j→j < l.length→(rd_L1 l (j : Int)).length≤60)
  | 0,i,hi=>by
    refine ⟨decide ((l.length : Int) > 10),fun q hq => ?_,fun h=>⟨by simp at h;omega,fun j h1 h2=>by omega⟩⟩
    obtain ⟨r,rfl⟩ : ∃ r,q=r+1:=⟨q - 1,by omega⟩
    rw [psalterylaw13_wide.l0,if_neg (by omega)]
  | d+1,i,hi=>by
    obtain ⟨v,h1,h2⟩:=wide_l0 hl d (i+1) (by omega)
    by_cases hg : ((rd_L1 l (i : Int)).length : Int) > 60
    · refine ⟨true,fun q hq => ?_,fun h=>absurd h (by decide)⟩
      obtain ⟨r,rfl⟩ : ∃ r,q=r+1:=⟨q - 1,by omega⟩
      rw [psalterylaw13_wide.l0,if_pos (by omega),if_pos (by omega),if_pos hg]
    · refine ⟨v,fun q hq => ?_,fun h=>⟨(h2 h).1,fun j j1 j2 => ?_⟩⟩
      · obtain ⟨r,rfl⟩ : ∃ r,q=r+1:=⟨q - 1,by omega⟩
        rw [psalterylaw13_wide.l0,if_pos (by omega),if_pos (by omega),if_neg hg,w64 (by omega) (by omega),show (i : Int)+1=((i+1 : Nat) : Int) by omega]
        exact h1 r (by omega)
      · by_cases e : j=i
        · subst e;omega
        · exact (h2 h).2 j (by omega) j2
theorem wide_f {l : List (List Int)} (hl : l.length≤9223372036854775807) : ∃ v,(∀ q,l.length < q→psalterylaw13_wide.f q l=some v)∧(v=false→l.length≤10∧∀ g ∈ l,g.length≤60):=by
  obtain ⟨v,h1,h2⟩:=wide_l0 hl l.length 0 (by omega)
  refine ⟨v,fun q hq=>h1 q hq,fun h=>⟨(h2 h).1,fun g hg => ?_⟩⟩
  obtain ⟨j,hj,rfl⟩:=List.mem_iff_getElem.1 hg
  have:=(h2 h).2 j (by omega) hj
  unfold rd_L1 at this
  rw [List.getD_eq_getElem?_getD,Int.toNat_natCast,List.getElem?_eq_getElem hj] at this
  exact this
theorem great_l0 {I : Bool} {G : List (List Int)} {Y : List (List (List Int))} {m : Nat} (hm : m≤9223372036854775807) (hY : Y.length≤m) (hr : ∀ r ∈ Y,r.length≤m) : ∀ (d i : Nat),i+d=Y.length→∃ v,(∀ q,d+m+1 < q→psalterylaw13_great.l0 q (i : Int) I G Y=some v)∧(v=false→∀ j,i≤j→j < Y.length→(rd_L2 Y (j : Int)).length≤10∧∀ y ∈ rd_L2 Y (j : Int),y.length≤60)
  | 0,i,hi=>by
    refine ⟨false,fun q hq => ?_,fun _ j h1 h2=>by omega⟩
    obtain ⟨r,rfl⟩ : ∃ r,q=r+1:=⟨q - 1,by omega⟩
    rw [psalterylaw13_great.l0,if_neg (by omega)]
  | d+1,i,hi=>by
    obtain ⟨v,h1,h2⟩:=great_l0 hm hY hr d (i+1) (by omega)
    have hri:=hr _ (rdl2_mem (show i < Y.length by omega))
    obtain ⟨u,w1,w2⟩:=wide_f (l:=rd_L2 Y (i : Int)) (by omega)
    cases u with
    | true =>
      refine ⟨true,fun q hq => ?_,fun h=>absurd h (by decide)⟩
      obtain ⟨r,rfl⟩ : ∃ r,q=r+1:=⟨q - 1,by omega⟩
      rw [psalterylaw13_great.l0,if_pos (by omega),if_pos (by omega),w1 r (by omega),Option.bind_some,if_pos rfl]
    | false =>
      refine ⟨v,fun q hq => ?_,fun h j j1 j2 => ?_⟩
      · obtain ⟨r,rfl⟩ : ∃ r,q=r+1:=⟨q - 1,by omega⟩
        rw [psalterylaw13_great.l0,if_pos (by omega),if_pos (by omega),w1 r (by omega),Option.bind_some,if_neg (by simp),w64 (by omega) (by omega),show (i : Int)+1=((i+1 : Nat) : Int) by omega]
        exact h1 r (by omega)
      · by_cases e : j=i
        · subst e;exact w2 rfl
        · exact h2 h j (by omega) j2
theorem great_f (I : Bool) {G A : List (List Int)} {Y : List (List (List Int))} {m : Nat} (hm : m≤9223372036854775807) (hG : G.length≤m) (hA : A.length≤m) (hY : Y.length≤m) (hr : ∀ r ∈ Y,r.length≤m) :
    ∃ v,(∀ q,2 * m+5 < q→psalterylaw13_great.f q I G Y A=some v)∧(v=false→(G.length≤10∧∀ g ∈ G,g.length≤60)∧(A.length≤10∧∀ g ∈ A,g.length≤60)∧Sized Y):=by
  obtain ⟨u,u1,u2⟩:=wide_f (l:=G) (by omega)
  obtain ⟨t,t1,t2⟩:=wide_f (l:=A) (by omega)
  obtain ⟨v,v1,v2⟩:=great_l0 (I:=I) (G:=G) hm hY hr Y.length 0 (by omega)
  have jt : ∀ q,2 * m+5 < q→psalterylaw13_great.j0 q true I G Y=some true:=fun q hq=>by
    obtain ⟨r,rfl⟩ : ∃ r,q=r+1:=⟨q - 1,by omega⟩
    rw [psalterylaw13_great.j0,if_pos rfl]
  unfold psalterylaw13_great.f
  cases u with
  | true=>exact ⟨true,fun q hq=>by rw [u1 q (by omega),Option.bind_some,if_pos rfl,jt q hq],fun h=>absurd h (by decide)⟩
  | false =>
    cases t with
    | true=>exact ⟨true,fun q hq=>by rw [u1 q (by omega),Option.bind_some,if_neg (by simp),t1 q (by omega),Option.bind_some,if_pos rfl,jt q hq],fun h=>absurd h (by decide)⟩
    | false =>
      by_cases h10 : Y.length≤10
      · refine ⟨v,fun q hq => ?_,fun h=>⟨u2 rfl,t2 rfl,h10,fun i hi=>v2 h i (by omega) hi⟩⟩
        obtain ⟨r,rfl⟩ : ∃ r,q=r+1:=⟨q - 1,by omega⟩
        rw [u1 _ (by omega),Option.bind_some,if_neg (by simp),t1 _ (by omega),Option.bind_some,if_neg (by simp),psalterylaw13_great.j0,decide_eq_false (by omega),if_neg (by simp)]
        exact v1 r (by omega)
      · exact ⟨true,fun q hq=>by rw [u1 q (by omega),Option.bind_some,if_neg (by simp),t1 q (by omega),Option.bind_some,if_neg (by simp),decide_eq_true (by omega),jt q hq],fun h=>absurd h (by decide)⟩
end Go.Proofs.Ytnmbndkojpjkmaa.Pak
