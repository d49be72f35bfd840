/- Pulses of all channels: the program's and the document's are the same. -/
import Derived.Test.YtnmbndkojpjkmaaZPackRightsAloN
import Derived.Test.YtnmbndkojpjkmaaZPackRightsM1
import Derived.Test.YtnmbndkojpjkmaaZPackRightsM4
import Derived.Test.YtnmbndkojpjkmaaZPackRightsM3
namespace Go.Proofs.Ytnmbndkojpjkmaa.Alo
open Go Go.RowKit Go.Proofs.YtnmbndkojpjkmaaW.PrintWords Go.Proofs.Ytnmbndkojpjkmaa.Prt
set_option linter.unusedVariables false
set_option linter.unusedSimpArgs false
variable {K : Nat→Nat→Int}
theorem rdl_mem {l : List (List Int)} {i : Nat} (h : i < l.length) : rd_L1 l (i : Int) ∈ l:=by
  unfold rd_L1
  rw [List.getD_eq_getElem?_getD,Int.toNat_natCast,List.getElem?_eq_getElem h]
  exact List.getElem_mem h
theorem rdl_s (x : List Int) (l : List (List Int)) (j : Nat) : rd_L1 (x :: l) ((j+1 : Nat) : Int)=rd_L1 l (j : Int):=by
  unfold rd_L1
  rw [Int.toNat_natCast,Int.toNat_natCast]
  rfl
theorem chans (C : Com.Cst K) {a b : Int} (hab : rightB a b=true) {l2 : List (List Int)} (h20 : l2.length≤20) (h100 : ∀ g ∈ l2,g.length≤100) : ∀ (d i : Nat) (x8 : List (List Int)),i+d=l2.length→x8.length≤i →
    (∃ out : List (List Int),out.length=d∧(∀ j,j < d→Chan K (rd_L1 l2 ((i+j : Nat) : Int)) (room a b) Z5 (rd_L1 out (j : Int)))∧(∀ q,5000+62 * d≤q→alloc_Pulses.l0 q a b x8 l2 (l2.length : Int) (i : Int)=some (x8 ++ out,0))∧(∀ q,5000+62 * d≤q→psalteryref12_Pulses.l0 q a b l2 x8 (i : Int)=some (x8 ++ out))∧(∀ q,5000+62 * d≤q→psalteryref12_Fair.l0 q l2 (i : Int)=some true))
    ∨ ((∀ q,5000+62 * d≤q→alloc_Pulses.l0 q a b x8 l2 (l2.length : Int) (i : Int)=some ([],1))∧(∀ q,5000+62 * d≤q→psalteryref12_Fair.l0 q l2 (i : Int)=some false))
  | 0,i,x8,hi,hx=>by
    refine Or.inl ⟨[],rfl,fun j hj=>absurd hj (by omega),fun q hq => ?_,fun q hq => ?_,fun q hq => ?_⟩
    · obtain ⟨r,rfl⟩ : ∃ r,q=r+1:=⟨q - 1,by omega⟩
      rw [alloc_Pulses.l0,if_neg (by omega),List.append_nil]
    · obtain ⟨r,rfl⟩ : ∃ r,q=r+1:=⟨q - 1,by omega⟩
      rw [psalteryref12_Pulses.l0,if_neg (by omega),List.append_nil]
    · obtain ⟨r,rfl⟩ : ∃ r,q=r+1:=⟨q - 1,by omega⟩
      rw [psalteryref12_Fair.l0,if_neg (by omega)]
  | d+1,i,x8,hi,hx=>by
    have hlen : (rd_L1 l2 (i : Int)).length≤100:=h100 _ (rdl_mem (by omega))
    have hR:=room_in hab
    have hw : wrap64 ((i : Int)+1)=((i+1 : Nat) : Int):=by rw [w64 (by omega) (by omega)];omega
    by_cases hr : rt (rd_L1 l2 (i : Int))=true
    · obtain ⟨l',c⟩:=chan C (rt_gr hr) (R:=room a b) (by omega) 60 Z5 Z5_ks (by rw [Z5_sp C];omega) (by decide)
      have h0 : (60 : Int)≤(60 : Nat)+tot Z5:=by decide
      have ih:=fun y=>chans C hab h20 h100 d (i+1) (x8 ++ [y]) (by omega) (by rw [List.length_append];simp;omega)
      have P1 : ∀ q r,5000+62 * d≤q→(∀ p,5000+62 * d≤p→alloc_Pulses.l0 p a b (x8 ++ [l']) l2 (l2.length : Int) ((i+1 : Nat) : Int)=some r)→alloc_Pulses.l0 (q+62) a b x8 l2 (l2.length : Int) (i : Int)=some r:=by
        intro q r hq hp
        rw [show q+62=(q+60+1)+1 by omega,alloc_Pulses.l0,if_pos (by omega),if_pos (by omega),if_pos (by omega),right_ok _ (by omega) _ (by omega),Option.bind_some,if_pos hr,(room_ok hab).1,Option.bind_some]
        have e:=c.prog q 60 (by omega) h0 a b x8 l2 (l2.length : Int) (i : Int) r (by omega) (by rw [hw];exact hp q hq)
        rw [Z5_sp C,Int.sub_zero] at e
        exact e
      have P3 : ∀ q r,5000+62 * d≤q→(∀ p,5000+62 * d≤p→psalteryref12_Fair.l0 p l2 ((i+1 : Nat) : Int)=some r)→psalteryref12_Fair.l0 (q+62) l2 (i : Int)=some r:=by
        intro q r hq hp
        rw [show q+62=(q+61)+1 by omega,psalteryref12_Fair.l0,if_pos (by omega),if_pos (by omega),refRight_ok _ (by omega) _ (by omega),Option.bind_some,if_pos hr,hw]
        exact hp _ (by omega)
      rcases ih l' with ⟨out,ho,hc,p1,p2,p3⟩ | ⟨p1,p3⟩
      · refine Or.inl ⟨l' :: out,by rw [List.length_cons,ho], ?_,fun q hq => ?_,fun q hq => ?_,fun q hq => ?_⟩
        · intro j hj
          cases j with
          | zero=>exact c
          | succ j =>
            rw [rdl_s,show i+(j+1)=i+1+j by omega]
            exact hc j (by omega)
        · obtain ⟨r,rfl⟩ : ∃ r,q=r+62:=⟨q - 62,by omega⟩
          refine P1 r _ (by omega) (fun p hp => ?_)
          rw [p1 p hp,List.append_assoc]
          rfl
        · obtain ⟨r,rfl⟩ : ∃ r,q=(r+420)+1:=⟨q - 421,by omega⟩
          have e : psalteryref12_Channel.f (r+420) (rd_L1 l2 (i : Int)) (room a b)=some l' := c.doc r 60 (by omega) h0
          rw [psalteryref12_Pulses.l0,if_pos (by omega),if_pos (by omega),(room_ok hab).2,Option.bind_some,e,Option.bind_some,if_pos (by omega),hw,p2 _ (by omega),List.append_assoc]
          rfl
        · obtain ⟨r,rfl⟩ : ∃ r,q=r+62:=⟨q - 62,by omega⟩
          exact P3 r _ (by omega) p3
      · refine Or.inr ⟨fun q hq => ?_,fun q hq => ?_⟩
        · obtain ⟨r,rfl⟩ : ∃ r,q=r+62:=⟨q - 62,by omega⟩
          exact P1 r _ (by omega) p1
        · obtain ⟨r,rfl⟩ : ∃ r,q=r+62:=⟨q - 62,by omega⟩
          exact P3 r _ (by omega) p3
    · refine Or.inr ⟨fun q hq => ?_,fun q hq => ?_⟩
      · obtain ⟨r,rfl⟩ : ∃ r,q=r+1:=⟨q - 1,by omega⟩
        rw [alloc_Pulses.l0,if_pos (by omega),if_pos (by omega),if_pos (by omega),right_ok _ (by omega) _ (by omega),Option.bind_some,if_neg hr]
      · obtain ⟨r,rfl⟩ : ∃ r,q=r+1:=⟨q - 1,by omega⟩
        rw [psalteryref12_Fair.l0,if_pos (by omega),if_pos (by omega),refRight_ok _ (by omega) _ (by omega),Option.bind_some,if_neg hr]
theorem pulses (C : Com.Cst K) (a b : Int) {l2 : List (List Int)} (h20 : l2.length≤20) (h100 : ∀ g ∈ l2,g.length≤100) :
    (rightB a b=true∧(l2.length : Int)=b∧∃ out : List (List Int),out.length=l2.length∧(∀ j,j < l2.length→Chan K (rd_L1 l2 (j : Int)) (room a b) Z5 (rd_L1 out (j : Int)))∧(∀ q,7000≤q→alloc_Pulses.f q a b l2=some (out,0))∧(∀ q,7000≤q→psalteryref12_Pulses.f q a b l2=some out)∧(∀ q,7000≤q→psalteryref12_Fair.f q b l2=some true))
    ∨ ((∀ q,7000≤q→alloc_Pulses.f q a b l2=some ([],1))∧(rightB a b=false∨∀ q,7000≤q→psalteryref12_Fair.f q b l2=some false)):=by
  cases hab : rightB a b with
  | false =>
    refine Or.inr ⟨fun q hq => ?_,Or.inl rfl⟩
    obtain ⟨r,rfl⟩ : ∃ r,q=r+1:=⟨q - 1,by omega⟩
    unfold alloc_Pulses.f
    rw [(right_f a b).1,Option.bind_some,hab,if_neg (by simp),alloc_Pulses.j0,if_pos rfl]
  | true =>
    by_cases hl : (l2.length : Int)=b
    · rcases chans C hab h20 h100 l2.length 0 [] (by omega) (Nat.le_refl 0) with ⟨out,ho,hc,p1,p2,p3⟩ | ⟨p1,p3⟩
      · refine Or.inl ⟨rfl,hl,out,ho, ?_,fun q hq => ?_,fun q hq => ?_,fun q hq => ?_⟩
        · intro j hj
          have:=hc j hj
          rw [Nat.zero_add] at this
          exact this
        · obtain ⟨r,rfl⟩ : ∃ r,q=r+1:=⟨q - 1,by omega⟩
          unfold alloc_Pulses.f
          rw [(right_f a b).1,Option.bind_some,hab,if_pos rfl,alloc_Pulses.j0,if_neg (by simp [hl])]
          exact p1 r (by omega)
        · exact p2 q (by omega)
        · unfold psalteryref12_Fair.f
          rw [if_pos hl]
          exact p3 q (by omega)
      · refine Or.inr ⟨fun q hq => ?_,Or.inr fun q hq => ?_⟩
        · obtain ⟨r,rfl⟩ : ∃ r,q=r+1:=⟨q - 1,by omega⟩
          unfold alloc_Pulses.f
          rw [(right_f a b).1,Option.bind_some,hab,if_pos rfl,alloc_Pulses.j0,if_neg (by simp [hl])]
          exact p1 r (by omega)
        · unfold psalteryref12_Fair.f
          rw [if_pos hl]
          exact p3 q (by omega)
    · refine Or.inr ⟨fun q hq => ?_,Or.inr fun q hq => ?_⟩
      · obtain ⟨r,rfl⟩ : ∃ r,q=r+1:=⟨q - 1,by omega⟩
        unfold alloc_Pulses.f
        rw [(right_f a b).1,Option.bind_some,hab,if_pos rfl,alloc_Pulses.j0,if_pos (by simp [hl])]
      · unfold psalteryref12_Fair.f
        rw [if_neg hl]
end Go.Proofs.Ytnmbndkojpjkmaa.Alo
