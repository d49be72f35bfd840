/- Wave: the lists of a block, level by level, and back; plain arithmetic. -/
import Derived.RowKit
namespace Go.Proofs.Ytiikcnbfdnadfaa.Wav
open Go Go.RowKit
def inI (v : Int) : Prop := -9223372036854775808≤v∧v < 9223372036854775808
def wm : List Int→List Int
  | a :: b :: l=>wrap64 (a+wrap64 (b - a) / 2) :: wm l
  | _ => []
def wd : List Int→List Int
  | a :: b :: l=>wrap64 (b - a) :: wd l
  | _ => []
def fw : Nat→List Int→List Int
  | 0,l=>l
  | n+1,l=>fw n (wm l) ++ wd l
def we : List Int→List Int→List Int
  | m :: ms,d :: ds=>wrap64 (m - d / 2) :: wrap64 (wrap64 (m - d / 2)+d) :: we ms ds
  | _,_ => []
def iv : Nat→List Int→List Int
  | 0,l=>l
  | n+1,c=>we (iv n (c.take (2 ^ n))) (c.drop (2 ^ n))

theorem two_ind {P : List Int→Prop} (h0 : P []) (h1 : ∀ a,P [a]) (h2 : ∀ a b l,P l→P (a :: b :: l)) : ∀ l,P l
  | []=>h0
  | [a]=>h1 a
  | a :: b :: l=>h2 a b l (two_ind h0 h1 h2 l)
theorem wm_len (l : List Int) : (wm l).length=l.length / 2:=by
  induction l using two_ind with
  | h0=>rfl
  | h1 a=>simp [wm]
  | h2 a b l ih=>simp [wm,ih];omega
theorem wd_len (l : List Int) : (wd l).length=l.length / 2:=by
  induction l using two_ind with
  | h0=>rfl
  | h1 a=>simp [wd]
  | h2 a b l ih=>simp [wd,ih];omega
theorem fw_len : ∀ (n : Nat) (l : List Int),l.length=2 ^ n→(fw n l).length=2 ^ n
  | 0,l,h=>by simpa [fw] using h
  | n+1,l,h=>by
    have h1:=wm_len l;have h2:=wd_len l
    rw [h,Nat.pow_succ] at h1 h2
    simp only [Nat.mul_div_cancel _ (show 0 < 2 by omega)] at h1 h2
    simp only [fw,List.length_append,fw_len n _ h1,h2,Nat.pow_succ];omega
theorem we_len : ∀ (m d : List Int),m.length=d.length→(we m d).length=2 * d.length
  | [], [],_=>rfl
  | a :: m,b :: d,h=>by simp [we,we_len m d (by simpa using h)];omega
theorem iv_len : ∀ (n : Nat) (c : List Int),c.length=2 ^ n→(iv n c).length=2 ^ n
  | 0,c,h=>by simpa [iv] using h
  | n+1,c,h=>by
    have h1 : (c.take (2 ^ n)).length=2 ^ n:=by rw [List.length_take,h,Nat.pow_succ];omega
    have h2 : (c.drop (2 ^ n)).length=2 ^ n:=by rw [List.length_drop,h,Nat.pow_succ];omega
    simp only [iv];rw [we_len _ _ (by rw [iv_len n _ h1,h2]),h2,Nat.pow_succ];omega

theorem wrap_in (v : Int) : inI (wrap64 v):=by unfold inI wrap64;omega
theorem pair_again {m d : Int} (hm : inI m) (hd : inI d) : wrap64 (wrap64 (wrap64 (m - d / 2)+d) - wrap64 (m - d / 2))=d∧wrap64 (wrap64 (m - d / 2)+d / 2)=m:=by
  unfold inI at hm hd;unfold wrap64;omega
theorem we_in : ∀ (m d : List Int), ∀ v ∈ we m d,inI v
  | [],_,v,h=>by simp [we] at h
  | _ :: _, [],v,h=>by simp [we] at h
  | a :: m,b :: d,v,h=>by
    simp only [we,List.mem_cons] at h
    rcases h with rfl|rfl|h
    exact wrap_in _
    exact wrap_in _
    exact we_in m d v h
theorem iv_in : ∀ (n : Nat) (c : List Int),(∀ v ∈ c,inI v)→∀ v ∈ iv n c,inI v
  | 0,c,h=>h
  | n+1,c,_=>we_in _ _
theorem wm_we : ∀ (m d : List Int),m.length=d.length→(∀ v ∈ m,inI v)→(∀ v ∈ d,inI v)→wm (we m d)=m∧wd (we m d)=d
  | [], [],_,_,_=>⟨rfl,rfl⟩
  | a :: m,b :: d,h,hm,hd=>by
    obtain ⟨p,q⟩:=pair_again (hm a (by simp)) (hd b (by simp))
    obtain ⟨r,s⟩:=wm_we m d (by simpa using h) (fun v hv=>hm v (by simp [hv])) (fun v hv=>hd v (by simp [hv]))
    simp only [we,wm,wd,p,q,r,s,and_self]
theorem fw_iv : ∀ (n : Nat) (c : List Int),c.length=2 ^ n→(∀ v ∈ c,inI v)→fw n (iv n c)=c
  | 0,c,_,_=>rfl
  | n+1,c,h,hv=>by
    have h1 : (c.take (2 ^ n)).length=2 ^ n:=by rw [List.length_take,h,Nat.pow_succ];omega
    have h2 : (c.drop (2 ^ n)).length=2 ^ n:=by rw [List.length_drop,h,Nat.pow_succ];omega
    have hvt : ∀ v ∈ c.take (2 ^ n),inI v:=fun v hh=>hv v (List.mem_of_mem_take hh)
    obtain ⟨p,q⟩:=wm_we (iv n (c.take (2 ^ n))) (c.drop (2 ^ n)) (by rw [iv_len n _ h1,h2]) (iv_in n _ hvt) (fun v hh=>hv v (List.mem_of_mem_drop hh))
    simp only [iv,fw,p,q]
    rw [fw_iv n _ h1 hvt,List.take_append_drop]
-- bounds
end Go.Proofs.Ytiikcnbfdnadfaa.Wav
