/- Wave: the lists of a block, level by level, and back; plain arithmetic. -/
import Derived.RowKit
namespace Go.Proofs.Ytiikcnbfdnadfaa.Wav
open Go Go.RowKit
def inI (v : Int) : Prop := -9223372036854775808≤v∧v < 9223372036854775808
def wm : List Int→List Int
  | a :: b :: l=>wrap64 (a+wrap64 (b - a) / 2) :: wm l
  | _ => []
def wd : List Int→List Int
  | a :: b :: l=>wrap64 (b - a) :: wd l
  | _ => []
def fw : Nat→List Int→List Int
  | 0,l=>l
  | n+1,l=>fw n (wm l) ++ wd l
def we : List Int→List Int→List Int
  | m :: ms,d :: ds=>wrap64 (m - d / 2) :: wrap64 (wrap64 (m - d / 2)+d) :: we ms ds
  | _,_ => []
def iv : Nat→List Int→List Int
  | 0,l=>l
  | n+1,c=>we (iv n (c.take (2 ^ n))) (c.drop (2 ^ n))

theorem two_ind {P : List Int→Prop} (h0 : P []) (h1 : ∀ a,P [a]) (h2 : ∀ a b l,P l→P (a :: b :: l)) : ∀ l,P l
  | []=>h0
  | [a]=>h1 a
  | a :: b :: l=>h2 a b l (two_ind h0 h1 h2 l)
theorem wm_len (l : List Int) : (wm l).length=l.length / 2:=by
  induction l using two_ind with
  | h0=>rfl
  | h1 a=>simp [wm]
  | h2 a b l ih=>simp [wm,ih];omega
theorem wd_len (l : List Int) : (wd l).length=l.length / 2:=by
  induction l using two_ind with
  | h0=>rfl
  | h1 a=>simp [wd]
  | h2 a b l ih=>simp [wd,ih];omega
theorem fw_len : ∀ (n : Nat) (l : List Int),l.length=2 ^ n→(fw n l).length=2 ^ n
  | 0,l,h=>by simpa [fw] using h
  | n+1,l,h=>by
    have h1:=wm_len l;have h2:=wd_len l
    rw [h,Nat.pow_succ] at h1 h2
    simp only [Nat.mul_div_cancel _ (show 0 < 2 by omega)] at h1 h2
    simp only [fw,List.length_append,fw_len n _ h1,h2,Nat.pow_succ];omega
theorem we_len : ∀ (m d : List Int),m.length=d.length→(we m d).length=2 * d.length
  | [], [],_=>rfl
  | a :: m,b :: d,h=>by simp [we,we_len m d (by simpa using h)];omega
theorem iv_len : ∀ (n : Nat) (c : List Int),c.length=2 ^ n→(iv n c).length=2 ^ n
  | 0,c,h=>by simpa [iv] using h
  | n+1,c,h=>by
    have h1 : (c.take (2 ^ n)).length=2 ^ n:=by rw [List.length_take,h,Nat.pow_succ];omega
    have h2 : (c.drop (2 ^ n)).length=2 ^ n:=by rw [List.length_drop,h,Nat.pow_succ];omega
    simp only [iv];rw [we_len _ _ (by rw [iv_len n _ h1,h2]),h2,Nat.pow_succ];omega

theorem wrap_id {v : Int} (h : inI v) : wrap64 v=v:=by unfold inI at h;unfold wrap64;omega
-- bounds
theorem rep_wm {v : Int} (hv : inI v) : ∀ n,wm (List.replicate (2 * n) v)=List.replicate n v∧wd (List.replicate (2 * n) v)=List.replicate n 0
  | 0=>⟨rfl,rfl⟩
  | n+1=>by
    obtain ⟨p,q⟩:=rep_wm hv n
    have e : 2 * (n+1)=2 * n+1+1:=by omega
    have z : wrap64 (v - v)=0:=by unfold wrap64;omega
    have y : wrap64 (v+0 / 2)=v:=by have:=wrap_id hv;simpa using this
    rw [e,List.replicate_succ,List.replicate_succ]
    simp only [wm,wd,z,y,p,q,List.replicate_succ,and_self]
theorem fw_rep {v : Int} (hv : inI v) : ∀ n,fw n (List.replicate (2 ^ n) v)=v :: List.replicate (2 ^ n - 1) 0
  | 0=>rfl
  | n+1=>by
    obtain ⟨p,q⟩:=rep_wm hv (2 ^ n)
    rw [Nat.pow_succ,Nat.mul_comm]
    simp only [fw,p,q,fw_rep hv n]
    have:=Nat.two_pow_pos n
    rw [List.cons_append,List.replicate_append_replicate,show 2 ^ n - 1+2 ^ n=2 * 2 ^ n - 1 by omega]
end Go.Proofs.Ytiikcnbfdnadfaa.Wav
