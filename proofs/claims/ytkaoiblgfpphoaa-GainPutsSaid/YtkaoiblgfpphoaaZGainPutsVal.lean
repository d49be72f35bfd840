/- Lists of bytes as numbers: plain arithmetic, no program in sight. -/
import Derived.Test.YtkaoiblgfpphoaaZGainPutsWMore
import Derived.IntWalk
import Derived.Laws.BitsLemmas
namespace Go.Proofs.Ytkaoiblgfpphoaa.Val
open Go.RowKit Go.Proofs.YtkaoiblgfpphoaaW.PrintWords

theorem u64w {x : Int} (h0 : 0≤x) (h1 : x≤18446744073709551615) : IntKind.u64.wrap x=x:=IntWalk.u64_in x ⟨h0,h1⟩
theorem i64w {x : Int} (h0 : -9223372036854775808≤x) (h1 : x≤9223372036854775807) : wrap64 x=x:=by unfold wrap64;omega
theorem tdiv_nn {a b : Int} (h : 0≤a) : Int.tdiv a b=a / b:=Int.tdiv_eq_ediv_of_nonneg h
theorem tmod_nn {a b : Int} (h : 0≤a) : Int.tmod a b=a % b:=Int.tmod_eq_emod_of_nonneg h
theorem u64_fit (n : Int) (h₀ : 0≤n) (h₁ : n < 2 ^ 64) : IntKind.u64.wrap n=n:=u64w h₀ (by omega)
theorem and32 {x : Int} (h₀ : 0≤x) (h₁ : x≤18446744073709551615) : Go.bits .and .u64 x 4294967295=x % 4294967296:=by
  have h:=bits_mask .u64 64 (by decide) u64_fit 32 (by decide) x h₀ (by omega)
  exact h
def Bytes (l : List Int) : Prop := ∀ x ∈ l,0≤x∧x < 256
theorem Bytes.nil : Bytes []:=fun _ h=>by cases h
theorem Bytes.append {l m : List Int} (h : Bytes l) (k : Bytes m) : Bytes (l ++ m):=fun x hx=>(List.mem_append.1 hx).elim (h x) (k x)
theorem Bytes.left {l m : List Int} (h : Bytes (l ++ m)) : Bytes l:=fun x hx=>h x (List.mem_append_left _ hx)
theorem Bytes.one {x : Int} (h : 0≤x) (h' : x < 256) : Bytes [x]:=fun y hy=>by rw [List.mem_singleton.1 hy];exact ⟨h,h'⟩
theorem Bytes.take {l : List Int} (h : Bytes l) (n : Nat) : Bytes (l.take n):=fun x hx=>h x (List.mem_of_mem_take hx)
theorem Bytes.rd {l : List Int} (h : Bytes l) (i : Int) : 0≤rd l i∧rd l i < 256:=by
  unfold Go.Proofs.YtkaoiblgfpphoaaW.PrintWords.rd
  rw [List.getD_eq_getElem?_getD]
  cases he : l[i.toNat]? with
  | none=>exact ⟨by decide,by decide⟩
  | some y=>exact h y (List.mem_of_getElem? he)
theorem Bytes.set {l : List Int} (h : Bytes l) (n : Nat) {x : Int} (h0 : 0≤x) (h1 : x < 256) : Bytes (l.set n x):=fun y hy=>by
  rcases List.mem_or_eq_of_mem_set hy with hy|rfl
  · exact h y hy
  · exact ⟨h0,h1⟩

theorem snocRec {α : Type} {motive : List α→Prop} (l : List α) (nil : motive []) (snoc : ∀ (l : List α) (x : α),motive l→motive (l ++ [x])) : motive l:=by
  have key : ∀ (n : Nat) (l : List α),l.length=n→motive l:=by
    intro n
    induction n with
    | zero=>intro l hl;rw [List.length_eq_zero_iff.1 hl];exact nil
    | succ n ih =>
      intro l hl
      rcases List.eq_nil_or_concat l with rfl | ⟨m,y,rfl⟩
      · exact nil
      · rw [List.concat_eq_append] at *
        exact snoc m y (ih m (by simpa using hl))
  exact key _ l rfl
def val (l : List Int) : Int:=l.foldl (fun a x=>a * 256+x) 0
def pw (n : Nat) : Int:=256 ^ n
theorem pw_pos (n : Nat) : 0 < pw n:=Int.pow_pos (by decide)
theorem pw_zero : pw 0=1:=rfl
theorem pw_succ (n : Nat) : pw (n+1)=256 * pw n:=by unfold pw;rw [Int.pow_succ,Int.mul_comm]
theorem pw_add (m n : Nat) : pw (m+n)=pw m * pw n:=by unfold pw;exact Int.pow_add 256 m n
theorem val_nil : val []=0:=rfl
theorem val_snoc (l : List Int) (x : Int) : val (l ++ [x])=val l * 256+x:=by simp [val]
theorem val_append (l m : List Int) : val (l ++ m)=val l * pw m.length+val m:=by
  induction m using snocRec with
  | nil=>simp [pw_zero,val_nil]
  | snoc m x ih =>
    rw [← List.append_assoc,val_snoc,ih,val_snoc,List.length_append,List.length_singleton,pw_succ]
    generalize val l=a
    generalize pw m.length=p
    generalize val m=b
    rw [Int.add_mul,Int.mul_assoc,Int.mul_comm p 256];omega
theorem val_bound {l : List Int} (h : Bytes l) : 0≤val l∧val l < pw l.length:=by
  induction l using snocRec with
  | nil=>exact ⟨by decide,by decide⟩
  | snoc l x ih =>
    have h1:=ih h.left
    have h2:=h x (by simp)
    rw [val_snoc,List.length_append,List.length_singleton,pw_succ]
    omega
theorem val_inj {l m : List Int} (hl : Bytes l) (hm : Bytes m) (hlen : l.length=m.length) (hv : val l=val m) : l=m:=by
  induction l using snocRec generalizing m with
  | nil=>exact (List.length_eq_zero_iff.1 hlen.symm).symm
  | snoc l x ih =>
    rcases List.eq_nil_or_concat m with rfl | ⟨m',y,rfl⟩
    · simp at hlen
    · rw [List.concat_eq_append] at *
      rw [val_snoc,val_snoc] at hv
      have h1:=hl x (by simp)
      have h2:=hm y (by simp)
      have h3 : val l=val m' := by omega
      have h4 : x=y:=by omega
      rw [ih hl.left hm.left (by simpa using hlen) h3,h4]
def four (n : Int) : List Int := [n / 16777216 % 256,n / 65536 % 256,n / 256 % 256,n % 256]
theorem four_bytes (n : Int) : Bytes (four n):=fun x hx=>by simp only [four,List.mem_cons,List.not_mem_nil,or_false] at hx;omega
theorem four_val {n : Int} (h0 : 0≤n) (h1 : n < 4294967296) : val (four n)=n:=by simp only [val,four,List.foldl];omega
theorem four_length (n : Int) : (four n).length=4:=rfl
theorem rd_mid (a b : List Int) (x : Int) (n : Int) (hn : n=(a.length : Int)) : rd (a ++ x :: b) n=x:=by
  subst hn
  unfold Go.Proofs.YtkaoiblgfpphoaaW.PrintWords.rd
  simp
theorem set_mid (a b : List Int) (x v : Int) (n : Int) (hn : n=(a.length : Int)) : (a ++ x :: b).set n.toNat v=a ++ v :: b:=by
  subst hn
  simp
theorem ex_snoc {n : Nat} {a : List Int} (h : a.length=n+1) : ∃ a0 x,a=a0 ++ [x]∧a0.length=n:=by
  rcases List.eq_nil_or_concat a with rfl | ⟨m,y,rfl⟩
  · simp at h
  · rw [List.concat_eq_append] at *
    exact ⟨m,y,rfl,by simpa using h⟩
theorem wf_u64 {x : Int} (h : (Lit.int .u64 x).wf=true) : 0≤x∧x≤18446744073709551615:=by simp [Lit.wf,IntKind.min,IntKind.max,IntKind.bits,IntKind.signed] at h;omega
theorem wf_u32 {x : Int} (h : (Lit.int .u32 x).wf=true) : 0≤x∧x≤4294967295:=by simp [Lit.wf,IntKind.min,IntKind.max,IntKind.bits,IntKind.signed] at h;omega
theorem wf_u8 {x : Int} (h : (Lit.int .u8 x).wf=true) : 0≤x∧x < 256:=by simp [Lit.wf,IntKind.min,IntKind.max,IntKind.bits,IntKind.signed] at h;omega
end Go.Proofs.Ytkaoiblgfpphoaa.Val
