-- Lemmas, one text behind the other (wip/tools/pack.py).
import Derived.Test.YtkaoiblgfpphoaaZGainBackWMore
import Derived.Lib.SmallJoins
import Derived.ChangeSlices
import Derived.IntWalk
import Derived.Laws.BitsLemmas
import Derived.Test.YtkaoiblgfpphoaaZGainBackM1
import Derived.Test.YtkaoiblgfpphoaaZGainBackM2
import Derived.Test.YtkaoiblgfpphoaaZGainBackM3
/- What a law's parameter reads as: typed data out of the row's own reading. A structure of lemmas, kind by kind. -/
namespace Go.Proofs.Ytkaoiblgfpphoaa.Rd
open Go.ChangeShapes Go.WideShapes Go.Joins Go.Deep Go.Proofs.YtkaoiblgfpphoaaW.PrintWords

structure Opens {α : Type} (P : Program) (t : TypeId) (d : Kd α) (ok : α→Prop) : Prop where
  cells : P.cellsOf t=d.sz
  opens : ∀ {H : Type} {enc : TypeId × Value → H} {w : World} {spare : Nat → Bool} {held : Bool} {fuel : Nat} {cs : List Value} {x : DataW H × List MemPlace},
    DataW.trod enc P w 0 spare held fuel t cs=some x→∃ a : α,d.K w a cs∧ok a

theorem list_of {α : Type} {Q : Nat→α→Prop} : ∀ n : Nat,(∀ i,i < n→∃ a,Q i a)→∃ xs : List α,xs.length=n∧∀ i a,xs[i]? = some a→Q i a
  | 0,_=>⟨[],rfl,fun i a h=>by simp at h⟩
  | n+1,h=>by
    obtain ⟨xs,hl,hx⟩:=list_of n (fun i hi=>h i (by omega))
    obtain ⟨a,ha⟩:=h n (by omega)
    refine ⟨xs ++ [a],by simp [hl],fun i b hb => ?_⟩
    rcases Nat.lt_or_ge i n with hi|hi
    · rw [List.getElem?_append_left (by omega)] at hb
      exact hx i b hb
    · have h1:=(List.getElem?_eq_some_iff.1 hb).1
      rw [List.length_append,List.length_singleton] at h1
      obtain rfl : i=n:=by omega
      rw [List.getElem?_append_right (by omega)] at hb
      simp [hl] at hb
      exact hb ▸ ha

variable {P : Program} {t e : TypeId}
theorem Opens.int {k : IntKind} (ht : P.underlying t=some (.int k)) (hc : P.cellsOf t=1) : Opens P t (Kd.int k) (fun a=>(Lit.int k a).wf=true) :=
  ⟨hc,fun h=>by obtain ⟨n,rfl,_,hw⟩:=DataW.trod_int ht h;exact ⟨n,rfl,hw⟩⟩
theorem Opens.bool (ht : P.underlying t=some .bool) (hc : P.cellsOf t=1) : Opens P t Kd.bool (fun _=>True) :=
  ⟨hc,fun h=>by obtain ⟨b,rfl,_⟩:=DataW.trod_bool ht h;exact ⟨b,rfl,trivial⟩⟩
theorem Opens.slice {α : Type} {d : Kd α} {ok : α→Prop} (ht : P.underlying t=some (.slice e)) (hc : P.cellsOf t=1) (he : Opens P e d ok) :
    Opens P t (Kd.slice e d) (fun l=>l.length≤maxLen∧∀ a ∈ l,ok a):=by
  refine ⟨hc,fun {H enc w spare held fuel cs x} h => ?_⟩
  rcases DataW.trod_slice ht h with ⟨rfl,_⟩ | ⟨a,len,cap,elems,rest,n,_,rfl,_,_,hl,hm,hlen,hel,_,_⟩
  · exact ⟨[],⟨none,0,rfl,Nat.le_refl _,Kd.C_nil _ _⟩,by simp [maxLen],by simp⟩
  · have each : ∀ i,i < len→∃ b, ∃ c,w.cells? 0 (a.add (i * P.cellsOf e)) (P.cellsOf e)=some c∧d.K w b c∧ok b:=by
      intro i hi
      have h1:=hel i hi
      rw [List.getElem?_eq_getElem (by omega)] at h1
      obtain ⟨c,hc1,hc2⟩:=Option.bind_eq_some_iff.1 h1
      obtain ⟨b,hb,hok⟩:=he.opens hc2
      exact ⟨b,c,hc1,hb,hok⟩
    obtain ⟨xs,hxl,hx⟩:=list_of len each
    refine ⟨xs,⟨some a,cap,by rw [hxl],by omega,rfl,by rw [hxl];simp only [maxLen] at hm;omega,fun _=>⟨a,rfl,fun j p hj => ?_⟩⟩,by omega,fun b hb => ?_⟩
    · obtain ⟨c,hc1,hK,_⟩:=hx j p hj
      obtain ⟨_,hcl,hcc⟩:=World.cells?_some hc1
      refine ⟨c,by rw [hcl,he.cells],hK,fun i u hu => ?_⟩
      have hi : i < c.length:=(List.getElem?_eq_some_iff.1 hu).1
      rw [← hu, ← hcc i (by omega), ← he.cells]
      rw [Go.Proofs.YtkaoiblgfpphoaaW.PrintWords.add_add]
    · obtain ⟨i,hi⟩:=List.getElem?_of_mem hb
      obtain ⟨_,_,_,hok⟩:=hx i b hi
      exact hok
theorem Opens.agg2 {α β : Type} {d0 : Kd α} {d1 : Kd β} {ok0 : α→Prop} {ok1 : β→Prop} {f0 f1 : Field} (hs : P.underlying t=some (.struct #[f0,f1])) (hone : oneCellFields P #[f0,f1]=true) (hC : P.cellsOf t=2)
    (h0 : Opens P f0.type d0 ok0) (h1 : Opens P f1.type d1 ok1) : Opens P t (Kd.pair d0 d1) (fun a=>ok0 a.1∧ok1 a.2):=by
  obtain ⟨o0,k0⟩:=hone_of hone 0 f0 rfl
  obtain ⟨o1,k1⟩:=hone_of hone 1 f1 rfl
  refine ⟨by rw [hC];show 2=d0.sz+d1.sz;rw [← h0.cells, ← h1.cells,k0,k1],fun {H enc w spare held fuel cs x} h => ?_⟩
  obtain ⟨y0,y1,n,_,hl,g0,g1⟩:=trod_struct2 hs h
  rw [hC] at hl
  obtain ⟨c0,c1,rfl⟩ : ∃ c0 c1,cs = [c0,c1]:=by
    match cs,hl with
    | [c0,c1],_=>exact ⟨c0,c1,rfl⟩
  rw [o0,k0] at g0
  rw [o1,k1] at g1
  obtain ⟨a,ha,ha'⟩:=h0.opens (cs := [c0]) g0
  obtain ⟨b,hb,hb'⟩:=h1.opens (cs := [c1]) g1
  exact ⟨(a,b),⟨[c0], [c1],rfl,ha,hb⟩,ha',hb'⟩
theorem Opens.iso {α β : Type} {d : Kd α} {ok : α→Prop} (f : β→α) (g : α→β) (hfg : ∀ a,f (g a)=a) (h : Opens P t d ok) : Opens P t (Kd.iso d f) (fun b=>ok (f b)) :=
  ⟨h.cells,fun hx=>by obtain ⟨a,ha,ho⟩:=h.opens hx;exact ⟨g a,by show d.K _ (f (g a)) _;rw [hfg];exact ha,by show ok (f (g a));rw [hfg];exact ho⟩⟩
theorem Opens.mono {α : Type} {d : Kd α} {ok ok' : α→Prop} (h : Opens P t d ok) (hok : ∀ a,ok a→ok' a) : Opens P t d ok' :=
  ⟨h.cells,fun hx=>by obtain ⟨a,ha,ho⟩:=h.opens hx;exact ⟨a,ha,hok a ho⟩⟩
end Go.Proofs.Ytkaoiblgfpphoaa.Rd
/- Lists of bytes as numbers: plain arithmetic, no program in sight. -/
namespace Go.Proofs.Ytkaoiblgfpphoaa.Val
open Go.RowKit Go.Proofs.YtkaoiblgfpphoaaW.PrintWords

theorem u64w {x : Int} (h0 : 0≤x) (h1 : x≤18446744073709551615) : IntKind.u64.wrap x=x:=IntWalk.u64_in x ⟨h0,h1⟩
theorem i64w {x : Int} (h0 : -9223372036854775808≤x) (h1 : x≤9223372036854775807) : wrap64 x=x:=by unfold wrap64;omega
theorem tdiv_nn {a b : Int} (h : 0≤a) : Int.tdiv a b=a / b:=Int.tdiv_eq_ediv_of_nonneg h
theorem tmod_nn {a b : Int} (h : 0≤a) : Int.tmod a b=a % b:=Int.tmod_eq_emod_of_nonneg h
theorem u64_fit (n : Int) (h₀ : 0≤n) (h₁ : n < 2 ^ 64) : IntKind.u64.wrap n=n:=u64w h₀ (by omega)
theorem and32 {x : Int} (h₀ : 0≤x) (h₁ : x≤18446744073709551615) : Go.bits .and .u64 x 4294967295=x % 4294967296:=by
  have h:=bits_mask .u64 64 (by decide) u64_fit 32 (by decide) x h₀ (by omega)
  exact h
theorem or8 {x y : Int} (hx : 0≤x) (hx1 : x≤18446744073709551615) (hm : x % 256=0) (hy : 0≤y) (hy1 : y < 256) : Go.bits .or .u64 x y=x+y :=
  bits_join .u64 64 (by decide) u64_fit 8 x y hx (by simpa using hm) (by omega) hy (by omega) (by omega)
theorem or16 {x y : Int} (hx : 0≤x) (hx1 : x≤18446744073709551615) (hm : x % 65536=0) (hy : 0≤y) (hy1 : y < 65536) : Go.bits .or .u64 x y=x+y :=
  bits_join .u64 64 (by decide) u64_fit 16 x y hx (by simpa using hm) (by omega) hy (by omega) (by omega)
theorem or24 {x y : Int} (hx : 0≤x) (hx1 : x≤18446744073709551615) (hm : x % 16777216=0) (hy : 0≤y) (hy1 : y < 16777216) : Go.bits .or .u64 x y=x+y :=
  bits_join .u64 64 (by decide) u64_fit 24 x y hx (by simpa using hm) (by omega) hy (by omega) (by omega)

def Bytes (l : List Int) : Prop := ∀ x ∈ l,0≤x∧x < 256
theorem Bytes.nil : Bytes []:=fun _ h=>by cases h
theorem Bytes.append {l m : List Int} (h : Bytes l) (k : Bytes m) : Bytes (l ++ m):=fun x hx=>(List.mem_append.1 hx).elim (h x) (k x)
theorem Bytes.left {l m : List Int} (h : Bytes (l ++ m)) : Bytes l:=fun x hx=>h x (List.mem_append_left _ hx)
theorem Bytes.one {x : Int} (h : 0≤x) (h' : x < 256) : Bytes [x]:=fun y hy=>by rw [List.mem_singleton.1 hy];exact ⟨h,h'⟩
theorem Bytes.take {l : List Int} (h : Bytes l) (n : Nat) : Bytes (l.take n):=fun x hx=>h x (List.mem_of_mem_take hx)
theorem Bytes.rd {l : List Int} (h : Bytes l) (i : Int) : 0≤rd l i∧rd l i < 256:=by
  unfold Go.Proofs.YtkaoiblgfpphoaaW.PrintWords.rd
  rw [List.getD_eq_getElem?_getD]
  cases he : l[i.toNat]? with
  | none=>exact ⟨by decide,by decide⟩
  | some y=>exact h y (List.mem_of_getElem? he)
theorem Bytes.set {l : List Int} (h : Bytes l) (n : Nat) {x : Int} (h0 : 0≤x) (h1 : x < 256) : Bytes (l.set n x):=fun y hy=>by
  rcases List.mem_or_eq_of_mem_set hy with hy|rfl
  · exact h y hy
  · exact ⟨h0,h1⟩

theorem snocRec {α : Type} {motive : List α→Prop} (l : List α) (nil : motive []) (snoc : ∀ (l : List α) (x : α),motive l→motive (l ++ [x])) : motive l:=by
  have key : ∀ (n : Nat) (l : List α),l.length=n→motive l:=by
    intro n
    induction n with
    | zero=>intro l hl;rw [List.length_eq_zero_iff.1 hl];exact nil
    | succ n ih =>
      intro l hl
      rcases List.eq_nil_or_concat l with rfl | ⟨m,y,rfl⟩
      · exact nil
      · rw [List.concat_eq_append] at *
        exact snoc m y (ih m (by simpa using hl))
  exact key _ l rfl
def val (l : List Int) : Int:=l.foldl (fun a x=>a * 256+x) 0
def pw (n : Nat) : Int:=256 ^ n
theorem pw_pos (n : Nat) : 0 < pw n:=Int.pow_pos (by decide)
theorem pw_zero : pw 0=1:=rfl
theorem pw_succ (n : Nat) : pw (n+1)=256 * pw n:=by unfold pw;rw [Int.pow_succ,Int.mul_comm]
theorem pw_add (m n : Nat) : pw (m+n)=pw m * pw n:=by unfold pw;exact Int.pow_add 256 m n
theorem val_nil : val []=0:=rfl
theorem val_snoc (l : List Int) (x : Int) : val (l ++ [x])=val l * 256+x:=by simp [val]
theorem val_append (l m : List Int) : val (l ++ m)=val l * pw m.length+val m:=by
  induction m using snocRec with
  | nil=>simp [pw_zero,val_nil]
  | snoc m x ih =>
    rw [← List.append_assoc,val_snoc,ih,val_snoc,List.length_append,List.length_singleton,pw_succ]
    generalize val l=a
    generalize pw m.length=p
    generalize val m=b
    rw [Int.add_mul,Int.mul_assoc,Int.mul_comm p 256];omega
theorem val_bound {l : List Int} (h : Bytes l) : 0≤val l∧val l < pw l.length:=by
  induction l using snocRec with
  | nil=>exact ⟨by decide,by decide⟩
  | snoc l x ih =>
    have h1:=ih h.left
    have h2:=h x (by simp)
    rw [val_snoc,List.length_append,List.length_singleton,pw_succ]
    omega
theorem val_inj {l m : List Int} (hl : Bytes l) (hm : Bytes m) (hlen : l.length=m.length) (hv : val l=val m) : l=m:=by
  induction l using snocRec generalizing m with
  | nil=>exact (List.length_eq_zero_iff.1 hlen.symm).symm
  | snoc l x ih =>
    rcases List.eq_nil_or_concat m with rfl | ⟨m',y,rfl⟩
    · simp at hlen
    · rw [List.concat_eq_append] at *
      rw [val_snoc,val_snoc] at hv
      have h1:=hl x (by simp)
      have h2:=hm y (by simp)
      have h3 : val l=val m' := by omega
      have h4 : x=y:=by omega
      rw [ih hl.left hm.left (by simpa using hlen) h3,h4]
def four (n : Int) : List Int := [n / 16777216 % 256,n / 65536 % 256,n / 256 % 256,n % 256]
theorem four_bytes (n : Int) : Bytes (four n):=fun x hx=>by simp only [four,List.mem_cons,List.not_mem_nil,or_false] at hx;omega
theorem four_val {n : Int} (h0 : 0≤n) (h1 : n < 4294967296) : val (four n)=n:=by simp only [val,four,List.foldl];omega
theorem four_length (n : Int) : (four n).length=4:=rfl
theorem rd_mid (a b : List Int) (x : Int) (n : Int) (hn : n=(a.length : Int)) : rd (a ++ x :: b) n=x:=by
  subst hn
  unfold Go.Proofs.YtkaoiblgfpphoaaW.PrintWords.rd
  simp
theorem set_mid (a b : List Int) (x v : Int) (n : Int) (hn : n=(a.length : Int)) : (a ++ x :: b).set n.toNat v=a ++ v :: b:=by
  subst hn
  simp
theorem ex_snoc {n : Nat} {a : List Int} (h : a.length=n+1) : ∃ a0 x,a=a0 ++ [x]∧a0.length=n:=by
  rcases List.eq_nil_or_concat a with rfl | ⟨m,y,rfl⟩
  · simp at h
  · rw [List.concat_eq_append] at *
    exact ⟨m,y,rfl,by simpa using h⟩
end Go.Proofs.Ytkaoiblgfpphoaa.Val
/- What the coder's functions (and the document's) come to, on numbers and lists. -/
namespace Go.Proofs.Ytkaoiblgfpphoaa.Cod
open Go.RowKit Go.Proofs.YtkaoiblgfpphoaaW.PrintWords Go.Proofs.Ytkaoiblgfpphoaa.Prt Go.Proofs.Ytkaoiblgfpphoaa.Val
set_option linter.unusedVariables false

def Fair (lo hi tot : Int) : Prop:=0≤lo∧lo < hi∧hi≤tot∧tot≤65536
instance (lo hi tot : Int) : Decidable (Fair lo hi tot):=by unfold Fair;exact inferInstance
theorem fair_f (lo hi tot : Int) : coder_fair.f lo hi tot=some (decide (Fair lo hi tot)):=by
  unfold coder_fair.f Fair
  grind
theorem Fair_f (lo hi tot : Int) : psalteryref05_Fair.f lo hi tot=some (decide (Fair lo hi tot)):=by
  unfold psalteryref05_Fair.f Fair
  grind
def prt (rg lo hi tot : Int) : Int × Int:=(if hi=tot then rg - rg / tot * lo else rg / tot * (hi - lo),rg / tot * lo)
theorem div_facts {rg lo hi tot : Int} (h0 : 16777216≤rg) (h1 : rg≤4294967295) (hf : Fair lo hi tot) :
    256≤rg / tot∧rg / tot≤rg∧0≤rg / tot * lo∧rg / tot * lo+rg / tot * (hi - lo)=rg / tot * hi∧rg / tot * hi≤rg / tot * tot∧rg / tot * tot≤rg∧rg / tot≤rg / tot * (hi - lo):=by
  obtain ⟨f1,f2,f3,f4⟩:=hf
  have ht : 0 < tot:=by omega
  have e1 : 256≤rg / tot:=by
    rw [Int.le_ediv_iff_mul_le ht];omega
  have e2 : rg / tot * tot≤rg:=Int.ediv_mul_le _ (by omega)
  generalize rg / tot=r at *
  have e3 : r≤r * tot:=by
    have:=Int.mul_le_mul_of_nonneg_left (show (1 : Int)≤tot by omega) (show (0 : Int)≤r by omega)
    omega
  have e4 : r * hi≤r * tot:=Int.mul_le_mul_of_nonneg_left f3 (by omega)
  have e5 : 0≤r * lo:=Int.mul_nonneg (by omega) f1
  have e6 : r≤r * (hi - lo):=by
    have:=Int.mul_le_mul_of_nonneg_left (show (1 : Int)≤hi - lo by omega) (show (0 : Int)≤r by omega)
    omega
  exact ⟨e1,by omega,e5,by rw [Int.mul_sub];omega,e4,e2,e6⟩
theorem prt_facts {rg lo hi tot : Int} (h0 : 16777216≤rg) (h1 : rg≤4294967295) (hf : Fair lo hi tot) :
    256≤(prt rg lo hi tot).1∧0≤(prt rg lo hi tot).2∧(prt rg lo hi tot).1+(prt rg lo hi tot).2≤rg:=by
  obtain ⟨a,b,c,d,e,f,g⟩:=div_facts h0 h1 hf
  unfold prt
  dsimp only
  split <;> omega
theorem part_f {rg lo hi tot : Int} (h0 : 16777216≤rg) (h1 : rg≤4294967295) (hf : Fair lo hi tot) : coder_part.f rg lo hi tot=some (prt rg lo hi tot):=by
  obtain ⟨a,b,c,d,e,f,g⟩:=div_facts h0 h1 hf
  obtain ⟨f1,f2,f3,f4⟩:=hf
  have w1 : tot % 4294967296=tot:=by omega
  have w2 : IntKind.u64.wrap lo=lo:=u64w (by omega) (by omega)
  have w3 : wrap64 (hi - lo)=hi - lo:=i64w (by omega) (by omega)
  have w4 : (hi - lo) % 4294967296=hi - lo:=by omega
  unfold coder_part.f prt
  rw [w1,tdiv_nn (by omega : (0 : Int)≤rg),w2,w3,w4]
  generalize rg / tot=r at *
  have w5 : r % 4294967296=r:=by omega
  rw [w5,u64w c (by omega),if_neg (by omega)]
  by_cases h : hi=tot
  · rw [if_pos h,if_pos h];congr 2;omega
  · rw [if_neg h,if_neg h];congr 2;omega
theorem Part_f {rg lo hi tot : Int} (h0 : 16777216≤rg) (h1 : rg≤4294967295) (hf : Fair lo hi tot) : psalteryref05_part.f rg lo hi tot=some (prt rg lo hi tot):=by
  obtain ⟨a,b,c,d,e,f,g⟩:=div_facts h0 h1 hf
  obtain ⟨f1,f2,f3,f4⟩:=hf
  have w1 : IntKind.u64.wrap tot=tot:=u64w (by omega) (by omega)
  have w2 : IntKind.u64.wrap lo=lo:=u64w (by omega) (by omega)
  have w3 : wrap64 (hi - lo)=hi - lo:=i64w (by omega) (by omega)
  have w4 : IntKind.u64.wrap (hi - lo)=hi - lo:=u64w (by omega) (by omega)
  unfold psalteryref05_part.f prt
  rw [w1,tdiv_nn (by omega : (0 : Int)≤rg),w2,w3,w4]
  generalize rg / tot=r at *
  rw [u64w (x:=r) (by omega) (by omega),u64w c (by omega),if_neg (by omega)]
  by_cases h : hi=tot
  · rw [if_pos h,if_pos h,u64w (by omega) (by omega)]
  · rw [if_neg h,if_neg h,u64w (by omega) (by omega)]

theorem carry_l0 : ∀ (n : Nat) (a b : List Int) (k : Nat),a.length=n→Bytes a→(a ++ b).length≤10000→n < k →
    ∃ a',coder_carry.l0 k (a ++ b) ((n : Int) - 1)=some (a' ++ b)∧Bytes a'∧a'.length=n∧val a' = (val a+1) % pw n
  | 0,a,b,k,ha,_,hl,hk=>by
    obtain ⟨k,rfl⟩ : ∃ m,k=m+1:=⟨k - 1,by omega⟩
    obtain rfl:=List.length_eq_zero_iff.1 ha
    refine ⟨[], ?_,Bytes.nil,rfl,by rw [pw_zero,val_nil];omega⟩
    simp only [coder_carry.l0]
    rw [if_neg (by omega)]
  | n+1,a,b,k,ha,hb,hl,hk=>by
    obtain ⟨k,rfl⟩ : ∃ m,k=m+1:=⟨k - 1,by omega⟩
    obtain ⟨a0,x,rfl,ha0⟩:=ex_snoc ha
    have hx:=hb x (by simp)
    have e : ((n+1 : Nat) : Int) - 1=(n : Int):=by omega
    have hlen : (a0 ++ [x] ++ b).length=n+1+b.length:=by simp [ha0];omega
    have hn : (n : Int)=(a0.length : Int):=by omega
    rw [List.append_assoc,List.singleton_append] at *
    rw [e]
    simp only [coder_carry.l0]
    rw [if_pos (by omega),if_pos (by omega),if_pos (by omega),Option.bind_some,rd_mid a0 b x _ hn,set_mid a0 b x _ _ hn,rd_mid a0 b _ _ hn]
    by_cases h : (x+1) % 256=0
    · obtain rfl : x=255:=by omega
      rw [if_pos h,i64w (by omega) (by omega)]
      obtain ⟨a',h1,h2,h3,h4⟩:=carry_l0 n a0 (0 :: b) k ha0 hb.left (by simp at hl ⊢; omega) (by omega)
      refine ⟨a' ++ [0], ?_,h2.append (Bytes.one (by decide) (by decide)),by simp [h3], ?_⟩
      · rw [List.append_assoc,List.singleton_append];exact h1
      · rw [val_snoc,val_snoc,h4,pw_succ,show val a0 * 256+255+1=256 * (val a0+1) by omega,Int.mul_emod_mul_of_pos _ _ (by decide)];omega
    · rw [if_neg h]
      refine ⟨a0 ++ [x+1], ?_,hb.left.append (Bytes.one (by omega) (by omega)),by simp [ha0], ?_⟩
      · rw [List.append_assoc,List.singleton_append,show (x+1) % 256=x+1 by omega]
      · have hv:=val_bound hb.left
        rw [val_snoc,val_snoc,pw_succ]
        rw [ha0] at hv
        rw [Int.emod_eq_of_lt (by omega) (by omega)];omega
theorem carry_f (l : List Int) (k : Nat) (hb : Bytes l) (hl : l.length≤10000) (hk : l.length < k) : ∃ r,coder_carry.f k l=some r∧Bytes r∧r.length=l.length∧val r=(val l+1) % pw l.length:=by
  obtain ⟨r,h1,h2,h3,h4⟩:=carry_l0 l.length l [] k rfl hb (by simpa using hl) hk
  refine ⟨r, ?_,h2,h3,h4⟩
  unfold coder_carry.f
  rw [i64w (by omega) (by omega)]
  simpa using h1
theorem add_l0 : ∀ (n : Nat) (a b : List Int) (c : Int) (k : Nat),a.length=n→Bytes a→(a ++ b).length≤10000→0≤c→c≤1152921504606846976→n < k →
    ∃ a',psalteryref05_add.l0 k c (a ++ b) ((n : Int) - 1)=some (a' ++ b)∧Bytes a'∧a'.length=n∧val a' = (val a+c) % pw n
  | 0,a,b,c,k,ha,_,hl,hc,hc',hk=>by
    obtain ⟨k,rfl⟩ : ∃ m,k=m+1:=⟨k - 1,by omega⟩
    obtain rfl:=List.length_eq_zero_iff.1 ha
    refine ⟨[], ?_,Bytes.nil,rfl,by rw [pw_zero,val_nil];omega⟩
    simp only [psalteryref05_add.l0]
    rw [if_neg (by omega)]
  | n+1,a,b,c,k,ha,hb,hl,hc,hc',hk=>by
    obtain ⟨k,rfl⟩ : ∃ m,k=m+1:=⟨k - 1,by omega⟩
    obtain ⟨a0,x,rfl,ha0⟩:=ex_snoc ha
    have hx:=hb x (by simp)
    have e : ((n+1 : Nat) : Int) - 1=(n : Int):=by omega
    have hlen : (a0 ++ [x] ++ b).length=n+1+b.length:=by simp [ha0];omega
    have hn : (n : Int)=(a0.length : Int):=by omega
    rw [List.append_assoc,List.singleton_append] at *
    rw [e]
    simp only [psalteryref05_add.l0]
    rw [if_pos (by omega),if_pos (by omega),if_pos (by omega),rd_mid a0 b x _ hn,set_mid a0 b x _ _ hn,u64w (x:=x) (by omega) (by omega),u64w (x:=c+x) (by omega) (by omega),tdiv_nn (by omega),tmod_nn (by omega),u64w (by omega) (by omega),i64w (by omega) (by omega),i64w (by omega) (by omega)]
    obtain ⟨a',h1,h2,h3,h4⟩:=add_l0 n a0 ((c+x) % 256 :: b) ((c+x) / 256) k ha0 hb.left (by simp at hl ⊢; omega) (by omega) (by omega) (by omega)
    refine ⟨a' ++ [(c+x) % 256], ?_,h2.append (Bytes.one (by omega) (by omega)),by simp [h3], ?_⟩
    · rw [List.append_assoc,List.singleton_append];exact h1
    · rw [val_snoc,val_snoc,h4,pw_succ]
      have h5 : val a0 * 256+x+c=256 * (val a0+(c+x) / 256)+(c+x) % 256:=by omega
      have hp:=pw_pos n
      have h6:=Int.emod_lt_of_pos (val a0+(c+x) / 256) hp
      have h7:=Int.emod_nonneg (val a0+(c+x) / 256) (show pw n≠0 by omega)
      have h8:=Int.mul_ediv_add_emod (val a0+(c+x) / 256) (pw n)
      rw [h5]
      generalize val a0+(c+x) / 256=y at *
      have h9 : 256 * y+(c+x) % 256=256 * (y % pw n)+(c+x) % 256+256 * pw n * (y / pw n):=by rw [Int.mul_assoc];omega
      rw [h9,Int.add_mul_emod_self_left,Int.emod_eq_of_lt (a:=256 * (y % pw n)+(c+x) % 256) (b:=256 * pw n) (by omega) (by omega)];omega
theorem add_f (l : List Int) (c : Int) (k : Nat) (hb : Bytes l) (hl : l.length≤10000) (hc : 0≤c) (hc' : c≤1152921504606846976) (hk : l.length < k) :
    ∃ r,psalteryref05_add.f k l c=some r∧Bytes r∧r.length=l.length∧val r=(val l+c) % pw l.length:=by
  obtain ⟨r,h1,h2,h3,h4⟩:=add_l0 l.length l [] c k rfl hb (by simpa using hl) hc hc' hk
  refine ⟨r, ?_,h2,h3,h4⟩
  unfold psalteryref05_add.f
  simp only [Option.bind_some,List.nil_append,List.length_nil,Nat.zero_add]
  rw [if_pos (by omega),i64w (by omega) (by omega)]
  simpa using h1

def EOk (lo rg : Int) (out : List Int) : Prop:=0≤lo∧lo≤4294967295∧16777216≤rg∧rg≤4294967295∧Bytes out∧out.length≤4000
def num (lo : Int) (out : List Int) : Int:=val out * 4294967296+lo
theorem rightEnc_f (lo rg : Int) (out : List Int) : coder_RightEnc.f lo rg out=some (decide (lo≤4294967295∧16777216≤rg∧(out.length : Int)≤4000)):=by
  unfold coder_RightEnc.f
  grind
theorem own_ok {lo rg : Int} {out : List Int} (h : EOk lo rg out) : coder_own.f lo rg out=some (lo,rg,out):=by
  obtain ⟨a,b,c,d,e,f⟩:=h
  unfold coder_own.f
  rw [rightEnc_f,Option.bind_some,if_pos (by simp;omega)]
  simp only [Option.bind_some,List.nil_append,List.length_nil,Nat.zero_add]
  rw [if_pos (by omega)]
theorem new_ok : EOk 0 4294967295 []:=⟨by decide,by decide,by decide,by decide,Bytes.nil,by decide⟩
def mOf (r : Int) : Nat:=if r < 65536 then 2 else if r < 16777216 then 1 else 0
theorem mOf_range {r : Int} (h : 256≤r) (h1 : r≤4294967295) : 16777216≤r * pw (mOf r)∧r * pw (mOf r)≤4294967295∧mOf r≤2:=by
  unfold mOf
  have e2 : pw 2=65536:=rfl
  have e1 : pw 1=256:=rfl
  have e0 : pw 0=1:=rfl
  split
  · rw [e2];omega
  · split
    · rw [e1];omega
    · rw [e0];omega
theorem put_stop (k : Nat) {r : Int} (low rg : Int) (out : List Int) (h : ¬ r < 16777216) : coder_Put.l0 (k+1) r low rg out=some (low,r,out,0):=by
  simp only [coder_Put.l0]
  rw [if_neg h]
theorem put_step (k : Nat) {r low : Int} (rg : Int) {out : List Int} (h : r < 16777216) (h0 : 256≤r) (hl : 0≤low) (hl1 : low≤4294967295) (ho : out.length≤9000) :
    coder_Put.l0 (k+1) r low rg out=coder_Put.l0 k (r * 256) (low * 256 % 4294967296) rg (out ++ [low / 16777216]):=by
  simp only [coder_Put.l0]
  rw [if_pos h,if_pos (by omega),u64w (by omega) (by omega),and32 (by omega) (by omega),Int.emod_eq_of_lt (a:=r * 256) (by omega) (by omega),Int.emod_eq_of_lt (a:=low / 16777216) (by omega) (by omega)]
theorem num_step {low : Int} {out : List Int} (hl : 0≤low) (hl1 : low≤4294967295) : num (low * 256 % 4294967296) (out ++ [low / 16777216])=num low out * 256:=by
  unfold num
  rw [val_snoc];omega
theorem put_l0 {r low : Int} (rg : Int) {out : List Int} (h : 256≤r) (h1 : r≤4294967295) (hl : 0≤low) (hl1 : low≤4294967295) (hb : Bytes out) (ho : out.length≤8000) :
    ∃ low' out',(∀ k,3≤k→coder_Put.l0 k r low rg out=some (low',r * pw (mOf r),out',0))∧0≤low'∧low'≤4294967295∧Bytes out'∧out'.length=out.length+mOf r∧num low' out' = num low out * pw (mOf r):=by
  have e2 : pw 2=65536:=rfl
  have e1 : pw 1=256:=rfl
  have e0 : pw 0=1:=rfl
  have b1 : Bytes (out ++ [low / 16777216]):=hb.append (Bytes.one (by omega) (by omega))
  unfold mOf
  split
  · rename_i h2
    refine ⟨low * 256 % 4294967296 * 256 % 4294967296,out ++ [low / 16777216] ++ [low * 256 % 4294967296 / 16777216],fun k hk => ?_, ?_, ?_, ?_, ?_, ?_⟩
    · obtain ⟨k,rfl⟩ : ∃ m,k=m+3:=⟨k - 3,by omega⟩
      rw [put_step (k+2) rg (by omega) h hl hl1 (by omega),put_step (k+1) rg (by omega) (by omega) (by omega) (by omega) (by simp;omega),put_stop k _ _ _ (by omega),e2,Int.mul_assoc,show (256 : Int) * 256=65536 from rfl]
    · omega
    · omega
    · exact b1.append (Bytes.one (by omega) (by omega))
    · simp
    · rw [num_step (by omega) (by omega),num_step hl hl1,e2];omega
  · split
    · refine ⟨low * 256 % 4294967296,out ++ [low / 16777216],fun k hk => ?_, ?_, ?_,b1, ?_, ?_⟩
      · obtain ⟨k,rfl⟩ : ∃ m,k=m+2:=⟨k - 2,by omega⟩
        rw [put_step (k+1) rg (by omega) h hl hl1 (by omega),put_stop k _ _ _ (by omega),e1]
      · omega
      · omega
      · simp
      · rw [num_step hl hl1,e1]
    · refine ⟨low,out,fun k hk => ?_,hl,hl1,hb,by simp,by rw [e0];omega⟩
      obtain ⟨k,rfl⟩ : ∃ m,k=m+1:=⟨k - 1,by omega⟩
      rw [put_stop k _ _ _ (by omega),e0,Int.mul_one]
theorem put_j0 (k : Nat) (r low rg : Int) (out : List Int) : coder_Put.j0 (k+1) r low rg out=coder_Put.l0 k r low rg out:=by simp only [coder_Put.j0]
theorem put_bad (k : Nat) {lo rg lo' rg' clo chi ctot : Int} {out out' : List Int} (ho : coder_own.f lo rg out=some (lo',rg',out')) (hf : ¬ Fair clo chi ctot) : coder_Put.f k lo rg out clo chi ctot=some (lo',rg',out',1):=by
  unfold coder_Put.f
  rw [ho]
  simp only [Option.bind_some]
  rw [fair_f,Option.bind_some,if_neg (by simpa using hf)]
theorem put_full (k : Nat) {lo rg lo' rg' clo chi ctot : Int} {out out' : List Int} (ho : coder_own.f lo rg out=some (lo',rg',out')) (hf : Fair clo chi ctot) (hl : 3996≤out'.length) : coder_Put.f k lo rg out clo chi ctot=some (lo',rg',out',3):=by
  unfold coder_Put.f
  rw [ho]
  simp only [Option.bind_some]
  rw [fair_f,Option.bind_some,if_pos (by simpa using hf),if_pos (by omega)]
theorem put_ok {lo rg lo0 rg0 clo chi ctot : Int} {out out0 : List Int} (ho : coder_own.f lo0 rg0 out0=some (lo,rg,out)) (he : EOk lo rg out) (hf : Fair clo chi ctot) (hl : out.length < 3996) :
    ∃ lo' out',(∀ k,5000≤k→coder_Put.f k lo0 rg0 out0 clo chi ctot=some (lo',(prt rg clo chi ctot).1 * pw (mOf (prt rg clo chi ctot).1),out',0)) ∧
      EOk lo' ((prt rg clo chi ctot).1 * pw (mOf (prt rg clo chi ctot).1)) out'∧out'.length=out.length+mOf (prt rg clo chi ctot).1 ∧
      num lo' out' = (num lo out+(prt rg clo chi ctot).2) % (4294967296 * pw out.length) * pw (mOf (prt rg clo chi ctot).1):=by
  obtain ⟨a,b,c,d,e,f⟩:=he
  obtain ⟨p1,p2,p3⟩:=prt_facts c d hf
  have hpart:=part_f c d hf
  generalize prt rg clo chi ctot=p at *
  obtain ⟨r,s⟩:=p
  dsimp only at *
  obtain ⟨m1,m2,m3⟩:=mOf_range p1 (by omega)
  have hw : IntKind.u64.wrap (lo+s)=lo+s:=u64w (by omega) (by omega)
  have hv:=val_bound e
  by_cases hc : lo+s > 4294967295
  · obtain ⟨out1,q1,q2,q3,q4⟩:=carry_f out 4999 e (by omega) (by omega)
    obtain ⟨lo',out',g1,g2,g3,g4,g5,g6⟩:=put_l0 (r:=r) (low:=(lo+s) % 4294967296) rg p1 (by omega) (by omega) (by omega) q2 (by omega)
    refine ⟨lo',out',fun k hk => ?_,⟨g2,g3,m1,m2,g4,by omega⟩,by omega, ?_⟩
    · obtain ⟨k,rfl⟩ : ∃ m,k=m+1:=⟨k - 1,by omega⟩
      have q1' : coder_carry.f (k+1) out=some out1:=at_rounds (coder_carry.mono out) (by omega) q1
      unfold coder_Put.f
      rw [ho]
      simp only [Option.bind_some]
      rw [fair_f,Option.bind_some,if_pos (by simpa using hf),if_neg (by omega),hpart,Option.bind_some]
      dsimp only
      rw [hw,if_pos hc,q1',Option.bind_some,put_j0,and32 (by omega) (by omega),g1 k (by omega)]
    · rw [g6]
      congr 1
      unfold num
      rw [q4]
      generalize pw out.length=P at *
      have h1 : val out * 4294967296+lo+s=4294967296 * (val out+1)+(lo+s - 4294967296):=by omega
      have h2:=Int.mul_ediv_add_emod (val out+1) P
      have h3:=Int.emod_nonneg (val out+1) (show P≠0 by omega)
      have h4:=Int.emod_lt_of_pos (val out+1) (show 0 < P by omega)
      have h5 : val out * 4294967296+lo+s=4294967296 * ((val out+1) % P)+(lo+s - 4294967296)+4294967296 * P * ((val out+1) / P):=by rw [Int.mul_assoc];omega
      rw [h5,Int.add_mul_emod_self_left,Int.emod_eq_of_lt (a:=4294967296 * ((val out+1) % P)+(lo+s - 4294967296)) (by omega) (by omega)]
      omega
  · obtain ⟨lo',out',g1,g2,g3,g4,g5,g6⟩:=put_l0 (r:=r) (low:=lo+s) rg p1 (by omega) (by omega) (by omega) e (by omega)
    refine ⟨lo',out',fun k hk => ?_,⟨g2,g3,m1,m2,g4,by omega⟩,g5, ?_⟩
    · obtain ⟨k,rfl⟩ : ∃ m,k=m+1:=⟨k - 1,by omega⟩
      unfold coder_Put.f
      rw [ho]
      simp only [Option.bind_some]
      rw [fair_f,Option.bind_some,if_pos (by simpa using hf),if_neg (by omega),hpart,Option.bind_some]
      dsimp only
      rw [hw,if_neg hc,put_j0,g1 k (by omega)]
    · rw [g6]
      congr 1
      unfold num
      rw [Int.emod_eq_of_lt (by omega) (by omega)]
      omega
end Go.Proofs.Ytkaoiblgfpphoaa.Cod
/- The document's encoder, and the program's: the same bytes. -/
namespace Go.Proofs.Ytkaoiblgfpphoaa.Cod
open Go.RowKit Go.Proofs.YtkaoiblgfpphoaaW.PrintWords Go.Proofs.Ytkaoiblgfpphoaa.Prt Go.Proofs.Ytkaoiblgfpphoaa.Val
set_option linter.unusedVariables false

theorem refPut_l0 : ∀ (m : Nat) (r : Int) (all : List Int) (k : Nat),0 < r→16777216≤r * pw m→(∀ j,j < m→r * pw j < 16777216)→m≤2→all.length+m≤9000→m < k →
    psalteryref05_Put.l0 k r all=some (r * pw m,all ++ List.replicate m 0,0)
  | 0,r,all,k,h0,h1,h2,hm,hl,hk=>by
    obtain ⟨k,rfl⟩ : ∃ m,k=m+1:=⟨k - 1,by omega⟩
    rw [pw_zero] at h1
    simp only [psalteryref05_Put.l0]
    rw [if_neg (by omega),pw_zero]
    simp
  | m+1,r,all,k,h0,h1,h2,hm,hl,hk=>by
    obtain ⟨k,rfl⟩ : ∃ m,k=m+1:=⟨k - 1,by omega⟩
    have h3:=h2 0 (by omega)
    rw [pw_zero] at h3
    simp only [psalteryref05_Put.l0]
    rw [if_pos (by omega),if_pos (by omega),u64w (by omega) (by omega)]
    have e : ∀ j,r * 256 * pw j=r * pw (j+1):=fun j=>by rw [pw_succ,Int.mul_assoc]
    rw [refPut_l0 m (r * 256) (all ++ [0]) k (by omega) (by rw [e];exact h1) (fun j hj=>by rw [e];exact h2 (j+1) (by omega)) (by omega) (by simp;omega) (by omega),e]
    simp [List.replicate_succ]
theorem mOf_least {r : Int} (h : 256≤r) : ∀ j,j < mOf r→r * pw j < 16777216:=by
  have e1 : pw 1=256:=rfl
  have e0 : pw 0=1:=rfl
  unfold mOf
  intro j hj
  split at hj
  · rcases (show j=0∨j=1 by omega) with rfl|rfl
    · rw [e0];omega
    · rw [e1];omega
  · split at hj
    · obtain rfl : j=0:=by omega
      rw [e0];omega
    · omega
theorem zeros_val (m : Nat) : val (List.replicate m 0)=0:=by
  induction m with
  | zero=>rfl
  | succ m ih=>rw [List.replicate_succ',val_snoc,ih];rfl
theorem zeros_bytes (m : Nat) : Bytes (List.replicate m 0):=fun x hx=>by rw [List.eq_of_mem_replicate hx];exact ⟨by decide,by decide⟩
theorem refPut_bad (k : Nat) {rg clo chi ctot : Int} {all : List Int} (hf : ¬ Fair clo chi ctot) : psalteryref05_Put.f k rg all clo chi ctot=some (rg,all,1):=by
  unfold psalteryref05_Put.f
  rw [Fair_f,Option.bind_some,if_neg (by simpa using hf)]
theorem refPut_full (k : Nat) {rg clo chi ctot : Int} {all : List Int} (hf : Fair clo chi ctot) (hl : 4000≤all.length) : psalteryref05_Put.f k rg all clo chi ctot=some (rg,all,3):=by
  unfold psalteryref05_Put.f
  rw [Fair_f,Option.bind_some,if_pos (by simpa using hf),if_pos (by omega)]
theorem refPut_ok {rg clo chi ctot : Int} {all : List Int} (c : 16777216≤rg) (d : rg≤4294967295) (hb : Bytes all) (hf : Fair clo chi ctot) (hl : all.length < 4000) :
    ∃ all',(∀ k,5000≤k→psalteryref05_Put.f k rg all clo chi ctot=some ((prt rg clo chi ctot).1 * pw (mOf (prt rg clo chi ctot).1),all',0))∧Bytes all'∧all'.length=all.length+mOf (prt rg clo chi ctot).1 ∧
      val all' = (val all+(prt rg clo chi ctot).2) % pw all.length * pw (mOf (prt rg clo chi ctot).1):=by
  obtain ⟨p1,p2,p3⟩:=prt_facts c d hf
  have hpart:=Part_f c d hf
  generalize prt rg clo chi ctot=p at *
  obtain ⟨r,s⟩:=p
  dsimp only at *
  obtain ⟨m1,m2,m3⟩:=mOf_range p1 (by omega)
  obtain ⟨b,q1,q2,q3,q4⟩:=add_f all s 4999 hb (by omega) p2 (by omega) (by omega)
  refine ⟨b ++ List.replicate (mOf r) 0,fun k hk => ?_,q2.append (zeros_bytes _),by simp [q3],by rw [val_append,zeros_val,List.length_replicate,q4,Int.add_zero]⟩
  unfold psalteryref05_Put.f
  rw [Fair_f,Option.bind_some,if_pos (by simpa using hf),if_neg (by omega),hpart,Option.bind_some]
  dsimp only
  rw [at_rounds (psalteryref05_add.mono all s) (by omega) q1,Option.bind_some,refPut_l0 (mOf r) r b k (by omega) m1 (mOf_least p1) m3 (by omega) (by omega)]
theorem num_val (lo : Int) (out : List Int) (h0 : 0≤lo) (h1 : lo≤4294967295) : val (out ++ four lo)=num lo out:=by
  rw [val_append,four_val h0 (by omega),four_length]
  rfl
theorem put_same {lo rg lo0 rg0 clo chi ctot : Int} {out out0 : List Int} (ho : coder_own.f lo0 rg0 out0=some (lo,rg,out)) (he : EOk lo rg out) :
    ∃ lo' rg' out' e,(∀ k,5000≤k→coder_Put.f k lo0 rg0 out0 clo chi ctot=some (lo',rg',out',e))∧EOk lo' rg' out'∧(∀ k,5000≤k→psalteryref05_Put.f k rg (out ++ four lo) clo chi ctot=some (rg',out' ++ four lo',e)) ∧
      (e≠0→lo' = lo∧rg' = rg∧out' = out)∧(e=0 ↔ Fair clo chi ctot∧out.length < 3996)∧0≤e∧e≤3:=by
  have hlen : (out ++ four lo).length=out.length+4:=by simp [four]
  by_cases hf : Fair clo chi ctot
  · by_cases hl : out.length < 3996
    · obtain ⟨lo',out',a,b,c,d⟩:=put_ok ho he hf hl
      obtain ⟨a0,b0,c0,d0,e0,f0⟩:=he
      obtain ⟨all',a',b',c',d'⟩:=refPut_ok c0 d0 (e0.append (four_bytes lo)) hf (by omega)
      refine ⟨lo',_,out',0,a,b,fun k hk => ?_,fun h=>absurd rfl h,by simp [hf,hl],by decide,by decide⟩
      rw [a' k hk]
      have : all' = out' ++ four lo' := by
        refine val_inj b' (b.2.2.2.2.1.append (four_bytes _)) (by rw [c',hlen,List.length_append,four_length,c];omega) ?_
        rw [d',num_val lo' out' b.1 b.2.1,d,num_val lo out a0 b0,hlen,pw_add]
        rw [show pw 4=4294967296 from rfl,Int.mul_comm (pw out.length)]
      rw [this]
    · exact ⟨lo,rg,out,3,fun k _=>put_full k ho hf (by omega),he,fun k _=>refPut_full k hf (by omega),fun _=>⟨rfl,rfl,rfl⟩,by simp [hl],by decide,by decide⟩
  · exact ⟨lo,rg,out,1,fun k _=>put_bad k ho hf,he,fun k _=>refPut_bad k hf,fun _=>⟨rfl,rfl,rfl⟩,by simp [hf],by decide,by decide⟩
theorem finish_ok {lo rg : Int} {out : List Int} (h : EOk lo rg out) : coder_Finish.f lo rg out=some (out ++ four lo):=by
  unfold coder_Finish.f
  rw [own_ok h]
  simp only [Option.bind_some]
  rw [if_pos (by have:=h.2.2.2.2.2;simp;omega)]
  rfl
end Go.Proofs.Ytkaoiblgfpphoaa.Cod
/- The decoder, the program's and the document's. -/
namespace Go.Proofs.Ytkaoiblgfpphoaa.Cod
open Go.RowKit Go.Proofs.YtkaoiblgfpphoaaW.PrintWords Go.Proofs.YtkaoiblgfpphoaaW.PrintMore Go.Proofs.Ytkaoiblgfpphoaa.Prt Go.Proofs.Ytkaoiblgfpphoaa.Val
set_option linter.unusedVariables false

theorem rd_out (l : List Int) (i : Int) (h : (l.length : Int)≤i) : rd l i=0:=by
  unfold Go.Proofs.YtkaoiblgfpphoaaW.PrintWords.rd
  rw [List.getD_eq_getElem?_getD,List.getElem?_eq_none (by omega)]
  rfl
def DOk (code rg at_ : Int) : Prop:=0≤code∧code≤4294967295∧16777216≤rg∧rg≤4294967295∧0≤at_∧at_≤9223372036854775807
theorem at_f {l : List Int} (hb : Bytes l) {i : Int} (h : 0≤i) : coder_at.f l i=some (rd l i):=by
  have hr:=hb.rd i
  unfold coder_at.f
  by_cases h1 : i ≥ (l.length : Int)
  · rw [if_pos h1,rd_out l i (by omega)]
  · rw [if_neg h1,if_pos h,if_pos (by omega),u64w (by omega) (by omega)]
def head4 (l : List Int) : Int:=rd l 0 * 16777216+rd l 1 * 65536+rd l 2 * 256+rd l 3
theorem open_f {l : List Int} (hb : Bytes l) : coder_Open.f l=some (head4 l,4294967295,l,4):=by
  have h0:=hb.rd 0
  have h1:=hb.rd 1
  have h2:=hb.rd 2
  have h3:=hb.rd 3
  unfold coder_Open.f
  rw [at_f hb (by decide),Option.bind_some,at_f hb (by decide),Option.bind_some,at_f hb (by decide),Option.bind_some,at_f hb (by decide),Option.bind_some]
  rw [u64w (by omega) (by omega),u64w (by omega) (by omega),u64w (by omega) (by omega),or24 (x:=rd l 0 * 16777216) (y:=rd l 1 * 65536) (by omega) (by omega) (by omega) (by omega) (by omega),or16 (x:=rd l 0 * 16777216+rd l 1 * 65536) (y:=rd l 2 * 256) (by omega) (by omega) (by omega) (by omega) (by omega),or8 (by omega) (by omega) (by omega) (by omega) (by omega)]
  rfl
theorem rightDec_f (code rg at_ : Int) (l : List Int) : coder_RightDec.f code rg l at_=some (decide (code≤4294967295∧16777216≤rg∧0≤at_)):=by
  unfold coder_RightDec.f
  grind
theorem good_ok {code rg at_ : Int} {l : List Int} (h : DOk code rg at_) : coder_good.f code rg l at_=some (code,rg,l,at_):=by
  obtain ⟨a,b,c,d,e,f⟩:=h
  unfold coder_good.f
  rw [rightDec_f,Option.bind_some,if_pos (by simp;omega)]
def gt (code rg tot : Int) : Int:=if code / (rg / tot) > tot - 1 then tot - 1 else code / (rg / tot)
theorem get_pre {rg tot : Int} (c : 16777216≤rg) (h0 : 1≤tot) (h1 : tot≤65536) : 256≤rg / tot∧rg / tot≤rg:=by
  have a : 256≤rg / tot:=by rw [Int.le_ediv_iff_mul_le (by omega)];omega
  exact ⟨a,Int.ediv_le_self _ (by omega)⟩
theorem gt_bound {code rg tot : Int} (a : 0≤code) (c : 16777216≤rg) (h0 : 1≤tot) (h1 : tot≤65536) : 0≤gt code rg tot∧gt code rg tot < tot:=by
  have h:=get_pre c h0 h1
  have h2 : 0≤code / (rg / tot):=Int.ediv_nonneg a (by omega)
  unfold gt
  split <;> omega
theorem get_ok {code0 rg0 at0 code rg at_ tot : Int} {l0 l : List Int} (hg : coder_good.f code0 rg0 l0 at0=some (code,rg,l,at_)) (h : DOk code rg at_) (h0 : 1≤tot) (h1 : tot≤65536) : coder_Get.f code0 rg0 l0 at0 tot=some (gt code rg tot,0):=by
  obtain ⟨a,b,c,d,e,f⟩:=h
  have hp:=get_pre c h0 h1
  have h2 : 0≤code / (rg / tot):=Int.ediv_nonneg a (by omega)
  have h3 : code / (rg / tot)≤code:=Int.ediv_le_self _ a
  unfold coder_Get.f
  rw [hg,Option.bind_some]
  dsimp only
  rw [if_neg (by omega),if_neg (by omega),show tot % 4294967296=tot by omega,if_neg (by omega),tdiv_nn (by omega : (0 : Int)≤rg)]
  unfold gt
  generalize rg / tot=r at *
  rw [show r % 4294967296=r by omega,if_neg (by omega),tdiv_nn a]
  generalize code / r=q at *
  rw [u64w (by omega) (by omega),i64w (by omega) (by omega),i64w (by omega) (by omega)]
  unfold num_Clamp.f
  rw [if_neg (by omega)]
  split <;> rfl
def dn (l : List Int) : Nat→Int × Int→Int × Int
  | 0,s=>s
  | m+1,s=>dn l m (s.1 * 256 % 4294967296+rd l s.2,if s.2 < (l.length : Int) then s.2+1 else s.2)
theorem dn_bound {l : List Int} (hb : Bytes l) : ∀ (m : Nat) (s : Int × Int),0≤s.1→s.1≤4294967295→0≤s.2→s.2≤9223372036854775807→l.length≤9000 →
    0≤(dn l m s).1∧(dn l m s).1≤4294967295∧0≤(dn l m s).2∧(dn l m s).2≤9223372036854775807
  | 0,s,a,b,c,d,_=>⟨a,b,c,d⟩
  | m+1,s,a,b,c,d,hl=>by
    have hr:=hb.rd s.2
    refine dn_bound hb m _ ?_ ?_ ?_ ?_ hl <;> dsimp only
    · omega
    · omega
    · split <;> omega
    · split <;> omega
theorem take_l0 {l : List Int} (hb : Bytes l) (hl : l.length≤9000) (rg : Int) : ∀ (m : Nat) (r : Int) (s : Int × Int) (k : Nat),0 < r→16777216≤r * pw m→r * pw m≤4294967295→(∀ j,j < m→r * pw j < 16777216)→0≤s.1→s.1≤4294967295→0≤s.2→s.2≤9223372036854775807→m < k →
    coder_Take.l0 k r s.1 rg l s.2=some ((dn l m s).1,r * pw m,l,(dn l m s).2,0)
  | 0,r,s,k,h0,h1,h1',h2,a,b,c,d,hk=>by
    obtain ⟨k,rfl⟩ : ∃ m,k=m+1:=⟨k - 1,by omega⟩
    rw [pw_zero] at h1
    simp only [coder_Take.l0]
    rw [if_neg (by omega),pw_zero,Int.mul_one]
    rfl
  | m+1,r,s,k,h0,h1,h1',h2,a,b,c,d,hk=>by
    obtain ⟨k,rfl⟩ : ∃ m,k=m+1:=⟨k - 1,by omega⟩
    have h3:=h2 0 (by omega)
    rw [pw_zero] at h3
    have hr:=hb.rd s.2
    have e : ∀ j,r * 256 * pw j=r * pw (j+1):=fun j=>by rw [pw_succ,Int.mul_assoc]
    simp only [coder_Take.l0]
    rw [if_pos (by omega),at_f hb c,Option.bind_some,u64w (x:=s.1 * 256) (by omega) (by omega),and32 (by omega) (by omega),or8 (by omega) (by omega) (by omega) (by omega) (by omega),Int.emod_eq_of_lt (a:=r * 256) (by omega) (by omega)]
    have ih:=fun (a2 : Int) (ha : 0≤a2) (hb2 : a2≤9223372036854775807)=>take_l0 hb hl rg m (r * 256) (s.1 * 256 % 4294967296+rd l s.2,a2) k (by omega) (by rw [e];exact h1) (by rw [e];exact h1') (fun j hj=>by rw [e];exact h2 (j+1) (by omega)) (by dsimp only;omega) (by dsimp only;omega) ha hb2 (by omega)
    by_cases h4 : s.2 < (l.length : Int)
    · rw [if_pos h4,i64w (by omega) (by omega),ih (s.2+1) (by omega) (by omega),e]
      simp only [dn,if_pos h4]
    · rw [if_neg h4,ih s.2 c d,e]
      simp only [dn,if_neg h4]
def tk (l : List Int) (code rg at_ lo hi tot : Int) : Int × Int × Int :=
  let p:=prt rg lo hi tot
  let s:=dn l (mOf p.1) (code - (if p.2 < code then p.2 else code),at_)
  (s.1,p.1 * pw (mOf p.1),s.2)
theorem tk_ok {l : List Int} {code rg at_ lo hi tot : Int} (hb : Bytes l) (hl : l.length≤9000) (h : DOk code rg at_) (hf : Fair lo hi tot) : DOk (tk l code rg at_ lo hi tot).1 (tk l code rg at_ lo hi tot).2.1 (tk l code rg at_ lo hi tot).2.2:=by
  obtain ⟨a,b,c,d,e,f⟩:=h
  obtain ⟨p1,p2,p3⟩:=prt_facts c d hf
  obtain ⟨m1,m2,m3⟩:=mOf_range p1 (by omega)
  obtain ⟨d1,d2,d3,d4⟩:=dn_bound hb (mOf (prt rg lo hi tot).1) (code - (if (prt rg lo hi tot).2 < code then (prt rg lo hi tot).2 else code),at_) (by dsimp only;split <;> omega) (by dsimp only;split <;> omega) e f hl
  exact ⟨d1,d2,m1,m2,d3,d4⟩
theorem take_ok {code0 rg0 at0 code rg at_ lo hi tot : Int} {l0 l : List Int} (hg : coder_good.f code0 rg0 l0 at0=some (code,rg,l,at_)) (h : DOk code rg at_) (hb : Bytes l) (hl : l.length≤9000) (hf : Fair lo hi tot) (k : Nat) (hk : 4≤k) :
    coder_Take.f k code0 rg0 l0 at0 lo hi tot=some ((tk l code rg at_ lo hi tot).1,(tk l code rg at_ lo hi tot).2.1,l,(tk l code rg at_ lo hi tot).2.2,0):=by
  obtain ⟨a,b,c,d,e,f⟩:=h
  obtain ⟨p1,p2,p3⟩:=prt_facts c d hf
  have hpart:=part_f c d hf
  unfold coder_Take.f tk
  rw [hg,Option.bind_some]
  dsimp only
  rw [fair_f,Option.bind_some,if_pos (by simpa using hf),hpart,Option.bind_some]
  generalize prt rg lo hi tot=p at *
  obtain ⟨r,s⟩:=p
  dsimp only at *
  obtain ⟨m1,m2,m3⟩:=mOf_range p1 (by omega)
  have e1 : IntKind.u64.wrap (code - mn code s)=code - (if s < code then s else code):=by
    unfold mn
    split <;> exact u64w (by omega) (by omega)
  rw [e1]
  exact take_l0 hb hl rg (mOf r) r (code - (if s < code then s else code),at_) k (by omega) m1 m2 (mOf_least p1) (by dsimp only;split <;> omega) (by dsimp only;split <;> omega) e f (by omega)
end Go.Proofs.Ytkaoiblgfpphoaa.Cod
/- What was put is taken: the decoder's code is the bytes' number less the encoder's, choice by choice. -/
namespace Go.Proofs.Ytkaoiblgfpphoaa.Cod
open Go.RowKit Go.Proofs.YtkaoiblgfpphoaaW.PrintWords Go.Proofs.Ytkaoiblgfpphoaa.Prt Go.Proofs.Ytkaoiblgfpphoaa.Val
set_option linter.unusedVariables false
abbrev E3:=Int × Int × List Int
def E3.ok (e : E3) : Prop:=EOk e.1 e.2.1 e.2.2
def E3.num (e : E3) : Int:=Cod.num e.1 e.2.2
def E3.len (e : E3) : Nat:=e.2.2.length
structure St (e e' : E3) (lo hi tot : Int) : Prop where
  fair : Cod.Fair lo hi tot
  ok : e'.ok
  rg : e'.2.1=(prt e.2.1 lo hi tot).1 * pw (mOf (prt e.2.1 lo hi tot).1)
  len : e'.len=e.len+mOf (prt e.2.1 lo hi tot).1
  num : e'.num=(e.num+(prt e.2.1 lo hi tot).2) * pw (mOf (prt e.2.1 lo hi tot).1)
def Nov (e : E3) : Prop:=e.num+e.2.1≤4294967296 * pw e.len
structure Ext (F : List Int) (e : E3) : Prop where
  len : e.len+4≤F.length
  low : e.num≤val (F.take (e.len+4))
  high : val (F.take (e.len+4)) < e.num+e.2.1
def Cd (F : List Int) (e : E3) : Int:=val (F.take (e.len+4)) - e.num
theorem new_e : E3.ok (0,4294967295, []):=new_ok
theorem new_nov : Nov (0,4294967295, []):=by unfold Nov E3.num E3.len Cod.num;decide
theorem st_of_put {e : E3} (he : e.ok) (hn : Nov e) {lo hi tot : Int} (hf : Cod.Fair lo hi tot) (hl : e.len < 3996) :
    ∃ e' : E3,(∀ k,5000≤k→coder_Put.f k e.1 e.2.1 e.2.2 lo hi tot=some (e'.1,e'.2.1,e'.2.2,0))∧St e e' lo hi tot∧Nov e' := by
  obtain ⟨lo',out',a,b,c,d⟩:=put_ok (own_ok he) he hf hl
  have hp:=prt_facts he.2.2.1 he.2.2.2.1 hf
  have hv:=val_bound he.2.2.2.2.1
  have h0 : 0≤e.num:=by unfold E3.num Cod.num;have:=he.1;omega
  unfold Nov at hn
  have e1 : (Cod.num e.1 e.2.2+(prt e.2.1 lo hi tot).2) % (4294967296 * pw e.2.2.length)=Cod.num e.1 e.2.2+(prt e.2.1 lo hi tot).2 :=
    Int.emod_eq_of_lt (by unfold E3.num at h0;omega) (by unfold E3.num E3.len at *; omega)
  rw [e1] at d
  refine ⟨(lo',_,out'),a,⟨hf,b,rfl,c,d⟩, ?_⟩
  unfold Nov
  show Cod.num lo' out' + _≤4294967296 * pw out'.length
  rw [d,c,pw_add, ← Int.mul_assoc, ← Int.add_mul]
  refine Int.mul_le_mul_of_nonneg_right ?_ (Int.le_of_lt (pw_pos _))
  unfold E3.num E3.len at *; omega
theorem take_more {F : List Int} {n : Nat} (h : n < F.length) : F.take (n+1)=F.take n ++ [rd F n]:=by
  rw [List.take_succ_eq_append_getElem h]
  unfold Go.Proofs.YtkaoiblgfpphoaaW.PrintWords.rd
  simp [List.getD_eq_getElem?_getD,List.getElem?_eq_getElem h]
theorem val_more {F : List Int} {n : Nat} (h : n < F.length) : val (F.take (n+1))=val (F.take n) * 256+rd F n:=by rw [take_more h,val_snoc]
theorem val_between {F : List Int} (hb : Bytes F) : ∀ (m n : Nat),n+m≤F.length→val (F.take n) * pw m≤val (F.take (n+m))∧val (F.take (n+m)) < (val (F.take n)+1) * pw m
  | 0,n,_=>by rw [pw_zero];simp;omega
  | m+1,n,h=>by
    have ih:=val_between hb m n (by omega)
    have hr:=hb.rd ((n+m : Nat) : Int)
    rw [← Nat.add_assoc,val_more (by omega),pw_succ,show val (F.take n) * (256 * pw m)=val (F.take n) * pw m * 256 by rw [Int.mul_assoc,Int.mul_comm 256],show (val (F.take n)+1) * (256 * pw m)=(val (F.take n)+1) * pw m * 256 by rw [Int.mul_assoc,Int.mul_comm 256]]
    omega
theorem ext_back {F : List Int} {e e' : E3} {lo hi tot : Int} (he : e.ok) (hs : St e e' lo hi tot) (hb : Bytes F) (hx : Ext F e') :
    Ext F e∧(prt e.2.1 lo hi tot).2≤Cd F e∧Cd F e < (prt e.2.1 lo hi tot).2+(prt e.2.1 lo hi tot).1:=by
  obtain ⟨h1,h2,h3⟩:=hx
  have hp:=prt_facts he.2.2.1 he.2.2.2.1 hs.fair
  rw [hs.len] at h1 h2 h3
  rw [hs.num] at h2 h3
  rw [hs.rg, ← Int.add_mul] at h3
  generalize prt e.2.1 lo hi tot=p at *
  obtain ⟨r,s⟩:=p
  dsimp only at *
  generalize mOf r=m at *
  have hw:=val_between hb m (e.len+4) (by omega)
  rw [show e.len+m+4=e.len+4+m by omega] at h2 h3
  have pm:=pw_pos m
  have g1 : e.num+s < val (F.take (e.len+4))+1:=Int.lt_of_mul_lt_mul_right (Int.lt_of_le_of_lt h2 hw.2) (Int.le_of_lt pm)
  have g2 : val (F.take (e.len+4)) < e.num+s+r:=Int.lt_of_mul_lt_mul_right (Int.lt_of_le_of_lt hw.1 h3) (Int.le_of_lt pm)
  exact ⟨⟨by omega,by omega,by omega⟩,by unfold Cd;omega,by unfold Cd;omega⟩
theorem dn_eq {F : List Int} (hb : Bytes F) : ∀ (m : Nat) (c r : Int) (L : Nat),0≤c→c < r→(∀ j,j < m→r * pw j < 16777216)→L+m≤F.length →
    dn F m (c,(L : Int))=(c * pw m+(val (F.take (L+m)) - val (F.take L) * pw m),((L+m : Nat) : Int))
  | 0,c,r,L,h0,h1,h2,h3=>by simp only [dn];rw [pw_zero,Nat.add_zero];congr 1;omega
  | m+1,c,r,L,h0,h1,h2,h3=>by
    have hr:=hb.rd (L : Int)
    have hz:=h2 0 (by omega)
    rw [pw_zero] at hz
    simp only [dn]
    rw [if_pos (by omega),show (L : Int)+1=((L+1 : Nat) : Int) by omega,Int.emod_eq_of_lt (by omega) (by omega),dn_eq hb m (c * 256+rd F L) (r * 256) (L+1) (by omega) (by omega) (fun j hj=>by have:=h2 (j+1) (by omega);rw [pw_succ, ← Int.mul_assoc] at this;exact this) (by omega)]
    rw [val_more (by omega),show L+1+m=L+(m+1) by omega,pw_succ]
    congr 1
    generalize pw m=q
    generalize val (F.take L)=y
    generalize val (F.take (L+(m+1)))=z
    generalize rd F L=x
    rw [Int.add_mul,Int.add_mul,Int.mul_assoc,Int.mul_assoc];omega
theorem tk_eq {F : List Int} {e e' : E3} {lo hi tot : Int} (he : e.ok) (hs : St e e' lo hi tot) (hb : Bytes F) (hx : Ext F e') :
    tk F (Cd F e) e.2.1 ((e.len+4 : Nat) : Int) lo hi tot=(Cd F e',e'.2.1,((e'.len+4 : Nat) : Int)):=by
  obtain ⟨_,g1,g2⟩:=ext_back he hs hb hx
  have h1:=hx.len
  have hp:=prt_facts he.2.2.1 he.2.2.2.1 hs.fair
  have hl:=mOf_least hp.1
  unfold tk
  rw [hs.len] at h1
  have n1:=hs.num
  have n2:=hs.len
  have n3:=hs.rg
  generalize prt e.2.1 lo hi tot=p at *
  obtain ⟨r,s⟩:=p
  dsimp only at *
  rw [show (if s < Cd F e then s else Cd F e)=s by split <;> omega,dn_eq hb (mOf r) (Cd F e - s) r (e.len+4) (by omega) (by omega) hl (by omega)]
  dsimp only
  rw [n3]
  generalize mOf r=m at *
  refine Prod.ext ?_ (Prod.ext rfl ?_)
  · show _=val (F.take (e'.len+4)) - e'.num
    rw [n1,n2,show e.len+m+4=e.len+4+m by omega]
    unfold Cd
    rw [Int.sub_mul,Int.sub_mul,Int.add_mul];omega
  · show ((e.len+4+m : Nat) : Int)=((e'.len+4 : Nat) : Int)
    rw [n2];omega
theorem cd_ok {F : List Int} {e : E3} (he : e.ok) (hx : Ext F e) (hl : F.length≤9000) : DOk (Cd F e) e.2.1 ((e.len+4 : Nat) : Int):=by
  obtain ⟨a,b,c,d,f,g⟩:=he
  obtain ⟨h1,h2,h3⟩:=hx
  unfold DOk Cd;omega
theorem gt_in {rg lo hi tot code : Int} (c : 16777216≤rg) (d : rg≤4294967295) (hf : Cod.Fair lo hi tot) (h1 : (prt rg lo hi tot).2≤code) (h2 : code < (prt rg lo hi tot).2+(prt rg lo hi tot).1) : lo≤gt code rg tot∧gt code rg tot < hi:=by
  obtain ⟨e1,e2,e3,e4,e5,e6,e7⟩:=div_facts c d hf
  obtain ⟨f1,f2,f3,f4⟩:=hf
  unfold prt at h1 h2
  unfold gt
  dsimp only at h1 h2
  generalize rg / tot=q at *
  have g1 : lo≤code / q:=by rw [Int.le_ediv_iff_mul_le (by omega),Int.mul_comm];exact h1
  by_cases hh : hi=tot
  · split <;> omega
  · rw [if_neg hh] at h2
    have g2 : code / q < hi:=by rw [Int.ediv_lt_iff_lt_mul (by omega),Int.mul_comm];omega
    split <;> omega
inductive Run : E3→List (Int × Int × Int)→E3→Prop
  | nil (e : E3) : Run e [] e
  | cons {e e' e'' : E3} {lo hi tot : Int} {cs : List (Int × Int × Int)} : St e e' lo hi tot→Run e' cs e''→Run e ((lo,hi,tot) :: cs) e''
theorem Run.append {e e' e'' : E3} {cs ds : List (Int × Int × Int)} (h : Run e cs e') (k : Run e' ds e'') : Run e (cs ++ ds) e'' := by
  induction h with
  | nil=>exact k
  | cons s _ ih=>exact .cons s (ih k)
theorem Run.ok {e e' : E3} {cs : List (Int × Int × Int)} (h : Run e cs e') (he : e.ok) : e'.ok:=by
  induction h with
  | nil=>exact he
  | cons s _ ih=>exact ih s.ok
theorem Run.ext {e e' : E3} {cs : List (Int × Int × Int)} (h : Run e cs e') (he : e.ok) {F : List Int} (hb : Bytes F) (hx : Ext F e') : Ext F e:=by
  induction h with
  | nil=>exact hx
  | cons s _ ih=>exact (ext_back he s hb (ih s.ok hx)).1
def all (e : E3) : List Int:=e.2.2 ++ four e.1
theorem all_bytes {e : E3} (he : e.ok) : Bytes (all e):=he.2.2.2.2.1.append (four_bytes _)
theorem all_len {e : E3} (he : e.ok) : (all e).length=e.len+4:=by unfold all E3.len;simp [four]
theorem all_le {e : E3} (he : e.ok) : (all e).length≤9000:=by rw [all_len he];have:=he.2.2.2.2.2;unfold E3.len;omega
theorem all_ext {e : E3} (he : e.ok) : Ext (all e) e:=by
  have hl:=all_len he
  have hv : val (all e)=e.num:=num_val e.1 e.2.2 he.1 he.2.1
  refine ⟨by omega, ?_, ?_⟩
  · rw [List.take_of_length_le (by omega),hv];exact Int.le_refl _
  · rw [List.take_of_length_le (by omega),hv]
    have:=he.2.2.1
    omega
theorem open_cd {F : List Int} (hb : Bytes F) (hx : Ext F (0,4294967295, [])) : head4 F=Cd F (0,4294967295, []):=by
  have h : 4≤F.length:=by have:=hx.len;unfold E3.len at this;simpa using this
  unfold Cd E3.len E3.num Cod.num
  show head4 F=val (F.take 4) - (val [] * 4294967296+0)
  rw [val_nil,val_more (n:=3) (by omega),val_more (n:=2) (by omega),val_more (n:=1) (by omega),val_more (n:=0) (by omega)]
  rw [show rd F ((3 : Nat) : Int)=rd F 3 from rfl,show rd F ((2 : Nat) : Int)=rd F 2 from rfl,show rd F ((1 : Nat) : Int)=rd F 1 from rfl,show rd F ((0 : Nat) : Int)=rd F 0 from rfl]
  unfold head4
  simp only [List.take_zero,val_nil]
  omega
end Go.Proofs.Ytkaoiblgfpphoaa.Cod
/- Numbers: put and taken as one choice, or two. -/
namespace Go.Proofs.Ytkaoiblgfpphoaa.Cod
open Go.RowKit Go.Proofs.YtkaoiblgfpphoaaW.PrintWords Go.Proofs.YtkaoiblgfpphoaaW.PrintMore Go.Proofs.Ytkaoiblgfpphoaa.Prt Go.Proofs.Ytkaoiblgfpphoaa.Val
set_option linter.unusedVariables false
def half1 (n : Int) : Int:=(n - 1) / 65536+1
theorem halves_small {n : Int} (h0 : 1≤n) (h : n≤65536) : coder_halves.f n=some (n,1):=by
  unfold coder_halves.f
  rw [if_pos h,i64w (by omega) (by omega)]
theorem halves_great {n : Int} (h : 65536 < n) (h1 : n≤4294967296) : coder_halves.f n=some (half1 n,65536):=by
  unfold coder_halves.f half1
  rw [if_neg (by omega),u64w (x:=n - 1) (by omega) (by omega),tdiv_nn (by omega),u64w (by omega) (by omega),i64w (x:=(n - 1) / 65536) (by omega) (by omega),i64w (by omega) (by omega)]
theorem fair_small {v n : Int} (h0 : 0≤v) (h1 : v < n) (h2 : n≤65536) : Cod.Fair v (v+1) n:=⟨h0,by omega,by omega,h2⟩
theorem fair_high {v n : Int} (h0 : 0≤v) (h1 : v < n) (h2 : n≤4294967296) : Cod.Fair (v / 65536) (v / 65536+1) (half1 n):=by unfold half1;exact ⟨by omega,by omega,by omega,by omega⟩
theorem fair_low (v : Int) : Cod.Fair (v % 65536) (v % 65536+1) 65536:=⟨by omega,by omega,by omega,by omega⟩
section
variable {lo0 rg0 lo rg : Int} {out0 out : List Int} (ho : coder_own.f lo0 rg0 out0=some (lo,rg,out))
include ho
theorem putNum_bad {v n : Int} (h : n < 1∨4294967296 < n∨n≤v) (k : Nat) (hk : 2≤k) : coder_PutNum.f k lo0 rg0 out0 v n=some (lo,rg,out,1):=by
  obtain ⟨k,rfl⟩ : ∃ m,k=m+1:=⟨k - 1,by omega⟩
  have e : coder_PutNum.j0 (k+1) v n true lo rg out=some (lo,rg,out,1):=by simp only [coder_PutNum.j0, ↓reduceIte]
  unfold coder_PutNum.f
  rw [ho,Option.bind_some]
  dsimp only
  by_cases h1 : n < 1
  · rw [if_pos h1,e]
  · rw [if_neg h1]
    by_cases h2 : n > 4294967296
    · rw [if_pos h2,e]
    · rw [if_neg h2,show decide (v ≥ n)=true by simp;omega,e]
theorem putNum_pre {v n : Int} (h0 : 0≤v) (h1 : v < n) (h2 : n≤4294967296) (k : Nat) : coder_PutNum.f k lo0 rg0 out0 v n=coder_PutNum.j0 k v n false lo rg out:=by
  unfold coder_PutNum.f
  rw [ho,Option.bind_some]
  dsimp only
  rw [if_neg (by omega),if_neg (by omega),show decide (v ≥ n)=false by simp;omega]
theorem putNum_small {v n lo1 rg1 e1 : Int} {out1 : List Int} (h0 : 0≤v) (h1 : v < n) (h2 : n≤65536) (hp : ∀ k,5000≤k→coder_Put.f k lo rg out v (v+1) n=some (lo1,rg1,out1,e1)) (k : Nat) (hk : 5010≤k) :
    coder_PutNum.f k lo0 rg0 out0 v n=if e1=0 then some (lo1,rg1,out1,0) else some (lo,rg,out,e1):=by
  rw [putNum_pre ho h0 h1 (by omega)]
  obtain ⟨k,rfl⟩ : ∃ m,k=m+2:=⟨k - 2,by omega⟩
  simp only [coder_PutNum.j0,halves_small (show 1≤n by omega) h2,Option.bind_some]
  rw [if_neg (by simp),if_neg (by decide),i64w (x:=v) (by omega) (by omega),Int.tdiv_one,i64w (x:=v) (by omega) (by omega),i64w (by omega) (by omega),hp _ (by omega),Option.bind_some]
  dsimp only
  by_cases h : e1=0
  · rw [if_pos h,if_pos h]
    simp only [coder_PutNum.j1]
    rw [if_neg (by simp),if_pos h]
  · rw [if_neg h,if_neg h]
    simp only [coder_PutNum.j1]
    rw [if_neg (by decide),if_neg h]
theorem putNum_great1 {v n lo1 rg1 e1 : Int} {out1 : List Int} (h0 : 0≤v) (h1 : v < n) (h2 : 65536 < n) (h3 : n≤4294967296) (hp : ∀ k,5000≤k→coder_Put.f k lo rg out (v / 65536) (v / 65536+1) (half1 n)=some (lo1,rg1,out1,e1)) (he : e1≠0) (k : Nat) (hk : 5010≤k) :
    coder_PutNum.f k lo0 rg0 out0 v n=some (lo,rg,out,e1):=by
  rw [putNum_pre ho h0 h1 h3]
  obtain ⟨k,rfl⟩ : ∃ m,k=m+2:=⟨k - 2,by omega⟩
  simp only [coder_PutNum.j0,halves_great h2 h3,Option.bind_some]
  rw [if_neg (by simp),if_neg (by decide),i64w (x:=v) (by omega) (by omega),tdiv_nn h0,i64w (x:=v / 65536) (by omega) (by omega),i64w (by omega) (by omega),hp _ (by omega),Option.bind_some]
  dsimp only
  rw [if_neg he]
  simp only [coder_PutNum.j1]
  rw [if_neg (by decide),if_neg he]
theorem putNum_great2 {v n lo1 rg1 lo2 rg2 e2 : Int} {out1 out2 : List Int} (h0 : 0≤v) (h1 : v < n) (h2 : 65536 < n) (h3 : n≤4294967296) (hp : ∀ k,5000≤k→coder_Put.f k lo rg out (v / 65536) (v / 65536+1) (half1 n)=some (lo1,rg1,out1,0))
    (hq : ∀ k,5000≤k→coder_Put.f k lo1 rg1 out1 (v % 65536) (v % 65536+1) 65536=some (lo2,rg2,out2,e2)) (k : Nat) (hk : 5010≤k) :
    coder_PutNum.f k lo0 rg0 out0 v n=if e2=0 then some (lo2,rg2,out2,0) else some (lo,rg,out,e2):=by
  rw [putNum_pre ho h0 h1 h3]
  obtain ⟨k,rfl⟩ : ∃ m,k=m+2:=⟨k - 2,by omega⟩
  simp only [coder_PutNum.j0,halves_great h2 h3,Option.bind_some]
  rw [if_neg (by simp),if_neg (by decide),i64w (x:=v) (by omega) (by omega),tdiv_nn h0,i64w (x:=v / 65536) (by omega) (by omega),i64w (x:=v / 65536+1) (by omega) (by omega),hp _ (by omega),Option.bind_some]
  dsimp only
  rw [if_pos rfl,tmod_nn h0]
  simp only [coder_PutNum.j1]
  rw [if_pos (by simp),i64w (by omega) (by omega),hq _ (by omega),Option.bind_some]
end
theorem refPutNum_bad {rg v n : Int} {all : List Int} (h : n=0∨4294967296 < n∨n≤v) (k : Nat) (hk : 2≤k) : psalteryref05_PutNum.f k rg all v n=some (rg,all,1):=by
  obtain ⟨k,rfl⟩ : ∃ m,k=m+1:=⟨k - 1,by omega⟩
  have e : psalteryref05_PutNum.j0 (k+1) v n true rg all=some (rg,all,1):=by simp only [psalteryref05_PutNum.j0, ↓reduceIte]
  unfold psalteryref05_PutNum.f
  by_cases h1 : n=0
  · rw [if_pos h1,e]
  · rw [if_neg h1]
    by_cases h2 : n > 4294967296
    · rw [if_pos h2,e]
    · rw [if_neg h2,show decide (v ≥ n)=true by simp;omega,e]
theorem refPutNum_pre {rg v n : Int} {all : List Int} (h0 : 0≤v) (h1 : v < n) (h2 : n≤4294967296) (k : Nat) : psalteryref05_PutNum.f k rg all v n=psalteryref05_PutNum.j0 k v n false rg all:=by
  unfold psalteryref05_PutNum.f
  rw [if_neg (by omega),if_neg (by omega),show decide (v ≥ n)=false by simp;omega]
theorem refPutNum_small {rg v n rg1 e1 : Int} {all all1 : List Int} (h0 : 0≤v) (h1 : v < n) (h2 : n≤65536) (hp : ∀ k,5000≤k→psalteryref05_Put.f k rg all v (v+1) n=some (rg1,all1,e1)) (k : Nat) (hk : 5010≤k) :
    psalteryref05_PutNum.f k rg all v n=some (rg1,all1,e1):=by
  rw [refPutNum_pre h0 h1 (by omega)]
  obtain ⟨k,rfl⟩ : ∃ m,k=m+1:=⟨k - 1,by omega⟩
  simp only [psalteryref05_PutNum.j0]
  rw [if_neg (by simp),if_pos h2,i64w (x:=v) (by omega) (by omega),i64w (x:=v+1) (by omega) (by omega),i64w (x:=n) (by omega) (by omega),hp _ (by omega)]
  rfl
theorem refPutNum_great1 {rg v n rg1 e1 : Int} {all all1 : List Int} (h0 : 0≤v) (h1 : v < n) (h2 : 65536 < n) (h3 : n≤4294967296) (hp : ∀ k,5000≤k→psalteryref05_Put.f k rg all (v / 65536) (v / 65536+1) (half1 n)=some (rg1,all1,e1)) (he : e1≠0) (k : Nat) (hk : 5010≤k) :
    psalteryref05_PutNum.f k rg all v n=some (rg,all,e1):=by
  rw [refPutNum_pre h0 h1 h3]
  obtain ⟨k,rfl⟩ : ∃ m,k=m+1:=⟨k - 1,by omega⟩
  simp only [psalteryref05_PutNum.j0]
  unfold half1 at hp
  rw [if_neg (by simp),if_neg (by omega),tdiv_nn h0,u64w (x:=v / 65536) (by omega) (by omega),i64w (x:=v / 65536) (by omega) (by omega),i64w (x:=v / 65536+1) (by omega) (by omega),u64w (x:=n - 1) (by omega) (by omega),tdiv_nn (by omega),u64w (x:=(n - 1) / 65536) (by omega) (by omega),i64w (x:=(n - 1) / 65536) (by omega) (by omega),i64w (x:=(n - 1) / 65536+1) (by omega) (by omega),hp _ (by omega),Option.bind_some]
  dsimp only
  rw [if_neg he]
theorem refPutNum_great2 {rg v n rg1 rg2 e2 : Int} {all all1 all2 : List Int} (h0 : 0≤v) (h1 : v < n) (h2 : 65536 < n) (h3 : n≤4294967296) (hp : ∀ k,5000≤k→psalteryref05_Put.f k rg all (v / 65536) (v / 65536+1) (half1 n)=some (rg1,all1,0))
    (hq : ∀ k,5000≤k→psalteryref05_Put.f k rg1 all1 (v % 65536) (v % 65536+1) 65536=some (rg2,all2,e2)) (k : Nat) (hk : 5010≤k) :
    psalteryref05_PutNum.f k rg all v n=if e2=0 then some (rg2,all2,0) else some (rg,all,e2):=by
  rw [refPutNum_pre h0 h1 h3]
  obtain ⟨k,rfl⟩ : ∃ m,k=m+1:=⟨k - 1,by omega⟩
  simp only [psalteryref05_PutNum.j0]
  unfold half1 at hp
  rw [if_neg (by simp),if_neg (by omega),tdiv_nn h0,u64w (x:=v / 65536) (by omega) (by omega),i64w (x:=v / 65536) (by omega) (by omega),i64w (x:=v / 65536+1) (by omega) (by omega),u64w (x:=n - 1) (by omega) (by omega),tdiv_nn (by omega),u64w (x:=(n - 1) / 65536) (by omega) (by omega),i64w (x:=(n - 1) / 65536) (by omega) (by omega),i64w (x:=(n - 1) / 65536+1) (by omega) (by omega),hp _ (by omega),Option.bind_some]
  dsimp only
  rw [if_pos rfl,tmod_nn h0,i64w (x:=v % 65536) (by omega) (by omega),i64w (x:=v % 65536+1) (by omega) (by omega),hq _ (by omega),Option.bind_some]
theorem putNum_same {lo rg lo0 rg0 v n : Int} {out out0 : List Int} (ho : coder_own.f lo0 rg0 out0=some (lo,rg,out)) (he : EOk lo rg out) (hv : 0≤v) (hn : 0≤n) :
    ∃ lo' rg' out' e,(∀ k,5010≤k→coder_PutNum.f k lo0 rg0 out0 v n=some (lo',rg',out',e))∧EOk lo' rg' out'∧(∀ k,5010≤k→psalteryref05_PutNum.f k rg (out ++ four lo) v n=some (rg',out' ++ four lo',e))∧(e≠0→lo' = lo∧rg' = rg∧out' = out)∧0≤e∧e≤3:=by
  by_cases hb : n < 1∨4294967296 < n∨n≤v
  · exact ⟨lo,rg,out,1,fun k hk=>putNum_bad ho hb k (by omega),he,fun k hk=>refPutNum_bad (by omega) k (by omega),fun _=>⟨rfl,rfl,rfl⟩,by decide,by decide⟩
  · by_cases hs : n≤65536
    · obtain ⟨lo1,rg1,out1,e1,a,b,c,d,_,d0,d3⟩:=put_same (clo:=v) (chi:=v+1) (ctot:=n) (own_ok he) he
      by_cases h1 : e1=0
      · subst h1
        exact ⟨lo1,rg1,out1,0,fun k hk=>putNum_small ho hv (by omega) hs a k hk,b,fun k hk=>refPutNum_small hv (by omega) hs c k hk,fun h=>absurd rfl h,by decide,by decide⟩
      · obtain ⟨rfl,rfl,rfl⟩:=d h1
        exact ⟨lo1,rg1,out1,e1,fun k hk=>by rw [putNum_small ho hv (by omega) hs a k hk,if_neg h1],he,fun k hk=>refPutNum_small hv (by omega) hs c k hk,fun _=>⟨rfl,rfl,rfl⟩,d0,d3⟩
    · obtain ⟨lo1,rg1,out1,e1,a,b,c,d,_,d0,d3⟩:=put_same (clo:=v / 65536) (chi:=v / 65536+1) (ctot:=half1 n) (own_ok he) he
      by_cases h1 : e1=0
      · subst h1
        obtain ⟨lo2,rg2,out2,e2,a2,b2,c2,d2,_,d02,d32⟩:=put_same (clo:=v % 65536) (chi:=v % 65536+1) (ctot:=65536) (own_ok b) b
        by_cases h2 : e2=0
        · subst h2
          exact ⟨lo2,rg2,out2,0,fun k hk=>putNum_great2 ho hv (by omega) (by omega) (by omega) a a2 k hk,b2,fun k hk=>refPutNum_great2 hv (by omega) (by omega) (by omega) c c2 k hk,fun h=>absurd rfl h,by decide,by decide⟩
        · exact ⟨lo,rg,out,e2,fun k hk=>by rw [putNum_great2 ho hv (by omega) (by omega) (by omega) a a2 k hk,if_neg h2],he,fun k hk=>by rw [refPutNum_great2 hv (by omega) (by omega) (by omega) c c2 k hk,if_neg h2],fun _=>⟨rfl,rfl,rfl⟩,d02,d32⟩
      · exact ⟨lo,rg,out,e1,fun k hk=>putNum_great1 ho hv (by omega) (by omega) (by omega) a h1 k hk,he,fun k hk=>refPutNum_great1 hv (by omega) (by omega) (by omega) c h1 k hk,fun _=>⟨rfl,rfl,rfl⟩,d0,d3⟩
def tn (l : List Int) (code rg at_ n : Int) : Int × Int × Int × Int :=
  if n≤65536 then let g:=gt code rg n;let t:=tk l code rg at_ g (g+1) n;(t.1,t.2.1,t.2.2,g)
  else let g:=gt code rg (half1 n);let t:=tk l code rg at_ g (g+1) (half1 n);let m:=gt t.1 t.2.1 65536;let u:=tk l t.1 t.2.1 t.2.2 m (m+1) 65536
    (u.1,u.2.1,u.2.2,if n - 1 < g * 65536+m then n - 1 else g * 65536+m)
theorem gt_fair {code rg tot : Int} (a : 0≤code) (c : 16777216≤rg) (h0 : 1≤tot) (h1 : tot≤65536) : Cod.Fair (gt code rg tot) (gt code rg tot+1) tot:=by
  have:=gt_bound a c h0 h1
  exact ⟨by omega,by omega,by omega,h1⟩
theorem tn_ok {l : List Int} {code rg at_ n : Int} (hb : Bytes l) (hl : l.length≤9000) (h : DOk code rg at_) (h0 : 1≤n) (h1 : n≤4294967296) : DOk (tn l code rg at_ n).1 (tn l code rg at_ n).2.1 (tn l code rg at_ n).2.2.1∧0≤(tn l code rg at_ n).2.2.2∧(tn l code rg at_ n).2.2.2 < n:=by
  unfold tn
  split
  · have hg:=gt_bound (code:=code) h.1 h.2.2.1 h0 (by assumption)
    exact ⟨tk_ok hb hl h (gt_fair h.1 h.2.2.1 h0 (by assumption)),hg.1,hg.2⟩
  · have hh : 1≤half1 n∧half1 n≤65536:=by unfold half1;omega
    have hg:=gt_bound (code:=code) h.1 h.2.2.1 hh.1 hh.2
    have ht:=tk_ok hb hl h (gt_fair h.1 h.2.2.1 hh.1 hh.2)
    have hm:=gt_bound ht.1 ht.2.2.1 (show (1 : Int)≤65536 by decide) (by decide)
    refine ⟨tk_ok hb hl ht (gt_fair ht.1 ht.2.2.1 (by decide) (by decide)), ?_, ?_⟩
    · dsimp only;split <;> omega
    · dsimp only;split <;> omega
theorem takeNum_ok {code0 rg0 at0 code rg at_ n : Int} {l0 l : List Int} (hg : coder_good.f code0 rg0 l0 at0=some (code,rg,l,at_)) (h : DOk code rg at_) (hb : Bytes l) (hl : l.length≤9000) (h0 : 1≤n) (h1 : n≤4294967296) (k : Nat) (hk : 10≤k) :
    coder_TakeNum.f k code0 rg0 l0 at0 n=some ((tn l code rg at_ n).1,(tn l code rg at_ n).2.1,l,(tn l code rg at_ n).2.2.1,(tn l code rg at_ n).2.2.2,0):=by
  obtain ⟨k,rfl⟩ : ∃ m,k=m+1:=⟨k - 1,by omega⟩
  unfold coder_TakeNum.f tn
  rw [hg,Option.bind_some]
  dsimp only
  rw [if_neg (by omega),show decide (n > 4294967296)=false by simp;omega]
  simp only [coder_TakeNum.j0]
  rw [if_neg (by simp)]
  by_cases hs : n≤65536
  · have hgt:=gt_bound (code:=code) h.1 h.2.2.1 h0 hs
    have hf:=gt_fair (code:=code) h.1 h.2.2.1 h0 hs
    rw [halves_small h0 hs,Option.bind_some]
    dsimp only
    rw [get_ok (good_ok h) h h0 hs,Option.bind_some]
    dsimp only
    rw [i64w (x:=gt code rg n+1) (by omega) (by omega),take_ok (good_ok h) h hb hl hf k (by omega),Option.bind_some]
    dsimp only
    rw [if_neg (by decide),if_pos hs,u64w (x:=gt code rg n) (by omega) (by omega),u64w (x:=n - 1) (by omega) (by omega)]
    dsimp only
    have e : mn (gt code rg n) (n - 1)=gt code rg n:=by unfold mn;rw [if_neg (by omega)]
    rw [e]
  · have hh : 1≤half1 n∧half1 n≤65536:=by unfold half1;omega
    have hgt:=gt_bound (code:=code) h.1 h.2.2.1 hh.1 hh.2
    have hf:=gt_fair (code:=code) h.1 h.2.2.1 hh.1 hh.2
    have ht:=tk_ok (at_:=at_) hb hl h hf
    have hm:=gt_bound ht.1 ht.2.2.1 (show (1 : Int)≤65536 by decide) (by decide)
    have hf2:=gt_fair ht.1 ht.2.2.1 (show (1 : Int)≤65536 by decide) (by decide)
    rw [halves_great (by omega) h1,Option.bind_some]
    dsimp only
    rw [get_ok (good_ok h) h hh.1 hh.2,Option.bind_some]
    dsimp only
    rw [i64w (x:=gt code rg (half1 n)+1) (by omega) (by omega),take_ok (good_ok h) h hb hl hf k (by omega),Option.bind_some]
    dsimp only
    rw [if_pos (by decide),get_ok (good_ok ht) ht (by decide) (by decide),Option.bind_some]
    dsimp only
    rw [i64w (x:=gt _ _ 65536+1) (by omega) (by omega),take_ok (good_ok ht) ht hb hl hf2 k (by omega),Option.bind_some]
    dsimp only
    rw [if_neg hs,u64w (x:=gt code rg (half1 n)) (by omega) (by omega),u64w (x:=65536) (by decide) (by decide),u64w (x:=gt code rg (half1 n) * 65536) (by omega) (by omega),u64w (x:=gt _ _ 65536) (by omega) (by omega),u64w (x:=_+_) (by omega) (by omega),u64w (x:=n - 1) (by omega) (by omega)]
    rfl
end Go.Proofs.Ytkaoiblgfpphoaa.Cod
/- Gains taken: what the program and the document take, step by step; and what gains may be. -/
namespace Go.Proofs.Ytkaoiblgfpphoaa.Gan
open Go.RowKit Go.Proofs.YtkaoiblgfpphoaaW.PrintWords Go.Proofs.YtkaoiblgfpphoaaW.PrintMore Go.Proofs.Ytkaoiblgfpphoaa.Prt Go.Proofs.Ytkaoiblgfpphoaa.Val Go.Proofs.Ytkaoiblgfpphoaa.Cod
set_option linter.unusedVariables false
def rt (l : List Int) : Bool:=((l.length : Int) == 5) && l.all (fun x=>decide (0≤x∧x≤44))
theorem rt_len {l : List Int} (h : rt l=true) : l.length=5:=by simp [rt] at h;omega
theorem rt_rd {l : List Int} (h : rt l=true) (i : Int) : 0≤rd l i∧rd l i≤44:=by
  simp only [rt,Bool.and_eq_true,List.all_eq_true,decide_eq_true_eq] at h
  unfold Go.Proofs.YtkaoiblgfpphoaaW.PrintWords.rd
  rw [List.getD_eq_getElem?_getD]
  by_cases hi : i.toNat < l.length
  · rw [List.getElem?_eq_getElem hi];exact h.2 _ (List.getElem_mem hi)
  · rw [List.getElem?_eq_none (by omega)];exact ⟨by decide,by decide⟩
theorem drop_rd (l : List Int) (i : Nat) (h : i < l.length) : l.drop i=rd l (i : Int) :: l.drop (i+1):=by
  rw [List.drop_eq_getElem_cons h]
  unfold Go.Proofs.YtkaoiblgfpphoaaW.PrintWords.rd
  rw [List.getD_eq_getElem?_getD,Int.toNat_natCast,List.getElem?_eq_getElem h]
  rfl
theorem right_l0 (l : List Int) (hl : l.length≤9000) : ∀ (d i k : Nat),i+d=l.length→d < k→gain_Right.l0 k l l (l.length : Int) (i : Int)=some (((l.length : Int) == 5) && (l.drop i).all (fun x=>decide (0≤x∧x≤44)))
  | 0,i,k,hi,hk=>by
    obtain ⟨k,rfl⟩ : ∃ m,k=m+1:=⟨k - 1,by omega⟩
    simp only [gain_Right.l0]
    rw [if_neg (by omega),List.drop_eq_nil_of_le (by omega)]
    simp
  | d+1,i,k,hi,hk=>by
    obtain ⟨k,rfl⟩ : ∃ m,k=m+1:=⟨k - 1,by omega⟩
    simp only [gain_Right.l0]
    rw [if_pos (by omega),if_pos (by omega),if_pos (by omega),drop_rd l i (by omega),List.all_cons]
    by_cases h0 : rd l (i : Int) < 0
    · rw [if_pos h0,show decide (0≤rd l (i : Int)∧rd l (i : Int)≤44)=false by simp;omega]
      simp
    · rw [if_neg h0]
      by_cases h1 : rd l (i : Int) > 44
      · rw [if_pos h1,show decide (0≤rd l (i : Int)∧rd l (i : Int)≤44)=false by simp;omega]
        simp
      · rw [if_neg h1,i64w (by omega) (by omega),show decide (0≤rd l (i : Int)∧rd l (i : Int)≤44)=true by simp;omega,Bool.true_and]
        exact right_l0 l hl d (i+1) k (by omega) (by omega)
theorem right_ok (l : List Int) (hl : l.length≤9000) (k : Nat) (hk : l.length < k) : gain_Right.f k l=some (rt l):=right_l0 l hl l.length 0 k (by omega) hk
theorem refRight_l0 (l : List Int) (hl : l.length≤9000) : ∀ (d i k : Nat) (ok : Bool),i+d=l.length→d < k→psalteryref11_Right.l0 k l ok (i : Int)=some (ok && (l.drop i).all (fun x=>decide (0≤x∧x≤44)))
  | 0,i,k,ok,hi,hk=>by
    obtain ⟨k,rfl⟩ : ∃ m,k=m+1:=⟨k - 1,by omega⟩
    simp only [psalteryref11_Right.l0]
    rw [if_neg (by omega),List.drop_eq_nil_of_le (by omega)]
    simp
  | d+1,i,k,ok,hi,hk=>by
    obtain ⟨k,rfl⟩ : ∃ m,k=m+1:=⟨k - 1,by omega⟩
    have ih:=fun ok=>refRight_l0 l hl d (i+1) k ok (by omega) (by omega)
    simp only [psalteryref11_Right.l0]
    rw [if_pos (by omega),drop_rd l i (by omega),List.all_cons,i64w (x:=(i : Int)+1) (by omega) (by omega)]
    cases ok with
    | false=>rw [if_neg (by simp)];exact (ih false).trans (by simp)
    | true =>
      rw [if_pos rfl,if_pos (by omega)]
      by_cases h0 : rd l (i : Int) ≥ 0
      · rw [if_pos h0]
        refine (ih _).trans ?_
        rw [show decide (0≤rd l (i : Int)∧rd l (i : Int)≤44)=decide (rd l (i : Int)≤44) from decide_eq_decide.2 ⟨fun h=>h.2,fun h=>⟨h0,h⟩⟩,Bool.true_and]
      · rw [if_neg h0,show decide (0≤rd l (i : Int)∧rd l (i : Int)≤44)=false by simp;omega]
        exact (ih false).trans (by simp)
theorem refRight_ok (l : List Int) (hl : l.length≤9000) (k : Nat) (hk : l.length < k) : psalteryref11_Right.f k l=some (rt l):=by
  unfold psalteryref11_Right.f
  rw [show (0 : Int)=((0 : Nat) : Int) from rfl,refRight_l0 l hl l.length 0 k _ (by omega) hk]
  rfl
theorem same_l0 (l : List Int) (hl : l.length≤9000) : ∀ (d i k : Nat),i+d=l.length→d < k→psalteryref06_Same.l0 k l l (i : Int)=some true
  | 0,i,k,hi,hk=>by
    obtain ⟨k,rfl⟩ : ∃ m,k=m+1:=⟨k - 1,by omega⟩
    simp only [psalteryref06_Same.l0]
    rw [if_neg (by omega)]
  | d+1,i,k,hi,hk=>by
    obtain ⟨k,rfl⟩ : ∃ m,k=m+1:=⟨k - 1,by omega⟩
    simp only [psalteryref06_Same.l0]
    rw [if_pos (by omega),if_pos (by omega),if_pos (by omega),if_pos trivial,i64w (x:=(i : Int)+1) (by omega) (by omega)]
    exact same_l0 l hl d (i+1) k (by omega) (by omega)
theorem same_ok (l : List Int) (hl : l.length≤9000) (k : Nat) (hk : l.length < k) : psalteryref06_Same.f k l l=some true:=by
  unfold psalteryref06_Same.f
  rw [if_pos rfl]
  exact same_l0 l hl l.length 0 k (by omega) hk
def gt1 (l : List Int) (code rg at_ ahead : Int) (intra : Bool) : Int × Int × Int × Int :=
  if intra=true then tn l code rg at_ 45
  else let g:=gt code rg 8;let t:=tk l code rg at_ g (g+1) 8
    if g=7 then tn l t.1 t.2.1 t.2.2 45 else (t.1,t.2.1,t.2.2,if ahead+g - 3 < 0 then 0 else if ahead+g - 3 > 44 then 44 else ahead+g - 3)
theorem gt1_ok {l : List Int} {code rg at_ ahead : Int} {intra : Bool} (hb : Bytes l) (hl : l.length≤9000) (h : DOk code rg at_) :
    DOk (gt1 l code rg at_ ahead intra).1 (gt1 l code rg at_ ahead intra).2.1 (gt1 l code rg at_ ahead intra).2.2.1∧0≤(gt1 l code rg at_ ahead intra).2.2.2∧(gt1 l code rg at_ ahead intra).2.2.2≤44:=by
  unfold gt1
  cases intra with
  | true =>
    rw [if_pos rfl]
    have:=tn_ok (n:=45) hb hl h (by decide) (by decide)
    exact ⟨this.1,this.2.1,by omega⟩
  | false =>
    rw [if_neg (by simp)]
    have hf:=gt_fair (code:=code) h.1 h.2.2.1 (show (1 : Int)≤8 by decide) (by decide)
    have ht:=tk_ok (at_:=at_) hb hl h hf
    dsimp only
    split
    · have:=tn_ok (n:=45) hb hl ht (by decide) (by decide)
      exact ⟨this.1,this.2.1,by omega⟩
    · refine ⟨ht, ?_, ?_⟩
      · dsimp only;split
        · decide
        · split <;> omega
      · dsimp only;split
        · decide
        · split <;> omega
theorem take1_ok {code0 rg0 at0 code rg at_ ahead : Int} {l0 l : List Int} {intra : Bool} (hg : coder_good.f code0 rg0 l0 at0=some (code,rg,l,at_)) (h : DOk code rg at_) (hb : Bytes l) (hl : l.length≤9000) (a0 : 0≤ahead) (a1 : ahead≤44) (k : Nat) (hk : 10≤k) :
    gain_take.f k code0 rg0 l0 at0 ahead intra=some ((gt1 l code rg at_ ahead intra).1,(gt1 l code rg at_ ahead intra).2.1,l,(gt1 l code rg at_ ahead intra).2.2.1,(gt1 l code rg at_ ahead intra).2.2.2):=by
  have tw : ∀ {c r t : Int},DOk c r t→wrap64 (tn l c r t 45).2.2.2=(tn l c r t 45).2.2.2:=fun hd=>by
    have:=tn_ok (n:=45) hb hl hd (by decide) (by decide)
    exact i64w (by omega) (by omega)
  unfold gain_take.f gt1
  cases intra with
  | true =>
    rw [if_pos rfl,if_pos rfl,takeNum_ok hg h hb hl (by decide) (by decide) k (by omega),Option.bind_some]
    dsimp only
    rw [tw h]
  | false =>
    have hgt:=gt_bound (code:=code) h.1 h.2.2.1 (show (1 : Int)≤8 by decide) (by decide)
    have hf:=gt_fair (code:=code) h.1 h.2.2.1 (show (1 : Int)≤8 by decide) (by decide)
    have ht:=tk_ok (at_:=at_) hb hl h hf
    rw [if_neg (by simp),if_neg (by simp),get_ok hg h (by decide) (by decide),Option.bind_some]
    dsimp only
    rw [i64w (x:=gt code rg 8+1) (by omega) (by omega),take_ok hg h hb hl hf k (by omega),Option.bind_some]
    dsimp only
    by_cases h7 : gt code rg 8=7
    · rw [if_pos h7,if_pos h7,takeNum_ok (good_ok ht) ht hb hl (by decide) (by decide) k (by omega),Option.bind_some]
      dsimp only
      rw [tw ht]
    · rw [if_neg h7,if_neg h7,i64w (x:=ahead+gt code rg 8) (by omega) (by omega),i64w (x:=ahead+gt code rg 8 - 3) (by omega) (by omega)]
      dsimp only
      congr 5
      unfold mx mn
      split <;> split <;> first|omega|(split <;> omega)
def gts (l a : List Int) (intra : Bool) : Nat→Int→Int→Int→Int→List Int→Int × Int × Int × List Int
  | 0,_,c,r,t,acc=>(c,r,t,acc)
  | d+1,i,c,r,t,acc=>gts l a intra d (i+1) (gt1 l c r t (rd a i) intra).1 (gt1 l c r t (rd a i) intra).2.1 (gt1 l c r t (rd a i) intra).2.2.1 (acc ++ [(gt1 l c r t (rd a i) intra).2.2.2])
theorem takes_l0 {a : List Int} {intra : Bool} (ha : intra=true∨rt a=true) : ∀ (d : Nat) (i code0 rg0 at0 code rg at_ : Int) (l0 l acc : List Int) (k : Nat),coder_good.f code0 rg0 l0 at0=some (code,rg,l,at_)→DOk code rg at_→Bytes l→l.length≤9000 →
    (d=0→code0=code∧rg0=rg∧l0=l∧at0=at_)→0≤i→i+d=5→acc.length+d≤5→20+d < k →
    gain_Take.l0 k a intra acc i code0 rg0 l0 at0=some ((gts l a intra d i code rg at_ acc).1,(gts l a intra d i code rg at_ acc).2.1,l,(gts l a intra d i code rg at_ acc).2.2.1,(gts l a intra d i code rg at_ acc).2.2.2,0)
  | 0,i,code0,rg0,at0,code,rg,at_,l0,l,acc,k,hg,h,hb,hl,h0,hi,hd,hc,hk=>by
    obtain ⟨k,rfl⟩ : ∃ m,k=m+1:=⟨k - 1,by omega⟩
    obtain ⟨rfl,rfl,rfl,rfl⟩:=h0 rfl
    simp only [gain_Take.l0]
    rw [if_neg (by omega)]
    rfl
  | d+1,i,code0,rg0,at0,code,rg,at_,l0,l,acc,k,hg,h,hb,hl,h0,hi,hd,hc,hk=>by
    obtain ⟨k,rfl⟩ : ∃ m,k=m+1:=⟨k - 1,by omega⟩
    have h1:=gt1_ok (ahead:=rd a i) (intra:=intra) hb hl h
    have ih:=takes_l0 ha d (i+1) _ _ _ _ _ _ _ _ (acc ++ [(gt1 l code rg at_ (rd a i) intra).2.2.2]) k (good_ok (l:=l) h1.1) h1.1 hb hl (fun _=>⟨rfl,rfl,rfl,rfl⟩) (by omega) (by omega) (by simp;omega) (by omega)
    simp only [gain_Take.l0,gts]
    rw [if_pos (by omega)]
    cases intra with
    | true =>
      rw [if_pos rfl,take1_ok hg h hb hl (by decide) (by decide) k (by omega),Option.bind_some]
      dsimp only
      rw [if_pos (by omega),i64w (x:=i+1) (by omega) (by omega)]
      exact ih
    | false =>
      have hr : rt a=true:=ha.resolve_left (by simp)
      have h5:=rt_len hr
      have ar:=rt_rd hr i
      rw [if_neg (by simp),if_pos hi,if_pos (by omega),take1_ok hg h hb hl ar.1 ar.2 k (by omega),Option.bind_some]
      dsimp only
      rw [if_pos (by omega),i64w (x:=i+1) (by omega) (by omega)]
      exact ih
theorem takes_ok {a : List Int} {intra : Bool} (hla : a.length≤100) {code0 rg0 at0 code rg at_ : Int} {l0 l : List Int} (hg : coder_good.f code0 rg0 l0 at0=some (code,rg,l,at_)) (h : DOk code rg at_) (hb : Bytes l) (hl : l.length≤9000) (k : Nat) (hk : 200≤k) :
    gain_Take.f k code0 rg0 l0 at0 a intra=if intra=true∨rt a=true then some ((gts l a intra 5 0 code rg at_ []).1,(gts l a intra 5 0 code rg at_ []).2.1,l,(gts l a intra 5 0 code rg at_ []).2.2.1,(gts l a intra 5 0 code rg at_ []).2.2.2,0) else some ((tk l code rg at_ 0 1 1).1,(tk l code rg at_ 0 1 1).2.1,l,(tk l code rg at_ 0 1 1).2.2, [],1):=by
  obtain ⟨k,rfl⟩ : ∃ m,k=m+1:=⟨k - 1,by omega⟩
  have key : intra=true∨rt a=true→gain_Take.j0 (k+1) a intra false code0 rg0 l0 at0=some ((gts l a intra 5 0 code rg at_ []).1,(gts l a intra 5 0 code rg at_ []).2.1,l,(gts l a intra 5 0 code rg at_ []).2.2.1,(gts l a intra 5 0 code rg at_ []).2.2.2,0):=fun ha=>by
    simp only [gain_Take.j0]
    rw [if_neg (by simp)]
    exact takes_l0 ha 5 0 _ _ _ _ _ _ _ _ [] k hg h hb hl (by simp) (by omega) (by omega) (by simp) (by omega)
  unfold gain_Take.f
  cases intra with
  | true=>rw [if_pos rfl,if_pos (.inl rfl)];exact key (.inl rfl)
  | false =>
    rw [if_neg (by simp),right_ok a (by omega) _ (by omega),Option.bind_some]
    cases hr : rt a with
    | true=>rw [if_pos (.inr rfl)];exact key (.inr hr)
    | false =>
      rw [if_neg (by simp)]
      simp only [gain_Take.j0,Bool.not_false, ↓reduceIte]
      rw [take_ok hg h hb hl ⟨by decide,by decide,by decide,by decide⟩ k (by omega),Option.bind_some]
end Go.Proofs.Ytkaoiblgfpphoaa.Gan
/- What the document's examples of gains answer, and which inputs are too great. -/
namespace Go.Proofs.Ytkaoiblgfpphoaa.Gan
open Go.RowKit Go.Proofs.YtkaoiblgfpphoaaW.PrintWords Go.Proofs.YtkaoiblgfpphoaaW.PrintMore Go.Proofs.Ytkaoiblgfpphoaa.Prt Go.Proofs.Ytkaoiblgfpphoaa.Val Go.Proofs.Ytkaoiblgfpphoaa.Cod
set_option linter.unusedVariables false
theorem knows11_k : ∀ k,6000≤k→psalterylaw11_knows.f k=some true:=fun k hk=>at_rounds psalterylaw11_knows.mono (Nat.le_trans (by decide : 100≤6000) hk) (by decide +kernel)
end Go.Proofs.Ytkaoiblgfpphoaa.Gan
/- Gains put: what the program and the document put, step by step. -/
namespace Go.Proofs.Ytkaoiblgfpphoaa.Gan
open Go.RowKit Go.Proofs.YtkaoiblgfpphoaaW.PrintWords Go.Proofs.YtkaoiblgfpphoaaW.PrintMore Go.Proofs.Ytkaoiblgfpphoaa.Prt Go.Proofs.Ytkaoiblgfpphoaa.Val Go.Proofs.Ytkaoiblgfpphoaa.Cod
set_option linter.unusedVariables false
theorem j3_true {g a all all2 ALL : List Int} {intra : Bool} {i R rg rg2 e : Int} (hi : 0≤i) (h5 : i < 5) (hg : rt g=true) (hp : ∀ k,5010≤k→psalteryref05_PutNum.f k rg all (rd g i) 45=some (rg2,all2,e)) (k : Nat) (hk : 5010≤k) :
    psalteryref11_Put.j3 (k+1) g a intra i true R ALL rg all=if e=0 then psalteryref11_Put.l0 k g a intra (i+1) R ALL rg2 all2 else some (R,ALL,e):=by
  have hl:=rt_len hg
  have hr:=rt_rd hg i
  simp only [psalteryref11_Put.j3]
  rw [if_pos trivial,if_pos hi,if_pos (by omega),u64w (by omega) (by omega),hp k hk,Option.bind_some,i64w (x:=i+1) (by omega) (by omega)]
theorem j3_false {g a all ALL : List Int} {intra : Bool} {i R rg : Int} (hi : 0≤i) (h5 : i < 5) (k : Nat) :
    psalteryref11_Put.j3 (k+1) g a intra i false R ALL rg all=psalteryref11_Put.l0 k g a intra (i+1) R ALL rg all:=by
  simp only [psalteryref11_Put.j3]
  rw [if_neg (by simp),i64w (x:=i+1) (by omega) (by omega)]
theorem step_same {g a ALL : List Int} {intra : Bool} (hg : rt g=true) (ha : intra=true∨rt a=true) {R i lo0 rg0 lo rg : Int} {out0 out : List Int} (ho : coder_own.f lo0 rg0 out0=some (lo,rg,out)) (he : EOk lo rg out) (hi : 0≤i) (h5 : i < 5) :
    ∃ lo2 rg2 out2 e2,(∀ k,5020≤k→gain_put.f k lo0 rg0 out0 (rd g i) (if intra=true then 0 else rd a i) intra=some (lo2,rg2,out2,e2))∧EOk lo2 rg2 out2 ∧
      (e2=0→∀ r K,5020≤K→(∀ k,K≤k→psalteryref11_Put.l0 k g a intra (i+1) R ALL rg2 (out2 ++ four lo2)=some r)→∀ k,K+4≤k→psalteryref11_Put.l0 k g a intra i R ALL rg (out ++ four lo)=some r) ∧
      (e2≠0→∀ k,5030≤k→psalteryref11_Put.l0 k g a intra i R ALL rg (out ++ four lo)=some (R,ALL,e2)):=by
  have hl:=rt_len hg
  have hr:=rt_rd hg i
  cases intra with
  | true =>
    obtain ⟨lo2,rg2,out2,e2,p1,p2,p3,_⟩:=putNum_same (v:=rd g i) (n:=45) ho he (by omega) (by decide)
    have q : ∀ k,5010≤k→psalteryref11_Put.l0 (k+2) g a true i R ALL rg (out ++ four lo)=if e2=0 then psalteryref11_Put.l0 k g a true (i+1) R ALL rg2 (out2 ++ four lo2) else some (R,ALL,e2):=fun k hk=>by
      rw [← j3_true (a:=a) (intra:=true) (R:=R) (ALL:=ALL) hi h5 hg p3 k hk]
      simp only [psalteryref11_Put.l0]
      rw [if_pos (by omega),if_pos trivial]
    refine ⟨lo2,rg2,out2,e2,fun k hk => ?_,p2,fun h r K hK hn k hk => ?_,fun h k hk => ?_⟩
    · unfold gain_put.f
      rw [if_pos rfl,u64w (by omega) (by omega),p1 k (by omega),Option.bind_some]
    · obtain ⟨k,rfl⟩ : ∃ m,k=m+2:=⟨k - 2,by omega⟩
      rw [q k (by omega),if_pos h]
      exact hn k (by omega)
    · obtain ⟨k,rfl⟩ : ∃ m,k=m+2:=⟨k - 2,by omega⟩
      rw [q k (by omega),if_neg h]
  | false =>
    have hra : rt a=true:=ha.resolve_left (by simp)
    have hla:=rt_len hra
    have ar:=rt_rd hra i
    rw [if_neg (by simp)]
    by_cases hn : -3≤rd g i - rd a i∧rd g i - rd a i≤3
    · obtain ⟨lo2,rg2,out2,e2,p1,p2,p3,_⟩:=put_same (clo:=rd g i - rd a i+3) (chi:=rd g i - rd a i+3+1) (ctot:=8) ho he
      have q : ∀ k,5010≤k→psalteryref11_Put.l0 (k+3) g a false i R ALL rg (out ++ four lo)=if e2=0 then psalteryref11_Put.l0 k g a false (i+1) R ALL rg2 (out2 ++ four lo2) else some (R,ALL,e2):=fun k hk=>by
        rw [← j3_false (g:=g) (a:=a) (intra:=false) (R:=R) (ALL:=ALL) hi h5 k]
        simp only [psalteryref11_Put.l0]
        rw [if_pos (by omega),if_neg (by simp),if_pos hi,if_pos (by omega),if_pos (by omega),i64w (x:=rd g i - rd a i) (by omega) (by omega),i64w (x:=rd g i - rd a i+3) (by omega) (by omega),if_neg (by omega),show decide (rd g i - rd a i+3 > 6)=false by simp;omega]
        simp only [psalteryref11_Put.j2]
        rw [if_neg (by simp),i64w (x:=rd g i - rd a i+3+1) (by omega) (by omega),p3 _ (by omega),Option.bind_some]
      refine ⟨lo2,rg2,out2,e2,fun k hk => ?_,p2,fun h r K hK hn k hk => ?_,fun h k hk => ?_⟩
      · obtain ⟨k,rfl⟩ : ∃ m,k=m+1:=⟨k - 1,by omega⟩
        unfold gain_put.f
        rw [if_neg (by simp),i64w (x:=rd g i - rd a i) (by omega) (by omega),if_pos (by omega),show decide (rd g i - rd a i≤3)=true by simp;omega]
        simp only [gain_put.j0]
        rw [if_pos trivial,i64w (x:=rd g i - rd a i+3) (by omega) (by omega),i64w (x:=rd g i - rd a i+3+1) (by omega) (by omega),p1 k (by omega),Option.bind_some]
      · obtain ⟨k,rfl⟩ : ∃ m,k=m+3:=⟨k - 3,by omega⟩
        rw [q k (by omega),if_pos h]
        exact hn k (by omega)
      · obtain ⟨k,rfl⟩ : ∃ m,k=m+3:=⟨k - 3,by omega⟩
        rw [q k (by omega),if_neg h]
    · obtain ⟨lo1,rg1,out1,e1,p1,p2,p3,_⟩:=put_same (clo:=7) (chi:=8) (ctot:=8) ho he
      have p3' : ∀ k,5000≤k→psalteryref05_Put.f k rg (out ++ four lo) 7 (7+1) 8=some (rg1,out1 ++ four lo1,e1):=p3
      have gq : ∀ k,5010≤k→gain_put.f (k+1) lo0 rg0 out0 (rd g i) (rd a i) false=if e1=0 then coder_PutNum.f k lo1 rg1 out1 (rd g i) 45 else some (lo1,rg1,out1,e1):=fun k hk=>by
        have e : gain_put.j0 (k+1) (rd g i) (rd g i - rd a i) false lo0 rg0 out0=if e1=0 then coder_PutNum.f k lo1 rg1 out1 (rd g i) 45 else some (lo1,rg1,out1,e1):=by
          simp only [gain_put.j0]
          rw [if_neg (by simp),p1 k (by omega),Option.bind_some,u64w (by omega) (by omega)]
          dsimp only
          split
          · cases coder_PutNum.f k lo1 rg1 out1 (rd g i) 45 <;> rfl
          · rfl
        unfold gain_put.f
        rw [if_neg (by simp),i64w (x:=rd g i - rd a i) (by omega) (by omega)]
        split
        · rw [show decide (rd g i - rd a i≤3)=false by simp;omega]
          exact e
        · exact e
      have rq : ∀ k,5010≤k→psalteryref11_Put.l0 (k+3) g a false i R ALL rg (out ++ four lo)=if e1=0 then psalteryref11_Put.j3 (k+1) g a false i true R ALL rg1 (out1 ++ four lo1) else some (R,ALL,e1):=fun k hk=>by
        have e : psalteryref11_Put.j2 (k+2) g a false i false (rd g i - rd a i+3) true R ALL rg (out ++ four lo)=if e1=0 then psalteryref11_Put.j3 (k+1) g a false i true R ALL rg1 (out1 ++ four lo1) else some (R,ALL,e1):=by
          simp only [psalteryref11_Put.j2]
          rw [if_pos trivial,p3' (k+1) (by omega),Option.bind_some]
        simp only [psalteryref11_Put.l0]
        rw [if_pos (by omega),if_neg (by simp),if_pos hi,if_pos (by omega),if_pos (by omega),i64w (x:=rd g i - rd a i) (by omega) (by omega),i64w (x:=rd g i - rd a i+3) (by omega) (by omega)]
        split
        · exact e
        · rw [show decide (rd g i - rd a i+3 > 6)=true by simp;omega]
          exact e
      by_cases h1 : e1=0
      · obtain ⟨lo2,rg2,out2,e2,s1,s2,s3,_⟩:=putNum_same (v:=rd g i) (n:=45) (own_ok p2) p2 (by omega) (by decide)
        have q : ∀ k,5010≤k→psalteryref11_Put.l0 (k+3) g a false i R ALL rg (out ++ four lo)=if e2=0 then psalteryref11_Put.l0 k g a false (i+1) R ALL rg2 (out2 ++ four lo2) else some (R,ALL,e2):=fun k hk=>by
          rw [rq k hk,if_pos h1,j3_true hi h5 hg s3 k hk]
        refine ⟨lo2,rg2,out2,e2,fun k hk => ?_,s2,fun h r K hK hn k hk => ?_,fun h k hk => ?_⟩
        · obtain ⟨k,rfl⟩ : ∃ m,k=m+1:=⟨k - 1,by omega⟩
          rw [gq k (by omega),if_pos h1,s1 k (by omega)]
        · obtain ⟨k,rfl⟩ : ∃ m,k=m+3:=⟨k - 3,by omega⟩
          rw [q k (by omega),if_pos h]
          exact hn k (by omega)
        · obtain ⟨k,rfl⟩ : ∃ m,k=m+3:=⟨k - 3,by omega⟩
          rw [q k (by omega),if_neg h]
      · refine ⟨lo1,rg1,out1,e1,fun k hk => ?_,p2,fun h=>absurd h h1,fun h k hk => ?_⟩
        · obtain ⟨k,rfl⟩ : ∃ m,k=m+1:=⟨k - 1,by omega⟩
          rw [gq k (by omega),if_neg h1]
        · obtain ⟨k,rfl⟩ : ∃ m,k=m+3:=⟨k - 3,by omega⟩
          rw [rq k (by omega),if_neg h1]
theorem puts_l0 {g a : List Int} {intra : Bool} (hg : rt g=true) (ha : intra=true∨rt a=true) {lo1 rg1 : Int} {out1 : List Int} (he1 : EOk lo1 rg1 out1) : ∀ (d : Nat) (i lo0 rg0 lo rg : Int) (out0 out : List Int),coder_own.f lo0 rg0 out0=some (lo,rg,out)→EOk lo rg out→(d=0→lo0=lo∧rg0=rg∧out0=out)→0≤i→i+d=5 →
    ∃ lo' rg' out' e,(∀ k,5030+2 * d≤k→gain_Put.l0 k g a intra i lo1 rg1 out1 lo0 rg0 out0=some (lo',rg',out',e))∧(∀ k,5030+4 * d≤k→psalteryref11_Put.l0 k g a intra i rg1 (out1 ++ four lo1) rg (out ++ four lo)=some (rg',out' ++ four lo',e))∧EOk lo' rg' out'
  | 0,i,lo0,rg0,lo,rg,out0,out,ho,he,h0,hi,hd=>by
    obtain ⟨rfl,rfl,rfl⟩:=h0 rfl
    refine ⟨lo0,rg0,out0,0,fun k hk => ?_,fun k hk => ?_,he⟩
    · obtain ⟨k,rfl⟩ : ∃ m,k=m+1:=⟨k - 1,by omega⟩
      simp only [gain_Put.l0]
      rw [if_neg (by omega)]
    · obtain ⟨k,rfl⟩ : ∃ m,k=m+1:=⟨k - 1,by omega⟩
      simp only [psalteryref11_Put.l0]
      rw [if_neg (by omega)]
  | d+1,i,lo0,rg0,lo,rg,out0,out,ho,he,h0,hi,hd=>by
    have hl:=rt_len hg
    obtain ⟨lo2,rg2,out2,e2,s1,s2,s3,s4⟩:=step_same (ALL:=out1 ++ four lo1) (R:=rg1) hg ha ho he hi (by omega)
    have gq : ∀ k,5030≤k→gain_Put.l0 (k+2) g a intra i lo1 rg1 out1 lo0 rg0 out0=if e2=0 then gain_Put.l0 k g a intra (i+1) lo1 rg1 out1 lo2 rg2 out2 else some (lo1,rg1,out1,e2):=fun k hk=>by
      have e : gain_Put.j2 (k+1) g a intra i (if intra=true then 0 else rd a i) i lo1 rg1 out1 lo0 rg0 out0=if e2=0 then gain_Put.l0 k g a intra (i+1) lo1 rg1 out1 lo2 rg2 out2 else some (lo1,rg1,out1,e2):=by
        simp only [gain_Put.j2]
        rw [if_pos hi,if_pos (by omega),s1 k (by omega),Option.bind_some,i64w (x:=i+1) (by omega) (by omega)]
      simp only [gain_Put.l0]
      rw [if_pos (by omega)]
      cases intra with
      | true=>rw [if_pos rfl];exact e
      | false =>
        have hla:=rt_len (ha.resolve_left (by simp))
        rw [if_neg (by simp),if_pos hi,if_pos (by omega)]
        exact e
    by_cases h2 : e2=0
    · obtain ⟨lo',rg',out',e,t1,t2,t3⟩:=puts_l0 hg ha he1 d (i+1) lo2 rg2 lo2 rg2 out2 out2 (own_ok s2) s2 (fun _=>⟨rfl,rfl,rfl⟩) (by omega) (by omega)
      refine ⟨lo',rg',out',e,fun k hk => ?_,fun k hk=>s3 h2 _ (5030+4 * d) (by omega) t2 k (by omega),t3⟩
      obtain ⟨k,rfl⟩ : ∃ m,k=m+2:=⟨k - 2,by omega⟩
      rw [gq k (by omega),if_pos h2]
      exact t1 k (by omega)
    · refine ⟨lo1,rg1,out1,e2,fun k hk => ?_,fun k hk=>s4 h2 k (by omega),he1⟩
      obtain ⟨k,rfl⟩ : ∃ m,k=m+2:=⟨k - 2,by omega⟩
      rw [gq k (by omega),if_neg h2]
theorem puts_same {g a : List Int} (intra : Bool) (hgl : g.length≤100) (hal : a.length≤100) {lo rg lo0 rg0 : Int} {out out0 : List Int} (ho : coder_own.f lo0 rg0 out0=some (lo,rg,out)) (he : EOk lo rg out) :
    ∃ lo' rg' out' e,(∀ k,5100≤k→gain_Put.f k lo0 rg0 out0 g a intra=some (lo',rg',out',e))∧(∀ k,5100≤k→psalteryref11_Put.f k rg (out ++ four lo) g a intra=some (rg',out' ++ four lo',e))∧EOk lo' rg' out' := by
  have pb : ∀ k,coder_Put.f k lo0 rg0 out0 0 1 0=some (lo,rg,out,1):=fun k=>put_bad k ho (fun h=>by have:=h.2.2.1;omega)
  have jt : ∀ k,gain_Put.j0 (k+1) g a intra true lo0 rg0 out0 lo rg out=some (lo,rg,out,1):=fun k=>by simp only [gain_Put.j0, ↓reduceIte]
  have rt' : ∀ k,psalteryref11_Put.j0 (k+1) g a intra true rg (out ++ four lo)=some (rg,out ++ four lo,1):=fun k=>by simp only [psalteryref11_Put.j0, ↓reduceIte]
  by_cases hg : rt g=true
  · by_cases ha : intra=true∨rt a=true
    · obtain ⟨lo',rg',out',e,t1,t2,t3⟩:=puts_l0 hg ha he 5 0 lo0 rg0 lo rg out0 out ho he (by simp) (by omega) (by omega)
      refine ⟨lo',rg',out',e,fun k hk => ?_,fun k hk => ?_,t3⟩
      · obtain ⟨k,rfl⟩ : ∃ m,k=m+1:=⟨k - 1,by omega⟩
        have key : gain_Put.j0 (k+1) g a intra false lo0 rg0 out0 lo rg out=some (lo',rg',out',e):=by
          simp only [gain_Put.j0]
          rw [if_neg (by simp)]
          exact t1 k (by omega)
        unfold gain_Put.f
        rw [pb,Option.bind_some,right_ok g (by omega) _ (by omega),Option.bind_some,if_pos hg]
        cases intra with
        | true=>rw [if_pos rfl];exact key
        | false =>
          rw [if_neg (by simp),right_ok a (by omega) _ (by omega),Option.bind_some,ha.resolve_left (by simp)]
          exact key
      · obtain ⟨k,rfl⟩ : ∃ m,k=m+1:=⟨k - 1,by omega⟩
        have key : psalteryref11_Put.j0 (k+1) g a intra false rg (out ++ four lo)=some (rg',out' ++ four lo',e):=by
          simp only [psalteryref11_Put.j0]
          rw [if_neg (by simp)]
          exact t2 k (by omega)
        unfold psalteryref11_Put.f
        rw [refRight_ok g (by omega) _ (by omega),Option.bind_some,if_pos hg]
        cases intra with
        | true=>rw [if_pos rfl];exact key
        | false =>
          rw [if_neg (by simp),refRight_ok a (by omega) _ (by omega),Option.bind_some,ha.resolve_left (by simp)]
          exact key
    · have hi : intra=false:=by cases intra with|true=>exact absurd (.inl rfl) ha|false=>rfl
      have hra : rt a=false:=by cases h : rt a with|true=>exact absurd (.inr h) ha|false=>rfl
      subst hi
      refine ⟨lo,rg,out,1,fun k hk => ?_,fun k hk => ?_,he⟩
      · obtain ⟨k,rfl⟩ : ∃ m,k=m+1:=⟨k - 1,by omega⟩
        unfold gain_Put.f
        rw [pb,Option.bind_some,right_ok g (by omega) _ (by omega),Option.bind_some,if_pos hg,if_neg (by simp),right_ok a (by omega) _ (by omega),Option.bind_some,hra]
        exact jt k
      · obtain ⟨k,rfl⟩ : ∃ m,k=m+1:=⟨k - 1,by omega⟩
        unfold psalteryref11_Put.f
        rw [refRight_ok g (by omega) _ (by omega),Option.bind_some,if_pos hg,if_neg (by simp),refRight_ok a (by omega) _ (by omega),Option.bind_some,hra]
        exact rt' k
  · refine ⟨lo,rg,out,1,fun k hk => ?_,fun k hk => ?_,he⟩
    · obtain ⟨k,rfl⟩ : ∃ m,k=m+1:=⟨k - 1,by omega⟩
      unfold gain_Put.f
      rw [pb,Option.bind_some,right_ok g (by omega) _ (by omega),Option.bind_some,if_neg hg]
      exact jt k
    · obtain ⟨k,rfl⟩ : ∃ m,k=m+1:=⟨k - 1,by omega⟩
      unfold psalteryref11_Put.f
      rw [refRight_ok g (by omega) _ (by omega),Option.bind_some,if_neg hg]
      exact rt' k
end Go.Proofs.Ytkaoiblgfpphoaa.Gan
/- Numbers that were put are taken: each is one choice, or two. -/
namespace Go.Proofs.Ytkaoiblgfpphoaa.Cod
open Go.RowKit Go.Proofs.YtkaoiblgfpphoaaW.PrintWords Go.Proofs.YtkaoiblgfpphoaaW.PrintMore Go.Proofs.Ytkaoiblgfpphoaa.Prt Go.Proofs.Ytkaoiblgfpphoaa.Val
set_option linter.unusedVariables false
def chs (v n : Int) : List (Int × Int × Int):=if n≤65536 then [(v,v+1,n)] else [(v / 65536,v / 65536+1,half1 n),(v % 65536,v % 65536+1,65536)]
theorem tn_run {F : List Int} {e e' : E3} {v n : Int} (he : e.ok) (hv : 0≤v) (h1 : v < n) (h2 : n≤4294967296) (hr : Run e (chs v n) e') (hb : Bytes F) (hF : F.length≤9000) (hx : Ext F e') :
    tn F (Cd F e) e.2.1 ((e.len+4 : Nat) : Int) n=(Cd F e',e'.2.1,((e'.len+4 : Nat) : Int),v):=by
  unfold chs at hr
  unfold tn
  by_cases hs : n≤65536
  · rw [if_pos hs] at hr
    rw [if_pos hs]
    cases hr with
    | cons s hr =>
      cases hr
      obtain ⟨g0,g1,g2⟩:=ext_back he s hb hx
      have hg:=gt_in he.2.2.1 he.2.2.2.1 s.fair g1 g2
      have e1 : gt (Cd F e) e.2.1 n=v:=by omega
      dsimp only
      rw [e1,tk_eq he s hb hx]
  · rw [if_neg hs] at hr
    rw [if_neg hs]
    cases hr with
    | cons s hr =>
      cases hr with
      | cons s2 hr =>
        cases hr
        obtain ⟨q0,q1,q2⟩:=ext_back s.ok s2 hb hx
        obtain ⟨g0,g1,g2⟩:=ext_back he s hb q0
        have hg:=gt_in he.2.2.1 he.2.2.2.1 s.fair g1 g2
        have hq:=gt_in s.ok.2.2.1 s.ok.2.2.2.1 s2.fair q1 q2
        have e1 : gt (Cd F e) e.2.1 (half1 n)=v / 65536:=by omega
        dsimp only
        rw [e1,tk_eq he s hb q0]
        dsimp only
        rw [show gt _ _ 65536=v % 65536 by omega,tk_eq s.ok s2 hb hx]
        dsimp only
        rw [show (if n - 1 < v / 65536 * 65536+v % 65536 then n - 1 else v / 65536 * 65536+v % 65536)=v by split <;> omega]
end Go.Proofs.Ytkaoiblgfpphoaa.Cod
/- How long a coder's bytes get: each choice costs its logarithm and a little more. -/
namespace Go.Proofs.Ytkaoiblgfpphoaa.Cod
open Go.RowKit Go.Proofs.YtkaoiblgfpphoaaW.PrintWords Go.Proofs.Ytkaoiblgfpphoaa.Prt Go.Proofs.Ytkaoiblgfpphoaa.Val
set_option linter.unusedVariables false
set_option linter.unusedSimpArgs false
def Cost (n S : Nat) (rg : Int) (len : Nat) : Prop:=256 ^ n * 4294967295 * pw len≤257 ^ n * 2 ^ S * rg
theorem cost_part {rg lo hi tot : Int} (c : 16777216≤rg) (d : rg≤4294967295) (hf : Fair lo hi tot) : 256 * rg≤257 * tot * (prt rg lo hi tot).1:=by
  obtain ⟨e1,e2,e3,e4,e5,e6,e7⟩:=div_facts c d hf
  obtain ⟨f1,f2,f3,f4⟩:=hf
  have h1 : rg / tot≤(prt rg lo hi tot).1:=by
    unfold prt;dsimp only;split
    · have : rg / tot * hi=rg / tot * tot:=by rw [‹hi=tot›]
      omega
    · omega
  have h2 : rg < (rg / tot+1) * tot:=Int.lt_ediv_add_one_mul_self rg (by omega)
  generalize rg / tot=r at *
  generalize (prt rg lo hi tot).1=q at *
  have h3 : 256 * (r+1)≤257 * r:=by omega
  have h4 : 256 * (r+1) * tot≤257 * r * tot:=Int.mul_le_mul_of_nonneg_right h3 (by omega)
  have h5 : tot * r≤tot * q:=Int.mul_le_mul_of_nonneg_left h1 (by omega)
  have h6 : 256 * (r+1) * tot=256 * ((r+1) * tot):=Int.mul_assoc ..
  have h7 : 257 * r * tot=257 * (tot * r):=by rw [Int.mul_assoc,Int.mul_comm r tot]
  have h8 : 257 * tot * q=257 * (tot * q):=Int.mul_assoc ..
  omega
theorem cost_step {n S len b m : Nat} {rg r tot : Int} (h : Cost n S rg len) (hr : 256 * rg≤257 * tot * r) (hb : tot≤2 ^ b) (h0 : 0≤r) : Cost (n+1) (S+b) (r * pw m) (len+m):=by
  unfold Cost at *
  have p1 : (0 : Int) < 257 ^ n:=Int.pow_pos (by decide)
  have p2 : (0 : Int) < 2 ^ S:=Int.pow_pos (by decide)
  have p3:=pw_pos m
  have h1 : 257 * tot * r≤257 * 2 ^ b * r:=Int.mul_le_mul_of_nonneg_right (Int.mul_le_mul_of_nonneg_left hb (by decide)) h0
  have h2 : 256 * rg≤257 * 2 ^ b * r:=Int.le_trans hr h1
  have h3 : (257 ^ n * 2 ^ S) * (256 * rg)≤(257 ^ n * 2 ^ S) * (257 * 2 ^ b * r):=Int.mul_le_mul_of_nonneg_left h2 (Int.le_of_lt (Int.mul_pos p1 p2))
  have h4 : 256 * (256 ^ n * 4294967295 * pw len)≤256 * (257 ^ n * 2 ^ S * rg):=Int.mul_le_mul_of_nonneg_left h (by decide)
  have e1 : (257 ^ n * 2 ^ S) * (256 * rg)=256 * (257 ^ n * 2 ^ S * rg):=by rw [Int.mul_left_comm]
  have h5 : 256 * (256 ^ n * 4294967295 * pw len) * pw m≤(257 ^ n * 2 ^ S) * (257 * 2 ^ b * r) * pw m:=Int.mul_le_mul_of_nonneg_right (by omega) (Int.le_of_lt p3)
  have e2 : (256 : Int) ^ (n+1) * 4294967295 * pw (len+m)=256 * (256 ^ n * 4294967295 * pw len) * pw m:=by rw [Int.pow_succ,pw_add];simp only [Int.mul_assoc,Int.mul_left_comm,Int.mul_comm]
  have e3 : (257 : Int) ^ (n+1) * 2 ^ (S+b) * (r * pw m)=(257 ^ n * 2 ^ S) * (257 * 2 ^ b * r) * pw m:=by rw [Int.pow_succ,Int.pow_add];simp only [Int.mul_assoc,Int.mul_left_comm,Int.mul_comm]
  rw [e2,e3];exact h5
end Go.Proofs.Ytkaoiblgfpphoaa.Cod
/- A piece of what is put: it goes on, is told apart in the bytes, and costs so many bits. -/
namespace Go.Proofs.Ytkaoiblgfpphoaa.Cod
open Go.RowKit Go.Proofs.YtkaoiblgfpphoaaW.PrintWords Go.Proofs.Ytkaoiblgfpphoaa.Prt Go.Proofs.Ytkaoiblgfpphoaa.Val
set_option linter.unusedVariables false
theorem cost_more {n S m T len : Nat} {rg : Int} (h : Cost n S rg len) (hn : n≤m) (hS : S≤T) (hr : 0≤rg) : Cost m T rg len:=by
  unfold Cost at *
  obtain ⟨d,rfl⟩ : ∃ d,m=n+d:=⟨m - n,by omega⟩
  obtain ⟨s,rfl⟩ : ∃ s,T=S+s:=⟨T - S,by omega⟩
  have p1 : (256 : Int) ^ d≤257 ^ d:=by
    have : (256 : Nat) ^ d≤257 ^ d:=Nat.pow_le_pow_left (by decide) _
    have h2:=Int.ofNat_le.2 this
    rw [Int.natCast_pow,Int.natCast_pow] at h2
    exact h2
  have p2 : (1 : Int)≤2 ^ s:=by have : (0 : Int) < 2 ^ s:=Int.pow_pos (by decide);omega
  have a0 : (0 : Int)≤257 ^ n * 2 ^ S * rg:=Int.mul_nonneg (Int.mul_nonneg (Int.le_of_lt (Int.pow_pos (by decide))) (Int.le_of_lt (Int.pow_pos (by decide)))) hr
  have a1 : (0 : Int)≤257 ^ d:=Int.le_of_lt (Int.pow_pos (by decide))
  have e1 : (256 : Int) ^ (n+d) * 4294967295 * pw len=256 ^ d * (256 ^ n * 4294967295 * pw len):=by rw [Int.pow_add];simp only [Int.mul_assoc,Int.mul_left_comm,Int.mul_comm]
  have e2 : (257 : Int) ^ (n+d) * 2 ^ (S+s) * rg=257 ^ d * (2 ^ s * (257 ^ n * 2 ^ S * rg)):=by rw [Int.pow_add,Int.pow_add];simp only [Int.mul_assoc,Int.mul_left_comm,Int.mul_comm]
  rw [e1,e2]
  have b0 : (0 : Int)≤256 ^ n * 4294967295 * pw len:=Int.mul_nonneg (Int.mul_nonneg (Int.le_of_lt (Int.pow_pos (by decide))) (by decide)) (Int.le_of_lt (pw_pos _))
  refine Int.le_trans (Int.mul_le_mul_of_nonneg_right p1 b0) (Int.mul_le_mul_of_nonneg_left ?_ a1)
  refine Int.le_trans h ?_
  have:=Int.mul_le_mul_of_nonneg_right p2 a0
  rw [Int.one_mul] at this
  exact this
structure Piece (e e' : E3) (n S : Nat) : Prop where
  ok : e'.ok
  nov : Nov e'
  len : e'.len≤e.len+2 * n
  ext : ∀ F,Bytes F→Ext F e'→Ext F e
  cost : ∀ m T,Cost m T e.2.1 e.len→Cost (m+n) (T+S) e'.2.1 e'.len
theorem Piece.nil {e : E3} (he : e.ok) (hn : Nov e) : Piece e e 0 0:=⟨he,hn,by omega,fun _ _ h=>h,fun _ _ h=>h⟩
theorem Piece.trans {e e' e'' : E3} {n m S T : Nat} (h : Piece e e' n S) (k : Piece e' e'' m T) : Piece e e'' (n+m) (S+T) :=
  ⟨k.ok,k.nov,by have:=h.len;have:=k.len;omega,fun F hb hx=>h.ext F hb (k.ext F hb hx),fun a b hc=>by have:=k.cost _ _ (h.cost a b hc);rw [Nat.add_assoc,Nat.add_assoc] at this;exact this⟩
theorem Piece.more {e e' : E3} {n m S T : Nat} (h : Piece e e' n S) (hn : n≤m) (hS : S≤T) : Piece e e' m T :=
  ⟨h.ok,h.nov,by have:=h.len;omega,h.ext,fun a b hc=>cost_more (h.cost a b hc) (by omega) (by omega) (by have:=h.ok.2.2.1;omega)⟩
theorem Piece.st {e e' : E3} {lo hi tot : Int} {b : Nat} (he : e.ok) (s : St e e' lo hi tot) (hn : Nov e') (ht : tot≤2 ^ b) : Piece e e' 1 b:=by
  have hp:=prt_facts he.2.2.1 he.2.2.2.1 s.fair
  have hm : mOf (prt e.2.1 lo hi tot).1≤2:=by
    unfold mOf
    split
    · omega
    · split <;> omega
  refine ⟨s.ok,hn,by rw [s.len];omega,fun F hb hx=>(ext_back he s hb hx).1,fun m T hc => ?_⟩
  rw [s.rg,s.len]
  exact cost_step hc (cost_part he.2.2.1 he.2.2.2.1 s.fair) ht (by omega)
theorem put_piece {e : E3} (he : e.ok) (hn : Nov e) {lo hi tot : Int} (hf : Cod.Fair lo hi tot) (hl : e.len < 3996) {b : Nat} (ht : tot≤2 ^ b) :
    ∃ e' : E3,(∀ k,5000≤k→coder_Put.f k e.1 e.2.1 e.2.2 lo hi tot=some (e'.1,e'.2.1,e'.2.2,0))∧(∀ k,5000≤k→psalteryref05_Put.f k e.2.1 (all e) lo hi tot=some (e'.2.1,all e',0))∧Piece e e' 1 b∧St e e' lo hi tot:=by
  obtain ⟨e',p,s,n⟩:=st_of_put he hn hf hl
  refine ⟨e',p,fun k hk => ?_,Piece.st he s n ht,s⟩
  obtain ⟨lo',rg',out',c,a1,_,a2,_⟩:=put_same (clo:=lo) (chi:=hi) (ctot:=tot) (own_ok he) he
  have h1:=a1 k hk
  rw [p k hk] at h1
  simp only [Option.some.injEq,Prod.mk.injEq] at h1
  obtain ⟨rfl,rfl,rfl,rfl⟩:=h1
  exact a2 k hk
theorem num_piece {e : E3} (he : e.ok) (hn : Nov e) {v n : Int} (hv : 0≤v) (h1 : v < n) (h2 : n≤4294967296) (hl : e.len < 3990) {b : Nat} (ht : n≤2 ^ b) :
    ∃ e' : E3,(∀ k,5010≤k→coder_PutNum.f k e.1 e.2.1 e.2.2 v n=some (e'.1,e'.2.1,e'.2.2,0))∧(∀ k,5010≤k→psalteryref05_PutNum.f k e.2.1 (all e) v n=some (e'.2.1,all e',0))∧Piece e e' 2 b ∧
      ∀ F,Bytes F→F.length≤9000→Ext F e'→tn F (Cd F e) e.2.1 ((e.len+4 : Nat) : Int) n=(Cd F e',e'.2.1,((e'.len+4 : Nat) : Int),v):=by
  have key : ∃ e' : E3,(∀ k,5010≤k→coder_PutNum.f k e.1 e.2.1 e.2.2 v n=some (e'.1,e'.2.1,e'.2.2,0))∧Piece e e' 2 b∧Run e (chs v n) e' := by
    by_cases hs : n≤65536
    · obtain ⟨e',p,s,x⟩:=st_of_put he hn (fair_small hv h1 hs) (by omega)
      refine ⟨e',fun k hk=>by rw [putNum_small (own_ok he) hv h1 hs p k hk,if_pos rfl],(Piece.st he s x ht).more (by omega) (Nat.le_refl _), ?_⟩
      unfold chs;rw [if_pos hs];exact .cons s (.nil _)
    · obtain ⟨e1,p1,s1,x1⟩:=st_of_put he hn (fair_high hv h1 h2) (by omega)
      have hb : 16≤b:=by
        apply Decidable.byContradiction
        intro hc
        have : (2 : Int) ^ b≤2 ^ 15:=by
          have h3 : (2 : Nat) ^ b≤2 ^ 15:=Nat.pow_le_pow_right (by decide) (by omega)
          have h4:=Int.ofNat_le.2 h3
          rw [Int.natCast_pow,Int.natCast_pow] at h4
          exact h4
        have : (2 : Int) ^ 15=32768:=by decide
        omega
      obtain ⟨c,rfl⟩ : ∃ c,b=c+16:=⟨b - 16,by omega⟩
      have hh : half1 n≤2 ^ c:=by
        rw [Int.pow_add,show (2 : Int) ^ 16=65536 from by decide] at ht
        unfold half1
        generalize (2 : Int) ^ c=z at *
        omega
      have l1:=(Piece.st he s1 x1 hh).len
      obtain ⟨e2,p2,s2,x2⟩:=st_of_put s1.ok x1 (fair_low v) (by omega)
      refine ⟨e2,fun k hk=>by rw [putNum_great2 (own_ok he) hv h1 (by omega) h2 p1 p2 k hk,if_pos rfl],(Piece.st he s1 x1 hh).trans (Piece.st s1.ok s2 x2 (b:=16) (by decide)), ?_⟩
      unfold chs;rw [if_neg hs];exact .cons s1 (.cons s2 (.nil _))
  obtain ⟨e',p,q,r⟩:=key
  refine ⟨e',p,fun k hk => ?_,q,fun F hb hF hx=>tn_run he hv h1 h2 r hb hF hx⟩
  obtain ⟨lo',rg',out',c,a1,_,a2,_⟩:=putNum_same (v:=v) (n:=n) (own_ok he) he hv (by omega)
  have h3:=a1 k hk
  rw [p k hk] at h3
  simp only [Option.some.injEq,Prod.mk.injEq] at h3
  obtain ⟨rfl,rfl,rfl,rfl⟩:=h3
  exact a2 k hk
end Go.Proofs.Ytkaoiblgfpphoaa.Cod
/- Gains that are put, as pieces of what is put: they are taken back as they were. -/
namespace Go.Proofs.Ytkaoiblgfpphoaa.Gan
open Go.RowKit Go.Proofs.YtkaoiblgfpphoaaW.PrintWords Go.Proofs.Ytkaoiblgfpphoaa.Prt Go.Proofs.Ytkaoiblgfpphoaa.Val Go.Proofs.Ytkaoiblgfpphoaa.Cod
set_option linter.unusedVariables false
set_option linter.unusedSimpArgs false
theorem put1_piece {e : E3} (he : e.ok) (hn : Nov e) {g a : Int} (I : Bool) (g0 : 0≤g) (g1 : g≤44) (a0 : 0≤a) (a1 : a≤44) (hl : e.len < 3980) :
    ∃ e' : E3,(∀ k,5020≤k→gain_put.f k e.1 e.2.1 e.2.2 g a I=some (e'.1,e'.2.1,e'.2.2,0))∧Piece e e' 3 (if I=true then 6 else 9) ∧
      ∀ F,Bytes F→F.length≤9000→Ext F e'→gt1 F (Cd F e) e.2.1 ((e.len+4 : Nat) : Int) a I=(Cd F e',e'.2.1,((e'.len+4 : Nat) : Int),g):=by
  cases I with
  | true =>
    obtain ⟨e',p,_,q,r⟩:=num_piece he hn (v:=g) (n:=45) g0 (by omega) (by decide) (by omega) (b:=6) (by decide)
    refine ⟨e',fun k hk => ?_,q.more (by omega) (by simp),fun F hb hF hx => ?_⟩
    · unfold gain_put.f
      rw [if_pos rfl,u64w g0 (by omega),p k (by omega),Option.bind_some]
    · unfold gt1
      rw [if_pos rfl,r F hb hF hx]
  | false =>
    have j0 : ∀ (k : Nat) (x : Bool),gain_put.f (k+1) e.1 e.2.1 e.2.2 g a false=gain_put.j0 (k+1) g (g - a) (decide (-3≤g - a∧g - a≤3)) e.1 e.2.1 e.2.2:=fun k x=>by
      unfold gain_put.f
      rw [if_neg (by simp),i64w (x:=g - a) (by omega) (by omega)]
      by_cases h3 : g - a ≥ -3
      · rw [if_pos h3]
        congr 1
        rw [Bool.eq_iff_iff];simp;omega
      · rw [if_neg h3]
        congr 1
        rw [eq_comm,decide_eq_false_iff_not];omega
    by_cases hd : -3≤g - a∧g - a≤3
    · obtain ⟨e',p,_,q,s⟩:=put_piece he hn (lo:=g - a+3) (hi:=g - a+3+1) (tot:=8) ⟨by omega,by omega,by omega,by decide⟩ (by omega) (b:=3) (by decide)
      refine ⟨e',fun k hk => ?_,q.more (by omega) (by simp),fun F hb hF hx => ?_⟩
      · obtain ⟨k,rfl⟩ : ∃ m,k=m+1:=⟨k - 1,by omega⟩
        rw [j0 k true,decide_eq_true hd]
        simp only [gain_put.j0]
        rw [if_pos trivial,i64w (x:=g - a+3) (by omega) (by omega),i64w (x:=g - a+3+1) (by omega) (by omega),p k (by omega),Option.bind_some]
      · obtain ⟨h0,h1,h2⟩:=ext_back he s hb hx
        have hg:=gt_in he.2.2.1 he.2.2.2.1 s.fair h1 h2
        unfold gt1
        rw [if_neg (by simp)]
        dsimp only
        rw [show gt (Cd F e) e.2.1 8=g - a+3 by omega,if_neg (by omega),tk_eq he s hb hx,if_neg (by omega),if_neg (by omega),show a+(g - a+3) - 3=g by omega]
    · obtain ⟨e1,p1,_,q1,s1⟩:=put_piece he hn (lo:=7) (hi:=8) (tot:=8) ⟨by decide,by decide,by decide,by decide⟩ (by omega) (b:=3) (by decide)
      have l1:=q1.len
      obtain ⟨e',p,_,q,r⟩:=num_piece q1.ok q1.nov (v:=g) (n:=45) g0 (by omega) (by decide) (by omega) (b:=6) (by decide)
      refine ⟨e',fun k hk => ?_,(q1.trans q).more (by omega) (by simp),fun F hb hF hx => ?_⟩
      · obtain ⟨k,rfl⟩ : ∃ m,k=m+1:=⟨k - 1,by omega⟩
        rw [j0 k true,decide_eq_false hd]
        simp only [gain_put.j0]
        rw [if_neg (by simp),p1 k (by omega),Option.bind_some]
        dsimp only
        rw [if_pos rfl,u64w g0 (by omega),p k (by omega),Option.bind_some]
      · have hx1:=q.ext F hb hx
        obtain ⟨h0,h1,h2⟩:=ext_back he s1 hb hx1
        have hg:=gt_in he.2.2.1 he.2.2.2.1 s1.fair h1 h2
        unfold gt1
        rw [if_neg (by simp)]
        dsimp only
        rw [show gt (Cd F e) e.2.1 8=7 by omega,if_pos rfl,show (7 : Int)+1=8 from rfl,tk_eq he s1 hb hx1]
        dsimp only
        rw [r F hb hF hx]
theorem rd_ahead {a : List Int} {I : Bool} (ha : I=true∨rt a=true) (i : Int) : 0≤(if I=true then 0 else rd a i)∧(if I=true then 0 else rd a i)≤44:=by
  cases I with
  | true=>simp
  | false=>rw [if_neg (by simp)];exact rt_rd (ha.resolve_left (by simp)) i
theorem gt1_intra {F : List Int} {c r t a b : Int} : gt1 F c r t a true=gt1 F c r t b true:=by unfold gt1;rw [if_pos rfl,if_pos rfl]
theorem puts_piece {g a : List Int} {I : Bool} (hg : rt g=true) (ha : I=true∨rt a=true) (X1 X2 : Int) (X3 : List Int) : ∀ (d i : Nat) (e : E3),i+d=5→e.ok→Nov e→e.len+6 * d < 3980 →
    ∃ e' : E3,(∀ k,5030+2 * d≤k→gain_Put.l0 k g a I (i : Int) X1 X2 X3 e.1 e.2.1 e.2.2=some (e'.1,e'.2.1,e'.2.2,0))∧Piece e e' (3 * d) ((if I=true then 6 else 9) * d) ∧
      ∀ F,Bytes F→F.length≤9000→Ext F e'→gts F a I d (i : Int) (Cd F e) e.2.1 ((e.len+4 : Nat) : Int) (g.take i)=(Cd F e',e'.2.1,((e'.len+4 : Nat) : Int),g)
  | 0,i,e,h,he,hn,hl=>by
    have hgl:=rt_len hg
    refine ⟨e,fun k hk => ?_,(Piece.nil he hn).more (by omega) (by omega),fun F hb hF hx => ?_⟩
    · obtain ⟨k,rfl⟩ : ∃ m,k=m+1:=⟨k - 1,by omega⟩
      simp only [gain_Put.l0]
      rw [if_neg (by omega)]
    · rw [gts,List.take_of_length_le (by omega)]
  | d+1,i,e,h,he,hn,hl=>by
    have hgl:=rt_len hg
    have hgi:=rt_rd hg (i : Int)
    have hai:=rd_ahead ha (i : Int)
    obtain ⟨e1,p1,q1,r1⟩:=put1_piece he hn I hgi.1 hgi.2 hai.1 hai.2 (by omega)
    have l1:=q1.len
    obtain ⟨e',p,q,r⟩:=puts_piece hg ha X1 X2 X3 d (i+1) e1 (by omega) q1.ok q1.nov (by omega)
    refine ⟨e',fun k hk => ?_,(q1.trans q).more (by omega) (by rw [Nat.mul_add,Nat.mul_one,Nat.add_comm];exact Nat.le_refl _),fun F hb hF hx => ?_⟩
    · obtain ⟨k,rfl⟩ : ∃ m,k=m+2:=⟨k - 2,by omega⟩
      have j2 : gain_Put.j2 (k+1) g a I (i : Int) (if I=true then 0 else rd a (i : Int)) (i : Int) X1 X2 X3 e.1 e.2.1 e.2.2=some (e'.1,e'.2.1,e'.2.2,0):=by
        simp only [gain_Put.j2]
        rw [if_pos (by omega),if_pos (by omega),p1 k (by omega),Option.bind_some]
        dsimp only
        rw [if_pos rfl,i64w (by omega) (by omega),show (i : Int)+1=((i+1 : Nat) : Int) by omega]
        exact p k (by omega)
      simp only [gain_Put.l0]
      rw [if_pos (by omega)]
      cases I with
      | true=>rw [if_pos rfl];exact j2
      | false =>
        have hla:=rt_len (ha.resolve_left (by simp))
        rw [if_neg (by simp),if_pos (by omega),if_pos (by omega)]
        exact j2
    · have hx1:=q.ext F hb hx
      have e1' : gt1 F (Cd F e) e.2.1 ((e.len+4 : Nat) : Int) (rd a (i : Int)) I=(Cd F e1,e1.2.1,((e1.len+4 : Nat) : Int),rd g (i : Int)):=by
        have:=r1 F hb hF hx1
        cases I with
        | true=>rw [gt1_intra (b:=if true=true then 0 else rd a (i : Int))];exact this
        | false=>exact this
      rw [gts,e1']
      dsimp only
      have ht : g.take i ++ [rd g (i : Int)]=g.take (i+1):=(take_more (show i < g.length by omega)).symm
      rw [ht,show (i : Int)+1=((i+1 : Nat) : Int) by omega]
      exact r F hb hF hx
theorem put_piece {g a : List Int} {I : Bool} (hg : rt g=true) (ha : I=true∨rt a=true) (hal : a.length≤100) {e : E3} (he : e.ok) (hn : Nov e) (hl : e.len < 3900) :
    ∃ e' : E3,(∀ k,5100≤k→gain_Put.f k e.1 e.2.1 e.2.2 g a I=some (e'.1,e'.2.1,e'.2.2,0))∧(∀ k,5100≤k→psalteryref11_Put.f k e.2.1 (all e) g a I=some (e'.2.1,all e',0))∧Piece e e' 15 (if I=true then 30 else 45) ∧
      ∀ F,Bytes F→F.length≤9000→Ext F e'→gts F a I 5 0 (Cd F e) e.2.1 ((e.len+4 : Nat) : Int) []=(Cd F e',e'.2.1,((e'.len+4 : Nat) : Int),g):=by
  have hgl:=rt_len hg
  have pb : ∀ k,coder_Put.f k e.1 e.2.1 e.2.2 0 1 0=some (e.1,e.2.1,e.2.2,1):=fun k=>put_bad k (own_ok he) (fun h=>by have:=h.2.2.1;omega)
  obtain ⟨e',p,q,r⟩:=puts_piece hg ha e.1 e.2.1 e.2.2 5 0 e rfl he hn (by omega)
  have hp : ∀ k,5100≤k→gain_Put.f k e.1 e.2.1 e.2.2 g a I=some (e'.1,e'.2.1,e'.2.2,0):=fun k hk=>by
    obtain ⟨k,rfl⟩ : ∃ m,k=m+1:=⟨k - 1,by omega⟩
    have key : gain_Put.j0 (k+1) g a I false e.1 e.2.1 e.2.2 e.1 e.2.1 e.2.2=some (e'.1,e'.2.1,e'.2.2,0):=by
      simp only [gain_Put.j0]
      rw [if_neg (by simp)]
      exact p k (by omega)
    unfold gain_Put.f
    rw [pb,Option.bind_some,right_ok g (by omega) _ (by omega),Option.bind_some,if_pos hg]
    cases I with
    | true=>rw [if_pos rfl];exact key
    | false =>
      rw [if_neg (by simp),right_ok a (by omega) _ (by omega),Option.bind_some,ha.resolve_left (by simp)]
      exact key
  refine ⟨e',hp,fun k hk => ?_,q.more (by omega) (by cases I <;> simp),fun F hb hF hx => ?_⟩
  · obtain ⟨lo',rg',out',c,a1,a2,_⟩:=puts_same (g:=g) (a:=a) I (by omega) hal (own_ok he) he
    have h1:=a1 k hk
    rw [hp k hk] at h1
    simp only [Option.some.injEq,Prod.mk.injEq] at h1
    obtain ⟨rfl,rfl,rfl,rfl⟩:=h1
    exact a2 k hk
  · have:=r F hb hF hx
    rw [List.take_zero] at this
    exact this
end Go.Proofs.Ytkaoiblgfpphoaa.Gan
