/- What a law's parameter reads as: typed data out of the row's own reading. A structure of lemmas, kind by kind. -/
import Derived.Test.YtnmbndkojpjkmaaZPackRightsWMore
import Derived.Lib.SmallJoins
import Derived.ChangeSlices
namespace Go.Proofs.Ytnmbndkojpjkmaa.Rd
open Go.ChangeShapes Go.WideShapes Go.Joins Go.Deep Go.Proofs.YtnmbndkojpjkmaaW.PrintWords

structure Opens {α : Type} (P : Program) (t : TypeId) (d : Kd α) (ok : α→Prop) : Prop where
  cells : P.cellsOf t=d.sz
  opens : ∀ {H : Type} {enc : TypeId × Value → H} {w : World} {spare : Nat → Bool} {held : Bool} {fuel : Nat} {cs : List Value} {x : DataW H × List MemPlace},
    DataW.trod enc P w 0 spare held fuel t cs=some x→∃ a : α,d.K w a cs∧ok a

theorem list_of {α : Type} {Q : Nat→α→Prop} : ∀ n : Nat,(∀ i,i < n→∃ a,Q i a)→∃ xs : List α,xs.length=n∧∀ i a,xs[i]? = some a→Q i a
  | 0,_=>⟨[],rfl,fun i a h=>by simp at h⟩
  | n+1,h=>by
    obtain ⟨xs,hl,hx⟩:=list_of n (fun i hi=>h i (by omega))
    obtain ⟨a,ha⟩:=h n (by omega)
    refine ⟨xs ++ [a],by simp [hl],fun i b hb => ?_⟩
    rcases Nat.lt_or_ge i n with hi|hi
    · rw [List.getElem?_append_left (by omega)] at hb
      exact hx i b hb
    · have h1:=(List.getElem?_eq_some_iff.1 hb).1
      rw [List.length_append,List.length_singleton] at h1
      obtain rfl : i=n:=by omega
      rw [List.getElem?_append_right (by omega)] at hb
      simp [hl] at hb
      exact hb ▸ ha

variable {P : Program} {t e : TypeId}
theorem Opens.int {k : IntKind} (ht : P.underlying t=some (.int k)) (hc : P.cellsOf t=1) : Opens P t (Kd.int k) (fun a=>(Lit.int k a).wf=true) :=
  ⟨hc,fun h=>by obtain ⟨n,rfl,_,hw⟩:=DataW.trod_int ht h;exact ⟨n,rfl,hw⟩⟩
theorem Opens.bool (ht : P.underlying t=some .bool) (hc : P.cellsOf t=1) : Opens P t Kd.bool (fun _=>True) :=
  ⟨hc,fun h=>by obtain ⟨b,rfl,_⟩:=DataW.trod_bool ht h;exact ⟨b,rfl,trivial⟩⟩
theorem Opens.slice {α : Type} {d : Kd α} {ok : α→Prop} (ht : P.underlying t=some (.slice e)) (hc : P.cellsOf t=1) (he : Opens P e d ok) :
    Opens P t (Kd.slice e d) (fun l=>l.length≤maxLen∧∀ a ∈ l,ok a):=by
  refine ⟨hc,fun {H enc w spare held fuel cs x} h => ?_⟩
  rcases DataW.trod_slice ht h with ⟨rfl,_⟩ | ⟨a,len,cap,elems,rest,n,_,rfl,_,_,hl,hm,hlen,hel,_,_⟩
  · exact ⟨[],⟨none,0,rfl,Nat.le_refl _,Kd.C_nil _ _⟩,by simp [maxLen],by simp⟩
  · have each : ∀ i,i < len→∃ b, ∃ c,w.cells? 0 (a.add (i * P.cellsOf e)) (P.cellsOf e)=some c∧d.K w b c∧ok b:=by
      intro i hi
      have h1:=hel i hi
      rw [List.getElem?_eq_getElem (by omega)] at h1
      obtain ⟨c,hc1,hc2⟩:=Option.bind_eq_some_iff.1 h1
      obtain ⟨b,hb,hok⟩:=he.opens hc2
      exact ⟨b,c,hc1,hb,hok⟩
    obtain ⟨xs,hxl,hx⟩:=list_of len each
    refine ⟨xs,⟨some a,cap,by rw [hxl],by omega,rfl,by rw [hxl];simp only [maxLen] at hm;omega,fun _=>⟨a,rfl,fun j p hj => ?_⟩⟩,by omega,fun b hb => ?_⟩
    · obtain ⟨c,hc1,hK,_⟩:=hx j p hj
      obtain ⟨_,hcl,hcc⟩:=World.cells?_some hc1
      refine ⟨c,by rw [hcl,he.cells],hK,fun i u hu => ?_⟩
      have hi : i < c.length:=(List.getElem?_eq_some_iff.1 hu).1
      rw [← hu, ← hcc i (by omega), ← he.cells]
      rw [Go.Proofs.YtnmbndkojpjkmaaW.PrintWords.add_add]
    · obtain ⟨i,hi⟩:=List.getElem?_of_mem hb
      obtain ⟨_,_,_,hok⟩:=hx i b hi
      exact hok
theorem Opens.agg3 {α β γ : Type} {d0 : Kd α} {d1 : Kd β} {d2 : Kd γ} {ok0 : α→Prop} {ok1 : β→Prop} {ok2 : γ→Prop} {f0 f1 f2 : Field} (hs : P.underlying t=some (.struct #[f0,f1,f2])) (hone : oneCellFields P #[f0,f1,f2]=true) (hC : P.cellsOf t=3)
    (h0 : Opens P f0.type d0 ok0) (h1 : Opens P f1.type d1 ok1) (h2 : Opens P f2.type d2 ok2) : Opens P t (Kd.pair d0 (Kd.pair d1 d2)) (fun a=>ok0 a.1∧ok1 a.2.1∧ok2 a.2.2):=by
  obtain ⟨o0,k0⟩:=hone_of hone 0 f0 rfl
  obtain ⟨o1,k1⟩:=hone_of hone 1 f1 rfl
  obtain ⟨o2,k2⟩:=hone_of hone 2 f2 rfl
  refine ⟨by rw [hC];show 3=d0.sz+(d1.sz+d2.sz);rw [← h0.cells, ← h1.cells, ← h2.cells,k0,k1,k2],fun {H enc w spare held fuel cs x} h => ?_⟩
  obtain ⟨y0,y1,y2,n,_,hl,g0,g1,g2⟩:=trod_struct3 hs h
  rw [hC] at hl
  obtain ⟨c0,c1,c2,rfl⟩ : ∃ c0 c1 c2,cs = [c0,c1,c2]:=by
    match cs,hl with
    | [c0,c1,c2],_=>exact ⟨c0,c1,c2,rfl⟩
  rw [o0,k0] at g0
  rw [o1,k1] at g1
  rw [o2,k2] at g2
  obtain ⟨a,ha,ha'⟩:=h0.opens (cs := [c0]) g0
  obtain ⟨b,hb,hb'⟩:=h1.opens (cs := [c1]) g1
  obtain ⟨c,hc,hc'⟩:=h2.opens (cs := [c2]) g2
  exact ⟨(a,b,c),⟨[c0], [c1,c2],rfl,ha, [c1], [c2],rfl,hb,hc⟩,ha',hb',hc'⟩
theorem Opens.mono {α : Type} {d : Kd α} {ok ok' : α→Prop} (h : Opens P t d ok) (hok : ∀ a,ok a→ok' a) : Opens P t d ok' :=
  ⟨h.cells,fun hx=>by obtain ⟨a,ha,ho⟩:=h.opens hx;exact ⟨a,ha,hok a ho⟩⟩
end Go.Proofs.Ytnmbndkojpjkmaa.Rd
