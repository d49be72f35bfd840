import Derived.Test.YtnmbndkojpjkmaaZPackAnySh
namespace Go.Proofs.Ytnmbndkojpjkmaa.Prt
open Go.RowKit Go.Proofs.YtnmbndkojpjkmaaW.PrintWords Go.Proofs.YtnmbndkojpjkmaaW.PrintLast Go.Proofs.YtnmbndkojpjkmaaW.PrintMore
set_option linter.unusedVariables false
theorem yE {α : Type} [BEq α] [LawfulBEq α] {a b : α} (h : a=b) : (a == b)=true∧(a != b)=false:=⟨beq_iff_eq.mpr h,bne_eq_false_iff_eq.mpr h⟩
theorem yF {α : Type} [BEq α] [LawfulBEq α] {a b : α} (h : ¬ a=b) : (a == b)=false∧(a != b)=true:=⟨beq_eq_false_iff_ne.mpr h,bne_iff_ne.mpr h⟩
theorem yD {p : Prop} [Decidable p] (h : p) : decide p=true:=decide_eq_true h
theorem yG {p : Prop} [Decidable p] (h : ¬ p) : decide p=false:=decide_eq_false h
theorem yDl {a b : Int} (h : a ≥ b) : decide (b≤a)=true:=decide_eq_true h
theorem yGl {a b : Int} (h : ¬ a ≥ b) : decide (b≤a)=false:=decide_eq_false h
theorem yDs {a b : Int} (h : a > b) : decide (b < a)=true:=decide_eq_true h
theorem yGs {a b : Int} (h : ¬ a > b) : decide (b < a)=false:=decide_eq_false h
section
variable {α : Type} {D : Kd α} {e base g n m : Nat} {ok : Nat→Prop} {v : Value} {xs : List α} {W W2 w : World} {o : Obj}
theorem yRq {P : Prop} (hq : World.drewN W n=W2) (h : Aside0 P) (k : P→Kd.R D e (World.drewN W n) base ok v xs:=by intro h_;exact yr (Aside0.mk h_)) : Aside0 (Kd.R D e W2 base ok v xs):=⟨hq ▸ k h.out⟩
theorem yVq {P : Prop} (hq : World.drewN W n=W2) (h : Aside0 P) (k : P→Kd.V D e (World.drewN W n) base ok v xs:=by intro h_;exact yr (Aside0.mk h_)) : Aside0 (Kd.V D e W2 base ok v xs):=⟨hq ▸ k h.out⟩
theorem ySq {P : Prop} (hq : World.drewN W n=W2) (h : Aside0 P) (k : P→Kd.S D e (World.drewN W n) base ok v xs:=by intro h_;exact yr (Aside0.mk h_)) : Aside0 (Kd.S D e W2 base ok v xs):=⟨hq ▸ k h.out⟩
theorem ykq {W0 : World} (hq : World.drewN W n=W2) (h : Aside0 (W0.heap[g]? = some o)) (k : W0.heap[g]? = some o→(World.drewN W n).heap[g]? = some o:=by intro h_;exact yk (Aside0.mk h_)) : Aside0 (W2.heap[g]? = some o):=⟨hq ▸ k h.out⟩
theorem ysq (hq : World.drewN W n=W2) (h : Below m w (World.drewN W n):=by exact yhb) : Aside0 (Below m w W2):=⟨hq ▸ h⟩
end
theorem yat {i n : Int} {X : Prop} (f : 0≤i→i < n→X) (h0 : 0≤i:=by exact yt) (h1 : i < n:=by exact yt) : X∧(0≤i)=True∧(i < n)=True:=⟨f h0 h1,eq_true h0,eq_true h1⟩
section
variable {β : Type} {A B r : β}
theorem yId {p : Prop} [Decidable p] (h : (if p then A else B)=r) : (decide p=true∧A=r)∨(decide p=false∧B=r):=by
 by_cases c : p
 ·
  rw [if_pos c] at h;exact .inl ⟨decide_eq_true c,h⟩
 ·
  rw [if_neg c] at h;exact .inr ⟨decide_eq_false c,h⟩
theorem yIl {a b : Int} (h : (if a ≥ b then A else B)=r) : (decide (b≤a)=true∧A=r)∨(decide (b≤a)=false∧B=r):=yId h
theorem yIs {a b : Int} (h : (if a > b then A else B)=r) : (decide (b < a)=true∧A=r)∨(decide (b < a)=false∧B=r):=yId h
end
section
variable {w : World} {e base : Nat} {ok : Nat→Prop} {A : Option Addr} {n c : Nat} {xs : List (List Int)}
theorem ysl (h : Kd.S (Kd.slice 3 (Kd.int .i64)) e w base ok (.slice A xs.length c) xs) (i : Int) (h0 : 0≤i:=by exact yt) (h1 : i < xs.length:=by exact yt) :
  ∃ ad A0 c0,A=some ad∧w.cell? (ad.add i.toNat)=some (.slice A0 (rd_L1 xs i).length c0)∧Aside0 ((rd_L1 xs i).length≤c0)∧Aside0 ((Kd.int .i64).C w A0 (rd_L1 xs i).length (rd_L1 xs i))∧Aside0 (Kd.R (Kd.int .i64) 3 w base (fun k=>ok k∧some k≠(Value.slice A xs.length c).ownBlock) (.slice A0 (rd_L1 xs i).length c0) (rd_L1 xs i))∧(0≤i)=True∧(i < xs.length)=True:=by
 obtain ⟨ad,A0,c0,e,hx,hl,hi⟩:=at_L1 (Kd.S_reads' h).2.2 i h0 h1
 cases e
 obtain ⟨ce,hce,hMe,hcc⟩:=Kd.S_get h [] i h0 h1
 obtain ⟨ve,rfl,ge⟩:=hMe
 have hv:=hcc 0 _ rfl
 rw [Nat.add_zero,show ((Kd.slice 3 (Kd.int .i64))).sz=1 from rfl,Nat.mul_one] at hv
 replace hv:=Option.some.inj (hv.symm.trans hx)
 rw [hv] at ge
 exact ⟨ad,A0,c0,rfl,hx,⟨hl⟩,⟨hi⟩,⟨ge⟩,eq_true h0,eq_true h1⟩
end
theorem yLm {P : Prop} (h : P:=by repeat' with_reducible first|apply ih0|apply ih1|apply ih2|apply ih3|apply ih4|apply ih5|apply ih6|apply ih7|apply ih8|apply ih9|apply ih10|apply ih11|apply ih12|apply ih13|apply ih14|apply ih15|apply i0|apply i1|apply i2|apply i3|apply i4|apply i5|apply i6|apply i7|apply i8|apply i9|apply i10|apply i11|apply i12|apply yLr|apply yLn|apply yLi|apply yLb|intro _) : P:=h
end Go.Proofs.Ytnmbndkojpjkmaa.Prt
