import Derived.Test.YtifkhfnmbiefaaaZToneWritesSh
namespace Go.Proofs.Ytifkhfnmbiefaaa.Prt
open Go.RowKit Go.Proofs.YtifkhfnmbiefaaaW.PrintWords Go.Proofs.YtifkhfnmbiefaaaW.PrintLast Go.Proofs.YtifkhfnmbiefaaaW.PrintMore
set_option linter.unusedVariables false
theorem yE {α : Type} [BEq α] [LawfulBEq α] {a b : α} (h : a=b) : (a == b)=true∧(a != b)=false:=⟨beq_iff_eq.mpr h,bne_eq_false_iff_eq.mpr h⟩
theorem yF {α : Type} [BEq α] [LawfulBEq α] {a b : α} (h : ¬ a=b) : (a == b)=false∧(a != b)=true:=⟨beq_eq_false_iff_ne.mpr h,bne_iff_ne.mpr h⟩
theorem yD {p : Prop} [Decidable p] (h : p) : decide p=true:=decide_eq_true h
theorem yG {p : Prop} [Decidable p] (h : ¬ p) : decide p=false:=decide_eq_false h
theorem yDl {a b : Int} (h : a ≥ b) : decide (b≤a)=true:=decide_eq_true h
theorem yGl {a b : Int} (h : ¬ a ≥ b) : decide (b≤a)=false:=decide_eq_false h
theorem yDs {a b : Int} (h : a > b) : decide (b < a)=true:=decide_eq_true h
theorem yGs {a b : Int} (h : ¬ a > b) : decide (b < a)=false:=decide_eq_false h
section
variable {α : Type} {D : Kd α} {e base g n m : Nat} {ok : Nat→Prop} {v : Value} {xs : List α} {W W2 w : World} {o : Obj}
theorem yRq {P : Prop} (hq : World.drewN W n=W2) (h : Aside0 P) (k : P→Kd.R D e (World.drewN W n) base ok v xs:=by intro h_;exact yr (Aside0.mk h_)) : Aside0 (Kd.R D e W2 base ok v xs):=⟨hq ▸ k h.out⟩
theorem yVq {P : Prop} (hq : World.drewN W n=W2) (h : Aside0 P) (k : P→Kd.V D e (World.drewN W n) base ok v xs:=by intro h_;exact yr (Aside0.mk h_)) : Aside0 (Kd.V D e W2 base ok v xs):=⟨hq ▸ k h.out⟩
theorem ySq {P : Prop} (hq : World.drewN W n=W2) (h : Aside0 P) (k : P→Kd.S D e (World.drewN W n) base ok v xs:=by intro h_;exact yr (Aside0.mk h_)) : Aside0 (Kd.S D e W2 base ok v xs):=⟨hq ▸ k h.out⟩
theorem ykq {W0 : World} (hq : World.drewN W n=W2) (h : Aside0 (W0.heap[g]? = some o)) (k : W0.heap[g]? = some o→(World.drewN W n).heap[g]? = some o:=by intro h_;exact yk (Aside0.mk h_)) : Aside0 (W2.heap[g]? = some o):=⟨hq ▸ k h.out⟩
theorem ysq (hq : World.drewN W n=W2) (h : Below m w (World.drewN W n):=by exact yhb) : Aside0 (Below m w W2):=⟨hq ▸ h⟩
end
section
variable {β : Type} {A B r : β}
end
section
variable {w : World} {e base : Nat} {ok : Nat→Prop} {A : Option Addr} {n c : Nat} {xs : List (List Int)}
end
end Go.Proofs.Ytifkhfnmbiefaaa.Prt
