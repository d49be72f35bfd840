import Derived.Test.YtifkhfnmbiefaaaZToneWritesPrt0
import Derived.Test.YtifkhfnmbiefaaaZToneWritesWMore
import Derived.Test.YtifkhfnmbiefaaaZToneWritesWKept
namespace Go.Proofs.Ytifkhfnmbiefaaa.Prt
open Go.RowKit Go.Proofs.YtifkhfnmbiefaaaW.PrintWords Go.Proofs.YtifkhfnmbiefaaaW.PrintLast Go.Proofs.YtifkhfnmbiefaaaW.PrintMore
set_option linter.unusedVariables false
theorem yhb {P : Prop} (h : P:=by repeat (first|(with_reducible first|exact HB.out|apply below_alloc|apply pw_below_drewN|apply below_drew1|refine below_set ?_ (Aside0.out (by assumption)))|exact HB.out)) : P:=h
theorem yk {W0 W : World} {g : Nat} {o : Obj} (h : Aside0 (W0.heap[g]? = some o)) (f : W0.heap[g]? = some o→W.heap[g]? = some o:=by intro h_;first|(with_reducible exact h_)|((with_reducible repeat (first|refine blk_drewN ?_ _|refine blk_drew ?_|refine blk_alloc ?_ _|apply blk_put|apply blk_far));(exact h_);all_goals first|exact Aside0.out (by assumption)|(simp only [List.setIfInBounds_toArray,List.set_cons_zero,List.set_cons_succ];done)|(simp only [List.setIfInBounds_toArray,List.set_cons_zero,List.set_cons_succ];rfl)|rfl)) : W.heap[g]? = some o:=f h.out
theorem ykp {P Q : Prop} (h : Aside0 P) (f : P→Q:=by intro h_;first|(with_reducible exact h_)|((with_reducible repeat (first|refine blk_drewN ?_ _|refine blk_drew ?_|refine blk_alloc ?_ _|apply blk_put|apply blk_far));(exact h_);all_goals first|exact Aside0.out (by assumption)|(simp only [List.setIfInBounds_toArray,List.set_cons_zero,List.set_cons_succ];done)|(simp only [List.setIfInBounds_toArray,List.set_cons_zero,List.set_cons_succ];rfl)|rfl)) : Q:=f h.out
theorem yr {P Q : Prop} (h : Aside0 P) (f : P→Q:=by intro h_;first|(with_reducible exact h_)|((with_reducible repeat (first|exact h_|apply Kd.R_alloc|apply Kd.R_drewN|apply Kd.R_drew|apply Kd.V_alloc|apply Kd.V_drewN|apply Kd.V_drew|apply Kd.S_alloc|apply Kd.S_drewN|apply Kd.S_drew|apply Kd.N_alloc|apply Kd.N_drewN|apply Kd.N_drew));done)|((with_reducible repeat (first|apply Kd.R_alloc|apply Kd.R_drewN|apply Kd.R_drew|apply Kd.V_alloc|apply Kd.V_drewN|apply Kd.V_drew|apply Kd.S_alloc|apply Kd.S_drewN|apply Kd.S_drew|apply Kd.N_alloc|apply Kd.N_drewN|apply Kd.N_drew));exact h_)) : Q:=f h.out
theorem yrc {P Q : Prop} (h : Aside0 P) (f : P→Q:=by intro h_;repeat (first|(with_reducible exact h_)|(with_reducible refine Kd.C_alloc ?_ _)|(with_reducible refine Kd.C_drewN ?_ _)|(with_reducible refine Kd.C_drew ?_)|exact h_)) : Q:=f h.out
theorem yq {P : Prop} (h : P:=by first|rfl|(simp;done)|(simp [*];done)) : P:=h
theorem ye {P : Prop} (h : P:=by first|rfl|(simp [errW_none,errW_some] <;> rfl)|(simp [*,errW_none,errW_some] <;> rfl)) : P:=h
theorem yo {P : Prop} (h : P:=by first|omega|exact Nat.le_refl _) : P:=h
theorem yd {P : Prop} (h : P:=by repeat (first|exact Drawn0.refl _|apply Drawn0.step)) : P:=h
theorem yn {P : Prop} (h : P:=by first|exact Kd.S_nil _ _ _ _ _|exact Kd.N_nil _ _ _ _ _|exact Kd.V_nil _ _ _ _ _|exact Kd.Q_nil _ _ _ _ _|exact Kd.R_nil _ _ _ _ _) : P:=h
theorem ya {P : Prop} (h : P:=by (try simp only [List.map_toArray,List.map_cons,List.map_nil]);first|done|rfl|(simp only [List.length_drop,List.length_take];rfl)) : P:=h
theorem yt {p : Prop} [Decidable p] (h : decide p=true:=by first|(with_reducible assumption)|assumption) : p:=of_decide_eq_true h
theorem yce {P Q : Prop} (h : P) (f : P→Q:=by intro h_;repeat (first|exact h_|(with_reducible refine Kd.C_alloc ?_ _)|(with_reducible refine Kd.C_drewN ?_ _)|(with_reducible refine Kd.C_drew ?_))) : Q:=f h
theorem ycb {P Q : Prop} (h : Aside0 P) (f : P→Q:=by intro h_;repeat (first|exact (Kd.C_below h_ HB.out)|(with_reducible refine Kd.C_alloc ?_ _)|(with_reducible refine Kd.C_drewN ?_ _)|(with_reducible refine Kd.C_drew ?_))) : Q:=f h.out
theorem ybi {α β : Type} {o : Option α} {f : α→Option β} {r : β} (h : o.bind f=some r) : ∃ a,Aside0 (o=some a)∧f a=some r:=by
  obtain ⟨a,h1,h2⟩:=Option.bind_eq_some_iff.mp h
  exact ⟨a,⟨h1⟩,h2⟩
theorem yom1 {P0 Q : Prop} (h0 : Aside0 P0) (f : P0→Q:=by intros;first|omega|exact Nat.le_refl _) : Q:=f h0.out
theorem yom2 {P0 P1 Q : Prop} (h0 : Aside0 P0) (h1 : Aside0 P1) (f : P0→P1→Q:=by intros;first|omega|exact Nat.le_refl _) : Q:=f h0.out h1.out
theorem yom3 {P0 P1 P2 Q : Prop} (h0 : Aside0 P0) (h1 : Aside0 P1) (h2 : Aside0 P2) (f : P0→P1→P2→Q:=by intros;first|omega|exact Nat.le_refl _) : Q:=f h0.out h1.out h2.out
theorem yom4 {P0 P1 P2 P3 Q : Prop} (h0 : Aside0 P0) (h1 : Aside0 P1) (h2 : Aside0 P2) (h3 : Aside0 P3) (f : P0→P1→P2→P3→Q:=by intros;first|omega|exact Nat.le_refl _) : Q:=f h0.out h1.out h2.out h3.out
theorem yom5 {P0 P1 P2 P3 P4 Q : Prop} (h0 : Aside0 P0) (h1 : Aside0 P1) (h2 : Aside0 P2) (h3 : Aside0 P3) (h4 : Aside0 P4) (f : P0→P1→P2→P3→P4→Q:=by intros;first|omega|exact Nat.le_refl _) : Q:=f h0.out h1.out h2.out h3.out h4.out
theorem yLr {α : Type} (a : Option α) : LeO a a:=LeO.refl a
theorem yLn {α : Type} (a : Option α) : LeO none a:=LeO.none a
theorem yLi {α : Type} {c : Prop} [Decidable c] {a b a' b' : Option α} (h : LeO a a') (k : LeO b b') : LeO (if c then a else b) (if c then a' else b'):=LeO.ite h k
theorem yLb {α β : Type} {o o' : Option α} {f f' : α→Option β} (h : LeO o o') (k : ∀ x,LeO (f x) (f' x)) : LeO (o.bind f) (o'.bind f'):=LeO.bind h k
theorem yif {β : Type} {c : Prop} [Decidable c] {a : Option β} {r : β} (h : (if c then a else none)=some r) : c∧a=some r:=by
  by_cases hc : c
  · rw [if_pos hc] at h;exact ⟨hc,h⟩
  · rw [if_neg hc] at h;cases h
theorem yie {β : Type} {c : Prop} [Decidable c] {a : Option β} {r : β} (h : (if c then none else a)=some r) : ¬ c∧a=some r:=by
  by_cases hc : c
  · rw [if_pos hc] at h;cases h
  · rw [if_neg hc] at h;exact ⟨hc,h⟩
theorem ysu (n : Nat) (h : n=0→False) : ∃ m,n=m+1:=match n,h with
  | 0,h=>(h rfl).elim
  | m+1,_=>⟨m,rfl⟩
theorem yhx {w W : World} {a : Addr} {v : Value} (h : Aside0 (Below w.heap.size w W)) (hx : w.cell? a=some v) : W.cell? a=some v:=(h.out.cell (World.block_lt_of_cell? w _ hx)).trans hx
theorem yhs {W W2 : World} {a : Addr} {v : Value} (hb : Below W.heap.size W W2) (hx : W.cell? a=some v) : W2.cell? a=some v:=(hb.cell (World.block_lt_of_cell? W _ hx)).trans hx
theorem yai {w : World} {A : Option Addr} {n : Nat} {k : IntKind} {xs : List Int} {P : Prop} (h : Aside0 P) (i : Int) (f : P→(Kd.int k).C w A n xs:=by intro h_;exact yrc (Aside0.mk h_)) (h0 : 0≤i:=by exact yt) (h1 : i < n:=by exact yt) : ∃ ad,A=some ad∧w.cell? (ad.add i.toNat)=some (.int k (rd xs i))∧(0≤i)=True∧(i < n)=True:=by
  obtain ⟨ad,e,hc⟩:=Kd.at_int (f h.out) i h0 h1
  exact ⟨ad,e,hc,eq_true h0,eq_true h1⟩
theorem ynf {α : Sort _} {a b : α} {i : Decidable (false=true)} : (@ite α (false=true) i a b)=b:=if_neg (fun h=>nomatch h)
theorem yrw {α : Sort _} {a b : α} {P Q : Prop} (hy : a=b) (H : Q) (f : a=b→Q→P:=by intro hy_ H_;first|(rw [hy_];with_reducible exact H_)|(have H2_:=(Option.bind_some _ _).symm.trans H_;rw [hy_];with_reducible exact H2_)|(have H2_:=(Option.bind_some _ _).symm.trans H_;with_reducible exact H2_)|with_reducible exact H_|(rw [hy_];exact H_)|exact H_) : P:=f hy H
theorem yww {P : Prop} (h : P:=by first|exact ⟨rfl,_,World.drewN_drewN _ _ _⟩|exact ⟨rfl,_,Eq.trans (World.drewN_drewN _ _ _) (congrArg (World.drewN _) (Nat.add_assoc _ _ _))⟩) : P:=h
section
variable {w W W2 w1 : World} {g g' : Nat} {o : Obj}
theorem ygw (hg : g=W.heap.size) (h : Below w.heap.size w W:=by exact yhb) : Aside0 (w.heap.size≤g):=⟨by rw [hg];exact below_size h⟩
theorem ynl {W0 : World} (h : Aside0 (W0.heap[g]? = some o)) (hg : g' = W.heap.size) (k : W0.heap[g]? = some o→W.heap[g]? = some o:=by intro h_;exact yk (Aside0.mk h_)) : Aside0 (g≠g'):=⟨by rw [hg];exact Nat.ne_of_lt (blk_lt (k h.out))⟩
theorem yng {W0 : World} (h : Aside0 (W0.heap[g]? = some o)) (hg : g' = W.heap.size) (k : W0.heap[g]? = some o→W.heap[g]? = some o:=by intro h_;exact yk (Aside0.mk h_)) : Aside0 (g'≠g):=⟨by rw [hg];exact Nat.ne_of_gt (blk_lt (k h.out))⟩
theorem ybs (hb : Below W.heap.size W W2) (h : Below w.heap.size w W:=by exact yhb) : Aside0 (Below w.heap.size w W2):=⟨below_step h hb⟩
theorem ybb {W0 : World} (h : Aside0 (W0.heap[g]? = some o)) (hb : Below W.heap.size W W2) (k : W0.heap[g]? = some o→W.heap[g]? = some o:=by intro h_;exact yk (Aside0.mk h_)) : Aside0 (W2.heap[g]? = some o):=⟨blk_below (k h.out) hb⟩
end
section
variable {α : Type} {D : Kd α} {e base g n : Nat} {ok : Nat→Prop} {v : Value} {xs : List α} {W W2 : World}
theorem yRb {P : Prop} (h : Aside0 P) (hb : Below W.heap.size W W2) (k : P→Kd.R D e W base ok v xs:=by intro h_;exact yr (Aside0.mk h_)) : Aside0 (Kd.R D e W2 base ok v xs):=⟨Kd.R_below (k h.out) hb⟩
theorem yVb {P : Prop} (h : Aside0 P) (hb : Below W.heap.size W W2) (k : P→Kd.V D e W base ok v xs:=by intro h_;exact yr (Aside0.mk h_)) : Aside0 (Kd.V D e W2 base ok v xs):=⟨Kd.V_below (k h.out) hb⟩
theorem ySb {P : Prop} (h : Aside0 P) (hb : Below W.heap.size W W2) (k : P→Kd.S D e W base ok v xs:=by intro h_;exact yr (Aside0.mk h_)) : Aside0 (Kd.S D e W2 base ok v xs):=⟨Kd.S_below (k h.out) hb⟩
theorem yNb {P : Prop} (h : Aside0 P) (hb : Below W.heap.size W W2) (k : P→Kd.N D e W base ok v xs:=by intro h_;exact yr (Aside0.mk h_)) : Aside0 (Kd.N D e W2 base ok v xs):=⟨Kd.N_below (k h.out) hb⟩
theorem yCb {A : Option Addr} {P : Prop} (h : Aside0 P) (hb : Below W.heap.size W W2) (k : P→Kd.C D W A n xs:=by intro h_;exact yrc (Aside0.mk h_)) : Aside0 (Kd.C D W2 A n xs):=⟨Kd.C_below (k h.out) hb⟩
theorem yVe {P : Prop} (h : Aside0 P) (hg : g=W.heap.size) (hb : Below W.heap.size W W2) (k : P→Kd.V D e W base ok v xs:=by intro h_;exact yr (Aside0.mk h_)) : Aside0 (Kd.V D e W2 base (fun k=>ok k∧k≠g) v xs):=⟨Kd.V_below (Kd.V_elderB (k h.out) g (Nat.le_of_eq hg.symm)) hb⟩
end
theorem ymo {A B : Prop} (hk_ : A) (f : A→B:=by intro hk_;first|exact hk_|exact trivial|(simp only [hk_,ne_eq,not_false_eq_true,and_self,and_true,true_and];done)|(simp [hk_,Value.ownBlock];done)|((repeat' (with_reducible apply And.intro)) <;> first|exact hk_|exact hk_.1|exact hk_.2|exact hk_.1.1|exact hk_.1.2|exact hk_.2.1|exact hk_.2.2|exact hk_.1.1.1|exact hk_.1.1.2|exact hk_.1.2.1|exact hk_.1.2.2|exact hk_.2.1.1|exact hk_.2.1.2|exact hk_.2.2.1|exact hk_.2.2.2|exact hk_.1.2.2.1|exact hk_.1.2.2.2|exact hk_.2.2.2.1|exact hk_.2.2.2.2|exact hk_.1.2.2.2.1|exact hk_.1.2.2.2.2|exact hk_.2.2.2.2.1|exact hk_.2.2.2.2.2|exact hk_.1.2.2.2.2.1|exact hk_.1.2.2.2.2.2|exact hk_.2.2.2.2.2.1|exact hk_.2.2.2.2.2.2|exact hk_.1.2.2.2.2.2.1|exact hk_.1.2.2.2.2.2.2|(simp [Value.ownBlock];done))) : B:=f hk_
section
variable {α : Type} {D : Kd α} {e base base' g g' : Nat} {ok ok' : Nat→Prop} {v : Value} {xs : List α} {W W' w : World} {t t' : TypeId} {cs cs' : Array Value}
theorem Vw (h : Kd.V D e W base ok v xs) (hw : ∀ k,ok k→W'.heap[k]? = W.heap[k]?) (hm : ∀ k,ok k→ok' k) : Kd.V D e W' base ok' v xs:=Kd.V_mono (Kd.V_step h (fun k hk _=>hw k hk)) hm
theorem Nw (h : Kd.N D e W base ok v xs) (hw : ∀ k,ok k→W'.heap[k]? = W.heap[k]?) (hm : ∀ k,ok k→ok' k) : Kd.N D e W' base ok' v xs:=Kd.N_mono (Kd.N_step h (fun k hk _=>hw k hk)) hm
theorem Rw (h : Kd.R D e W base ok v xs) (hw : ∀ k,ok k→W'.heap[k]? = W.heap[k]?) (hm : ∀ k,ok k→ok' k) : Kd.R D e W' base ok' v xs:=Kd.R_mono (Kd.R_step h (fun k hk _=>hw k hk)) hm
theorem Sw (h : Kd.S D e W base ok v xs) (hw : ∀ k,ok k→W'.heap[k]? = W.heap[k]?) (hm : ∀ k,ok k→ok' k) : Kd.S D e W' base ok' v xs:=Kd.S_mono (Kd.S_step h (fun k hk _=>hw k hk)) hm
theorem yV0 {Q : Prop} (h : Aside0 (Kd.V D e W base ok v xs)) (f : Kd.V D e W base ok v xs→Q:=by intro h_;(with_reducible repeat (first|apply Kd.V_alloc|apply Kd.V_drewN|apply Kd.V_drew));refine Vw h_ (by intro k_ hk_;repeat (first|(with_reducible exact rfl)|(with_reducible refine (Below.heap_setCell _ _ _ _ (by simp only [hk_,ne_eq,not_false_eq_true])).trans ?_)|exact rfl)) (by intro k_ hk_;first|exact hk_|exact trivial|(simp only [hk_,ne_eq,not_false_eq_true,and_self,and_true,true_and];done)|exact ymo hk_)) : Q:=f h.out
theorem yN0 {Q : Prop} (h : Aside0 (Kd.N D e W base ok v xs)) (f : Kd.N D e W base ok v xs→Q:=by intro h_;(with_reducible repeat (first|apply Kd.N_alloc|apply Kd.N_drewN|apply Kd.N_drew));refine Nw h_ (by intro k_ hk_;repeat (first|(with_reducible exact rfl)|(with_reducible refine (Below.heap_setCell _ _ _ _ (by simp only [hk_,ne_eq,not_false_eq_true])).trans ?_)|exact rfl)) (by intro k_ hk_;first|exact hk_|exact trivial|(simp only [hk_,ne_eq,not_false_eq_true,and_self,and_true,true_and];done)|exact ymo hk_)) : Q:=f h.out
theorem yR0 {Q : Prop} (h : Aside0 (Kd.R D e W base ok v xs)) (f : Kd.R D e W base ok v xs→Q:=by intro h_;(with_reducible repeat (first|apply Kd.R_alloc|apply Kd.R_drewN|apply Kd.R_drew));refine Rw h_ (by intro k_ hk_;repeat (first|(with_reducible exact rfl)|(with_reducible refine (Below.heap_setCell _ _ _ _ (by simp only [hk_,ne_eq,not_false_eq_true])).trans ?_)|exact rfl)) (by intro k_ hk_;first|exact hk_|exact trivial|(simp only [hk_,ne_eq,not_false_eq_true,and_self,and_true,true_and];done)|exact ymo hk_)) : Q:=f h.out
theorem yR1 {Q : Prop} (h : Aside0 (Kd.R D e W base ok v xs)) (b : Aside0 (W.heap[g]? = some (.cells cs t (0,0)))) (ht : ∀ q,q ∈ e :: D.E→q≠t:=by decide) (f : Kd.R D e W base (fun k=>ok k∧k≠g) v xs→Q:=by intro h_;(with_reducible repeat (first|apply Kd.R_alloc|apply Kd.R_drewN|apply Kd.R_drew));refine Rw h_ (by intro k_ hk_;repeat (first|(with_reducible exact rfl)|(with_reducible refine (Below.heap_setCell _ _ _ _ (by simp only [hk_,ne_eq,not_false_eq_true])).trans ?_)|exact rfl)) (by intro k_ hk_;first|exact hk_.1|exact hk_|exact trivial|(simp only [hk_,ne_eq,not_false_eq_true,and_self,and_true,true_and];done)|exact ymo hk_)) : Q:=f (Kd.R_types h.out b.out ht)
theorem yR2 {Q : Prop} (h : Aside0 (Kd.R D e W base ok v xs)) (b : Aside0 (W.heap[g]? = some (.cells cs t (0,0)))) (b' : Aside0 (W.heap[g']? = some (.cells cs' t' (0,0)))) (ht : ∀ q,q ∈ e :: D.E→q≠t:=by decide) (ht' : ∀ q,q ∈ e :: D.E→q≠t' := by decide) (f : Kd.R D e W base (fun k=>(ok k∧k≠g)∧k≠g') v xs→Q:=by intro h_;(with_reducible repeat (first|apply Kd.R_alloc|apply Kd.R_drewN|apply Kd.R_drew));refine Rw h_ (by intro k_ hk_;repeat (first|(with_reducible exact rfl)|(with_reducible refine (Below.heap_setCell _ _ _ _ (by simp only [hk_,ne_eq,not_false_eq_true])).trans ?_)|exact rfl)) (by intro k_ hk_;first|exact hk_.1.1|exact hk_|exact trivial|(simp only [hk_,ne_eq,not_false_eq_true,and_self,and_true,true_and];done)|exact ymo hk_)) : Q:=f (Kd.R_types (Kd.R_types h.out b.out ht) b'.out ht')
theorem yS0 {Q : Prop} (h : Aside0 (Kd.S D e W base ok v xs)) (f : Kd.S D e W base ok v xs→Q:=by intro h_;(with_reducible repeat (first|apply Kd.S_alloc|apply Kd.S_drewN|apply Kd.S_drew));refine Sw h_ (by intro k_ hk_;repeat (first|(with_reducible exact rfl)|(with_reducible refine (Below.heap_setCell _ _ _ _ (by simp only [hk_,ne_eq,not_false_eq_true])).trans ?_)|exact rfl)) (by intro k_ hk_;first|exact hk_|exact trivial|(simp only [hk_,ne_eq,not_false_eq_true,and_self,and_true,true_and];done)|exact ymo hk_)) : Q:=f h.out
theorem yS1 {Q : Prop} (h : Aside0 (Kd.S D e W base ok v xs)) (b : Aside0 (W.heap[g]? = some (.cells cs t (0,0)))) (ht : ∀ q,q ∈ e :: D.E→q≠t:=by decide) (f : Kd.S D e W base (fun k=>ok k∧k≠g) v xs→Q:=by intro h_;(with_reducible repeat (first|apply Kd.S_alloc|apply Kd.S_drewN|apply Kd.S_drew));refine Sw h_ (by intro k_ hk_;repeat (first|(with_reducible exact rfl)|(with_reducible refine (Below.heap_setCell _ _ _ _ (by simp only [hk_,ne_eq,not_false_eq_true])).trans ?_)|exact rfl)) (by intro k_ hk_;first|exact hk_.1|exact hk_|exact trivial|(simp only [hk_,ne_eq,not_false_eq_true,and_self,and_true,true_and];done)|exact ymo hk_)) : Q:=f (Kd.S_types h.out b.out ht)
theorem yS2 {Q : Prop} (h : Aside0 (Kd.S D e W base ok v xs)) (b : Aside0 (W.heap[g]? = some (.cells cs t (0,0)))) (b' : Aside0 (W.heap[g']? = some (.cells cs' t' (0,0)))) (ht : ∀ q,q ∈ e :: D.E→q≠t:=by decide) (ht' : ∀ q,q ∈ e :: D.E→q≠t' := by decide) (f : Kd.S D e W base (fun k=>(ok k∧k≠g)∧k≠g') v xs→Q:=by intro h_;(with_reducible repeat (first|apply Kd.S_alloc|apply Kd.S_drewN|apply Kd.S_drew));refine Sw h_ (by intro k_ hk_;repeat (first|(with_reducible exact rfl)|(with_reducible refine (Below.heap_setCell _ _ _ _ (by simp only [hk_,ne_eq,not_false_eq_true])).trans ?_)|exact rfl)) (by intro k_ hk_;first|exact hk_.1.1|exact hk_|exact trivial|(simp only [hk_,ne_eq,not_false_eq_true,and_self,and_true,true_and];done)|exact ymo hk_)) : Q:=f (Kd.S_types (Kd.S_types h.out b.out ht) b'.out ht')
theorem yoR {A : Prop} {k : Nat} {P : Prop} (h : Aside0 P) (hk : A∨W.heap.size≤k) (f : P→Kd.R D e W base ok v xs:=by intro h_;exact yr (Aside0.mk h_)) (o : P→A→some k≠v.ownBlock:=by intro h_ hs_;(repeat' (refine Or.elim hs_ (fun hs_ => ?_) (fun hs_ => ?_))) <;> first|exact False.elim hs_|(simp only [hs_,ne_eq,not_false_eq_true];done)|exact fun e_=>Nat.not_le.2 hs_ (Kd.R_base h_ _ e_.symm)|exact hs_) : some k≠v.ownBlock:=hk.elim (o h.out) (fun hn=>Kd.fresh' (Kd.R_lt (f h.out)) k hn)
theorem yoS {A : Prop} {k : Nat} {P : Prop} (h : Aside0 P) (hk : A∨W.heap.size≤k) (f : P→Kd.S D e W base ok v xs:=by intro h_;exact yr (Aside0.mk h_)) (o : P→A→some k≠v.ownBlock:=by intro h_ hs_;(repeat' (refine Or.elim hs_ (fun hs_ => ?_) (fun hs_ => ?_))) <;> first|exact False.elim hs_|(simp only [hs_,ne_eq,not_false_eq_true];done)|exact fun e_=>Nat.not_le.2 hs_ (Kd.S_base h_ _ e_.symm)|exact hs_) : some k≠v.ownBlock:=hk.elim (o h.out) (fun hn=>Kd.fresh' (Kd.S_lt (f h.out)) k hn)
theorem yoN {A : Prop} {k : Nat} {P : Prop} (h : Aside0 P) (hk : A∨W.heap.size≤k) (f : P→Kd.N D e W base ok v xs:=by intro h_;exact yr (Aside0.mk h_)) (o : P→A→some k≠v.ownBlock:=by intro h_ hs_;(repeat' (refine Or.elim hs_ (fun hs_ => ?_) (fun hs_ => ?_))) <;> first|exact False.elim hs_|(simp only [hs_,ne_eq,not_false_eq_true];done)|exact fun e_=>Nat.not_le.2 hs_ (Kd.N_base h_ _ e_.symm)|exact hs_) : some k≠v.ownBlock:=hk.elim (o h.out) (fun hn=>Kd.fresh' (Kd.N_lt (f h.out)) k hn)
theorem yoB {A : Prop} {k : Nat} {W0 : World} {ob : Obj} (h : Aside0 (W0.heap[g]? = some ob)) (hk : A∨W.heap.size≤k) (f : W0.heap[g]? = some ob→W.heap[g]? = some ob:=by intro h_;exact yk (Aside0.mk h_)) (o : A→k≠g:=by intro hs_;(repeat' (refine Or.elim hs_ (fun hs_ => ?_) (fun hs_ => ?_))) <;> first|exact False.elim hs_|(simp only [hs_,ne_eq,not_false_eq_true];done)|exact fun e_=>Nat.not_le.2 hs_ (by rw [e_];exact Aside0.out (by assumption))|exact hs_) : k≠g:=hk.elim o (fun hn=>Kd.freshB (f h.out) k hn)
theorem yho (ok' : Nat→Prop) (h : Kd.V D e W base ok v xs) (m : ∀ k,ok k→ok' k) (hb : Below w.heap.size w W' := by exact yhb) : Aside0 (Kd.V D e W w.heap.size ok' v xs):=⟨Kd.V_mono (base:=w.heap.size) h m⟩
end
section
variable {t : TypeId} {a b c d e f : Value} {w : World} {g : Nat}
theorem yc1 (h : Aside0 (w.heap[g]? = some (.cells #[a] t (0,0)))) : w.cell? ⟨g,0,none⟩=some a∧w.frozen? ⟨g,0,none⟩=false:=⟨(blk_cell h.out 0).trans rfl,blk_frozen h.out 0⟩
theorem yc2 (h : Aside0 (w.heap[g]? = some (.cells #[a,b] t (0,0)))) : w.cell? ⟨g,0,none⟩=some a∧w.cell? ⟨g,1,none⟩=some b∧w.frozen? ⟨g,0,none⟩=false∧w.frozen? ⟨g,1,none⟩=false:=⟨(blk_cell h.out 0).trans rfl,(blk_cell h.out 1).trans rfl,blk_frozen h.out 0,blk_frozen h.out 1⟩
theorem yc3 (h : Aside0 (w.heap[g]? = some (.cells #[a,b,c] t (0,0)))) : w.cell? ⟨g,0,none⟩=some a∧w.cell? ⟨g,1,none⟩=some b∧w.cell? ⟨g,2,none⟩=some c∧w.frozen? ⟨g,0,none⟩=false∧w.frozen? ⟨g,1,none⟩=false∧w.frozen? ⟨g,2,none⟩=false:=⟨(blk_cell h.out 0).trans rfl,(blk_cell h.out 1).trans rfl,(blk_cell h.out 2).trans rfl,blk_frozen h.out 0,blk_frozen h.out 1,blk_frozen h.out 2⟩
theorem yc4 (h : Aside0 (w.heap[g]? = some (.cells #[a,b,c,d] t (0,0)))) : w.cell? ⟨g,0,none⟩=some a∧w.cell? ⟨g,1,none⟩=some b∧w.cell? ⟨g,2,none⟩=some c∧w.cell? ⟨g,3,none⟩=some d∧w.frozen? ⟨g,0,none⟩=false∧w.frozen? ⟨g,1,none⟩=false∧w.frozen? ⟨g,2,none⟩=false∧w.frozen? ⟨g,3,none⟩=false:=⟨(blk_cell h.out 0).trans rfl,(blk_cell h.out 1).trans rfl,(blk_cell h.out 2).trans rfl,(blk_cell h.out 3).trans rfl,blk_frozen h.out 0,blk_frozen h.out 1,blk_frozen h.out 2,blk_frozen h.out 3⟩
end
theorem yH {Q : Prop} (h : Q:=by (try simp only [World.cell?_drewN]);(repeat' (with_reducible apply And.intro)) <;> first|(with_reducible assumption)|(simp only [hHeld];done)|((with_reducible refine (cell_far (Aside0.out (by assumption)) _).trans ?_);(repeat (with_reducible refine (cell_far (Aside0.out (by assumption)) _).trans ?_));simp only [hHeld];done)|exact (blk_cell (Aside0.out (by with_reducible assumption)) _).trans rfl|exact ((HB.out.cell (World.block_lt_of_cell? w _ (by with_reducible assumption))).trans (by with_reducible assumption))) : Q:=h
section
variable {P : Program} {ops : Array Oper} {rest : List Oper} {o : Oper} {a : Act} {Q : Exit→Act→World→Prop}
theorem ygl {w : World} {f : FuncId} {fn : Func} {xs : Array Operand} {ts : Array TypeId} (N : Tmp) (hf : P.funcs[f]? = some fn) (args : Array Value)
    (h : Calls P f args w fun e w' => ∃ v,e=.returned v∧wpList P ops Q rest (a.put (some N) v) w')
    (hd : o.dst=some N:=by rfl) (hg : o.guard=none:=by rfl) (hname : (fn.name == "runtime.NumGoroutine")=false:=by kernel_rfl) (hb : fn.body.isSome=true:=by rfl)
    (hop : o.op=.call { callee:=.value (.func f),args:=xs,argTypes:=ts } := by rfl) (hargs : xs.map a.eval=args:=by exact ya) : wpList P ops Q (o :: rest) a w :=
  goesL_ (some N) hd hg hf hname hb args hop hargs h
theorem ygs {N : Option Tmp} {w : World} {K : Act→World→Prop} {f : FuncId} {fn : Func} {xs : Array Operand} {ts : Array TypeId} (hf : P.funcs[f]? = some fn) (args : Array Value)
    (h : Calls P f args w fun e w' => ∃ v,e=.returned v∧K (a.put N v) w')
    (hname : (fn.name == "runtime.NumGoroutine")=false:=by kernel_rfl) (hb : fn.body.isSome=true:=by rfl)
    (hw : Region.wanted o (yielded ops a.tmps)=true:=by rfl) (hN : o.dst=N:=by rfl) (hop : o.op=.call { callee:=.value (.func f),args:=xs,argTypes:=ts } := by rfl) (hargs : xs.map a.eval=args:=by exact ya) : if Region.wanted o (yielded ops a.tmps)=true then Oper.wp P o a w K Q else K (a.put N undef) w :=
  goes_ hf hname hb args hw hN hop hargs h
theorem ybx {W : World} (N : Tmp) (cs : Array Value) (t : TypeId)
    (h : ∀ g,g=W.heap.size→∀ w1,w1.heap[g]? = some (.cells cs t (0,0))→Below W.heap.size W w1→wpList P ops Q rest (a.put o.dst (.pointer (some ⟨g,0,none⟩))) w1)
    (hgd : o.guard=none:=by rfl) (hd : o.dst=some N:=by rfl)
    (hrun : (execOp a.eval o).run P W=.ok (.value (.pointer (some ⟨W.heap.size,0,none⟩))) (W.alloc (.cells cs t (0,0))):=by first|(go_simp;done)|(go_simp;rfl)) : wpList P ops Q (o :: rest) a W :=
  box_event hgd hd hrun h
end
section
variable {P : Program} {ops : Array Oper} {Q : Exit→Act→World→Prop} {md : Region.Mode} {S : World→Prop} {ds : List Nat} {oi : Oper} {v : Value} {fuel : Nat} {l l' : Array Bool} {a a' : Act} {w : World} {T : Bool × List (List Nat × List Nat)} {B : List Nat}
theorem yst (S : World→Prop) (ds : List Nat) (n : Nat) {id : Nat} (hT : rtab .any ops=T) (hB : waitsOk T.2 B=true) (h : S w.drew→Aside0 (rtab .any ops=T)→Aside0 (waitsOk T.2 B=true)→wpAnyLast P .any ops Q S ds n l a w.drew)
    (hn : ops.size=n:=by rfl) (hl : Array.replicate n false=l:=by simp only [Array.replicate_succ,Array.replicate_zero,List.push_toArray,List.append_toArray,List.nil_append,List.cons_append];rfl) (hm : P.follows .mixedOrders=true:=by kernel_rfl) (hS : S w.drew:=by exact yH) : (Code.region id ops true).wp P Q a w :=
  start_ (S:=S) (ds:=ds) l hm hn hl hS (fun hs=>h hs ⟨hT⟩ ⟨hB⟩)
theorem ym (N : Option Tmp) {b : Act} (h : wpAnyLast P md ops Q S ds fuel l a' w) (ha : b.put N v=a' := by simp only [Act.put,List.setIfInBounds_toArray,List.set_cons_zero,List.set_cons_succ,i64_w,i32_w];rfl) : wpAnyLast P md ops Q S ds fuel l (b.put N v) w:=norm_ ha h
theorem yp (i n : Nat) (HT : Aside0 (rtab md ops=T)) (h : wpAnyLast P md ops Q S ds fuel l' a' w)
    (hi : ops[i]? = some oi:=by rfl) (hN : oi.dst=some n:=by rfl) (hl : l.setIfInBounds i true=l' := by simp only [List.setIfInBounds_toArray,List.set_cons_zero,List.set_cons_succ];rfl) (hc : anyT T l.toList l'.toList i=true:=by kernel_rfl)
    (hQ : ∀ c a w,Q (.panic c) (a.put oi.dst v) w→Q (.panic c) a w:=by exact fun _ _ _ h=>h) (hw : Region.wanted oi (yielded ops a.tmps)=true:=by rfl) (hv : ∀ w,(execOp a.eval oi).run P w=.ok (.value v) w:=by intro w'; go_simp;with_reducible rfl)
    (ha : a.put (some n) v=a' := by simp only [Act.put,List.setIfInBounds_toArray,List.set_cons_zero,List.set_cons_succ,i64_w,i32_w];rfl) : wpAnyLast P md ops Q S ds (fuel+1) l a w :=
  pure_ l' hi hN (any_of HT.out hc) hQ (Or.inl ⟨hw,hv⟩) ha h
theorem yu (i n : Nat) (HT : Aside0 (rtab md ops=T)) (h : wpAnyLast P md ops Q S ds fuel l' a' w)
    (hi : ops[i]? = some oi:=by rfl) (hN : oi.dst=some n:=by rfl) (hl : l.setIfInBounds i true=l' := by simp only [List.setIfInBounds_toArray,List.set_cons_zero,List.set_cons_succ];rfl) (hc : anyT T l.toList l'.toList i=true:=by kernel_rfl)
    (hQ : ∀ c a w,Q (.panic c) (a.put oi.dst undef) w→Q (.panic c) a w:=by exact fun _ _ _ h=>h) (hw : Region.wanted oi (yielded ops a.tmps)=false:=by rfl)
    (ha : a.put (some n) undef=a' := by simp only [Act.put,List.setIfInBounds_toArray,List.set_cons_zero,List.set_cons_succ,i64_w,i32_w];rfl) : wpAnyLast P md ops Q S ds (fuel+1) l a w :=
  pure_ l' hi hN (any_of HT.out hc) hQ (Or.inr ⟨hw,rfl⟩) ha h
theorem yl (i n : Nat) (HT : Aside0 (rtab md ops=T)) (HW : Aside0 (waitsOk T.2 B=true)) (hS : S w) (h : wpAnyLast P md ops Q S ds fuel l' a' w)
    (hi : ops[i]? = some oi:=by rfl) (hN : oi.dst=some n:=by rfl) (hl : l.setIfInBounds i true=l' := by simp only [List.setIfInBounds_toArray,List.set_cons_zero,List.set_cons_succ];rfl) (hc : takeW T B ds l.toList l'.toList i=true:=by kernel_rfl)
    (hQ : ∀ c a w,Q (.panic c) (a.put oi.dst v) w→Q (.panic c) a w:=by exact fun _ _ _ h=>h) (hw : Region.wanted oi (yielded ops a.tmps)=true:=by rfl) (hv : ∀ w,S w→(execOp a.eval oi).run P w=.ok (.value v) w:=by intro w' hs;go_simp;with_reducible rfl)
    (ha : a.put (some n) v=a' := by simp only [Act.put,List.setIfInBounds_toArray,List.set_cons_zero,List.set_cons_succ,i64_w,i32_w];rfl) : wpAnyLast P md ops Q S ds (fuel+1) l a w :=
  take_ l' hi hN (take_ofW HT.out HW.out hc) hQ (Or.inl ⟨hw,hv⟩) hS ha h
theorem yw (i n : Nat) (HT : Aside0 (rtab md ops=T))
    (h : ∀ K : Act→World→Prop,Shut (∀ a' w',S w'→(S w'→wpAnyLast P md ops Q S ds fuel l' a' w')→K a' w')→if Region.wanted oi (yielded ops a.tmps)=true then Oper.wp P oi a w K Q else K (a.put (some n) undef) w)
    (hi : ops[i]? = some oi:=by rfl) (hN : oi.dst=some n:=by rfl) (hl : l.setIfInBounds i true=l' := by simp only [List.setIfInBounds_toArray,List.set_cons_zero,List.set_cons_succ];rfl) (hc : (readyT T.2 l.toList == [i] && l.toList.set i true == l'.toList)=true:=by kernel_rfl) (hd : i ∉ ds:=by decide) : wpAnyLast P md ops Q S ds (fuel+1) l a w :=
  one_ l' hi hN (one_of HT.out hc) hd h
theorem yv (i : Nat) (HT : Aside0 (rtab md ops=T))
    (h : ∀ K : Act→World→Prop,Shut (∀ a' w',S w'→(S w'→wpAnyLast P md ops Q S ds fuel l' a' w')→K a' w')→if Region.wanted oi (yielded ops a.tmps)=true then Oper.wp P oi a w K Q else K (a.put none undef) w)
    (hi : ops[i]? = some oi:=by rfl) (hN : oi.dst=none:=by rfl) (hl : l.setIfInBounds i true=l' := by simp only [List.setIfInBounds_toArray,List.set_cons_zero,List.set_cons_succ];rfl) (hc : (readyT T.2 l.toList == [i] && l.toList.set i true == l'.toList)=true:=by kernel_rfl) (hd : i ∉ ds:=by decide) : wpAnyLast P md ops Q S ds (fuel+1) l a w :=
  one_ l' hi hN (one_of HT.out hc) hd h
end
end Go.Proofs.Ytifkhfnmbiefaaa.Prt
