/- GainBack, over numbers and lists: gains that were put, frame by frame, are taken as they were. -/
import Derived.Test.YtkaoiblgfpphoaaZGainBackL1
import Derived.Test.YtkaoiblgfpphoaaZGainBackPuGainBack
namespace Go.Proofs.Ytkaoiblgfpphoaa.gainBack
open Go Go.RowKit Go.Proofs.YtkaoiblgfpphoaaW.PrintWords Go.Proofs.Ytkaoiblgfpphoaa.Prt Go.Proofs.Ytkaoiblgfpphoaa.Val Go.Proofs.Ytkaoiblgfpphoaa.Cod Go.Proofs.Ytkaoiblgfpphoaa.Gan
set_option linter.unusedVariables false
abbrev R2 := S91
theorem hm0 : maxLen ≤ 9223372036854775807 := by decide
theorem right_l0 {M : Nat} (hm : M ≤ 9223372036854775807) (l : List Int) (hl : l.length ≤ M) : ∀ (d i k : Nat), i + d = l.length → d < k → gain_Right.l0 k l l (l.length : Int) (i : Int) = some (((l.length : Int) == 5) && (l.drop i).all (fun x => decide (0 ≤ x ∧ x ≤ 44)))
  | 0, i, k, hi, hk => by
    obtain ⟨k, rfl⟩ : ∃ m, k = m + 1 := ⟨k - 1, by omega⟩
    simp only [gain_Right.l0]
    rw [if_neg (by omega), List.drop_eq_nil_of_le (by omega)]
    simp
  | d + 1, i, k, hi, hk => by
    obtain ⟨k, rfl⟩ : ∃ m, k = m + 1 := ⟨k - 1, by omega⟩
    simp only [gain_Right.l0]
    rw [if_pos (by omega), if_pos (by omega), if_pos (by omega), drop_rd l i (by omega), List.all_cons]
    by_cases h0 : rd l (i : Int) < 0
    · rw [if_pos h0, show decide (0 ≤ rd l (i : Int) ∧ rd l (i : Int) ≤ 44) = false by simp; omega]
      simp
    · rw [if_neg h0]
      by_cases h1 : rd l (i : Int) > 44
      · rw [if_pos h1, show decide (0 ≤ rd l (i : Int) ∧ rd l (i : Int) ≤ 44) = false by simp; omega]
        simp
      · rw [if_neg h1, i64w (by omega) (by omega), show decide (0 ≤ rd l (i : Int) ∧ rd l (i : Int) ≤ 44) = true by simp; omega, Bool.true_and]
        exact right_l0 hm l hl d (i + 1) k (by omega) (by omega)
theorem right_any {M : Nat} (hm : M ≤ 9223372036854775807) (l : List Int) (hl : l.length ≤ M) (k : Nat) (hk : l.length < k) : gain_Right.f k l = some (rt l) := right_l0 hm l hl l.length 0 k (by omega) hk
/-- Gains that may not be are not put. -/
theorem put_no {M : Nat} (hm : M ≤ 9223372036854775807) {g a : List Int} {I : Bool} (hg : rt g = false) (hl : g.length ≤ M) {e : E3} (he : e.ok) (k : Nat) (hk : M + 100 ≤ k) : gain_Put.f k e.1 e.2.1 e.2.2 g a I = some (e.1, e.2.1, e.2.2, 1) := by
  obtain ⟨k, rfl⟩ : ∃ m, k = m + 1 := ⟨k - 1, by omega⟩
  unfold gain_Put.f
  rw [put_bad (k + 1) (own_ok he) (fun h => by have := h.2.2.1; omega), Option.bind_some, right_any hm g hl _ (by omega), Option.bind_some, hg, if_neg (by simp)]
  simp only [gain_Put.j0, ↓reduceIte]
theorem rd_at (a b : List R2) (x : R2) : rd_T91 (a ++ x :: b) ((a.length : Nat) : Int) = x := by
  unfold rd_T91
  simp
/-- Frames one behind the other, the gains ahead, and the encoder. -/
inductive Fr : E3 → List Int → List R2 → E3 → Prop
  | nil (e : E3) (a : List Int) : Fr e a [] e
  | cons {e e1 e2 : E3} {a : List Int} {x : R2} {xs : List R2} : rt x.f0 = true → Piece e e1 15 (if x.f1 = true then 30 else 45) → (∀ F, Bytes F → F.length ≤ 9000 → Ext F e1 → gts F a x.f1 5 0 (Cd F e) e.2.1 ((e.len + 4 : Nat) : Int) [] = (Cd F e1, e1.2.1, ((e1.len + 4 : Nat) : Int), x.f0)) → Fr e1 x.f0 xs e2 → Fr e a (x :: xs) e2
/-- The gains ahead behind a row of frames. -/
def lst (a : List Int) : List R2 → List Int
  | [] => a
  | x :: xs => lst x.f0 xs
theorem lst_snoc (x : R2) : ∀ (a : List Int) (xs : List R2), lst a (xs ++ [x]) = x.f0
  | _, [] => rfl
  | _, y :: xs => lst_snoc x y.f0 xs
theorem Fr.snoc {e e1 e2 : E3} {a : List Int} {xs : List R2} {x : R2} (h : Fr e a xs e1) (hr : rt x.f0 = true) (hp : Piece e1 e2 15 (if x.f1 = true then 30 else 45)) (ht : ∀ F, Bytes F → F.length ≤ 9000 → Ext F e2 → gts F (lst a xs) x.f1 5 0 (Cd F e1) e1.2.1 ((e1.len + 4 : Nat) : Int) [] = (Cd F e2, e2.2.1, ((e2.len + 4 : Nat) : Int), x.f0)) : Fr e a (xs ++ [x]) e2 := by
  induction h with
  | nil => exact .cons hr hp ht (.nil _ _)
  | cons a1 a2 a3 _ ih => exact .cons a1 a2 a3 (ih hp ht)
theorem Fr.ext {e e' : E3} {a : List Int} {xs : List R2} (h : Fr e a xs e') {F : List Int} (hb : Bytes F) (hx : Ext F e') : Ext F e := by
  induction h with
  | nil => exact hx
  | cons _ p _ _ ih => exact p.ext F hb (ih hx)
theorem Fr.len {e e' : E3} {a : List Int} {xs : List R2} (h : Fr e a xs e') : e'.len ≤ e.len + 30 * xs.length := by
  induction h with
  | nil => simp
  | cons _ p _ _ ih => have := p.len; simp only [List.length_cons]; omega
theorem l1_ok {F : List Int} (hb : Bytes F) (hF : F.length ≤ 9000) {e e' : E3} {a : List Int} {ks : List R2} (hr : Fr e a ks e') (he : e.ok) (ha : rt a = true) (hx : Ext F e') :
    ∀ (pre : List R2) (k : Nat), (pre ++ ks).length ≤ 9000 → 10000 + 2 * ks.length < k →
    psalterylaw11_GainBack.l1 k a (pre ++ ks) ((pre.length : Nat) : Int) (Cd F e) e.2.1 F ((e.len + 4 : Nat) : Int) = some true := by
  induction hr with
  | nil e a =>
    intro pre k hl hf
    obtain ⟨k, rfl⟩ : ∃ m, k = m + 1 := ⟨k - 1, by omega⟩
    simp only [psalterylaw11_GainBack.l1]
    rw [if_neg (by simp), knows11_k k (by simp at hf; omega)]
    rfl
  | @cons e e1 e2 a x ks r1 p t hrun ih =>
    intro pre k hl hf
    obtain ⟨k, rfl⟩ : ∃ m, k = m + 1 := ⟨k - 1, by omega⟩
    have hx' := hrun.ext hb hx
    have hd := cd_ok he (p.ext F hb hx') hF
    simp only [psalterylaw11_GainBack.l1]
    simp only [List.length_append, List.length_cons] at hl hf
    have hal := rt_len ha
    have hgl := rt_len r1
    rw [if_pos (by simp; omega), if_pos (by omega), rd_at, takes_ok (by omega) (good_ok hd) hd hb hF k (by omega), if_pos (.inr ha), Option.bind_some, t F hb hF hx']
    dsimp only
    rw [if_pos rfl, same_ok x.f0 (by omega) k (by omega), Option.bind_some, if_pos rfl, i64w (by omega) (by omega)]
    have := ih p.ok r1 hx (pre ++ [x]) k (by simp; omega) (by omega)
    rw [List.append_assoc, List.singleton_append, List.length_append, List.length_singleton] at this
    exact this
/-- The frames, one after the other. -/
theorem go {M : Nat} (hm : M ≤ 9223372036854775807) {L : List R2} (hL : L.length ≤ M) (hG : ∀ q ∈ L, q.f0.length ≤ M) : ∀ (d i : Nat) (e : E3) (kept : List R2) (k : Nat), i + d = 20 → Fr (0, 4294967295, []) [0, 0, 0, 0, 0] kept e → kept.length ≤ i → e.ok → Nov e → rt (lst [0, 0, 0, 0, 0] kept) = true → 2 * M + 20000 + 2 * d ≤ k →
    psalterylaw11_GainBack.l0 k L [0, 0, 0, 0, 0] (lst [0, 0, 0, 0, 0] kept) kept (i : Int) e.1 e.2.1 e.2.2 = some true := by
  have fin : ∀ (i : Nat) (e : E3) (kept : List R2) (a : List Int) (k : Nat), Fr (0, 4294967295, []) [0, 0, 0, 0, 0] kept e → kept.length ≤ 20 → e.ok → 11000 < k → psalterylaw11_GainBack.j1 (k + 1) L [0, 0, 0, 0, 0] a kept (i : Int) false e.1 e.2.1 e.2.2 = some true := by
    intro i e kept a k hr hl he hk
    have hb := all_bytes he
    have hx := all_ext he
    have h0 := hr.ext hb hx
    have key := l1_ok hb (all_le he) hr new_e (by decide) hx [] k (by simp; omega) (by omega)
    simp only [psalterylaw11_GainBack.j1]
    rw [if_neg (by simp), finish_ok he, Option.bind_some]
    show ((coder_Open.f (all e)).bind fun bt427 => _) = _
    rw [open_f hb, Option.bind_some]
    dsimp only
    rw [open_cd hb h0]
    exact key
  intro d
  induction d with
  | zero =>
    intro i e kept k hi hr hn he hv ha hk
    obtain ⟨k, rfl⟩ : ∃ m, k = m + 2 := ⟨k - 2, by omega⟩
    simp only [psalterylaw11_GainBack.l0]
    rw [show decide ((i : Int) < 20) = false by simp; omega, fin i e kept _ k hr (by omega) he (by omega), ite_self]
  | succ d ih =>
    intro i e kept k hi hr hn he hv ha hk
    obtain ⟨k, rfl⟩ : ∃ m, k = m + 2 := ⟨k - 2, by omega⟩
    have hl := hr.len
    simp only [E3.len, List.length_nil, Nat.zero_add] at hl
    simp only [psalterylaw11_GainBack.l0]
    by_cases h : (i : Int) < (L.length : Int)
    · rw [if_pos h, show decide ((i : Int) < 20) = true by simp; omega]
      simp only [psalterylaw11_GainBack.j1]
      have hg : (rd_T91 L (i : Int)).f0.length ≤ M := by
        unfold rd_T91
        rw [List.getD_eq_getElem?_getD, Int.toNat_natCast, List.getElem?_eq_getElem (by omega)]
        exact hG _ (List.getElem_mem _)
      rw [if_pos trivial, if_pos (by omega), if_pos h]
      generalize rd_T91 L (i : Int) = q at hg ⊢
      cases hq : rt q.f0 with
      | false =>
        rw [put_no hm hq hg he k (by omega), Option.bind_some, if_neg (by simp), i64w (x := (i : Int) + 1) (by omega) (by omega)]
        exact ih (i + 1) e kept k (by omega) hr (by omega) he hv ha (by omega)
      | true =>
        obtain ⟨e', p, _, hp', ht⟩ := put_piece (I := q.f1) hq (.inr ha) (by have := rt_len ha; omega) he hv (by unfold E3.len; omega)
        rw [p k (by omega), Option.bind_some, if_pos rfl, if_pos (by omega), i64w (x := (i : Int) + 1) (by omega) (by omega)]
        have := ih (i + 1) e' (kept ++ [q]) k (by omega) (hr.snoc hq hp' ht) (by simp; omega) hp'.ok hp'.nov (by rw [lst_snoc]; exact hq) (by omega)
        rw [lst_snoc] at this
        exact this
    · rw [if_neg h]
      exact fin i e kept _ k hr (by omega) he (by omega)
theorem pure : Pu := by
  intro L hL
  refine ⟨2 * maxLen + 30000, ?_⟩
  unfold psalterylaw11_GainBack.f
  rw [show coder_New.f = some (0, 4294967295, []) from rfl, Option.bind_some]
  rw [Option.bind_some, if_pos (by decide)]
  exact go hm0 hL.1 (fun q hq => (hL.2 q hq).1) 20 0 (0, 4294967295, []) [] _ (by omega) (.nil _ _) (by simp) new_e new_nov (by decide) (by omega)
end Go.Proofs.Ytkaoiblgfpphoaa.gainBack
