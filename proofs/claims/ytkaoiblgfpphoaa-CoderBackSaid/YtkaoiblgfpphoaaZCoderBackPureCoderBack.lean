/- CoderBack, over numbers and lists: choices that were put one behind the other are taken from the bytes as they were. -/
import Derived.Test.YtkaoiblgfpphoaaZCoderBackCodB
import Derived.Test.YtkaoiblgfpphoaaZCoderBackPuCoderBack
namespace Go.Proofs.Ytkaoiblgfpphoaa.coderBack
open Go.RowKit Go.Proofs.YtkaoiblgfpphoaaW.PrintWords Go.Proofs.Ytkaoiblgfpphoaa.Prt Go.Proofs.Ytkaoiblgfpphoaa.Val Go.Proofs.Ytkaoiblgfpphoaa.Cod
set_option linter.unusedVariables false
abbrev C3 := S53
def tri (c : C3) : Int × Int × Int := (c.f0, c.f1, c.f2)
theorem rd_at (a b : List C3) (x : C3) : rd_T53 (a ++ x :: b) ((a.length : Nat) : Int) = x := by
  unfold rd_T53
  simp
/-- The second loop: from the bytes of e. -/
theorem l1_ok {F : List Int} (hb : Bytes F) (hF : F.length ≤ 9000) {e e' : E3} {cs : List (Int × Int × Int)} (hr : Run e cs e') (he : e.ok) (hx : Ext F e') :
    ∀ (pre ks : List C3) (k : Nat), ks.map tri = cs → (pre ++ ks).length ≤ 9000 → 200 + 2 * ks.length < k →
    psalterylaw05_CoderBack.l1 k (pre ++ ks) ((pre.length : Nat) : Int) (Cd F e) e.2.1 F ((e.len + 4 : Nat) : Int) = some true := by
  induction hr with
  | nil e =>
    intro pre ks k hk hl hf
    obtain rfl : ks = [] := List.map_eq_nil_iff.1 hk
    obtain ⟨k, rfl⟩ : ∃ m, k = m + 1 := ⟨k - 1, by omega⟩
    simp only [psalterylaw05_CoderBack.l1]
    rw [if_neg (by simp), knows_k k (by simp at hf; omega)]
    rfl
  | @cons e e1 e2 lo hi tot cs s hrun ih =>
    intro pre ks k hk hl hf
    obtain ⟨x, ks, rfl, hx1, hx2⟩ : ∃ x ys, ks = x :: ys ∧ tri x = (lo, hi, tot) ∧ ys.map tri = cs := by
      cases ks with
      | nil => simp at hk
      | cons x ys => simp only [List.map_cons, List.cons.injEq] at hk; exact ⟨x, ys, rfl, hk.1, hk.2⟩
    simp only [tri, Prod.mk.injEq] at hx1
    obtain ⟨rfl, rfl, rfl⟩ := hx1
    obtain ⟨k, rfl⟩ : ∃ m, k = m + 2 := ⟨k - 2, by omega⟩
    have hx' := hrun.ext s.ok hb hx
    obtain ⟨g0, g1, g2⟩ := ext_back he s hb hx'
    have hd := cd_ok he g0 hF
    have hf' := s.fair
    have hg := gt_in he.2.2.1 he.2.2.2.1 s.fair g1 g2
    simp only [psalterylaw05_CoderBack.l1]
    simp only [List.length_append, List.length_cons] at hl hf
    rw [if_pos (by simp; omega), if_pos (by omega), rd_at, get_ok (good_ok hd) hd (by have := s.fair; unfold Cod.Fair at this; omega) s.fair.2.2.2, Option.bind_some, take_ok (good_ok hd) hd hb hF s.fair (k + 1) (by omega), Option.bind_some, tk_eq he s hb hx']
    dsimp only
    rw [if_pos rfl, if_pos rfl, if_neg (by omega), show decide (gt (Cd F e) e.2.1 x.f2 ≥ x.f1) = false by simp; omega]
    simp only [psalterylaw05_CoderBack.j3]
    rw [if_neg (by simp), i64w (by omega) (by omega)]
    have := ih s.ok hx (pre ++ [x]) ks k hx2 (by simp; omega) (by omega)
    rw [List.append_assoc, List.singleton_append, List.length_append, List.length_singleton] at this
    exact this
/-- The first loop. -/
theorem l0_ok (xs : List C3) (hm : xs.length ≤ 9223372036854775807) (K : Nat) (hK : 6000 ≤ K) : ∀ (d : Nat) (i : Int) (e0 e : E3) (kept : List C3) (k : Nat), 0 ≤ i → i + d = 100 → (kept.length : Int) ≤ i → Run (0, 4294967295, []) (kept.map tri) e → e.ok → Nov e → K + 3 * d < k →
    psalterylaw05_CoderBack.l0 k xs kept i e.1 e.2.1 e.2.2 = some true := by
  have done : ∀ (i : Int) (e : E3) (kept : List C3) (k : Nat), (kept.length : Int) ≤ 100 → Run (0, 4294967295, []) (kept.map tri) e → e.ok → 400 < k → psalterylaw05_CoderBack.j1 (k + 1) xs kept i false e.1 e.2.1 e.2.2 = some true := by
    intro i e kept k hl hr he hk
    have hb := all_bytes he
    have hx := all_ext he
    have h0 := hr.ext new_e hb hx
    have key := l1_ok hb (all_le he) hr new_e hx [] kept k rfl (by simp; omega) (by omega)
    simp only [psalterylaw05_CoderBack.j1]
    rw [if_neg (by simp), finish_ok he, Option.bind_some]
    show ((coder_Open.f (all e)).bind fun bt427 => _) = _
    rw [open_f hb, Option.bind_some]
    dsimp only
    rw [open_cd hb h0]
    exact key
  intro d
  induction d with
  | zero =>
    intro i e0 e kept k h0 hd hn hr he hv hk
    obtain ⟨k, rfl⟩ : ∃ m, k = m + 2 := ⟨k - 2, by omega⟩
    simp only [psalterylaw05_CoderBack.l0]
    by_cases h1 : i < (xs.length : Int)
    · rw [if_pos h1, show decide (i < 100) = false by simp; omega]
      exact done i e kept k (by omega) hr he (by omega)
    · rw [if_neg h1]
      exact done i e kept k (by omega) hr he (by omega)
  | succ d ih =>
    intro i e0 e kept k h0 hd hn hr he hv hk
    obtain ⟨k, rfl⟩ : ∃ m, k = m + 2 := ⟨k - 2, by omega⟩
    simp only [psalterylaw05_CoderBack.l0]
    by_cases h1 : i < (xs.length : Int)
    · rw [if_pos h1, show decide (i < 100) = true by simp; omega]
      simp only [psalterylaw05_CoderBack.j1]
      rw [if_pos trivial, if_pos h0, if_pos h1, i64w (x := i + 1) (by omega) (by omega)]
      generalize rd_T53 xs i = c
      by_cases hf : Cod.Fair c.f0 c.f1 c.f2
      · by_cases hl : e.len < 3996
        · obtain ⟨e', a, s, v⟩ := st_of_put he hv hf hl
          rw [a k (by omega), Option.bind_some]
          dsimp only
          rw [if_pos rfl, if_pos (by omega)]
          refine ih (i + 1) e' e' (kept ++ [c]) k (by omega) (by omega) (by simp; omega) ?_ s.ok v (by omega)
          rw [List.map_append]
          exact hr.append (.cons s (.nil _))
        · rw [put_full k (own_ok he) hf (by unfold E3.len at hl; omega), Option.bind_some]
          dsimp only
          rw [if_neg (by decide)]
          exact ih (i + 1) e e kept k (by omega) (by omega) (by omega) hr he hv (by omega)
      · rw [put_bad k (own_ok he) hf, Option.bind_some]
        dsimp only
        rw [if_neg (by decide)]
        exact ih (i + 1) e e kept k (by omega) (by omega) (by omega) hr he hv (by omega)
    · rw [if_neg h1]
      exact done i e kept k (by omega) hr he (by omega)
theorem pure : Pu := by
  intro xs hx
  obtain ⟨k, hk⟩ : ∃ k : Nat, k = 10000 := ⟨_, rfl⟩
  refine ⟨k, ?_⟩
  unfold psalterylaw05_CoderBack.f coder_New.f
  simp only [Option.bind_some]
  have h := hx.1
  simp only [maxLen] at h
  exact l0_ok xs (by omega) 6000 (by omega) 100 0 (0, 4294967295, []) (0, 4294967295, []) [] k (by omega) (by omega) (by simp) (.nil _) new_e new_nov (by omega)
end Go.Proofs.Ytkaoiblgfpphoaa.coderBack
