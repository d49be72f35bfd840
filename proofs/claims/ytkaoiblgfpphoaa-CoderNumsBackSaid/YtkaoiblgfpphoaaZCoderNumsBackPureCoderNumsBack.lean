/- CoderNumsBack, over numbers and lists: numbers that were put one behind the other are taken from the bytes as they were. -/
import Derived.Test.YtkaoiblgfpphoaaZCoderNumsBackCodM
import Derived.Test.YtkaoiblgfpphoaaZCoderNumsBackPuCoderNumsBack
namespace Go.Proofs.Ytkaoiblgfpphoaa.coderNumsBack
open Go.RowKit Go.Proofs.YtkaoiblgfpphoaaW.PrintWords Go.Proofs.Ytkaoiblgfpphoaa.Prt Go.Proofs.Ytkaoiblgfpphoaa.Val Go.Proofs.Ytkaoiblgfpphoaa.Cod
set_option linter.unusedVariables false
abbrev C2 := S76
theorem rd_at (a b : List C2) (x : C2) : rd_T76 (a ++ x :: b) ((a.length : Nat) : Int) = x := by
  unfold rd_T76
  simp
/-- Numbers one behind the other. -/
inductive Nums : E3 → List C2 → E3 → Prop
  | nil (e : E3) : Nums e [] e
  | cons {e e' e'' : E3} {c : C2} {cs : List C2} : 0 ≤ c.f0 → c.f0 < c.f1 → c.f1 ≤ 4294967296 → Run e (chs c.f0 c.f1) e' → Nums e' cs e'' → Nums e (c :: cs) e''
theorem Nums.snoc {e e' e'' : E3} {cs : List C2} {c : C2} (h : Nums e cs e') (h0 : 0 ≤ c.f0) (h1 : c.f0 < c.f1) (h2 : c.f1 ≤ 4294967296) (hr : Run e' (chs c.f0 c.f1) e'') : Nums e (cs ++ [c]) e'' := by
  induction h with
  | nil => exact .cons h0 h1 h2 hr (.nil _)
  | cons a b c r _ ih => exact .cons a b c r (ih hr)
theorem Nums.ext {e e' : E3} {cs : List C2} (h : Nums e cs e') (he : e.ok) {F : List Int} (hb : Bytes F) (hx : Ext F e') : Ext F e := by
  induction h with
  | nil => exact hx
  | cons a b c r _ ih => exact r.ext he hb (ih (r.ok he) hx)
theorem l1_ok {F : List Int} (hb : Bytes F) (hF : F.length ≤ 9000) {e e' : E3} {ks : List C2} (hr : Nums e ks e') (he : e.ok) (hx : Ext F e') :
    ∀ (pre : List C2) (k : Nat), (pre ++ ks).length ≤ 9000 → 200 + 2 * ks.length < k →
    psalterylaw05_CoderNumsBack.l1 k (pre ++ ks) ((pre.length : Nat) : Int) (Cd F e) e.2.1 F ((e.len + 4 : Nat) : Int) = some true := by
  induction hr with
  | nil e =>
    intro pre k hl hf
    obtain ⟨k, rfl⟩ : ∃ m, k = m + 1 := ⟨k - 1, by omega⟩
    simp only [psalterylaw05_CoderNumsBack.l1]
    rw [if_neg (by simp), knows_k k (by simp at hf; omega)]
    rfl
  | @cons e e1 e2 x ks a b c r hrun ih =>
    intro pre k hl hf
    obtain ⟨k, rfl⟩ : ∃ m, k = m + 2 := ⟨k - 2, by omega⟩
    have hx' := hrun.ext (r.ok he) hb hx
    have hd := cd_ok he (r.ext he hb hx') hF
    simp only [psalterylaw05_CoderNumsBack.l1]
    simp only [List.length_append, List.length_cons] at hl hf
    rw [if_pos (by simp; omega), if_pos (by omega), rd_at, takeNum_ok (good_ok hd) hd hb hF (by omega) c (k + 1) (by omega), Option.bind_some, tn_run he a b c r hb hF hx']
    dsimp only
    rw [if_pos rfl, show (x.f0 != x.f0) = false by simp]
    simp only [psalterylaw05_CoderNumsBack.j3]
    rw [if_neg (by simp), i64w (by omega) (by omega)]
    have := ih (r.ok he) hx (pre ++ [x]) k (by simp; omega) (by omega)
    rw [List.append_assoc, List.singleton_append, List.length_append, List.length_singleton] at this
    exact this
theorem l0_ok (xs : List C2) (hm : xs.length ≤ 9223372036854775807) (hw : ∀ c ∈ xs, 0 ≤ c.f0) (K : Nat) (hK : 6000 ≤ K) : ∀ (d : Nat) (i : Int) (e : E3) (kept : List C2) (k : Nat), 0 ≤ i → i + d = 60 → (kept.length : Int) ≤ i → Nums (0, 4294967295, []) kept e → e.ok → Nov e → K + 3 * d < k →
    psalterylaw05_CoderNumsBack.l0 k xs kept i e.1 e.2.1 e.2.2 = some true := by
  have done : ∀ (i : Int) (e : E3) (kept : List C2) (k : Nat), (kept.length : Int) ≤ 100 → Nums (0, 4294967295, []) kept e → e.ok → 400 < k → psalterylaw05_CoderNumsBack.j1 (k + 1) xs kept i false e.1 e.2.1 e.2.2 = some true := by
    intro i e kept k hl hr he hk
    have hb := all_bytes he
    have hx := all_ext he
    have h0 := hr.ext new_e hb hx
    have key := l1_ok hb (all_le he) hr new_e hx [] k (by simp; omega) (by omega)
    simp only [psalterylaw05_CoderNumsBack.j1]
    rw [if_neg (by simp), finish_ok he, Option.bind_some]
    show ((coder_Open.f (all e)).bind fun bt427 => _) = _
    rw [open_f hb, Option.bind_some]
    dsimp only
    rw [open_cd hb h0]
    exact key
  intro d
  induction d with
  | zero =>
    intro i e kept k h0 hd hn hr he hv hk
    obtain ⟨k, rfl⟩ : ∃ m, k = m + 2 := ⟨k - 2, by omega⟩
    simp only [psalterylaw05_CoderNumsBack.l0]
    by_cases h1 : i < (xs.length : Int)
    · rw [if_pos h1, show decide (i < 60) = false by simp; omega]
      exact done i e kept k (by omega) hr he (by omega)
    · rw [if_neg h1]
      exact done i e kept k (by omega) hr he (by omega)
  | succ d ih =>
    intro i e kept k h0 hd hn hr he hv hk
    obtain ⟨k, rfl⟩ : ∃ m, k = m + 2 := ⟨k - 2, by omega⟩
    simp only [psalterylaw05_CoderNumsBack.l0]
    by_cases h1 : i < (xs.length : Int)
    · rw [if_pos h1, show decide (i < 60) = true by simp; omega]
      simp only [psalterylaw05_CoderNumsBack.j1]
      have hc : 0 ≤ (rd_T76 xs i).f0 := by
        unfold rd_T76
        rw [List.getD_eq_getElem?_getD, List.getElem?_eq_getElem (by omega)]
        exact hw _ (List.getElem_mem _)
      rw [if_pos trivial, if_pos h0, if_pos h1, i64w (x := i + 1) (by omega) (by omega)]
      generalize rd_T76 xs i = c at *
      rcases putNum_run he hv (v := c.f0) (n := c.f1) hc with ⟨e', a, b1, b2, r, x⟩ | ⟨q, q0, a⟩
      · rw [a k (by omega), Option.bind_some]
        dsimp only
        rw [if_pos rfl, if_pos (by omega)]
        exact ih (i + 1) e' (kept ++ [c]) k (by omega) (by omega) (by simp; omega) (hr.snoc hc b1 b2 r) (r.ok he) x (by omega)
      · rw [a k (by omega), Option.bind_some]
        dsimp only
        rw [if_neg q0]
        exact ih (i + 1) e kept k (by omega) (by omega) (by omega) hr he hv (by omega)
    · rw [if_neg h1]
      exact done i e kept k (by omega) hr he (by omega)
theorem pure : Pu := by
  intro xs hx
  obtain ⟨k, hk⟩ : ∃ k : Nat, k = 10000 := ⟨_, rfl⟩
  refine ⟨k, ?_⟩
  unfold psalterylaw05_CoderNumsBack.f coder_New.f
  simp only [Option.bind_some]
  have h := hx.1
  simp only [maxLen] at h
  exact l0_ok xs (by omega) (fun c hc => (wf_u64 (hx.2 c hc).1).1) 6000 (by omega) 60 0 (0, 4294967295, []) [] k (by omega) (by omega) (by simp) (.nil _) new_e new_nov (by omega)
end Go.Proofs.Ytkaoiblgfpphoaa.coderNumsBack
