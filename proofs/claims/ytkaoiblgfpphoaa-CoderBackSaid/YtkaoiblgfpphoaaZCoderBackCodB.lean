/- What was put is taken: the decoder's code is the bytes' number less the encoder's, choice by choice. -/
import Derived.Test.YtkaoiblgfpphoaaZCoderBackCodD
namespace Go.Proofs.Ytkaoiblgfpphoaa.Cod
open Go.RowKit Go.Proofs.YtkaoiblgfpphoaaW.PrintWords Go.Proofs.Ytkaoiblgfpphoaa.Prt Go.Proofs.Ytkaoiblgfpphoaa.Val
set_option linter.unusedVariables false
abbrev E3 := Int × Int × List Int
def E3.ok (e : E3) : Prop := EOk e.1 e.2.1 e.2.2
def E3.num (e : E3) : Int := Cod.num e.1 e.2.2
def E3.len (e : E3) : Nat := e.2.2.length
structure St (e e' : E3) (lo hi tot : Int) : Prop where
  fair : Cod.Fair lo hi tot
  ok : e'.ok
  rg : e'.2.1 = (prt e.2.1 lo hi tot).1 * pw (mOf (prt e.2.1 lo hi tot).1)
  len : e'.len = e.len + mOf (prt e.2.1 lo hi tot).1
  num : e'.num = (e.num + (prt e.2.1 lo hi tot).2) * pw (mOf (prt e.2.1 lo hi tot).1)
def Nov (e : E3) : Prop := e.num + e.2.1 ≤ 4294967296 * pw e.len
structure Ext (F : List Int) (e : E3) : Prop where
  len : e.len + 4 ≤ F.length
  low : e.num ≤ val (F.take (e.len + 4))
  high : val (F.take (e.len + 4)) < e.num + e.2.1
def Cd (F : List Int) (e : E3) : Int := val (F.take (e.len + 4)) - e.num
theorem new_e : E3.ok (0, 4294967295, []) := new_ok
theorem new_nov : Nov (0, 4294967295, []) := by unfold Nov E3.num E3.len Cod.num; decide
theorem st_of_put {e : E3} (he : e.ok) (hn : Nov e) {lo hi tot : Int} (hf : Cod.Fair lo hi tot) (hl : e.len < 3996) :
    ∃ e' : E3, (∀ k, 5000 ≤ k → coder_Put.f k e.1 e.2.1 e.2.2 lo hi tot = some (e'.1, e'.2.1, e'.2.2, 0)) ∧ St e e' lo hi tot ∧ Nov e' := by
  obtain ⟨lo', out', a, b, c, d⟩ := put_ok (own_ok he) he hf hl
  have hp := prt_facts he.2.2.1 he.2.2.2.1 hf
  have hv := val_bound he.2.2.2.2.1
  have h0 : 0 ≤ e.num := by unfold E3.num Cod.num; have := he.1; omega
  unfold Nov at hn
  have e1 : (Cod.num e.1 e.2.2 + (prt e.2.1 lo hi tot).2) % (4294967296 * pw e.2.2.length) = Cod.num e.1 e.2.2 + (prt e.2.1 lo hi tot).2 :=
    Int.emod_eq_of_lt (by unfold E3.num at h0; omega) (by unfold E3.num E3.len at *; omega)
  rw [e1] at d
  refine ⟨(lo', _, out'), a, ⟨hf, b, rfl, c, d⟩, ?_⟩
  unfold Nov
  show Cod.num lo' out' + _ ≤ 4294967296 * pw out'.length
  rw [d, c, pw_add, ← Int.mul_assoc, ← Int.add_mul]
  refine Int.mul_le_mul_of_nonneg_right ?_ (Int.le_of_lt (pw_pos _))
  unfold E3.num E3.len at *; omega
theorem take_more {F : List Int} {n : Nat} (h : n < F.length) : F.take (n + 1) = F.take n ++ [rd F n] := by
  rw [List.take_succ_eq_append_getElem h]
  unfold Go.Proofs.YtkaoiblgfpphoaaW.PrintWords.rd
  simp [List.getD_eq_getElem?_getD, List.getElem?_eq_getElem h]
theorem val_more {F : List Int} {n : Nat} (h : n < F.length) : val (F.take (n + 1)) = val (F.take n) * 256 + rd F n := by rw [take_more h, val_snoc]
theorem val_between {F : List Int} (hb : Bytes F) : ∀ (m n : Nat), n + m ≤ F.length → val (F.take n) * pw m ≤ val (F.take (n + m)) ∧ val (F.take (n + m)) < (val (F.take n) + 1) * pw m
  | 0, n, _ => by rw [pw_zero]; simp; omega
  | m + 1, n, h => by
    have ih := val_between hb m n (by omega)
    have hr := hb.rd ((n + m : Nat) : Int)
    rw [← Nat.add_assoc, val_more (by omega), pw_succ, show val (F.take n) * (256 * pw m) = val (F.take n) * pw m * 256 by rw [Int.mul_assoc, Int.mul_comm 256], show (val (F.take n) + 1) * (256 * pw m) = (val (F.take n) + 1) * pw m * 256 by rw [Int.mul_assoc, Int.mul_comm 256]]
    omega
theorem ext_back {F : List Int} {e e' : E3} {lo hi tot : Int} (he : e.ok) (hs : St e e' lo hi tot) (hb : Bytes F) (hx : Ext F e') :
    Ext F e ∧ (prt e.2.1 lo hi tot).2 ≤ Cd F e ∧ Cd F e < (prt e.2.1 lo hi tot).2 + (prt e.2.1 lo hi tot).1 := by
  obtain ⟨h1, h2, h3⟩ := hx
  have hp := prt_facts he.2.2.1 he.2.2.2.1 hs.fair
  rw [hs.len] at h1 h2 h3
  rw [hs.num] at h2 h3
  rw [hs.rg, ← Int.add_mul] at h3
  generalize prt e.2.1 lo hi tot = p at *
  obtain ⟨r, s⟩ := p
  dsimp only at *
  generalize mOf r = m at *
  have hw := val_between hb m (e.len + 4) (by omega)
  rw [show e.len + m + 4 = e.len + 4 + m by omega] at h2 h3
  have pm := pw_pos m
  have g1 : e.num + s < val (F.take (e.len + 4)) + 1 := Int.lt_of_mul_lt_mul_right (Int.lt_of_le_of_lt h2 hw.2) (Int.le_of_lt pm)
  have g2 : val (F.take (e.len + 4)) < e.num + s + r := Int.lt_of_mul_lt_mul_right (Int.lt_of_le_of_lt hw.1 h3) (Int.le_of_lt pm)
  exact ⟨⟨by omega, by omega, by omega⟩, by unfold Cd; omega, by unfold Cd; omega⟩
theorem dn_eq {F : List Int} (hb : Bytes F) : ∀ (m : Nat) (c r : Int) (L : Nat), 0 ≤ c → c < r → (∀ j, j < m → r * pw j < 16777216) → L + m ≤ F.length →
    dn F m (c, (L : Int)) = (c * pw m + (val (F.take (L + m)) - val (F.take L) * pw m), ((L + m : Nat) : Int))
  | 0, c, r, L, h0, h1, h2, h3 => by simp only [dn]; rw [pw_zero, Nat.add_zero]; congr 1; omega
  | m + 1, c, r, L, h0, h1, h2, h3 => by
    have hr := hb.rd (L : Int)
    have hz := h2 0 (by omega)
    rw [pw_zero] at hz
    simp only [dn]
    rw [if_pos (by omega), show (L : Int) + 1 = ((L + 1 : Nat) : Int) by omega, Int.emod_eq_of_lt (by omega) (by omega), dn_eq hb m (c * 256 + rd F L) (r * 256) (L + 1) (by omega) (by omega) (fun j hj => by have := h2 (j + 1) (by omega); rw [pw_succ, ← Int.mul_assoc] at this; exact this) (by omega)]
    rw [val_more (by omega), show L + 1 + m = L + (m + 1) by omega, pw_succ]
    congr 1
    generalize pw m = q
    generalize val (F.take L) = y
    generalize val (F.take (L + (m + 1))) = z
    generalize rd F L = x
    rw [Int.add_mul, Int.add_mul, Int.mul_assoc, Int.mul_assoc]; omega
theorem tk_eq {F : List Int} {e e' : E3} {lo hi tot : Int} (he : e.ok) (hs : St e e' lo hi tot) (hb : Bytes F) (hx : Ext F e') :
    tk F (Cd F e) e.2.1 ((e.len + 4 : Nat) : Int) lo hi tot = (Cd F e', e'.2.1, ((e'.len + 4 : Nat) : Int)) := by
  obtain ⟨_, g1, g2⟩ := ext_back he hs hb hx
  have h1 := hx.len
  have hp := prt_facts he.2.2.1 he.2.2.2.1 hs.fair
  have hl := mOf_least hp.1
  unfold tk
  rw [hs.len] at h1
  have n1 := hs.num
  have n2 := hs.len
  have n3 := hs.rg
  generalize prt e.2.1 lo hi tot = p at *
  obtain ⟨r, s⟩ := p
  dsimp only at *
  rw [show (if s < Cd F e then s else Cd F e) = s by split <;> omega, dn_eq hb (mOf r) (Cd F e - s) r (e.len + 4) (by omega) (by omega) hl (by omega)]
  dsimp only
  rw [n3]
  generalize mOf r = m at *
  refine Prod.ext ?_ (Prod.ext rfl ?_)
  · show _ = val (F.take (e'.len + 4)) - e'.num
    rw [n1, n2, show e.len + m + 4 = e.len + 4 + m by omega]
    unfold Cd
    rw [Int.sub_mul, Int.sub_mul, Int.add_mul]; omega
  · show ((e.len + 4 + m : Nat) : Int) = ((e'.len + 4 : Nat) : Int)
    rw [n2]; omega
theorem cd_ok {F : List Int} {e : E3} (he : e.ok) (hx : Ext F e) (hl : F.length ≤ 9000) : DOk (Cd F e) e.2.1 ((e.len + 4 : Nat) : Int) := by
  obtain ⟨a, b, c, d, f, g⟩ := he
  obtain ⟨h1, h2, h3⟩ := hx
  unfold DOk Cd; omega
theorem gt_in {rg lo hi tot code : Int} (c : 16777216 ≤ rg) (d : rg ≤ 4294967295) (hf : Cod.Fair lo hi tot) (h1 : (prt rg lo hi tot).2 ≤ code) (h2 : code < (prt rg lo hi tot).2 + (prt rg lo hi tot).1) : lo ≤ gt code rg tot ∧ gt code rg tot < hi := by
  obtain ⟨e1, e2, e3, e4, e5, e6, e7⟩ := div_facts c d hf
  obtain ⟨f1, f2, f3, f4⟩ := hf
  unfold prt at h1 h2
  unfold gt
  dsimp only at h1 h2
  generalize rg / tot = q at *
  have g1 : lo ≤ code / q := by rw [Int.le_ediv_iff_mul_le (by omega), Int.mul_comm]; exact h1
  by_cases hh : hi = tot
  · split <;> omega
  · rw [if_neg hh] at h2
    have g2 : code / q < hi := by rw [Int.ediv_lt_iff_lt_mul (by omega), Int.mul_comm]; omega
    split <;> omega
inductive Run : E3 → List (Int × Int × Int) → E3 → Prop
  | nil (e : E3) : Run e [] e
  | cons {e e' e'' : E3} {lo hi tot : Int} {cs : List (Int × Int × Int)} : St e e' lo hi tot → Run e' cs e'' → Run e ((lo, hi, tot) :: cs) e''
theorem Run.append {e e' e'' : E3} {cs ds : List (Int × Int × Int)} (h : Run e cs e') (k : Run e' ds e'') : Run e (cs ++ ds) e'' := by
  induction h with
  | nil => exact k
  | cons s _ ih => exact .cons s (ih k)
theorem Run.ok {e e' : E3} {cs : List (Int × Int × Int)} (h : Run e cs e') (he : e.ok) : e'.ok := by
  induction h with
  | nil => exact he
  | cons s _ ih => exact ih s.ok
theorem Run.ext {e e' : E3} {cs : List (Int × Int × Int)} (h : Run e cs e') (he : e.ok) {F : List Int} (hb : Bytes F) (hx : Ext F e') : Ext F e := by
  induction h with
  | nil => exact hx
  | cons s _ ih => exact (ext_back he s hb (ih s.ok hx)).1
def all (e : E3) : List Int := e.2.2 ++ four e.1
theorem all_bytes {e : E3} (he : e.ok) : Bytes (all e) := he.2.2.2.2.1.append (four_bytes _)
theorem all_len {e : E3} (he : e.ok) : (all e).length = e.len + 4 := by unfold all E3.len; simp [four]
theorem all_le {e : E3} (he : e.ok) : (all e).length ≤ 9000 := by rw [all_len he]; have := he.2.2.2.2.2; unfold E3.len; omega
theorem all_ext {e : E3} (he : e.ok) : Ext (all e) e := by
  have hl := all_len he
  have hv : val (all e) = e.num := num_val e.1 e.2.2 he.1 he.2.1
  refine ⟨by omega, ?_, ?_⟩
  · rw [List.take_of_length_le (by omega), hv]; exact Int.le_refl _
  · rw [List.take_of_length_le (by omega), hv]
    have := he.2.2.1
    omega
theorem open_cd {F : List Int} (hb : Bytes F) (hx : Ext F (0, 4294967295, [])) : head4 F = Cd F (0, 4294967295, []) := by
  have h : 4 ≤ F.length := by have := hx.len; unfold E3.len at this; simpa using this
  unfold Cd E3.len E3.num Cod.num
  show head4 F = val (F.take 4) - (val [] * 4294967296 + 0)
  rw [val_nil, val_more (n := 3) (by omega), val_more (n := 2) (by omega), val_more (n := 1) (by omega), val_more (n := 0) (by omega)]
  rw [show rd F ((3 : Nat) : Int) = rd F 3 from rfl, show rd F ((2 : Nat) : Int) = rd F 2 from rfl, show rd F ((1 : Nat) : Int) = rd F 1 from rfl, show rd F ((0 : Nat) : Int) = rd F 0 from rfl]
  unfold head4
  simp only [List.take_zero, val_nil]
  omega
end Go.Proofs.Ytkaoiblgfpphoaa.Cod
