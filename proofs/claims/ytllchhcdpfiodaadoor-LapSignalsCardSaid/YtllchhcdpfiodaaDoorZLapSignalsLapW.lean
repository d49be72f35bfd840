/- What the wave's functions come to, on lists. -/
import Derived.Test.YtllchhcdpfiodaaDoorZLapSignalsWavM
import Derived.Test.YtllchhcdpfiodaaDoorZLapSignalsWMore
import Derived.Test.YtllchhcdpfiodaaDoorZLapSignalsM1
import Derived.Test.YtllchhcdpfiodaaDoorZLapSignalsM2
namespace Go.Proofs.YtllchhcdpfiodaaDoor.Wav
open Go Go.RowKit Go.Proofs.YtllchhcdpfiodaaDoorW.PrintWords Go.Proofs.YtllchhcdpfiodaaDoor.Prt
set_option linter.unusedVariables false
set_option linter.unusedSimpArgs false

theorem w64 {x : Int} (h0 : -9223372036854775808 ≤ x) (h1 : x ≤ 9223372036854775807) : wrap64 x = x := by unfold wrap64; omega
theorem rd_at {l : List Int} {i : Nat} (h : i < l.length) : rd l (i : Int) = l[i] := by
  unfold rd
  rw [Int.toNat_natCast, List.getD_eq_getElem?_getD, List.getElem?_eq_getElem h, Option.getD_some]
theorem half_f (d : Int) : wave_half.f d = some (d / 2) := by
  unfold wave_half.f num_Shift.f
  rw [if_neg (by decide), if_neg (by decide), if_pos (by decide)]
  have h : shr .i64 d (IntKind.u64.wrap 1) = d / 2 := by
    unfold shr
    rw [show min (IntKind.u64.wrap 1).toNat IntKind.i64.bits = 1 by decide]
    rfl
  rw [Option.bind_some, h]
theorem shift_f {v : Int} (hv : inI v) (k : Nat) : psalteryref03_Shift.f (k + 2) v 1 = some (v / 2) := by
  unfold inI at hv
  have hd : wrap64 (Int.tdiv v 2) = Int.tdiv v 2 ∧ Int.tdiv v 2 * 2 ≤ v + 1 ∧ v - 1 ≤ Int.tdiv v 2 * 2 ∧ (0 ≤ v → Int.tdiv v 2 = v / 2) ∧ (v < 0 → Int.tdiv v 2 = -((-v) / 2)) := by
    rcases Int.lt_or_le v 0 with h | h
    · have e : Int.tdiv v 2 = -((-v) / 2) := by
        have e1 : Int.tdiv (-(-v)) 2 = -(Int.tdiv (-v) 2) := Int.neg_tdiv ..
        rw [Int.neg_neg] at e1
        rw [e1, Int.tdiv_eq_ediv_of_nonneg (by omega)]
      rw [e]
      refine ⟨w64 (by omega) (by omega), by omega, by omega, by omega, by omega⟩
    · have e : Int.tdiv v 2 = v / 2 := Int.tdiv_eq_ediv_of_nonneg h
      rw [e]
      refine ⟨w64 (by omega) (by omega), by omega, by omega, by omega, by omega⟩
  obtain ⟨h1, h2, h3, h4, h5⟩ := hd
  unfold psalteryref03_Shift.f
  rw [psalteryref03_Shift.l0, if_pos (by decide), h1, w64 (x := Int.tdiv v 2 * 2) (by omega) (by omega), w64 (x := (0 : Int) + 1) (by decide) (by decide)]
  by_cases h6 : Int.tdiv v 2 * 2 > v
  · rw [if_pos h6, psalteryref03_Shift.l0, if_neg (by decide), w64 (by omega) (by omega)]
    congr 1
    omega
  · rw [if_neg h6, psalteryref03_Shift.l0, if_neg (by decide)]
    congr 1
    omega
theorem same_l0 {l : List Int} (hl : l.length ≤ 1000) : ∀ (d i k : Nat), i + d = l.length → psalteryref07_Same.l0 (k + d + 1) l l (i : Int) = some true := by
  intro d
  induction d with
  | zero =>
    intro i k h
    rw [psalteryref07_Same.l0]
    rw [if_neg (by omega)]
  | succ d ih =>
    intro i k h
    rw [show k + (d + 1) + 1 = (k + d + 1) + 1 by omega]
    rw [psalteryref07_Same.l0]
    rw [if_pos (by omega), if_pos (by omega), if_pos (by omega), if_pos rfl, w64 (by omega) (by omega), show (i : Int) + 1 = ((i + 1 : Nat) : Int) by omega]
    exact ih (i + 1) k (by omega)
theorem same_f {l : List Int} (hl : l.length ≤ 1000) {k : Nat} (hk : l.length < k) : psalteryref07_Same.f k l l = some true := by
  unfold psalteryref07_Same.f
  rw [if_pos rfl]
  obtain ⟨j, rfl⟩ : ∃ j, k = j + l.length + 1 := ⟨k - l.length - 1, by omega⟩
  exact same_l0 hl l.length 0 j (by omega)

def bd (m : Int) (l : List Int) : Bool := l.all fun v => decide (-m ≤ v ∧ v ≤ m)
theorem bd_cons (m a : Int) (l : List Int) : bd m (a :: l) = (decide (-m ≤ a ∧ a ≤ m) && bd m l) := rfl
def okn (n : Nat) : Bool := n == 2 || n == 4 || n == 8 || n == 16 || n == 32
theorem clamp_f (v : Int) {m : Int} (hm : 0 ≤ m) (hm1 : m ≤ 1000000000000) : ∃ u, num_Clamp.f v (wrap64 (-m)) m = some u ∧ (v = u ↔ -m ≤ v ∧ v ≤ m) := by
  rw [w64 (by omega) (by omega)]
  unfold num_Clamp.f
  by_cases h : v < -m
  · exact ⟨-m, by rw [if_pos h], by omega⟩
  · by_cases h' : v > m
    · exact ⟨m, by rw [if_neg h, if_pos h'], by omega⟩
    · exact ⟨v, by rw [if_neg h, if_neg h'], by omega⟩
theorem sized_l0 {m : Int} (hm : 0 ≤ m) (hm1 : m ≤ 1000000000000) {l : List Int} (hl : l.length ≤ 1000) : ∀ (d i k : Nat), i + d = l.length → wave_sized.l0 (k + d + 1) m l (l.length : Int) (i : Int) = some (bd m (l.drop i)) := by
  intro d
  induction d with
  | zero =>
    intro i k h
    rw [wave_sized.l0]
    rw [if_neg (by omega), List.drop_eq_nil_of_le (by omega)]
    rfl
  | succ d ih =>
    intro i k h
    have hi : i < l.length := by omega
    obtain ⟨u, hu, hv⟩ := clamp_f l[i] hm hm1
    rw [show k + (d + 1) + 1 = (k + d + 1) + 1 by omega, List.drop_eq_getElem_cons hi]
    rw [wave_sized.l0]
    rw [if_pos (by omega), if_pos (by omega), if_pos (by omega), rd_at hi, hu, Option.bind_some]
    by_cases h1 : l[i] = u
    · rw [if_pos h1, w64 (by omega) (by omega), show (i : Int) + 1 = ((i + 1 : Nat) : Int) by omega, ih (i + 1) k (by omega)]
      rw [bd_cons, decide_eq_true (hv.1 h1), Bool.true_and]
    · rw [if_neg h1]
      have h2 : ¬ (-m ≤ l[i] ∧ l[i] ≤ m) := fun h => h1 (hv.2 h)
      have h3 : decide (-m ≤ l[i] ∧ l[i] ≤ m) = false := decide_eq_false h2
      rw [bd_cons, h3, Bool.false_and]
theorem sized_f {m : Int} (hm : 0 ≤ m) (hm1 : m ≤ 1000000000000) {l : List Int} (hl : l.length ≤ 200) {k : Nat} (hk : 210 ≤ k) : wave_sized.f k l m = some (okn l.length && bd m l) := by
  obtain ⟨j, rfl⟩ : ∃ j, k = (j + l.length + 1) + 1 := ⟨k - l.length - 2, by omega⟩
  unfold wave_sized.f
  simp only [wave_sized.j0]
  have h0 := sized_l0 hm hm1 (l := l) (by omega) l.length 0 j (by omega)
  rw [List.drop_zero] at h0
  by_cases h : (l.length : Int) < 2
  · rw [if_pos h, if_pos trivial]
    have : okn l.length = false := by
      rcases (show l.length = 0 ∨ l.length = 1 by omega) with e | e <;> rw [e] <;> rfl
    rw [this, Bool.false_and]
  · rw [if_neg h]
    by_cases h' : (l.length : Int) > 32
    · rw [if_pos h', if_pos trivial]
      have : okn l.length = false := by
        simp only [okn, Bool.or_eq_false_iff, beq_eq_false_iff_ne]
        omega
      rw [this, Bool.false_and]
    · rw [if_neg h']
      have hb : ∀ n : Fin 33, 2 ≤ n.1 → (Go.bits .and .i64 (n.1 : Int) (wrap64 ((n.1 : Int) - 1)) != 0) = !okn n.1 := by decide +kernel
      have h2 := hb ⟨l.length, by omega⟩ (by simp; omega)
      simp only at h2
      rw [h2]
      cases ho : okn l.length
      · simp
      · simp only [Bool.not_true, Bool.false_eq_true, if_false, Bool.true_and]
        exact h0
theorem refSized_l0 {m : Int} (hm : 0 ≤ m) (hm1 : m ≤ 1000000000000) {l : List Int} (hl : l.length ≤ 1000) : ∀ (d i k : Nat) (b : Bool), i + d = l.length → psalteryref08_Sized.l0 (k + d + 1) l m (l.length : Int) b (i : Int) = some (b && bd m (l.drop i)) := by
  intro d
  induction d with
  | zero =>
    intro i k b h
    rw [psalteryref08_Sized.l0]
    rw [if_neg (by omega), List.drop_eq_nil_of_le (by omega)]
    simp [bd]
  | succ d ih =>
    intro i k b h
    have hi : i < l.length := by omega
    have e1 : wrap64 ((i : Int) + 1) = ((i + 1 : Nat) : Int) := by rw [w64 (by omega) (by omega)]; omega
    rw [show k + (d + 1) + 1 = (k + d + 1) + 1 by omega, List.drop_eq_getElem_cons hi]
    rw [psalteryref08_Sized.l0]
    rw [if_pos (by omega), e1]
    cases b
    · rw [if_neg (by decide), ih (i + 1) k false (by omega)]
      simp
    · rw [if_pos rfl, if_pos (by omega), if_pos (by omega), rd_at hi, w64 (x := -m) (by omega) (by omega)]
      by_cases h1 : l[i] ≥ -m
      · rw [if_pos h1, ih (i + 1) k _ (by omega)]
        rw [bd_cons, Bool.true_and]
        have h2 : decide (-m ≤ l[i] ∧ l[i] ≤ m) = decide (l[i] ≤ m) := by
          have h3 : -m ≤ l[i] := h1
          simp only [h3, true_and]
        rw [h2]
      · rw [if_neg h1, ih (i + 1) k _ (by omega)]
        have h2 : decide (-m ≤ l[i] ∧ l[i] ≤ m) = false := decide_eq_false (fun h => h1 h.1)
        rw [bd_cons, h2]
        rfl
theorem refSized_f {m : Int} (hm : 0 ≤ m) (hm1 : m ≤ 1000000000000) {l : List Int} (hl : l.length ≤ 200) {k : Nat} (hk : 210 ≤ k) : psalteryref08_Sized.f k l m = some (okn l.length && bd m l) := by
  obtain ⟨j, rfl⟩ : ∃ j, k = (j + l.length + 1) + 1 := ⟨k - l.length - 2, by omega⟩
  have h0 := fun b => refSized_l0 hm hm1 (l := l) (by omega) l.length 0 j b (by omega)
  simp only [List.drop_zero] at h0
  have h0' : ∀ b, psalteryref08_Sized.j0 (j + l.length + 1 + 1) l m (l.length : Int) b = some (b && bd m l) := fun b => by
    simp only [psalteryref08_Sized.j0]
    exact h0 b
  unfold psalteryref08_Sized.f
  simp only [h0']
  by_cases c1 : (l.length : Int) = 2
  · rw [if_pos c1]; have : l.length = 2 := by omega
    simp [okn, this]
  · rw [if_neg c1]
    by_cases c2 : (l.length : Int) = 4
    · rw [if_pos c2]; have : l.length = 4 := by omega
      simp [okn, this]
    · rw [if_neg c2]
      by_cases c3 : (l.length : Int) = 8
      · rw [if_pos c3]; have : l.length = 8 := by omega
        simp [okn, this]
      · rw [if_neg c3]
        by_cases c4 : (l.length : Int) = 16
        · rw [if_pos c4]; have : l.length = 16 := by omega
          simp [okn, this]
        · rw [if_neg c4]
          have e : ((l.length : Int) == 32) = okn l.length := by
            have a1 : l.length ≠ 2 := by omega
            have a2 : l.length ≠ 4 := by omega
            have a3 : l.length ≠ 8 := by omega
            have a4 : l.length ≠ 16 := by omega
            by_cases c5 : l.length = 32
            · rw [c5]; rfl
            · have c6 : ¬ ((l.length : Int) = 32) := by omega
              have b1 : ((l.length : Int) == 32) = false := beq_eq_false_iff_ne.2 c6
              rw [b1]
              simp [okn, a1, a2, a3, a4, c5]
          rw [e]
theorem okn_pow {n : Nat} (h : okn n = true) : ∃ e, n = 2 ^ (e + 1) ∧ e < 5 := by
  simp only [okn, Bool.or_eq_true, beq_iff_eq] at h
  rcases h with (((h | h) | h) | h) | h
  · exact ⟨0, h, by omega⟩
  · exact ⟨1, h, by omega⟩
  · exact ⟨2, h, by omega⟩
  · exact ⟨3, h, by omega⟩
  · exact ⟨4, h, by omega⟩

theorem we_cons (a b : Int) (m d : List Int) : we (a :: m) (b :: d) = wrap64 (a - b / 2) :: wrap64 (wrap64 (a - b / 2) + b) :: we m d := rfl
theorem inverse_l1 {c ds ms : List Int} (hl : ms.length ≤ 1000) (he : ms.length = ds.length) : ∀ (d i k : Nat) (out : List Int), i + d = ms.length → out.length ≤ 2 * i →
    wave_Inverse.l1 (k + d + 1) c ds out ms (ms.length : Int) (i : Int) = wave_Inverse.l0 k c (out ++ we (ms.drop i) (ds.drop i)) := by
  intro d
  induction d with
  | zero =>
    intro i k out h h1
    rw [wave_Inverse.l1]
    rw [if_neg (by omega), List.drop_eq_nil_of_le (by omega)]
    simp [we]
  | succ d ih =>
    intro i k out h h1
    have hi : i < ms.length := by omega
    have hi' : i < ds.length := by omega
    have e1 : wrap64 ((i : Int) + 1) = ((i + 1 : Nat) : Int) := by rw [w64 (by omega) (by omega)]; omega
    rw [show k + (d + 1) + 1 = (k + d + 1) + 1 by omega, List.drop_eq_getElem_cons hi, List.drop_eq_getElem_cons hi', we_cons]
    rw [wave_Inverse.l1]
    rw [if_pos (by omega), if_pos (by omega), if_pos (by omega), if_pos (by omega), rd_at hi, rd_at hi', half_f, Option.bind_some, Option.bind_some, if_pos (by simp; omega), e1, ih (i + 1) k _ (by omega) (by simp; omega)]
    simp only [List.append_assoc, List.cons_append, List.nil_append]
theorem inverse_l0 {n : Nat} {c : List Int} (hc : c.length = 2 ^ n) (hn : n ≤ 5) : ∀ (e j k : Nat), j + e = n → e * 20 + 1 ≤ k → wave_Inverse.l0 k c (iv j (c.take (2 ^ j))) = some (iv n c, 0) := by
  have hs : 2 ^ n ≤ 32 := Nat.pow_le_pow_right (by omega) hn
  intro e
  induction e with
  | zero =>
    intro j k h hk
    obtain ⟨q, rfl⟩ : ∃ q, k = q + 1 := ⟨k - 1, by omega⟩
    obtain rfl : j = n := by omega
    rw [List.take_of_length_le (by omega)]
    have hl := iv_len j c hc
    rw [wave_Inverse.l0]
    rw [if_neg (by omega)]
  | succ e ih =>
    intro j k h hk
    have hp : 2 ^ (j + 1) = 2 * 2 ^ j := by rw [Nat.pow_succ]; omega
    have hj : 2 ^ (j + 1) ≤ 2 ^ n := Nat.pow_le_pow_right (by omega) (by omega)
    have hj0 := Nat.two_pow_pos j
    have hj16 : 2 ^ j ≤ 16 := Nat.pow_le_pow_right (by omega) (show j ≤ 4 by omega)
    have hlen : (iv j (c.take (2 ^ j))).length = 2 ^ j := iv_len _ _ (by rw [List.length_take]; omega)
    obtain ⟨q, rfl⟩ : ∃ q, k = (q + 2 ^ j + 1) + 1 := ⟨k - 2 ^ j - 2, by omega⟩
    have e2 : wrap64 (2 * ((2 ^ j : Nat) : Int)) = ((2 ^ (j + 1) : Nat) : Int) := by rw [w64 (by omega) (by omega)]; omega
    rw [wave_Inverse.l0]
    rw [hlen, e2, if_pos (by omega), if_pos (by omega), if_pos (by omega), if_pos (by omega), Int.toNat_natCast, Int.toNat_natCast]
    have hd : ((c.take (2 ^ (j + 1))).drop (2 ^ j)).length = 2 ^ j := by rw [List.length_drop, List.length_take]; omega
    have h1 := inverse_l1 (c := c) (ds := (c.take (2 ^ (j + 1))).drop (2 ^ j)) (ms := iv j (c.take (2 ^ j))) (by omega) (by omega) (2 ^ j) 0 q [] (by omega) (by simp)
    rw [hlen, List.drop_zero, List.drop_zero, List.nil_append] at h1
    rw [show ((0 : Nat) : Int) = 0 from rfl] at h1
    rw [h1]
    have h2 : we (iv j (c.take (2 ^ j))) ((c.take (2 ^ (j + 1))).drop (2 ^ j)) = iv (j + 1) (c.take (2 ^ (j + 1))) := by
      simp only [iv]
      rw [List.take_take, Nat.min_eq_left (by omega)]
    rw [h2]
    exact ih (j + 1) q (by omega) (by omega)
theorem inverse_f {l : List Int} (hl : l.length ≤ 200) {k : Nat} (hk : 210 ≤ k) :
    (∃ n, n < 5 ∧ l.length = 2 ^ (n + 1) ∧ (okn l.length && bd 67108864 l) = true ∧ wave_Inverse.f k l = some (iv (n + 1) l, 0)) ∨ ((okn l.length && bd 67108864 l) = false ∧ wave_Inverse.f k l = some ([], 1)) := by
  have hs := sized_f (m := 67108864) (by decide) (by decide) hl hk
  unfold wave_Inverse.f
  rw [hs, Option.bind_some]
  cases hb : (okn l.length && bd 67108864 l)
  · right
    rw [if_neg (by decide)]
    exact ⟨rfl, rfl⟩
  · left
    obtain ⟨n, hn, hn5⟩ := okn_pow (Bool.and_eq_true_iff.1 hb).1
    have h0 := Nat.two_pow_pos (n + 1)
    refine ⟨n, hn5, hn, rfl, ?_⟩
    rw [if_pos rfl, if_pos (by omega)]
    have h1 := inverse_l0 hn (by omega) (n + 1) 0 k (by omega) (by omega)
    rw [← h1]
    congr 1
    match l, hn with
    | a :: l, _ => rfl
    | [], h => simp at h; omega
theorem refInverse_l0 {c ms : List Int} (hv : ∀ v ∈ c, inI v) (hl : ms.length ≤ 1000) (he : c.length = 2 * ms.length) : ∀ (d i k : Nat) (out : List Int), i + d = ms.length → out.length ≤ 2 * i →
    psalteryref08_Inverse.l0 (k + d + 3) c ms out (i : Int) = some (out ++ we (ms.drop i) (c.drop (ms.length + i))) := by
  have e0 : wrap64 ((c.length : Int) / 2) = (ms.length : Int) := by rw [w64 (by omega) (by omega)]; omega
  intro d
  induction d with
  | zero =>
    intro i k out h h1
    rw [psalteryref08_Inverse.l0]
    rw [if_neg (by omega), List.drop_eq_nil_of_le (by omega)]
    simp [we]
  | succ d ih =>
    intro i k out h h1
    have hi : i < ms.length := by omega
    have hi' : ms.length + i < c.length := by omega
    have e1 : wrap64 ((i : Int) + 1) = ((i + 1 : Nat) : Int) := by rw [w64 (by omega) (by omega)]; omega
    have e2 : wrap64 ((ms.length : Int) + i) = ((ms.length + i : Nat) : Int) := by rw [w64 (by omega) (by omega)]; omega
    rw [show k + (d + 1) + 3 = (k + d + 3) + 1 by omega, List.drop_eq_getElem_cons hi, List.drop_eq_getElem_cons hi', we_cons]
    rw [psalteryref08_Inverse.l0]
    rw [e0, e2, if_pos (by omega), if_pos (by omega), if_pos (by omega), if_pos (by omega), rd_at hi, rd_at hi', show k + d + 3 = (k + d + 1) + 2 by omega, shift_f (hv _ (List.getElem_mem _)), Option.bind_some, Option.bind_some, if_pos (by simp; omega), e1,
      show k + d + 1 + 2 = k + d + 3 by omega, ih (i + 1) k _ (by omega) (by simp; omega)]
    simp only [List.append_assoc, List.cons_append, List.nil_append, Nat.add_assoc]
theorem refInverse_f : ∀ (n k : Nat) (c : List Int), c.length = 2 ^ n → n ≤ 5 → (∀ v ∈ c, inI v) → 2 ^ n + 4 * n + 4 ≤ k → psalteryref08_Inverse.f k c = some (iv n c)
  | 0, k, c, h, hn, hv, hk => by
    obtain ⟨j, rfl⟩ : ∃ j, k = j + 1 := ⟨k - 1, by omega⟩
    match c, h with
    | [a], _ => rfl
  | n + 1, k, c, h, hn, hv, hk => by
    have hp : 2 ^ (n + 1) = 2 * 2 ^ n := by rw [Nat.pow_succ]; omega
    have hs : 2 ^ n ≤ 16 := Nat.pow_le_pow_right (by omega) (show n ≤ 4 by omega)
    have h0 := Nat.two_pow_pos n
    obtain ⟨j, rfl⟩ : ∃ j, k = j + 1 := ⟨k - 1, by omega⟩
    have e0 : wrap64 ((c.length : Int) / 2) = ((2 ^ n : Nat) : Int) := by rw [w64 (by omega) (by omega)]; omega
    have ht : (c.take (2 ^ n)).length = 2 ^ n := by rw [List.length_take]; omega
    simp only [psalteryref08_Inverse.f]
    rw [if_neg (by omega), e0, if_pos (by omega), if_pos (by omega), Int.toNat_natCast, refInverse_f n j _ ht (by omega) (fun v hh => hv v (List.mem_of_mem_take hh)) (by omega), Option.bind_some]
    have hl := iv_len n _ ht
    have h1 := refInverse_l0 (c := c) (ms := iv n (c.take (2 ^ n))) hv (by omega) (by omega) (2 ^ n) 0 (j - 2 ^ n - 3) [] (by omega) (by simp)
    rw [show j - 2 ^ n - 3 + 2 ^ n + 3 = j by omega, hl, List.drop_zero, List.nil_append, Nat.add_zero] at h1
    exact h1
theorem bd_of {m : Int} {l : List Int} : bd m l = true ↔ ∀ v ∈ l, -m ≤ v ∧ v ≤ m := by
  simp [bd]
end Go.Proofs.YtllchhcdpfiodaaDoor.Wav
