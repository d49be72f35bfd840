/- What the wave's functions come to, on lists. -/
import Derived.Test.YtllchhcdpfiodaaDoorZLapNearWavM
import Derived.Test.YtllchhcdpfiodaaDoorZLapNearWMore
import Derived.Test.YtllchhcdpfiodaaDoorZLapNearM1
import Derived.Test.YtllchhcdpfiodaaDoorZLapNearM2
namespace Go.Proofs.YtllchhcdpfiodaaDoor.Wav
open Go Go.RowKit Go.Proofs.YtllchhcdpfiodaaDoorW.PrintWords Go.Proofs.YtllchhcdpfiodaaDoor.Prt
set_option linter.unusedVariables false
set_option linter.unusedSimpArgs false

theorem w64 {x : Int} (h0 : -9223372036854775808 ≤ x) (h1 : x ≤ 9223372036854775807) : wrap64 x = x := by unfold wrap64; omega
theorem rd_at {l : List Int} {i : Nat} (h : i < l.length) : rd l (i : Int) = l[i] := by
  unfold rd
  rw [Int.toNat_natCast, List.getD_eq_getElem?_getD, List.getElem?_eq_getElem h, Option.getD_some]
theorem half_f (d : Int) : wave_half.f d = some (d / 2) := by
  unfold wave_half.f num_Shift.f
  rw [if_neg (by decide), if_neg (by decide), if_pos (by decide)]
  have h : shr .i64 d (IntKind.u64.wrap 1) = d / 2 := by
    unfold shr
    rw [show min (IntKind.u64.wrap 1).toNat IntKind.i64.bits = 1 by decide]
    rfl
  rw [Option.bind_some, h]
theorem shift_f {v : Int} (hv : inI v) (k : Nat) : psalteryref03_Shift.f (k + 2) v 1 = some (v / 2) := by
  unfold inI at hv
  have hd : wrap64 (Int.tdiv v 2) = Int.tdiv v 2 ∧ Int.tdiv v 2 * 2 ≤ v + 1 ∧ v - 1 ≤ Int.tdiv v 2 * 2 ∧ (0 ≤ v → Int.tdiv v 2 = v / 2) ∧ (v < 0 → Int.tdiv v 2 = -((-v) / 2)) := by
    rcases Int.lt_or_le v 0 with h | h
    · have e : Int.tdiv v 2 = -((-v) / 2) := by
        have e1 : Int.tdiv (-(-v)) 2 = -(Int.tdiv (-v) 2) := Int.neg_tdiv ..
        rw [Int.neg_neg] at e1
        rw [e1, Int.tdiv_eq_ediv_of_nonneg (by omega)]
      rw [e]
      refine ⟨w64 (by omega) (by omega), by omega, by omega, by omega, by omega⟩
    · have e : Int.tdiv v 2 = v / 2 := Int.tdiv_eq_ediv_of_nonneg h
      rw [e]
      refine ⟨w64 (by omega) (by omega), by omega, by omega, by omega, by omega⟩
  obtain ⟨h1, h2, h3, h4, h5⟩ := hd
  unfold psalteryref03_Shift.f
  rw [psalteryref03_Shift.l0, if_pos (by decide), h1, w64 (x := Int.tdiv v 2 * 2) (by omega) (by omega), w64 (x := (0 : Int) + 1) (by decide) (by decide)]
  by_cases h6 : Int.tdiv v 2 * 2 > v
  · rw [if_pos h6, psalteryref03_Shift.l0, if_neg (by decide), w64 (by omega) (by omega)]
    congr 1
    omega
  · rw [if_neg h6, psalteryref03_Shift.l0, if_neg (by decide)]
    congr 1
    omega
theorem same_l0 {l : List Int} (hl : l.length ≤ 1000) : ∀ (d i k : Nat), i + d = l.length → psalteryref07_Same.l0 (k + d + 1) l l (i : Int) = some true := by
  intro d
  induction d with
  | zero =>
    intro i k h
    rw [psalteryref07_Same.l0]
    rw [if_neg (by omega)]
  | succ d ih =>
    intro i k h
    rw [show k + (d + 1) + 1 = (k + d + 1) + 1 by omega]
    rw [psalteryref07_Same.l0]
    rw [if_pos (by omega), if_pos (by omega), if_pos (by omega), if_pos rfl, w64 (by omega) (by omega), show (i : Int) + 1 = ((i + 1 : Nat) : Int) by omega]
    exact ih (i + 1) k (by omega)
theorem same_f {l : List Int} (hl : l.length ≤ 1000) {k : Nat} (hk : l.length < k) : psalteryref07_Same.f k l l = some true := by
  unfold psalteryref07_Same.f
  rw [if_pos rfl]
  obtain ⟨j, rfl⟩ : ∃ j, k = j + l.length + 1 := ⟨k - l.length - 1, by omega⟩
  exact same_l0 hl l.length 0 j (by omega)

def bd (m : Int) (l : List Int) : Bool := l.all fun v => decide (-m ≤ v ∧ v ≤ m)
theorem bd_cons (m a : Int) (l : List Int) : bd m (a :: l) = (decide (-m ≤ a ∧ a ≤ m) && bd m l) := rfl
def okn (n : Nat) : Bool := n == 2 || n == 4 || n == 8 || n == 16 || n == 32
theorem clamp_f (v : Int) {m : Int} (hm : 0 ≤ m) (hm1 : m ≤ 1000000000000) : ∃ u, num_Clamp.f v (wrap64 (-m)) m = some u ∧ (v = u ↔ -m ≤ v ∧ v ≤ m) := by
  rw [w64 (by omega) (by omega)]
  unfold num_Clamp.f
  by_cases h : v < -m
  · exact ⟨-m, by rw [if_pos h], by omega⟩
  · by_cases h' : v > m
    · exact ⟨m, by rw [if_neg h, if_pos h'], by omega⟩
    · exact ⟨v, by rw [if_neg h, if_neg h'], by omega⟩
theorem sized_l0 {m : Int} (hm : 0 ≤ m) (hm1 : m ≤ 1000000000000) {l : List Int} (hl : l.length ≤ 1000) : ∀ (d i k : Nat), i + d = l.length → wave_sized.l0 (k + d + 1) m l (l.length : Int) (i : Int) = some (bd m (l.drop i)) := by
  intro d
  induction d with
  | zero =>
    intro i k h
    rw [wave_sized.l0]
    rw [if_neg (by omega), List.drop_eq_nil_of_le (by omega)]
    rfl
  | succ d ih =>
    intro i k h
    have hi : i < l.length := by omega
    obtain ⟨u, hu, hv⟩ := clamp_f l[i] hm hm1
    rw [show k + (d + 1) + 1 = (k + d + 1) + 1 by omega, List.drop_eq_getElem_cons hi]
    rw [wave_sized.l0]
    rw [if_pos (by omega), if_pos (by omega), if_pos (by omega), rd_at hi, hu, Option.bind_some]
    by_cases h1 : l[i] = u
    · rw [if_pos h1, w64 (by omega) (by omega), show (i : Int) + 1 = ((i + 1 : Nat) : Int) by omega, ih (i + 1) k (by omega)]
      rw [bd_cons, decide_eq_true (hv.1 h1), Bool.true_and]
    · rw [if_neg h1]
      have h2 : ¬ (-m ≤ l[i] ∧ l[i] ≤ m) := fun h => h1 (hv.2 h)
      have h3 : decide (-m ≤ l[i] ∧ l[i] ≤ m) = false := decide_eq_false h2
      rw [bd_cons, h3, Bool.false_and]
theorem sized_f {m : Int} (hm : 0 ≤ m) (hm1 : m ≤ 1000000000000) {l : List Int} (hl : l.length ≤ 200) {k : Nat} (hk : 210 ≤ k) : wave_sized.f k l m = some (okn l.length && bd m l) := by
  obtain ⟨j, rfl⟩ : ∃ j, k = (j + l.length + 1) + 1 := ⟨k - l.length - 2, by omega⟩
  unfold wave_sized.f
  simp only [wave_sized.j0]
  have h0 := sized_l0 hm hm1 (l := l) (by omega) l.length 0 j (by omega)
  rw [List.drop_zero] at h0
  by_cases h : (l.length : Int) < 2
  · rw [if_pos h, if_pos trivial]
    have : okn l.length = false := by
      rcases (show l.length = 0 ∨ l.length = 1 by omega) with e | e <;> rw [e] <;> rfl
    rw [this, Bool.false_and]
  · rw [if_neg h]
    by_cases h' : (l.length : Int) > 32
    · rw [if_pos h', if_pos trivial]
      have : okn l.length = false := by
        simp only [okn, Bool.or_eq_false_iff, beq_eq_false_iff_ne]
        omega
      rw [this, Bool.false_and]
    · rw [if_neg h']
      have hb : ∀ n : Fin 33, 2 ≤ n.1 → (Go.bits .and .i64 (n.1 : Int) (wrap64 ((n.1 : Int) - 1)) != 0) = !okn n.1 := by decide +kernel
      have h2 := hb ⟨l.length, by omega⟩ (by simp; omega)
      simp only at h2
      rw [h2]
      cases ho : okn l.length
      · simp
      · simp only [Bool.not_true, Bool.false_eq_true, if_false, Bool.true_and]
        exact h0
theorem okn_pow {n : Nat} (h : okn n = true) : ∃ e, n = 2 ^ (e + 1) ∧ e < 5 := by
  simp only [okn, Bool.or_eq_true, beq_iff_eq] at h
  rcases h with (((h | h) | h) | h) | h
  · exact ⟨0, h, by omega⟩
  · exact ⟨1, h, by omega⟩
  · exact ⟨2, h, by omega⟩
  · exact ⟨3, h, by omega⟩
  · exact ⟨4, h, by omega⟩

theorem wm_cons (a b : Int) (l : List Int) : wm (a :: b :: l) = wrap64 (a + wrap64 (b - a) / 2) :: wm l := rfl
theorem wd_cons (a b : Int) (l : List Int) : wd (a :: b :: l) = wrap64 (b - a) :: wd l := rfl
theorem drop2 {l : List Int} {i : Nat} (h : i + 1 < l.length) : l.drop i = l[i] :: l[i + 1] :: l.drop (i + 2) := by
  rw [List.drop_eq_getElem_cons (by omega), List.drop_eq_getElem_cons h]
theorem level_l0 {l : List Int} (hl : l.length ≤ 1000) : ∀ (d i k : Nat) (ms ds : List Int), i + 2 * d = l.length → ms.length ≤ i → ds.length ≤ i →
    wave_Level.l0 (k + d + 1) l ms ds (i : Int) = ((if (ms ++ wm (l.drop i)).length = 1 then some (ms ++ wm (l.drop i)) else wave_Level.f k (ms ++ wm (l.drop i)) 0).bind fun t =>
      if t.length + (ds ++ wd (l.drop i)).length < 17592186044416 then some (t ++ (ds ++ wd (l.drop i))) else none) := by
  intro d
  induction d with
  | zero =>
    intro i k ms ds h h1 h2
    rw [wave_Level.l0]
    rw [if_neg (by omega), List.drop_eq_nil_of_le (by omega)]
    simp [wm, wd]
  | succ d ih =>
    intro i k ms ds h h1 h2
    have hi : i + 1 < l.length := by omega
    have e1 : wrap64 ((i : Int) + 1) = ((i + 1 : Nat) : Int) := by rw [w64 (by omega) (by omega)]; omega
    have e2 : wrap64 ((i : Int) + 2) = ((i + 2 : Nat) : Int) := by rw [w64 (by omega) (by omega)]; omega
    rw [show k + (d + 1) + 1 = (k + d + 1) + 1 by omega, drop2 hi, wm_cons, wd_cons]
    rw [wave_Level.l0]
    rw [if_pos (by omega), e1, if_pos (by omega), if_pos (by omega), if_pos (by omega), rd_at hi, rd_at (show i < l.length by omega), half_f, Option.bind_some, Option.bind_some, if_pos (by simp; omega), Option.bind_some, if_pos (by simp; omega), e2,
      ih (i + 2) k _ _ (by omega) (by simp; omega) (by simp; omega)]
    simp only [List.append_assoc, List.singleton_append]
theorem level_f : ∀ (n k : Nat) (l : List Int), l.length = 2 ^ (n + 1) → n < 5 → 2 ^ (n + 1) + 2 * n + 2 ≤ k → wave_Level.f k l 0 = some (fw (n + 1) l)
  | n, k, l, h, hn, hk => by
    have hp : 2 ^ (n + 1) = 2 * 2 ^ n := by rw [Nat.pow_succ]; omega
    have hs : 2 ^ n ≤ 16 := Nat.pow_le_pow_right (by omega) (show n ≤ 4 by omega)
    have h0 := Nat.two_pow_pos n
    obtain ⟨j, rfl⟩ : ∃ j, k = (j + 2 ^ n + 1) + 1 := ⟨k - 2 ^ n - 2, by omega⟩
    have hw : (wm l).length = 2 ^ n := by rw [wm_len, h, hp]; omega
    have hd : (wd l).length = 2 ^ n := by rw [wd_len, h, hp]; omega
    simp only [wave_Level.f]
    rw [if_neg (by omega), show (0 : Int) = ((0 : Nat) : Int) from rfl, level_l0 (by omega) (2 ^ n) 0 j [] [] (by omega) (by simp) (by simp), List.drop_zero, List.nil_append, List.nil_append, hw, hd]
    match n, hn, hk, h with
    | 0, _, _, _ =>
      rw [if_pos (by rfl), Option.bind_some, if_pos (by omega)]
      rfl
    | n + 1, hn, hk, h =>
      have h3 : 2 ^ (n + 1) = 2 * 2 ^ n := by rw [Nat.pow_succ]; omega
      have h4 := Nat.two_pow_pos n
      rw [if_neg (by omega), level_f n j (wm l) hw (by omega) (by omega), Option.bind_some, if_pos (by rw [fw_len _ _ hw]; omega)]
      rfl
theorem forward_f {l : List Int} (hl : l.length ≤ 200) {k : Nat} (hk : 210 ≤ k) :
    (∃ n, n < 5 ∧ l.length = 2 ^ (n + 1) ∧ (okn l.length && bd 16777216 l) = true ∧ wave_Forward.f k l = some (fw (n + 1) l, 0)) ∨ ((okn l.length && bd 16777216 l) = false ∧ wave_Forward.f k l = some ([], 1)) := by
  have hs := sized_f (m := 16777216) (by decide) (by decide) hl hk
  unfold wave_Forward.f wave_Right.f
  rw [hs, Option.bind_some, Option.bind_some]
  cases hb : (okn l.length && bd 16777216 l)
  · right
    rw [if_neg (by decide)]
    exact ⟨rfl, rfl⟩
  · left
    obtain ⟨n, hn, hn5⟩ := okn_pow (Bool.and_eq_true_iff.1 hb).1
    have h32 : 2 ^ (n + 1) ≤ 32 := Nat.pow_le_pow_right (by omega) (show n + 1 ≤ 5 by omega)
    refine ⟨n, hn5, hn, rfl, ?_⟩
    rw [if_pos rfl, Option.bind_some, List.nil_append, if_pos (by simp; omega), level_f n k l hn hn5 (by omega), Option.bind_some]
theorem refForward_l1 {l : List Int} (hl : l.length ≤ 1000) : ∀ (d i k : Nat) (out ms ds : List Int), i + 2 * d = l.length → ms.length ≤ i → ds.length ≤ i → out.length ≤ 1000 →
    psalteryref08_Forward.l1 (k + 2 + d + 1) out l ms ds (i : Int) = psalteryref08_Forward.l0 (k + 2) ((ds ++ wd (l.drop i)) ++ out) (ms ++ wm (l.drop i)) := by
  intro d
  induction d with
  | zero =>
    intro i k out ms ds h h1 h2 h3
    have e1 : wrap64 ((i : Int) + 1) = ((i + 1 : Nat) : Int) := by rw [w64 (by omega) (by omega)]; omega
    rw [psalteryref08_Forward.l1]
    rw [e1, if_neg (by omega), List.drop_eq_nil_of_le (by omega), if_pos (by omega)]
    simp [wm, wd]
  | succ d ih =>
    intro i k out ms ds h h1 h2 h3
    have hi : i + 1 < l.length := by omega
    have e1 : wrap64 ((i : Int) + 1) = ((i + 1 : Nat) : Int) := by rw [w64 (by omega) (by omega)]; omega
    have e2 : wrap64 ((i : Int) + 2) = ((i + 2 : Nat) : Int) := by rw [w64 (by omega) (by omega)]; omega
    rw [show k + 2 + (d + 1) + 1 = (k + 2 + d + 1) + 1 by omega, drop2 hi, wm_cons, wd_cons]
    rw [psalteryref08_Forward.l1]
    rw [e1, if_pos (by omega), if_pos (by omega), if_pos (by omega), if_pos (by omega), rd_at hi, rd_at (show i < l.length by omega), show k + 2 + d + 1 = (k + d + 1) + 2 by omega, shift_f (wrap_in _), Option.bind_some, if_pos (by omega), if_pos (by omega), e2,
      show k + d + 1 + 2 = k + 2 + d + 1 by omega, ih (i + 2) k _ _ _ (by omega) (by simp; omega) (by simp; omega) h3]
    simp only [List.append_assoc, List.singleton_append]
theorem refForward_l0 : ∀ (n k : Nat) (l out : List Int), l.length = 2 ^ n → n ≤ 5 → out.length ≤ 100 - 2 * 2 ^ n → 2 ^ n + 3 * n + 3 ≤ k → psalteryref08_Forward.l0 k out l = some (fw n l ++ out)
  | 0, k, l, out, h, hn, ho, hk => by
    obtain ⟨j, rfl⟩ : ∃ j, k = j + 1 := ⟨k - 1, by omega⟩
    match l, h with
    | [a], _ =>
      rw [psalteryref08_Forward.l0]
      rw [if_neg (by simp), if_pos (by simp), Option.bind_some, if_pos (by simp; omega)]
      rfl
  | n + 1, k, l, out, h, hn, ho, hk => by
    have hp : 2 ^ (n + 1) = 2 * 2 ^ n := by rw [Nat.pow_succ]; omega
    have hs : 2 ^ n ≤ 16 := Nat.pow_le_pow_right (by omega) (show n ≤ 4 by omega)
    have h0 := Nat.two_pow_pos n
    obtain ⟨j, rfl⟩ : ∃ j, k = (j + 2 + 2 ^ n + 1) + 1 := ⟨k - 2 ^ n - 4, by omega⟩
    have hw : (wm l).length = 2 ^ n := by rw [wm_len, h, hp]; omega
    have hd : (wd l).length = 2 ^ n := by rw [wd_len, h, hp]; omega
    rw [psalteryref08_Forward.l0]
    rw [if_pos (by omega), show (0 : Int) = ((0 : Nat) : Int) from rfl, refForward_l1 (by omega) (2 ^ n) 0 j out [] [] (by omega) (by simp) (by simp) (by omega), List.drop_zero, List.nil_append, List.nil_append,
      refForward_l0 n (j + 2) (wm l) _ hw (by omega) (by rw [List.length_append, hd]; omega) (by omega)]
    simp only [fw, List.append_assoc]
theorem refForward_f {n : Nat} {l : List Int} (h : l.length = 2 ^ n) (hn : n ≤ 5) {k : Nat} (hk : 100 ≤ k) : psalteryref08_Forward.f k l = some (fw n l) := by
  have hs : 2 ^ n ≤ 32 := Nat.pow_le_pow_right (by omega) hn
  unfold psalteryref08_Forward.f
  rw [refForward_l0 n k l [] h hn (by simp) (by omega), List.append_nil]

theorem bd_of {m : Int} {l : List Int} : bd m l = true ↔ ∀ v ∈ l, -m ≤ v ∧ v ≤ m := by
  simp [bd]
end Go.Proofs.YtllchhcdpfiodaaDoor.Wav
