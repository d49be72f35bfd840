/- Wave: the lists of a block, level by level, and back; plain arithmetic. -/
import Derived.RowKit
namespace Go.Proofs.YtllchhcdpfiodaaDoor.Wav
open Go Go.RowKit
def inI (v : Int) : Prop := -9223372036854775808 ≤ v ∧ v < 9223372036854775808
def wm : List Int → List Int
  | a :: b :: l => wrap64 (a + wrap64 (b - a) / 2) :: wm l
  | _ => []
def wd : List Int → List Int
  | a :: b :: l => wrap64 (b - a) :: wd l
  | _ => []
def fw : Nat → List Int → List Int
  | 0, l => l
  | n + 1, l => fw n (wm l) ++ wd l
def we : List Int → List Int → List Int
  | m :: ms, d :: ds => wrap64 (m - d / 2) :: wrap64 (wrap64 (m - d / 2) + d) :: we ms ds
  | _, _ => []
def iv : Nat → List Int → List Int
  | 0, l => l
  | n + 1, c => we (iv n (c.take (2 ^ n))) (c.drop (2 ^ n))

theorem two_ind {P : List Int → Prop} (h0 : P []) (h1 : ∀ a, P [a]) (h2 : ∀ a b l, P l → P (a :: b :: l)) : ∀ l, P l
  | [] => h0
  | [a] => h1 a
  | a :: b :: l => h2 a b l (two_ind h0 h1 h2 l)
theorem wm_len (l : List Int) : (wm l).length = l.length / 2 := by
  induction l using two_ind with
  | h0 => rfl
  | h1 a => simp [wm]
  | h2 a b l ih => simp [wm, ih]; omega
theorem wd_len (l : List Int) : (wd l).length = l.length / 2 := by
  induction l using two_ind with
  | h0 => rfl
  | h1 a => simp [wd]
  | h2 a b l ih => simp [wd, ih]; omega
theorem fw_len : ∀ (n : Nat) (l : List Int), l.length = 2 ^ n → (fw n l).length = 2 ^ n
  | 0, l, h => by simpa [fw] using h
  | n + 1, l, h => by
    have h1 := wm_len l; have h2 := wd_len l
    rw [h, Nat.pow_succ] at h1 h2
    simp only [Nat.mul_div_cancel _ (show 0 < 2 by omega)] at h1 h2
    simp only [fw, List.length_append, fw_len n _ h1, h2, Nat.pow_succ]; omega
theorem we_len : ∀ (m d : List Int), m.length = d.length → (we m d).length = 2 * d.length
  | [], [], _ => rfl
  | a :: m, b :: d, h => by simp [we, we_len m d (by simpa using h)]; omega
theorem iv_len : ∀ (n : Nat) (c : List Int), c.length = 2 ^ n → (iv n c).length = 2 ^ n
  | 0, c, h => by simpa [iv] using h
  | n + 1, c, h => by
    have h1 : (c.take (2 ^ n)).length = 2 ^ n := by rw [List.length_take, h, Nat.pow_succ]; omega
    have h2 : (c.drop (2 ^ n)).length = 2 ^ n := by rw [List.length_drop, h, Nat.pow_succ]; omega
    simp only [iv]; rw [we_len _ _ (by rw [iv_len n _ h1, h2]), h2, Nat.pow_succ]; omega

theorem wrap_in (v : Int) : inI (wrap64 v) := by unfold inI wrap64; omega
theorem pair_back {a b : Int} (ha : inI a) (hb : inI b) : wrap64 (wrap64 (a + wrap64 (b - a) / 2) - wrap64 (b - a) / 2) = a ∧ wrap64 (a + wrap64 (b - a)) = b := by
  unfold inI at ha hb; unfold wrap64; omega
theorem wm_in (l : List Int) : ∀ v ∈ wm l, inI v := by
  induction l using two_ind with
  | h0 => simp [wm]
  | h1 a => simp [wm]
  | h2 a b l ih => simp only [wm, List.mem_cons]; rintro v (rfl | h); exact wrap_in _; exact ih v h
theorem we_back (l : List Int) (h : ∀ v ∈ l, inI v) (he : l.length % 2 = 0) : we (wm l) (wd l) = l := by
  induction l using two_ind with
  | h0 => rfl
  | h1 a => simp at he
  | h2 a b l ih =>
    simp only [List.mem_cons] at h
    obtain ⟨p, q⟩ := pair_back (h a (by simp)) (h b (by simp))
    simp only [wm, wd, we, p, q]
    rw [ih (fun v hv => h v (by simp [hv])) (by simp at he; omega)]
theorem iv_fw : ∀ (n : Nat) (l : List Int), l.length = 2 ^ n → (∀ v ∈ l, inI v) → iv n (fw n l) = l
  | 0, l, _, _ => rfl
  | n + 1, l, h, hv => by
    have h1 := wm_len l
    rw [h, Nat.pow_succ, Nat.mul_div_cancel _ (show 0 < 2 by omega)] at h1
    have hl := fw_len n _ h1
    simp only [fw, iv]
    rw [List.take_left' hl, List.drop_left' hl, iv_fw n _ h1 (wm_in l), we_back l hv (by rw [h, Nat.pow_succ]; omega)]
-- bounds
theorem mid {a b lo hi : Int} (h0 : -16777216 ≤ lo) (h1 : hi ≤ 16777216) (ha : lo ≤ a ∧ a ≤ hi) (hb : lo ≤ b ∧ b ≤ hi) :
    lo ≤ wrap64 (a + wrap64 (b - a) / 2) ∧ wrap64 (a + wrap64 (b - a) / 2) ≤ hi ∧ lo - hi ≤ wrap64 (b - a) ∧ wrap64 (b - a) ≤ hi - lo := by
  unfold wrap64; omega
theorem wm_bd {lo hi : Int} (h0 : -16777216 ≤ lo) (h1 : hi ≤ 16777216) (l : List Int) (h : ∀ v ∈ l, lo ≤ v ∧ v ≤ hi) :
    (∀ v ∈ wm l, lo ≤ v ∧ v ≤ hi) ∧ (∀ v ∈ wd l, lo - hi ≤ v ∧ v ≤ hi - lo) := by
  induction l using two_ind with
  | h0 => simp [wm, wd]
  | h1 a => simp [wm, wd]
  | h2 a b l ih =>
    obtain ⟨p, q, r, s⟩ := mid h0 h1 (h a (by simp)) (h b (by simp))
    obtain ⟨i, j⟩ := ih (fun v hv => h v (by simp [hv]))
    refine ⟨fun v hv => ?_, fun v hv => ?_⟩
    · simp only [wm, List.mem_cons] at hv; rcases hv with rfl | hv; exact ⟨p, q⟩; exact i v hv
    · simp only [wd, List.mem_cons] at hv; rcases hv with rfl | hv; exact ⟨r, s⟩; exact j v hv
theorem fw_bd {lo hi : Int} (h0 : -16777216 ≤ lo) (h1 : hi ≤ 16777216) : ∀ (n : Nat) (l : List Int), l.length = 2 ^ n → (∀ v ∈ l, lo ≤ v ∧ v ≤ hi) →
    ∃ m r, fw n l = m :: r ∧ lo ≤ m ∧ m ≤ hi ∧ ∀ v ∈ r, lo - hi ≤ v ∧ v ≤ hi - lo
  | 0, [a], _, h => ⟨a, [], rfl, (h a (by simp)).1, (h a (by simp)).2, by simp⟩
  | n + 1, l, hl, h => by
    have h2 := wm_len l
    rw [hl, Nat.pow_succ, Nat.mul_div_cancel _ (show 0 < 2 by omega)] at h2
    obtain ⟨i, j⟩ := wm_bd h0 h1 l h
    obtain ⟨m, r, e, p, q, s⟩ := fw_bd h0 h1 n (wm l) h2 i
    refine ⟨m, r ++ wd l, by simp [fw, e], p, q, fun v hv => ?_⟩
    rcases List.mem_append.1 hv with hv | hv
    exact s v hv
    exact j v hv
end Go.Proofs.YtllchhcdpfiodaaDoor.Wav
