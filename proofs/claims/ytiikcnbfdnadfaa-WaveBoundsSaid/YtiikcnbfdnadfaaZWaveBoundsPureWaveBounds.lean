/- WaveBounds, over lists: the mean is not beyond a block's least and greatest number, and no difference is greater than these two are apart. -/
import Derived.Test.YtiikcnbfdnadfaaZWaveBoundsWavF
import Derived.Test.YtiikcnbfdnadfaaZWaveBoundsPuWaveBounds
namespace Go.Proofs.Ytiikcnbfdnadfaa.waveBounds
open Go Go.RowKit Go.Proofs.YtiikcnbfdnadfaaW.PrintWords Go.Proofs.Ytiikcnbfdnadfaa.Prt Go.Proofs.Ytiikcnbfdnadfaa.Wav
theorem in_l1 {c : List Int} (hc : c.length ≤ 1000) {lo hi : Int} (h0 : -16777216 ≤ lo) (h1 : hi ≤ 16777216) (hlh : lo ≤ hi) (hz : ∀ j, (h : j < c.length) → 1 ≤ j → lo - hi ≤ c[j] ∧ c[j] ≤ hi - lo) : ∀ (d i k : Nat), i + d = c.length → 1 ≤ i → 300 ≤ k → psalterylaw08_WaveBounds.l1 (k + d + 1) c lo hi (i : Int) = some true := by
  intro d
  induction d with
  | zero =>
    intro i k h h1 hk
    rw [psalterylaw08_WaveBounds.l1, if_neg (by omega), knows_f (by omega)]
    rfl
  | succ d ih =>
    intro i k h h2 hk
    have hi' : i < c.length := by omega
    have h3 := hz i hi' h2
    have e2 : wrap64 ((i : Int) + 1) = ((i + 1 : Nat) : Int) := by rw [w64 (by omega) (by omega)]; omega
    rw [show k + (d + 1) + 1 = (k + d + 1) + 1 by omega, psalterylaw08_WaveBounds.l1, if_pos (by omega), if_pos (by omega), rd_at hi', w64 (x := hi - lo) (by omega) (by omega), w64 (x := lo - hi) (by omega) (by omega), if_neg (by omega), if_neg (by omega), e2, ih (i + 1) k (by omega) (by omega) hk]
theorem ends_l0 {l c : List Int} (hl : l.length ≤ 1000) {k : Nat} {R : Option Bool} (hb : ∀ v ∈ l, -16777216 ≤ v ∧ v ≤ 16777216)
    (hR : ∀ lo hi : Int, -16777216 ≤ lo → hi ≤ 16777216 → lo ≤ hi → (∀ v ∈ l, lo ≤ v ∧ v ≤ hi) → psalterylaw08_WaveBounds.l0 (k + 1) l c lo hi (l.length : Int) = R) :
    ∀ (d i : Nat) (lo hi : Int), i + d = l.length → -16777216 ≤ lo → hi ≤ 16777216 → lo ≤ hi → (∀ v ∈ l.take i, lo ≤ v ∧ v ≤ hi) → psalterylaw08_WaveBounds.l0 (k + d + 1) l c lo hi (i : Int) = R := by
  intro d
  induction d with
  | zero =>
    intro i lo hi h h0 h1 h2 h3
    obtain rfl : i = l.length := by omega
    exact hR lo hi h0 h1 h2 (by simpa using h3)
  | succ d ih =>
    intro i lo hi h h0 h1 h2 h3
    have hi' : i < l.length := by omega
    have h4 := hb _ (List.getElem_mem hi')
    have e2 : wrap64 ((i : Int) + 1) = ((i + 1 : Nat) : Int) := by rw [w64 (by omega) (by omega)]; omega
    have ht : ∀ lo' hi' : Int, lo' ≤ lo → hi ≤ hi' → lo' ≤ l[i] → l[i] ≤ hi' → ∀ v ∈ l.take (i + 1), lo' ≤ v ∧ v ≤ hi' := fun lo' hi2 g0 g1 g2 g3 v hv => by
      rw [List.take_succ_eq_append_getElem hi'] at hv
      rcases List.mem_append.1 hv with hv | hv
      · have := h3 v hv
        omega
      · rw [List.mem_singleton.1 hv]
        omega
    rw [show k + (d + 1) + 1 = (k + d + 1) + 1 by omega, psalterylaw08_WaveBounds.l0, if_pos (by omega), if_pos (by omega), rd_at hi', e2]
    by_cases c1 : l[i] < lo
    · rw [if_pos c1]
      by_cases c2 : l[i] > hi
      · omega
      · rw [if_neg c2]
        exact ih (i + 1) _ _ (by omega) (by omega) (by omega) (by omega) (ht _ _ (by omega) (by omega) (by omega) (by omega))
    · rw [if_neg c1]
      by_cases c2 : l[i] > hi
      · rw [if_pos c2]
        exact ih (i + 1) _ _ (by omega) (by omega) (by omega) (by omega) (ht _ _ (by omega) (by omega) (by omega) (by omega))
      · rw [if_neg c2]
        exact ih (i + 1) _ _ (by omega) (by omega) (by omega) (by omega) (ht _ _ (by omega) (by omega) (by omega) (by omega))
theorem pure : Pu := by
  intro l hl
  refine ⟨1000, ?_⟩
  unfold psalterylaw08_WaveBounds.f psalterylaw08_great.f
  rw [Option.bind_some]
  by_cases hg : (l.length : Int) > 200
  · rw [if_pos (decide_eq_true hg), knows_f (by omega)]
    rfl
  · rw [if_neg (by simpa using hg)]
    rcases forward_f (l := l) (by omega) (k := 1000) (by omega) with ⟨n, hn, hln, hb, he⟩ | ⟨hb, he⟩
    · have hlen := fw_len _ _ hln
      have h32 : 2 ^ (n + 1) ≤ 32 := Nat.pow_le_pow_right (by omega) (show n + 1 ≤ 5 by omega)
      have hpos := Nat.two_pow_pos (n + 1)
      have hbd := (bd_of.1 (Bool.and_eq_true_iff.1 hb).2)
      have hne : (((fw (n + 1) l).length : Int) != (l.length : Int)) = false := by
        rw [bne_eq_false_iff_eq]
        omega
      rw [he, Option.bind_some]
      dsimp only
      rw [if_pos rfl, if_neg (by omega), hne, psalterylaw08_WaveBounds.j0, if_neg (by decide), if_pos (by omega)]
      have hr0 : rd l 0 = l[0]'(by omega) := rd_at (l := l) (i := 0) (by omega)
      have h4 := hbd _ (List.getElem_mem (show 0 < l.length by omega))
      rw [hr0, show (0 : Int) = ((0 : Nat) : Int) from rfl, show 999 = (999 - l.length - 1) + l.length + 1 by omega]
      refine ends_l0 (by omega) hbd (fun lo hi h0 h1 hlh hall => ?_) l.length 0 _ _ (by omega) h4.1 h4.2 (by omega) (by simp)
      obtain ⟨m, r, e, p, q, s⟩ := fw_bd h0 h1 (n + 1) l hln hall
      have hr1 : rd (fw (n + 1) l) 0 = m := by rw [e]; rfl
      rw [psalterylaw08_WaveBounds.l0, if_neg (by omega), if_pos (by omega), hr1, if_neg (by omega), decide_eq_false (by omega)]
      obtain ⟨k', hk'⟩ : ∃ k', 999 - l.length - 1 = (k' + ((fw (n + 1) l).length - 1) + 1) + 1 := ⟨999 - l.length - 1 - (fw (n + 1) l).length - 1, by omega⟩
      rw [hk', psalterylaw08_WaveBounds.j2, if_neg (by decide), show (1 : Int) = ((1 : Nat) : Int) from rfl]
      refine in_l1 (by omega) h0 h1 hlh (fun j hj h1 => ?_) ((fw (n + 1) l).length - 1) 1 k' (by omega) (by omega) (by omega)
      obtain ⟨j, rfl⟩ : ∃ i, j = i + 1 := ⟨j - 1, by omega⟩
      simp only [e, List.getElem_cons_succ]
      exact s _ (List.getElem_mem _)
    · rw [he, Option.bind_some]
      dsimp only
      rw [if_neg (by decide), if_pos (by simp), knows_f (by omega)]
      rfl
end Go.Proofs.Ytiikcnbfdnadfaa.waveBounds
