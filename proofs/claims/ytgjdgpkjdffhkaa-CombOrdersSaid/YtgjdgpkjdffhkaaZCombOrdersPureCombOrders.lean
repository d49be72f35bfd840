/- CombOrders, over numbers: of two vectors of as many places and pulses the one whose number is less stands ahead. -/
import Derived.Test.YtgjdgpkjdffhkaaZCombOrdersComK
import Derived.Test.YtgjdgpkjdffhkaaZCombOrdersPuCombOrders
namespace Go.Proofs.Ytgjdgpkjdffhkaa.combOrders
open Go Go.RowKit Go.Proofs.YtgjdgpkjdffhkaaW.PrintWords Go.Proofs.Ytgjdgpkjdffhkaa.Prt Go.Proofs.Ytgjdgpkjdffhkaa.Com
theorem place_f {p : Nat} (h : psz p ≤ 12) : psalterylaw06_place.f (pval p) = some (p : Int) := by
  unfold psalterylaw06_place.f
  have hp : p = 2 * psz p - 1 ∨ p = 2 * psz p := by unfold psz; omega
  rcases pval_sz p with ⟨e, e2⟩ | ⟨e, e2⟩
  · rw [e, if_pos (by omega), w64 (x := 2 * (psz p : Int)) (by omega) (by omega), w64 (by omega) (by omega)]
    congr 1
    omega
  · rw [e, if_neg (by omega), w64 (by omega) (by omega)]
    congr 1
    omega
theorem walk {V : Nat → Nat → Int} (C : Cnt V) {N : Nat} (hN : N ≤ 16) {x y : List Int} (hx : x.length = N) (hy : y.length = N) : ∀ (n kk at_ k : Nat) (i m : Int), at_ + n = N → kk < 13 → Unr V n kk i (x.drop at_) → Unr V n kk m (y.drop at_) → i < m → 200 + n ≤ k → psalterylaw06_CombOrders.l0 k (N : Int) x y (at_ : Int) = some true
  | 0, kk, at_, k, i, m, h, hkk, hu, hv, him, hk => by
    have := hu.2.1
    have := hv.2.1
    omega
  | n + 1, kk, at_, k, i, m, h, hkk, ⟨p, ps, e, h1, h2, h3, h4⟩, ⟨q, qs, e', h1', h2', h3', h4'⟩, him, hk => by
    obtain ⟨r, rfl⟩ : ∃ r, k = r + 1 := ⟨k - 1, by omega⟩
    have hat : at_ < x.length := by omega
    have hat' : at_ < y.length := by omega
    have hd : x.drop (at_ + 1) = ps := by
      rw [List.drop_eq_getElem_cons hat] at e
      exact (List.cons.inj e).2
    have hvx : x[at_] = pval p := by
      rw [List.drop_eq_getElem_cons hat] at e
      exact (List.cons.inj e).1
    have hd' : y.drop (at_ + 1) = qs := by
      rw [List.drop_eq_getElem_cons hat'] at e'
      exact (List.cons.inj e').2
    have hvy : y[at_] = pval q := by
      rw [List.drop_eq_getElem_cons hat'] at e'
      exact (List.cons.inj e').1
    rw [psalterylaw06_CombOrders.l0, if_pos (by omega), if_pos (by omega), if_pos (by omega), if_pos (by omega), rd_at hat, rd_at hat', hvx, hvy]
    by_cases hpq : p = q
    · subst hpq
      rw [if_pos rfl, wsucc (by omega)]
      exact walk C hN hx hy n (kk - psz p) (at_ + 1) r (i - P V n kk p) (m - P V n kk p) (by omega) (by omega) (by rw [hd]; exact h4) (by rw [hd']; exact h4') (by omega) (by omega)
    · have hlt : p < q := by
        rcases Nat.lt_or_ge q p with h5 | h5
        · have := P_mono C (n := n) (k := kk) (by omega) hkk (show q + 1 ≤ p by omega)
          omega
        · omega
      rw [if_neg (fun e5 => hpq (pval_inj e5)), place_f (by omega), Option.bind_some, place_f (by omega), Option.bind_some, if_pos (by omega), knows_k _ (by omega)]
      rfl
theorem pure : Pu := by
  intro a b i m ha hb hi hm
  obtain ⟨V, C⟩ := exCnt
  refine ⟨6000, ?_⟩
  have hj : psalterylaw06_CombOrders.j0 6000 a b i m true = some true := by
    rw [psalterylaw06_CombOrders.j0, if_pos rfl, knows_k _ (by omega)]
    rfl
  unfold psalterylaw06_CombOrders.f
  by_cases h : 1 ≤ a ∧ a ≤ 16 ∧ 0 ≤ b ∧ b ≤ 12
  · obtain ⟨n, rfl⟩ : ∃ n : Nat, a = n := ⟨a.toNat, by omega⟩
    obtain ⟨k, rfl⟩ : ∃ n : Nat, b = n := ⟨b.toNat, by omega⟩
    have h0 := wf_u64 hi
    rw [(fair_ok (by omega) (by omega) (by omega)).2, Option.bind_some, if_pos rfl]
    by_cases c1 : i ≥ m
    · rw [if_pos c1, hj]
    · rw [if_neg c1, refCount_ok C (by omega) (by omega) (by omega), Option.bind_some]
      by_cases c2 : m ≥ V n k
      · rw [decide_eq_true c2, hj]
      · obtain ⟨x, hx, hf⟩ := vector_ok C (n := n) (k := k) (i := i) (by omega) (by omega) (by omega) h0 (by omega)
        obtain ⟨y, hy, hg⟩ := vector_ok C (n := n) (k := k) (i := m) (by omega) (by omega) (by omega) (by omega) (by omega)
        have lx := hx.len
        have ly := hy.len
        have hne : (((y.length : Int)) != (n : Int)) = false := by
          rw [bne_eq_false_iff_eq]
          omega
        rw [decide_eq_false c2, psalterylaw06_CombOrders.j0, if_neg (by decide), hf _ (by omega), Option.bind_some, hg _ (by omega), Option.bind_some]
        dsimp only
        rw [if_pos rfl, if_pos rfl, if_pos (by omega), hne, psalterylaw06_CombOrders.j1, if_neg (by decide)]
        exact walk C (by omega) lx ly n k 0 5998 i m (by omega) (by omega) hx hy (by omega) (by omega)
  · rw [(fair_bad h).2, Option.bind_some, if_neg (by decide), hj]
end Go.Proofs.Ytgjdgpkjdffhkaa.combOrders
