/- AllocApart, over lists: a channel's pulses hang on its own gains alone; and two channels of the same gains have the same pulses. -/
import Derived.Test.YtbaaedpjaanjnaaZAllocApartAloP
import Derived.Test.YtbaaedpjaanjnaaZAllocApartPuAllocApart
namespace Go.Proofs.Ytbaaedpjaanjnaa.allocApart
open Go Go.RowKit Go.Proofs.YtbaaedpjaanjnaaW.PrintWords Go.Proofs.Ytbaaedpjaanjnaa.Prt Go.Proofs.Ytbaaedpjaanjnaa.Alo
set_option linter.unusedVariables false
theorem one {K : Nat → Nat → Int} {g : List Int} {R : Int} {l a b : List Int} (ha : Chan K g R l a) (hb : Chan K g R l b) : a = b := by
  have h1 := ha.doc 4000 (60 + (tot l).natAbs) (by omega) (by omega)
  have h2 := hb.doc 4000 (60 + (tot l).natAbs) (by omega) (by omega)
  rw [h1] at h2; exact Option.some.inj h2
theorem sm_l0 {l : List Int} (hl : l.length ≤ 1000) : ∀ (d i k : Nat), i + d = l.length → psalteryref06_Same.l0 (k + d + 1) l l (i : Int) = some true
  | 0, i, k, h => by rw [psalteryref06_Same.l0, if_neg (by omega)]
  | d + 1, i, k, h => by
    rw [show k + (d + 1) + 1 = (k + d + 1) + 1 by omega, psalteryref06_Same.l0, if_pos (by omega), if_pos (by omega), if_pos (by omega), if_pos rfl, show wrap64 ((i : Int) + 1) = ((i + 1 : Nat) : Int) from by unfold wrap64; omega]
    exact sm_l0 hl d (i + 1) k (by omega)
theorem sm_f {l : List Int} (hl : l.length ≤ 1000) {k : Nat} (hk : 1001 ≤ k) : psalteryref06_Same.f k l l = some true := by
  rw [psalteryref06_Same.f, if_pos rfl]
  have := sm_l0 hl l.length 0 (k - l.length - 1) (by omega)
  rw [show k - l.length - 1 + l.length + 1 = k by omega] at this; exact this
theorem pure : Pu := by
  intro n a b c hn ha hb hc
  obtain ⟨K, C⟩ := Com.exCst
  refine ⟨9001, ?_⟩
  have hk : ∀ k, 8000 ≤ k → ((psalterylaw12_knows.f k).bind fun t => some t) = some true := fun k h => by rw [knows_k _ (by omega)]; rfl
  have hj : psalterylaw12_AllocApart.j0 9001 n [a, b] [a, c] [b, a] true = some true := by rw [psalterylaw12_AllocApart.j0, if_pos rfl]; exact hk _ (by omega)
  unfold psalterylaw12_AllocApart.f psalterylaw12_AllocApart.f7
  by_cases h1 : (a.length : Int) > 100
  · rw [if_pos h1]; exact hj
  rw [if_neg h1]
  by_cases h2 : (b.length : Int) > 100
  · rw [if_pos h2]; exact hj
  rw [if_neg h2]
  by_cases h3 : (c.length : Int) > 100
  · rw [decide_eq_true h3]; exact hj
  rw [decide_eq_false h3, psalterylaw12_AllocApart.j0, if_neg (by decide)]
  have two : ∀ x y : List Int, x.length ≤ 100 → y.length ≤ 100 → (∃ u v, Chan K x (room n 2) Z5 u ∧ Chan K y (room n 2) Z5 v ∧ alloc_Pulses.f 9000 n 2 [x, y] = some ([u, v], 0)) ∨ alloc_Pulses.f 9000 n 2 [x, y] = some ([], 1) := by
    intro x y hx hy
    rcases pulses C n 2 (l2 := [x, y]) (by simp) (by intro g hg; simp at hg; rcases hg with rfl | rfl <;> assumption) with ⟨_, _, out, ho, hch, p1, _, _⟩ | ⟨p1, _⟩
    · left
      match out, ho, hch, p1 with
      | [u, v], _, hch, p1 =>
        exact ⟨u, v, hch 0 (by simp), hch 1 (by simp), p1 _ (by omega)⟩
    · right; exact p1 _ (by omega)
  have bad : ∀ (x : List (List Int)) (e : Int) (y z : List (List Int)), (e = 0 ∨ x = []) → psalterylaw12_AllocApart.j1 9000 x e y z true = some true := by
    intro x e y z h
    rw [psalterylaw12_AllocApart.j1, if_pos rfl]
    by_cases he : e = 0
    · rw [if_pos he]; exact hk _ (by omega)
    · rw [if_neg he, if_pos (by rcases h with h | h; exact absurd h he; rw [h]; rfl)]; exact hk _ (by omega)
  rcases two a b (by omega) (by omega) with ⟨u1, v1, k1, m1, q1⟩ | q1
  · rcases two a c (by omega) (by omega) with ⟨u2, v2, k2, m2, q2⟩ | q2
    · rcases two b a (by omega) (by omega) with ⟨u3, v3, k3, m3, q3⟩ | q3
      · obtain rfl := one k1 k2
        obtain rfl := one k1 m3
        obtain rfl := one m1 k3
        have l1 : u1.length ≤ 1000 := by have := k1.ks.1; omega
        have l2 : v1.length ≤ 1000 := by have := m1.ks.1; omega
        rw [q1, Option.bind_some, q2, Option.bind_some, q3, Option.bind_some, if_pos rfl, if_pos rfl]
        show psalterylaw12_AllocApart.j1 9000 [u1, v1] 0 [u1, v2] [v1, u1] false = some true
        rw [psalterylaw12_AllocApart.j1, if_neg (by decide), if_pos (by rfl), if_pos (by rfl), if_pos (by rfl), if_pos (by simp), if_pos (by simp)]
        show (psalteryref06_Same.f 8999 u1 u1).bind _ = _
        rw [sm_f l1 (by omega), Option.bind_some, if_pos rfl, if_pos (by simp)]
        show (psalteryref06_Same.f 8999 u1 u1).bind _ = _
        rw [sm_f l1 (by omega), Option.bind_some, if_pos rfl, if_pos (by simp), if_pos (by simp)]
        show (psalteryref06_Same.f 8999 v1 v1).bind _ = _
        rw [sm_f l2 (by omega), Option.bind_some, if_pos rfl]
        exact hk _ (by omega)
      · rw [q1, Option.bind_some, q2, Option.bind_some, q3, Option.bind_some, if_pos rfl, if_pos rfl]
        exact bad _ _ _ _ (.inl rfl)
    · rw [q1, Option.bind_some, q2, Option.bind_some]
      rcases two b a (by omega) (by omega) with ⟨u3, v3, k3, m3, q3⟩ | q3
      · rw [q3, Option.bind_some, if_pos rfl, if_neg (by decide)]; exact bad _ _ _ _ (.inl rfl)
      · rw [q3, Option.bind_some, if_pos rfl, if_neg (by decide)]; exact bad _ _ _ _ (.inl rfl)
  · rw [q1, Option.bind_some]
    have h2' : ∃ y, alloc_Pulses.f 9000 n 2 [a, c] = some y := by rcases two a c (by omega) (by omega) with ⟨_, _, _, _, q⟩ | q <;> exact ⟨_, q⟩
    have h3' : ∃ y, alloc_Pulses.f 9000 n 2 [b, a] = some y := by rcases two b a (by omega) (by omega) with ⟨_, _, _, _, q⟩ | q <;> exact ⟨_, q⟩
    obtain ⟨y2, q2⟩ := h2'
    obtain ⟨y3, q3⟩ := h3'
    rw [q2, Option.bind_some, q3, Option.bind_some, if_neg (by decide)]
    exact bad _ _ _ _ (.inr rfl)
end Go.Proofs.Ytbaaedpjaanjnaa.allocApart
