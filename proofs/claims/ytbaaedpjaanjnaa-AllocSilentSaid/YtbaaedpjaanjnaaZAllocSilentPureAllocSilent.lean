/- AllocSilent, over numbers: no gain, no pulse. -/
import Derived.Test.YtbaaedpjaanjnaaZAllocSilentAloP
import Derived.Test.YtbaaedpjaanjnaaZAllocSilentPuAllocSilent
namespace Go.Proofs.Ytbaaedpjaanjnaa.allocSilent
open Go Go.RowKit Go.Proofs.YtbaaedpjaanjnaaW.PrintWords Go.Proofs.Ytbaaedpjaanjnaa.Prt Go.Proofs.Ytbaaedpjaanjnaa.Alo
variable {K : Nat → Nat → Int}
theorem zero_of {R : Int} {l : List Int} (c : Chan K [0, 0, 0, 0, 0] R Z5 l) : l = [0, 0, 0, 0, 0] := by
  have hl := c.ks.1
  have f := fun (b : Nat) (hb : b < 5) => (c.still b hb (Z5_rd hb)).trans (Z5_rd hb)
  match l, hl with
  | [x0, x1, x2, x3, x4], _ =>
    have f0 : x0 = 0 := f 0 (by decide)
    have f1 : x1 = 0 := f 1 (by decide)
    have f2 : x2 = 0 := f 2 (by decide)
    have f3 : x3 = 0 := f 3 (by decide)
    have f4 : x4 = 0 := f 4 (by decide)
    rw [f0, f1, f2, f3, f4]
/-- The last leg, at given gains. -/
theorem leg (C : Com.Cst K) {a b : Int} {n : Nat} (hn : n ≤ 2) (hb : (n : Int) = b ∨ rightB a b = false) {q : Nat} (hq : 8000 ≤ q) : psalterylaw12_AllocSilent.j1 q a b (List.replicate n [0, 0, 0, 0, 0]) = some true := by
  obtain ⟨r, rfl⟩ : ∃ r, q = r + 1 := ⟨q - 1, by omega⟩
  have hl : (List.replicate n ([0, 0, 0, 0, 0] : List Int)).length = n := List.length_replicate ..
  have hr : ∀ j : Nat, j < n → rd_L1 (List.replicate n [0, 0, 0, 0, 0]) (j : Int) = [0, 0, 0, 0, 0] := fun j hj => List.eq_of_mem_replicate (rdl_mem (l := List.replicate n [0, 0, 0, 0, 0]) (by omega))
  rw [psalterylaw12_AllocSilent.j1, (right_f a b).2]
  rcases pulses C a b (l2 := List.replicate n [0, 0, 0, 0, 0]) (by omega) (fun g hg => by rw [List.eq_of_mem_replicate hg]; decide) with ⟨hab, hlb, out, ho, hc, p1, p2, p3⟩ | ⟨p1, p3⟩
  · have he : out = List.replicate n [0, 0, 0, 0, 0] := by
      refine List.ext_getElem (by omega) (fun j j1 j2 => ?_)
      have c := hc j (by omega)
      rw [hr j (by omega)] at c
      have := zero_of c
      unfold rd_L1 at this
      rw [List.getD_eq_getElem?_getD, Int.toNat_natCast, List.getElem?_eq_getElem j1] at this
      rw [List.getElem_replicate]
      exact this
    rw [p1 _ (by omega), Option.bind_some, Option.bind_some, hab, if_pos rfl, he]
    dsimp only
    rw [same12 (by omega) (fun j hj => by rw [hr j (by omega)]; rfl) (by omega), Option.bind_some, if_pos rfl, if_pos rfl, knows_k _ (by omega)]
    rfl
  · rw [p1 _ (by omega), Option.bind_some, Option.bind_some]
    cases hab : rightB a b with
    | false =>
      rw [if_neg (by simp), if_pos (by rfl), if_pos rfl, knows_k _ (by omega)]
      rfl
    | true =>
      exfalso
      rcases hb with hb | hb
      · rcases pulses C a b (l2 := List.replicate n [0, 0, 0, 0, 0]) (by omega) (fun g hg => by rw [List.eq_of_mem_replicate hg]; decide) with ⟨_, _, out, _, _, p1', _, _⟩ | ⟨_, p3'⟩
        · have e := (p1 7000 (Nat.le_refl _)).symm.trans (p1' 7000 (Nat.le_refl _))
          simp at e
        · rcases p3' with p3' | p3'
          · rw [hab] at p3'; exact absurd p3' (by decide)
          · have hF : ∀ (d i q : Nat), i + d = n → 1000 + d ≤ q → psalteryref12_Fair.l0 q (List.replicate n [0, 0, 0, 0, 0]) (i : Int) = some true := by
              intro d
              induction d with
              | zero =>
                intro i q hi hq
                obtain ⟨r, rfl⟩ : ∃ r, q = r + 1 := ⟨q - 1, by omega⟩
                rw [psalteryref12_Fair.l0, if_neg (by omega)]
              | succ d ih =>
                intro i q hi hq
                obtain ⟨r, rfl⟩ : ∃ r, q = r + 1 := ⟨q - 1, by omega⟩
                rw [psalteryref12_Fair.l0, if_pos (by omega), if_pos (by omega), hr i (by omega), refRight_ok _ (by decide) _ (by simp; omega), Option.bind_some, if_pos (by decide), w64 (by omega) (by omega), show (i : Int) + 1 = ((i + 1 : Nat) : Int) by omega]
                exact ih (i + 1) r (by omega) (by omega)
            have e := p3' 7000 (Nat.le_refl _)
            unfold psalteryref12_Fair.f at e
            rw [if_pos (by omega)] at e
            exact absurd ((hF n 0 7000 (by omega) (by omega)).symm.trans e) (by simp)
      · rw [hab] at hb; exact absurd hb (by decide)
theorem pure : Pu := by
  intro a b ha hb
  obtain ⟨K, C⟩ := Com.exCst
  refine ⟨8100 + 3, ?_⟩
  have nn : ∀ n : Nat, n ≤ 2 → (n : Int) ≤ b → (n = 2 ∨ ¬ (n : Int) < b) → (n : Int) = b ∨ rightB a b = false := by
    intro n h1 h2 h3
    by_cases e : (n : Int) = b
    · exact Or.inl e
    · refine Or.inr ?_
      cases hr : rightB a b with
      | false => rfl
      | true => rcases right_iff.1 hr with ⟨h, _⟩ | ⟨h, _⟩ <;> omega
  unfold psalterylaw12_AllocSilent.f
  rw [psalterylaw12_AllocSilent.l0]
  by_cases h0 : 0 < b
  · rw [if_pos h0, if_pos (by decide), if_pos (by decide), w64 (by decide) (by decide), psalterylaw12_AllocSilent.l0]
    by_cases h1 : 0 + 1 < b
    · rw [if_pos h1, if_pos (by decide), if_pos (by simp), w64 (by decide) (by decide), psalterylaw12_AllocSilent.l0, if_neg (show ¬ (0 + 1 + 1 : Int) < 2 by decide)]
      have e := leg C (a := a) (b := b) (n := 2) (by decide) (nn 2 (by decide) (by omega) (Or.inl rfl)) (q := 8100) (by decide)
      by_cases h2 : (0 + 1 + 1 : Int) < b
      · rw [if_pos h2]; exact e
      · rw [if_neg h2]; exact e
    · rw [if_neg h1]
      exact leg C (a := a) (b := b) (n := 1) (by decide) (nn 1 (by decide) (by omega) (Or.inr (by omega))) (by decide)
  · rw [if_neg h0]
    refine leg C (a := a) (b := b) (n := 0) (by decide) (Or.inr ?_) (by decide)
    cases hr : rightB a b with
    | false => rfl
    | true => rcases right_iff.1 hr with ⟨h, _⟩ | ⟨h, _⟩ <;> omega
end Go.Proofs.Ytbaaedpjaanjnaa.allocSilent
