/- PvqAlone, over numbers: a vector with one coefficient that is not 0 has all its pulses there, and the shape of these is the radius there, but for a 255th part of it, and 1. -/
import Derived.Test.YtllgjhenbchkfaaZPvqAlonePvqT
import Derived.Test.YtllgjhenbchkfaaZPvqAlonePuPvqAlone
namespace Go.Proofs.Ytllgjhenbchkfaa.pvqAlone
open Go Go.RowKit Go.Proofs.YtllgjhenbchkfaaW.PrintWords Go.Proofs.Ytllgjhenbchkfaa.Prt Go.Proofs.Ytllgjhenbchkfaa.Com Go.Proofs.Ytllgjhenbchkfaa.Pvq Go.Proofs.Ytllgjhenbchkfaa.PvqN
set_option linter.unusedVariables false
/-- One number at a place, else noughts. -/
def lone (n j : Nat) (v : Int) : List Int := (List.replicate n 0).set j v
theorem lone_len (n j : Nat) (v : Int) : (lone n j v).length = n := by simp [lone]
theorem lone_at {n j i : Nat} (v : Int) (hj : j < n) : at0 (lone n j v) i = if j = i then v else 0 := by
  unfold at0 lone
  rw [List.getD_eq_getElem?_getD, List.getElem?_set]
  by_cases e : j = i
  · subst e; simp [hj]
  · rw [if_neg e, if_neg e]
    by_cases h : i < n
    · simp [h]
    · simp [h]
theorem ext0 {a b : List Int} (hl : a.length = b.length) (h : ∀ i, i < a.length → at0 a i = at0 b i) : a = b := by
  apply List.ext_getElem hl
  intro i h1 h2
  have := h i h1
  rw [at_get h1, at_get h2] at this; exact this
theorem mem_at {l : List Int} {v : Int} (h : v ∈ l) : ∃ i, i < l.length ∧ v = at0 l i := by
  obtain ⟨i, hi, rfl⟩ := List.getElem_of_mem h
  exact ⟨i, hi, (at_get hi).symm⟩
theorem at_map {f : Int → Int} {l : List Int} {i : Nat} (h : i < l.length) : at0 (l.map f) i = f (at0 l i) := by
  rw [at_get (by simpa using h), at_get h]; simp
theorem S2_lone : ∀ (n j : Nat) (v : Int), j < n → S2 (lone n j v) = v * v
  | n + 1, 0, v, _ => by simp [lone, List.replicate_succ, S2, S2_zero]
  | n + 1, j + 1, v, h => by
    have := S2_lone n j v (by omega)
    simpa [lone, List.replicate_succ, S2] using this
theorem D2_lone : ∀ (n j : Nat) (v u : Int), j < n → D2 (lone n j v) (lone n j u) = v * u
  | n + 1, 0, v, u, _ => by simp [lone, List.replicate_succ, D2, D2_zero]
  | n + 1, j + 1, v, u, h => by
    have := D2_lone n j v u (by omega)
    simpa [lone, List.replicate_succ, D2] using this
theorem szs_zeros : ∀ n : Nat, szs (List.replicate n 0) = 0
  | 0 => rfl
  | n + 1 => by rw [List.replicate_succ, szs, szs_zeros n]; rfl
theorem szs_lone : ∀ (n j : Nat) (v : Int), j < n → szs (lone n j v) = sz v
  | n + 1, 0, v, _ => by simp [lone, List.replicate_succ, szs, szs_zeros]
  | n + 1, j + 1, v, h => by
    have := szs_lone n j v (by omega)
    have e : sz 0 = 0 := rfl
    simpa [lone, List.replicate_succ, szs, e] using this
theorem fr_lone {n j : Nat} {v : Int} (hn : 1 ≤ n) (hn1 : n ≤ 16) (hj : j < n) (hv : In v) : Fr (lone n j v) := by
  refine ⟨by rw [lone_len]; exact hn, by rw [lone_len]; exact hn1, fun u hu => ?_⟩
  obtain ⟨i, hi, rfl⟩ := mem_at hu
  rw [lone_at v hj]; split
  · exact hv
  · unfold In; omega
/-- With one place, the best is there. -/
theorem pick_lone {n j : Nat} {m u : Int} (hj : j < n) (hm : 0 < m) (hu : 0 ≤ u) : ∀ (d t i : Nat), i + d = n → (if j < i then t = j else t ≠ j ∨ t = j) → (j < i → t = j) → pick (lone n j m) (lone n j u) d t i = j
  | 0, t, i, h, _, k => k (by omega)
  | d + 1, t, i, h, _, k => by
    have hD := D2_lone n j m u hj
    have hS := S2_lone n j u hj
    have g1 : ∀ i, i ≠ j → sc (lone n j m) (lone n j u) i = (m * u, u * u + 1) := by
      intro i hi; unfold sc; rw [hD, hS, lone_at m hj, lone_at u hj, if_neg (fun e => hi e.symm), if_neg (fun e => hi e.symm)]; simp
    have g2 : sc (lone n j m) (lone n j u) j = (m * (u + 1), (u + 1) * (u + 1)) := by
      unfold sc; rw [hD, hS, lone_at m hj, lone_at u hj, if_pos rfl, if_pos rfl]; congr 1 <;> grind
    have mu : 0 < m * m * ((u + 1) * (u + 1)) := Int.mul_pos (Int.mul_pos hm hm) (Int.mul_pos (by omega) (by omega))
    have up : gt (m * (u + 1), (u + 1) * (u + 1)) (m * u, u * u + 1) = true := by
      unfold gt; apply decide_eq_true; dsimp only
      have e : m * (u + 1) * (m * (u + 1)) * (u * u + 1) = m * u * (m * u) * ((u + 1) * (u + 1)) + m * m * ((u + 1) * (u + 1)) := by grind
      omega
    have dn : gt (m * u, u * u + 1) (m * (u + 1), (u + 1) * (u + 1)) = false := by
      unfold gt; apply decide_eq_false; dsimp only
      have e : m * (u + 1) * (m * (u + 1)) * (u * u + 1) = m * u * (m * u) * ((u + 1) * (u + 1)) + m * m * ((u + 1) * (u + 1)) := by grind
      omega
    rw [pick]
    by_cases ei : i = j
    · subst ei
      rw [g2]
      by_cases et : t = i
      · subst et
        apply pick_lone hj hm hu d _ _ (by omega)
        · rw [if_pos (by omega)]; split <;> rfl
        · intro _; split <;> rfl
      · rw [g1 t et, up, if_pos rfl]
        exact pick_lone hj hm hu d i (i + 1) (by omega) (by rw [if_pos (by omega)]) (fun _ => rfl)
    · rw [g1 i ei]
      by_cases et : t = j
      · subst et
        rw [g2, dn, if_neg (by decide)]
        exact pick_lone hj hm hu d t (i + 1) (by omega) (by split <;> simp) (fun _ => rfl)
      · rw [g1 t et, gt_self, if_neg (by decide)]
        have hji : ¬ j < i := fun e => et (k e)
        exact pick_lone hj hm hu d t (i + 1) (by omega) (by rw [if_neg (by omega)]; exact .inl et) (fun e => by omega)
theorem best_lone {n j : Nat} {m u : Int} (hj : j < n) (hm : 0 < m) (hu : 0 ≤ u) : best (lone n j m) (lone n j u) = j := by
  unfold best; rw [lone_len]
  exact pick_lone hj hm hu n 0 0 (by omega) (by rw [if_neg (by omega)]; omega) (by omega)
theorem add_lone {n j : Nat} (u : Int) (hj : j < n) : add1 (lone n j u) j = lone n j (u + 1) := by
  unfold add1
  rw [lone_at u hj, if_pos rfl]; unfold lone; rw [List.set_set]
theorem run_lone {n j : Nat} {m : Int} (hj : j < n) (hm : 0 < m) : ∀ (e : Nat) (u : Int), 0 ≤ u → run (lone n j m) e (lone n j u) = lone n j (u + e)
  | 0, u, hu => by simp [run]
  | e + 1, u, hu => by
    rw [run, best_lone hj hm hu, add_lone u hj, run_lone hj hm e (u + 1) (by omega)]
    congr 1; omega
theorem As_lone {n j : Nat} {v : Int} (hj : j < n) (hn : 1 ≤ n) (hv : In v) (h0 : v ≠ 0) : ∃ m, 0 < m ∧ As (lone n j v) = lone n j m := by
  have hall : ∀ c : Int, 0 < c → (All c (lone n j v) ↔ mag v < c) := by
    intro c hc
    constructor
    · intro h
      have := h _ (at_mem (l := lone n j v) (i := j) (by rw [lone_len]; exact hj))
      rw [lone_at v hj, if_pos rfl] at this; exact this
    · intro h u hu
      obtain ⟨i, hi, rfl⟩ := mem_at hu
      rw [lone_at v hj]; split
      · exact h
      · simpa [mag] using hc
  have hm0 : 0 < mag v := by unfold mag; split <;> omega
  have hm1 := mag_in hv
  refine ⟨mag v / 2 ^ hal (lone n j v), ?_, ?_⟩
  · unfold hal
    by_cases a : All 262144 (lone n j v)
    · rw [if_pos a]; simpa using hm0
    · have ha := fun h => a ((hall 262144 (by omega)).2 h)
      rw [if_neg a]
      by_cases b : All 524288 (lone n j v)
      · rw [if_pos b]; simp only [Int.pow_succ, Int.pow_zero]; (try replace ha := Int.not_lt.1 ha); (try replace hb := Int.not_lt.1 hb); (try replace hc := Int.not_lt.1 hc); omega
      · have hb := fun h => b ((hall 524288 (by omega)).2 h)
        rw [if_neg b]
        by_cases c : All 1048576 (lone n j v)
        · rw [if_pos c]; simp only [Int.pow_succ, Int.pow_zero]; (try replace ha := Int.not_lt.1 ha); (try replace hb := Int.not_lt.1 hb); (try replace hc := Int.not_lt.1 hc); omega
        · have hc := fun h => c ((hall 1048576 (by omega)).2 h)
          rw [if_neg c]; simp only [Int.pow_succ, Int.pow_zero]; (try replace ha := Int.not_lt.1 ha); (try replace hb := Int.not_lt.1 hb); (try replace hc := Int.not_lt.1 hc); omega
  · refine ext0 (by rw [As_len, lone_len, lone_len]) (fun i hi => ?_)
    rw [As_len, lone_len] at hi
    unfold As
    rw [at_map (by rw [lone_len]; exact hi), lone_at v hj, lone_at _ hj]
    by_cases e : j = i
    · rw [if_pos e, if_pos e]
    · rw [if_neg e, if_neg e]; simp [mag]
theorem zero_lone {n j : Nat} (hj : j < n) : List.replicate n 0 = lone n j 0 := by
  refine ext0 (by simp [lone_len]) (fun i hi => ?_)
  rw [lone_at 0 hj]; simp only [List.length_replicate] at hi; simp [at0, hi]
theorem Ps_lone {n j : Nat} {v : Int} (hj : j < n) (hv : In v) (h0 : v ≠ 0) (K : Nat) : Ps (lone n j v) K = lone n j K := by
  obtain ⟨m, hm, e⟩ := As_lone hj (by omega) hv h0
  unfold Ps
  rw [e, lone_len, zero_lone hj, run_lone hj hm K 0 (by omega), Int.zero_add]
theorem sg_lone {n j : Nat} {v u : Int} (hj : j < n) : sg (lone n j v) (lone n j u) = lone n j (if v < 0 then -u else u) := by
  refine ext0 (by rw [sg_len (by rw [lone_len, lone_len]), lone_len, lone_len]) (fun i hi => ?_)
  rw [sg_len (by rw [lone_len, lone_len]), lone_len] at hi
  rw [sg_at (by rw [lone_len]; exact hi) (by rw [lone_len]; exact hi), lone_at v hj, lone_at u hj, lone_at _ hj]
  by_cases e : j = i
  · rw [if_pos e, if_pos e, if_pos e]
  · rw [if_neg e, if_neg e, if_neg e]; simp
theorem rdn_mul {a b : Int} (hb : 1 ≤ b) : rdn (a * b) b = a := by
  unfold rdn
  rw [Int.mul_emod_left, if_neg (by omega), Int.mul_ediv_cancel _ (by omega)]
theorem dv_mul {a b : Int} (hb : 1 ≤ b) : dv (a * b) b = a := by
  unfold dv
  split
  · rw [← Int.neg_mul, rdn_mul hb]; omega
  · exact rdn_mul hb
theorem l0_ok {n j : Nat} {v r w z : Int} (hn : n ≤ 16) (hj : j < n) (hv : -1048576 ≤ v ∧ v ≤ 1048576) (hr : 0 ≤ r) (hr1 : r ≤ 1048576) : ∀ (d i : Nat), i + d = n → Ev (fun k => psalterylaw07_PvqAlone.l0 k (n : Int) (j : Int) v (lone n j w) r w (lone n j v) (i : Int)) true
  | 0, i, h => by
    refine Ev.step (fun k => ?_) knows_j
    have e1 : Int.tdiv r 255 = r / 255 := Int.tdiv_eq_ediv_of_nonneg hr
    rw [psalterylaw07_PvqAlone.l0, if_neg (by omega), if_pos (by omega), rd_nat, rd_nat, lone_at v hj, lone_at w hj, if_pos rfl, if_pos rfl, lone_len, lone_len, if_pos (by omega), Int.sub_self, w64 (x := 0) (by omega) (by omega), if_neg (by decide), if_pos (by omega), if_pos rfl, e1, w64 (x := r / 255) (by omega) (by omega), w64 (x := r / 255 + 1) (by omega) (by omega), if_pos (by omega)]
  | d + 1, i, h => by
    have ih := l0_ok (w := w) (z := z) hn hj hv hr hr1 d (i + 1) (by omega)
    refine Ev.step (fun k => ?_) ih
    rw [psalterylaw07_PvqAlone.l0, if_pos (by omega), w_succ (n := 100) (i := i) (by omega) (by omega)]
    by_cases e : i = j
    · rw [if_pos (by omega)]
    · rw [if_neg (show ¬ (i : Int) = j by omega), rd_nat, rd_nat, lone_at v hj, lone_at w hj, if_neg (show ¬ j = i from fun x => e x.symm), if_neg (show ¬ j = i from fun x => e x.symm), lone_len, lone_len, if_pos (by omega), if_pos (by omega), if_pos rfl, if_pos (by omega), if_pos rfl]
theorem pure : Pu := by
  intro n j v K hn hj hv hK
  apply Ev.rounds
  have hj0 : Ev (fun k => psalterylaw07_PvqAlone.j0 k n j v K true) true := Ev.step (fun k => by rw [psalterylaw07_PvqAlone.j0, if_pos rfl]) knows_j
  by_cases h1 : n < 1
  · exact Ev.congr (fun k => by rw [psalterylaw07_PvqAlone.f, if_pos h1]) hj0
  by_cases h2 : n > 16
  · exact Ev.congr (fun k => by rw [psalterylaw07_PvqAlone.f, if_neg h1, if_pos h2]) hj0
  by_cases h3 : j < 0
  · exact Ev.congr (fun k => by rw [psalterylaw07_PvqAlone.f, if_neg h1, if_neg h2, if_pos h3]) hj0
  by_cases h4 : j ≥ n
  · exact Ev.congr (fun k => by rw [psalterylaw07_PvqAlone.f, if_neg h1, if_neg h2, if_neg h3, if_pos h4]) hj0
  by_cases h5 : v = 0
  · exact Ev.congr (fun k => by rw [psalterylaw07_PvqAlone.f, if_neg h1, if_neg h2, if_neg h3, if_neg h4, if_pos h5]) hj0
  by_cases h6 : v < -1048576
  · exact Ev.congr (fun k => by rw [psalterylaw07_PvqAlone.f, if_neg h1, if_neg h2, if_neg h3, if_neg h4, if_neg h5, if_pos h6]) hj0
  by_cases h7 : v > 1048576
  · exact Ev.congr (fun k => by rw [psalterylaw07_PvqAlone.f, if_neg h1, if_neg h2, if_neg h3, if_neg h4, if_neg h5, if_neg h6, if_pos h7]) hj0
  by_cases h8 : K < 1
  · exact Ev.congr (fun k => by rw [psalterylaw07_PvqAlone.f, if_neg h1, if_neg h2, if_neg h3, if_neg h4, if_neg h5, if_neg h6, if_neg h7, if_pos h8]) hj0
  refine Ev.congr (fun k => by rw [psalterylaw07_PvqAlone.f, if_neg h1, if_neg h2, if_neg h3, if_neg h4, if_neg h5, if_neg h6, if_neg h7, if_neg h8]) ?_
  by_cases h9 : K > 12
  · rw [decide_eq_true h9]; exact hj0
  rw [decide_eq_false h9]
  obtain ⟨n, rfl⟩ : ∃ m : Nat, n = m := ⟨n.toNat, by omega⟩
  obtain ⟨j, rfl⟩ : ∃ m : Nat, j = m := ⟨j.toNat, by omega⟩
  obtain ⟨K, rfl⟩ : ∃ m : Nat, K = m := ⟨K.toNat, by omega⟩
  have hjn : j < n := by omega
  have hin : In v := by unfold In; omega
  have hs := search_ok (fr_lone (n := n) (j := j) (v := v) (by omega) (by omega) hjn hin) (K := K) (by omega)
  rw [Ps_lone hjn hin h5, sg_lone hjn] at hs
  refine Ev.step (fun k => by rw [psalterylaw07_PvqAlone.j0, if_neg (by decide), if_pos (by omega), Int.toNat_natCast, if_pos (by omega), Option.bind_some, if_pos (by omega), if_pos (by rw [List.length_replicate]; omega), Int.toNat_natCast]) ?_
  show Ev (fun k => (pvq_Search.f k (lone n j v) (K : Int)).bind _) _
  refine Ev.bind hs ?_
  generalize hu : (if v < 0 then -(K : Int) else K) = u
  have hu1 : u ≠ 0 ∧ -12 ≤ u ∧ u ≤ 12 ∧ (v < 0 → u = -(K : Int)) ∧ (¬ v < 0 → u = K) := by
    rw [← hu]; split
    · rename_i c; exact ⟨by omega, by omega, by omega, fun _ => rfl, fun h => absurd c h⟩
    · rename_i c; exact ⟨by omega, by omega, by omega, fun h => absurd h c, fun _ => rfl⟩
  refine Ev.congr (f := fun k => psalterylaw07_PvqAlone.j1 k n j v K (lone n j u) false) (fun k => by rw [if_pos rfl]; dsimp only; rw [lone_len]; simp) ?_
  have go : ∀ r : Int, 0 ≤ r → r ≤ 1048576 → (v < 0 → r = -v) → (¬ v < 0 → r = v) → Ev (fun k => psalterylaw07_PvqAlone.j2 k n j v (lone n j u) r u) true := by
    intro r r0 r1 ra rb
    have hpv : Pv (lone n j u) := ⟨by rw [lone_len]; omega, by rw [lone_len]; omega, by rw [szs_lone n j u hjn]; unfold sz; rw [if_pos (by omega)]; split <;> omega⟩
    have hS := S2_lone n j u hjn
    have hup : 0 < u * u := by
      rcases Int.lt_or_gt_of_ne hu1.1 with h | h
      · have := Int.mul_pos (a := -u) (b := -u) (by omega) (by omega); rw [Int.neg_mul_neg] at this; exact this
      · exact Int.mul_pos h h
    obtain ⟨N, n0, n1, n2, n3, a, _⟩ := shape_some (r := r) hpv r0 (by omega) (by omega)
    have hN : N = 256 * K := by
      refine root_one (n := 65536 * S2 (lone n j u)) (by omega) (by omega) n2 n3 ?_ ?_
      · have e : u * u = K * K := by
          rcases Classical.em (v < 0) with c | c
          · rw [hu1.2.2.2.1 c]; grind
          · rw [hu1.2.2.2.2 c]
        rw [hS, e]; grind
      · have e : u * u = K * K := by
          rcases Classical.em (v < 0) with c | c
          · rw [hu1.2.2.2.1 c]; grind
          · rw [hu1.2.2.2.2 c]
        rw [hS, e]
        have : (256 * (K : Int) + 1) * (256 * K + 1) = 65536 * (K * K) + 512 * K + 1 := by grind
        omega
    have hz : (lone n j u).map (fun p => dv (p * r * 256) N) = lone n j v := by
      refine ext0 (by simp [lone_len]) (fun i hi => ?_)
      rw [List.length_map, lone_len] at hi
      rw [at_map (by rw [lone_len]; exact hi), lone_at u hjn, lone_at v hjn]
      by_cases e : j = i
      · rw [if_pos e, if_pos e]
        have e2 : u * r * 256 = v * N := by
          rw [hN]
          rcases Classical.em (v < 0) with c | c
          · rw [hu1.2.2.2.1 c, ra c]; grind
          · rw [hu1.2.2.2.2 c, rb c]; grind
        rw [e2]; exact dv_mul (by omega)
      · rw [if_neg e, if_neg e, Int.zero_mul, Int.zero_mul]
        have := dv_mul (a := 0) (b := N) (by omega)
        rwa [Int.zero_mul] at this
    rw [hz] at a
    refine Ev.step (fun k => by rw [psalterylaw07_PvqAlone.j2]) (Ev.bind a ?_)
    refine Ev.congr (f := fun k => psalterylaw07_PvqAlone.j3 k n j v (lone n j u) r u (lone n j v) false) (fun k => by rw [if_pos rfl]; dsimp only; rw [lone_len]; simp) ?_
    refine Ev.step (f := fun k => psalterylaw07_PvqAlone.l0 k n j v (lone n j u) r u (lone n j v) ((0 : Nat) : Int)) (fun k => by rw [psalterylaw07_PvqAlone.j3, if_neg (by decide)]; rfl) ?_
    exact l0_ok (z := 0) (by omega) hjn (by omega) r0 r1 n 0 (by omega)
  refine Ev.step (f := fun k => if v < 0 then psalterylaw07_PvqAlone.j2 k n j v (lone n j u) (wrap64 (-v)) (wrap64 (-(K : Int))) else psalterylaw07_PvqAlone.j2 k n j v (lone n j u) v K) (fun k => by rw [psalterylaw07_PvqAlone.j1, if_neg (by decide)]) ?_
  by_cases c : v < 0
  · refine Ev.congr (fun k => by rw [if_pos c, w64 (x := -v) (by omega) (by omega), w64 (x := -(K : Int)) (by omega) (by omega), ← hu1.2.2.2.1 c]) (go (-v) (by omega) (by omega) (fun _ => rfl) (fun h => absurd c h))
  · have := go v (by omega) (by omega) (fun h => absurd h c) (fun _ => rfl)
    rw [hu1.2.2.2.2 c] at this ⊢
    exact Ev.congr (fun k => by rw [if_neg c]) this
end Go.Proofs.Ytllgjhenbchkfaa.pvqAlone
