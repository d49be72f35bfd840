/- LapNear, over lists: a sample that changes changes no frames but that of its block and, within four of a border, that of the block beyond it. -/
import Derived.Test.YtllchhcdpfiodaaDoorZLapNearLapN
import Derived.Test.YtllchhcdpfiodaaDoorZLapNearPuLapNear
namespace Go.Proofs.YtllchhcdpfiodaaDoor.lapNear
open Go Go.RowKit Go.Proofs.YtllchhcdpfiodaaDoorW.PrintWords Go.Proofs.YtllchhcdpfiodaaDoor.Prt Go.Proofs.YtllchhcdpfiodaaDoor.Lap Go.Proofs.YtllchhcdpfiodaaDoor.Wav
set_option linter.unusedVariables false
theorem size_s (n : Int) (h : 0 ≤ n) : ∃ s : Nat, psalterylaw09_size.f n = some (s : Int) ∧ Sz s := by
  unfold psalterylaw09_size.f
  by_cases h1 : Int.tmod n 3 = 0
  · exact ⟨8, by rw [if_pos h1]; rfl, .inl rfl⟩
  · by_cases h2 : Int.tmod n 3 = 1
    · exact ⟨16, by rw [if_neg h1, if_pos h2]; rfl, .inr (.inl rfl)⟩
    · exact ⟨32, by rw [if_neg h1, if_neg h2]; rfl, .inr (.inr rfl)⟩
/-- Borders turned: what is not touched yet. -/
theorem tl_off {a : List Int} {s m : Nat} (hs : 8 ≤ s) (hl : a.length = m * s) : ∀ n, n < m → ∀ i, n * s + 4 ≤ i → at0 (tl a s n) i = at0 a i
  | 0, _, i, _ => rfl
  | n + 1, h, i, hi => by
    have hb4 := bord (n := n) (m := m) hs (by omega)
    have hx : (n + 1) * s + 4 ≤ (tl a s n).length := by rw [tl_len, hl]; omega
    rw [tl]; unfold TN; rw [rts_off (by omega) hx 4 (by omega) i (by omega)]; exact tl_off hs hl n (by omega) i (by omega)
/-- Two lists that differ at one place: after all borders they are alike where that place is not near. -/
theorem tl_near {a b : List Int} {s m at_ : Nat} (hs : 8 ≤ s) (hl : a.length = m * s) (hlb : b.length = m * s) (hab : ∀ i, i ≠ at_ → at0 a i = at0 b i) : ∀ n, n < m → ∀ t i, t * s ≤ i → i < t * s + s → ¬ (t * s ≤ at_ + 4 ∧ at_ < t * s + s + 4) → at0 (tl a s n) i = at0 (tl b s n) i
  | 0, _, t, i, h1, h2, h3 => hab i (by omega)
  | n + 1, h, t, i, h1, h2, h3 => by
    have hb4 := bord (n := n) (m := m) hs (by omega)
    have hx : (n + 1) * s + 4 ≤ (tl a s n).length := by rw [tl_len, hl]; omega
    have hxb : (n + 1) * s + 4 ≤ (tl b s n).length := by rw [tl_len, hlb]; omega
    rw [tl, tl]
    by_cases c : i + 4 < (n + 1) * s ∨ (n + 1) * s + 4 ≤ i
    · unfold TN; rw [rts_off (by omega) hx 4 (by omega) i c, rts_off (by omega) hxb 4 (by omega) i c]
      exact tl_near hs hl hlb hab n (by omega) t i h1 h2 h3
    · obtain ⟨k, hk, hik⟩ := pair_ex c (by omega)
      have on := rts_on (f := U) (g := V) (by omega) hx 4 (by omega) k hk
      have onb := rts_on (f := U) (g := V) (by omega) hxb 4 (by omega) k hk
      -- both of the pair are alike
      have hts : ∀ q : Nat, t * s ≤ q * s + s - 1 → q * s < t * s + s → t = q := by
        intro q q1 q2
        have e1 : (q + 1) * s = q * s + s := Nat.succ_mul _ _
        have e2 : (t + 1) * s = t * s + s := Nat.succ_mul _ _
        have a1 : t < q + 1 := Nat.lt_of_mul_lt_mul_right (a := s) (by omega)
        have a2 : q < t + 1 := Nat.lt_of_mul_lt_mul_right (a := s) (by omega)
        omega
      have e1 : (n + 1) * s = n * s + s := Nat.succ_mul _ _
      have key : at0 (tl a s n) ((n + 1) * s - 1 - k) = at0 (tl b s n) ((n + 1) * s - 1 - k) ∧ at0 (tl a s n) ((n + 1) * s + k) = at0 (tl b s n) ((n + 1) * s + k) := by
        rw [tl_off hs hl n (by omega) _ (by omega), tl_off hs hlb n (by omega) _ (by omega), tl_off hs hl n (by omega) _ (by omega), tl_off hs hlb n (by omega) _ (by omega)]
        rcases hik with e | e
        · have ht : t = n := hts n (by omega) (by omega)
          subst ht
          exact ⟨hab _ (by omega), hab _ (by omega)⟩
        · have ht : t = n + 1 := hts (n + 1) (by omega) (by omega)
          subst ht
          exact ⟨hab _ (by omega), hab _ (by omega)⟩
      unfold TN
      rcases hik with e | e
      · rw [e, on.1, onb.1, key.1, key.2]
      · rw [e, on.2, onb.2, key.1, key.2]
theorem at_blk {a : List Int} {s m t i : Nat} (hl : a.length = m * s) (ht : t < m) (hi : i < s) : at0 (blk a s t) i = at0 a (t * s + i) := by
  have hb := blk_len hl ht
  have hm := mul_in (s := s) ht
  rw [at_get (by omega), at_get (by omega)]
  simp only [blk, List.getElem_drop, List.getElem_take]
theorem at_fl {s : Nat} (x : List Int) (i : Nat) : at0 (fl s x) i = at0 x i := by
  unfold at0 fl
  rw [List.getD_eq_getElem?_getD, List.getD_eq_getElem?_getD, List.getElem?_append]
  split
  · rfl
  · rename_i h
    rw [List.getElem?_eq_none (show x.length ≤ i by omega), List.getElem?_replicate]
    split <;> rfl
theorem wq0 {t s : Nat} (h : t * s ≤ 1000) : wrap64 ((t : Int) * (s : Int)) = ((t * s : Nat) : Int) := w_nat (by rw [Int.natCast_mul]) (by omega)
theorem wq1 {q : Nat} (h : q ≤ 1000) : wrap64 ((q : Int) - 4) = (q : Int) - 4 := w64 (by omega) (by omega)
theorem wq2 {q s : Nat} (h : q ≤ 1000) (hs : s ≤ 32) : wrap64 (wrap64 ((q : Int) + (s : Int)) + 4) = ((q + s + 4 : Nat) : Int) := by
  rw [w_nat (a := (q : Int) + (s : Int)) (n := q + s) (by omega) (by omega)]; exact w_nat (by omega) (by omega)
theorem wq3 {t : Nat} (h : t ≤ 1000) : wrap64 ((t : Int) + 1) = ((t + 1 : Nat) : Int) := w_nat (by omega) (by omega)
theorem near_l0 {A B : List (List Int)} {s at_ m : Nat} (hs : 8 ≤ s) (hs2 : s ≤ 32) (hA : A.length = m) (hB : B.length = m) (hm : m * s ≤ 1000) (hrow : ∀ c ∈ A, c.length ≤ 1000) (hf : ∀ t (h : t < m), ¬ (t * s ≤ at_ + 4 ∧ at_ < t * s + s + 4) → rd_L1 A (t : Int) = rd_L1 B (t : Int)) : ∀ (d t : Nat), t + d = m → Ev (fun k => psalterylaw09_LapNear.l0 k (at_ : Int) (s : Int) A B (t : Int)) true
  | 0, t, h => Ev.step (fun k => by rw [psalterylaw09_LapNear.l0, if_neg (by omega)]) knows_j
  | d + 1, t, h => by
    have htm : t < m := by omega
    have q1 : t * s ≤ 1000 := by have := (mul_in (s := s) htm).1; have := (mul_in (s := s) htm).2; omega
    have q2 : t ≤ 1000 := by have := Nat.le_mul_of_pos_right t (show 0 < s by omega); omega
    have ih := near_l0 hs hs2 hA hB hm hrow hf d (t + 1) (by omega)
    have g1 : (t : Int) < (A.length : Int) := by omega
    have g2 : (0 : Int) ≤ (t : Int) := by omega
    have g3 : (t : Int) < (B.length : Int) := by omega
    have g4 : t < A.length := by omega
    have eqn : ¬ (t * s ≤ at_ + 4 ∧ at_ < t * s + s + 4) → Ev (fun k => (psalteryref07_Same.f k (rd_L1 A (t : Int)) (rd_L1 B (t : Int))).bind fun t481 => (if t481 = true then (psalterylaw09_LapNear.l0 k (at_ : Int) (s : Int) A B ((t + 1 : Nat) : Int)) else (none))) true := by
      intro hn
      rw [← hf t htm hn]
      exact Ev.bind (same_e (by rw [rdL_at g4]; exact hrow _ (List.getElem_mem g4))) (Ev.congr (fun k => by rw [if_pos rfl]) ih)
    generalize hqq : t * s = q at q1 eqn
    by_cases c1 : (at_ : Int) ≥ (q : Int) - 4
    · by_cases c2 : (at_ : Int) < ((q + s + 4 : Nat) : Int)
      · exact Ev.step (fun k => by rw [psalterylaw09_LapNear.l0, if_pos g1, wq0 (by rw [hqq]; exact q1), hqq, wq1 q1, wq2 q1 hs2, wq3 q2, if_pos c1, if_pos c2]) ih
      · have en : ¬ (q ≤ at_ + 4 ∧ at_ < q + s + 4) := by omega
        exact Ev.step (fun k => by rw [psalterylaw09_LapNear.l0, if_pos g1, wq0 (by rw [hqq]; exact q1), hqq, wq1 q1, wq2 q1 hs2, wq3 q2, if_pos c1, if_neg c2, if_pos g2, if_pos g3]) (eqn en)
    · have en : ¬ (q ≤ at_ + 4 ∧ at_ < q + s + 4) := by omega
      exact Ev.step (fun k => by rw [psalterylaw09_LapNear.l0, if_pos g1, wq0 (by rw [hqq]; exact q1), hqq, wq1 q1, wq3 q2, if_neg c1, if_pos g2, if_pos g3]) (eqn en)
theorem pure : Pu := by
  intro l p v n hl hp hv hn
  apply Ev.rounds
  have hn0 : 0 ≤ n := (Val.wf_u8 hn).1
  obtain ⟨s, hsz, hs⟩ := size_s n hn0
  have hq := lg_pow hs
  have hj : Ev (fun k => psalterylaw09_LapNear.j0 k l p v n true) true := Ev.step (fun k => by rw [psalterylaw09_LapNear.j0, if_pos rfl]) knows_j
  refine Ev.congr (fun k => by rw [psalterylaw09_LapNear.f, psalterylaw09_great.f, Option.bind_some]) ?_
  by_cases hg : (l.length : Int) > 200
  · exact Ev.congr (fun k => by rw [if_pos (decide_eq_true hg)]) hj
  by_cases h1 : p < 0
  · exact Ev.congr (fun k => by rw [if_neg (by simpa using hg), if_pos h1]) hj
  by_cases h2 : p ≥ (l.length : Int)
  · exact Ev.congr (fun k => by rw [if_neg (by simpa using hg), if_neg h1, if_pos h2]) hj
  by_cases h3 : v < -262144
  · exact Ev.congr (fun k => by rw [if_neg (by simpa using hg), if_neg h1, if_neg h2, if_pos h3]) hj
  refine Ev.congr (fun k => by rw [if_neg (by simpa using hg), if_neg h1, if_neg h2, if_neg h3]) ?_
  by_cases h4 : v > 262144
  · rw [decide_eq_true h4]; exact hj
  rw [decide_eq_false h4]
  obtain ⟨q, rfl⟩ : ∃ q : Nat, p = q := ⟨p.toNat, by omega⟩
  have hql : q < l.length := by omega
  refine Ev.step (f := fun k => (lap_Frames.f k l (s : Int)).bind fun bt470 => ((lap_Frames.f k (l.set q v) (s : Int)).bind fun bt474 => (if bt470.2 = 0 then (if bt474.2 = 0 then (psalterylaw09_LapNear.j1 k (q : Int) (s : Int) bt470.1 bt474.1 ((bt470.1.length : Int) != (bt474.1.length : Int))) else (psalterylaw09_LapNear.j1 k (q : Int) (s : Int) bt470.1 bt474.1 true)) else ((psalterylaw09_knows.f k).bind fun t478 => (some t478))))) (fun k => ?_) ?_
  · rw [psalterylaw09_LapNear.j0, if_neg (by decide), hsz, Option.bind_some, Option.bind_some, if_pos (by simp; omega), Option.bind_some, List.nil_append, if_pos (by omega), if_pos (by omega), Int.toNat_natCast]
  by_cases hw : Wi 262144 l
  · have hw2 : Wi 262144 (l.set q v) := by
      intro u hu
      rcases List.mem_or_eq_of_mem_set hu with e | e
      · exact hw u e
      · omega
    obtain ⟨m, hm, hm1, hm2⟩ := fl_len hs l
    have hset : (l.set q v).length = l.length := by simp
    have hmb : (fl s (l.set q v)).length = m * s := by rw [← hm]; simp [fl]
    obtain ⟨e1, _⟩ := frames_ok hs (by omega) hw hm hm2
    obtain ⟨e2, _⟩ := frames_ok (x := l.set q v) hs (by omega) hw2 hmb (by omega)
    refine Ev.bind e1 (Ev.bind e2 ?_)
    have la : (frs l s m).length = m := fr_len ..
    have lb : (frs (l.set q v) s m).length = m := fr_len ..
    refine Ev.congr (f := fun k => psalterylaw09_LapNear.j1 k (q : Int) (s : Int) (frs l s m) (frs (l.set q v) s m) false) (fun k => by rw [if_pos rfl, if_pos rfl]; dsimp only; rw [la, lb]; simp) ?_
    refine Ev.step (f := fun k => psalterylaw09_LapNear.l0 k (q : Int) (s : Int) (frs l s m) (frs (l.set q v) s m) ((0 : Nat) : Int)) (fun k => by rw [psalterylaw09_LapNear.j1, if_neg (by decide)]; rfl) ?_
    refine near_l0 (m := m) hq.2.2.2.1 hq.2.2.2.2 la lb (by omega) ?_ ?_ m 0 (by omega)
    · intro c hc
      have := fr_row hs (by rw [tl_len]; exact hm) c hc
      omega
    · intro t ht hnear
      have hta : (tl (fl s l) s (m - 1)).length = m * s := by rw [tl_len]; exact hm
      have htb : (tl (fl s (l.set q v)) s (m - 1)).length = m * s := by rw [tl_len]; exact hmb
      have ga : (frs l s m)[t]'(by omega) = fw (lg s) (blk (tl (fl s l) s (m - 1)) s t) := by simp [frs, fr]
      have gb : (frs (l.set q v) s m)[t]'(by omega) = fw (lg s) (blk (tl (fl s (l.set q v)) s (m - 1)) s t) := by simp [frs, fr]
      rw [rdL_at (by omega), rdL_at (by omega), ga, gb]
      congr 1
      refine ext0 (by rw [blk_len hta ht, blk_len htb ht]) (fun i hi => ?_)
      rw [blk_len hta ht] at hi
      rw [at_blk hta ht hi, at_blk htb ht hi]
      refine tl_near (at_ := q) hq.2.2.2.1 hm hmb (fun j hj => ?_) (m - 1) (by omega) t (t * s + i) (by omega) (by omega) hnear
      rw [at_fl, at_fl, at_set _ hql, if_neg (fun e => hj e.symm)]
  · refine Ev.bind (frames_bad (by omega) (fun h => hw h.1)) ?_
    by_cases hw2 : Wi 262144 (l.set q v)
    · obtain ⟨m, hm, hm1, hm2⟩ := fl_len hs (l.set q v)
      have hset : (l.set q v).length = l.length := by simp
      obtain ⟨e2, _⟩ := frames_ok hs (by omega) hw2 hm hm2
      exact Ev.bind e2 (Ev.congr (fun k => by rw [if_neg (by decide)]) knows_j)
    · have hset : (l.set q v).length = l.length := by simp
      exact Ev.bind (frames_bad (by omega) (fun h => hw2 h.1)) (Ev.congr (fun k => by rw [if_neg (by decide)]) knows_j)
end Go.Proofs.YtllchhcdpfiodaaDoor.lapNear
