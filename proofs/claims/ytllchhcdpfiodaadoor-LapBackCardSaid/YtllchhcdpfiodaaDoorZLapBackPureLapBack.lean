/- LapBack, over lists: the signal of a signal's frames is the signal, filled up with noughts. -/
import Derived.Test.YtllchhcdpfiodaaDoorZLapBackLapO
import Derived.Test.YtllchhcdpfiodaaDoorZLapBackPuLapBack
namespace Go.Proofs.YtllchhcdpfiodaaDoor.lapBack
open Go Go.RowKit Go.Proofs.YtllchhcdpfiodaaDoorW.PrintWords Go.Proofs.YtllchhcdpfiodaaDoor.Prt Go.Proofs.YtllchhcdpfiodaaDoor.Lap Go.Proofs.YtllchhcdpfiodaaDoor.Wav
set_option linter.unusedVariables false
theorem size_s (n : Int) (h : 0 ≤ n) : ∃ s : Nat, psalterylaw09_size.f n = some (s : Int) ∧ Sz s := by
  unfold psalterylaw09_size.f
  by_cases h1 : Int.tmod n 3 = 0
  · exact ⟨8, by rw [if_pos h1]; rfl, .inl rfl⟩
  · by_cases h2 : Int.tmod n 3 = 1
    · exact ⟨16, by rw [if_neg h1, if_pos h2]; rfl, .inr (.inl rfl)⟩
    · exact ⟨32, by rw [if_neg h1, if_neg h2]; rfl, .inr (.inr rfl)⟩
theorem flat_blk (a : List Int) (s : Nat) : ∀ t, ((List.range t).map (blk a s)).flatten = a.take (t * s)
  | 0 => by simp
  | t + 1 => by
    rw [List.range_succ, List.map_append, List.flatten_append, flat_blk a s t]
    simp only [List.map_cons, List.map_nil, List.flatten_cons, List.flatten_nil, List.append_nil]
    unfold blk
    have e : (t + 1) * s = t * s + s := Nat.succ_mul _ _
    have h : a.take (t * s) = (a.take ((t + 1) * s)).take (t * s) := by rw [List.take_take, Nat.min_eq_left (by omega)]
    rw [h, List.take_append_drop]
theorem row_good {a : List Int} {s m : Nat} (h : Sz s) (hl : a.length = m * s) (hw : Wi 16777216 a) : ∀ c ∈ fr a s m, Gr s c := by
  have hs := lg_pow h
  intro c hc
  refine ⟨fr_row h hl c hc, ?_⟩
  obtain ⟨i, hi, rfl⟩ := List.mem_map.1 hc
  have hb := blk_len hl (List.mem_range.1 hi)
  obtain ⟨q, r, e, p1, p2, p3⟩ := fw_bd (lo := -16777216) (hi := 16777216) (by decide) (by decide) (lg s) (blk a s i) (by omega) (blk_wi hw)
  rw [e]
  intro v hv
  rcases List.mem_cons.1 hv with rfl | hv
  · omega
  · have := p3 v hv; omega
theorem sig_fr {a : List Int} {s m : Nat} (h : Sz s) (hl : a.length = m * s) (hi : ∀ v ∈ a, inI v) : sig s (fr a s m) = a := by
  have hs := lg_pow h
  unfold sig fr
  rw [List.map_map]
  have e : (List.range m).map (iv (lg s) ∘ fun i => fw (lg s) (blk a s i)) = (List.range m).map (blk a s) := by
    apply List.map_congr_left
    intro i hi'
    have hb := blk_len hl (List.mem_range.1 hi')
    simp only [Function.comp_apply]
    exact iv_fw _ _ (by omega) (fun v hv => hi v (List.mem_of_mem_take (List.mem_of_mem_drop hv)))
  rw [e, flat_blk, ← hl, List.take_length]
theorem pure : Pu := by
  intro l n hl hn
  apply Ev.rounds
  have hn0 : 0 ≤ n := (Val.wf_u8 hn).1
  obtain ⟨s, hsz, hs⟩ := size_s n hn0
  have hq := lg_pow hs
  refine Ev.congr (fun k => by rw [psalterylaw09_LapBack.f, psalterylaw09_great.f, Option.bind_some, hsz, Option.bind_some]) ?_
  by_cases hg : (l.length : Int) > 200
  · exact Ev.congr (fun k => by rw [if_pos (decide_eq_true hg)]) knows_j
  · refine Ev.congr (fun k => by rw [if_neg (by simpa using hg)]) ?_
    by_cases hw : Wi 262144 l
    · obtain ⟨m, hm, hm1, hm2⟩ := fl_len hs l
      obtain ⟨e1, _⟩ := frames_ok hs (by omega) hw hm hm2
      have hmm : m ≤ 30 := by
        apply Nat.le_of_not_lt; intro hlt
        have := Nat.mul_le_mul (show 31 ≤ m by omega) hq.2.2.2.1
        omega
      have hfw := wi_zero hs hm (fl_wi (s := s) (by decide) hw)
      have hfl : (tl (fl s l) s (m - 1)).length = m * s := by rw [tl_len]; exact hm
      have hgood : ∀ c ∈ frs l s m, Gr s c := row_good hs hfl hfw
      have hfi : ∀ v ∈ tl (fl s l) s (m - 1), inI v := fun v hv => by have := hfw v hv; unfold inI; omega
      have hsig := signal_f (l := frs l s m) (by unfold frs; rw [fr_len]; exact hmm) (fun c hc => by have := (hgood c hc).1; omega) hs
      rw [if_pos hgood] at hsig
      have hres : bl (sig s (frs l s m)) s ((frs l s m).length - 1) = fl s l := by
        unfold frs
        rw [sig_fr hs hfl hfi, fr_len]
        rcases Nat.eq_zero_or_pos m with c | c
        · subst c; rfl
        · exact bl_tl (by omega) hm (fl_in hw) (m - 1) (by omega)
      rw [hres] at hsig
      refine Ev.bind e1 (Ev.congr (fun k => by rw [if_pos rfl, Option.bind_some]) (Ev.bind hsig (Ev.congr (fun k => by rw [Option.bind_some]) (Ev.bind (rfull_f hs (x := l) (by omega)) (Ev.bind (same_e (l := fl s l) (by omega)) ?_)))))
      exact Ev.congr (fun k => by rw [if_pos rfl, if_pos rfl]) knows_j
    · refine Ev.bind (frames_bad (by omega) (fun h => hw h.1)) (Ev.congr (fun k => by rw [if_neg (by decide)]) (Ev.bind (rwithin_f (m := 262144) (l := l) (by decide) (by decide) (by omega)) ?_))
      exact Ev.congr (fun k => by rw [if_neg (by simpa using hw)]) knows_j
end Go.Proofs.YtllchhcdpfiodaaDoor.lapBack
