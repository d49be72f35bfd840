/- lap: the signal of frames: by the program and by the document. -/
import Derived.Test.YtllchhcdpfiodaaDoorZLapBackLapN
import Derived.Test.YtllchhcdpfiodaaDoorZLapBackM2
import Derived.Test.YtllchhcdpfiodaaDoorZLapBackM1
namespace Go.Proofs.YtllchhcdpfiodaaDoor.Lap
open Go Go.RowKit Go.Proofs.YtllchhcdpfiodaaDoorW.PrintWords Go.Proofs.YtllchhcdpfiodaaDoor.Prt Go.Proofs.YtllchhcdpfiodaaDoor.Wav
set_option linter.unusedVariables false
set_option linter.unusedSimpArgs false
def Gr (s : Nat) (c : List Int) : Prop := c.length = s ∧ Wi 67108864 c
instance (s : Nat) (c : List Int) : Decidable (Gr s c) := by unfold Gr; infer_instance
def sig (s : Nat) (l : List (List Int)) : List Int := (l.map (iv (lg s))).flatten
theorem iv_sz {s : Nat} (h : Sz s) {c : List Int} (hc : c.length = s) : (iv (lg s) c).length = s := by
  have hs := lg_pow h
  rw [iv_len _ _ (by omega)]; omega
theorem sig_len {s : Nat} (h : Sz s) : ∀ {l : List (List Int)}, (∀ c ∈ l, Gr s c) → (sig s l).length = l.length * s
  | [], _ => by simp [sig]
  | c :: l, hg => by
    have ih := sig_len h (l := l) (fun d hd => hg d (List.mem_cons_of_mem _ hd))
    have hc := iv_sz h (hg c List.mem_cons_self).1
    simp only [sig, List.map_cons, List.flatten_cons, List.length_append, List.length_cons] at ih ⊢
    rw [hc, ih, Nat.succ_mul]; omega
theorem inv_good {s : Nat} (h : Sz s) {c : List Int} (hg : Gr s c) : Ev (fun k => wave_Inverse.f k c) (iv (lg s) c, 0) := by
  have hs := lg_pow h; have hc := hg.1
  refine ⟨210, fun k hk => ?_⟩
  rcases inverse_f (l := c) (by omega) hk with ⟨n, hn, hln, _, he⟩ | ⟨hb, _⟩
  · have e : n + 1 = lg s := pow_one (by omega)
    rw [← e]; exact he
  · rw [hc, okn_sz h, bd_wi.2 hg.2] at hb; exact absurd hb (by decide)
theorem inv_bad {s : Nat} (h : Sz s) {c : List Int} (hc : c.length ≤ 200) (hg : ¬ Gr s c) : ∃ r : List Int × Int, Ev (fun k => wave_Inverse.f k c) r ∧ (r.2 = 0 → c.length ≠ s) := by
  rcases inverse_f (l := c) hc (k := 210) (by omega) with ⟨n, hn, hln, hb, he⟩ | ⟨hb, he⟩
  · refine ⟨_, Ev.of (fun k => wave_Inverse.mono _ _) he, fun _ e => ?_⟩
    exact hg ⟨e, bd_wi.1 (Bool.and_eq_true_iff.1 hb).2⟩
  · exact ⟨_, Ev.of (fun k => wave_Inverse.mono _ _) he, fun e => by cases e⟩
theorem pback {s m : Nat} (h : Sz s) (hm : m * s ≤ 1000) : ∀ (j : Nat) (b : List Int), b.length = m * s → j + 1 ≤ m → Ev (fun k => lap_Signal.l1 k (s : Int) b ((j * s : Nat) : Int)) (bl b s j, 0)
  | 0, b, hb, hj => Ev.step (f := fun _ => some (b, 0)) (fun k => by rw [lap_Signal.l1, if_neg (by omega)]) (Ev.now _)
  | j + 1, b, hb, hj => by
    have hs := lg_pow h
    have hq := bord (s := s) (n := j) (m := m) (by omega) (by omega)
    have e2 : (j + 1) * s = j * s + s := Nat.succ_mul _ _
    refine Ev.step (f := fun k => (lap_back.f k b (((j + 1) * s : Nat) : Int)).bind fun t231 => (lap_Signal.l1 k (s : Int) t231 ((j * s : Nat) : Int))) (fun k => ?_) (Ev.bind (back_f (by omega) (by omega) (by omega)) ?_)
    · rw [lap_Signal.l1, if_pos (by omega), w_nat (a := (((j + 1) * s : Nat) : Int) - (s : Int)) (n := j * s) (by omega) (by omega)]
    · exact pback h hm j (BK b ((j + 1) * s)) (by rw [BK_len]; exact hb) (by omega)
theorem app_row {s : Nat} {l : List (List Int)} {i : Nat} (hi : i < l.length) : sig s (l.take (i + 1)) = sig s (l.take i) ++ iv (lg s) l[i] := by
  unfold sig; rw [List.take_succ_eq_append_getElem hi, List.map_append, List.flatten_append]; simp
theorem sig_take {s : Nat} (h : Sz s) {l : List (List Int)} {i : Nat} (hi : i ≤ l.length) (hg : ∀ c ∈ l.take i, Gr s c) : (sig s (l.take i)).length = i * s := by
  rw [sig_len h hg, List.length_take, Nat.min_eq_left hi]
theorem psig {s : Nat} (h : Sz s) {l : List (List Int)} (hl : l.length ≤ 30) (hr : ∀ c ∈ l, c.length ≤ 200) : ∀ (d i : Nat), i + d = l.length → (∀ c ∈ l.take i, Gr s c) →
    Ev (fun k => lap_Signal.l0 k (s : Int) (sig s (l.take i)) l (l.length : Int) (i : Int)) (if ∀ c ∈ l, Gr s c then (bl (sig s l) s (l.length - 1), 0) else ([], 1))
  | 0, i, e, hg => by
    have hs := lg_pow h
    obtain rfl : i = l.length := by omega
    rw [List.take_length] at hg ⊢
    rw [if_pos hg]
    have hn := sig_len h hg
    have hms : l.length * s ≤ 1000 := by have := Nat.mul_le_mul hl hs.2.2.2.2; omega
    refine Ev.step (f := fun k => lap_Signal.l1 k (s : Int) (sig s l) (wrap64 (((sig s l).length : Int) - (s : Int)))) (fun k => by rw [lap_Signal.l0, if_neg (by omega)]) ?_
    rcases Nat.eq_zero_or_pos l.length with c | c
    · have e0 : sig s l = [] := List.length_eq_zero_iff.1 (by rw [hn, c, Nat.zero_mul])
      rw [c, e0]
      refine Ev.step (f := fun _ => some ([], 0)) (fun k => by rw [lap_Signal.l1, if_neg (by rw [List.length_nil, w64 (by omega) (by omega)]; omega)]) (Ev.now _)
    · have e2 : l.length * s = (l.length - 1) * s + s := by rw [← Nat.succ_mul]; congr 1; omega
      have := pback h (m := l.length) hms (l.length - 1) (sig s l) hn (by omega)
      rw [w_nat (a := ((sig s l).length : Int) - (s : Int)) (n := (l.length - 1) * s) (by omega) (by omega)]
      exact this
  | d + 1, i, e, hg => by
    have hs := lg_pow h
    have hi : i < l.length := by omega
    have hri := hr _ (List.getElem_mem hi)
    have ht := sig_take h (by omega) hg
    have his : i * s ≤ 1000 := by have := Nat.mul_le_mul (show i ≤ 30 by omega) hs.2.2.2.2; omega
    have st : ∀ k, lap_Signal.l0 (k + 1) (s : Int) (sig s (l.take i)) l (l.length : Int) (i : Int) = (wave_Inverse.f k l[i]).bind fun bt224 => (if bt224.2 = 0 then (if (l[i].length : Int) = (s : Int) then (if (sig s (l.take i)).length + bt224.1.length < 17592186044416 then (lap_Signal.l0 k (s : Int) (sig s (l.take i) ++ bt224.1) l (l.length : Int) ((i + 1 : Nat) : Int)) else (none)) else (some (([] : List Int), 1))) else (some (([] : List Int), 1))) := by
      intro k
      rw [lap_Signal.l0, if_pos (by omega), if_pos (by omega), if_pos (by omega), rdL_at hi, w_nat (a := (i : Int) + 1) (n := i + 1) (by omega) (by omega)]
    by_cases hgi : Gr s l[i]
    · have hli := iv_sz h hgi.1
      refine Ev.step st (Ev.bind (inv_good h hgi) ?_)
      refine Ev.congr (fun k => by rw [if_pos rfl, if_pos (by have := hgi.1; omega), if_pos (by dsimp only; omega), ← app_row hi]) (psig h hl hr d (i + 1) (by omega) ?_)
      intro c hc
      rw [List.take_succ_eq_append_getElem hi] at hc
      rcases List.mem_append.1 hc with q | q
      · exact hg c q
      · rw [List.mem_singleton.1 q]; exact hgi
    · rw [if_neg (fun q => hgi (q _ (List.getElem_mem hi)))]
      obtain ⟨r, hr1, hr2⟩ := inv_bad h hri hgi
      refine Ev.step st (Ev.bind hr1 ?_)
      refine Ev.congr (f := fun _ => some ([], 1)) (fun k => ?_) (Ev.now _)
      by_cases q : r.2 = 0
      · rw [if_pos q, if_neg (by have := hr2 q; omega)]
      · rw [if_neg q]
theorem signal_f {l : List (List Int)} (hl : l.length ≤ 30) (hr : ∀ c ∈ l, c.length ≤ 200) {s : Nat} (h : Sz s) : Ev (fun k => lap_Signal.f k l (s : Int)) (if ∀ c ∈ l, Gr s c then (bl (sig s l) s (l.length - 1), 0) else ([], 1)) := by
  have hs := lg_pow h
  have hsz : (decide (((s : Nat) : Int) = 8 ∨ ((s : Nat) : Int) = 16 ∨ ((s : Nat) : Int) = 32)) = true := decide_eq_true (by rcases h with rfl | rfl | rfl <;> simp)
  have hq : (decide ((l.length : Int) > (wrap64 ((4000 : Int) / (s : Int))))) = false := by
    apply decide_eq_false
    rcases h with rfl | rfl | rfl
    · rw [show ((4000 : Int) / ((8 : Nat) : Int)) = 500 from rfl, w64 (by omega) (by omega)]; omega
    · rw [show ((4000 : Int) / ((16 : Nat) : Int)) = 250 from rfl, w64 (by omega) (by omega)]; omega
    · rw [show ((4000 : Int) / ((32 : Nat) : Int)) = 125 from rfl, w64 (by omega) (by omega)]; omega
  refine Ev.congr (f := fun k => lap_Signal.j0 k l (s : Int) false) (fun k => by rw [lap_Signal.f, sized_s, Option.bind_some, hsz, if_pos rfl, if_neg (by omega), hq]) ?_
  refine Ev.step (f := fun k => lap_Signal.l0 k (s : Int) (sig s (l.take 0)) l (l.length : Int) ((0 : Nat) : Int)) (fun k => by rw [lap_Signal.j0, if_neg (by decide)]; rfl) ?_
  exact psig h hl hr l.length 0 (by omega) (by intro c hc; simp at hc)
end Go.Proofs.YtllchhcdpfiodaaDoor.Lap
