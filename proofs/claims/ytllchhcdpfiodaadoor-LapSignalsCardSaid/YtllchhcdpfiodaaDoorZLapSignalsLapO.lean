/- lap: the signal of frames: by the program and by the document. -/
import Derived.Test.YtllchhcdpfiodaaDoorZLapSignalsLapN
import Derived.Test.YtllchhcdpfiodaaDoorZLapSignalsM1
import Derived.Test.YtllchhcdpfiodaaDoorZLapSignalsM2
namespace Go.Proofs.YtllchhcdpfiodaaDoor.Lap
open Go Go.RowKit Go.Proofs.YtllchhcdpfiodaaDoorW.PrintWords Go.Proofs.YtllchhcdpfiodaaDoor.Prt Go.Proofs.YtllchhcdpfiodaaDoor.Wav
set_option linter.unusedVariables false
set_option linter.unusedSimpArgs false
def Gr (s : Nat) (c : List Int) : Prop := c.length = s ∧ Wi 67108864 c
instance (s : Nat) (c : List Int) : Decidable (Gr s c) := by unfold Gr; infer_instance
def sig (s : Nat) (l : List (List Int)) : List Int := (l.map (iv (lg s))).flatten
theorem iv_sz {s : Nat} (h : Sz s) {c : List Int} (hc : c.length = s) : (iv (lg s) c).length = s := by
  have hs := lg_pow h
  rw [iv_len _ _ (by omega)]; omega
theorem sig_len {s : Nat} (h : Sz s) : ∀ {l : List (List Int)}, (∀ c ∈ l, Gr s c) → (sig s l).length = l.length * s
  | [], _ => by simp [sig]
  | c :: l, hg => by
    have ih := sig_len h (l := l) (fun d hd => hg d (List.mem_cons_of_mem _ hd))
    have hc := iv_sz h (hg c List.mem_cons_self).1
    simp only [sig, List.map_cons, List.flatten_cons, List.length_append, List.length_cons] at ih ⊢
    rw [hc, ih, Nat.succ_mul]; omega
theorem inv_good {s : Nat} (h : Sz s) {c : List Int} (hg : Gr s c) : Ev (fun k => wave_Inverse.f k c) (iv (lg s) c, 0) := by
  have hs := lg_pow h; have hc := hg.1
  refine ⟨210, fun k hk => ?_⟩
  rcases inverse_f (l := c) (by omega) hk with ⟨n, hn, hln, _, he⟩ | ⟨hb, _⟩
  · have e : n + 1 = lg s := pow_one (by omega)
    rw [← e]; exact he
  · rw [hc, okn_sz h, bd_wi.2 hg.2] at hb; exact absurd hb (by decide)
theorem rinv_good {s : Nat} (h : Sz s) {c : List Int} (hg : Gr s c) : Ev (fun k => psalteryref08_Inverse.f k c) (iv (lg s) c) := by
  have hs := lg_pow h; have hc := hg.1
  refine ⟨2 ^ lg s + 4 * lg s + 4, fun k hk => refInverse_f (lg s) k c (by omega) hs.2.1 (fun v hv => ?_) hk⟩
  have := hg.2 v hv; unfold inI; omega
theorem inv_bad {s : Nat} (h : Sz s) {c : List Int} (hc : c.length ≤ 200) (hg : ¬ Gr s c) : ∃ r : List Int × Int, Ev (fun k => wave_Inverse.f k c) r ∧ (r.2 = 0 → c.length ≠ s) := by
  rcases inverse_f (l := c) hc (k := 210) (by omega) with ⟨n, hn, hln, hb, he⟩ | ⟨hb, he⟩
  · refine ⟨_, Ev.of (fun k => wave_Inverse.mono _ _) he, fun _ e => ?_⟩
    exact hg ⟨e, bd_wi.1 (Bool.and_eq_true_iff.1 hb).2⟩
  · exact ⟨_, Ev.of (fun k => wave_Inverse.mono _ _) he, fun e => by cases e⟩
theorem rsized_e {c : List Int} (hc : c.length ≤ 200) : Ev (fun k => psalteryref08_Sized.f k c 67108864) (okn c.length && bd 67108864 c) := ⟨210, fun k hk => refSized_f (by decide) (by decide) hc hk⟩
theorem pback {s m : Nat} (h : Sz s) (hm : m * s ≤ 1000) : ∀ (j : Nat) (b : List Int), b.length = m * s → j + 1 ≤ m → Ev (fun k => lap_Signal.l1 k (s : Int) b ((j * s : Nat) : Int)) (bl b s j, 0)
  | 0, b, hb, hj => Ev.step (f := fun _ => some (b, 0)) (fun k => by rw [lap_Signal.l1, if_neg (by omega)]) (Ev.now _)
  | j + 1, b, hb, hj => by
    have hs := lg_pow h
    have hq := bord (s := s) (n := j) (m := m) (by omega) (by omega)
    have e2 : (j + 1) * s = j * s + s := Nat.succ_mul _ _
    refine Ev.step (f := fun k => (lap_back.f k b (((j + 1) * s : Nat) : Int)).bind fun t231 => (lap_Signal.l1 k (s : Int) t231 ((j * s : Nat) : Int))) (fun k => ?_) (Ev.bind (back_f (by omega) (by omega) (by omega)) ?_)
    · rw [lap_Signal.l1, if_pos (by omega), w_nat (a := (((j + 1) * s : Nat) : Int) - (s : Int)) (n := j * s) (by omega) (by omega)]
    · exact pback h hm j (BK b ((j + 1) * s)) (by rw [BK_len]; exact hb) (by omega)
theorem rback {s m : Nat} (h : Sz s) (hm : m * s ≤ 1000) : ∀ (j : Nat) (b : List Int), b.length = m * s → j + 1 ≤ m → Ev (fun k => psalteryref09_Signal.l1 k (s : Int) b (j : Int)) (bl b s j, true)
  | 0, b, hb, hj => Ev.step (f := fun _ => some (b, true)) (fun k => by rw [psalteryref09_Signal.l1, if_neg (by omega)]) (Ev.now _)
  | j + 1, b, hb, hj => by
    have hs := lg_pow h
    have hq := bord (s := s) (n := j) (m := m) (by omega) (by omega)
    have e3 : ((j + 1 : Nat) : Int) * (s : Int) = (((j + 1) * s : Nat) : Int) := by rw [Int.natCast_mul]
    have hjm : j ≤ (j + 1) * s := by have := Nat.le_mul_of_pos_right (j + 1) (show 0 < s by omega); omega
    refine Ev.step (f := fun k => (psalteryref09_Back.f k b (((j + 1) * s : Nat) : Int)).bind fun t407 => (psalteryref09_Signal.l1 k (s : Int) t407 (j : Int))) (fun k => ?_) (Ev.bind (rback_f (by omega) (by omega) (by omega) (by omega)) ?_)
    · rw [psalteryref09_Signal.l1, if_pos (by omega), w_nat (a := ((j + 1 : Nat) : Int) * (s : Int)) (n := (j + 1) * s) e3 (by omega), w_nat (a := ((j + 1 : Nat) : Int) - 1) (n := j) (by omega) (by omega)]
    · exact rback h hm j (BK b ((j + 1) * s)) (by rw [BK_len]; exact hb) (by omega)
theorem app_row {s : Nat} {l : List (List Int)} {i : Nat} (hi : i < l.length) : sig s (l.take (i + 1)) = sig s (l.take i) ++ iv (lg s) l[i] := by
  unfold sig; rw [List.take_succ_eq_append_getElem hi, List.map_append, List.flatten_append]; simp
theorem sig_take {s : Nat} (h : Sz s) {l : List (List Int)} {i : Nat} (hi : i ≤ l.length) (hg : ∀ c ∈ l.take i, Gr s c) : (sig s (l.take i)).length = i * s := by
  rw [sig_len h hg, List.length_take, Nat.min_eq_left hi]
theorem psig {s : Nat} (h : Sz s) {l : List (List Int)} (hl : l.length ≤ 30) (hr : ∀ c ∈ l, c.length ≤ 200) : ∀ (d i : Nat), i + d = l.length → (∀ c ∈ l.take i, Gr s c) →
    Ev (fun k => lap_Signal.l0 k (s : Int) (sig s (l.take i)) l (l.length : Int) (i : Int)) (if ∀ c ∈ l, Gr s c then (bl (sig s l) s (l.length - 1), 0) else ([], 1))
  | 0, i, e, hg => by
    have hs := lg_pow h
    obtain rfl : i = l.length := by omega
    rw [List.take_length] at hg ⊢
    rw [if_pos hg]
    have hn := sig_len h hg
    have hms : l.length * s ≤ 1000 := by have := Nat.mul_le_mul hl hs.2.2.2.2; omega
    refine Ev.step (f := fun k => lap_Signal.l1 k (s : Int) (sig s l) (wrap64 (((sig s l).length : Int) - (s : Int)))) (fun k => by rw [lap_Signal.l0, if_neg (by omega)]) ?_
    rcases Nat.eq_zero_or_pos l.length with c | c
    · have e0 : sig s l = [] := List.length_eq_zero_iff.1 (by rw [hn, c, Nat.zero_mul])
      rw [c, e0]
      refine Ev.step (f := fun _ => some ([], 0)) (fun k => by rw [lap_Signal.l1, if_neg (by rw [List.length_nil, w64 (by omega) (by omega)]; omega)]) (Ev.now _)
    · have e2 : l.length * s = (l.length - 1) * s + s := by rw [← Nat.succ_mul]; congr 1; omega
      have := pback h (m := l.length) hms (l.length - 1) (sig s l) hn (by omega)
      rw [w_nat (a := ((sig s l).length : Int) - (s : Int)) (n := (l.length - 1) * s) (by omega) (by omega)]
      exact this
  | d + 1, i, e, hg => by
    have hs := lg_pow h
    have hi : i < l.length := by omega
    have hri := hr _ (List.getElem_mem hi)
    have ht := sig_take h (by omega) hg
    have his : i * s ≤ 1000 := by have := Nat.mul_le_mul (show i ≤ 30 by omega) hs.2.2.2.2; omega
    have st : ∀ k, lap_Signal.l0 (k + 1) (s : Int) (sig s (l.take i)) l (l.length : Int) (i : Int) = (wave_Inverse.f k l[i]).bind fun bt224 => (if bt224.2 = 0 then (if (l[i].length : Int) = (s : Int) then (if (sig s (l.take i)).length + bt224.1.length < 17592186044416 then (lap_Signal.l0 k (s : Int) (sig s (l.take i) ++ bt224.1) l (l.length : Int) ((i + 1 : Nat) : Int)) else (none)) else (some (([] : List Int), 1))) else (some (([] : List Int), 1))) := by
      intro k
      rw [lap_Signal.l0, if_pos (by omega), if_pos (by omega), if_pos (by omega), rdL_at hi, w_nat (a := (i : Int) + 1) (n := i + 1) (by omega) (by omega)]
    by_cases hgi : Gr s l[i]
    · have hli := iv_sz h hgi.1
      refine Ev.step st (Ev.bind (inv_good h hgi) ?_)
      refine Ev.congr (fun k => by rw [if_pos rfl, if_pos (by have := hgi.1; omega), if_pos (by dsimp only; omega), ← app_row hi]) (psig h hl hr d (i + 1) (by omega) ?_)
      intro c hc
      rw [List.take_succ_eq_append_getElem hi] at hc
      rcases List.mem_append.1 hc with q | q
      · exact hg c q
      · rw [List.mem_singleton.1 q]; exact hgi
    · rw [if_neg (fun q => hgi (q _ (List.getElem_mem hi)))]
      obtain ⟨r, hr1, hr2⟩ := inv_bad h hri hgi
      refine Ev.step st (Ev.bind hr1 ?_)
      refine Ev.congr (f := fun _ => some ([], 1)) (fun k => ?_) (Ev.now _)
      by_cases q : r.2 = 0
      · rw [if_pos q, if_neg (by have := hr2 q; omega)]
      · rw [if_neg q]
theorem rsig {s : Nat} (h : Sz s) {l : List (List Int)} (hl : l.length ≤ 30) (hr : ∀ c ∈ l, c.length ≤ 200) : ∀ (d i : Nat), i + d = l.length → (∀ c ∈ l.take i, Gr s c) →
    Ev (fun k => psalteryref09_Signal.l0 k l (s : Int) (sig s (l.take i)) (i : Int)) (if ∀ c ∈ l, Gr s c then (bl (sig s l) s (l.length - 1), true) else ([], false))
  | 0, i, e, hg => by
    have hs := lg_pow h
    obtain rfl : i = l.length := by omega
    rw [List.take_length] at hg ⊢
    rw [if_pos hg]
    have hn := sig_len h hg
    have hms : l.length * s ≤ 1000 := by have := Nat.mul_le_mul hl hs.2.2.2.2; omega
    refine Ev.step (f := fun k => psalteryref09_Signal.l1 k (s : Int) (sig s l) (wrap64 ((l.length : Int) - 1))) (fun k => by rw [psalteryref09_Signal.l0, if_neg (by omega)]) ?_
    rcases Nat.eq_zero_or_pos l.length with c | c
    · have e0 : sig s l = [] := List.length_eq_zero_iff.1 (by rw [hn, c, Nat.zero_mul])
      rw [c, e0]
      refine Ev.step (f := fun _ => some ([], true)) (fun k => by rw [psalteryref09_Signal.l1, if_neg (by rw [w64 (by omega) (by omega)]; omega)]) (Ev.now _)
    · have := rback h (m := l.length) hms (l.length - 1) (sig s l) hn (by omega)
      rw [w_nat (a := (l.length : Int) - 1) (n := l.length - 1) (by omega) (by omega)]
      exact this
  | d + 1, i, e, hg => by
    have hs := lg_pow h
    have hi : i < l.length := by omega
    have hri := hr _ (List.getElem_mem hi)
    have ht := sig_take h (by omega) hg
    have his : i * s ≤ 1000 := by have := Nat.mul_le_mul (show i ≤ 30 by omega) hs.2.2.2.2; omega
    by_cases hc : l[i].length = s
    · have st : ∀ k, psalteryref09_Signal.l0 (k + 1) l (s : Int) (sig s (l.take i)) (i : Int) = (psalteryref08_Sized.f k l[i] 67108864).bind fun t399 => (if t399 = true then ((psalteryref08_Inverse.f k l[i]).bind fun t401 => (if (sig s (l.take i)).length + t401.length < 17592186044416 then (psalteryref09_Signal.l0 k l (s : Int) (sig s (l.take i) ++ t401) ((i + 1 : Nat) : Int)) else (none))) else (some (([] : List Int), false))) := by
        intro k
        rw [psalteryref09_Signal.l0, if_pos (by omega), if_pos (by omega), rdL_at hi, if_pos (by omega), w_nat (a := (i : Int) + 1) (n := i + 1) (by omega) (by omega)]
      refine Ev.step st (Ev.bind (rsized_e hri) ?_)
      rw [hc, okn_sz h, Bool.true_and]
      by_cases hw : Wi 67108864 l[i]
      · have hgi : Gr s l[i] := ⟨hc, hw⟩
        have hli := iv_sz h hc
        refine Ev.congr (fun k => by rw [if_pos (bd_wi.2 hw)]) (Ev.bind (rinv_good h hgi) ?_)
        refine Ev.congr (fun k => by rw [if_pos (by omega), ← app_row hi]) (rsig h hl hr d (i + 1) (by omega) ?_)
        intro c hc'
        rw [List.take_succ_eq_append_getElem hi] at hc'
        rcases List.mem_append.1 hc' with q | q
        · exact hg c q
        · rw [List.mem_singleton.1 q]; exact hgi
      · rw [if_neg (fun q => hw (q _ (List.getElem_mem hi)).2)]
        exact Ev.congr (f := fun _ => some ([], false)) (fun k => by rw [if_neg (fun q => hw (bd_wi.1 q))]) (Ev.now _)
    · rw [if_neg (fun q => hc (q _ (List.getElem_mem hi)).1)]
      exact Ev.step (f := fun _ => some ([], false)) (fun k => by rw [psalteryref09_Signal.l0, if_pos (by omega), if_pos (by omega), rdL_at hi, if_neg (by omega)]) (Ev.now _)
theorem signal_f {l : List (List Int)} (hl : l.length ≤ 30) (hr : ∀ c ∈ l, c.length ≤ 200) {s : Nat} (h : Sz s) : Ev (fun k => lap_Signal.f k l (s : Int)) (if ∀ c ∈ l, Gr s c then (bl (sig s l) s (l.length - 1), 0) else ([], 1)) := by
  have hs := lg_pow h
  have hsz : (decide (((s : Nat) : Int) = 8 ∨ ((s : Nat) : Int) = 16 ∨ ((s : Nat) : Int) = 32)) = true := decide_eq_true (by rcases h with rfl | rfl | rfl <;> simp)
  have hq : (decide ((l.length : Int) > (wrap64 ((4000 : Int) / (s : Int))))) = false := by
    apply decide_eq_false
    rcases h with rfl | rfl | rfl
    · rw [show ((4000 : Int) / ((8 : Nat) : Int)) = 500 from rfl, w64 (by omega) (by omega)]; omega
    · rw [show ((4000 : Int) / ((16 : Nat) : Int)) = 250 from rfl, w64 (by omega) (by omega)]; omega
    · rw [show ((4000 : Int) / ((32 : Nat) : Int)) = 125 from rfl, w64 (by omega) (by omega)]; omega
  refine Ev.congr (f := fun k => lap_Signal.j0 k l (s : Int) false) (fun k => by rw [lap_Signal.f, sized_s, Option.bind_some, hsz, if_pos rfl, if_neg (by omega), hq]) ?_
  refine Ev.step (f := fun k => lap_Signal.l0 k (s : Int) (sig s (l.take 0)) l (l.length : Int) ((0 : Nat) : Int)) (fun k => by rw [lap_Signal.j0, if_neg (by decide)]; rfl) ?_
  exact psig h hl hr l.length 0 (by omega) (by intro c hc; simp at hc)
theorem rsignal_f {l : List (List Int)} (hl : l.length ≤ 30) (hr : ∀ c ∈ l, c.length ≤ 200) {s : Nat} (h : Sz s) : Ev (fun k => psalteryref09_Signal.f k l (s : Int)) (if ∀ c ∈ l, Gr s c then (bl (sig s l) s (l.length - 1), true) else ([], false)) := by
  have hs := lg_pow h
  have hms : l.length * s ≤ 1000 := by have := Nat.mul_le_mul hl hs.2.2.2.2; omega
  have hq : decide ((wrap64 ((l.length : Int) * (s : Int))) > 4000) = false := by
    apply decide_eq_false
    rw [w_nat (a := (l.length : Int) * (s : Int)) (n := l.length * s) (by rw [Int.natCast_mul]) (by omega)]; omega
  refine Ev.congr (f := fun k => psalteryref09_Signal.j0 k l (s : Int) false) (fun k => ?_) ?_
  · rw [psalteryref09_Signal.f]
    rcases h with rfl | rfl | rfl
    · rw [if_pos (by rfl), if_neg (by omega), hq]
    · rw [if_neg (by decide), if_pos (by rfl), if_neg (by omega), hq]
    · rw [if_neg (by decide), if_neg (by decide), if_pos (by rfl), if_neg (by omega), hq]
  refine Ev.step (f := fun k => psalteryref09_Signal.l0 k l (s : Int) (sig s (l.take 0)) ((0 : Nat) : Int)) (fun k => by rw [psalteryref09_Signal.j0, if_neg (by decide)]; rfl) ?_
  exact rsig h hl hr l.length 0 (by omega) (by intro c hc; simp at hc)
theorem signal_bad (l : List (List Int)) {a : Int} (h : ¬ (a = 8 ∨ a = 16 ∨ a = 32)) : Ev (fun k => lap_Signal.f k l a) ([], 1) ∧ Ev (fun k => psalteryref09_Signal.f k l a) ([], false) := by
  constructor
  · refine Ev.congr (f := fun k => lap_Signal.j0 k l a true) (fun k => by rw [lap_Signal.f, sized_s, Option.bind_some, decide_eq_false h]; rfl) ?_
    exact Ev.step (f := fun _ => some ([], 1)) (fun k => by rw [lap_Signal.j0, if_pos rfl]) (Ev.now _)
  · refine Ev.congr (f := fun k => psalteryref09_Signal.j0 k l a true) (fun k => by rw [psalteryref09_Signal.f, if_neg (fun e => h (.inl e)), if_neg (fun e => h (.inr (.inl e))), if_neg (fun e => h (.inr (.inr e)))]) ?_
    exact Ev.step (f := fun _ => some ([], false)) (fun k => by rw [psalteryref09_Signal.j0, if_pos rfl]) (Ev.now _)
theorem wide_l0 {l : List (List Int)} (hl : l.length ≤ 9223372036854775807) : ∀ (d i : Nat), i + d = l.length → ∃ b, Ev (fun k => psalterylaw09_wide.l0 k l (i : Int)) b ∧ (b = false → l.length ≤ 30 ∧ ∀ c ∈ l.drop i, c.length ≤ 200)
  | 0, i, e => ⟨decide ((l.length : Int) > 30), Ev.step (f := fun _ => some _) (fun k => by rw [psalterylaw09_wide.l0, if_neg (by omega)]) (Ev.now _), fun h => ⟨by have := of_decide_eq_false h; omega, by rw [List.drop_eq_nil_of_le (by omega)]; intro c hc; cases hc⟩⟩
  | d + 1, i, e => by
    have hi : i < l.length := by omega
    by_cases c : (l[i].length : Int) > 200
    · exact ⟨true, Ev.step (f := fun _ => some true) (fun k => by rw [psalterylaw09_wide.l0, if_pos (by omega), if_pos (by omega), rdL_at hi, psalterylaw09_great.f, Option.bind_some, if_pos (decide_eq_true c)]) (Ev.now _), fun h => by cases h⟩
    · obtain ⟨b, h1, h2⟩ := wide_l0 hl d (i + 1) (by omega)
      refine ⟨b, Ev.step (fun k => by rw [psalterylaw09_wide.l0, if_pos (by omega), if_pos (by omega), rdL_at hi, psalterylaw09_great.f, Option.bind_some, if_neg (by simpa using c), show wrap64 ((i : Int) + 1) = ((i + 1 : Nat) : Int) from by rw [w64 (by omega) (by omega)]; omega]) h1, fun h => ?_⟩
      obtain ⟨q1, q2⟩ := h2 h
      refine ⟨q1, fun c' hc => ?_⟩
      rw [List.drop_eq_getElem_cons hi] at hc
      rcases List.mem_cons.1 hc with q | q
      · rw [q]; omega
      · exact q2 c' q
theorem wide_f {l : List (List Int)} (hl : l.length ≤ maxLen) : ∃ b, Ev (fun k => psalterylaw09_wide.f k l) b ∧ (b = false → l.length ≤ 30 ∧ ∀ c ∈ l, c.length ≤ 200) := by
  have := wide_l0 (l := l) (by unfold maxLen at hl; omega) l.length 0 (by omega)
  rw [List.drop_zero] at this; exact this
end Go.Proofs.YtllchhcdpfiodaaDoor.Lap
