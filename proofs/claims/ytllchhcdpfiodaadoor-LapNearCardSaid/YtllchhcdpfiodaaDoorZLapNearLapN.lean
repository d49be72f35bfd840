/- lap: a signal's frames, and the signal of frames: by the program and by the document. -/
import Derived.Test.YtllchhcdpfiodaaDoorZLapNearLapM
import Derived.Test.YtllchhcdpfiodaaDoorZLapNearM1
import Derived.Test.YtllchhcdpfiodaaDoorZLapNearM2
import Derived.Test.YtllchhcdpfiodaaDoorZLapNearM3
namespace Go.Proofs.YtllchhcdpfiodaaDoor.Lap
open Go Go.RowKit Go.Proofs.YtllchhcdpfiodaaDoorW.PrintWords Go.Proofs.YtllchhcdpfiodaaDoor.Prt Go.Proofs.YtllchhcdpfiodaaDoor.Wav
set_option linter.unusedVariables false
set_option linter.unusedSimpArgs false
def Sz (s : Nat) : Prop := s = 8 ∨ s = 16 ∨ s = 32
instance (s : Nat) : Decidable (Sz s) := by unfold Sz; infer_instance
def lg (s : Nat) : Nat := if s = 8 then 3 else if s = 16 then 4 else 5
theorem lg_pow {s : Nat} (h : Sz s) : 2 ^ lg s = s ∧ lg s ≤ 5 ∧ 1 ≤ lg s ∧ 8 ≤ s ∧ s ≤ 32 := by rcases h with rfl | rfl | rfl <;> decide
theorem bord {s m n : Nat} (hs : 8 ≤ s) (h : n + 2 ≤ m) : 4 ≤ (n + 1) * s ∧ (n + 1) * s + 4 ≤ m * s ∧ (n + 1) * s + s ≤ m * s ∧ n * s + 8 ≤ (n + 1) * s := by
  have h1 : (n + 2) * s ≤ m * s := Nat.mul_le_mul_right s h
  have h2 : (n + 2) * s = (n + 1) * s + s := Nat.succ_mul _ _
  have h3 : (n + 1) * s = n * s + s := Nat.succ_mul _ _
  omega
def tl (a : List Int) (s : Nat) : Nat → List Int
  | 0 => a
  | j + 1 => TN (tl a s j) ((j + 1) * s)
theorem tl_len (a : List Int) (s : Nat) : ∀ n, (tl a s n).length = a.length
  | 0 => rfl
  | n + 1 => by rw [tl, TN_len, tl_len a s n]
theorem pair_bd {u v : Int} {k : Nat} (hk : k < 4) (hu : -262144 ≤ u ∧ u ≤ 262144) (hv : -262144 ≤ v ∧ v ≤ 262144) : (-524288 ≤ U u v k ∧ U u v k ≤ 524288) ∧ (-524288 ≤ V u v k ∧ V u v k ≤ 524288) := by
  have key : ∀ c : Int, -7 ≤ c → c ≤ 7 → 0 ≤ c → ∀ w : Int, -393216 ≤ w → w ≤ 393216 → -172033 ≤ wrap64 (w * c) / 16 ∧ wrap64 (w * c) / 16 ≤ 172033 := by
    intro c c0 c1 c2 w w0 w1
    have h1 : w * c ≤ 393216 * c := Int.mul_le_mul_of_nonneg_right w1 c2
    have h2 : -393216 * c ≤ w * c := Int.mul_le_mul_of_nonneg_right w0 c2
    rw [w64 (by omega) (by omega)]; omega
  have hc : (-7 : Int) ≤ 7 - 2 * (k : Int) ∧ 7 - 2 * (k : Int) ≤ 7 ∧ 0 ≤ 7 - 2 * (k : Int) := by omega
  have key2 : ∀ c : Int, c ≤ 7 → 0 ≤ c → ∀ w : Int, -262144 ≤ w → w ≤ 262144 → -114689 ≤ wrap64 (w * c) / 16 ∧ wrap64 (w * c) / 16 ≤ 114689 := by
    intro c c1 c2 w w0 w1
    have h1 : w * c ≤ 262144 * c := Int.mul_le_mul_of_nonneg_right w1 c2
    have h2 : -262144 * c ≤ w * c := Int.mul_le_mul_of_nonneg_right w0 c2
    rw [w64 (by omega) (by omega)]; omega
  have p1 := key2 _ hc.2.1 hc.2.2 u hu.1 hu.2
  have hV : -376833 ≤ V u v k ∧ V u v k ≤ 376833 := by
    unfold V pt; rw [w64 (x := v - _) (by omega) (by omega)]; omega
  have p2 := key _ hc.1 hc.2.1 hc.2.2 (V u v k) (by omega) (by omega)
  refine ⟨?_, by omega⟩
  unfold U pt; rw [w64 (x := u + _) (by omega) (by omega)]; omega
theorem tl_bd {a : List Int} {s m : Nat} (hs : 8 ≤ s) (hl : a.length = m * s) (hb : Wi 262144 a) : ∀ n, n < m → (∀ i, i < a.length → -524288 ≤ at0 (tl a s n) i ∧ at0 (tl a s n) i ≤ 524288) ∧ ∀ i, n * s + 4 ≤ i → at0 (tl a s n) i = at0 a i
  | 0, _ => ⟨fun i hi => by have := hb _ (at_mem hi); rw [tl]; omega, fun _ _ => rfl⟩
  | n + 1, h => by
    have hb4 := bord (n := n) (m := m) hs (by omega)
    obtain ⟨i1, i2⟩ := tl_bd hs hl hb n (by omega)
    have hx : (n + 1) * s + 4 ≤ (tl a s n).length := by rw [tl_len, hl]; omega
    refine ⟨fun i hi => ?_, fun i hi => ?_⟩
    · rw [tl]
      by_cases c : i + 4 < (n + 1) * s ∨ (n + 1) * s + 4 ≤ i
      · unfold TN; rw [rts_off (by omega) hx 4 (by omega) i c]; exact i1 i hi
      · obtain ⟨k, hk, hik⟩ := pair_ex c (by omega)
        have on := rts_on (f := U) (g := V) (by omega) hx 4 (by omega) k hk
        have o1 := i2 ((n + 1) * s - 1 - k) (by omega)
        have o2 := i2 ((n + 1) * s + k) (by omega)
        have b1 := hb _ (at_mem (l := a) (i := (n + 1) * s - 1 - k) (by omega))
        have b2 := hb _ (at_mem (l := a) (i := (n + 1) * s + k) (by omega))
        rw [o1, o2] at on
        have pb := pair_bd hk b1 b2
        unfold TN
        rcases hik with e | e
        · rw [e, on.1]; exact pb.1
        · rw [e, on.2]; exact pb.2
    · rw [tl]; unfold TN; rw [rts_off (by omega) hx 4 (by omega) i (by omega)]; exact i2 i (by omega)
theorem tl_wi {a : List Int} {s m n : Nat} (hs : 8 ≤ s) (hl : a.length = m * s) (hb : Wi 262144 a) (hn : n < m) : Wi 16777216 (tl a s n) := by
  intro v hv
  obtain ⟨i, hi, rfl⟩ := mem_at hv
  rw [tl_len] at hi
  have := (tl_bd hs hl hb n hn).1 i hi
  omega
def pad (s n : Nat) : Nat := (s - n % s) % s
def fl (s : Nat) (x : List Int) : List Int := x ++ List.replicate (pad s x.length) 0
theorem fl_len {s : Nat} (h : Sz s) (x : List Int) : ∃ m, (fl s x).length = m * s ∧ x.length ≤ m * s ∧ m * s < x.length + s := by
  refine ⟨(x.length + pad s x.length) / s, ?_⟩
  have e : (fl s x).length = x.length + pad s x.length := by simp [fl]
  rw [e]; unfold pad
  rcases h with rfl | rfl | rfl <;> omega
theorem fl_wi {s : Nat} {x : List Int} {c : Int} (hc : 0 ≤ c) (h : Wi c x) : Wi c (fl s x) := by
  intro v hv
  rcases List.mem_append.1 hv with e | e
  · exact h v e
  · rw [List.eq_of_mem_replicate e]; omega
theorem rep_snoc (y : List Int) (d : Nat) : y ++ List.replicate (d + 1) 0 = (y ++ [0]) ++ List.replicate d 0 := by rw [List.replicate_succ, List.append_assoc]; rfl
theorem full_go {s : Nat} (h : Sz s) {r : List (List Int) × Int} : ∀ (d : Nat) (y : List Int), (y.length + d) % s = 0 → d < s → y.length + d ≤ 1000 → Ev (fun k => lap_Frames.l1 k (s : Int) (y ++ List.replicate d 0) (s : Int)) r → Ev (fun k => lap_Frames.l0 k (s : Int) y) r
  | 0, y, hd, hs, hy, hr => by
    refine Ev.step (fun k => ?_) hr
    rw [lap_Frames.l0, if_neg (by omega), if_pos (by rcases h with rfl | rfl | rfl <;> omega), List.replicate_zero, List.append_nil]
  | d + 1, y, hd, hs, hy, hr => by
    rw [rep_snoc] at hr
    refine Ev.step (fun k => ?_) (full_go h d (y ++ [0]) (by rw [List.length_append, List.length_singleton]; rcases h with rfl | rfl | rfl <;> omega) (by omega) (by rw [List.length_append, List.length_singleton]; omega) hr)
    rw [lap_Frames.l0, if_neg (by omega), if_neg (by rcases h with rfl | rfl | rfl <;> omega), if_pos (by omega)]
theorem rfull_go {s : Nat} (h : Sz s) : ∀ (d : Nat) (y : List Int), (y.length + d) % s = 0 → d < s → y.length + d ≤ 1000 → Ev (fun k => psalteryref09_Full.l0 k (s : Int) y) (y ++ List.replicate d 0)
  | 0, y, hd, hs, hy => by
    refine Ev.step (f := fun _ => some (y ++ List.replicate 0 0)) (fun k => ?_) (Ev.now _)
    rw [psalteryref09_Full.l0, if_neg (by omega), if_pos (by rcases h with rfl | rfl | rfl <;> omega), List.replicate_zero, List.append_nil]
  | d + 1, y, hd, hs, hy => by
    rw [rep_snoc]
    refine Ev.step (fun k => ?_) (rfull_go h d (y ++ [0]) (by rw [List.length_append, List.length_singleton]; rcases h with rfl | rfl | rfl <;> omega) (by omega) (by rw [List.length_append, List.length_singleton]; omega))
    rw [psalteryref09_Full.l0, if_neg (by omega), if_neg (by rcases h with rfl | rfl | rfl <;> omega), if_pos (by omega)]
theorem pad_ok {s n : Nat} (h : Sz s) : (n + pad s n) % s = 0 ∧ pad s n < s := by
  unfold pad; rcases h with rfl | rfl | rfl <;> omega
theorem rfull_f {s : Nat} (h : Sz s) {x : List Int} (hx : x.length ≤ 900) : Ev (fun k => psalteryref09_Full.f k x (s : Int)) (fl s x) := by
  have hp := pad_ok (n := x.length) h; have hs := lg_pow h
  exact Ev.congr (fun k => by rw [psalteryref09_Full.f, Option.bind_some, if_pos (by simp; omega), List.nil_append]) (rfull_go h (pad s x.length) x hp.1 hp.2 (by omega))
def blk (a : List Int) (s t : Nat) : List Int := (a.take ((t + 1) * s)).drop (t * s)
def fr (a : List Int) (s t : Nat) : List (List Int) := (List.range t).map (fun i => fw (lg s) (blk a s i))
theorem fr_len (a : List Int) (s t : Nat) : (fr a s t).length = t := by simp [fr]
theorem fr_succ (a : List Int) (s t : Nat) : fr a s (t + 1) = fr a s t ++ [fw (lg s) (blk a s t)] := by simp [fr, List.range_succ]
theorem mul_in {s m t : Nat} (h : t < m) : (t + 1) * s ≤ m * s ∧ (t + 1) * s = t * s + s := ⟨Nat.mul_le_mul_right s h, Nat.succ_mul _ _⟩
theorem blk_len {a : List Int} {s m t : Nat} (hl : a.length = m * s) (h : t < m) : (blk a s t).length = s := by
  have := mul_in (s := s) h
  unfold blk; rw [List.length_drop, List.length_take]; omega
theorem blk_wi {a : List Int} {s t : Nat} {c : Int} (h : Wi c a) : Wi c (blk a s t) := fun v hv => h v (List.mem_of_mem_take (List.mem_of_mem_drop hv))
theorem bd_wi {c : Int} {l : List Int} : bd c l = true ↔ Wi c l := bd_of
theorem okn_sz {s : Nat} (h : Sz s) : okn s = true := by rcases h with rfl | rfl | rfl <;> rfl
theorem pow_one {n e : Nat} (h : 2 ^ n = 2 ^ e) : n = e := (Nat.pow_right_inj (by omega)).1 h
theorem fwd_ok {b : List Int} {s : Nat} (h : Sz s) (hb : b.length = s) (hw : Wi 16777216 b) : Ev (fun k => wave_Forward.f k b) (fw (lg s) b, 0) := by
  have hs := lg_pow h
  refine ⟨210, fun k hk => ?_⟩
  rcases forward_f (l := b) (by omega) hk with ⟨n, hn, hln, _, he⟩ | ⟨hb2, _⟩
  · have e : n + 1 = lg s := pow_one (by omega)
    rw [← e]; exact he
  · rw [hb, okn_sz h, bd_wi.2 hw] at hb2; exact absurd hb2 (by decide)
theorem rfwd_ok {b : List Int} {s : Nat} (h : Sz s) (hb : b.length = s) : Ev (fun k => psalteryref08_Forward.f k b) (fw (lg s) b) := by
  have hs := lg_pow h
  exact ⟨100, fun k hk => refForward_f (by omega) hs.2.1 hk⟩
theorem frames_l2 {a : List Int} {s m : Nat} (h : Sz s) (hl : a.length = m * s) (hm : m * s ≤ 1000) (hw : Wi 16777216 a) : ∀ (d t : Nat), t + d = m → Ev (fun k => lap_Frames.l2 k (s : Int) a (fr a s t) ((t * s : Nat) : Int)) (fr a s m, 0)
  | 0, t, e => by
    obtain rfl : t = m := by omega
    exact Ev.step (f := fun _ => some _) (fun k => by rw [lap_Frames.l2, if_neg (by omega)]) (Ev.now _)
  | d + 1, t, e => by
    have hs := lg_pow h; have hi := mul_in (s := s) (m := m) (t := t) (by omega)
    have ht : t ≤ t * s := Nat.le_mul_of_pos_right t (by omega)
    have hb := blk_len hl (show t < m by omega)
    refine Ev.step (f := fun k => (wave_Forward.f k (blk a s t)).bind fun bt199 => (if bt199.2 = 0 then (if (fr a s t).length < 5864062014805 then (lap_Frames.l2 k (s : Int) a (fr a s t ++ [bt199.1]) (((t + 1) * s : Nat) : Int)) else (none)) else (some (([] : List (List Int)), bt199.2)))) (fun k => ?_) (Ev.bind (fwd_ok h hb (blk_wi hw)) ?_)
    · rw [lap_Frames.l2, w_nat (a := ((t * s : Nat) : Int) + (s : Int)) (n := (t + 1) * s) (by omega) (by omega), if_pos (by omega), if_pos (by omega), if_pos (by omega), if_pos (by omega), Int.toNat_natCast, Int.toNat_natCast]; rfl
    · refine Ev.congr (fun k => by rw [if_pos rfl, if_pos (by rw [fr_len]; omega), ← fr_succ]) (frames_l2 h hl hm hw d (t + 1) (by omega))
theorem rframes_l1 {a : List Int} {s m : Nat} (h : Sz s) (hl : a.length = m * s) (hm : m * s ≤ 1000) : ∀ (d t : Nat), t + d = m → Ev (fun k => psalteryref09_Frames.l1 k (s : Int) a (fr a s t) ((t * s : Nat) : Int)) (fr a s m)
  | 0, t, e => by
    obtain rfl : t = m := by omega
    have hs := lg_pow h
    exact Ev.step (f := fun _ => some _) (fun k => by rw [psalteryref09_Frames.l1, w64 (by omega) (by omega), if_neg (by omega)]) (Ev.now _)
  | d + 1, t, e => by
    have hs := lg_pow h; have hi := mul_in (s := s) (m := m) (t := t) (by omega)
    have ht : t ≤ t * s := Nat.le_mul_of_pos_right t (by omega)
    have hb := blk_len hl (show t < m by omega)
    refine Ev.step (f := fun k => (psalteryref08_Forward.f k (blk a s t)).bind fun t374 => (if (fr a s t).length < 5864062014805 then (psalteryref09_Frames.l1 k (s : Int) a (fr a s t ++ [t374]) (((t + 1) * s : Nat) : Int)) else (none))) (fun k => ?_) (Ev.bind (rfwd_ok h hb) ?_)
    · rw [psalteryref09_Frames.l1, w_nat (a := ((t * s : Nat) : Int) + (s : Int)) (n := (t + 1) * s) (by omega) (by omega), if_pos (by omega), if_pos (by omega), if_pos (by omega), Int.toNat_natCast, Int.toNat_natCast]; rfl
    · refine Ev.congr (fun k => by rw [if_pos (by rw [fr_len]; omega), ← fr_succ]) (rframes_l1 h hl hm d (t + 1) (by omega))
theorem frames_l1 {a : List Int} {s m : Nat} {r : List (List Int) × Int} (h : Sz s) (hl : a.length = m * s) (hm : m * s ≤ 1000) : ∀ (d n : Nat), n + d = m - 1 → Ev (fun k => lap_Frames.l2 k (s : Int) (tl a s (m - 1)) [] 0) r → Ev (fun k => lap_Frames.l1 k (s : Int) (tl a s n) (((n + 1) * s : Nat) : Int)) r
  | 0, n, e, hr => by
    obtain rfl : n = m - 1 := by omega
    have hs := lg_pow h
    refine Ev.step (fun k => ?_) hr
    have hle : m * s ≤ (m - 1 + 1) * s := Nat.mul_le_mul_right s (by omega)
    rw [lap_Frames.l1, if_neg (by rw [tl_len, hl]; omega)]
  | d + 1, n, e, hr => by
    have hs := lg_pow h
    have hb := bord (s := s) (n := n) (m := m) (by omega) (by omega)
    have e2 : (n + 1 + 1) * s = (n + 1) * s + s := Nat.succ_mul _ _
    refine Ev.step (f := fun k => (lap_turn.f k (tl a s n) (((n + 1) * s : Nat) : Int)).bind fun t194 => (lap_Frames.l1 k (s : Int) t194 (((n + 1 + 1) * s : Nat) : Int))) (fun k => ?_) (Ev.bind (turn_f (by omega) (by rw [tl_len, hl]; omega) (by omega)) ?_)
    · rw [lap_Frames.l1, if_pos (by rw [tl_len, hl]; omega), w_nat (a := (((n + 1) * s : Nat) : Int) + (s : Int)) (n := (n + 1 + 1) * s) (by omega) (by omega)]
    · exact frames_l1 h hl hm d (n + 1) (by omega) hr
theorem rframes_l0 {a : List Int} {s m : Nat} {r : List (List Int)} (h : Sz s) (hl : a.length = m * s) (hm : m * s ≤ 1000) : ∀ (d n : Nat), n + d = m - 1 → Ev (fun k => psalteryref09_Frames.l1 k (s : Int) (tl a s (m - 1)) [] 0) r → Ev (fun k => psalteryref09_Frames.l0 k (s : Int) (tl a s n) (((n + 1) * s : Nat) : Int)) r
  | 0, n, e, hr => by
    obtain rfl : n = m - 1 := by omega
    have hs := lg_pow h
    refine Ev.step (fun k => ?_) hr
    have hle : m * s ≤ (m - 1 + 1) * s := Nat.mul_le_mul_right s (by omega)
    rw [psalteryref09_Frames.l0, if_neg (by rw [tl_len, hl]; omega)]
  | d + 1, n, e, hr => by
    have hs := lg_pow h
    have hb := bord (s := s) (n := n) (m := m) (by omega) (by omega)
    have e2 : (n + 1 + 1) * s = (n + 1) * s + s := Nat.succ_mul _ _
    refine Ev.step (f := fun k => (psalteryref09_Turn.f k (tl a s n) (((n + 1) * s : Nat) : Int)).bind fun t194 => (psalteryref09_Frames.l0 k (s : Int) t194 (((n + 1 + 1) * s : Nat) : Int))) (fun k => ?_) (Ev.bind (rturn_f (by omega) (by rw [tl_len, hl]; omega) (by omega) (by rw [tl_len, hl]; omega)) ?_)
    · rw [psalteryref09_Frames.l0, if_pos (by rw [tl_len, hl]; omega), w_nat (a := (((n + 1) * s : Nat) : Int) + (s : Int)) (n := (n + 1 + 1) * s) (by omega) (by omega)]
    · exact rframes_l0 h hl hm d (n + 1) (by omega) hr
def frs (x : List Int) (s m : Nat) : List (List Int) := fr (tl (fl s x) s (m - 1)) s m
theorem sized_s (a : Int) : lap_sized.f a = some (decide (a = 8 ∨ a = 16 ∨ a = 32)) := by
  unfold lap_sized.f
  by_cases h1 : a = 8
  · rw [if_pos h1]; simp [h1]
  · rw [if_neg h1]
    by_cases h2 : a = 16
    · rw [if_pos h2]; simp [h2]
    · rw [if_neg h2]
      by_cases h3 : a = 32
      · subst h3; rfl
      · simp [h1, h2, h3]
theorem wi_zero {m : Nat} {a : List Int} {s : Nat} (h : Sz s) (hl : a.length = m * s) (hb : Wi 262144 a) : Wi 16777216 (tl a s (m - 1)) := by
  have hs := lg_pow h
  rcases Nat.eq_zero_or_pos m with e | e
  · subst e
    intro v hv
    have : (tl a s (0 - 1)).length = 0 := by rw [tl_len, hl]; omega
    rw [List.length_eq_zero_iff.1 this] at hv; cases hv
  · exact tl_wi (by omega) hl hb (by omega)
theorem frames_ok {x : List Int} {s m : Nat} (h : Sz s) (hx : x.length ≤ 200) (hb : Wi 262144 x) (hm : (fl s x).length = m * s) (hm1 : m * s < x.length + s) : Ev (fun k => lap_Frames.f k x (s : Int)) (frs x s m, 0) ∧ Ev (fun k => psalteryref09_Frames.f k x (s : Int)) (frs x s m) := by
  have hs := lg_pow h
  have hp := pad_ok (n := x.length) h
  have hsz : (decide (((s : Nat) : Int) = 8 ∨ ((s : Nat) : Int) = 16 ∨ ((s : Nat) : Int) = 32)) = true := decide_eq_true (by rcases h with rfl | rfl | rfl <;> simp)
  have one : (1 : Nat) * s = s := Nat.one_mul s
  have hw := wi_zero h hm (fl_wi (s := s) (by decide) hb)
  have hl : (tl (fl s x) s (m - 1)).length = m * s := by rw [tl_len]; exact hm
  constructor
  · refine Ev.bind (right_f (by omega)) ?_
    refine Ev.congr (f := fun k => lap_Frames.j0 k x (s : Int) false) (fun k => by rw [if_pos (by simpa using hb), sized_s, Option.bind_some, hsz]; rfl) ?_
    refine Ev.step (f := fun k => lap_Frames.l0 k (s : Int) x) (fun k => by rw [lap_Frames.j0, if_neg (by decide), Option.bind_some, if_pos (by simp; omega), List.nil_append]) ?_
    refine full_go h (pad s x.length) x hp.1 hp.2 (by omega) ?_
    have := frames_l1 (r := (frs x s m, 0)) h hm (by omega) (m - 1) 0 (by omega) ?_
    · rw [Nat.zero_add, one] at this; exact this
    · have := frames_l2 h hl (by omega) hw m 0 (by omega)
      rw [Nat.zero_mul] at this; exact this
  · refine Ev.bind (rfull_f h (by omega)) ?_
    have := rframes_l0 (r := frs x s m) h hm (by omega) (m - 1) 0 (by omega) ?_
    · rw [Nat.zero_add, one] at this; exact this
    · have := rframes_l1 h hl (by omega) m 0 (by omega)
      rw [Nat.zero_mul] at this; exact this
theorem frames_bad {x : List Int} {a : Int} (hx : x.length ≤ 200) (h : ¬ (Wi 262144 x ∧ (a = 8 ∨ a = 16 ∨ a = 32))) : Ev (fun k => lap_Frames.f k x a) ([], 1) := by
  have hj : Ev (fun k => lap_Frames.j0 k x a true) ([], 1) := Ev.step (f := fun _ => some _) (fun k => by rw [lap_Frames.j0, if_pos rfl]) (Ev.now _)
  refine Ev.bind (right_f (by omega)) ?_
  by_cases hb : Wi 262144 x
  · exact Ev.congr (fun k => by rw [if_pos (by simpa using hb), sized_s, Option.bind_some, decide_eq_false (fun e => h ⟨hb, e⟩)]; rfl) hj
  · exact Ev.congr (fun k => by rw [if_neg (by simpa using hb)]) hj
theorem rdL_at {l : List (List Int)} {i : Nat} (h : i < l.length) : rd_L1 l (i : Int) = l[i] := by unfold rd_L1; rw [Int.toNat_natCast]; simp [h]
theorem fr_row {a : List Int} {s m : Nat} (h : Sz s) (hl : a.length = m * s) : ∀ c ∈ fr a s m, c.length = s := by
  have hs := lg_pow h
  intro c hc
  obtain ⟨i, hi, rfl⟩ := List.mem_map.1 hc
  have hb := blk_len hl (List.mem_range.1 hi)
  rw [fw_len _ _ (by omega)]; omega
end Go.Proofs.YtllchhcdpfiodaaDoor.Lap
