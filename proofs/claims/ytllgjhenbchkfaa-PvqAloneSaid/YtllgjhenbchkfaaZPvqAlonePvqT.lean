/- pvq: roots, quotients and shapes: by the program and by the document. -/
import Derived.Test.YtllgjhenbchkfaaZPvqAlonePvqK
import Derived.Test.YtllgjhenbchkfaaZPvqAloneM1
import Derived.Test.YtllgjhenbchkfaaZPvqAloneM2
namespace Go.Proofs.Ytllgjhenbchkfaa.Pvq
open Go Go.RowKit Go.Proofs.YtllgjhenbchkfaaW.PrintWords Go.Proofs.Ytllgjhenbchkfaa.Prt Go.Proofs.Ytllgjhenbchkfaa.Com Go.Proofs.Ytllgjhenbchkfaa.PvqN
set_option linter.unusedVariables false
set_option linter.unusedSimpArgs false
theorem root_one {s r n : Int} (hs : 0 ≤ s) (hr : 0 ≤ r) (h1 : s * s ≤ n) (h2 : n < (s + 1) * (s + 1)) (h3 : r * r ≤ n) (h4 : n < (r + 1) * (r + 1)) : s = r := by
  have key : ∀ a b : Int, 0 ≤ a → 0 ≤ b → a * a ≤ n → n < (b + 1) * (b + 1) → a ≤ b := by
    intro a b ha hb k1 k2
    apply Int.not_lt.1; intro h
    have := mul_mono (a := b + 1) (c := b + 1) (b := a) (d := a) (by omega) (by omega) (by omega) (by omega)
    omega
  have := key s r hs hr h1 h4; have := key r s hr hs h3 h2; omega
def bt2 : Nat → Int
  | 0 => 0
  | j + 1 => 2 ^ j
theorem bt2_half : ∀ j, bt2 (j + 1) / 2 = bt2 j
  | 0 => by simp [bt2]
  | j + 1 => by simp only [bt2]; rw [Int.pow_succ]; omega
theorem or_bit {x p : Int} {j : Nat} (hj : j ≤ 31) (hp : p = 2 ^ j) (hx : 0 ≤ x) (hx1 : x ≤ 4294967295) (hm : ∃ c, x = c * (2 * p)) : Go.bits .or .u64 x p = x + p := by
  subst hp
  have h0 : (0 : Int) < 2 ^ j := Int.pow_pos (by decide)
  have h1 : (2 : Int) ^ j ≤ 2 ^ 31 := by have := Nat.pow_le_pow_right (n := 2) (by decide) hj; exact_mod_cast this
  refine bits_join .u64 64 (by decide) Val.u64_fit (j + 1) x (2 ^ j) hx ?_ (by omega) (by omega) (by rw [Int.pow_succ]; omega) (by omega)
  obtain ⟨c, rfl⟩ := hm
  rw [Int.pow_succ, Int.mul_comm (2 ^ j) 2]
  exact Int.mul_emod_left _ _
theorem nsqrt_l0 {n : Int} (h0 : 0 ≤ n) (h1 : n ≤ 18446744073709551615) : ∀ (j : Nat) (x p : Int), j ≤ 32 → p = 2 ^ j → 0 ≤ x → x + p ≤ 4294967296 → (∃ c, x = c * p) → x * x ≤ n → n < (x + p) * (x + p) →
    ∃ s, 0 ≤ s ∧ s < 4294967296 ∧ s * s ≤ n ∧ n < (s + 1) * (s + 1) ∧ Ev (fun k => num_Sqrt.l0 k n x (bt2 j)) s
  | 0, x, p, hj, hp, hx, hx1, hc, ha, hb => by
    have e : p = 1 := by rw [hp]; rfl
    subst e
    exact ⟨x, hx, by omega, ha, hb, Ev.step (f := fun _ => some x) (fun k => by rw [num_Sqrt.l0, bt2, if_neg (by omega)]) (Ev.now _)⟩
  | j + 1, x, p, hj, hp, hx, hx1, hc, ha, hb => by
    have e : p = 2 * 2 ^ j := by rw [hp, Int.pow_succ, Int.mul_comm]
    have hq : (0 : Int) < 2 ^ j := Int.pow_pos (by decide)
    generalize hpq : (2 : Int) ^ j = q at e hq
    obtain ⟨c, hc⟩ := hc
    have ho : Go.bits .or .u64 x q = x + q := or_bit (j := j) (by omega) hpq.symm hx (by omega) ⟨c, by rw [hc, e]⟩
    have st : ∀ k, num_Sqrt.l0 (k + 1) n x (bt2 (j + 1)) = if (x + q) * (x + q) ≤ n then num_Sqrt.l0 k n (x + q) (bt2 j) else num_Sqrt.l0 k n x (bt2 j) := by
      intro k
      have hd : (x + q ≤ n / (x + q)) ↔ (x + q) * (x + q) ≤ n := Int.le_ediv_iff_mul_le (by omega)
      have hd1 : 0 ≤ n / (x + q) := Int.ediv_nonneg h0 (by omega)
      have hd2 : n / (x + q) ≤ n := Int.ediv_le_self _ h0
      have hb2 : bt2 (j + 1) = q := hpq
      rw [num_Sqrt.l0, bt2_half, hb2, if_pos hq, ho, if_neg (by omega), Int.tdiv_eq_ediv_of_nonneg h0, u64 (x := n / (x + q)) hd1 (by omega)]
      by_cases h : (x + q) * (x + q) ≤ n
      · rw [if_pos h, if_pos (hd.2 h)]
      · rw [if_neg h, if_neg (fun k => h (hd.1 k))]
    by_cases h : (x + q) * (x + q) ≤ n
    · obtain ⟨s, a, b, d, f, g⟩ := nsqrt_l0 h0 h1 j (x + q) q (by omega) hpq.symm (by omega) (by omega) ⟨2 * c + 1, by rw [hc, e]; grind⟩ h (by rw [show x + q + q = x + p by omega]; exact hb)
      exact ⟨s, a, b, d, f, Ev.step (fun k => by rw [st, if_pos h]) g⟩
    · obtain ⟨s, a, b, d, f, g⟩ := nsqrt_l0 h0 h1 j x q (by omega) hpq.symm hx (by omega) ⟨2 * c, by rw [hc, e]; grind⟩ ha (by omega)
      exact ⟨s, a, b, d, f, Ev.step (fun k => by rw [st, if_neg h]) g⟩
theorem rsqrt_l0 {n : Int} (h0 : 0 ≤ n) (h1 : n ≤ 18446744073709551615) : ∀ (m : Nat) (lo hi : Int), hi - lo ≤ (m : Int) + 1 → 0 ≤ lo → lo < hi → hi ≤ 4294967296 → lo * lo ≤ n → n < hi * hi →
    ∃ s, 0 ≤ s ∧ s < 4294967296 ∧ s * s ≤ n ∧ n < (s + 1) * (s + 1) ∧ Ev (fun k => psalteryref03_Sqrt.l0 k n lo hi) s
  | 0, lo, hi, hm, hl, hlt, hh, ha, hb => by
    have e : hi = lo + 1 := by omega
    subst e
    exact ⟨lo, hl, by omega, ha, hb, Ev.step (f := fun _ => some lo) (fun k => by rw [psalteryref03_Sqrt.l0, u64 (by omega) (by omega), if_neg (by omega)]) (Ev.now _)⟩
  | m + 1, lo, hi, hm, hl, hlt, hh, ha, hb => by
    by_cases h2 : hi - lo ≤ 1
    · exact rsqrt_l0 h0 h1 m lo hi (by omega) hl hlt hh ha hb
    have hmid : lo < (lo + hi) / 2 ∧ (lo + hi) / 2 < hi := by omega
    have st : ∀ k, psalteryref03_Sqrt.l0 (k + 1) n lo hi = if (lo + hi) / 2 * ((lo + hi) / 2) ≤ n then psalteryref03_Sqrt.l0 k n ((lo + hi) / 2) hi else psalteryref03_Sqrt.l0 k n lo ((lo + hi) / 2) := by
      intro k
      have b := mul_mono (a := (lo + hi) / 2) (c := (lo + hi) / 2) (b := 4294967295) (d := 4294967295) (by omega) (by omega) (by omega) (by omega)
      have b0 := sq_nonneg ((lo + hi) / 2)
      rw [psalteryref03_Sqrt.l0, u64 (x := hi - lo) (by omega) (by omega), if_pos (by omega), u64 (x := lo + hi) (by omega) (by omega), Int.tdiv_eq_ediv_of_nonneg (by omega), u64 (x := (lo + hi) / 2) (by omega) (by omega), u64 (x := (lo + hi) / 2 * ((lo + hi) / 2)) b0 (by omega)]
    generalize (lo + hi) / 2 = c at hmid st
    by_cases h : c * c ≤ n
    · obtain ⟨s, a, b, d, f, g⟩ := rsqrt_l0 h0 h1 m c hi (by omega) (by omega) (by omega) hh h hb
      exact ⟨s, a, b, d, f, Ev.step (fun k => by rw [st, if_pos h]) g⟩
    · obtain ⟨s, a, b, d, f, g⟩ := rsqrt_l0 h0 h1 m lo c (by omega) hl (by omega) (by omega) ha (by omega)
      exact ⟨s, a, b, d, f, Ev.step (fun k => by rw [st, if_neg h]) g⟩
theorem root_ex {n : Int} (h0 : 0 ≤ n) (h1 : n ≤ 18446744073709551615) : ∃ s, 0 ≤ s ∧ s < 4294967296 ∧ s * s ≤ n ∧ n < (s + 1) * (s + 1) ∧ Ev (fun k => num_Sqrt.f k n) s ∧ Ev (fun k => psalteryref03_Sqrt.f k n) s := by
  obtain ⟨s, a, b, d, f, g⟩ := nsqrt_l0 h0 h1 32 0 4294967296 (by omega) (by rfl) (by omega) (by omega) ⟨0, by omega⟩ (by omega) (by omega)
  obtain ⟨r, a', b', d', f', g'⟩ := rsqrt_l0 h0 h1 4294967296 0 4294967296 (by omega) (by omega) (by omega) (by omega) (by omega) (by omega)
  have e := root_one a a' d f d' f'
  subst e
  exact ⟨s, a, b, d, f, Ev.congr (fun k => by rw [num_Sqrt.f]; rfl) g, g'⟩
def rdn (a b : Int) : Int := if a % b ≥ b - a % b then a / b + 1 else a / b
def dv (a b : Int) : Int := if a < 0 then -(rdn (-a) b) else rdn a b
theorem div_f {a b : Int} (ha : -1152921504606846976 ≤ a) (ha1 : a ≤ 1152921504606846976) (hb : 1 ≤ b) (hb1 : b ≤ 1152921504606846976) : num_Div.f a b = some (dv a b, 0) := by
  have hs : num_size.f a = some (if a < 0 then -a else a) := by
    unfold num_size.f
    by_cases h : a < 0
    · rw [if_pos h, if_pos h, Val.u64wrap, Val.u64wrap]; congr 1; omega
    · rw [if_neg h, if_neg h, u64 (by omega) (by omega)]
  have hn : ∃ m, m = (if a < 0 then -a else a) ∧ 0 ≤ m ∧ m ≤ 1152921504606846976 := ⟨_, rfl, by split <;> omega, by split <;> omega⟩
  obtain ⟨m, hm, m0, m1⟩ := hn
  have q0 : 0 ≤ m / b := Int.ediv_nonneg m0 (by omega)
  have q1 : m / b ≤ m := Int.ediv_le_self _ m0
  have r0 := Int.emod_nonneg m (show b ≠ 0 by omega)
  have r1 := Int.emod_lt_of_pos m (show 0 < b by omega)
  have w2 : ∀ x : Int, 0 ≤ x → x ≤ 1152921504606846977 → wrap64 (IntKind.u64.wrap (-x)) = -x := by intro x h h'; rw [Val.u64wrap]; unfold wrap64; omega
  unfold num_Div.f dv rdn
  rw [if_neg (by omega), hs, Option.bind_some, ← hm, u64 (x := b) (by omega) (by omega), if_neg (by omega), Int.tdiv_eq_ediv_of_nonneg m0, Int.tmod_eq_emod_of_nonneg m0, u64 (x := b - m % b) (by omega) (by omega), u64 (x := m / b) q0 (by omega), u64 (x := m / b + 1) (by omega) (by omega), w2 _ (by omega) (by omega), w2 _ (by omega) (by omega), w64 (x := m / b + 1) (by omega) (by omega), w64 (x := m / b) (by omega) (by omega)]
  by_cases h : a < 0
  · rw [if_pos h] at hm
    rw [if_pos h, if_pos h, if_pos h, ← hm]
    by_cases c : m % b ≥ b - m % b
    · rw [if_pos c, if_pos c]
    · rw [if_neg c, if_neg c]
  · rw [if_neg h] at hm
    rw [if_neg h, if_neg h, if_neg h, ← hm]
    by_cases c : m % b ≥ b - m % b
    · rw [if_pos c, if_pos c]
    · rw [if_neg c, if_neg c]
theorem rdiv_f {a b : Int} (ha : 0 ≤ a) (ha1 : a ≤ 1152921504606846976) (hb : 1 ≤ b) (hb1 : b ≤ 1152921504606846976) : Ev (fun k => psalteryref03_Div.f k a b) (rdn a b) := by
  have q0 : 0 ≤ a / b := Int.ediv_nonneg ha (by omega)
  have q1 : a / b ≤ a := Int.ediv_le_self _ ha
  have r0 := Int.emod_nonneg a (show b ≠ 0 by omega)
  have r1 := Int.emod_lt_of_pos a (show 0 < b by omega)
  have e : a - a / b * b = a % b := by have := Int.emod_add_mul_ediv a b; grind
  have p0 : 0 ≤ a / b * b := Int.mul_nonneg q0 (by omega)
  refine Ev.congr (f := fun k => psalteryref03_Div.j0 k b (a / b) (a % b) (decide (a % b ≥ b - a % b))) (fun k => ?_) (Ev.step (f := fun _ => some (rdn a b)) (fun k => ?_) (Ev.now _))
  · rw [psalteryref03_Div.f, if_neg (by omega), Int.tdiv_eq_ediv_of_nonneg ha, w64 (x := a / b) (by omega) (by omega), w64 (x := a / b * b) (by omega) (by omega), e, w64 (x := a % b) (by omega) (by omega), if_pos r0, w64 (x := b - a % b) (by omega) (by omega)]
  · rw [psalteryref03_Div.j0]
    unfold rdn
    by_cases c : a % b ≥ b - a % b
    · rw [if_pos (decide_eq_true c), if_pos c, w64 (by omega) (by omega)]
    · rw [if_neg (by simpa using c), if_neg c, if_neg (by omega)]
def Pv (y : List Int) : Prop := 1 ≤ y.length ∧ y.length ≤ 16 ∧ szs y ≤ 12
instance (y : List Int) : Decidable (Pv y) := by unfold Pv; infer_instance
theorem szs_el : ∀ {y : List Int}, szs y ≤ 12 → ∀ v ∈ y, -12 ≤ v ∧ v ≤ 12
  | p :: y, h, v, hv => by
    have h1 := szs_in y; have h2 := sz_in p
    simp only [szs] at h
    rcases List.mem_cons.1 hv with rfl | hv
    · unfold sz at h h2; split at h
      · omega
      · omega
    · exact szs_el (by omega) v hv
theorem sz_mag {v : Int} (h : -12 ≤ v ∧ v ≤ 12) : sz v = mag v := by unfold sz mag; rw [if_pos h]
theorem index_ok {y : List Int} (h : Pv y) : ∃ i, Ev (fun k => comb_Index.f k y) (i, 0) := by
  obtain ⟨V, C⟩ := exCnt
  have hs := szs_in y
  have h2 := h.2.2
  obtain ⟨i, i0, i1, hu⟩ := Unr.ex C y (szs y).toNat h.2.1 (by omega) (by omega)
  exact ⟨i, 700, fun k hk => index_f C h.1 h.2.1 (by omega) hu hk⟩
theorem S2_pv {y : List Int} (h : Pv y) : 0 ≤ S2 y ∧ S2 y ≤ 2304 := by
  have := S2_le (c := 12) (by omega) (szs_el h.2.2); have := S2_nonneg y; have := h.2.1; omega
theorem prod_pr {p r : Int} (hp : -12 ≤ p ∧ p ≤ 12) (hr : 0 ≤ r) (hr1 : r ≤ 4194304) : -50331648 ≤ p * r ∧ p * r ≤ 50331648 := by
  have h1 : 0 ≤ (12 - p) * r := Int.mul_nonneg (by omega) hr
  have h2 : 0 ≤ (12 + p) * r := Int.mul_nonneg (by omega) hr
  grind
theorem shape_l1 {y : List Int} {r N : Int} (h : Pv y) (hr : 0 ≤ r) (hr1 : r ≤ 4194304) (hN : 1 ≤ N) (hN1 : N < 4294967296) : ∀ (d i : Nat) (o : List Int), i + d = y.length → o.length = y.length →
    Ev (fun k => pvq_Shape.l1 k r o N y (y.length : Int) (i : Int)) (o.take i ++ (y.drop i).map (fun p => dv (p * r * 256) N), 0)
  | 0, i, o, e, ho => Ev.step (f := fun _ => some _) (fun k => by rw [pvq_Shape.l1, if_neg (by omega), drop_end (by omega), List.map_nil, List.append_nil, List.take_of_length_le (by omega)]) (Ev.now _)
  | d + 1, i, o, e, ho => by
    have hi : i < y.length := by omega
    have hp := szs_el h.2.2 _ (List.getElem_mem hi)
    have hb := prod_pr hp hr hr1
    have hl := h.2.1
    refine Ev.step (f := fun k => pvq_Shape.l1 k r (o.set i (dv (y[i] * r * 256) N)) N y (y.length : Int) ((i + 1 : Nat) : Int)) (fun k => ?_) ?_
    · rw [pvq_Shape.l1, if_pos (by omega), if_pos (by omega), if_pos (by omega), rd_at hi, w64 (x := y[i] * r) (by omega) (by omega), w64 (x := y[i] * r * 256) (by omega) (by omega), div_f (by omega) (by omega) hN (by omega), Option.bind_some, if_pos (by omega), w_succ hi (by omega), Int.toNat_natCast]
    · have ih := shape_l1 h hr hr1 hN hN1 d (i + 1) (o.set i (dv (y[i] * r * 256) N)) (by omega) (by simpa using ho)
      have e : (o.set i (dv (y[i] * r * 256) N)).take (i + 1) ++ (y.drop (i + 1)).map (fun p => dv (p * r * 256) N) = o.take i ++ (y.drop i).map (fun p => dv (p * r * 256) N) := by
        rw [drop_at hi, List.map_cons, List.take_succ_eq_append_getElem (by simp; omega), List.getElem_set_self, List.append_assoc, List.take_set_of_le (Nat.le_refl i)]
        rfl
      rw [e] at ih; exact ih
theorem shape_l0 {y : List Int} {r : Int} (h : Pv y) {res : List Int × Int} : ∀ (d i : Nat) (s : Int), i + d = y.length → 0 ≤ s → s ≤ 144 * i →
    Ev (fun k => if s + S2 (y.drop i) = 0 then some (List.replicate y.length 0, 0) else (num_Sqrt.f k ((s + S2 (y.drop i)) * 65536)).bind fun t => pvq_Shape.l1 k r (List.replicate y.length 0) (wrap64 t) y (y.length : Int) 0) res → Ev (fun k => pvq_Shape.l0 k y r s y (y.length : Int) (i : Int)) res
  | 0, i, s, e, hs, hs1, hr => by
    have hl := h.2.1
    rw [drop_end (by omega), S2, Int.add_zero] at hr
    refine Ev.step (fun k => ?_) hr
    rw [pvq_Shape.l0, if_neg (by omega), if_pos (by omega), Int.toNat_natCast, if_pos (by omega), Option.bind_some, u64 (x := s * 256) (by omega) (by omega), u64 (x := s * 256 * 256) (by omega) (by omega), show s * 256 * 256 = s * 65536 by omega]
  | d + 1, i, s, e, hs, hs1, hr => by
    have hi : i < y.length := by omega
    have hl := h.2.1
    have hp := szs_el h.2.2 _ (List.getElem_mem hi)
    have hq := sq_in hp.1 hp.2
    refine Ev.step (fun k => ?_) (shape_l0 h d (i + 1) (s + y[i] * y[i]) (by omega) (by omega) (by omega) (r := r) (res := res) ?_)
    · rw [pvq_Shape.l0, if_pos (by omega), if_pos (by omega), if_pos (by omega), rd_at hi, w64 (x := y[i] * y[i]) (by omega) (by omega), u64 (x := y[i] * y[i]) (by omega) (by omega), u64 (x := s + y[i] * y[i]) (by omega) (by omega), w_succ hi (by omega)]
    · rw [drop_at hi, S2, ← Int.add_assoc] at hr; exact hr
theorem rshape_l0 {y : List Int} {r : Int} (h : Pv y) {res : List Int} : ∀ (d i : Nat) (s : Int), i + d = y.length → 0 ≤ s → s ≤ 144 * i →
    Ev (fun k => psalteryref07_Shape.l1 k y r (s + S2 (y.drop i)) [] 0) res → Ev (fun k => psalteryref07_Shape.l0 k y r s (i : Int)) res
  | 0, i, s, e, hs, hs1, hr => by
    rw [drop_end (by omega), S2, Int.add_zero] at hr
    exact Ev.step (fun k => by rw [psalteryref07_Shape.l0, if_neg (by omega)]) hr
  | d + 1, i, s, e, hs, hs1, hr => by
    have hi : i < y.length := by omega
    have hl := h.2.1
    have hp := szs_el h.2.2 _ (List.getElem_mem hi)
    have hq := sq_in hp.1 hp.2
    have hm : sz y[i] = mag y[i] := sz_mag hp
    have hm0 : 0 ≤ mag y[i] ∧ mag y[i] ≤ 12 := by unfold mag; split <;> omega
    have hz : Ev (fun k => psalteryref06_Size.f k y[i]) (mag y[i]) := ⟨20, fun k hk => by rw [← hm]; exact refSize_f _ hk⟩
    refine Ev.step (f := fun k => (psalteryref06_Size.f k y[i]).bind fun t261 => (psalteryref07_Shape.l0 k y r (IntKind.u64.wrap (s + (IntKind.u64.wrap ((IntKind.u64.wrap (t261)) * (IntKind.u64.wrap (t261)))))) (wrap64 ((i : Int) + 1)))) (fun k => ?_) (Ev.bind hz ?_)
    · rw [psalteryref07_Shape.l0, if_pos (by omega), if_pos (by omega), rd_at hi]
    · rw [u64 (x := mag y[i]) (by omega) (by omega), mag_sq, u64 (x := y[i] * y[i]) (by omega) (by omega), u64 (x := s + y[i] * y[i]) (by omega) (by omega), w_succ hi (by omega)]
      refine rshape_l0 h d (i + 1) (s + y[i] * y[i]) (by omega) (by omega) (by omega) ?_
      rw [drop_at hi, S2, ← Int.add_assoc] at hr; exact hr
theorem rdn_zero {N : Int} (h : 1 ≤ N) : rdn 0 N = 0 := by unfold rdn; rw [if_neg (by simp; omega)]; simp
theorem rshape_l1 {y : List Int} {r N : Int} (h : Pv y) (hr : 0 ≤ r) (hr1 : r ≤ 4194304) (hN : 1 ≤ N) (hN1 : N < 4294967296) (h0 : 0 < S2 y) (hq : Ev (fun k => psalteryref03_Sqrt.f k (S2 y * 65536)) N) : ∀ (d i : Nat) (o : List Int), i + d = y.length → o.length = i →
    Ev (fun k => psalteryref07_Shape.l1 k y r (S2 y) o (i : Int)) (o ++ (y.drop i).map (fun p => dv (p * r * 256) N))
  | 0, i, o, e, ho => Ev.step (f := fun _ => some _) (fun k => by rw [psalteryref07_Shape.l1, if_neg (by omega), drop_end (by omega), List.map_nil, List.append_nil]) (Ev.now _)
  | d + 1, i, o, e, ho => by
    have hi : i < y.length := by omega
    have hl := h.2.1
    have hs2 := S2_pv h
    have hp := szs_el h.2.2 _ (List.getElem_mem hi)
    have hm : sz y[i] = mag y[i] := sz_mag hp
    have hm0 : 0 ≤ mag y[i] ∧ mag y[i] ≤ 12 := by unfold mag; split <;> omega
    have hb := prod_pr (p := mag y[i]) (r := r) (by omega) hr hr1
    have hb0 : 0 ≤ mag y[i] * r := Int.mul_nonneg hm0.1 hr
    have hz : Ev (fun k => psalteryref06_Size.f k y[i]) (mag y[i]) := ⟨20, fun k hk => by rw [← hm]; exact refSize_f _ hk⟩
    have ih := rshape_l1 h hr hr1 hN hN1 h0 hq d (i + 1) (o ++ [dv (y[i] * r * 256) N]) (by omega) (by simp [ho])
    have hd := rdiv_f (a := mag y[i] * r * 256) (b := N) (by omega) (by omega) hN (by omega)
    have he : dv (y[i] * r * 256) N = if y[i] < 0 then -(rdn (mag y[i] * r * 256) N) else rdn (mag y[i] * r * 256) N := by
      by_cases c : y[i] < 0
      · have hm2 : mag y[i] = -y[i] := by unfold mag; rw [if_pos c]
        have e2 : mag y[i] * r * 256 = -(y[i] * r * 256) := by rw [hm2]; grind
        rw [if_pos c, e2]; unfold dv
        by_cases c2 : y[i] * r * 256 < 0
        · rw [if_pos c2]
        · rw [if_neg c2]
          have e3 : y[i] * r * 256 = 0 := by omega
          rw [e3, Int.neg_zero, rdn_zero hN]; rfl
      · have hm2 : mag y[i] = y[i] := by unfold mag; rw [if_neg c]
        rw [if_neg c, hm2]; unfold dv
        rw [hm2] at hb0
        rw [if_neg (by omega)]
    have hr' : 0 ≤ rdn (mag y[i] * r * 256) N ∧ rdn (mag y[i] * r * 256) N ≤ 1152921504606846976 := by
      have q0 : 0 ≤ mag y[i] * r * 256 / N := Int.ediv_nonneg (by omega) (by omega)
      have q1 : mag y[i] * r * 256 / N ≤ mag y[i] * r * 256 := Int.ediv_le_self _ (by omega)
      unfold rdn; split <;> omega
    rw [drop_at hi, List.map_cons]
    rw [List.append_assoc] at ih
    refine Ev.step (f := fun k => (psalteryref06_Size.f k y[i]).bind fun t263 => ((psalteryref03_Sqrt.f k (IntKind.u64.wrap (S2 y * 65536))).bind fun t264 => ((psalteryref03_Div.f k (wrap64 ((wrap64 (t263 * r)) * 256)) (wrap64 (t264))).bind fun t265 => (if y[i] < 0 then (if o.length < 17592186044416 then (psalteryref07_Shape.l1 k y r (S2 y) (o ++ [wrap64 (-t265)]) (wrap64 ((i : Int) + 1))) else (none)) else (if o.length < 17592186044416 then (psalteryref07_Shape.l1 k y r (S2 y) (o ++ [t265]) (wrap64 ((i : Int) + 1))) else (none)))))) (fun k => ?_) (Ev.bind hz ?_)
    · rw [psalteryref07_Shape.l1, if_pos (by omega), if_pos (by omega), if_pos (by omega), rd_at hi]
    · rw [u64 (x := S2 y * 65536) (by omega) (by omega), w64 (x := mag y[i] * r) (by omega) (by omega), w64 (x := mag y[i] * r * 256) (by omega) (by omega)]
      refine Ev.bind hq ?_
      rw [w64 (x := N) (by omega) (by omega)]
      refine Ev.bind hd ?_
      refine Ev.congr (fun k => ?_) ih
      rw [he, w_succ hi (by omega)]
      by_cases c : y[i] < 0
      · rw [if_pos c, if_pos c, if_pos (by omega), w64 (by omega) (by omega)]
      · rw [if_neg c, if_neg c, if_pos (by omega)]
theorem shape_some {y : List Int} {r : Int} (h : Pv y) (hr : 0 ≤ r) (hr1 : r ≤ 4194304) (h0 : 0 < S2 y) : ∃ N, 256 ≤ N ∧ N < 4294967296 ∧ N * N ≤ 65536 * S2 y ∧ 65536 * S2 y < (N + 1) * (N + 1) ∧
    Ev (fun k => pvq_Shape.f k y r) (y.map (fun p => dv (p * r * 256) N), 0) ∧ Ev (fun k => psalteryref07_Shape.f k y r) (y.map (fun p => dv (p * r * 256) N)) := by
  obtain ⟨i, hi⟩ := index_ok h
  have hs := S2_pv h
  obtain ⟨N, n0, n1, n2, n3, n4, n5⟩ := root_ex (n := S2 y * 65536) (by omega) (by omega)
  have hN : 256 ≤ N := by
    apply Int.not_lt.1; intro hlt
    have := mul_mono (a := N + 1) (c := N + 1) (b := 256) (d := 256) (by omega) (by omega) (by omega) (by omega)
    omega
  refine ⟨N, hN, n1, by omega, by omega, ?_, ?_⟩
  · refine Ev.bind hi ?_
    refine Ev.congr (f := fun k => pvq_Shape.j0 k y r false) (fun k => by rw [if_pos rfl, if_neg (by omega), decide_eq_false (by omega)]) ?_
    refine Ev.step (f := fun k => pvq_Shape.l0 k y r 0 y (y.length : Int) ((0 : Nat) : Int)) (fun k => by rw [pvq_Shape.j0, if_neg (by decide)]; rfl) ?_
    refine shape_l0 h y.length 0 0 (by omega) (by omega) (by omega) ?_
    rw [List.drop_zero, Int.zero_add]
    refine Ev.congr (fun k => by rw [if_neg (by omega)]) (Ev.bind n4 ?_)
    rw [w64 (x := N) (by omega) (by omega)]
    have := shape_l1 h hr hr1 (show 1 ≤ N by omega) n1 y.length 0 (List.replicate y.length 0) (by omega) (by simp)
    simpa using this
  · refine rshape_l0 h y.length 0 0 (by omega) (by omega) (by omega) ?_
    rw [List.drop_zero, Int.zero_add]
    have := rshape_l1 h hr hr1 (show 1 ≤ N by omega) n1 h0 n5 y.length 0 [] (by omega) rfl
    simpa using this
end Go.Proofs.Ytllgjhenbchkfaa.Pvq
