/- ToneSigns, over numbers and lists: a coefficient of a band with pulses comes back with its own sign, or as nought. -/
import Derived.Test.YtifkhfnmbiefaaaZToneSignsL1
import Derived.Test.YtifkhfnmbiefaaaZToneSignsPuToneSigns
namespace Go.Proofs.Ytifkhfnmbiefaaa.toneSigns
open Go Go.RowKit Go.Proofs.YtifkhfnmbiefaaaW.PrintWords Go.Proofs.Ytifkhfnmbiefaaa.Prt Go.Proofs.Ytifkhfnmbiefaaa.Com Go.Proofs.Ytifkhfnmbiefaaa.Pvq Go.Proofs.Ytifkhfnmbiefaaa.PvqN Go.Proofs.Ytifkhfnmbiefaaa.Ton
open Go.Proofs.Ytifkhfnmbiefaaa.Alo (W)
set_option linter.unusedVariables false
theorem dv_pos {a N : Int} (hN : 1 ≤ N) (ha : 0 ≤ a) : 0 ≤ dv a N := by
  unfold dv
  rw [if_neg (by omega)]
  exact (rdn_in ha hN).1
theorem dv_neg {a N : Int} (hN : 1 ≤ N) (ha : a ≤ 0) : dv a N ≤ 0 := by
  unfold dv
  by_cases h : a < 0
  · rw [if_pos h]
    have := (rdn_in (a := -a) (by omega) hN).1
    omega
  · obtain rfl : a = 0 := by omega
    rw [if_neg h, rdn_zero hN]
    exact Int.le_refl _
theorem clp_pos {v : Int} (h : 0 ≤ v) : 0 ≤ clp v := by unfold clp; split <;> (try split) <;> omega
theorem clp_neg {v : Int} (h : v ≤ 0) : clp v ≤ 0 := by unfold clp; split <;> (try split) <;> omega
theorem sgn_ok {x P z ah : List Int} {g : Int} (hP : P.length = x.length) (h0 : ∀ v ∈ P, 0 ≤ v) (g0 : 0 ≤ g) (g1 : g ≤ 44) (N : Nx (sg x P) g ah z) (hs : 0 < szs (sg x P)) {j : Nat} (hj : j < x.length) : (0 < rd x (j : Int) → 0 ≤ rd z (j : Int)) ∧ (rd x (j : Int) < 0 → rd z (j : Int) ≤ 0) := by
  obtain ⟨n, n1, n2, n3, n4, e⟩ := N.loud hs
  have hv := vl_in g0 g1
  have hl : (sg x P).length = x.length := sg_len hP
  have hp : 0 ≤ P[j] := h0 _ (List.getElem_mem (by omega))
  have ez : rd z (j : Int) = clp (dv ((if x[j] < 0 then -P[j] else P[j]) * Vl g.toNat * 256) n) := by
    rw [rd_at (by rw [N.len]; omega)]
    simp only [e, List.getElem_map]
    simp only [sg, List.getElem_zipWith]
  rw [ez, rd_at hj]
  have h1 : 0 ≤ P[j] * Vl g.toNat := Int.mul_nonneg hp hv.1
  constructor
  · intro h
    rw [if_neg (by omega)]
    exact clp_pos (dv_pos (by omega) (by omega))
  · intro h
    rw [if_pos h]
    have h2 : -P[j] * Vl g.toNat = -(P[j] * Vl g.toNat) := Int.neg_mul _ _
    exact clp_neg (dv_neg (by omega) (by omega))
theorem l2_ok {b : Int} {i n : Nat} {x z : List Int} (hx : x.length ≤ 1000) (hz : z.length = x.length) (hs : ∀ j : Nat, j < x.length → (0 < rd x (j : Int) → 0 ≤ rd z (j : Int)) ∧ (rd x (j : Int) < 0 → rd z (j : Int) ≤ 0)) {L G : List (List Int)} {I : Bool} {Y : List (List (List Int))} {Fs : List (List Int)} {r : Bool}
    (hr : Ev (fun k => psalterylaw23_ToneSigns.l1 k b (i : Int) (wrap64 ((n : Int) + 1)) L I G Y Fs) r) : ∀ (d j : Nat), j + d = x.length → Ev (fun k => psalterylaw23_ToneSigns.l2 k b (i : Int) (n : Int) x z (j : Int) L I G Y Fs) r
  | 0, j, e => Ev.step (fun k => by rw [psalterylaw23_ToneSigns.l2, if_neg (by omega)]) hr
  | d + 1, j, e => by
    have hj : j < x.length := by omega
    have h := hs j hj
    have ih := l2_ok hx hz hs hr d (j + 1) (by omega)
    refine Ev.step (fun k => ?_) ih
    rw [psalterylaw23_ToneSigns.l2, if_pos (by omega), if_pos (by omega), w_succ hj (by omega)]
    by_cases c1 : rd x (j : Int) > 0
    · rw [if_pos c1, if_pos (by omega), if_neg (by omega), if_neg (by omega)]
    · rw [if_neg c1]
      by_cases c2 : rd x (j : Int) < 0
      · rw [if_pos c2, if_pos (by omega), if_neg (by omega)]
      · rw [if_neg c2]
theorem l1_ok {b : Int} {L G : List (List Int)} {I : Bool} {Y : List (List (List Int))} {Fs : List (List Int)} (P : Pck G Y) {i : Nat} (hi : i < Y.length) (hL : L.length = Y.length) (hF : Fs.length = Y.length) (hx : (rd_L1 L (i : Int)).length = 16) (hD : (rd_L1 Fs (i : Int)).length = 16)
    (hs : ∀ n : Nat, n < 5 → 0 < szs (rd_L2 (rd_L4 Y (i : Int)) (n : Int)) → ∀ j : Nat, j < (Bd (rd_L1 L (i : Int)) n).length → (0 < rd (Bd (rd_L1 L (i : Int)) n) (j : Int) → 0 ≤ rd (Bd (rd_L1 Fs (i : Int)) n) (j : Int)) ∧ (rd (Bd (rd_L1 L (i : Int)) n) (j : Int) < 0 → rd (Bd (rd_L1 Fs (i : Int)) n) (j : Int) ≤ 0)) {r : Bool}
    (hr : Ev (fun k => psalterylaw23_ToneSigns.l0 k b (wrap64 ((i : Int) + 1)) L I G Y Fs) r) : ∀ (d n : Nat), n + d = 5 → Ev (fun k => psalterylaw23_ToneSigns.l1 k b (i : Int) (n : Int) L I G Y Fs) r
  | 0, n, e => Ev.step (fun k => by rw [psalterylaw23_ToneSigns.l1, if_neg (by omega)]) hr
  | d + 1, n, e => by
    have hn : n < 5 := by omega
    have hw := Alo.W_in hn
    have ih := l1_ok (b := b) (I := I) P hi hL hF hx hD hs hr d (n + 1) (by omega)
    have hrow := P.row i hi
    obtain ⟨hy, hyl⟩ := P.y i n hi hn
    have hLi : (i : Int) < (L.length : Int) := by omega
    have hFi : (i : Int) < (Fs.length : Int) := by omega
    have b1 := Bd_len hx hn
    have b2 := Bd_len hD hn
    refine Ev.step (f := fun k => (psalteryref06_Pulses.f k (rd_L2 (rd_L4 Y (i : Int)) (n : Int))).bind fun u => if u = 0 then psalterylaw23_ToneSigns.l1 k b (i : Int) (wrap64 ((n : Int) + 1)) L I G Y Fs else (psalteryref10_Band.f k (rd_L1 L (i : Int)) (n : Int)).bind fun t => (psalteryref10_Band.f k (rd_L1 Fs (i : Int)) (n : Int)).bind fun z => psalterylaw23_ToneSigns.l2 k b (i : Int) (n : Int) t z 0 L I G Y Fs) (fun k => ?_) (Ev.bind (rpulses_e (by omega)) ?_)
    · rw [psalterylaw23_ToneSigns.l1, if_pos (by omega), if_pos (by omega), if_pos (by omega), if_pos (by omega), if_pos (by omega)]
      simp only [if_pos hLi, if_pos hFi]
    · have e1 : wrap64 ((n : Int) + 1) = ((n + 1 : Nat) : Int) := w_succ (n := 5) hn (by omega)
      by_cases h0 : szs (rd_L2 (rd_L4 Y (i : Int)) (n : Int)) = 0
      · exact Ev.congr (fun k => by rw [if_pos h0, e1]) ih
      · have hp := szs_in (rd_L2 (rd_L4 Y (i : Int)) (n : Int))
        refine Ev.congr (fun k => by rw [if_neg h0]) (Ev.bind (rband_ok hx hn) (Ev.bind (rband_ok hD hn) ?_))
        exact l2_ok (by omega) (by omega) (hs n hn (by omega)) (Ev.congr (fun k => by rw [e1]) ih) (Bd (rd_L1 L (i : Int)) n).length 0 (by omega)
theorem l0_ok {L G : List (List Int)} {I : Bool} {Y : List (List (List Int))} {Fs : List (List Int)} (P : Pck G Y) (hL : L.length = Y.length) (hF : Fs.length = Y.length) (hx : ∀ i : Nat, i < Y.length → (rd_L1 L (i : Int)).length = 16) (hD : ∀ i : Nat, i < Y.length → (rd_L1 Fs (i : Int)).length = 16)
    (hs : ∀ i : Nat, i < Y.length → ∀ n : Nat, n < 5 → 0 < szs (rd_L2 (rd_L4 Y (i : Int)) (n : Int)) → ∀ j : Nat, j < (Bd (rd_L1 L (i : Int)) n).length → (0 < rd (Bd (rd_L1 L (i : Int)) n) (j : Int) → 0 ≤ rd (Bd (rd_L1 Fs (i : Int)) n) (j : Int)) ∧ (rd (Bd (rd_L1 L (i : Int)) n) (j : Int) < 0 → rd (Bd (rd_L1 Fs (i : Int)) n) (j : Int) ≤ 0)) : ∀ (d i : Nat), i + d = Y.length → Ev (fun k => psalterylaw23_ToneSigns.l0 k (Y.length : Int) (i : Int) L I G Y Fs) true
  | 0, i, e => Ev.step (fun k => by rw [psalterylaw23_ToneSigns.l0, if_neg (by omega)]) knows_j
  | d + 1, i, e => by
    have hi : i < Y.length := by omega
    have hn := P.n
    have ih := l0_ok (I := I) P hL hF hx hD hs d (i + 1) (by omega)
    have h16 := hD i hi
    have hrow := P.row i hi
    refine Ev.step (f := fun k => psalterylaw23_ToneSigns.j2 k (Y.length : Int) (i : Int) false L I G Y Fs) (fun k => ?_) (Ev.step (fun k => by rw [psalterylaw23_ToneSigns.j2, if_neg (by decide)]; rfl) (l1_ok (b := (Y.length : Int)) (I := I) P hi hL hF (hx i hi) (hD i hi) (hs i hi) (Ev.congr (fun k => by rw [w_succ hi (by omega)]) ih) 5 0 (by omega)))
    rw [psalterylaw23_ToneSigns.l0, if_pos (by omega), if_pos (by omega), if_pos (by omega), if_pos (by omega), if_pos (by omega), show (((rd_L4 Y (i : Int)).length : Int) != 5) = false by simp; omega]
theorem pure : Pu := by
  intro a b l ha hb hl
  apply Ev.rounds
  obtain ⟨K, C⟩ := exCst
  obtain ⟨V, D⟩ := exCnt
  have hm : maxLen ≤ 9223372036854775807 := by decide
  obtain ⟨v, g1, g2⟩ := great_f (l := l) (Nat.le_trans hl.1 hm)
  refine Ev.bind g1 ?_
  cases v with
  | true => exact Ev.congr (fun k => by rw [if_pos rfl]) knows_j
  | false =>
    obtain ⟨h1, h2⟩ := g2 rfl
    refine Ev.congr (fun k => by rw [if_neg (by decide)]) ?_
    by_cases h : Rt a b l
    · obtain ⟨out, o⟩ := out_ex C h
      have hn := h.n
      have hb := h.2.1
      have P := pck_of (good_enc h o)
      obtain ⟨Fs, E⟩ := dec_ex (a := a) (b := b) (I := true) P ⟨7010, right_enc C D h o true⟩
      have eF := E.n
      have eY := Ys_len l out l.length
      have eG := Gs_len l l.length
      refine Ev.bind (enc_ok h o true) (Ev.congr (fun k => by rw [if_pos rfl]) (Ev.bind E.p (Ev.congr (f := fun k => psalterylaw23_ToneSigns.j0 k b false l true (Gs l l.length) (Ys l out l.length) Fs) (fun k => ?_) (Ev.step (f := fun k => psalterylaw23_ToneSigns.l0 k b 0 l true (Gs l l.length) (Ys l out l.length) Fs) (fun k => by rw [psalterylaw23_ToneSigns.j0, if_neg (show ¬ (false = true) by decide)]) ?_))))
      · dsimp only
        rw [if_pos rfl, if_pos (by omega), show (((Ys l out l.length).length : Int) != b) = false by simp; omega]
      · have hsg : ∀ i : Nat, i < (Ys l out l.length).length → ∀ n : Nat, n < 5 → 0 < szs (rd_L2 (rd_L4 (Ys l out l.length) (i : Int)) (n : Int)) → ∀ j : Nat, j < (Bd (rd_L1 l (i : Int)) n).length → (0 < rd (Bd (rd_L1 l (i : Int)) n) (j : Int) → 0 ≤ rd (Bd (rd_L1 Fs (i : Int)) n) (j : Int)) ∧ (rd (Bd (rd_L1 l (i : Int)) n) (j : Int) < 0 → rd (Bd (rd_L1 Fs (i : Int)) n) (j : Int) ≤ 0) := fun i hi n hn5 hz j hj => by
          have hi' : i < l.length := by omega
          obtain ⟨ah, N⟩ := (E.d i hi).bd n hn5
          have hg := (P.gr i (by omega)).2 n hn5
          rw [Ys_rd l out hi', Yr_rd l out hn5] at N hz
          have hk := o.k hi' hn5
          have hf := Bd_fr (h.f hi') hn5
          exact sgn_ok (Ps_len hf _) (fun v hv => (Ps_in hf (by omega) v hv).1) hg.1 hg.2 N hz hj
        have := l0_ok (I := true) P (L := l) (by omega) eF (fun i hi => (h.f (by omega)).1) (fun i hi => (E.d i hi).len) hsg (Ys l out l.length).length 0 (by omega)
        rw [show ((Ys l out l.length).length : Int) = b by omega] at this
        exact this
    · have r1 := rright_e a b h1 h2
      rw [decide_eq_false h] at r1
      refine Ev.bind (enc_bad h1 h2 h true) (Ev.congr (fun k => by rw [if_neg (by decide)]) (Ev.bind r1 ?_))
      exact Ev.congr (fun k => by rw [if_neg (by decide)]) knows_j
end Go.Proofs.Ytifkhfnmbiefaaa.toneSigns
