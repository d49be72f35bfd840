/- ToneSilent, over numbers and lists: a band that is silent is noughts again; so is a silent frame. -/
import Derived.Test.YtifkhfnmbiefaaaZToneSilentL1
import Derived.Test.YtifkhfnmbiefaaaZToneSilentPuToneSilent
namespace Go.Proofs.Ytifkhfnmbiefaaa.toneSilent
open Go Go.RowKit Go.Proofs.YtifkhfnmbiefaaaW.PrintWords Go.Proofs.Ytifkhfnmbiefaaa.Prt Go.Proofs.Ytifkhfnmbiefaaa.Com Go.Proofs.Ytifkhfnmbiefaaa.Pvq Go.Proofs.Ytifkhfnmbiefaaa.PvqN Go.Proofs.Ytifkhfnmbiefaaa.Ton
open Go.Proofs.Ytifkhfnmbiefaaa.Alo (W)
theorem gn_rep (n : Nat) : Gn (List.replicate n 0) = 0 := by
  unfold Gn
  rw [S2_zero]
  rfl
theorem l1_ok {b : Int} {l Fs : List (List Int)} {i : Nat} (hi : i < l.length) (hif : i < Fs.length) (hx : F16 (rd_L1 l (i : Int))) (hy : F16 (rd_L1 Fs (i : Int))) (hz : ∀ n : Nat, n < 5 → Gn (Bd (rd_L1 l (i : Int)) n) = 0 → Gn (Bd (rd_L1 Fs (i : Int)) n) = 0) {r : Bool}
    (hr : Ev (fun k => psalterylaw23_ToneSilent.l0 k b (wrap64 ((i : Int) + 1)) l Fs) r) : ∀ (d n : Nat), n + d = 5 → Ev (fun k => psalterylaw23_ToneSilent.l1 k b (i : Int) (n : Int) l Fs) r
  | 0, n, e => Ev.step (fun k => by rw [psalterylaw23_ToneSilent.l1, if_neg (by omega)]) hr
  | d + 1, n, e => by
    have hn : n < 5 := by omega
    have hw := Alo.W_in hn
    have ih := l1_ok (b := b) hi hif hx hy hz hr d (n + 1) (by omega)
    refine Ev.step (f := fun k => (psalteryref10_Band.f k (rd_L1 l (i : Int)) (n : Int)).bind fun t => (psalteryref10_Band.f k (rd_L1 Fs (i : Int)) (n : Int)).bind fun u => (psalteryref10_Gain.f k t).bind fun v => if v = 0 then (psalteryref10_Gain.f k u).bind fun w => if w = 0 then psalterylaw23_ToneSilent.l1 k b (i : Int) (wrap64 ((n : Int) + 1)) l Fs else none else psalterylaw23_ToneSilent.l1 k b (i : Int) (wrap64 ((n : Int) + 1)) l Fs) (fun k => ?_) ?_
    · rw [psalterylaw23_ToneSilent.l1, if_pos (by omega), if_pos (by omega), if_pos (by omega)]
      congr 1
      funext t
      rw [if_pos (by omega)]
    · refine Ev.bind (rband_ok hx.1 hn) (Ev.bind (rband_ok hy.1 hn) (Ev.bind (rgain_ok (Bd_fr hx hn) (by rw [Bd_len hx.1 hn]; omega)) ?_))
      rw [w_succ (n := 5) hn (by omega)]
      by_cases h0 : Gn (Bd (rd_L1 l (i : Int)) n) = 0
      · refine Ev.congr (fun k => by rw [if_pos (by omega)]) (Ev.bind (rgain_ok (Bd_fr hy hn) (by rw [Bd_len hy.1 hn]; omega)) (Ev.congr (fun k => ?_) ih))
        rw [if_pos (by have := hz n hn h0; omega)]
      · exact Ev.congr (fun k => by rw [if_neg (by omega)]) ih
theorem l0_ok {l Fs : List (List Int)} (hl : l.length ≤ 2) (hF : Fs.length = l.length) (hx : ∀ i : Nat, i < l.length → F16 (rd_L1 l (i : Int))) (hy : ∀ i : Nat, i < l.length → F16 (rd_L1 Fs (i : Int))) (hz : ∀ i : Nat, i < l.length → ∀ n : Nat, n < 5 → Gn (Bd (rd_L1 l (i : Int)) n) = 0 → Gn (Bd (rd_L1 Fs (i : Int)) n) = 0) : ∀ (d i : Nat), i + d = l.length → Ev (fun k => psalterylaw23_ToneSilent.l0 k (l.length : Int) (i : Int) l Fs) true
  | 0, i, e => Ev.step (fun k => by rw [psalterylaw23_ToneSilent.l0, if_neg (by omega)]) knows_j
  | d + 1, i, e => by
    have hi : i < l.length := by omega
    have ih := l0_ok hl hF hx hy hz d (i + 1) (by omega)
    have h16 := (hy i hi).1
    refine Ev.step (fun k => ?_) (l1_ok (b := (l.length : Int)) hi (by omega) (hx i hi) (hy i hi) (hz i hi) (Ev.congr (fun k => by rw [w_succ hi (by omega)]) ih) 5 0 (by omega))
    rw [psalterylaw23_ToneSilent.l0, if_pos (by omega), if_pos (by omega), if_pos (by omega), if_pos (by omega)]
    rfl
theorem pure : Pu := by
  intro a b l ha hb hl
  apply Ev.rounds
  obtain ⟨K, C⟩ := exCst
  obtain ⟨V, D⟩ := exCnt
  have hm : maxLen ≤ 9223372036854775807 := by decide
  obtain ⟨v, g1, g2⟩ := great_f (l := l) (Nat.le_trans hl.1 hm)
  refine Ev.bind g1 ?_
  cases v with
  | true => exact Ev.congr (fun k => by rw [if_pos rfl]) knows_j
  | false =>
    obtain ⟨h1, h2⟩ := g2 rfl
    refine Ev.congr (fun k => by rw [if_neg (by decide)]) ?_
    by_cases h : Rt a b l
    · obtain ⟨out, o⟩ := out_ex C h
      have hn := h.n
      have hb := h.2.1
      have P := pck_of (good_enc h o)
      obtain ⟨Fs, E⟩ := dec_ex (a := a) (b := b) (I := false) P ⟨7010, right_enc C D h o false⟩
      have eF := E.n
      rw [Ys_len] at eF
      have hd := E.d
      rw [Ys_len] at hd
      have hy : ∀ i : Nat, i < l.length → F16 (rd_L1 Fs (i : Int)) := fun i hi => by
        have := hd i hi
        exact ⟨this.len, by rw [this.len]; omega, by rw [this.len]; omega, this.inn⟩
      refine Ev.bind (enc_ok h o false) (Ev.congr (fun k => by rw [if_pos rfl]) (Ev.bind E.p (Ev.congr (fun k => by rw [if_pos rfl, show ((Fs.length : Int) != b) = false by simp; omega]) (Ev.step (fun k => by rw [psalterylaw23_ToneSilent.j0, if_neg (by decide), ← hb]) ?_))))
      refine l0_ok hn (by omega) (fun i hi => h.f hi) hy (fun i hi n hn5 h0 => ?_) l.length 0 (by omega)
      obtain ⟨ah, N⟩ := (hd i hi).bd n hn5
      rw [Ys_rd l out hi, Yr_rd l out hn5, Gs_rd l hi, gns_rd _ hn5, h0] at N
      have hs := (o.c i hi).still n hn5 (by rw [gns_rd _ hn5, h0]; rfl)
      rw [Alo.Z5_rd hn5] at hs
      have hk := Pk_szs h o hi hn5
      rw [N.zero (by omega) rfl]
      exact gn_rep _
    · have r1 := rright_e a b h1 h2
      rw [decide_eq_false h] at r1
      refine Ev.bind (enc_bad h1 h2 h false) (Ev.congr (fun k => by rw [if_neg (by decide)]) (Ev.bind r1 ?_))
      exact Ev.congr (fun k => by rw [if_neg (by decide)]) knows_j
end Go.Proofs.Ytifkhfnmbiefaaa.toneSilent
