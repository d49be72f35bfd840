/- ToneNorms, over numbers and lists: the norm of a band with pulses differs from its gain's value by not more than its 255th part and 3, as long as none of its coefficients is cut off. -/
import Derived.Test.YtifkhfnmbiefaaaZToneNormsL1
import Derived.Test.YtifkhfnmbiefaaaZToneNormsPuToneNorms
namespace Go.Proofs.Ytifkhfnmbiefaaa.toneNorms
open Go Go.RowKit Go.Proofs.YtifkhfnmbiefaaaW.PrintWords Go.Proofs.Ytifkhfnmbiefaaa.Prt Go.Proofs.Ytifkhfnmbiefaaa.Com Go.Proofs.Ytifkhfnmbiefaaa.Pvq Go.Proofs.Ytifkhfnmbiefaaa.PvqN Go.Proofs.Ytifkhfnmbiefaaa.Ton
open Go.Proofs.Ytifkhfnmbiefaaa.Alo (W)
set_option linter.unusedVariables false
theorem rdn_near {a N : Int} (hN : 1 ≤ N) : -N ≤ 2 * (N * rdn a N - a) ∧ 2 * (N * rdn a N - a) ≤ N := by
  have r0 := Int.emod_nonneg a (show N ≠ 0 by omega)
  have r1 := Int.emod_lt_of_pos a (show 0 < N by omega)
  have e := Int.emod_add_mul_ediv a N
  unfold rdn
  generalize a % N = c at *
  generalize hq : a / N = q at *
  by_cases h : c ≥ N - c
  · rw [if_pos h]
    have e2 : N * (q + 1) = N * q + N := by grind
    omega
  · rw [if_neg h]; omega
theorem dv_near {a N : Int} (hN : 1 ≤ N) : -N ≤ 2 * (N * dv a N - a) ∧ 2 * (N * dv a N - a) ≤ N := by
  unfold dv
  by_cases h : a < 0
  · rw [if_pos h]
    have := rdn_near (a := -a) hN
    have e : N * -(rdn (-a) N) = -(N * rdn (-a) N) := by grind
    omega
  · rw [if_neg h]; exact rdn_near hN
theorem near {r N : Int} (hN : 1 ≤ N) : ∀ y : List Int, Near r N y (y.map (fun p => dv (p * r * 256) N))
  | [] => trivial
  | p :: y => by
    simp only [List.map_cons, Near]
    have := dv_near (a := p * r * 256) hN
    have e : p * r * 256 = 256 * r * p := by grind
    rw [e] at this
    rw [e]
    exact ⟨this, near hN y⟩
/-- Is a coefficient cut off? -/
def Ct (z : List Int) : Prop := ∃ v ∈ z, v = 1048576 ∨ v = -1048576
theorem cut_l0 {z : List Int} (hz : z.length ≤ 1000) : ∀ (d i : Nat), i + d = z.length → ∃ v, Ev (fun k => psalterylaw23_cut.l0 k z (i : Int)) v ∧ (v = false → ∀ x ∈ z.drop i, x ≠ 1048576 ∧ x ≠ -1048576)
  | 0, i, e => ⟨false, Ev.step (fun k => by rw [psalterylaw23_cut.l0, if_neg (by omega)]) (Ev.now _), fun _ => by rw [dropE (by omega)]; simp⟩
  | d + 1, i, e => by
    have hi : i < z.length := by omega
    obtain ⟨v, h1, h2⟩ := cut_l0 hz d (i + 1) (by omega)
    by_cases c1 : z[i] = 1048576
    · exact ⟨true, Ev.step (fun k => by rw [psalterylaw23_cut.l0, if_pos (by omega), if_pos (by omega), rd_at hi, if_pos c1]) (Ev.now _), fun h => by cases h⟩
    · by_cases c2 : z[i] = -1048576
      · exact ⟨true, Ev.step (fun k => by rw [psalterylaw23_cut.l0, if_pos (by omega), if_pos (by omega), rd_at hi, if_neg c1, if_pos c2]) (Ev.now _), fun h => by cases h⟩
      · refine ⟨v, Ev.step (fun k => ?_) h1, fun h => ?_⟩
        · rw [psalterylaw23_cut.l0, if_pos (by omega), if_pos (by omega), rd_at hi, if_neg c1, if_neg c2, w_succ hi (by omega)]
        · rw [dropA hi]
          exact List.forall_mem_cons.2 ⟨⟨c1, c2⟩, h2 h⟩
theorem clp_same : ∀ {x : List Int}, (∀ v ∈ x.map clp, v ≠ 1048576 ∧ v ≠ -1048576) → x.map clp = x
  | [], _ => rfl
  | v :: x, h => by
    rw [List.map_cons] at h ⊢
    obtain ⟨h1, h2⟩ := List.forall_mem_cons.1 h
    rw [clp_same h2]
    congr 1
    unfold clp at h1 ⊢
    split <;> (try split) <;> simp_all
theorem band_ok {l : List (List Int)} {y z ah : List Int} {g : Int} (hy : Pv y) (g0 : 0 ≤ g) (g1 : g ≤ 44) (hs : 0 < szs y) (N : Nx y g ah z) (hc : ∀ v ∈ z, v ≠ 1048576 ∧ v ≠ -1048576) {s : Int} (s0 : 0 ≤ s) (s1 : s * s ≤ S2 z) (s2 : S2 z < (s + 1) * (s + 1)) : s - Vl g.toNat ≤ Vl g.toNat / 255 + 3 ∧ Vl g.toNat - s ≤ Vl g.toNat / 255 + 3 := by
  obtain ⟨n, n1, n2, n3, n4, e⟩ := N.loud hs
  have hv := vl_in g0 g1
  rw [e] at hc s1 s2
  rw [clp_same hc] at s1 s2
  exact norm hv.1 n1 hy.2.1 (near (by omega) y) n3 n4 s0 s1 s2
theorem l1_ok {b : Int} {I : Bool} {G : List (List Int)} {Y : List (List (List Int))} {Fs : List (List Int)} (P : Pck G Y) {i : Nat} (hi : i < Y.length) (hF : Fs.length = Y.length) (hD : Dn (rd_L2 G (i : Int)) (rd_L4 Y (i : Int)) (rd_L1 Fs (i : Int))) {r : Bool}
    (hr : Ev (fun k => psalterylaw23_ToneNorms.l0 k b (wrap64 ((i : Int) + 1)) I G Y Fs) r) : ∀ (d n : Nat), n + d = 5 → Ev (fun k => psalterylaw23_ToneNorms.l1 k b (i : Int) (n : Int) I G Y Fs) r
  | 0, n, e => Ev.step (fun k => by rw [psalterylaw23_ToneNorms.l1, if_neg (by omega)]) hr
  | d + 1, n, e => by
    have hn : n < 5 := by omega
    have hw := Alo.W_in hn
    have ih := l1_ok (b := b) (I := I) P hi hF hD hr d (n + 1) (by omega)
    have hrow := P.row i hi
    have hG := P.g
    obtain ⟨hy, hyl⟩ := P.y i n hi hn
    have hg := (P.gr i hi).2 n hn
    have hgl := (P.gr i hi).1
    obtain ⟨ah, N⟩ := hD.bd n hn
    have hbl := Bd_len hD.len hn
    have hj : Ev (fun k => psalterylaw23_ToneNorms.j4 k b (i : Int) (n : Int) (Bd (rd_L1 Fs (i : Int)) n) true I G Y Fs) r := Ev.step (fun k => by rw [psalterylaw23_ToneNorms.j4, if_pos rfl, w_succ (n := 5) hn (by omega)]) ih
    refine Ev.step (f := fun k => (psalteryref10_Band.f k (rd_L1 Fs (i : Int)) (n : Int)).bind fun t => (psalteryref06_Pulses.f k (rd_L2 (rd_L4 Y (i : Int)) (n : Int))).bind fun u => if u = 0 then psalterylaw23_ToneNorms.j4 k b (i : Int) (n : Int) t true I G Y Fs else (psalterylaw23_cut.f k t).bind fun c => psalterylaw23_ToneNorms.j4 k b (i : Int) (n : Int) t c I G Y Fs) (fun k => ?_) ?_
    · rw [psalterylaw23_ToneNorms.l1, if_pos (by omega), if_pos (by omega), if_pos (by omega)]
      congr 1
      funext t
      rw [if_pos (by omega), if_pos (by omega), if_pos (by omega)]
    · refine Ev.bind (rband_ok hD.len hn) (Ev.bind (rpulses_e (by omega)) ?_)
      by_cases h0 : szs (rd_L2 (rd_L4 Y (i : Int)) (n : Int)) = 0
      · exact Ev.congr (fun k => by rw [if_pos h0]) hj
      · obtain ⟨v, c1, c2⟩ := cut_l0 (z := Bd (rd_L1 Fs (i : Int)) n) (by omega) (Bd (rd_L1 Fs (i : Int)) n).length 0 (by omega)
        have c1' : Ev (fun k => psalterylaw23_cut.f k (Bd (rd_L1 Fs (i : Int)) n)) v := Ev.congr (fun k => rfl) c1
        refine Ev.congr (fun k => by rw [if_neg h0]) (Ev.bind (a := v) c1' ?_)
        cases v with
        | true => exact hj
        | false =>
          have hf : Fr (Bd (rd_L1 Fs (i : Int)) n) := ⟨by omega, by omega, N.inn⟩
          have hS := S2_b8 hf (by omega)
          obtain ⟨s, s0, s1, s2, s3, _, s4⟩ := root_ex (n := S2 (Bd (rd_L1 Fs (i : Int)) n)) hS.1 (by omega)
          have hp := szs_in (rd_L2 (rd_L4 Y (i : Int)) (n : Int))
          have nm := band_ok (l := Fs) hy hg.1 hg.2 (by omega) N (c2 rfl) s0 s2 s3
          have hv := vl_in hg.1 hg.2
          generalize hV : Vl (rd (rd_L2 G (i : Int)) (n : Int)).toNat = V at nm hv
          have hval := rvalue_e hg.1 hg.2
          rw [hV] at hval
          refine Ev.step (f := fun k => (psalteryref10_Value.f k (rd (rd_L2 G (i : Int)) (n : Int))).bind fun t758 => ((psalteryref07_Square.f k (Bd (rd_L1 Fs (i : Int)) n)).bind fun t759 => ((psalteryref03_Sqrt.f k t759).bind fun t760 => (if (wrap64 ((wrap64 (t760)) - t758)) < 0 then (if (wrap64 (-(wrap64 ((wrap64 (t760)) - t758)))) > (wrap64 ((wrap64 (Int.tdiv t758 255)) + 3)) then (none) else (psalterylaw23_ToneNorms.l1 k b (i : Int) (wrap64 ((n : Int) + 1)) I G Y Fs)) else (if (wrap64 ((wrap64 (t760)) - t758)) > (wrap64 ((wrap64 (Int.tdiv t758 255)) + 3)) then (none) else (psalterylaw23_ToneNorms.l1 k b (i : Int) (wrap64 ((n : Int) + 1)) I G Y Fs)))))) (fun k => by rw [psalterylaw23_ToneNorms.j4, if_neg (by decide), if_pos (by omega), if_pos (by omega), if_pos (by omega), if_pos (by omega)]) ?_
          refine Ev.bind hval (Ev.bind (rsquare_f hf) (Ev.bind s4 (Ev.congr (fun k => ?_) ih)))
          rw [Int.tdiv_eq_ediv_of_nonneg hv.1, w64 (x := s) (by omega) (by omega), w64 (x := s - V) (by omega) (by omega), w64 (x := V / 255) (by omega) (by omega), w64 (x := V / 255 + 3) (by omega) (by omega), w64 (x := -(s - V)) (by omega) (by omega), w_succ (n := 5) hn (by omega)]
          by_cases c : s - V < 0
          · rw [if_pos c, if_neg (by omega)]
          · rw [if_neg c, if_neg (by omega)]
theorem l0_ok {I : Bool} {G : List (List Int)} {Y : List (List (List Int))} {Fs : List (List Int)} (P : Pck G Y) (hF : Fs.length = Y.length) (hD : ∀ i : Nat, i < Y.length → Dn (rd_L2 G (i : Int)) (rd_L4 Y (i : Int)) (rd_L1 Fs (i : Int))) : ∀ (d i : Nat), i + d = Y.length → Ev (fun k => psalterylaw23_ToneNorms.l0 k (Y.length : Int) (i : Int) I G Y Fs) true
  | 0, i, e => Ev.step (fun k => by rw [psalterylaw23_ToneNorms.l0, if_neg (by omega)]) knows_j
  | d + 1, i, e => by
    have hi : i < Y.length := by omega
    have hn := P.n
    have ih := l0_ok (I := I) P hF hD d (i + 1) (by omega)
    have h16 := (hD i hi).len
    have hrow := P.row i hi
    have hG := P.g
    have hgl := (P.gr i hi).1
    refine Ev.step (f := fun k => psalterylaw23_ToneNorms.j2 k (Y.length : Int) (i : Int) false I G Y Fs) (fun k => ?_) (Ev.step (fun k => by rw [psalterylaw23_ToneNorms.j2, if_neg (by decide)]; rfl) (l1_ok (b := (Y.length : Int)) (I := I) P hi hF (hD i hi) (Ev.congr (fun k => by rw [w_succ hi (by omega)]) ih) 5 0 (by omega)))
    rw [psalterylaw23_ToneNorms.l0, if_pos (by omega), if_pos (by omega), if_pos (by omega), if_pos (by omega), if_pos (by omega), if_pos (by omega), if_pos (by omega), show (((rd_L2 G (i : Int)).length : Int) != 5) = false by simp; omega]
theorem pure : Pu := by
  intro a b l ha hb hl
  apply Ev.rounds
  obtain ⟨K, C⟩ := exCst
  obtain ⟨V, D⟩ := exCnt
  have hm : maxLen ≤ 9223372036854775807 := by decide
  obtain ⟨v, g1, g2⟩ := great_f (l := l) (Nat.le_trans hl.1 hm)
  refine Ev.bind g1 ?_
  cases v with
  | true => exact Ev.congr (fun k => by rw [if_pos rfl]) knows_j
  | false =>
    obtain ⟨h1, h2⟩ := g2 rfl
    refine Ev.congr (fun k => by rw [if_neg (by decide)]) ?_
    by_cases h : Rt a b l
    · obtain ⟨out, o⟩ := out_ex C h
      have hn := h.n
      have hb := h.2.1
      have P := pck_of (good_enc h o)
      obtain ⟨Fs, E⟩ := dec_ex (a := a) (b := b) (I := true) P ⟨7010, right_enc C D h o true⟩
      have eF := E.n
      have eY := Ys_len l out l.length
      have eG := Gs_len l l.length
      refine Ev.bind (enc_ok h o true) (Ev.congr (fun k => by rw [if_pos rfl]) (Ev.bind E.p (Ev.congr (f := fun k => psalterylaw23_ToneNorms.j0 k b false true (Gs l l.length) (Ys l out l.length) Fs) (fun k => ?_) (Ev.step (f := fun k => psalterylaw23_ToneNorms.l0 k b 0 true (Gs l l.length) (Ys l out l.length) Fs) (fun k => by rw [psalterylaw23_ToneNorms.j0, if_neg (show ¬ (false = true) by decide)]) ?_))))
      · dsimp only
        rw [if_pos rfl, if_pos (by omega), if_pos (by omega), show (((Gs l l.length).length : Int) != b) = false by simp; omega]
      · have := l0_ok (I := true) P eF E.d (Ys l out l.length).length 0 (by omega)
        rw [show ((Ys l out l.length).length : Int) = b by omega] at this
        exact this
    · have r1 := rright_e a b h1 h2
      rw [decide_eq_false h] at r1
      refine Ev.bind (enc_bad h1 h2 h true) (Ev.congr (fun k => by rw [if_neg (by decide)]) (Ev.bind r1 ?_))
      exact Ev.congr (fun k => by rw [if_neg (by decide)]) knows_j
end Go.Proofs.Ytifkhfnmbiefaaa.toneNorms
