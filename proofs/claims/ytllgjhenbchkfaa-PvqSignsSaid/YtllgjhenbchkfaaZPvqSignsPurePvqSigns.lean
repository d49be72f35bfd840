/- PvqSigns, over lists: what is found has as many pulses as were asked for, none of which opposes its coefficient; with all signs turned the pulses' signs are turned. -/
import Derived.Test.YtllgjhenbchkfaaZPvqSignsPvqK
import Derived.Test.YtllgjhenbchkfaaZPvqSignsPuPvqSigns
namespace Go.Proofs.Ytllgjhenbchkfaa.pvqSigns
open Go Go.RowKit Go.Proofs.YtllgjhenbchkfaaW.PrintWords Go.Proofs.Ytllgjhenbchkfaa.Prt Go.Proofs.Ytllgjhenbchkfaa.Com Go.Proofs.Ytllgjhenbchkfaa.Pvq
set_option linter.unusedVariables false
def ng (x : List Int) : List Int := x.map (fun v => -v)
theorem ng_len (x : List Int) : (ng x).length = x.length := by simp [ng]
theorem ng_fr {x : List Int} (hf : Fr x) : Fr (ng x) := ⟨by rw [ng_len]; exact hf.1, by rw [ng_len]; exact hf.2.1, fun v hv => by
  obtain ⟨u, hu, rfl⟩ := List.mem_map.1 hv
  have := hf.2.2 u hu
  unfold In at this ⊢; omega⟩
theorem mag_ng (v : Int) : mag (-v) = mag v := by unfold mag; split <;> split <;> omega
theorem all_ng {c : Int} {x : List Int} : All c (ng x) ↔ All c x := by
  unfold All ng; simp [mag_ng]
theorem As_ng (x : List Int) : As (ng x) = As x := by
  have h : hal (ng x) = hal x := by unfold hal; simp only [all_ng]
  unfold As; rw [h]; unfold ng; rw [List.map_map]; apply List.map_congr_left; intro v _; simp only [Function.comp_apply, mag_ng]
theorem Ps_ng (x : List Int) (K : Nat) : Ps (ng x) K = Ps x K := by unfold Ps; rw [As_ng, ng_len]
theorem szs_sg : ∀ {x y : List Int}, y.length = x.length → (∀ v ∈ y, 0 ≤ v ∧ v ≤ 12) → szs (sg x y) = sm y
  | [], [], _, _ => rfl
  | [], _ :: _, h, _ => by simp at h
  | _ :: _, [], h, _ => by simp at h
  | v :: x, p :: y, h, hy => by
    have ih := szs_sg (x := x) (y := y) (by simpa using h) (fun u hu => hy u (List.mem_cons_of_mem _ hu))
    have hp := hy p List.mem_cons_self
    have e : sz (if v < 0 then -p else p) = p := by
      unfold sz; split <;> split <;> (try split) <;> omega
    simp only [sg, List.zipWith_cons_cons, szs, sm] at ih ⊢
    rw [ih, e]
theorem back_l0 {x : List Int} {K : Int} {y : List Int} (hx : ∀ v ∈ x, In v) (hl : x.length ≤ 16) {r : Bool} : ∀ (d i : Nat) (o : List Int), i + d = x.length → o.length = i →
    Ev (fun k => psalterylaw07_PvqSigns.l0 k x K y (o ++ ng (x.drop i)) (x.length : Int)) r → Ev (fun k => psalterylaw07_PvqSigns.l0 k x K y o (i : Int)) r
  | 0, i, o, h, ho, hr => by
    rw [drop_end (by omega), ng, List.map_nil, List.append_nil] at hr
    have e : i = x.length := by omega
    subst e; exact hr
  | d + 1, i, o, h, ho, hr => by
    have hi : i < x.length := by omega
    have hv := hx _ (List.getElem_mem hi)
    unfold In at hv
    refine Ev.step (fun k => ?_) (back_l0 (K := K) (y := y) hx hl d (i + 1) (o ++ [-x[i]]) (by omega) (by simp [ho]) ?_)
    · rw [psalterylaw07_PvqSigns.l0, if_pos (by omega), if_pos (by omega), if_pos (by omega), rd_at hi, w64 (x := -x[i]) (by omega) (by omega), w_succ hi (by omega)]
    · rw [drop_at hi, ng, List.map_cons] at hr
      rw [List.append_assoc]; exact hr
theorem turn_l1 {x q : List Int} (hq : q.length = x.length) (hx : x.length ≤ 16) (hy : ∀ v ∈ q, 0 ≤ v ∧ v ≤ 12) : ∀ (d i : Nat), i + d = x.length → Ev (fun k => psalterylaw07_PvqSigns.l1 k x (sg x q) (sg (ng x) q) (i : Int)) true
  | 0, i, h => Ev.step (fun k => by rw [psalterylaw07_PvqSigns.l1, if_neg (by omega)]) knows_j
  | d + 1, i, h => by
    have hi : i < x.length := by omega
    have h1 := sg_len hq
    have h2 : (sg (ng x) q).length = x.length := by rw [sg_len (by rw [ng_len]; exact hq), ng_len]
    have hb := hy _ (at_mem (l := q) (i := i) (by omega))
    have e1 : at0 (sg x q) i = if at0 x i < 0 then -at0 q i else at0 q i := sg_at hi (by omega)
    have e2 : at0 (sg (ng x) q) i = if -at0 x i < 0 then -at0 q i else at0 q i := by
      rw [sg_at (by rw [ng_len]; exact hi) (by omega), at_get (l := ng x) (by rw [ng_len]; exact hi), at_get hi]; simp [ng]
    refine Ev.step (fun k => ?_) (turn_l1 hq hx hy d (i + 1) (by omega))
    rw [psalterylaw07_PvqSigns.l1, if_pos (by omega), if_pos (by omega), rd_nat, rd_nat, rd_nat, w_succ hi (by omega)]
    by_cases c1 : at0 x i > 0
    · rw [if_neg (by omega)] at e1
      rw [if_pos (by omega)] at e2
      rw [if_pos c1, if_pos (by omega), if_neg (by omega), if_neg (by omega), if_neg (by omega), if_pos (by omega), if_pos (by rw [w64 (by omega) (by omega)]; omega)]
    · by_cases c2 : at0 x i < 0
      · rw [if_pos c2] at e1
        rw [if_neg (by omega)] at e2
        rw [if_neg c1, if_pos c2, if_pos (by omega), if_neg (by omega), if_neg (by omega), if_pos (by omega), if_pos (by rw [w64 (by omega) (by omega)]; omega)]
      · rw [if_neg c2] at e1
        rw [if_neg (by omega)] at e2
        rw [if_neg c1, if_neg c2, if_pos (by omega), if_pos (by omega), if_pos (by omega), if_pos (by omega)]
theorem pure : Pu := by
  intro l K hl hK
  apply Ev.rounds
  by_cases hg : (l.length : Int) > 100
  · exact Ev.congr (fun k => by rw [psalterylaw07_PvqSigns.f, if_pos hg]) knows_j
  · refine Ev.congr (fun k => by rw [psalterylaw07_PvqSigns.f, if_neg hg]) ?_
    by_cases h : Fr l ∧ 0 ≤ K ∧ K ≤ 12
    · obtain ⟨hf, h0, h1⟩ := h
      obtain ⟨n, rfl⟩ : ∃ n : Nat, K = n := ⟨K.toNat, by omega⟩
      have e1 := Ps_len hf n
      have e2 := Ps_in hf (K := n) (by omega)
      have e3 := sg_len e1
      have hn := hf.2.1
      have e4 : (sg (ng l) (Ps l n)).length = l.length := by rw [sg_len (by rw [ng_len]; exact e1), ng_len]
      refine Ev.bind (search_ok hf (by omega)) ?_
      refine Ev.congr (f := fun k => psalterylaw07_PvqSigns.l0 k l n (sg l (Ps l n)) [] ((0 : Nat) : Int)) (fun k => by rw [if_pos rfl]; rfl) ?_
      refine back_l0 hf.2.2 hn l.length 0 [] (by omega) rfl ?_
      have hb := search_ok (ng_fr hf) (K := n) (by omega)
      rw [Ps_ng] at hb
      refine Ev.step (fun k => by rw [psalterylaw07_PvqSigns.l0, if_neg (by omega), List.drop_zero, List.nil_append]) (Ev.bind hb ?_)
      have hp : Ev (fun k => psalteryref06_Pulses.f k (sg l (Ps l n))) n := by
        refine ⟨200, fun k hk => ?_⟩
        show psalteryref06_Pulses.f k _ = _
        rw [refPulses_f (by omega) (by omega), szs_sg e1 e2, (Ps_gd hf n).sum]
      refine Ev.congr (fun k => by rw [if_pos rfl, if_pos (by omega), if_pos (by dsimp only; omega)]) (Ev.bind hp ?_)
      refine Ev.step (f := fun k => psalterylaw07_PvqSigns.l1 k l (sg l (Ps l n)) (sg (ng l) (Ps l n)) ((0 : Nat) : Int)) (fun k => by rw [psalterylaw07_PvqSigns.j1, if_neg (by simp)]; rfl) ?_
      exact turn_l1 e1 hn e2 l.length 0 (by omega)
    · refine Ev.bind (search_bad (by omega) h) ?_
      exact Ev.congr (fun k => by rw [if_neg (by decide), if_pos (show (([] : List Int).length : Int) = 0 from rfl)]) knows_j
end Go.Proofs.Ytllgjhenbchkfaa.pvqSigns
