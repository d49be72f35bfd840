/- lap: a border that is turned, and turned back: by the program and by the document. -/
import Derived.Test.YtllchhcdpfiodaaDoorZLapNearLapW
import Derived.Test.YtllchhcdpfiodaaDoorZLapNearVal
import Derived.Test.YtllchhcdpfiodaaDoorZLapNearM1
import Derived.Test.YtllchhcdpfiodaaDoorZLapNearM2
import Derived.Test.YtllchhcdpfiodaaDoorZLapNearM3
namespace Go.Proofs.YtllchhcdpfiodaaDoor.Lap
open Go Go.RowKit Go.Proofs.YtllchhcdpfiodaaDoorW.PrintWords Go.Proofs.YtllchhcdpfiodaaDoor.Prt Go.Proofs.YtllchhcdpfiodaaDoor.Wav
set_option linter.unusedVariables false
set_option linter.unusedSimpArgs false
theorem w_nat {a : Int} {n : Nat} (h : a = n) (hn : n ≤ 1000000) : wrap64 a = (n : Int) := by rw [w64 (by omega) (by omega)]; exact h
def at0 (l : List Int) (i : Nat) : Int := l.getD i 0
theorem at_get {l : List Int} {i : Nat} (h : i < l.length) : at0 l i = l[i] := by unfold at0; simp [h]
theorem rd_nat (l : List Int) (i : Nat) : rd l (i : Int) = at0 l i := by unfold rd at0; rw [Int.toNat_natCast]
theorem at_set {l : List Int} {i : Nat} (v : Int) (h : i < l.length) (j : Nat) : at0 (l.set i v) j = if i = j then v else at0 l j := by
  unfold at0
  rw [List.getD_eq_getElem?_getD, List.getD_eq_getElem?_getD, List.getElem?_set]
  by_cases e : i = j
  · subst e; simp [h]
  · simp [e]
theorem ext0 {a b : List Int} (hl : a.length = b.length) (h : ∀ i, i < a.length → at0 a i = at0 b i) : a = b := by
  apply List.ext_getElem hl
  intro i h1 h2
  have := h i h1
  rw [at_get h1, at_get h2] at this; exact this
theorem mem_at {l : List Int} {v : Int} (h : v ∈ l) : ∃ i, i < l.length ∧ v = at0 l i := by
  obtain ⟨i, hi, rfl⟩ := List.getElem_of_mem h
  exact ⟨i, hi, (at_get hi).symm⟩
theorem at_mem {l : List Int} {i : Nat} (h : i < l.length) : at0 l i ∈ l := by rw [at_get h]; exact List.getElem_mem h
def pt (v : Int) (k : Nat) : Int := wrap64 (v * (7 - 2 * (k : Int))) / 16
theorem part_f (v : Int) {k : Nat} (hk : k < 4) : lap_part.f v (k : Int) = some (pt v k) := by
  unfold lap_part.f num_Shift.f
  rw [if_pos (by omega), if_pos (by omega), if_neg (by decide), if_neg (by decide), if_pos (by decide), Option.bind_some]
  rfl
theorem shift_step {v : Int} (hv : inI v) {n i : Int} (hi : i < n) (k : Nat) : psalteryref03_Shift.l0 (k + 1) v n i = psalteryref03_Shift.l0 k (v / 2) n (wrap64 (i + 1)) := by
  unfold inI at hv
  have hd : wrap64 (Int.tdiv v 2) = Int.tdiv v 2 ∧ Int.tdiv v 2 * 2 ≤ v + 1 ∧ v - 1 ≤ Int.tdiv v 2 * 2 ∧ (0 ≤ v → Int.tdiv v 2 = v / 2) ∧ (v < 0 → Int.tdiv v 2 = -((-v) / 2)) := by
    rcases Int.lt_or_le v 0 with h | h
    · have e : Int.tdiv v 2 = -((-v) / 2) := by
        have e1 : Int.tdiv (-(-v)) 2 = -(Int.tdiv (-v) 2) := Int.neg_tdiv ..
        rw [Int.neg_neg] at e1
        rw [e1, Int.tdiv_eq_ediv_of_nonneg (by omega)]
      rw [e]
      refine ⟨w64 (by omega) (by omega), by omega, by omega, by omega, by omega⟩
    · have e : Int.tdiv v 2 = v / 2 := Int.tdiv_eq_ediv_of_nonneg h
      rw [e]
      refine ⟨w64 (by omega) (by omega), by omega, by omega, by omega, by omega⟩
  obtain ⟨h1, h2, h3, h4, h5⟩ := hd
  rw [psalteryref03_Shift.l0, if_pos hi, h1, w64 (x := Int.tdiv v 2 * 2) (by omega) (by omega)]
  by_cases h6 : Int.tdiv v 2 * 2 > v
  · rw [if_pos h6, w64 (x := Int.tdiv v 2 - 1) (by omega) (by omega), show Int.tdiv v 2 - 1 = v / 2 by omega]
  · rw [if_neg h6, show Int.tdiv v 2 = v / 2 by omega]
theorem in_half {v : Int} (hv : inI v) : inI (v / 2) := by unfold inI at *; omega
theorem rpart_f (v : Int) {k : Nat} (hk : k < 4) : Ev (fun q => psalteryref09_part.f q v (k : Int)) (pt v k) := by
  have h0 : inI (wrap64 (v * (7 - 2 * (k : Int)))) := wrap_in _
  generalize hx : wrap64 (v * (7 - 2 * (k : Int))) = x at h0
  have h1 := in_half h0; have h2 := in_half h1; have h3 := in_half h2
  have hs : Ev (fun q => psalteryref03_Shift.f q x 4) (x / 16) := by
    refine Ev.step (f := fun q => psalteryref03_Shift.l0 q (x / 2) 4 1) (fun q => ?_) (Ev.step (f := fun q => psalteryref03_Shift.l0 q (x / 2 / 2) 4 2) (fun q => ?_) (Ev.step (f := fun q => psalteryref03_Shift.l0 q (x / 2 / 2 / 2) 4 3) (fun q => ?_) (Ev.step (f := fun q => psalteryref03_Shift.l0 q (x / 2 / 2 / 2 / 2) 4 4) (fun q => ?_) (Ev.step (f := fun _ => some (x / 2 / 2 / 2 / 2)) (fun q => ?_) ?_))))
    · rw [psalteryref03_Shift.f, shift_step h0 (by decide), w64 (by decide) (by decide)]; rfl
    · rw [shift_step h1 (by decide), w64 (by decide) (by decide)]; rfl
    · rw [shift_step h2 (by decide), w64 (by decide) (by decide)]; rfl
    · rw [shift_step h3 (by decide), w64 (by decide) (by decide)]; rfl
    · rw [psalteryref03_Shift.l0, if_neg (by decide)]
    · rw [show x / 2 / 2 / 2 / 2 = x / 16 by omega]; exact Ev.now _
  refine Ev.congr (f := fun q => (psalteryref03_Shift.f q x 4).bind fun t => some t) (fun q => ?_) (Ev.bind hs ?_)
  · rw [psalteryref09_part.f, w64 (x := 2 * (k : Int)) (by omega) (by omega), w64 (x := 7 - 2 * (k : Int)) (by omega) (by omega), hx]
  · unfold pt; rw [hx]; exact Ev.now _
def V (u v : Int) (k : Nat) : Int := wrap64 (v - pt u k)
def U (u v : Int) (k : Nat) : Int := wrap64 (u + pt (V u v k) k)
def rt (f g : Int → Int → Nat → Int) (x : List Int) (p k : Nat) : List Int := (x.set (p - 1 - k) (f (at0 x (p - 1 - k)) (at0 x (p + k)) k)).set (p + k) (g (at0 x (p - 1 - k)) (at0 x (p + k)) k)
def rts (f g : Int → Int → Nat → Int) (x : List Int) (p : Nat) : Nat → List Int
  | 0 => x
  | n + 1 => rt f g (rts f g x p n) p n
theorem rt_len (f g : Int → Int → Nat → Int) (x : List Int) (p k : Nat) : (rt f g x p k).length = x.length := by simp [rt]
theorem rts_len (f g : Int → Int → Nat → Int) (x : List Int) (p : Nat) : ∀ n, (rts f g x p n).length = x.length
  | 0 => rfl
  | n + 1 => by rw [rts, rt_len, rts_len f g x p n]
section
variable {f g : Int → Int → Nat → Int} {x : List Int} {p : Nat}
theorem rt_at (hp : 4 ≤ p) (hx : p + 4 ≤ x.length) {k : Nat} (hk : k < 4) (i : Nat) : at0 (rt f g x p k) i = if i = p - 1 - k then f (at0 x (p - 1 - k)) (at0 x (p + k)) k else if i = p + k then g (at0 x (p - 1 - k)) (at0 x (p + k)) k else at0 x i := by
  unfold rt
  rw [at_set _ (by simp; omega), at_set _ (by omega)]
  by_cases h1 : i = p - 1 - k
  · rw [if_pos h1, if_neg (by omega), if_pos (by omega)]
  · rw [if_neg h1]
    by_cases h2 : i = p + k
    · rw [if_pos h2, if_pos (by omega)]
    · rw [if_neg h2, if_neg (by omega), if_neg (by omega)]
theorem rts_off (hp : 4 ≤ p) (hx : p + 4 ≤ x.length) : ∀ (n : Nat), n ≤ 4 → ∀ i, (i + n < p ∨ p + n ≤ i) → at0 (rts f g x p n) i = at0 x i
  | 0, _, i, _ => rfl
  | n + 1, hn, i, hi => by
    rw [rts, rt_at hp (by rw [rts_len]; exact hx) (by omega), if_neg (by omega), if_neg (by omega)]
    exact rts_off hp hx n (by omega) i (by omega)
theorem rts_on (hp : 4 ≤ p) (hx : p + 4 ≤ x.length) : ∀ (n : Nat), n ≤ 4 → ∀ k, k < n → at0 (rts f g x p n) (p - 1 - k) = f (at0 x (p - 1 - k)) (at0 x (p + k)) k ∧ at0 (rts f g x p n) (p + k) = g (at0 x (p - 1 - k)) (at0 x (p + k)) k
  | n + 1, hn, k, hk => by
    have hl : p + 4 ≤ (rts f g x p n).length := by rw [rts_len]; exact hx
    rw [rts, rt_at hp hl (by omega), rt_at hp hl (by omega)]
    by_cases e : k = n
    · subst e
      rw [if_pos rfl, if_neg (by omega), if_pos rfl, rts_off hp hx k (by omega) _ (by omega), rts_off hp hx k (by omega) _ (by omega)]
      exact ⟨rfl, rfl⟩
    · rw [if_neg (by omega), if_neg (by omega), if_neg (by omega), if_neg (by omega)]
      exact rts_on hp hx n (by omega) k (by omega)
end
def TN (x : List Int) (p : Nat) : List Int := rts U V x p 4
theorem TN_len (x : List Int) (p : Nat) : (TN x p).length = x.length := rts_len ..
theorem pair_ex {p i : Nat} (h : ¬ (i + 4 < p ∨ p + 4 ≤ i)) (hp : 4 ≤ p) : ∃ k, k < 4 ∧ (i = p - 1 - k ∨ i = p + k) := by
  by_cases c : i < p
  · exact ⟨p - 1 - i, by omega, by omega⟩
  · exact ⟨i - p, by omega, by omega⟩
theorem ix1 {p k : Nat} (hp : 4 ≤ p) (hk : k < 4) (hp1 : p ≤ 100000) : wrap64 (wrap64 ((p : Int) - 1) - (k : Int)) = ((p - 1 - k : Nat) : Int) := by
  rw [w64 (x := (p : Int) - 1) (by omega) (by omega)]; exact w_nat (by omega) (by omega)
theorem ix2 {p k : Nat} (hk : k < 4) (hp1 : p ≤ 100000) : wrap64 ((p : Int) + (k : Int)) = ((p + k : Nat) : Int) := w_nat (by omega) (by omega)
theorem turn_l0 {x : List Int} {p : Nat} (hp : 4 ≤ p) (hx : p + 4 ≤ x.length) (hp1 : p ≤ 100000) : ∀ (d n : Nat), n + d = 4 → Ev (fun k => lap_turn.l0 k (rts U V x p n) (p : Int) (n : Int)) (TN x p)
  | 0, n, h => by
    have e : n = 4 := by omega
    subst e
    exact Ev.step (f := fun _ => some _) (fun k => by rw [lap_turn.l0, if_neg (by omega)]; rfl) (Ev.now _)
  | d + 1, n, h => by
    have hn : n < 4 := by omega
    have hl : p + 4 ≤ (rts U V x p n).length := by rw [rts_len]; exact hx
    refine Ev.step (fun k => ?_) (turn_l0 hp hx hp1 d (n + 1) (by omega))
    rw [lap_turn.l0, if_pos (by omega), ix1 hp hn hp1, ix2 hn hp1, if_pos (by omega), if_pos (by omega), if_pos (by omega), if_pos (by omega), rd_nat, rd_nat, part_f _ hn, Option.bind_some, Option.bind_some, Int.toNat_natCast, Int.toNat_natCast, rd_nat, rd_nat, at_set _ (by omega), at_set _ (by omega), if_pos rfl, if_neg (by omega), part_f _ hn, Option.bind_some, w_nat (a := (n : Int) + 1) (n := n + 1) (by omega) (by omega)]
    rw [rts, rt, List.set_comm _ _ (by omega)]
    rfl
theorem turn_f {x : List Int} {p : Nat} (hp : 4 ≤ p) (hx : p + 4 ≤ x.length) (hp1 : p ≤ 100000) : Ev (fun k => lap_turn.f k x (p : Int)) (TN x p) := turn_l0 hp hx hp1 4 0 (by omega)
theorem rturn_l0 {x : List Int} {p : Nat} (hp : 4 ≤ p) (hx : p + 4 ≤ x.length) (hp1 : p ≤ 100000) : ∀ (d n : Nat), n + d = 4 → Ev (fun k => psalteryref09_Turn.l0 k x (p : Int) (rts U V x p n) (n : Int)) (TN x p)
  | 0, n, h => by
    have e : n = 4 := by omega
    subst e
    exact Ev.step (f := fun _ => some _) (fun k => by rw [psalteryref09_Turn.l0, if_neg (by omega)]; rfl) (Ev.now _)
  | d + 1, n, h => by
    have hn : n < 4 := by omega
    have hl : p + 4 ≤ (rts U V x p n).length := by rw [rts_len]; exact hx
    have e1 := rts_off (f := U) (g := V) hp hx n (by omega) (p - 1 - n) (by omega)
    have e2 := rts_off (f := U) (g := V) hp hx n (by omega) (p + n) (by omega)
    refine Ev.step (f := fun k => (psalteryref09_part.f k (at0 x (p - 1 - n)) (n : Int)).bind fun t269 => (psalteryref09_part.f k (wrap64 (at0 x (p + n) - t269)) (n : Int)).bind fun t270 => psalteryref09_Turn.l0 k x (p : Int) (((rts U V x p n).set (p - 1 - n) (wrap64 (at0 x (p - 1 - n) + t270))).set (p + n) (wrap64 (at0 x (p + n) - t269))) ((n + 1 : Nat) : Int)) (fun k => ?_) (Ev.bind (rpart_f _ hn) (Ev.bind (rpart_f _ hn) ?_))
    · rw [psalteryref09_Turn.l0, if_pos (by omega), ix1 hp hn hp1, ix2 hn hp1, if_pos (by omega), if_pos (by omega), if_pos (by omega), if_pos (by omega), rd_nat, rd_nat, w_nat (a := (n : Int) + 1) (n := n + 1) (by omega) (by omega)]
      congr 1; funext t; congr 1; funext t2
      rw [if_pos (by omega), if_pos (by omega), Int.toNat_natCast, Int.toNat_natCast]
    · have := rturn_l0 hp hx hp1 d (n + 1) (by omega)
      rw [rts, rt, e1, e2] at this
      exact this
theorem rturn_f {x : List Int} {p : Nat} (hp : 4 ≤ p) (hx : p + 4 ≤ x.length) (hp1 : p ≤ 100000) (hl : x.length ≤ 100000) : Ev (fun k => psalteryref09_Turn.f k x (p : Int)) (TN x p) :=
  Ev.congr (fun k => by rw [psalteryref09_Turn.f, Option.bind_some, if_pos (by simp; omega), List.nil_append]; rfl) (rturn_l0 hp hx hp1 4 0 (by omega))
def Wi (m : Int) (l : List Int) : Prop := ∀ v ∈ l, -m ≤ v ∧ v ≤ m
instance (m : Int) (l : List Int) : Decidable (Wi m l) := by unfold Wi; infer_instance
theorem drop_at {l : List Int} {i : Nat} (h : i < l.length) : l.drop i = l[i] :: l.drop (i + 1) := List.drop_eq_getElem_cons h
theorem within_l0 {m : Int} (hm : 0 ≤ m) (hm1 : m ≤ 1000000000000) {l : List Int} (hl : l.length ≤ 1000) : ∀ (d i : Nat), i + d = l.length → Ev (fun k => lap_within.l0 k l m l (l.length : Int) (i : Int)) (decide (Wi m (l.drop i)))
  | 0, i, h => by
    refine Ev.step (f := fun _ => some _) (fun k => ?_) (Ev.now _)
    rw [lap_within.l0, if_neg (by omega), decide_eq_true (by omega), List.drop_eq_nil_of_le (by omega)]
    simp [Wi]
  | d + 1, i, h => by
    have hi : i < l.length := by omega
    obtain ⟨u, hu, he⟩ := clamp_f l[i] hm hm1
    by_cases c : l[i] = u
    · refine Ev.step (f := fun k => lap_within.l0 k l m l (l.length : Int) ((i + 1 : Nat) : Int)) (fun k => ?_) ?_
      · rw [lap_within.l0, if_pos (by omega), if_pos (by omega), if_pos (by omega), rd_at hi, hu, Option.bind_some, if_pos c, w_nat (a := (i : Int) + 1) (n := i + 1) (by omega) (by omega)]
      · have ih := within_l0 hm hm1 hl d (i + 1) (by omega)
        have e : decide (Wi m (l.drop i)) = decide (Wi m (l.drop (i + 1))) := by
          rw [Bool.eq_iff_iff, decide_eq_true_iff, decide_eq_true_iff]
          unfold Wi; rw [drop_at hi]
          exact ⟨fun h v hv => h v (List.mem_cons_of_mem _ hv), fun h v hv => by
            rcases List.mem_cons.1 hv with e | e
            · rw [e]; exact he.1 c
            · exact h v e⟩
        rw [e]; exact ih
    · refine Ev.step (f := fun _ => some (decide (Wi m (l.drop i)))) (fun k => ?_) (Ev.now _)
      rw [lap_within.l0, if_pos (by omega), if_pos (by omega), if_pos (by omega), rd_at hi, hu, Option.bind_some, if_neg c, decide_eq_false]
      intro h
      exact c (he.2 (h _ (by rw [drop_at hi]; exact List.mem_cons_self)))
theorem within_f {m : Int} (hm : 0 ≤ m) (hm1 : m ≤ 1000000000000) {l : List Int} (hl : l.length ≤ 1000) : Ev (fun k => lap_within.f k l m) (decide (Wi m l)) := within_l0 hm hm1 hl l.length 0 (by omega)
theorem right_f {l : List Int} (hl : l.length ≤ 1000) : Ev (fun k => lap_Right.f k l) (decide (Wi 262144 l)) := Ev.bind (within_f (by decide) (by decide) hl) (Ev.now _)
def Bo (l : List Int) (p : Int) : Prop := 4 ≤ p ∧ p + 4 ≤ l.length
instance (l : List Int) (p : Int) : Decidable (Bo l p) := by unfold Bo; infer_instance
set_option maxRecDepth 100000 in
theorem knows_k : Ev (fun k => psalterylaw09_knows.f k) true := Ev.of psalterylaw09_knows.mono (k := 700) (by decide +kernel)
theorem knows_j : Ev (fun k => (psalterylaw09_knows.f k).bind fun t => some t) true := Ev.bind knows_k (Ev.now _)
theorem same_e {l : List Int} (hl : l.length ≤ 1000) : Ev (fun k => psalteryref07_Same.f k l l) true := ⟨l.length + 1, fun k hk => same_f hl (by omega)⟩
end Go.Proofs.YtllchhcdpfiodaaDoor.Lap
