/- pvq: the pulse vector that is found: by the program and by the document. -/
import Derived.Test.YtllgjhenbchkfaaZPvqAlonePvqM
import Derived.Test.YtllgjhenbchkfaaZPvqAloneM1
namespace Go.Proofs.Ytllgjhenbchkfaa.Pvq
open Go Go.RowKit Go.Proofs.YtllgjhenbchkfaaW.PrintWords Go.Proofs.Ytllgjhenbchkfaa.Prt Go.Proofs.Ytllgjhenbchkfaa.Com Go.Proofs.Ytllgjhenbchkfaa.PvqN
set_option linter.unusedVariables false
set_option linter.unusedSimpArgs false
def sm : List Int → Int
  | [] => 0
  | v :: l => v + sm l
def at0 (l : List Int) (i : Nat) : Int := l.getD i 0
theorem at_get {l : List Int} {i : Nat} (h : i < l.length) : at0 l i = l[i] := by unfold at0; simp [h]
theorem rd_nat (l : List Int) (i : Nat) : rd l (i : Int) = at0 l i := by unfold rd at0; rw [Int.toNat_natCast]
def sc (a y : List Int) (i : Nat) : Int × Int := (D2 a y + at0 a i, S2 y + (2 * at0 y i + 1))
def gt (p q : Int × Int) : Bool := decide (p.1 * p.1 * q.2 > q.1 * q.1 * p.2)
def pick (a y : List Int) : Nat → Nat → Nat → Nat
  | 0, t, _ => t
  | d + 1, t, i => pick a y d (if gt (sc a y i) (sc a y t) = true then i else t) (i + 1)
def best (a y : List Int) : Nat := pick a y a.length 0 0
def add1 (y : List Int) (j : Nat) : List Int := y.set j (at0 y j + 1)
def run (a : List Int) : Nat → List Int → List Int
  | 0, y => y
  | n + 1, y => run a n (add1 y (best a y))
theorem pick_lt (a y : List Int) : ∀ (d t i n : Nat), t < n → i + d ≤ n → pick a y d t i < n
  | 0, t, i, n, h, _ => h
  | d + 1, t, i, n, h, k => by
    rw [pick]; apply pick_lt a y d _ (i + 1) n
    · split <;> omega
    · omega
theorem gt_self (p : Int × Int) : gt p p = false := by unfold gt; exact decide_eq_false (by omega)
theorem add1_len (y : List Int) (j : Nat) : (add1 y j).length = y.length := by simp [add1]
theorem sm_add : ∀ (y : List Int) (j : Nat), j < y.length → sm (add1 y j) = sm y + 1
  | v :: y, 0, _ => by simp [add1, at0, sm]; omega
  | v :: y, j + 1, h => by
    have := sm_add y j (by simpa using h)
    simp only [add1, at0, List.set_cons_succ, List.getD_cons_succ, sm] at this ⊢; omega
theorem S2_add : ∀ (y : List Int) (j : Nat), j < y.length → S2 (add1 y j) = S2 y + (2 * at0 y j + 1)
  | v :: y, 0, _ => by simp only [add1, at0, List.set_cons_zero, List.getD_cons_zero, S2]; grind
  | v :: y, j + 1, h => by
    have := S2_add y j (by simpa using h)
    simp only [add1, at0, List.set_cons_succ, List.getD_cons_succ, S2] at this ⊢; omega
theorem D2_add : ∀ (a y : List Int) (j : Nat), j < y.length → a.length = y.length → D2 a (add1 y j) = D2 a y + at0 a j
  | a :: l, v :: y, 0, _, _ => by simp only [add1, at0, List.set_cons_zero, List.getD_cons_zero, D2]; grind
  | a :: l, v :: y, j + 1, h, e => by
    have := D2_add l y j (by simpa using h) (by simpa using e)
    simp only [add1, at0, List.set_cons_succ, List.getD_cons_succ, D2] at this ⊢; omega
  | [], v :: y, _, _, e => by simp at e
theorem nn_sm : ∀ {y : List Int}, (∀ v ∈ y, 0 ≤ v) → 0 ≤ sm y
  | [], _ => Int.le_refl _
  | v :: y, h => by
    have := nn_sm (y := y) (fun u hu => h u (List.mem_cons_of_mem _ hu)); have := h v List.mem_cons_self; simp only [sm]; omega
theorem le_sm : ∀ {y : List Int}, (∀ v ∈ y, 0 ≤ v) → ∀ v ∈ y, v ≤ sm y
  | v :: y, h, u, hu => by
    have h1 : ∀ u ∈ y, 0 ≤ u := fun u hu => h u (List.mem_cons_of_mem _ hu)
    have := nn_sm h1; have := h v List.mem_cons_self
    simp only [sm]
    rcases List.mem_cons.1 hu with rfl | hu
    · omega
    · have := le_sm h1 u hu; omega
theorem S2_sm : ∀ {y : List Int}, (∀ v ∈ y, 0 ≤ v) → S2 y ≤ sm y * sm y
  | [], _ => by simp [S2, sm]
  | v :: y, h => by
    have h1 : ∀ u ∈ y, 0 ≤ u := fun u hu => h u (List.mem_cons_of_mem _ hu)
    have := S2_sm h1; have := Int.mul_nonneg (h v List.mem_cons_self) (nn_sm h1)
    simp only [S2, sm]; grind
theorem D2_sm : ∀ {a y : List Int}, (∀ v ∈ a, 0 ≤ v ∧ v < 262144) → (∀ v ∈ y, 0 ≤ v) → 0 ≤ D2 a y ∧ D2 a y ≤ 262144 * sm y
  | [], y, _, h => by have := nn_sm h; simp only [D2]; omega
  | a :: l, [], _, _ => by simp [D2, sm]
  | a :: l, v :: y, ha, h => by
    have ih := D2_sm (a := l) (y := y) (fun u hu => ha u (List.mem_cons_of_mem _ hu)) (fun u hu => h u (List.mem_cons_of_mem _ hu))
    have h0 := ha a List.mem_cons_self; have h1 := h v List.mem_cons_self
    have h2 := Int.mul_nonneg h0.1 h1
    have h3 : a * v ≤ 262144 * v := Int.mul_le_mul_of_nonneg_right (by omega) h1
    simp only [D2, sm]; omega
structure Gd (a y : List Int) (n : Nat) : Prop where
  len : a.length = y.length
  one : 1 ≤ y.length
  few : y.length ≤ 16
  sz : ∀ v ∈ a, 0 ≤ v ∧ v < 262144
  nn : ∀ v ∈ y, 0 ≤ v
  sum : sm y = n
theorem at_mem {l : List Int} {i : Nat} (h : i < l.length) : at0 l i ∈ l := by rw [at_get h]; exact List.getElem_mem h
theorem Gd.add {a y : List Int} {n j : Nat} (g : Gd a y n) (hj : j < y.length) : Gd a (add1 y j) (n + 1) where
  len := by rw [add1_len]; exact g.len
  one := by rw [add1_len]; exact g.one
  few := by rw [add1_len]; exact g.few
  sz := g.sz
  nn := by
    intro v hv
    rcases List.mem_or_eq_of_mem_set hv with h | h
    · exact g.nn v h
    · have := g.nn _ (at_mem hj); omega
  sum := by rw [sm_add y j hj, g.sum]; omega
theorem Gd.at {a y : List Int} {n : Nat} (g : Gd a y n) (hn : n ≤ 13) {i : Nat} (hi : i < y.length) : 0 ≤ at0 a i ∧ at0 a i < 262144 ∧ 0 ≤ at0 y i ∧ at0 y i ≤ n := by
  have h1 := g.sz _ (at_mem (l := a) (by rw [g.len]; exact hi))
  have h2 := g.nn _ (at_mem hi); have h3 := le_sm g.nn _ (at_mem hi); rw [g.sum] at h3
  exact ⟨h1.1, h1.2, h2, h3⟩
theorem Gd.tot {a y : List Int} {n : Nat} (g : Gd a y n) (hn : n ≤ 13) : 0 ≤ D2 a y ∧ D2 a y ≤ 3407872 ∧ 0 ≤ S2 y ∧ S2 y ≤ 169 := by
  have h1 := D2_sm g.sz g.nn; have h2 := S2_sm g.nn; rw [g.sum] at h1 h2
  have h3 : (n : Int) * n ≤ 13 * 13 := mul_mono (by omega) (by omega) (by omega) (by omega)
  have h4 := S2_nonneg y
  omega
theorem sc_add {a y : List Int} {n j : Nat} (g : Gd a y n) (hj : j < y.length) : sc a y j = (D2 a (add1 y j), S2 (add1 y j)) := by
  rw [D2_add a y j hj g.len, S2_add y j hj]; rfl
theorem Gd.sc {a y : List Int} {n : Nat} (g : Gd a y n) (hn : n ≤ 12) {i : Nat} (hi : i < y.length) : 0 ≤ (sc a y i).1 ∧ (sc a y i).1 ≤ 3407872 ∧ 0 ≤ (sc a y i).2 ∧ (sc a y i).2 ≤ 169 := by
  have := (g.add hi).tot (by omega)
  rw [sc_add g hi]; exact this
theorem prod_in {x c d : Int} (h0 : 0 ≤ x) (h1 : x ≤ 3407872) (h2 : 0 ≤ d) (h3 : d ≤ 169) : wrap64 (wrap64 (x * x) * d) = x * x * d := by
  have a := sq_nonneg x
  have b : x * x ≤ 3407872 * 3407872 := mul_mono h0 h0 h1 h1
  have e : x * x * d ≤ (3407872 * 3407872) * 169 := mul_mono a h2 b h3
  have f := Int.mul_nonneg a h2
  rw [w64 (x := x * x) (by omega) (by omega), w64 (by omega) (by omega)]
theorem above_f {p q : Int × Int} (h : 0 ≤ p.1 ∧ p.1 ≤ 3407872 ∧ 0 ≤ p.2 ∧ p.2 ≤ 169) (k : 0 ≤ q.1 ∧ q.1 ≤ 3407872 ∧ 0 ≤ q.2 ∧ q.2 ≤ 169) : pvq_above.f p.1 p.2 q.1 q.2 = some (gt p q) := by
  unfold pvq_above.f gt
  rw [prod_in (c := 0) h.1 h.2.1 k.2.2.1 k.2.2.2, prod_in (c := 0) k.1 k.2.1 h.2.2.1 h.2.2.2]
def sg (x y : List Int) : List Int := List.zipWith (fun v p => if v < 0 then -p else p) x y
theorem sg_len {x y : List Int} (h : y.length = x.length) : (sg x y).length = x.length := by simp [sg, h]
theorem sg_at {x y : List Int} {i : Nat} (hx : i < x.length) (hy : i < y.length) : at0 (sg x y) i = if at0 x i < 0 then -at0 y i else at0 y i := by
  rw [at_get (by simp [sg]; omega), at_get hx, at_get hy]; simp [sg]
theorem sg_step {x y0 : List Int} {i : Nat} (hl : y0.length = x.length) (hi : i < x.length) :
    ((sg x y0).take i ++ y0.drop i).set i (at0 (sg x y0) i) = (sg x y0).take (i + 1) ++ y0.drop (i + 1) := by
  have h1 := sg_len hl
  rw [List.set_append_right _ _ (by simp; omega), drop_at (l := y0) (by omega), List.take_succ_eq_append_getElem (l := sg x y0) (by omega), at_get (by omega)]
  have e : i - (List.take i (sg x y0)).length = 0 := by rw [List.length_take]; omega
  rw [List.append_assoc, e, List.set_cons_zero]
  rfl
theorem sg_mid {x y0 : List Int} {i : Nat} (hl : y0.length = x.length) (hi : i < x.length) : at0 ((sg x y0).take i ++ y0.drop i) i = at0 y0 i := by
  have h1 := sg_len hl
  rw [at_get (by simp; omega), at_get (by omega), List.getElem_append_right (by simp; omega)]
  simp [List.length_take, Nat.min_eq_left (by omega : i ≤ (sg x y0).length)]
theorem run_gd {a : List Int} : ∀ (e n : Nat) (y : List Int), Gd a y n → Gd a (run a e y) (n + e)
  | 0, n, y, g => g
  | e + 1, n, y, g => by
    have hl := g.len; have h1 := g.one
    have := run_gd e (n + 1) _ (g.add (pick_lt a y _ _ _ _ (by omega) (by omega) : best a y < y.length))
    rw [show n + (e + 1) = n + 1 + e by omega]; exact this
theorem sm_zero : ∀ n : Nat, sm (List.replicate n 0) = 0
  | 0 => rfl
  | n + 1 => by simp [List.replicate_succ, sm, sm_zero n]
theorem gd_0 {x : List Int} (hf : Fr x) : Gd (As x) (List.replicate x.length 0) 0 where
  len := by simp [As]
  one := by simpa using hf.1
  few := by simpa using hf.2.1
  sz := As_in hf.2.2
  nn := by intro v hv; rw [List.eq_of_mem_replicate hv]; omega
  sum := sm_zero _
def Ps (x : List Int) (K : Nat) : List Int := run (As x) K (List.replicate x.length 0)
theorem Ps_gd {x : List Int} (hf : Fr x) (K : Nat) : Gd (As x) (Ps x K) K := by have := run_gd K 0 _ (gd_0 hf); simpa [Ps] using this
theorem Ps_in {x : List Int} (hf : Fr x) {K : Nat} (hK : K ≤ 12) : ∀ v ∈ Ps x K, 0 ≤ v ∧ v ≤ 12 := fun v hv => by
  have g := Ps_gd hf K
  have := g.nn v hv; have := le_sm g.nn v hv; rw [g.sum] at this; omega
theorem Ps_len {x : List Int} (hf : Fr x) (K : Nat) : (Ps x K).length = x.length := by have := (Ps_gd hf K).len; rw [As_len] at this; omega
theorem best_l0 {a y : List Int} {n : Nat} (g : Gd a y n) (hn : n < 12) {L : List S47} (hL : L.length = y.length) (hs : ∀ j, j < y.length → rd_T47 L (j : Int) = ⟨(sc a y j).1, (sc a y j).2⟩) :
    ∀ (d t i : Nat), t < y.length → i + d = y.length → Ev (fun k => pvq_best.l0 k L (t : Int) (L.length : Int) (i : Int)) (pick a y d t i : Int)
  | 0, t, i, ht, h => by
    refine Ev.step (f := fun _ => some _) (fun k => ?_) (Ev.now _)
    rw [pvq_best.l0, if_neg (by omega)]; rfl
  | d + 1, t, i, ht, h => by
    have hi : i < y.length := by omega
    have hf := g.few
    have hp := g.sc (by omega) hi; have hq := g.sc (by omega) ht
    rw [pick]
    have st : ∀ k, pvq_best.l0 (k + 1) L (t : Int) (L.length : Int) (i : Int) = if gt (sc a y i) (sc a y t) = true then pvq_best.l0 k L (i : Int) (L.length : Int) ((i + 1 : Nat) : Int) else pvq_best.l0 k L (t : Int) (L.length : Int) ((i + 1 : Nat) : Int) := by
      intro k
      rw [pvq_best.l0, if_pos (by omega), if_pos (by omega), if_pos (by omega), if_pos (by omega), if_pos (by omega), hs i hi, hs t ht, above_f hp hq, Option.bind_some, w_succ hi (by omega)]
      by_cases c : (!((sc a y i).1 == (sc a y t).1) || (!((sc a y i).2 == (sc a y t).2))) = true
      · rw [if_pos c]
      · rw [if_neg c]
        have e : sc a y i = sc a y t := by
          simp only [Bool.or_eq_true, Bool.not_eq_true', beq_eq_false_iff_ne, ne_eq, not_or, Decidable.not_not] at c
          exact Prod.ext c.1 c.2
        rw [e, gt_self]; rfl
    by_cases c : gt (sc a y i) (sc a y t) = true
    · rw [if_pos c]
      exact Ev.step (fun k => by rw [st, if_pos c]) (best_l0 g hn hL hs d i (i + 1) hi (by omega))
    · rw [if_neg c]
      exact Ev.step (fun k => by rw [st, if_neg c]) (best_l0 g hn hL hs d t (i + 1) ht (by omega))
theorem best_f {a y : List Int} {n : Nat} (g : Gd a y n) (hn : n < 12) {L : List S47} (hL : L.length = y.length) (hs : ∀ j, j < y.length → rd_T47 L (j : Int) = ⟨(sc a y j).1, (sc a y j).2⟩) : Ev (fun k => pvq_best.f k L) (best a y : Int) := by
  have h1 := g.one; have hl := g.len
  unfold best; rw [hl]
  exact best_l0 g hn hL hs y.length 0 0 (by omega) (by omega)
theorem rdT_set {L : List S47} {i : Nat} (h : i < L.length) (v : S47) (j : Nat) : rd_T47 (L.set i v) (j : Int) = if i = j then v else rd_T47 L (j : Int) := by
  unfold rd_T47
  rw [Int.toNat_natCast, List.getD_eq_getElem?_getD, List.getD_eq_getElem?_getD, List.getElem?_set]
  by_cases e : i = j
  · subst e; simp [h]
  · simp [e]
theorem search_l1 {x a y : List Int} {n : Nat} {K : Int} {r : List Int × Int} (g : Gd a y n) (hn : n < 12) : ∀ (d i : Nat) (L : List S47), i + d = y.length → L.length = y.length → (∀ j, j < i → rd_T47 L (j : Int) = ⟨(sc a y j).1, (sc a y j).2⟩) →
    Ev (fun k => pvq_Search.l0 k x a (add1 y (best a y)) K ((n + 1 : Nat) : Int) (sc a y (best a y)).1 (sc a y (best a y)).2) r → Ev (fun k => pvq_Search.l1 k x a y L K (n : Int) (y.length : Int) (i : Int) (D2 a y) (S2 y)) r
  | 0, i, L, h, hL, hs, hr => by
    have hl := g.len; have h1 := g.one
    have hb : best a y < y.length := pick_lt a y _ _ _ _ (by omega) (by omega)
    have ha := g.at (by omega) hb
    refine Ev.step (f := fun k => (pvq_best.f k L).bind fun t138 => (if 0 ≤ t138 then (if t138 < (L.length : Int) then (if t138 < (y.length : Int) then (pvq_Search.l0 k x a (y.set (t138 : Int).toNat (wrap64 ((rd y t138) + 1))) K (wrap64 ((n : Int) + 1)) ((rd_T47 L t138).f0) ((rd_T47 L t138).f1)) else (none)) else (none)) else (none))) (fun k => ?_) ?_
    · rw [pvq_Search.l1, if_neg (by omega)]
    · refine Ev.bind (best_f g hn hL (fun j hj => hs j (by omega))) ?_
      refine Ev.congr (fun k => ?_) hr
      rw [if_pos (by omega), if_pos (by omega), if_pos (by omega), rd_nat, hs _ (by omega), w64 (x := at0 y (best a y) + 1) (by omega) (by omega), Int.toNat_natCast, w_succ (n := 1000) (by omega) (by omega)]
      rfl
  | d + 1, i, L, h, hL, hs, hr => by
    have hi : i < y.length := by omega
    have hl := g.len; have hf := g.few
    have ha := g.at (by omega) hi
    have ht := g.tot (by omega)
    refine Ev.step (f := fun k => pvq_Search.l1 k x a y (L.set i ⟨(sc a y i).1, (sc a y i).2⟩) K (n : Int) (y.length : Int) ((i + 1 : Nat) : Int) (D2 a y) (S2 y)) (fun k => ?_) (search_l1 g hn d (i + 1) _ (by omega) (by simpa using hL) ?_ hr)
    · rw [pvq_Search.l1, if_pos (by omega), if_pos (by omega), if_pos (by omega), if_pos (by omega), pvq_with.f, Option.bind_some, if_pos (by omega), rd_nat, rd_nat, w64 (x := 2 * at0 y i) (by omega) (by omega), w64 (x := 2 * at0 y i + 1) (by omega) (by omega), w64 (x := D2 a y + at0 a i) (by omega) (by omega), w64 (x := S2 y + (2 * at0 y i + 1)) (by omega) (by omega), w_succ hi (by omega), Int.toNat_natCast]
      rfl
    · intro j hj
      rw [rdT_set (by omega)]
      by_cases e : i = j
      · rw [if_pos e, e]
      · rw [if_neg e]; exact hs j (by omega)
theorem search_l0 {x a : List Int} {r : List Int × Int} {K : Nat} (hK : K ≤ 12) (hx : x.length ≤ 16) : ∀ (e n : Nat) (y : List Int), Gd a y n → y.length = x.length → n + e = K →
    Ev (fun k => pvq_Search.l2 k (run a e y) x (x.length : Int) 0) r → Ev (fun k => pvq_Search.l0 k x a y (K : Int) (n : Int) (D2 a y) (S2 y)) r
  | 0, n, y, g, hy, h, hr => by
    refine Ev.step (fun k => ?_) hr
    rw [pvq_Search.l0, if_neg (by omega)]; rfl
  | e + 1, n, y, g, hy, h, hr => by
    have hl := g.len; have h1 := g.one
    have hb : best a y < y.length := pick_lt a y _ _ _ _ (by omega) (by omega)
    refine Ev.step (f := fun k => pvq_Search.l1 k x a y (List.replicate x.length z47) (K : Int) (n : Int) (y.length : Int) ((0 : Nat) : Int) (D2 a y) (S2 y)) (fun k => ?_) ?_
    · rw [pvq_Search.l0, if_pos (by omega), if_pos (by omega), Int.toNat_natCast, if_pos (by omega), Option.bind_some, List.length_replicate, hy]; rfl
    · refine search_l1 g (by omega) y.length 0 _ (by omega) (by simp [hy]) (fun j hj => by omega) ?_
      rw [sc_add g hb]
      exact search_l0 hK hx e (n + 1) (add1 y (best a y)) (g.add hb) (by rw [add1_len]; exact hy) (by omega) hr
theorem search_l2 {x y0 : List Int} (hl : y0.length = x.length) (hx : x.length ≤ 16) (hy : ∀ v ∈ y0, 0 ≤ v ∧ v ≤ 12) : ∀ (d i : Nat), i + d = x.length → Ev (fun k => pvq_Search.l2 k ((sg x y0).take i ++ y0.drop i) x (x.length : Int) (i : Int)) (sg x y0, 0)
  | 0, i, h => by
    have h1 := sg_len hl
    refine Ev.step (f := fun _ => some _) (fun k => ?_) (Ev.now _)
    rw [pvq_Search.l2, if_neg (by omega), drop_end (by omega), List.append_nil, List.take_of_length_le (by omega)]
  | d + 1, i, h => by
    have hi : i < x.length := by omega
    have h1 := sg_len hl
    have hb := hy _ (at_mem (l := y0) (i := i) (by omega))
    refine Ev.step (fun k => ?_) (search_l2 hl hx hy d (i + 1) (by omega))
    rw [pvq_Search.l2, if_pos (by omega), if_pos (by omega), if_pos (by omega), rd_nat, ← sg_step hl hi, sg_at hi (by omega)]
    by_cases c : at0 x i < 0
    · rw [if_pos c, if_pos (by simp; omega), if_pos c, rd_nat, sg_mid hl hi, w64 (by omega) (by omega), Int.toNat_natCast, w_succ hi (by omega)]
    · rw [if_neg c, if_neg c, w_succ hi (by omega), ← sg_mid hl hi, at_get (l := (sg x y0).take i ++ y0.drop i) (by simp; omega), List.set_getElem_self]
theorem D2_zero : ∀ (a : List Int) (n : Nat), D2 a (List.replicate n 0) = 0
  | [], n => by simp [D2]
  | a :: l, 0 => by simp [D2]
  | a :: l, n + 1 => by simp [List.replicate_succ, D2, D2_zero l n]
theorem S2_zero : ∀ n : Nat, S2 (List.replicate n 0) = 0
  | 0 => rfl
  | n + 1 => by simp [List.replicate_succ, S2, S2_zero n]
theorem search_ok {x : List Int} (hf : Fr x) {K : Nat} (hK : K ≤ 12) : Ev (fun k => pvq_Search.f k x (K : Int)) (sg x (Ps x K), 0) := by
  have h1 := hf.2.1
  refine Ev.bind (fair_f (by omega)) ?_
  refine Ev.congr (f := fun k => pvq_Search.j0 k x (K : Int) false) (fun k => ?_) ?_
  · rw [if_pos (by simpa using hf), if_neg (by omega), decide_eq_false (by omega)]
  refine Ev.step (f := fun k => (pvq_sizes.f k x).bind fun t123 => pvq_Search.l0 k x t123 (List.replicate x.length 0) (K : Int) 0 0 0) (fun k => ?_) ?_
  · rw [pvq_Search.j0, if_neg (by decide)]
    congr 1; funext t
    rw [if_pos (by omega), Int.toNat_natCast, if_pos (by omega)]
  refine Ev.bind (sizes_f hf) ?_
  have h := search_l0 (x := x) (r := (sg x (Ps x K), 0)) hK h1 K 0 _ (gd_0 hf) (by simp) (by omega) ?_
  · rw [D2_zero, S2_zero] at h; exact h
  · have := search_l2 (Ps_len hf K) h1 (Ps_in hf hK) x.length 0 (by omega)
    show Ev (fun k => pvq_Search.l2 k (Ps x K) x (x.length : Int) 0) _
    simpa using this
end Go.Proofs.Ytllgjhenbchkfaa.Pvq
