/- A rounded list has nearly the norm that it should have: plain arithmetic, no program in sight. -/
import Derived.Test.YtllgjhenbchkfaaZPvqAloneWMore
namespace Go.Proofs.Ytllgjhenbchkfaa.PvqN
theorem sq_le {p q : Int} (hp : 0 ≤ p) (h : q * q ≤ p * p) : q ≤ p := by
  apply Int.not_lt.mp
  intro hlt
  have h1 : p * p ≤ p * q := Int.mul_le_mul_of_nonneg_left (by omega) hp
  have h2 : p * q < q * q := Int.mul_lt_mul_of_pos_right hlt (by omega)
  omega
theorem sq_nonneg (a : Int) : 0 ≤ a * a := by
  rcases Int.le_total 0 a with h | h
  · exact Int.mul_nonneg h h
  · exact Int.mul_nonneg_of_nonpos_of_nonpos h h
theorem two_mul_le (a b : Int) : 4 * (a * b) ≤ (a + b) * (a + b) := by
  have := sq_nonneg (a - b)
  grind
def S2 : List Int → Int
  | [] => 0
  | a :: l => a * a + S2 l
def D2 : List Int → List Int → Int
  | a :: l, b :: m => a * b + D2 l m
  | _, _ => 0
theorem S2_nonneg (l : List Int) : 0 ≤ S2 l := by
  induction l with
  | nil => exact Int.le_refl _
  | cons a l ih => have := sq_nonneg a; simp only [S2]; omega
theorem cs (a b : List Int) : D2 a b * D2 a b ≤ S2 a * S2 b := by
  induction a generalizing b with
  | nil => simp [D2, S2]
  | cons x a ih =>
    cases b with
    | nil => simp [D2, S2]
    | cons y b =>
      have h := ih b
      simp only [D2, S2]
      generalize D2 a b = B at h ⊢
      have hA := S2_nonneg a
      have hC := S2_nonneg b
      generalize S2 a = A at h hA ⊢
      generalize S2 b = C at h hC ⊢
      have hy := sq_nonneg y
      have hx := sq_nonneg x
      have hp : 0 ≤ A * (y * y) + x * x * C := Int.add_nonneg (Int.mul_nonneg hA hy) (Int.mul_nonneg hx hC)
      have hq : (2 * B * x * y) * (2 * B * x * y) ≤ (A * (y * y) + x * x * C) * (A * (y * y) + x * x * C) := by
        have h1 := two_mul_le (A * (y * y)) (x * x * C)
        have h2 : (B * B) * ((x * x) * (y * y)) ≤ (A * C) * ((x * x) * (y * y)) := Int.mul_le_mul_of_nonneg_right h (Int.mul_nonneg hx hy)
        grind
      have := sq_le hp hq
      grind
def Near (r N : Int) : List Int → List Int → Prop
  | y :: l, x :: m => (-N ≤ 2 * (N * x - 256 * r * y) ∧ 2 * (N * x - 256 * r * y) ≤ N) ∧ Near r N l m
  | [], [] => True
  | _, _ => False
theorem Near.len {r N : Int} : ∀ {y x : List Int}, Near r N y x → x.length = y.length
  | [], [], _ => rfl
  | [], _ :: _, h => by simp [Near] at h
  | _ :: _, [], h => by simp [Near] at h
  | _ :: _, _ :: _, h => by simp only [Near] at h; simp [Near.len h.2]
theorem mul_mono {a b c d : Int} (ha : 0 ≤ a) (hc : 0 ≤ c) (h : a ≤ b) (k : c ≤ d) : a * c ≤ b * d :=
  Int.le_trans (Int.mul_le_mul_of_nonneg_right h hc) (Int.mul_le_mul_of_nonneg_left k (by omega))
end Go.Proofs.Ytllgjhenbchkfaa.PvqN
