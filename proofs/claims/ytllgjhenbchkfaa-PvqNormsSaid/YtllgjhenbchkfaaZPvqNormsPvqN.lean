/- A rounded list has nearly the norm that it should have: plain arithmetic, no program in sight. -/
import Derived.Test.YtllgjhenbchkfaaZPvqNormsWMore
namespace Go.Proofs.Ytllgjhenbchkfaa.PvqN
theorem sq_le {p q : Int} (hp : 0 ≤ p) (h : q * q ≤ p * p) : q ≤ p := by
  apply Int.not_lt.mp
  intro hlt
  have h1 : p * p ≤ p * q := Int.mul_le_mul_of_nonneg_left (by omega) hp
  have h2 : p * q < q * q := Int.mul_lt_mul_of_pos_right hlt (by omega)
  omega
theorem sq_nonneg (a : Int) : 0 ≤ a * a := by
  rcases Int.le_total 0 a with h | h
  · exact Int.mul_nonneg h h
  · exact Int.mul_nonneg_of_nonpos_of_nonpos h h
theorem two_mul_le (a b : Int) : 4 * (a * b) ≤ (a + b) * (a + b) := by
  have := sq_nonneg (a - b)
  grind
def S2 : List Int → Int
  | [] => 0
  | a :: l => a * a + S2 l
def D2 : List Int → List Int → Int
  | a :: l, b :: m => a * b + D2 l m
  | _, _ => 0
theorem S2_nonneg (l : List Int) : 0 ≤ S2 l := by
  induction l with
  | nil => exact Int.le_refl _
  | cons a l ih => have := sq_nonneg a; simp only [S2]; omega
theorem cs (a b : List Int) : D2 a b * D2 a b ≤ S2 a * S2 b := by
  induction a generalizing b with
  | nil => simp [D2, S2]
  | cons x a ih =>
    cases b with
    | nil => simp [D2, S2]
    | cons y b =>
      have h := ih b
      simp only [D2, S2]
      generalize D2 a b = B at h ⊢
      have hA := S2_nonneg a
      have hC := S2_nonneg b
      generalize S2 a = A at h hA ⊢
      generalize S2 b = C at h hC ⊢
      have hy := sq_nonneg y
      have hx := sq_nonneg x
      have hp : 0 ≤ A * (y * y) + x * x * C := Int.add_nonneg (Int.mul_nonneg hA hy) (Int.mul_nonneg hx hC)
      have hq : (2 * B * x * y) * (2 * B * x * y) ≤ (A * (y * y) + x * x * C) * (A * (y * y) + x * x * C) := by
        have h1 := two_mul_le (A * (y * y)) (x * x * C)
        have h2 : (B * B) * ((x * x) * (y * y)) ≤ (A * C) * ((x * x) * (y * y)) := Int.mul_le_mul_of_nonneg_right h (Int.mul_nonneg hx hy)
        grind
      have := sq_le hp hq
      grind
def Er (r N : Int) : List Int → List Int → List Int
  | y :: l, x :: m => (N * x - 256 * r * y) :: Er r N l m
  | _, _ => []
theorem expand (r N : Int) : ∀ (y x : List Int), x.length = y.length → N * N * S2 x = (256 * r) * (256 * r) * S2 y + 512 * r * D2 y (Er r N y x) + S2 (Er r N y x)
  | [], [], _ => by simp [S2, D2, Er]
  | [], _ :: _, h => by simp at h
  | _ :: _, [], h => by simp at h
  | y :: l, x :: m, h => by
    have ih := expand r N l m (by simpa using h)
    simp only [S2, D2, Er]
    grind
def Near (r N : Int) : List Int → List Int → Prop
  | y :: l, x :: m => (-N ≤ 2 * (N * x - 256 * r * y) ∧ 2 * (N * x - 256 * r * y) ≤ N) ∧ Near r N l m
  | [], [] => True
  | _, _ => False
theorem Near.len {r N : Int} : ∀ {y x : List Int}, Near r N y x → x.length = y.length
  | [], [], _ => rfl
  | [], _ :: _, h => by simp [Near] at h
  | _ :: _, [], h => by simp [Near] at h
  | _ :: _, _ :: _, h => by simp only [Near] at h; simp [Near.len h.2]
theorem er_le {r N : Int} (hN : 0 ≤ N) : ∀ {y x : List Int}, Near r N y x → 4 * S2 (Er r N y x) ≤ (y.length : Int) * (N * N)
  | [], [], _ => by simp [S2, Er]
  | [], _ :: _, h => by simp [Near] at h
  | _ :: _, [], h => by simp [Near] at h
  | y :: l, x :: m, h => by
    simp only [Near] at h
    have ih := er_le hN h.2
    simp only [S2, Er, List.length_cons, Int.natCast_add, Int.cast_ofNat_Int]
    generalize N * x - 256 * r * y = e at h ⊢
    have h1 : 4 * (e * e) ≤ N * N := by
      have a : 0 ≤ (N - 2 * e) * (N + 2 * e) := Int.mul_nonneg (by omega) (by omega)
      grind
    grind
theorem mul_mono {a b c d : Int} (ha : 0 ≤ a) (hc : 0 ≤ c) (h : a ≤ b) (k : c ≤ d) : a * c ≤ b * d :=
  Int.le_trans (Int.mul_le_mul_of_nonneg_right h hc) (Int.mul_le_mul_of_nonneg_left k (by omega))
theorem upper {r N s P X Q C : Int} (hr : 0 ≤ r) (hN : 256 ≤ N) (hP1 : P ≤ (N + 1) * (N + 1)) (hP0 : 0 ≤ P)
    (hX : N * N * X = r * r * P + 2 * r * Q + C) (hQ : Q * Q ≤ P * C) (hC : C ≤ 4 * (N * N)) (hC0 : 0 ≤ C) (hs : s * s ≤ X) :
    s - r ≤ r / 255 + 3 := by
  have hN1 : 0 ≤ 2 * (N * (N + 1)) := by have := Int.mul_nonneg (a := N) (b := N + 1) (by omega) (by omega); omega
  have q1 : Q * Q ≤ (2 * (N * (N + 1))) * (2 * (N * (N + 1))) := by
    have a := mul_mono hP0 hC0 hP1 hC
    grind
  have q2 := sq_le hN1 q1
  have x1 : (N * s) * (N * s) ≤ (r * (N + 1) + 2 * N) * (r * (N + 1) + 2 * N) := by
    have a : r * r * P ≤ r * r * ((N + 1) * (N + 1)) := Int.mul_le_mul_of_nonneg_left hP1 (sq_nonneg r)
    have b : 2 * r * Q ≤ 2 * r * (2 * (N * (N + 1))) := Int.mul_le_mul_of_nonneg_left q2 (by omega)
    have c : (N * N) * (s * s) ≤ (N * N) * X := Int.mul_le_mul_of_nonneg_left hs (sq_nonneg N)
    grind
  have x2 := sq_le (Int.add_nonneg (Int.mul_nonneg hr (by omega)) (by omega)) x1
  apply Int.not_lt.mp
  intro hlt
  have h3 : r / 255 + 2 ≤ s - r - 2 := by omega
  have h4 : N * (r / 255 + 2) ≤ N * (s - r - 2) := Int.mul_le_mul_of_nonneg_left h3 (by omega)
  have h5 : 256 * (r / 255 + 2) ≤ N * (r / 255 + 2) := Int.mul_le_mul_of_nonneg_right hN (by omega)
  have h6 : N * (s - r - 2) ≤ r := by grind
  omega
theorem lower {r N s P X Q C : Int} (hr : 0 ≤ r) (hN : 256 ≤ N) (hP : N * N ≤ P) 
    (hX : N * N * X = r * r * P + 2 * r * Q + C) (hQ : Q * Q ≤ P * C) (hC : C ≤ 4 * (N * N)) (hC0 : 0 ≤ C) (hs0 : 0 ≤ s) (hs : X < (s + 1) * (s + 1)) :
    r - s ≤ r / 255 + 3 := by
  apply Int.not_lt.mp
  intro hlt
  have h1 : s + 1 ≤ r - 3 := by omega
  have hNN : 0 < N * N := Int.mul_pos (by omega) (by omega)
  have hP0 : 0 ≤ P := by omega
  have h2 : (s + 1) * (s + 1) ≤ (r - 3) * (r - 3) := mul_mono (by omega) (by omega) h1 h1
  have hr4 : r = 4 ∨ 5 ≤ r := by omega
  rcases hr4 with h4 | h5
  · subst h4
    have x0 : X ≤ 0 := by omega
    have n0 : N * N * X ≤ 0 := by
      have := Int.mul_le_mul_of_nonneg_left x0 (Int.le_of_lt hNN); omega
    have a : 16 * P + C ≤ -(8 * Q) := by grind
    have b : (16 * P + C) * (16 * P + C) ≤ (8 * Q) * (8 * Q) := by
      have := mul_mono (by omega) (by omega) a a; grind
    have c : (16 * P - C) * (16 * P - C) ≤ 0 := by grind
    have d : 0 < 16 * P - C := by omega
    have e := Int.mul_pos d d
    omega
  · have u1 : r * r * P - (N * N) * ((r - 3) * (r - 3)) ≤ -(2 * r * Q) := by
      have a : (N * N) * X ≤ (N * N) * ((r - 3) * (r - 3)) := Int.mul_le_mul_of_nonneg_left (by omega) (by omega)
      omega
    -- r r P = r r N N + b
    have b0 : 0 ≤ r * r * (P - N * N) := Int.mul_nonneg (sq_nonneg r) (by omega)
    generalize hb : r * r * (P - N * N) = b at b0
    have u2 : r * r * P - (N * N) * ((r - 3) * (r - 3)) = b + (N * N) * (6 * r - 9) := by grind
    have k0 : 0 ≤ (N * N) * (6 * r - 9) := Int.mul_nonneg (by omega) (by omega)
    rw [u2] at u1
    have u3 : (b + (N * N) * (6 * r - 9)) * (b + (N * N) * (6 * r - 9)) ≤ (2 * r * Q) * (2 * r * Q) := by
      have := mul_mono (by omega) (by omega) u1 u1; grind
    have u4 : (2 * r * Q) * (2 * r * Q) ≤ 16 * (N * N) * (r * r * (N * N) + b) := by
      have a : P * C ≤ P * (4 * (N * N)) := Int.mul_le_mul_of_nonneg_left hC hP0
      have c : (4 * (r * r)) * (Q * Q) ≤ (4 * (r * r)) * (P * (4 * (N * N))) := Int.mul_le_mul_of_nonneg_left (by omega) (by have := sq_nonneg r; omega)
      have e : (2 * r * Q) * (2 * r * Q) = (4 * (r * r)) * (Q * Q) := by clear hb u1 u2 u3 hX hQ a c; grind
      have e2 : (4 * (r * r)) * (P * (4 * (N * N))) = 16 * (N * N) * (r * r * (N * N) + b) := by rw [← hb]; clear hb u1 u2 u3 hX hQ a c e; grind
      rw [e, ← e2]; exact c
    have u5 : 16 * (N * N) * b + 16 * (N * N) * (r * r * (N * N)) + 1 ≤ (b + (N * N) * (6 * r - 9)) * (b + (N * N) * (6 * r - 9)) := by
      have a : (N * N) * b * 8 ≤ (N * N) * b * (6 * r - 9) := Int.mul_le_mul_of_nonneg_left (by omega) (Int.mul_nonneg (by omega) b0)
      have c : (4 * r) * (4 * r) + 1 ≤ (6 * r - 9) * (6 * r - 9) := by
        have := mul_mono (a := 4 * r + 1) (c := 4 * r + 1) (b := 6 * r - 9) (d := 6 * r - 9) (by omega) (by omega) (by omega) (by omega); grind
      have d : ((N * N) * (N * N)) * ((4 * r) * (4 * r) + 1) ≤ ((N * N) * (N * N)) * ((6 * r - 9) * (6 * r - 9)) := Int.mul_le_mul_of_nonneg_left c (sq_nonneg _)
      have e := Int.mul_pos hNN hNN
      have f := sq_nonneg b
      have g1 : (b + (N * N) * (6 * r - 9)) * (b + (N * N) * (6 * r - 9)) = b * b + 2 * ((N * N) * b * (6 * r - 9)) + ((N * N) * (N * N)) * ((6 * r - 9) * (6 * r - 9)) := by clear hb u1 u2 u3 u4 hX hQ a c d e f; grind
      have g2 : ((N * N) * (N * N)) * ((4 * r) * (4 * r) + 1) = 16 * (N * N) * (r * r * (N * N)) + (N * N) * (N * N) := by clear hb u1 u2 u3 u4 hX hQ a c d e f g1; grind
      have g3 : 16 * (N * N) * b = 2 * ((N * N) * b * 8) := by clear hb u1 u2 u3 u4 hX hQ a c d e f g1 g2; grind
      omega
    have g4 : 16 * (N * N) * (r * r * (N * N) + b) = 16 * (N * N) * b + 16 * (N * N) * (r * r * (N * N)) := by clear hb u1 u2 u3 u4 u5 hX hQ; grind
    omega
theorem norm {r N s : Int} {y x : List Int} (hr : 0 ≤ r) (hN : 256 ≤ N) (hl : y.length ≤ 16) (h : Near r N y x)
    (hP : N * N ≤ 65536 * S2 y) (hP1 : 65536 * S2 y < (N + 1) * (N + 1)) (hs0 : 0 ≤ s) (hs : s * s ≤ S2 x) (hs1 : S2 x < (s + 1) * (s + 1)) :
    s - r ≤ r / 255 + 3 ∧ r - s ≤ r / 255 + 3 := by
  have e := expand r N y x h.len
  have c := cs y (Er r N y x)
  have b := er_le (by omega) h
  have hC0 := S2_nonneg (Er r N y x)
  have hy := S2_nonneg y
  generalize S2 (Er r N y x) = C at e c b hC0
  generalize D2 y (Er r N y x) = B at e c
  have hNN := sq_nonneg N
  have hC : C ≤ 4 * (N * N) := by
    have : (y.length : Int) * (N * N) ≤ 16 * (N * N) := Int.mul_le_mul_of_nonneg_right (by omega) hNN
    omega
  have hX : N * N * S2 x = r * r * (65536 * S2 y) + 2 * r * (256 * B) + C := by grind
  have hQ : (256 * B) * (256 * B) ≤ (65536 * S2 y) * C := by grind
  exact ⟨upper hr hN (by omega) (by omega) hX hQ hC hC0 hs, lower hr hN hP hX hQ hC hC0 hs0 hs1⟩
end Go.Proofs.Ytllgjhenbchkfaa.PvqN
