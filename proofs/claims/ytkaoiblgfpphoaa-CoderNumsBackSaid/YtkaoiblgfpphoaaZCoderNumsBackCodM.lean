/- Numbers that were put are taken: each is one choice, or two. -/
import Derived.Test.YtkaoiblgfpphoaaZCoderNumsBackCodN
namespace Go.Proofs.Ytkaoiblgfpphoaa.Cod
open Go.RowKit Go.Proofs.YtkaoiblgfpphoaaW.PrintWords Go.Proofs.YtkaoiblgfpphoaaW.PrintMore Go.Proofs.Ytkaoiblgfpphoaa.Prt Go.Proofs.Ytkaoiblgfpphoaa.Val
set_option linter.unusedVariables false
def chs (v n : Int) : List (Int × Int × Int) := if n ≤ 65536 then [(v, v + 1, n)] else [(v / 65536, v / 65536 + 1, half1 n), (v % 65536, v % 65536 + 1, 65536)]
theorem putNum_run {e : E3} (he : e.ok) (hn : Nov e) {v n : Int} (hv : 0 ≤ v) :
    (∃ e' : E3, (∀ k, 5010 ≤ k → coder_PutNum.f k e.1 e.2.1 e.2.2 v n = some (e'.1, e'.2.1, e'.2.2, 0)) ∧ v < n ∧ n ≤ 4294967296 ∧ Run e (chs v n) e' ∧ Nov e') ∨
    (∃ c : Int, c ≠ 0 ∧ ∀ k, 5010 ≤ k → coder_PutNum.f k e.1 e.2.1 e.2.2 v n = some (e.1, e.2.1, e.2.2, c)) := by
  by_cases hb : n < 1 ∨ 4294967296 < n ∨ n ≤ v
  · exact .inr ⟨1, by decide, fun k hk => putNum_bad (own_ok he) hb k (by omega)⟩
  · by_cases hs : n ≤ 65536
    · have hf := fair_small hv (show v < n by omega) hs
      by_cases hl : e.len < 3996
      · obtain ⟨e', a, s, x⟩ := st_of_put he hn hf hl
        refine .inl ⟨e', fun k hk => putNum_small (own_ok he) hv (by omega) hs a k hk, by omega, by omega, ?_, x⟩
        unfold chs; rw [if_pos hs]; exact .cons s (.nil _)
      · exact .inr ⟨3, by decide, fun k hk => putNum_small (own_ok he) hv (by omega) hs (fun k _ => put_full k (own_ok he) hf (by unfold E3.len at hl; omega)) k hk⟩
    · have hf := fair_high hv (show v < n by omega) (show n ≤ 4294967296 by omega)
      by_cases hl : e.len < 3996
      · obtain ⟨e1, a, s, x⟩ := st_of_put he hn hf hl
        have hf2 := fair_low v
        by_cases hl2 : e1.len < 3996
        · obtain ⟨e2, a2, s2, x2⟩ := st_of_put s.ok x hf2 hl2
          refine .inl ⟨e2, fun k hk => putNum_great2 (own_ok he) hv (by omega) (by omega) (by omega) a a2 k hk, by omega, by omega, ?_, x2⟩
          unfold chs; rw [if_neg hs]; exact .cons s (.cons s2 (.nil _))
        · exact .inr ⟨3, by decide, fun k hk => putNum_great2 (own_ok he) hv (by omega) (by omega) (by omega) a (fun k _ => put_full k (own_ok s.ok) hf2 (by unfold E3.len at hl2; omega)) k hk⟩
      · exact .inr ⟨3, by decide, fun k hk => putNum_great1 (own_ok he) hv (by omega) (by omega) (by omega) (fun k _ => put_full k (own_ok he) hf (by unfold E3.len at hl; omega)) (by decide) k hk⟩
theorem tn_run {F : List Int} {e e' : E3} {v n : Int} (he : e.ok) (hv : 0 ≤ v) (h1 : v < n) (h2 : n ≤ 4294967296) (hr : Run e (chs v n) e') (hb : Bytes F) (hF : F.length ≤ 9000) (hx : Ext F e') :
    tn F (Cd F e) e.2.1 ((e.len + 4 : Nat) : Int) n = (Cd F e', e'.2.1, ((e'.len + 4 : Nat) : Int), v) := by
  unfold chs at hr
  unfold tn
  by_cases hs : n ≤ 65536
  · rw [if_pos hs] at hr
    rw [if_pos hs]
    cases hr with
    | cons s hr =>
      cases hr
      obtain ⟨g0, g1, g2⟩ := ext_back he s hb hx
      have hg := gt_in he.2.2.1 he.2.2.2.1 s.fair g1 g2
      have e1 : gt (Cd F e) e.2.1 n = v := by omega
      dsimp only
      rw [e1, tk_eq he s hb hx]
  · rw [if_neg hs] at hr
    rw [if_neg hs]
    cases hr with
    | cons s hr =>
      cases hr with
      | cons s2 hr =>
        cases hr
        obtain ⟨q0, q1, q2⟩ := ext_back s.ok s2 hb hx
        obtain ⟨g0, g1, g2⟩ := ext_back he s hb q0
        have hg := gt_in he.2.2.1 he.2.2.2.1 s.fair g1 g2
        have hq := gt_in s.ok.2.2.1 s.ok.2.2.2.1 s2.fair q1 q2
        have e1 : gt (Cd F e) e.2.1 (half1 n) = v / 65536 := by omega
        dsimp only
        rw [e1, tk_eq he s hb q0]
        dsimp only
        rw [show gt _ _ 65536 = v % 65536 by omega, tk_eq s.ok s2 hb hx]
        dsimp only
        rw [show (if n - 1 < v / 65536 * 65536 + v % 65536 then n - 1 else v / 65536 * 65536 + v % 65536) = v by split <;> omega]
end Go.Proofs.Ytkaoiblgfpphoaa.Cod
