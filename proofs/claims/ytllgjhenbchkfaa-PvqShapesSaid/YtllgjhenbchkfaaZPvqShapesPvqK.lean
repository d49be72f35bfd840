/- pvq: the examples of the chapter, once for all rounds; alike lists. -/
import Derived.Test.YtllgjhenbchkfaaZPvqShapesPvqS
import Derived.Test.YtllgjhenbchkfaaZPvqShapesM2
import Derived.Test.YtllgjhenbchkfaaZPvqShapesM1
namespace Go.Proofs.Ytllgjhenbchkfaa.Pvq
open Go Go.RowKit Go.Proofs.YtllgjhenbchkfaaW.PrintWords Go.Proofs.Ytllgjhenbchkfaa.Prt Go.Proofs.Ytllgjhenbchkfaa.Com Go.Proofs.Ytllgjhenbchkfaa.PvqN
set_option linter.unusedVariables false
set_option linter.unusedSimpArgs false
set_option maxRecDepth 100000 in
theorem knows_k : Ev (fun k => psalterylaw07_knows.f k) true := Ev.of psalterylaw07_knows.mono (k := 700) (by decide +kernel)
theorem knows_j : Ev (fun k => (psalterylaw07_knows.f k).bind fun t => some t) true := Ev.bind knows_k (Ev.now _)
theorem same7_l0 {l : List Int} (hl : l.length ≤ 1000) : ∀ (d i : Nat), i + d = l.length → Ev (fun k => psalteryref07_Same.l0 k l l (i : Int)) true
  | 0, i, h => Ev.step (f := fun _ => some _) (fun k => by rw [psalteryref07_Same.l0, if_neg (by omega)]) (Ev.now _)
  | d + 1, i, h => Ev.step (fun k => by rw [psalteryref07_Same.l0, if_pos (by omega), if_pos (by omega), if_pos (by omega), if_pos rfl, w_succ (n := 1000) (by omega) (by omega)]) (same7_l0 hl d (i + 1) (by omega))
theorem same7_f {l : List Int} (hl : l.length ≤ 1000) : Ev (fun k => psalteryref07_Same.f k l l) true := Ev.congr (fun k => by rw [psalteryref07_Same.f, if_pos rfl]; rfl) (same7_l0 hl l.length 0 (by omega))
end Go.Proofs.Ytllgjhenbchkfaa.Pvq
