/- pvq: the examples of the chapter, once for all rounds; alike lists. -/
import Derived.Test.YtllgjhenbchkfaaZPvqAlonePvqS
import Derived.Test.YtllgjhenbchkfaaZPvqAloneM2
import Derived.Test.YtllgjhenbchkfaaZPvqAloneM1
namespace Go.Proofs.Ytllgjhenbchkfaa.Pvq
open Go Go.RowKit Go.Proofs.YtllgjhenbchkfaaW.PrintWords Go.Proofs.Ytllgjhenbchkfaa.Prt Go.Proofs.Ytllgjhenbchkfaa.Com Go.Proofs.Ytllgjhenbchkfaa.PvqN
set_option linter.unusedVariables false
set_option linter.unusedSimpArgs false
set_option maxRecDepth 100000 in
theorem knows_k : Ev (fun k => psalterylaw07_knows.f k) true := Ev.of psalterylaw07_knows.mono (k := 700) (by decide +kernel)
theorem knows_j : Ev (fun k => (psalterylaw07_knows.f k).bind fun t => some t) true := Ev.bind knows_k (Ev.now _)
end Go.Proofs.Ytllgjhenbchkfaa.Pvq
