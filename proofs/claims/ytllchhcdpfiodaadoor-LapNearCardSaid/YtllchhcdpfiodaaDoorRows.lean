/-
  NARROWER THAN 'FOR EVERY INPUT', by the rows' own cells (each row's printed sentence says how): LapTurns: laid · LapBacks: laid · LapFrames: laid · LapSignals: laid · LapBorder: laid · LapBack: laid · LapNear: laid.
  DERIVED. THE GIVEN ROWS OF THIS SEAT. 7 by the template 'for every input the law returns true; each argument reads behind the call as it read before'; 0 by the template 'total and deterministic' (their statements: YtllchhcdpfiodaaDoorTotals.lean).
  GIVEN WITH THE SEED: the statements are not yours to turn. If you find one false, say at which input.
  Laid BY PROGRAM, IN A SANDBOX (cutbox-rows.mjs): the forced cells as the released guide's own fill.sh prints them over the translation be686730ad0f3062… (all of the seat's roots in one cut). By AI agents, Wed Nov 11 2026. No macro, syntax, notation, axiom, sorry.
-/
import Derived.Test.YtllchhcdpfiodaaDoorChecked
import GoSem.Claim
import GoSem.ClaimJoined
import GoSem.ClaimMapViews
import Derived.JoinedTies
import Derived.KernelRfl
namespace Go.Proofs.YtllchhcdpfiodaaDoor
/- THE CELL 'sum', in the pinned program and in every row, IS THE sha256 OF THE DUMP (.gsa) THAT YtllchhcdpfiodaaDoorProg.lean LOADS. Nothing in Lean hashes anything: it is a label: what it is worth is what the hold of that sum in a sandbox is worth. -/
noncomputable def Tryd.pinned : Pinned := { name := "ytllchhcdpfiodaadoor", sum := "be686730ad0f3062232bf0f0ea8e5bd86d57733177b0014f1cb6637dff55186f", checked := Tryd.checked }
namespace Rows
def none {H : Type} : Left H := { results := [], args := [] }

/- WHAT THE LISTED PACKAGE-LEVEL VARIABLES READ AS WHEN THE CALL BEGINS. Each datum BY PROGRAM (the guide's laid-datum.mjs) off the statement by which the dump's own 'gosem.cut.vars' lays the variable. In a bare row this is a premise. The card (YtllchhcdpfiodaaDoorCards.lean) ties it to the program's text. -/
def laid_psaltery_lap_weights {H : Type} : DataW H := .agg [.lit (.int .i64 7), .lit (.int .i64 5), .lit (.int .i64 3), .lit (.int .i64 1)]

/-- 'psalterylaw09.LapTurns': WHATEVER THE INPUT: true; the input reads as it did. -/
def lapTurnsSpec : ChangeSpec := { name := "lapTurns", fn := fun _ => fun
  | [d1, d2] => { results := [.lit (.bool true)], args := [d1, d2] }
  | _ => none }
def lapTurnsRow : OpenClaim := { program := "ytllchhcdpfiodaadoor", sum := "be686730ad0f3062232bf0f0ea8e5bd86d57733177b0014f1cb6637dff55186f", func := "psaltery/psalterylaw09.LapTurns", spec := "lapTurns", unfollowed := true, recurses := true, named := ["psaltery/lap.weights"], apart := false, laid := [("psaltery/lap.weights", laid_psaltery_lap_weights)] }
def LapTurnsSaid : Prop := lapTurnsRow.holds Tryd.pinned (OpenSpec.ofChange lapTurnsSpec)

/-- ITS FALSE NEIGHBOUR: 'it returns false'. Refute it at one input. -/
def lapTurnsWrong : ChangeSpec := { name := "lapTurns", fn := fun _ => fun
  | [d1, d2] => { results := [.lit (.bool false)], args := [d1, d2] }
  | _ => none }
def LapTurnsWrongFalsely : Prop := lapTurnsRow.holds Tryd.pinned (OpenSpec.ofChange lapTurnsWrong)

/-- 'psalterylaw09.LapBacks': WHATEVER THE INPUT: true; the input reads as it did. -/
def lapBacksSpec : ChangeSpec := { name := "lapBacks", fn := fun _ => fun
  | [d1, d2] => { results := [.lit (.bool true)], args := [d1, d2] }
  | _ => none }
def lapBacksRow : OpenClaim := { program := "ytllchhcdpfiodaadoor", sum := "be686730ad0f3062232bf0f0ea8e5bd86d57733177b0014f1cb6637dff55186f", func := "psaltery/psalterylaw09.LapBacks", spec := "lapBacks", unfollowed := true, recurses := true, named := ["psaltery/lap.weights"], apart := false, laid := [("psaltery/lap.weights", laid_psaltery_lap_weights)] }
def LapBacksSaid : Prop := lapBacksRow.holds Tryd.pinned (OpenSpec.ofChange lapBacksSpec)

/-- ITS FALSE NEIGHBOUR: 'it returns false'. Refute it at one input. -/
def lapBacksWrong : ChangeSpec := { name := "lapBacks", fn := fun _ => fun
  | [d1, d2] => { results := [.lit (.bool false)], args := [d1, d2] }
  | _ => none }
def LapBacksWrongFalsely : Prop := lapBacksRow.holds Tryd.pinned (OpenSpec.ofChange lapBacksWrong)

/-- 'psalterylaw09.LapFrames': WHATEVER THE INPUT: true; the input reads as it did. -/
def lapFramesSpec : ChangeSpec := { name := "lapFrames", fn := fun _ => fun
  | [d1, d2] => { results := [.lit (.bool true)], args := [d1, d2] }
  | _ => none }
def lapFramesRow : OpenClaim := { program := "ytllchhcdpfiodaadoor", sum := "be686730ad0f3062232bf0f0ea8e5bd86d57733177b0014f1cb6637dff55186f", func := "psaltery/psalterylaw09.LapFrames", spec := "lapFrames", unfollowed := true, recurses := true, named := ["psaltery/lap.weights"], apart := false, laid := [("psaltery/lap.weights", laid_psaltery_lap_weights)] }
def LapFramesSaid : Prop := lapFramesRow.holds Tryd.pinned (OpenSpec.ofChange lapFramesSpec)

/-- ITS FALSE NEIGHBOUR: 'it returns false'. Refute it at one input. -/
def lapFramesWrong : ChangeSpec := { name := "lapFrames", fn := fun _ => fun
  | [d1, d2] => { results := [.lit (.bool false)], args := [d1, d2] }
  | _ => none }
def LapFramesWrongFalsely : Prop := lapFramesRow.holds Tryd.pinned (OpenSpec.ofChange lapFramesWrong)

/-- 'psalterylaw09.LapSignals': WHATEVER THE INPUT: true; the input reads as it did. -/
def lapSignalsSpec : ChangeSpec := { name := "lapSignals", fn := fun _ => fun
  | [d1, d2] => { results := [.lit (.bool true)], args := [d1, d2] }
  | _ => none }
def lapSignalsRow : OpenClaim := { program := "ytllchhcdpfiodaadoor", sum := "be686730ad0f3062232bf0f0ea8e5bd86d57733177b0014f1cb6637dff55186f", func := "psaltery/psalterylaw09.LapSignals", spec := "lapSignals", unfollowed := true, recurses := true, named := ["psaltery/lap.weights"], apart := false, laid := [("psaltery/lap.weights", laid_psaltery_lap_weights)] }
def LapSignalsSaid : Prop := lapSignalsRow.holds Tryd.pinned (OpenSpec.ofChange lapSignalsSpec)

/-- ITS FALSE NEIGHBOUR: 'it returns false'. Refute it at one input. -/
def lapSignalsWrong : ChangeSpec := { name := "lapSignals", fn := fun _ => fun
  | [d1, d2] => { results := [.lit (.bool false)], args := [d1, d2] }
  | _ => none }
def LapSignalsWrongFalsely : Prop := lapSignalsRow.holds Tryd.pinned (OpenSpec.ofChange lapSignalsWrong)

/-- 'psalterylaw09.LapBorder': WHATEVER THE INPUT: true; the input reads as it did. -/
def lapBorderSpec : ChangeSpec := { name := "lapBorder", fn := fun _ => fun
  | [d1, d2] => { results := [.lit (.bool true)], args := [d1, d2] }
  | _ => none }
def lapBorderRow : OpenClaim := { program := "ytllchhcdpfiodaadoor", sum := "be686730ad0f3062232bf0f0ea8e5bd86d57733177b0014f1cb6637dff55186f", func := "psaltery/psalterylaw09.LapBorder", spec := "lapBorder", unfollowed := true, recurses := true, named := ["psaltery/lap.weights"], apart := false, laid := [("psaltery/lap.weights", laid_psaltery_lap_weights)] }
def LapBorderSaid : Prop := lapBorderRow.holds Tryd.pinned (OpenSpec.ofChange lapBorderSpec)

/-- ITS FALSE NEIGHBOUR: 'it returns false'. Refute it at one input. -/
def lapBorderWrong : ChangeSpec := { name := "lapBorder", fn := fun _ => fun
  | [d1, d2] => { results := [.lit (.bool false)], args := [d1, d2] }
  | _ => none }
def LapBorderWrongFalsely : Prop := lapBorderRow.holds Tryd.pinned (OpenSpec.ofChange lapBorderWrong)

/-- 'psalterylaw09.LapBack': WHATEVER THE INPUT: true; the input reads as it did. -/
def lapBackSpec : ChangeSpec := { name := "lapBack", fn := fun _ => fun
  | [d1, d2] => { results := [.lit (.bool true)], args := [d1, d2] }
  | _ => none }
def lapBackRow : OpenClaim := { program := "ytllchhcdpfiodaadoor", sum := "be686730ad0f3062232bf0f0ea8e5bd86d57733177b0014f1cb6637dff55186f", func := "psaltery/psalterylaw09.LapBack", spec := "lapBack", unfollowed := true, recurses := true, named := ["psaltery/lap.weights"], apart := false, laid := [("psaltery/lap.weights", laid_psaltery_lap_weights)] }
def LapBackSaid : Prop := lapBackRow.holds Tryd.pinned (OpenSpec.ofChange lapBackSpec)

/-- ITS FALSE NEIGHBOUR: 'it returns false'. Refute it at one input. -/
def lapBackWrong : ChangeSpec := { name := "lapBack", fn := fun _ => fun
  | [d1, d2] => { results := [.lit (.bool false)], args := [d1, d2] }
  | _ => none }
def LapBackWrongFalsely : Prop := lapBackRow.holds Tryd.pinned (OpenSpec.ofChange lapBackWrong)

/-- 'psalterylaw09.LapNear': WHATEVER THE INPUT: true; the input reads as it did. -/
def lapNearSpec : ChangeSpec := { name := "lapNear", fn := fun _ => fun
  | [d1, d2, d3, d4] => { results := [.lit (.bool true)], args := [d1, d2, d3, d4] }
  | _ => none }
def lapNearRow : OpenClaim := { program := "ytllchhcdpfiodaadoor", sum := "be686730ad0f3062232bf0f0ea8e5bd86d57733177b0014f1cb6637dff55186f", func := "psaltery/psalterylaw09.LapNear", spec := "lapNear", unfollowed := true, recurses := true, named := ["psaltery/lap.weights"], apart := false, laid := [("psaltery/lap.weights", laid_psaltery_lap_weights)] }
def LapNearSaid : Prop := lapNearRow.holds Tryd.pinned (OpenSpec.ofChange lapNearSpec)

/-- ITS FALSE NEIGHBOUR: 'it returns false'. Refute it at one input. -/
def lapNearWrong : ChangeSpec := { name := "lapNear", fn := fun _ => fun
  | [d1, d2, d3, d4] => { results := [.lit (.bool false)], args := [d1, d2, d3, d4] }
  | _ => none }
def LapNearWrongFalsely : Prop := lapNearRow.holds Tryd.pinned (OpenSpec.ofChange lapNearWrong)

/- THE SECOND FORM. 'bulk': how many values and letters a reading holds, each counted each time it is reached (what is shared counts as often as it is met; a slice's spare places count too). A statement '..UptoSaid' is the law's where the arguments, and the package variables that the reading takes, are together of bulk at most 1048576: NARROWER than '..Said'. Prove '..Said' where nothing that the law and all that it calls make is longer than what came in: it says more and counts as full. Else prove '..UptoSaid'. A law counts once. -/
mutual
def uptoBulk {H : Type} : DataW H → Nat
  | .lit (.string bytes) => bytes.length + 1
  | .lit _ => 1
  | .nil => 1
  | .ptr d => uptoBulk d + 1
  | .slice elems spare => uptoBulkAll elems + uptoBulkAll spare + 1
  | .agg parts => uptoBulkAll parts + 1
  | .iface _ d => uptoBulk d + 1
  | .map entries => uptoBulkEntries entries + 1
  | .held _ => 1
def uptoBulkAll {H : Type} : List (DataW H) → Nat
  | [] => 0
  | d :: r => uptoBulk d + uptoBulkAll r
def uptoBulkEntries {H : Type} : List (Lit × DataW H) → Nat
  | [] => 0
  | x :: r => uptoBulkEntry x + uptoBulkEntries r
def uptoBulkEntry {H : Type} : Lit × DataW H → Nat
  | (.string bytes, d) => bytes.length + uptoBulk d + 1
  | (_, d) => uptoBulk d + 1
 end
def uptoSmall : (H : Type) → List (DataW H) → Bool := fun _ ds => decide (uptoBulkAll ds ≤ 1048576)
def OpenSpec.upto (s : _root_.Go.ChangeSpec) : _root_.Go.OpenSpec := { _root_.Go.OpenSpec.ofChange s with cond := some uptoSmall }

/-- 'psalterylaw09.LapTurns', WHERE WHAT IT READS IS OF BULK AT MOST 1048576: true; the input reads as it did. -/
def lapTurnsUptoRow : OpenClaim := { program := "ytllchhcdpfiodaadoor", sum := "be686730ad0f3062232bf0f0ea8e5bd86d57733177b0014f1cb6637dff55186f", func := "psaltery/psalterylaw09.LapTurns", spec := "lapTurns", unfollowed := true, recurses := true, named := ["psaltery/lap.weights"], apart := false, laid := [("psaltery/lap.weights", laid_psaltery_lap_weights)], narrowed := true }
def LapTurnsUptoSaid : Prop := lapTurnsUptoRow.holds Tryd.pinned (OpenSpec.upto lapTurnsSpec)

/-- 'psalterylaw09.LapBacks', WHERE WHAT IT READS IS OF BULK AT MOST 1048576: true; the input reads as it did. -/
def lapBacksUptoRow : OpenClaim := { program := "ytllchhcdpfiodaadoor", sum := "be686730ad0f3062232bf0f0ea8e5bd86d57733177b0014f1cb6637dff55186f", func := "psaltery/psalterylaw09.LapBacks", spec := "lapBacks", unfollowed := true, recurses := true, named := ["psaltery/lap.weights"], apart := false, laid := [("psaltery/lap.weights", laid_psaltery_lap_weights)], narrowed := true }
def LapBacksUptoSaid : Prop := lapBacksUptoRow.holds Tryd.pinned (OpenSpec.upto lapBacksSpec)

/-- 'psalterylaw09.LapFrames', WHERE WHAT IT READS IS OF BULK AT MOST 1048576: true; the input reads as it did. -/
def lapFramesUptoRow : OpenClaim := { program := "ytllchhcdpfiodaadoor", sum := "be686730ad0f3062232bf0f0ea8e5bd86d57733177b0014f1cb6637dff55186f", func := "psaltery/psalterylaw09.LapFrames", spec := "lapFrames", unfollowed := true, recurses := true, named := ["psaltery/lap.weights"], apart := false, laid := [("psaltery/lap.weights", laid_psaltery_lap_weights)], narrowed := true }
def LapFramesUptoSaid : Prop := lapFramesUptoRow.holds Tryd.pinned (OpenSpec.upto lapFramesSpec)

/-- 'psalterylaw09.LapSignals', WHERE WHAT IT READS IS OF BULK AT MOST 1048576: true; the input reads as it did. -/
def lapSignalsUptoRow : OpenClaim := { program := "ytllchhcdpfiodaadoor", sum := "be686730ad0f3062232bf0f0ea8e5bd86d57733177b0014f1cb6637dff55186f", func := "psaltery/psalterylaw09.LapSignals", spec := "lapSignals", unfollowed := true, recurses := true, named := ["psaltery/lap.weights"], apart := false, laid := [("psaltery/lap.weights", laid_psaltery_lap_weights)], narrowed := true }
def LapSignalsUptoSaid : Prop := lapSignalsUptoRow.holds Tryd.pinned (OpenSpec.upto lapSignalsSpec)

/-- 'psalterylaw09.LapBorder', WHERE WHAT IT READS IS OF BULK AT MOST 1048576: true; the input reads as it did. -/
def lapBorderUptoRow : OpenClaim := { program := "ytllchhcdpfiodaadoor", sum := "be686730ad0f3062232bf0f0ea8e5bd86d57733177b0014f1cb6637dff55186f", func := "psaltery/psalterylaw09.LapBorder", spec := "lapBorder", unfollowed := true, recurses := true, named := ["psaltery/lap.weights"], apart := false, laid := [("psaltery/lap.weights", laid_psaltery_lap_weights)], narrowed := true }
def LapBorderUptoSaid : Prop := lapBorderUptoRow.holds Tryd.pinned (OpenSpec.upto lapBorderSpec)

/-- 'psalterylaw09.LapBack', WHERE WHAT IT READS IS OF BULK AT MOST 1048576: true; the input reads as it did. -/
def lapBackUptoRow : OpenClaim := { program := "ytllchhcdpfiodaadoor", sum := "be686730ad0f3062232bf0f0ea8e5bd86d57733177b0014f1cb6637dff55186f", func := "psaltery/psalterylaw09.LapBack", spec := "lapBack", unfollowed := true, recurses := true, named := ["psaltery/lap.weights"], apart := false, laid := [("psaltery/lap.weights", laid_psaltery_lap_weights)], narrowed := true }
def LapBackUptoSaid : Prop := lapBackUptoRow.holds Tryd.pinned (OpenSpec.upto lapBackSpec)

/-- 'psalterylaw09.LapNear', WHERE WHAT IT READS IS OF BULK AT MOST 1048576: true; the input reads as it did. -/
def lapNearUptoRow : OpenClaim := { program := "ytllchhcdpfiodaadoor", sum := "be686730ad0f3062232bf0f0ea8e5bd86d57733177b0014f1cb6637dff55186f", func := "psaltery/psalterylaw09.LapNear", spec := "lapNear", unfollowed := true, recurses := true, named := ["psaltery/lap.weights"], apart := false, laid := [("psaltery/lap.weights", laid_psaltery_lap_weights)], narrowed := true }
def LapNearUptoSaid : Prop := lapNearUptoRow.holds Tryd.pinned (OpenSpec.upto lapNearSpec)

end Rows
end Go.Proofs.YtllchhcdpfiodaaDoor
