-- Lemmas that the printed proofs use: of the printer's words, what this claim needs (wip/tools/trim.py).
import Derived.Test.YtifkhfnmbiefaaaZToneWritesWTab
namespace Go.Proofs.YtifkhfnmbiefaaaW.PrintLast
section
variable {P : Program} {ops : Array Oper} {Q : Exit→Act→World→Prop} {md : Region.Mode} {S : World→Prop} {ds : List Nat} {T : Bool × List (List Nat × List Nat)}
end
end Go.Proofs.YtifkhfnmbiefaaaW.PrintLast
