-- Lemmas that the printed proofs use: of the printer's words, what this claim needs (wip/tools/trim.py).
import Derived.Test.YtifkhfnmbiefaaaZToneWritesWApart
import Derived.Test.YtifkhfnmbiefaaaZToneWritesWArr
namespace Go.Proofs.YtifkhfnmbiefaaaW.PrintWords
open Go.RowKit
section
variable {P : Program}
end
namespace Kd
section
variable {P : Program} {ops : Array Oper} {rest : List Oper} {o : Oper} {a : Act} {Q : Exit→Act→World→Prop} {Kc : Act→World→Prop} {α : Type}
end
section
variable {α : Type} {d : Kd α} {e : Nat} {w : World} {base : Nat} {ok : Nat→Prop} {v : Value} {xs : List α}
end
section
variable {P : Program} {ops : Array Oper} {rest : List Oper} {o : Oper} {a : Act} {Q : Exit→Act→World→Prop} {Kc : Act→World→Prop} {α : Type}
end
end Kd
end Go.Proofs.YtifkhfnmbiefaaaW.PrintWords
