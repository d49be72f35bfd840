import Derived.Test.YtnmbndkojpjkmaaZPackRightsPrt0
import Derived.Test.YtnmbndkojpjkmaaZPackRightsWMore
import Derived.Test.YtnmbndkojpjkmaaZPackRightsWKept
namespace Go.Proofs.Ytnmbndkojpjkmaa.Prt
open Go.RowKit Go.Proofs.YtnmbndkojpjkmaaW.PrintWords Go.Proofs.YtnmbndkojpjkmaaW.PrintLast Go.Proofs.YtnmbndkojpjkmaaW.PrintMore
set_option linter.unusedVariables false
section
variable {w W W2 w1 : World} {g g' : Nat} {o : Obj}
end
section
variable {α : Type} {D : Kd α} {e base g n : Nat} {ok : Nat→Prop} {v : Value} {xs : List α} {W W2 : World}
end
section
variable {t : TypeId} {a b c d e f : Value} {w : World} {g : Nat}
end
section
variable {P : Program} {ops : Array Oper} {rest : List Oper} {o : Oper} {a : Act} {Q : Exit→Act→World→Prop}
end
section
variable {P : Program} {ops : Array Oper} {Q : Exit→Act→World→Prop} {md : Region.Mode} {S : World→Prop} {ds : List Nat} {oi : Oper} {v : Value} {fuel : Nat} {l l' : Array Bool} {a a' : Act} {w : World} {T : Bool × List (List Nat × List Nat)} {B : List Nat}
end
end Go.Proofs.Ytnmbndkojpjkmaa.Prt
