/- What was put is taken: the decoder's code is the bytes' number less the encoder's, choice by choice. -/
import Derived.Test.YtkaoiblgfpphoaaZGainPutsCodD
namespace Go.Proofs.Ytkaoiblgfpphoaa.Cod
open Go.RowKit Go.Proofs.YtkaoiblgfpphoaaW.PrintWords Go.Proofs.Ytkaoiblgfpphoaa.Prt Go.Proofs.Ytkaoiblgfpphoaa.Val
set_option linter.unusedVariables false
abbrev E3:=Int × Int × List Int
def E3.ok (e : E3) : Prop:=EOk e.1 e.2.1 e.2.2
def E3.num (e : E3) : Int:=Cod.num e.1 e.2.2
def E3.len (e : E3) : Nat:=e.2.2.length
structure St (e e' : E3) (lo hi tot : Int) : Prop where
  fair : Cod.Fair lo hi tot
  ok : e'.ok
  rg : e'.2.1=(prt e.2.1 lo hi tot).1 * pw (mOf (prt e.2.1 lo hi tot).1)
  len : e'.len=e.len+mOf (prt e.2.1 lo hi tot).1
  num : e'.num=(e.num+(prt e.2.1 lo hi tot).2) * pw (mOf (prt e.2.1 lo hi tot).1)
inductive Run : E3→List (Int × Int × Int)→E3→Prop
  | nil (e : E3) : Run e [] e
  | cons {e e' e'' : E3} {lo hi tot : Int} {cs : List (Int × Int × Int)} : St e e' lo hi tot→Run e' cs e''→Run e ((lo,hi,tot) :: cs) e''
theorem Run.append {e e' e'' : E3} {cs ds : List (Int × Int × Int)} (h : Run e cs e') (k : Run e' ds e'') : Run e (cs ++ ds) e'' := by
  induction h with
  | nil=>exact k
  | cons s _ ih=>exact .cons s (ih k)
theorem Run.ok {e e' : E3} {cs : List (Int × Int × Int)} (h : Run e cs e') (he : e.ok) : e'.ok:=by
  induction h with
  | nil=>exact he
  | cons s _ ih=>exact ih s.ok
def all (e : E3) : List Int:=e.2.2 ++ four e.1
end Go.Proofs.Ytkaoiblgfpphoaa.Cod
