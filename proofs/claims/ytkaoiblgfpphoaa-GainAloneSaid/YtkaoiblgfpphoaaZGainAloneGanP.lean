/- Gains put: what the program and the document put, step by step. -/
import Derived.Test.YtkaoiblgfpphoaaZGainAloneGanT
import Derived.Test.YtkaoiblgfpphoaaZGainAloneM1
import Derived.Test.YtkaoiblgfpphoaaZGainAloneM2
namespace Go.Proofs.Ytkaoiblgfpphoaa.Gan
open Go.RowKit Go.Proofs.YtkaoiblgfpphoaaW.PrintWords Go.Proofs.YtkaoiblgfpphoaaW.PrintMore Go.Proofs.Ytkaoiblgfpphoaa.Prt Go.Proofs.Ytkaoiblgfpphoaa.Val Go.Proofs.Ytkaoiblgfpphoaa.Cod
set_option linter.unusedVariables false
theorem puts_alone (a b g : List Int) (k : Nat) (lo rg : Int) (out : List Int) : gain_Put.f k lo rg out g a true=gain_Put.f k lo rg out g b true:=by
  have l : ∀ (k : Nat) (i lo1 rg1 lo rg : Int) (out1 out : List Int),gain_Put.l0 k g a true i lo1 rg1 out1 lo rg out=gain_Put.l0 k g b true i lo1 rg1 out1 lo rg out:=by
    intro k
    induction k using Nat.strongRecOn with
    | ind k ih =>
      intro i lo1 rg1 lo rg out1 out
      match k with
      | 0=>simp only [gain_Put.l0]
      | 1=>simp only [gain_Put.l0,gain_Put.j2, ↓reduceIte]
      | k+2 =>
        simp only [gain_Put.l0,gain_Put.j2, ↓reduceIte]
        rw [show (fun bt : Int × Int × List Int × Int=>if bt.2.2.2=0 then gain_Put.l0 k g a true (wrap64 (i+1)) lo1 rg1 out1 bt.1 bt.2.1 bt.2.2.1 else some (lo1,rg1,out1,bt.2.2.2))=(fun bt=>if bt.2.2.2=0 then gain_Put.l0 k g b true (wrap64 (i+1)) lo1 rg1 out1 bt.1 bt.2.1 bt.2.2.1 else some (lo1,rg1,out1,bt.2.2.2)) from funext fun bt=>by rw [ih k (by omega)]]
  have j : ∀ (k : Nat) (x : Bool) (lo1 rg1 lo rg : Int) (out1 out : List Int),gain_Put.j0 k g a true x lo1 rg1 out1 lo rg out=gain_Put.j0 k g b true x lo1 rg1 out1 lo rg out:=by
    intro k x lo1 rg1 lo rg out1 out
    match k with
    | 0=>simp only [gain_Put.j0]
    | k+1=>simp only [gain_Put.j0,l]
  unfold gain_Put.f
  simp only [↓reduceIte,j]
end Go.Proofs.Ytkaoiblgfpphoaa.Gan
