/- What a law's parameter reads as: typed data out of the row's own reading. A structure of lemmas, kind by kind. -/
import Derived.Test.YtllgjhenbchkfaaZPvqAloneWMore
import Derived.Lib.SmallJoins
import Derived.ChangeSlices
namespace Go.Proofs.Ytllgjhenbchkfaa.Rd
open Go.ChangeShapes Go.WideShapes Go.Joins Go.Deep Go.Proofs.YtllgjhenbchkfaaW.PrintWords

structure Opens {α : Type} (P : Program) (t : TypeId) (d : Kd α) (ok : α → Prop) : Prop where
  cells : P.cellsOf t = d.sz
  opens : ∀ {H : Type} {enc : TypeId × Value → H} {w : World} {spare : Nat → Bool} {held : Bool} {fuel : Nat} {cs : List Value} {x : DataW H × List MemPlace},
    DataW.trod enc P w 0 spare held fuel t cs = some x → ∃ a : α, d.K w a cs ∧ ok a

variable {P : Program} {t e : TypeId}
theorem Opens.int {k : IntKind} (ht : P.underlying t = some (.int k)) (hc : P.cellsOf t = 1) : Opens P t (Kd.int k) (fun a => (Lit.int k a).wf = true) :=
  ⟨hc, fun h => by obtain ⟨n, rfl, _, hw⟩ := DataW.trod_int ht h; exact ⟨n, rfl, hw⟩⟩
theorem Opens.mono {α : Type} {d : Kd α} {ok ok' : α → Prop} (h : Opens P t d ok) (hok : ∀ a, ok a → ok' a) : Opens P t d ok' :=
  ⟨h.cells, fun hx => by obtain ⟨a, ha, ho⟩ := h.opens hx; exact ⟨a, ha, hok a ho⟩⟩
end Go.Proofs.Ytllgjhenbchkfaa.Rd
