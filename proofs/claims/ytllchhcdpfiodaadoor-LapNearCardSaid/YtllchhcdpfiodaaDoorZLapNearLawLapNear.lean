/- The law LapNear holds: its row out of its pure statement, with the listed variable tied to the program's text (the given tie). -/
import Derived.Test.YtllchhcdpfiodaaDoorZLapNearRowLapNear
import Derived.Test.YtllchhcdpfiodaaDoorZLapNearPureLapNear
import Derived.Test.YtllchhcdpfiodaaDoorTie
import Derived.Test.YtllchhcdpfiodaaDoorCards
import Derived.SevenTiedAt
namespace Go.Proofs.YtllchhcdpfiodaaDoor
open Go
theorem lapNear_row : Rows.LapNearSaid := lapNear.of_pure lapNear.pure
theorem lapNear_holds : Rows.LapNearCardSaid :=
  Claim7.holds_tied_plain_at .later [] [.data] true (true, "8638fc0fe754741ea9dbcc459025a83affa5426b0c39cdcea04ae0ea3c6db5a2") false
    lapNear_row (fun _ h => by cases h) (by kernel_rfl) (fun _ h => by cases h) lapNear_row_tie rfl ⟨rfl, rfl⟩ (by kernel_rfl) rfl
    (fun f fn hf hfn => by
      obtain rfl : f = 9 := Option.some.inj ((show Tryd.prog.funcNamed "psaltery/psalterylaw09.LapNear" = some 9 by kernel_rfl).symm.trans hf) |>.symm
      obtain rfl : fn = Tryd.f9 := (Option.some.inj (Tryd.func9.symm.trans hfn)).symm
      exact ⟨by kernel_rfl, fun j t ht => by
        rw [Tryd.params9] at ht
        have hm : t ∈ [22, 3, 2, 5] := by simpa using Array.mem_of_getElem? ht
        have hall : ([22, 3, 2, 5].all fun u => !Tryd.prog.wantsStandIn u) = true := by kernel_rfl
        exact (show Tryd.prog.wantsStandIn t = false by simpa using List.all_eq_true.1 hall t hm)⟩)
    (by kernel_rfl)
#print axioms lapNear_holds
end Go.Proofs.YtllchhcdpfiodaaDoor
