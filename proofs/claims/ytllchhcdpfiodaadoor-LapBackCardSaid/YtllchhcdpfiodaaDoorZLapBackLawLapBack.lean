/- The law LapBack holds: its row out of its pure statement, with the listed variable tied to the program's text (the given tie). -/
import Derived.Test.YtllchhcdpfiodaaDoorZLapBackRowLapBack
import Derived.Test.YtllchhcdpfiodaaDoorZLapBackPureLapBack
import Derived.Test.YtllchhcdpfiodaaDoorTie
import Derived.Test.YtllchhcdpfiodaaDoorCards
import Derived.SevenTiedAt
namespace Go.Proofs.YtllchhcdpfiodaaDoor
open Go
theorem lapBack_row : Rows.LapBackSaid := lapBack.of_pure lapBack.pure
theorem lapBack_holds : Rows.LapBackCardSaid :=
  Claim7.holds_tied_plain_at .later [] [.data] true (true, "8638fc0fe754741ea9dbcc459025a83affa5426b0c39cdcea04ae0ea3c6db5a2") false
    lapBack_row (fun _ h => by cases h) (by kernel_rfl) (fun _ h => by cases h) lapBack_row_tie rfl ⟨rfl, rfl⟩ (by kernel_rfl) rfl
    (fun f fn hf hfn => by
      obtain rfl : f = 8 := Option.some.inj ((show Tryd.prog.funcNamed "psaltery/psalterylaw09.LapBack" = some 8 by kernel_rfl).symm.trans hf) |>.symm
      obtain rfl : fn = Tryd.f8 := (Option.some.inj (Tryd.func8.symm.trans hfn)).symm
      exact ⟨by kernel_rfl, fun j t ht => by
        rw [Tryd.params8] at ht
        have hm : t ∈ [22, 5] := by simpa using Array.mem_of_getElem? ht
        have hall : ([22, 5].all fun u => !Tryd.prog.wantsStandIn u) = true := by kernel_rfl
        exact (show Tryd.prog.wantsStandIn t = false by simpa using List.all_eq_true.1 hall t hm)⟩)
    (by kernel_rfl)
#print axioms lapBack_holds
end Go.Proofs.YtllchhcdpfiodaaDoor
