/- The law ToneAny holds: its row out of its pure statement, and that one's proof. -/
import Derived.Test.YtifkhfnmbiefaaaZToneAnyRowToneAny
import Derived.Test.YtifkhfnmbiefaaaZToneAnyPureToneAny
namespace Go.Proofs.Ytifkhfnmbiefaaa
theorem toneAny_holds : Rows.ToneAnySaid := toneAny.of_pure toneAny.pure
#print axioms toneAny_holds
end Go.Proofs.Ytifkhfnmbiefaaa
