/- The law ToneWrites holds: its row out of its pure statement, and that one's proof. -/
import Derived.Test.YtifkhfnmbiefaaaZToneWritesRowToneWrites
import Derived.Test.YtifkhfnmbiefaaaZToneWritesPureToneWrites
namespace Go.Proofs.Ytifkhfnmbiefaaa
theorem toneWrites_holds : Rows.ToneWritesSaid := toneWrites.of_pure toneWrites.pure
#print axioms toneWrites_holds
end Go.Proofs.Ytifkhfnmbiefaaa
