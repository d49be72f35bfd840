/- The law ToneEncodes holds: its row out of its pure statement, and that one's proof. -/
import Derived.Test.YtifkhfnmbiefaaaZToneEncodesRowToneEncodes
import Derived.Test.YtifkhfnmbiefaaaZToneEncodesPureToneEncodes
namespace Go.Proofs.Ytifkhfnmbiefaaa
theorem toneEncodes_holds : Rows.ToneEncodesSaid := toneEncodes.of_pure toneEncodes.pure
#print axioms toneEncodes_holds
end Go.Proofs.Ytifkhfnmbiefaaa
