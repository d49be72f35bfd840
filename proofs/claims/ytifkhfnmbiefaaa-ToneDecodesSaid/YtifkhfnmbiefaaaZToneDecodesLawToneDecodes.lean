/- The law ToneDecodes holds: its row out of its pure statement, and that one's proof. -/
import Derived.Test.YtifkhfnmbiefaaaZToneDecodesRowToneDecodes
import Derived.Test.YtifkhfnmbiefaaaZToneDecodesPureToneDecodes
namespace Go.Proofs.Ytifkhfnmbiefaaa
theorem toneDecodes_holds : Rows.ToneDecodesSaid := toneDecodes.of_pure toneDecodes.pure
#print axioms toneDecodes_holds
end Go.Proofs.Ytifkhfnmbiefaaa
