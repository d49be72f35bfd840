/- The law ToneNorms holds: its row out of its pure statement, and that one's proof. -/
import Derived.Test.YtifkhfnmbiefaaaZToneNormsRowToneNorms
import Derived.Test.YtifkhfnmbiefaaaZToneNormsPureToneNorms
namespace Go.Proofs.Ytifkhfnmbiefaaa
theorem toneNorms_holds : Rows.ToneNormsSaid := toneNorms.of_pure toneNorms.pure
#print axioms toneNorms_holds
end Go.Proofs.Ytifkhfnmbiefaaa
