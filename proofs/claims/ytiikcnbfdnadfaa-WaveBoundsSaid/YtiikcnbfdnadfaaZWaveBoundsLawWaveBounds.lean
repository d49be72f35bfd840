/- The law WaveBounds holds: its row out of its pure statement, and that one's proof. -/
import Derived.Test.YtiikcnbfdnadfaaZWaveBoundsRowWaveBounds
import Derived.Test.YtiikcnbfdnadfaaZWaveBoundsPureWaveBounds
namespace Go.Proofs.Ytiikcnbfdnadfaa
theorem waveBounds_holds : Rows.WaveBoundsSaid := waveBounds.of_pure waveBounds.pure
#print axioms waveBounds_holds
end Go.Proofs.Ytiikcnbfdnadfaa
