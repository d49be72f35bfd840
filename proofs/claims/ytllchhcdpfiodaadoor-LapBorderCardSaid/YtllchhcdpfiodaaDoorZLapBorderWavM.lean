/- Wave: the lists of a block, level by level, and back; plain arithmetic. -/
import Derived.RowKit
namespace Go.Proofs.YtllchhcdpfiodaaDoor.Wav
open Go Go.RowKit
def inI (v : Int) : Prop := -9223372036854775808 ≤ v ∧ v < 9223372036854775808
-- bounds
end Go.Proofs.YtllchhcdpfiodaaDoor.Wav
