/- The law PvqNorms holds: its row out of its pure statement, and that one's proof. -/
import Derived.Test.YtllgjhenbchkfaaZPvqNormsRowPvqNorms
import Derived.Test.YtllgjhenbchkfaaZPvqNormsPurePvqNorms
namespace Go.Proofs.Ytllgjhenbchkfaa
theorem pvqNorms_holds : Rows.PvqNormsSaid := pvqNorms.of_pure pvqNorms.pure
#print axioms pvqNorms_holds
end Go.Proofs.Ytllgjhenbchkfaa
