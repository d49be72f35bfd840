/- The law PvqShapes holds: its row out of its pure statement, and that one's proof. -/
import Derived.Test.YtllgjhenbchkfaaZPvqShapesRowPvqShapes
import Derived.Test.YtllgjhenbchkfaaZPvqShapesPurePvqShapes
namespace Go.Proofs.Ytllgjhenbchkfaa
theorem pvqShapes_holds : Rows.PvqShapesSaid := pvqShapes.of_pure pvqShapes.pure
#print axioms pvqShapes_holds
end Go.Proofs.Ytllgjhenbchkfaa
