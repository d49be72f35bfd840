/- The law PvqSquares holds: its row out of its pure statement, and that one's proof. -/
import Derived.Test.YtllgjhenbchkfaaZPvqSquaresRowPvqSquares
import Derived.Test.YtllgjhenbchkfaaZPvqSquaresPurePvqSquares
namespace Go.Proofs.Ytllgjhenbchkfaa
theorem pvqSquares_holds : Rows.PvqSquaresSaid := pvqSquares.of_pure pvqSquares.pure
#print axioms pvqSquares_holds
end Go.Proofs.Ytllgjhenbchkfaa
