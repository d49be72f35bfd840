/- The law CombOrders holds: its row out of its pure statement, and that one's proof. -/
import Derived.Test.YtgjdgpkjdffhkaaZCombOrdersRowCombOrders
import Derived.Test.YtgjdgpkjdffhkaaZCombOrdersPureCombOrders
namespace Go.Proofs.Ytgjdgpkjdffhkaa
theorem combOrders_holds : Rows.CombOrdersSaid := combOrders.of_pure combOrders.pure
#print axioms combOrders_holds
end Go.Proofs.Ytgjdgpkjdffhkaa
