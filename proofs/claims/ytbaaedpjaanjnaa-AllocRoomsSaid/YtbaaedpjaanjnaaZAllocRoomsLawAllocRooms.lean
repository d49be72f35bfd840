/- The law AllocRooms holds: its row out of its pure statement, and that one's proof. -/
import Derived.Test.YtbaaedpjaanjnaaZAllocRoomsRowAllocRooms
import Derived.Test.YtbaaedpjaanjnaaZAllocRoomsPureAllocRooms
namespace Go.Proofs.Ytbaaedpjaanjnaa
theorem allocRooms_holds : Rows.AllocRoomsSaid := allocRooms.of_pure allocRooms.pure
#print axioms allocRooms_holds
end Go.Proofs.Ytbaaedpjaanjnaa
