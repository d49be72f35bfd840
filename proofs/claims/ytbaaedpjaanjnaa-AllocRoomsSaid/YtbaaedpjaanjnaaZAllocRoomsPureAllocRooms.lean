/- AllocRooms, over numbers: which shapes are right, and how much room there is. -/
import Derived.Test.YtbaaedpjaanjnaaZAllocRoomsAloK
import Derived.Test.YtbaaedpjaanjnaaZAllocRoomsPuAllocRooms
namespace Go.Proofs.Ytbaaedpjaanjnaa.allocRooms
open Go Go.RowKit Go.Proofs.YtbaaedpjaanjnaaW.PrintWords Go.Proofs.Ytbaaedpjaanjnaa.Prt Go.Proofs.Ytbaaedpjaanjnaa.Alo
theorem pure : Pu := by
  intro a b ha hb
  refine ⟨300, ?_⟩
  unfold psalterylaw12_AllocRooms.f
  rw [(right_f a b).1, Option.bind_some, (right_f a b).2, Option.bind_some, if_pos (by simp)]
  cases h : rightB a b
  · rw [(room_bad h).1, Option.bind_some, (room_bad h).2, Option.bind_some, if_pos rfl, knows_k _ (by omega)]
    rfl
  · rw [(room_ok h).1, Option.bind_some, (room_ok h).2, Option.bind_some, if_pos rfl, knows_k _ (by omega)]
    rfl
end Go.Proofs.Ytbaaedpjaanjnaa.allocRooms
