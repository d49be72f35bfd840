/-
  No cell of these rows narrows 'for every input' (looked for: loops, veiled, ifaces, maps, wideKeys, modest, calm, conditions, laid).
  DERIVED. THE GIVEN ROWS OF THIS SEAT. 6 by the template 'for every input the law returns true; each argument reads behind the call as it read before'; 0 by the template 'total and deterministic' (their statements: YtbaaedpjaanjnaaTotals.lean).
  GIVEN WITH THE SEED: the statements are not yours to turn. If you find one false, say at which input.
  Laid BY PROGRAM, IN A SANDBOX (cutbox-rows.mjs): the forced cells as the released guide's own fill.sh prints them over the translation 27def02dcde63772… (all of the seat's roots in one cut). By AI agents, Wed Nov 11 2026. No macro, syntax, notation, axiom, sorry.
-/
import Derived.Test.YtbaaedpjaanjnaaChecked
import GoSem.Claim
import GoSem.ClaimJoined
import GoSem.ClaimMapViews
import Derived.JoinedTies
import Derived.KernelRfl
namespace Go.Proofs.Ytbaaedpjaanjnaa
/- THE CELL 'sum', in the pinned program and in every row, IS THE sha256 OF THE DUMP (.gsa) THAT YtbaaedpjaanjnaaProg.lean LOADS. Nothing in Lean hashes anything: it is a label: what it is worth is what the hold of that sum in a sandbox is worth. -/
noncomputable def Try.pinned : Pinned := { name := "ytbaaedpjaanjnaa", sum := "27def02dcde63772d5ed621d946d8814e52989d07a0f82e1d3e1a88a32eded36", checked := Try.checked }
namespace Rows
def none {H : Type} : Left H := { results := [], args := [] }

/-- 'psalterylaw12.AllocRooms': WHATEVER THE INPUT: true; the input reads as it did. -/
def allocRoomsSpec : ChangeSpec := { name := "allocRooms", fn := fun _ => fun
  | [d1, d2] => { results := [.lit (.bool true)], args := [d1, d2] }
  | _ => none }
def allocRoomsRow : OpenClaim := { program := "ytbaaedpjaanjnaa", sum := "27def02dcde63772d5ed621d946d8814e52989d07a0f82e1d3e1a88a32eded36", func := "psaltery/psalterylaw12.AllocRooms", spec := "allocRooms", unfollowed := true, recurses := true, apart := false }
def AllocRoomsSaid : Prop := allocRoomsRow.holds Try.pinned (OpenSpec.ofChange allocRoomsSpec)

/-- ITS FALSE NEIGHBOUR: 'it returns false'. Refute it at one input. -/
def allocRoomsWrong : ChangeSpec := { name := "allocRooms", fn := fun _ => fun
  | [d1, d2] => { results := [.lit (.bool false)], args := [d1, d2] }
  | _ => none }
def AllocRoomsWrongFalsely : Prop := allocRoomsRow.holds Try.pinned (OpenSpec.ofChange allocRoomsWrong)

/-- 'psalterylaw12.AllocGives': WHATEVER THE INPUT: true; the input reads as it did. -/
def allocGivesSpec : ChangeSpec := { name := "allocGives", fn := fun _ => fun
  | [d1, d2, d3] => { results := [.lit (.bool true)], args := [d1, d2, d3] }
  | _ => none }
def allocGivesRow : OpenClaim := { program := "ytbaaedpjaanjnaa", sum := "27def02dcde63772d5ed621d946d8814e52989d07a0f82e1d3e1a88a32eded36", func := "psaltery/psalterylaw12.AllocGives", spec := "allocGives", unfollowed := true, recurses := true, apart := false }
def AllocGivesSaid : Prop := allocGivesRow.holds Try.pinned (OpenSpec.ofChange allocGivesSpec)

/-- ITS FALSE NEIGHBOUR: 'it returns false'. Refute it at one input. -/
def allocGivesWrong : ChangeSpec := { name := "allocGives", fn := fun _ => fun
  | [d1, d2, d3] => { results := [.lit (.bool false)], args := [d1, d2, d3] }
  | _ => none }
def AllocGivesWrongFalsely : Prop := allocGivesRow.holds Try.pinned (OpenSpec.ofChange allocGivesWrong)

/-- 'psalterylaw12.AllocFits': WHATEVER THE INPUT: true; the input reads as it did. -/
def allocFitsSpec : ChangeSpec := { name := "allocFits", fn := fun _ => fun
  | [d1, d2, d3] => { results := [.lit (.bool true)], args := [d1, d2, d3] }
  | _ => none }
def allocFitsRow : OpenClaim := { program := "ytbaaedpjaanjnaa", sum := "27def02dcde63772d5ed621d946d8814e52989d07a0f82e1d3e1a88a32eded36", func := "psaltery/psalterylaw12.AllocFits", spec := "allocFits", unfollowed := true, recurses := true, apart := false }
def AllocFitsSaid : Prop := allocFitsRow.holds Try.pinned (OpenSpec.ofChange allocFitsSpec)

/-- ITS FALSE NEIGHBOUR: 'it returns false'. Refute it at one input. -/
def allocFitsWrong : ChangeSpec := { name := "allocFits", fn := fun _ => fun
  | [d1, d2, d3] => { results := [.lit (.bool false)], args := [d1, d2, d3] }
  | _ => none }
def AllocFitsWrongFalsely : Prop := allocFitsRow.holds Try.pinned (OpenSpec.ofChange allocFitsWrong)

/-- 'psalterylaw12.AllocSpends': WHATEVER THE INPUT: true; the input reads as it did. -/
def allocSpendsSpec : ChangeSpec := { name := "allocSpends", fn := fun _ => fun
  | [d1, d2, d3] => { results := [.lit (.bool true)], args := [d1, d2, d3] }
  | _ => none }
def allocSpendsRow : OpenClaim := { program := "ytbaaedpjaanjnaa", sum := "27def02dcde63772d5ed621d946d8814e52989d07a0f82e1d3e1a88a32eded36", func := "psaltery/psalterylaw12.AllocSpends", spec := "allocSpends", unfollowed := true, recurses := true, apart := false }
def AllocSpendsSaid : Prop := allocSpendsRow.holds Try.pinned (OpenSpec.ofChange allocSpendsSpec)

/-- ITS FALSE NEIGHBOUR: 'it returns false'. Refute it at one input. -/
def allocSpendsWrong : ChangeSpec := { name := "allocSpends", fn := fun _ => fun
  | [d1, d2, d3] => { results := [.lit (.bool false)], args := [d1, d2, d3] }
  | _ => none }
def AllocSpendsWrongFalsely : Prop := allocSpendsRow.holds Try.pinned (OpenSpec.ofChange allocSpendsWrong)

/-- 'psalterylaw12.AllocApart': WHATEVER THE INPUT: true; the input reads as it did. -/
def allocApartSpec : ChangeSpec := { name := "allocApart", fn := fun _ => fun
  | [d1, d2, d3, d4] => { results := [.lit (.bool true)], args := [d1, d2, d3, d4] }
  | _ => none }
def allocApartRow : OpenClaim := { program := "ytbaaedpjaanjnaa", sum := "27def02dcde63772d5ed621d946d8814e52989d07a0f82e1d3e1a88a32eded36", func := "psaltery/psalterylaw12.AllocApart", spec := "allocApart", unfollowed := true, recurses := true, apart := false }
def AllocApartSaid : Prop := allocApartRow.holds Try.pinned (OpenSpec.ofChange allocApartSpec)

/-- ITS FALSE NEIGHBOUR: 'it returns false'. Refute it at one input. -/
def allocApartWrong : ChangeSpec := { name := "allocApart", fn := fun _ => fun
  | [d1, d2, d3, d4] => { results := [.lit (.bool false)], args := [d1, d2, d3, d4] }
  | _ => none }
def AllocApartWrongFalsely : Prop := allocApartRow.holds Try.pinned (OpenSpec.ofChange allocApartWrong)

/-- 'psalterylaw12.AllocSilent': WHATEVER THE INPUT: true; the input reads as it did. -/
def allocSilentSpec : ChangeSpec := { name := "allocSilent", fn := fun _ => fun
  | [d1, d2] => { results := [.lit (.bool true)], args := [d1, d2] }
  | _ => none }
def allocSilentRow : OpenClaim := { program := "ytbaaedpjaanjnaa", sum := "27def02dcde63772d5ed621d946d8814e52989d07a0f82e1d3e1a88a32eded36", func := "psaltery/psalterylaw12.AllocSilent", spec := "allocSilent", unfollowed := true, recurses := true, apart := false }
def AllocSilentSaid : Prop := allocSilentRow.holds Try.pinned (OpenSpec.ofChange allocSilentSpec)

/-- ITS FALSE NEIGHBOUR: 'it returns false'. Refute it at one input. -/
def allocSilentWrong : ChangeSpec := { name := "allocSilent", fn := fun _ => fun
  | [d1, d2] => { results := [.lit (.bool false)], args := [d1, d2] }
  | _ => none }
def AllocSilentWrongFalsely : Prop := allocSilentRow.holds Try.pinned (OpenSpec.ofChange allocSilentWrong)

/- THE SECOND FORM. 'bulk': how many values and letters a reading holds, each counted each time it is reached (what is shared counts as often as it is met; a slice's spare places count too). A statement '..UptoSaid' is the law's where the arguments, and the package variables that the reading takes, are together of bulk at most 1048576: NARROWER than '..Said'. Prove '..Said' where nothing that the law and all that it calls make is longer than what came in: it says more and counts as full. Else prove '..UptoSaid'. A law counts once. -/
mutual
def uptoBulk {H : Type} : DataW H → Nat
  | .lit (.string bytes) => bytes.length + 1
  | .lit _ => 1
  | .nil => 1
  | .ptr d => uptoBulk d + 1
  | .slice elems spare => uptoBulkAll elems + uptoBulkAll spare + 1
  | .agg parts => uptoBulkAll parts + 1
  | .iface _ d => uptoBulk d + 1
  | .map entries => uptoBulkEntries entries + 1
  | .held _ => 1
def uptoBulkAll {H : Type} : List (DataW H) → Nat
  | [] => 0
  | d :: r => uptoBulk d + uptoBulkAll r
def uptoBulkEntries {H : Type} : List (Lit × DataW H) → Nat
  | [] => 0
  | x :: r => uptoBulkEntry x + uptoBulkEntries r
def uptoBulkEntry {H : Type} : Lit × DataW H → Nat
  | (.string bytes, d) => bytes.length + uptoBulk d + 1
  | (_, d) => uptoBulk d + 1
 end
def uptoSmall : (H : Type) → List (DataW H) → Bool := fun _ ds => decide (uptoBulkAll ds ≤ 1048576)
def OpenSpec.upto (s : _root_.Go.ChangeSpec) : _root_.Go.OpenSpec := { _root_.Go.OpenSpec.ofChange s with cond := some uptoSmall }

/-- 'psalterylaw12.AllocRooms', WHERE WHAT IT READS IS OF BULK AT MOST 1048576: true; the input reads as it did. -/
def allocRoomsUptoRow : OpenClaim := { program := "ytbaaedpjaanjnaa", sum := "27def02dcde63772d5ed621d946d8814e52989d07a0f82e1d3e1a88a32eded36", func := "psaltery/psalterylaw12.AllocRooms", spec := "allocRooms", unfollowed := true, recurses := true, apart := false, narrowed := true }
def AllocRoomsUptoSaid : Prop := allocRoomsUptoRow.holds Try.pinned (OpenSpec.upto allocRoomsSpec)

/-- 'psalterylaw12.AllocGives', WHERE WHAT IT READS IS OF BULK AT MOST 1048576: true; the input reads as it did. -/
def allocGivesUptoRow : OpenClaim := { program := "ytbaaedpjaanjnaa", sum := "27def02dcde63772d5ed621d946d8814e52989d07a0f82e1d3e1a88a32eded36", func := "psaltery/psalterylaw12.AllocGives", spec := "allocGives", unfollowed := true, recurses := true, apart := false, narrowed := true }
def AllocGivesUptoSaid : Prop := allocGivesUptoRow.holds Try.pinned (OpenSpec.upto allocGivesSpec)

/-- 'psalterylaw12.AllocFits', WHERE WHAT IT READS IS OF BULK AT MOST 1048576: true; the input reads as it did. -/
def allocFitsUptoRow : OpenClaim := { program := "ytbaaedpjaanjnaa", sum := "27def02dcde63772d5ed621d946d8814e52989d07a0f82e1d3e1a88a32eded36", func := "psaltery/psalterylaw12.AllocFits", spec := "allocFits", unfollowed := true, recurses := true, apart := false, narrowed := true }
def AllocFitsUptoSaid : Prop := allocFitsUptoRow.holds Try.pinned (OpenSpec.upto allocFitsSpec)

/-- 'psalterylaw12.AllocSpends', WHERE WHAT IT READS IS OF BULK AT MOST 1048576: true; the input reads as it did. -/
def allocSpendsUptoRow : OpenClaim := { program := "ytbaaedpjaanjnaa", sum := "27def02dcde63772d5ed621d946d8814e52989d07a0f82e1d3e1a88a32eded36", func := "psaltery/psalterylaw12.AllocSpends", spec := "allocSpends", unfollowed := true, recurses := true, apart := false, narrowed := true }
def AllocSpendsUptoSaid : Prop := allocSpendsUptoRow.holds Try.pinned (OpenSpec.upto allocSpendsSpec)

/-- 'psalterylaw12.AllocApart', WHERE WHAT IT READS IS OF BULK AT MOST 1048576: true; the input reads as it did. -/
def allocApartUptoRow : OpenClaim := { program := "ytbaaedpjaanjnaa", sum := "27def02dcde63772d5ed621d946d8814e52989d07a0f82e1d3e1a88a32eded36", func := "psaltery/psalterylaw12.AllocApart", spec := "allocApart", unfollowed := true, recurses := true, apart := false, narrowed := true }
def AllocApartUptoSaid : Prop := allocApartUptoRow.holds Try.pinned (OpenSpec.upto allocApartSpec)

/-- 'psalterylaw12.AllocSilent', WHERE WHAT IT READS IS OF BULK AT MOST 1048576: true; the input reads as it did. -/
def allocSilentUptoRow : OpenClaim := { program := "ytbaaedpjaanjnaa", sum := "27def02dcde63772d5ed621d946d8814e52989d07a0f82e1d3e1a88a32eded36", func := "psaltery/psalterylaw12.AllocSilent", spec := "allocSilent", unfollowed := true, recurses := true, apart := false, narrowed := true }
def AllocSilentUptoSaid : Prop := allocSilentUptoRow.holds Try.pinned (OpenSpec.upto allocSilentSpec)

end Rows
end Go.Proofs.Ytbaaedpjaanjnaa
