/-
  No cell of these rows narrows 'for every input' (looked for: loops, veiled, ifaces, maps, wideKeys, modest, calm, conditions, laid).
  DERIVED. THE GIVEN ROWS OF THIS SEAT. 6 by the template 'for every input the law returns true; each argument reads behind the call as it read before'; 0 by the template 'total and deterministic' (their statements: YtllgjhenbchkfaaTotals.lean).
  GIVEN WITH THE SEED: the statements are not yours to turn. If you find one false, say at which input.
  Laid BY PROGRAM, IN A SANDBOX (cutbox-rows.mjs): the forced cells as the released guide's own fill.sh prints them over the translation cf310f6b7f6575d5… (all of the seat's roots in one cut). By AI agents, Wed Nov 11 2026. No macro, syntax, notation, axiom, sorry.
-/
import Derived.Test.YtllgjhenbchkfaaChecked
import GoSem.Claim
import GoSem.ClaimJoined
import GoSem.ClaimMapViews
import Derived.JoinedTies
import Derived.KernelRfl
namespace Go.Proofs.Ytllgjhenbchkfaa
/- THE CELL 'sum', in the pinned program and in every row, IS THE sha256 OF THE DUMP (.gsa) THAT YtllgjhenbchkfaaProg.lean LOADS. Nothing in Lean hashes anything: it is a label: what it is worth is what the hold of that sum in a sandbox is worth. -/
noncomputable def Try.pinned : Pinned := { name := "ytllgjhenbchkfaa", sum := "cf310f6b7f6575d5e0b08d5663c22cccf37f0c5a10669ca04ae166a414fb3c82", checked := Try.checked }
namespace Rows
def none {H : Type} : Left H := { results := [], args := [] }

/-- 'psalterylaw07.PvqSquares': WHATEVER THE INPUT: true; the input reads as it did. -/
def pvqSquaresSpec : ChangeSpec := { name := "pvqSquares", fn := fun _ => fun
  | [d] => { results := [.lit (.bool true)], args := [d] }
  | _ => none }
def pvqSquaresRow : OpenClaim := { program := "ytllgjhenbchkfaa", sum := "cf310f6b7f6575d5e0b08d5663c22cccf37f0c5a10669ca04ae166a414fb3c82", func := "psaltery/psalterylaw07.PvqSquares", spec := "pvqSquares", unfollowed := true, recurses := true, apart := false }
def PvqSquaresSaid : Prop := pvqSquaresRow.holds Try.pinned (OpenSpec.ofChange pvqSquaresSpec)

/-- ITS FALSE NEIGHBOUR: 'it returns false'. Refute it at one input. -/
def pvqSquaresWrong : ChangeSpec := { name := "pvqSquares", fn := fun _ => fun
  | [d] => { results := [.lit (.bool false)], args := [d] }
  | _ => none }
def PvqSquaresWrongFalsely : Prop := pvqSquaresRow.holds Try.pinned (OpenSpec.ofChange pvqSquaresWrong)

/-- 'psalterylaw07.PvqFinds': WHATEVER THE INPUT: true; the input reads as it did. -/
def pvqFindsSpec : ChangeSpec := { name := "pvqFinds", fn := fun _ => fun
  | [d1, d2] => { results := [.lit (.bool true)], args := [d1, d2] }
  | _ => none }
def pvqFindsRow : OpenClaim := { program := "ytllgjhenbchkfaa", sum := "cf310f6b7f6575d5e0b08d5663c22cccf37f0c5a10669ca04ae166a414fb3c82", func := "psaltery/psalterylaw07.PvqFinds", spec := "pvqFinds", unfollowed := true, recurses := true, apart := false }
def PvqFindsSaid : Prop := pvqFindsRow.holds Try.pinned (OpenSpec.ofChange pvqFindsSpec)

/-- ITS FALSE NEIGHBOUR: 'it returns false'. Refute it at one input. -/
def pvqFindsWrong : ChangeSpec := { name := "pvqFinds", fn := fun _ => fun
  | [d1, d2] => { results := [.lit (.bool false)], args := [d1, d2] }
  | _ => none }
def PvqFindsWrongFalsely : Prop := pvqFindsRow.holds Try.pinned (OpenSpec.ofChange pvqFindsWrong)

/-- 'psalterylaw07.PvqShapes': WHATEVER THE INPUT: true; the input reads as it did. -/
def pvqShapesSpec : ChangeSpec := { name := "pvqShapes", fn := fun _ => fun
  | [d1, d2] => { results := [.lit (.bool true)], args := [d1, d2] }
  | _ => none }
def pvqShapesRow : OpenClaim := { program := "ytllgjhenbchkfaa", sum := "cf310f6b7f6575d5e0b08d5663c22cccf37f0c5a10669ca04ae166a414fb3c82", func := "psaltery/psalterylaw07.PvqShapes", spec := "pvqShapes", unfollowed := true, recurses := true, apart := false }
def PvqShapesSaid : Prop := pvqShapesRow.holds Try.pinned (OpenSpec.ofChange pvqShapesSpec)

/-- ITS FALSE NEIGHBOUR: 'it returns false'. Refute it at one input. -/
def pvqShapesWrong : ChangeSpec := { name := "pvqShapes", fn := fun _ => fun
  | [d1, d2] => { results := [.lit (.bool false)], args := [d1, d2] }
  | _ => none }
def PvqShapesWrongFalsely : Prop := pvqShapesRow.holds Try.pinned (OpenSpec.ofChange pvqShapesWrong)

/-- 'psalterylaw07.PvqSigns': WHATEVER THE INPUT: true; the input reads as it did. -/
def pvqSignsSpec : ChangeSpec := { name := "pvqSigns", fn := fun _ => fun
  | [d1, d2] => { results := [.lit (.bool true)], args := [d1, d2] }
  | _ => none }
def pvqSignsRow : OpenClaim := { program := "ytllgjhenbchkfaa", sum := "cf310f6b7f6575d5e0b08d5663c22cccf37f0c5a10669ca04ae166a414fb3c82", func := "psaltery/psalterylaw07.PvqSigns", spec := "pvqSigns", unfollowed := true, recurses := true, apart := false }
def PvqSignsSaid : Prop := pvqSignsRow.holds Try.pinned (OpenSpec.ofChange pvqSignsSpec)

/-- ITS FALSE NEIGHBOUR: 'it returns false'. Refute it at one input. -/
def pvqSignsWrong : ChangeSpec := { name := "pvqSigns", fn := fun _ => fun
  | [d1, d2] => { results := [.lit (.bool false)], args := [d1, d2] }
  | _ => none }
def PvqSignsWrongFalsely : Prop := pvqSignsRow.holds Try.pinned (OpenSpec.ofChange pvqSignsWrong)

/-- 'psalterylaw07.PvqNorms': WHATEVER THE INPUT: true; the input reads as it did. -/
def pvqNormsSpec : ChangeSpec := { name := "pvqNorms", fn := fun _ => fun
  | [d1, d2] => { results := [.lit (.bool true)], args := [d1, d2] }
  | _ => none }
def pvqNormsRow : OpenClaim := { program := "ytllgjhenbchkfaa", sum := "cf310f6b7f6575d5e0b08d5663c22cccf37f0c5a10669ca04ae166a414fb3c82", func := "psaltery/psalterylaw07.PvqNorms", spec := "pvqNorms", unfollowed := true, recurses := true, apart := false }
def PvqNormsSaid : Prop := pvqNormsRow.holds Try.pinned (OpenSpec.ofChange pvqNormsSpec)

/-- ITS FALSE NEIGHBOUR: 'it returns false'. Refute it at one input. -/
def pvqNormsWrong : ChangeSpec := { name := "pvqNorms", fn := fun _ => fun
  | [d1, d2] => { results := [.lit (.bool false)], args := [d1, d2] }
  | _ => none }
def PvqNormsWrongFalsely : Prop := pvqNormsRow.holds Try.pinned (OpenSpec.ofChange pvqNormsWrong)

/-- 'psalterylaw07.PvqAlone': WHATEVER THE INPUT: true; the input reads as it did. -/
def pvqAloneSpec : ChangeSpec := { name := "pvqAlone", fn := fun _ => fun
  | [d1, d2, d3, d4] => { results := [.lit (.bool true)], args := [d1, d2, d3, d4] }
  | _ => none }
def pvqAloneRow : OpenClaim := { program := "ytllgjhenbchkfaa", sum := "cf310f6b7f6575d5e0b08d5663c22cccf37f0c5a10669ca04ae166a414fb3c82", func := "psaltery/psalterylaw07.PvqAlone", spec := "pvqAlone", unfollowed := true, recurses := true, apart := false }
def PvqAloneSaid : Prop := pvqAloneRow.holds Try.pinned (OpenSpec.ofChange pvqAloneSpec)

/-- ITS FALSE NEIGHBOUR: 'it returns false'. Refute it at one input. -/
def pvqAloneWrong : ChangeSpec := { name := "pvqAlone", fn := fun _ => fun
  | [d1, d2, d3, d4] => { results := [.lit (.bool false)], args := [d1, d2, d3, d4] }
  | _ => none }
def PvqAloneWrongFalsely : Prop := pvqAloneRow.holds Try.pinned (OpenSpec.ofChange pvqAloneWrong)

/- THE SECOND FORM. 'bulk': how many values and letters a reading holds, each counted each time it is reached (what is shared counts as often as it is met; a slice's spare places count too). A statement '..UptoSaid' is the law's where the arguments, and the package variables that the reading takes, are together of bulk at most 1048576: NARROWER than '..Said'. Prove '..Said' where nothing that the law and all that it calls make is longer than what came in: it says more and counts as full. Else prove '..UptoSaid'. A law counts once. -/
mutual
def uptoBulk {H : Type} : DataW H → Nat
  | .lit (.string bytes) => bytes.length + 1
  | .lit _ => 1
  | .nil => 1
  | .ptr d => uptoBulk d + 1
  | .slice elems spare => uptoBulkAll elems + uptoBulkAll spare + 1
  | .agg parts => uptoBulkAll parts + 1
  | .iface _ d => uptoBulk d + 1
  | .map entries => uptoBulkEntries entries + 1
  | .held _ => 1
def uptoBulkAll {H : Type} : List (DataW H) → Nat
  | [] => 0
  | d :: r => uptoBulk d + uptoBulkAll r
def uptoBulkEntries {H : Type} : List (Lit × DataW H) → Nat
  | [] => 0
  | x :: r => uptoBulkEntry x + uptoBulkEntries r
def uptoBulkEntry {H : Type} : Lit × DataW H → Nat
  | (.string bytes, d) => bytes.length + uptoBulk d + 1
  | (_, d) => uptoBulk d + 1
 end
def uptoSmall : (H : Type) → List (DataW H) → Bool := fun _ ds => decide (uptoBulkAll ds ≤ 1048576)
def OpenSpec.upto (s : _root_.Go.ChangeSpec) : _root_.Go.OpenSpec := { _root_.Go.OpenSpec.ofChange s with cond := some uptoSmall }

/-- 'psalterylaw07.PvqSquares', WHERE WHAT IT READS IS OF BULK AT MOST 1048576: true; the input reads as it did. -/
def pvqSquaresUptoRow : OpenClaim := { program := "ytllgjhenbchkfaa", sum := "cf310f6b7f6575d5e0b08d5663c22cccf37f0c5a10669ca04ae166a414fb3c82", func := "psaltery/psalterylaw07.PvqSquares", spec := "pvqSquares", unfollowed := true, recurses := true, apart := false, narrowed := true }
def PvqSquaresUptoSaid : Prop := pvqSquaresUptoRow.holds Try.pinned (OpenSpec.upto pvqSquaresSpec)

/-- 'psalterylaw07.PvqFinds', WHERE WHAT IT READS IS OF BULK AT MOST 1048576: true; the input reads as it did. -/
def pvqFindsUptoRow : OpenClaim := { program := "ytllgjhenbchkfaa", sum := "cf310f6b7f6575d5e0b08d5663c22cccf37f0c5a10669ca04ae166a414fb3c82", func := "psaltery/psalterylaw07.PvqFinds", spec := "pvqFinds", unfollowed := true, recurses := true, apart := false, narrowed := true }
def PvqFindsUptoSaid : Prop := pvqFindsUptoRow.holds Try.pinned (OpenSpec.upto pvqFindsSpec)

/-- 'psalterylaw07.PvqShapes', WHERE WHAT IT READS IS OF BULK AT MOST 1048576: true; the input reads as it did. -/
def pvqShapesUptoRow : OpenClaim := { program := "ytllgjhenbchkfaa", sum := "cf310f6b7f6575d5e0b08d5663c22cccf37f0c5a10669ca04ae166a414fb3c82", func := "psaltery/psalterylaw07.PvqShapes", spec := "pvqShapes", unfollowed := true, recurses := true, apart := false, narrowed := true }
def PvqShapesUptoSaid : Prop := pvqShapesUptoRow.holds Try.pinned (OpenSpec.upto pvqShapesSpec)

/-- 'psalterylaw07.PvqSigns', WHERE WHAT IT READS IS OF BULK AT MOST 1048576: true; the input reads as it did. -/
def pvqSignsUptoRow : OpenClaim := { program := "ytllgjhenbchkfaa", sum := "cf310f6b7f6575d5e0b08d5663c22cccf37f0c5a10669ca04ae166a414fb3c82", func := "psaltery/psalterylaw07.PvqSigns", spec := "pvqSigns", unfollowed := true, recurses := true, apart := false, narrowed := true }
def PvqSignsUptoSaid : Prop := pvqSignsUptoRow.holds Try.pinned (OpenSpec.upto pvqSignsSpec)

/-- 'psalterylaw07.PvqNorms', WHERE WHAT IT READS IS OF BULK AT MOST 1048576: true; the input reads as it did. -/
def pvqNormsUptoRow : OpenClaim := { program := "ytllgjhenbchkfaa", sum := "cf310f6b7f6575d5e0b08d5663c22cccf37f0c5a10669ca04ae166a414fb3c82", func := "psaltery/psalterylaw07.PvqNorms", spec := "pvqNorms", unfollowed := true, recurses := true, apart := false, narrowed := true }
def PvqNormsUptoSaid : Prop := pvqNormsUptoRow.holds Try.pinned (OpenSpec.upto pvqNormsSpec)

/-- 'psalterylaw07.PvqAlone', WHERE WHAT IT READS IS OF BULK AT MOST 1048576: true; the input reads as it did. -/
def pvqAloneUptoRow : OpenClaim := { program := "ytllgjhenbchkfaa", sum := "cf310f6b7f6575d5e0b08d5663c22cccf37f0c5a10669ca04ae166a414fb3c82", func := "psaltery/psalterylaw07.PvqAlone", spec := "pvqAlone", unfollowed := true, recurses := true, apart := false, narrowed := true }
def PvqAloneUptoSaid : Prop := pvqAloneUptoRow.holds Try.pinned (OpenSpec.upto pvqAloneSpec)

end Rows
end Go.Proofs.Ytllgjhenbchkfaa
