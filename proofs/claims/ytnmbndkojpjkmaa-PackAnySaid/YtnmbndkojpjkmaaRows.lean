/-
  No cell of these rows narrows 'for every input' (looked for: loops, veiled, ifaces, maps, wideKeys, modest, calm, conditions, laid).
  DERIVED. THE GIVEN ROWS OF THIS SEAT. 7 by the template 'for every input the law returns true; each argument reads behind the call as it read before'; 0 by the template 'total and deterministic' (their statements: YtnmbndkojpjkmaaTotals.lean).
  GIVEN WITH THE SEED: the statements are not yours to turn. If you find one false, say at which input.
  Laid BY PROGRAM, IN A SANDBOX (cutbox-rows.mjs): the forced cells as the released guide's own fill.sh prints them over the translation 4537b5379e600fbc… (all of the seat's roots in one cut). By AI agents, Wed Nov 11 2026. No macro, syntax, notation, axiom, sorry.
-/
import Derived.Test.YtnmbndkojpjkmaaChecked
import GoSem.Claim
import GoSem.ClaimJoined
import GoSem.ClaimMapViews
import Derived.JoinedTies
import Derived.KernelRfl
namespace Go.Proofs.Ytnmbndkojpjkmaa
/- THE CELL 'sum', in the pinned program and in every row, IS THE sha256 OF THE DUMP (.gsa) THAT YtnmbndkojpjkmaaProg.lean LOADS. Nothing in Lean hashes anything: it is a label: what it is worth is what the hold of that sum in a sandbox is worth. -/
noncomputable def Try.pinned : Pinned := { name := "ytnmbndkojpjkmaa", sum := "4537b5379e600fbcd06204561eb404479bb1e06e5ddba0d1bd924558c3965115", checked := Try.checked }
namespace Rows
def none {H : Type} : Left H := { results := [], args := [] }

/-- 'psalterylaw13.PackFits': WHATEVER THE INPUT: true; the input reads as it did. -/
def packFitsSpec : ChangeSpec := { name := "packFits", fn := fun _ => fun
  | [d1, d2, d3, d4] => { results := [.lit (.bool true)], args := [d1, d2, d3, d4] }
  | _ => none }
def packFitsRow : OpenClaim := { program := "ytnmbndkojpjkmaa", sum := "4537b5379e600fbcd06204561eb404479bb1e06e5ddba0d1bd924558c3965115", func := "psaltery/psalterylaw13.PackFits", spec := "packFits", unfollowed := true, recurses := true, apart := false }
def PackFitsSaid : Prop := packFitsRow.holds Try.pinned (OpenSpec.ofChange packFitsSpec)

/-- ITS FALSE NEIGHBOUR: 'it returns false'. Refute it at one input. -/
def packFitsWrong : ChangeSpec := { name := "packFits", fn := fun _ => fun
  | [d1, d2, d3, d4] => { results := [.lit (.bool false)], args := [d1, d2, d3, d4] }
  | _ => none }
def PackFitsWrongFalsely : Prop := packFitsRow.holds Try.pinned (OpenSpec.ofChange packFitsWrong)

/-- 'psalterylaw13.PackRights': WHATEVER THE INPUT: true; the input reads as it did. -/
def packRightsSpec : ChangeSpec := { name := "packRights", fn := fun _ => fun
  | [d1, d2, d3] => { results := [.lit (.bool true)], args := [d1, d2, d3] }
  | _ => none }
def packRightsRow : OpenClaim := { program := "ytnmbndkojpjkmaa", sum := "4537b5379e600fbcd06204561eb404479bb1e06e5ddba0d1bd924558c3965115", func := "psaltery/psalterylaw13.PackRights", spec := "packRights", unfollowed := true, recurses := true, apart := false }
def PackRightsSaid : Prop := packRightsRow.holds Try.pinned (OpenSpec.ofChange packRightsSpec)

/-- ITS FALSE NEIGHBOUR: 'it returns false'. Refute it at one input. -/
def packRightsWrong : ChangeSpec := { name := "packRights", fn := fun _ => fun
  | [d1, d2, d3] => { results := [.lit (.bool false)], args := [d1, d2, d3] }
  | _ => none }
def PackRightsWrongFalsely : Prop := packRightsRow.holds Try.pinned (OpenSpec.ofChange packRightsWrong)

/-- 'psalterylaw13.PackWrites': WHATEVER THE INPUT: true; the input reads as it did. -/
def packWritesSpec : ChangeSpec := { name := "packWrites", fn := fun _ => fun
  | [d1, d2, d3, d4] => { results := [.lit (.bool true)], args := [d1, d2, d3, d4] }
  | _ => none }
def packWritesRow : OpenClaim := { program := "ytnmbndkojpjkmaa", sum := "4537b5379e600fbcd06204561eb404479bb1e06e5ddba0d1bd924558c3965115", func := "psaltery/psalterylaw13.PackWrites", spec := "packWrites", unfollowed := true, recurses := true, apart := false }
def PackWritesSaid : Prop := packWritesRow.holds Try.pinned (OpenSpec.ofChange packWritesSpec)

/-- ITS FALSE NEIGHBOUR: 'it returns false'. Refute it at one input. -/
def packWritesWrong : ChangeSpec := { name := "packWrites", fn := fun _ => fun
  | [d1, d2, d3, d4] => { results := [.lit (.bool false)], args := [d1, d2, d3, d4] }
  | _ => none }
def PackWritesWrongFalsely : Prop := packWritesRow.holds Try.pinned (OpenSpec.ofChange packWritesWrong)

/-- 'psalterylaw13.PackReads': WHATEVER THE INPUT: true; the input reads as it did. -/
def packReadsSpec : ChangeSpec := { name := "packReads", fn := fun _ => fun
  | [d1, d2, d3, d4] => { results := [.lit (.bool true)], args := [d1, d2, d3, d4] }
  | _ => none }
def packReadsRow : OpenClaim := { program := "ytnmbndkojpjkmaa", sum := "4537b5379e600fbcd06204561eb404479bb1e06e5ddba0d1bd924558c3965115", func := "psaltery/psalterylaw13.PackReads", spec := "packReads", unfollowed := true, recurses := true, apart := false }
def PackReadsSaid : Prop := packReadsRow.holds Try.pinned (OpenSpec.ofChange packReadsSpec)

/-- ITS FALSE NEIGHBOUR: 'it returns false'. Refute it at one input. -/
def packReadsWrong : ChangeSpec := { name := "packReads", fn := fun _ => fun
  | [d1, d2, d3, d4] => { results := [.lit (.bool false)], args := [d1, d2, d3, d4] }
  | _ => none }
def PackReadsWrongFalsely : Prop := packReadsRow.holds Try.pinned (OpenSpec.ofChange packReadsWrong)

/-- 'psalterylaw13.PackBack': WHATEVER THE INPUT: true; the input reads as it did. -/
def packBackSpec : ChangeSpec := { name := "packBack", fn := fun _ => fun
  | [d1, d2, d3, d4] => { results := [.lit (.bool true)], args := [d1, d2, d3, d4] }
  | _ => none }
def packBackRow : OpenClaim := { program := "ytnmbndkojpjkmaa", sum := "4537b5379e600fbcd06204561eb404479bb1e06e5ddba0d1bd924558c3965115", func := "psaltery/psalterylaw13.PackBack", spec := "packBack", unfollowed := true, recurses := true, apart := false }
def PackBackSaid : Prop := packBackRow.holds Try.pinned (OpenSpec.ofChange packBackSpec)

/-- ITS FALSE NEIGHBOUR: 'it returns false'. Refute it at one input. -/
def packBackWrong : ChangeSpec := { name := "packBack", fn := fun _ => fun
  | [d1, d2, d3, d4] => { results := [.lit (.bool false)], args := [d1, d2, d3, d4] }
  | _ => none }
def PackBackWrongFalsely : Prop := packBackRow.holds Try.pinned (OpenSpec.ofChange packBackWrong)

/-- 'psalterylaw13.PackAny': WHATEVER THE INPUT: true; the input reads as it did. -/
def packAnySpec : ChangeSpec := { name := "packAny", fn := fun _ => fun
  | [d1, d2, d3, d4] => { results := [.lit (.bool true)], args := [d1, d2, d3, d4] }
  | _ => none }
def packAnyRow : OpenClaim := { program := "ytnmbndkojpjkmaa", sum := "4537b5379e600fbcd06204561eb404479bb1e06e5ddba0d1bd924558c3965115", func := "psaltery/psalterylaw13.PackAny", spec := "packAny", unfollowed := true, recurses := true, apart := false }
def PackAnySaid : Prop := packAnyRow.holds Try.pinned (OpenSpec.ofChange packAnySpec)

/-- ITS FALSE NEIGHBOUR: 'it returns false'. Refute it at one input. -/
def packAnyWrong : ChangeSpec := { name := "packAny", fn := fun _ => fun
  | [d1, d2, d3, d4] => { results := [.lit (.bool false)], args := [d1, d2, d3, d4] }
  | _ => none }
def PackAnyWrongFalsely : Prop := packAnyRow.holds Try.pinned (OpenSpec.ofChange packAnyWrong)

/-- 'psalterylaw13.PackAlone': WHATEVER THE INPUT: true; the input reads as it did. -/
def packAloneSpec : ChangeSpec := { name := "packAlone", fn := fun _ => fun
  | [d1, d2, d3, d4, d5] => { results := [.lit (.bool true)], args := [d1, d2, d3, d4, d5] }
  | _ => none }
def packAloneRow : OpenClaim := { program := "ytnmbndkojpjkmaa", sum := "4537b5379e600fbcd06204561eb404479bb1e06e5ddba0d1bd924558c3965115", func := "psaltery/psalterylaw13.PackAlone", spec := "packAlone", unfollowed := true, recurses := true, apart := false }
def PackAloneSaid : Prop := packAloneRow.holds Try.pinned (OpenSpec.ofChange packAloneSpec)

/-- ITS FALSE NEIGHBOUR: 'it returns false'. Refute it at one input. -/
def packAloneWrong : ChangeSpec := { name := "packAlone", fn := fun _ => fun
  | [d1, d2, d3, d4, d5] => { results := [.lit (.bool false)], args := [d1, d2, d3, d4, d5] }
  | _ => none }
def PackAloneWrongFalsely : Prop := packAloneRow.holds Try.pinned (OpenSpec.ofChange packAloneWrong)

/- THE SECOND FORM. 'bulk': how many values and letters a reading holds, each counted each time it is reached (what is shared counts as often as it is met; a slice's spare places count too). A statement '..UptoSaid' is the law's where the arguments, and the package variables that the reading takes, are together of bulk at most 1048576: NARROWER than '..Said'. Prove '..Said' where nothing that the law and all that it calls make is longer than what came in: it says more and counts as full. Else prove '..UptoSaid'. A law counts once. -/
mutual
def uptoBulk {H : Type} : DataW H → Nat
  | .lit (.string bytes) => bytes.length + 1
  | .lit _ => 1
  | .nil => 1
  | .ptr d => uptoBulk d + 1
  | .slice elems spare => uptoBulkAll elems + uptoBulkAll spare + 1
  | .agg parts => uptoBulkAll parts + 1
  | .iface _ d => uptoBulk d + 1
  | .map entries => uptoBulkEntries entries + 1
  | .held _ => 1
def uptoBulkAll {H : Type} : List (DataW H) → Nat
  | [] => 0
  | d :: r => uptoBulk d + uptoBulkAll r
def uptoBulkEntries {H : Type} : List (Lit × DataW H) → Nat
  | [] => 0
  | x :: r => uptoBulkEntry x + uptoBulkEntries r
def uptoBulkEntry {H : Type} : Lit × DataW H → Nat
  | (.string bytes, d) => bytes.length + uptoBulk d + 1
  | (_, d) => uptoBulk d + 1
 end
def uptoSmall : (H : Type) → List (DataW H) → Bool := fun _ ds => decide (uptoBulkAll ds ≤ 1048576)
def OpenSpec.upto (s : _root_.Go.ChangeSpec) : _root_.Go.OpenSpec := { _root_.Go.OpenSpec.ofChange s with cond := some uptoSmall }

/-- 'psalterylaw13.PackFits', WHERE WHAT IT READS IS OF BULK AT MOST 1048576: true; the input reads as it did. -/
def packFitsUptoRow : OpenClaim := { program := "ytnmbndkojpjkmaa", sum := "4537b5379e600fbcd06204561eb404479bb1e06e5ddba0d1bd924558c3965115", func := "psaltery/psalterylaw13.PackFits", spec := "packFits", unfollowed := true, recurses := true, apart := false, narrowed := true }
def PackFitsUptoSaid : Prop := packFitsUptoRow.holds Try.pinned (OpenSpec.upto packFitsSpec)

/-- 'psalterylaw13.PackRights', WHERE WHAT IT READS IS OF BULK AT MOST 1048576: true; the input reads as it did. -/
def packRightsUptoRow : OpenClaim := { program := "ytnmbndkojpjkmaa", sum := "4537b5379e600fbcd06204561eb404479bb1e06e5ddba0d1bd924558c3965115", func := "psaltery/psalterylaw13.PackRights", spec := "packRights", unfollowed := true, recurses := true, apart := false, narrowed := true }
def PackRightsUptoSaid : Prop := packRightsUptoRow.holds Try.pinned (OpenSpec.upto packRightsSpec)

/-- 'psalterylaw13.PackWrites', WHERE WHAT IT READS IS OF BULK AT MOST 1048576: true; the input reads as it did. -/
def packWritesUptoRow : OpenClaim := { program := "ytnmbndkojpjkmaa", sum := "4537b5379e600fbcd06204561eb404479bb1e06e5ddba0d1bd924558c3965115", func := "psaltery/psalterylaw13.PackWrites", spec := "packWrites", unfollowed := true, recurses := true, apart := false, narrowed := true }
def PackWritesUptoSaid : Prop := packWritesUptoRow.holds Try.pinned (OpenSpec.upto packWritesSpec)

/-- 'psalterylaw13.PackReads', WHERE WHAT IT READS IS OF BULK AT MOST 1048576: true; the input reads as it did. -/
def packReadsUptoRow : OpenClaim := { program := "ytnmbndkojpjkmaa", sum := "4537b5379e600fbcd06204561eb404479bb1e06e5ddba0d1bd924558c3965115", func := "psaltery/psalterylaw13.PackReads", spec := "packReads", unfollowed := true, recurses := true, apart := false, narrowed := true }
def PackReadsUptoSaid : Prop := packReadsUptoRow.holds Try.pinned (OpenSpec.upto packReadsSpec)

/-- 'psalterylaw13.PackBack', WHERE WHAT IT READS IS OF BULK AT MOST 1048576: true; the input reads as it did. -/
def packBackUptoRow : OpenClaim := { program := "ytnmbndkojpjkmaa", sum := "4537b5379e600fbcd06204561eb404479bb1e06e5ddba0d1bd924558c3965115", func := "psaltery/psalterylaw13.PackBack", spec := "packBack", unfollowed := true, recurses := true, apart := false, narrowed := true }
def PackBackUptoSaid : Prop := packBackUptoRow.holds Try.pinned (OpenSpec.upto packBackSpec)

/-- 'psalterylaw13.PackAny', WHERE WHAT IT READS IS OF BULK AT MOST 1048576: true; the input reads as it did. -/
def packAnyUptoRow : OpenClaim := { program := "ytnmbndkojpjkmaa", sum := "4537b5379e600fbcd06204561eb404479bb1e06e5ddba0d1bd924558c3965115", func := "psaltery/psalterylaw13.PackAny", spec := "packAny", unfollowed := true, recurses := true, apart := false, narrowed := true }
def PackAnyUptoSaid : Prop := packAnyUptoRow.holds Try.pinned (OpenSpec.upto packAnySpec)

/-- 'psalterylaw13.PackAlone', WHERE WHAT IT READS IS OF BULK AT MOST 1048576: true; the input reads as it did. -/
def packAloneUptoRow : OpenClaim := { program := "ytnmbndkojpjkmaa", sum := "4537b5379e600fbcd06204561eb404479bb1e06e5ddba0d1bd924558c3965115", func := "psaltery/psalterylaw13.PackAlone", spec := "packAlone", unfollowed := true, recurses := true, apart := false, narrowed := true }
def PackAloneUptoSaid : Prop := packAloneUptoRow.holds Try.pinned (OpenSpec.upto packAloneSpec)

end Rows
end Go.Proofs.Ytnmbndkojpjkmaa
