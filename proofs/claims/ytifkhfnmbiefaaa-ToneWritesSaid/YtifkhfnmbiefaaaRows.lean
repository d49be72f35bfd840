/-
  No cell of these rows narrows 'for every input' (looked for: loops, veiled, ifaces, maps, wideKeys, modest, calm, conditions, laid).
  DERIVED. THE GIVEN ROWS OF THIS SEAT. 7 by the template 'for every input the law returns true; each argument reads behind the call as it read before'; 0 by the template 'total and deterministic' (their statements: YtifkhfnmbiefaaaTotals.lean).
  GIVEN WITH THE SEED: the statements are not yours to turn. If you find one false, say at which input.
  Laid BY PROGRAM, IN A SANDBOX (cutbox-rows.mjs): the forced cells as the released guide's own fill.sh prints them over the translation d41116439ba3d6f8… (all of the seat's roots in one cut). By AI agents, Wed Nov 11 2026. No macro, syntax, notation, axiom, sorry.
-/
import Derived.Test.YtifkhfnmbiefaaaChecked
import GoSem.Claim
import GoSem.ClaimJoined
import GoSem.ClaimMapViews
import Derived.JoinedTies
import Derived.KernelRfl
namespace Go.Proofs.Ytifkhfnmbiefaaa
/- THE CELL 'sum', in the pinned program and in every row, IS THE sha256 OF THE DUMP (.gsa) THAT YtifkhfnmbiefaaaProg.lean LOADS. Nothing in Lean hashes anything: it is a label: what it is worth is what the hold of that sum in a sandbox is worth. -/
noncomputable def Try.pinned : Pinned := { name := "ytifkhfnmbiefaaa", sum := "d41116439ba3d6f804addcb1c2430f979bd06e0e7c128fe58db1d30dbc064868", checked := Try.checked }
namespace Rows
def none {H : Type} : Left H := { results := [], args := [] }

/-- 'psalterylaw23.ToneWrites': WHATEVER THE INPUT: true; the input reads as it did. -/
def toneWritesSpec : ChangeSpec := { name := "toneWrites", fn := fun _ => fun
  | [d1, d2, d3, d4, d5] => { results := [.lit (.bool true)], args := [d1, d2, d3, d4, d5] }
  | _ => none }
def toneWritesRow : OpenClaim := { program := "ytifkhfnmbiefaaa", sum := "d41116439ba3d6f804addcb1c2430f979bd06e0e7c128fe58db1d30dbc064868", func := "psaltery/psalterylaw23.ToneWrites", spec := "toneWrites", unfollowed := true, recurses := true, apart := false }
def ToneWritesSaid : Prop := toneWritesRow.holds Try.pinned (OpenSpec.ofChange toneWritesSpec)

/-- ITS FALSE NEIGHBOUR: 'it returns false'. Refute it at one input. -/
def toneWritesWrong : ChangeSpec := { name := "toneWrites", fn := fun _ => fun
  | [d1, d2, d3, d4, d5] => { results := [.lit (.bool false)], args := [d1, d2, d3, d4, d5] }
  | _ => none }
def ToneWritesWrongFalsely : Prop := toneWritesRow.holds Try.pinned (OpenSpec.ofChange toneWritesWrong)

/-- 'psalterylaw23.ToneEncodes': WHATEVER THE INPUT: true; the input reads as it did. -/
def toneEncodesSpec : ChangeSpec := { name := "toneEncodes", fn := fun _ => fun
  | [d1, d2, d3, d4] => { results := [.lit (.bool true)], args := [d1, d2, d3, d4] }
  | _ => none }
def toneEncodesRow : OpenClaim := { program := "ytifkhfnmbiefaaa", sum := "d41116439ba3d6f804addcb1c2430f979bd06e0e7c128fe58db1d30dbc064868", func := "psaltery/psalterylaw23.ToneEncodes", spec := "toneEncodes", unfollowed := true, recurses := true, apart := false }
def ToneEncodesSaid : Prop := toneEncodesRow.holds Try.pinned (OpenSpec.ofChange toneEncodesSpec)

/-- ITS FALSE NEIGHBOUR: 'it returns false'. Refute it at one input. -/
def toneEncodesWrong : ChangeSpec := { name := "toneEncodes", fn := fun _ => fun
  | [d1, d2, d3, d4] => { results := [.lit (.bool false)], args := [d1, d2, d3, d4] }
  | _ => none }
def ToneEncodesWrongFalsely : Prop := toneEncodesRow.holds Try.pinned (OpenSpec.ofChange toneEncodesWrong)

/-- 'psalterylaw23.ToneDecodes': WHATEVER THE INPUT: true; the input reads as it did. -/
def toneDecodesSpec : ChangeSpec := { name := "toneDecodes", fn := fun _ => fun
  | [d1, d2, d3] => { results := [.lit (.bool true)], args := [d1, d2, d3] }
  | _ => none }
def toneDecodesRow : OpenClaim := { program := "ytifkhfnmbiefaaa", sum := "d41116439ba3d6f804addcb1c2430f979bd06e0e7c128fe58db1d30dbc064868", func := "psaltery/psalterylaw23.ToneDecodes", spec := "toneDecodes", unfollowed := true, recurses := true, apart := false }
def ToneDecodesSaid : Prop := toneDecodesRow.holds Try.pinned (OpenSpec.ofChange toneDecodesSpec)

/-- ITS FALSE NEIGHBOUR: 'it returns false'. Refute it at one input. -/
def toneDecodesWrong : ChangeSpec := { name := "toneDecodes", fn := fun _ => fun
  | [d1, d2, d3] => { results := [.lit (.bool false)], args := [d1, d2, d3] }
  | _ => none }
def ToneDecodesWrongFalsely : Prop := toneDecodesRow.holds Try.pinned (OpenSpec.ofChange toneDecodesWrong)

/-- 'psalterylaw23.ToneSigns': WHATEVER THE INPUT: true; the input reads as it did. -/
def toneSignsSpec : ChangeSpec := { name := "toneSigns", fn := fun _ => fun
  | [d1, d2, d3] => { results := [.lit (.bool true)], args := [d1, d2, d3] }
  | _ => none }
def toneSignsRow : OpenClaim := { program := "ytifkhfnmbiefaaa", sum := "d41116439ba3d6f804addcb1c2430f979bd06e0e7c128fe58db1d30dbc064868", func := "psaltery/psalterylaw23.ToneSigns", spec := "toneSigns", unfollowed := true, recurses := true, apart := false }
def ToneSignsSaid : Prop := toneSignsRow.holds Try.pinned (OpenSpec.ofChange toneSignsSpec)

/-- ITS FALSE NEIGHBOUR: 'it returns false'. Refute it at one input. -/
def toneSignsWrong : ChangeSpec := { name := "toneSigns", fn := fun _ => fun
  | [d1, d2, d3] => { results := [.lit (.bool false)], args := [d1, d2, d3] }
  | _ => none }
def ToneSignsWrongFalsely : Prop := toneSignsRow.holds Try.pinned (OpenSpec.ofChange toneSignsWrong)

/-- 'psalterylaw23.ToneNorms': WHATEVER THE INPUT: true; the input reads as it did. -/
def toneNormsSpec : ChangeSpec := { name := "toneNorms", fn := fun _ => fun
  | [d1, d2, d3] => { results := [.lit (.bool true)], args := [d1, d2, d3] }
  | _ => none }
def toneNormsRow : OpenClaim := { program := "ytifkhfnmbiefaaa", sum := "d41116439ba3d6f804addcb1c2430f979bd06e0e7c128fe58db1d30dbc064868", func := "psaltery/psalterylaw23.ToneNorms", spec := "toneNorms", unfollowed := true, recurses := true, apart := false }
def ToneNormsSaid : Prop := toneNormsRow.holds Try.pinned (OpenSpec.ofChange toneNormsSpec)

/-- ITS FALSE NEIGHBOUR: 'it returns false'. Refute it at one input. -/
def toneNormsWrong : ChangeSpec := { name := "toneNorms", fn := fun _ => fun
  | [d1, d2, d3] => { results := [.lit (.bool false)], args := [d1, d2, d3] }
  | _ => none }
def ToneNormsWrongFalsely : Prop := toneNormsRow.holds Try.pinned (OpenSpec.ofChange toneNormsWrong)

/-- 'psalterylaw23.ToneAny': WHATEVER THE INPUT: true; the input reads as it did. -/
def toneAnySpec : ChangeSpec := { name := "toneAny", fn := fun _ => fun
  | [d1, d2, d3] => { results := [.lit (.bool true)], args := [d1, d2, d3] }
  | _ => none }
def toneAnyRow : OpenClaim := { program := "ytifkhfnmbiefaaa", sum := "d41116439ba3d6f804addcb1c2430f979bd06e0e7c128fe58db1d30dbc064868", func := "psaltery/psalterylaw23.ToneAny", spec := "toneAny", unfollowed := true, recurses := true, apart := false }
def ToneAnySaid : Prop := toneAnyRow.holds Try.pinned (OpenSpec.ofChange toneAnySpec)

/-- ITS FALSE NEIGHBOUR: 'it returns false'. Refute it at one input. -/
def toneAnyWrong : ChangeSpec := { name := "toneAny", fn := fun _ => fun
  | [d1, d2, d3] => { results := [.lit (.bool false)], args := [d1, d2, d3] }
  | _ => none }
def ToneAnyWrongFalsely : Prop := toneAnyRow.holds Try.pinned (OpenSpec.ofChange toneAnyWrong)

/-- 'psalterylaw23.ToneSilent': WHATEVER THE INPUT: true; the input reads as it did. -/
def toneSilentSpec : ChangeSpec := { name := "toneSilent", fn := fun _ => fun
  | [d1, d2, d3] => { results := [.lit (.bool true)], args := [d1, d2, d3] }
  | _ => none }
def toneSilentRow : OpenClaim := { program := "ytifkhfnmbiefaaa", sum := "d41116439ba3d6f804addcb1c2430f979bd06e0e7c128fe58db1d30dbc064868", func := "psaltery/psalterylaw23.ToneSilent", spec := "toneSilent", unfollowed := true, recurses := true, apart := false }
def ToneSilentSaid : Prop := toneSilentRow.holds Try.pinned (OpenSpec.ofChange toneSilentSpec)

/-- ITS FALSE NEIGHBOUR: 'it returns false'. Refute it at one input. -/
def toneSilentWrong : ChangeSpec := { name := "toneSilent", fn := fun _ => fun
  | [d1, d2, d3] => { results := [.lit (.bool false)], args := [d1, d2, d3] }
  | _ => none }
def ToneSilentWrongFalsely : Prop := toneSilentRow.holds Try.pinned (OpenSpec.ofChange toneSilentWrong)

/- THE SECOND FORM. 'bulk': how many values and letters a reading holds, each counted each time it is reached (what is shared counts as often as it is met; a slice's spare places count too). A statement '..UptoSaid' is the law's where the arguments, and the package variables that the reading takes, are together of bulk at most 1048576: NARROWER than '..Said'. Prove '..Said' where nothing that the law and all that it calls make is longer than what came in: it says more and counts as full. Else prove '..UptoSaid'. A law counts once. -/
mutual
def uptoBulk {H : Type} : DataW H → Nat
  | .lit (.string bytes) => bytes.length + 1
  | .lit _ => 1
  | .nil => 1
  | .ptr d => uptoBulk d + 1
  | .slice elems spare => uptoBulkAll elems + uptoBulkAll spare + 1
  | .agg parts => uptoBulkAll parts + 1
  | .iface _ d => uptoBulk d + 1
  | .map entries => uptoBulkEntries entries + 1
  | .held _ => 1
def uptoBulkAll {H : Type} : List (DataW H) → Nat
  | [] => 0
  | d :: r => uptoBulk d + uptoBulkAll r
def uptoBulkEntries {H : Type} : List (Lit × DataW H) → Nat
  | [] => 0
  | x :: r => uptoBulkEntry x + uptoBulkEntries r
def uptoBulkEntry {H : Type} : Lit × DataW H → Nat
  | (.string bytes, d) => bytes.length + uptoBulk d + 1
  | (_, d) => uptoBulk d + 1
 end
def uptoSmall : (H : Type) → List (DataW H) → Bool := fun _ ds => decide (uptoBulkAll ds ≤ 1048576)
def OpenSpec.upto (s : _root_.Go.ChangeSpec) : _root_.Go.OpenSpec := { _root_.Go.OpenSpec.ofChange s with cond := some uptoSmall }

/-- 'psalterylaw23.ToneWrites', WHERE WHAT IT READS IS OF BULK AT MOST 1048576: true; the input reads as it did. -/
def toneWritesUptoRow : OpenClaim := { program := "ytifkhfnmbiefaaa", sum := "d41116439ba3d6f804addcb1c2430f979bd06e0e7c128fe58db1d30dbc064868", func := "psaltery/psalterylaw23.ToneWrites", spec := "toneWrites", unfollowed := true, recurses := true, apart := false, narrowed := true }
def ToneWritesUptoSaid : Prop := toneWritesUptoRow.holds Try.pinned (OpenSpec.upto toneWritesSpec)

/-- 'psalterylaw23.ToneEncodes', WHERE WHAT IT READS IS OF BULK AT MOST 1048576: true; the input reads as it did. -/
def toneEncodesUptoRow : OpenClaim := { program := "ytifkhfnmbiefaaa", sum := "d41116439ba3d6f804addcb1c2430f979bd06e0e7c128fe58db1d30dbc064868", func := "psaltery/psalterylaw23.ToneEncodes", spec := "toneEncodes", unfollowed := true, recurses := true, apart := false, narrowed := true }
def ToneEncodesUptoSaid : Prop := toneEncodesUptoRow.holds Try.pinned (OpenSpec.upto toneEncodesSpec)

/-- 'psalterylaw23.ToneDecodes', WHERE WHAT IT READS IS OF BULK AT MOST 1048576: true; the input reads as it did. -/
def toneDecodesUptoRow : OpenClaim := { program := "ytifkhfnmbiefaaa", sum := "d41116439ba3d6f804addcb1c2430f979bd06e0e7c128fe58db1d30dbc064868", func := "psaltery/psalterylaw23.ToneDecodes", spec := "toneDecodes", unfollowed := true, recurses := true, apart := false, narrowed := true }
def ToneDecodesUptoSaid : Prop := toneDecodesUptoRow.holds Try.pinned (OpenSpec.upto toneDecodesSpec)

/-- 'psalterylaw23.ToneSigns', WHERE WHAT IT READS IS OF BULK AT MOST 1048576: true; the input reads as it did. -/
def toneSignsUptoRow : OpenClaim := { program := "ytifkhfnmbiefaaa", sum := "d41116439ba3d6f804addcb1c2430f979bd06e0e7c128fe58db1d30dbc064868", func := "psaltery/psalterylaw23.ToneSigns", spec := "toneSigns", unfollowed := true, recurses := true, apart := false, narrowed := true }
def ToneSignsUptoSaid : Prop := toneSignsUptoRow.holds Try.pinned (OpenSpec.upto toneSignsSpec)

/-- 'psalterylaw23.ToneNorms', WHERE WHAT IT READS IS OF BULK AT MOST 1048576: true; the input reads as it did. -/
def toneNormsUptoRow : OpenClaim := { program := "ytifkhfnmbiefaaa", sum := "d41116439ba3d6f804addcb1c2430f979bd06e0e7c128fe58db1d30dbc064868", func := "psaltery/psalterylaw23.ToneNorms", spec := "toneNorms", unfollowed := true, recurses := true, apart := false, narrowed := true }
def ToneNormsUptoSaid : Prop := toneNormsUptoRow.holds Try.pinned (OpenSpec.upto toneNormsSpec)

/-- 'psalterylaw23.ToneAny', WHERE WHAT IT READS IS OF BULK AT MOST 1048576: true; the input reads as it did. -/
def toneAnyUptoRow : OpenClaim := { program := "ytifkhfnmbiefaaa", sum := "d41116439ba3d6f804addcb1c2430f979bd06e0e7c128fe58db1d30dbc064868", func := "psaltery/psalterylaw23.ToneAny", spec := "toneAny", unfollowed := true, recurses := true, apart := false, narrowed := true }
def ToneAnyUptoSaid : Prop := toneAnyUptoRow.holds Try.pinned (OpenSpec.upto toneAnySpec)

/-- 'psalterylaw23.ToneSilent', WHERE WHAT IT READS IS OF BULK AT MOST 1048576: true; the input reads as it did. -/
def toneSilentUptoRow : OpenClaim := { program := "ytifkhfnmbiefaaa", sum := "d41116439ba3d6f804addcb1c2430f979bd06e0e7c128fe58db1d30dbc064868", func := "psaltery/psalterylaw23.ToneSilent", spec := "toneSilent", unfollowed := true, recurses := true, apart := false, narrowed := true }
def ToneSilentUptoSaid : Prop := toneSilentUptoRow.holds Try.pinned (OpenSpec.upto toneSilentSpec)

end Rows
end Go.Proofs.Ytifkhfnmbiefaaa
