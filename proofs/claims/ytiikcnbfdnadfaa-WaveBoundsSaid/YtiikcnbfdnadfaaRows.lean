/-
  No cell of these rows narrows 'for every input' (looked for: loops, veiled, ifaces, maps, wideKeys, modest, calm, conditions, laid).
  DERIVED. THE GIVEN ROWS OF THIS SEAT. 6 by the template 'for every input the law returns true; each argument reads behind the call as it read before'; 0 by the template 'total and deterministic' (their statements: YtiikcnbfdnadfaaTotals.lean).
  GIVEN WITH THE SEED: the statements are not yours to turn. If you find one false, say at which input.
  Laid BY PROGRAM, IN A SANDBOX (cutbox-rows.mjs): the forced cells as the released guide's own fill.sh prints them over the translation a589b696b52e4cc8… (all of the seat's roots in one cut). By AI agents, Wed Nov 11 2026. No macro, syntax, notation, axiom, sorry.
-/
import Derived.Test.YtiikcnbfdnadfaaChecked
import GoSem.Claim
import GoSem.ClaimJoined
import GoSem.ClaimMapViews
import Derived.JoinedTies
import Derived.KernelRfl
namespace Go.Proofs.Ytiikcnbfdnadfaa
/- THE CELL 'sum', in the pinned program and in every row, IS THE sha256 OF THE DUMP (.gsa) THAT YtiikcnbfdnadfaaProg.lean LOADS. Nothing in Lean hashes anything: it is a label: what it is worth is what the hold of that sum in a sandbox is worth. -/
noncomputable def Try.pinned : Pinned := { name := "ytiikcnbfdnadfaa", sum := "a589b696b52e4cc887bd9aeda93455ed4562d4459cf0746751cd91b98147cea8", checked := Try.checked }
namespace Rows
def none {H : Type} : Left H := { results := [], args := [] }

/-- 'psalterylaw08.WaveForwards': WHATEVER THE INPUT: true; the input reads as it did. -/
def waveForwardsSpec : ChangeSpec := { name := "waveForwards", fn := fun _ => fun
  | [d] => { results := [.lit (.bool true)], args := [d] }
  | _ => none }
def waveForwardsRow : OpenClaim := { program := "ytiikcnbfdnadfaa", sum := "a589b696b52e4cc887bd9aeda93455ed4562d4459cf0746751cd91b98147cea8", func := "psaltery/psalterylaw08.WaveForwards", spec := "waveForwards", unfollowed := true, recurses := true, apart := false }
def WaveForwardsSaid : Prop := waveForwardsRow.holds Try.pinned (OpenSpec.ofChange waveForwardsSpec)

/-- ITS FALSE NEIGHBOUR: 'it returns false'. Refute it at one input. -/
def waveForwardsWrong : ChangeSpec := { name := "waveForwards", fn := fun _ => fun
  | [d] => { results := [.lit (.bool false)], args := [d] }
  | _ => none }
def WaveForwardsWrongFalsely : Prop := waveForwardsRow.holds Try.pinned (OpenSpec.ofChange waveForwardsWrong)

/-- 'psalterylaw08.WaveInverses': WHATEVER THE INPUT: true; the input reads as it did. -/
def waveInversesSpec : ChangeSpec := { name := "waveInverses", fn := fun _ => fun
  | [d] => { results := [.lit (.bool true)], args := [d] }
  | _ => none }
def waveInversesRow : OpenClaim := { program := "ytiikcnbfdnadfaa", sum := "a589b696b52e4cc887bd9aeda93455ed4562d4459cf0746751cd91b98147cea8", func := "psaltery/psalterylaw08.WaveInverses", spec := "waveInverses", unfollowed := true, recurses := true, apart := false }
def WaveInversesSaid : Prop := waveInversesRow.holds Try.pinned (OpenSpec.ofChange waveInversesSpec)

/-- ITS FALSE NEIGHBOUR: 'it returns false'. Refute it at one input. -/
def waveInversesWrong : ChangeSpec := { name := "waveInverses", fn := fun _ => fun
  | [d] => { results := [.lit (.bool false)], args := [d] }
  | _ => none }
def WaveInversesWrongFalsely : Prop := waveInversesRow.holds Try.pinned (OpenSpec.ofChange waveInversesWrong)

/-- 'psalterylaw08.WaveBack': WHATEVER THE INPUT: true; the input reads as it did. -/
def waveBackSpec : ChangeSpec := { name := "waveBack", fn := fun _ => fun
  | [d] => { results := [.lit (.bool true)], args := [d] }
  | _ => none }
def waveBackRow : OpenClaim := { program := "ytiikcnbfdnadfaa", sum := "a589b696b52e4cc887bd9aeda93455ed4562d4459cf0746751cd91b98147cea8", func := "psaltery/psalterylaw08.WaveBack", spec := "waveBack", unfollowed := true, recurses := true, apart := false }
def WaveBackSaid : Prop := waveBackRow.holds Try.pinned (OpenSpec.ofChange waveBackSpec)

/-- ITS FALSE NEIGHBOUR: 'it returns false'. Refute it at one input. -/
def waveBackWrong : ChangeSpec := { name := "waveBack", fn := fun _ => fun
  | [d] => { results := [.lit (.bool false)], args := [d] }
  | _ => none }
def WaveBackWrongFalsely : Prop := waveBackRow.holds Try.pinned (OpenSpec.ofChange waveBackWrong)

/-- 'psalterylaw08.WaveAgain': WHATEVER THE INPUT: true; the input reads as it did. -/
def waveAgainSpec : ChangeSpec := { name := "waveAgain", fn := fun _ => fun
  | [d] => { results := [.lit (.bool true)], args := [d] }
  | _ => none }
def waveAgainRow : OpenClaim := { program := "ytiikcnbfdnadfaa", sum := "a589b696b52e4cc887bd9aeda93455ed4562d4459cf0746751cd91b98147cea8", func := "psaltery/psalterylaw08.WaveAgain", spec := "waveAgain", unfollowed := true, recurses := true, apart := false }
def WaveAgainSaid : Prop := waveAgainRow.holds Try.pinned (OpenSpec.ofChange waveAgainSpec)

/-- ITS FALSE NEIGHBOUR: 'it returns false'. Refute it at one input. -/
def waveAgainWrong : ChangeSpec := { name := "waveAgain", fn := fun _ => fun
  | [d] => { results := [.lit (.bool false)], args := [d] }
  | _ => none }
def WaveAgainWrongFalsely : Prop := waveAgainRow.holds Try.pinned (OpenSpec.ofChange waveAgainWrong)

/-- 'psalterylaw08.WaveLevel': WHATEVER THE INPUT: true; the input reads as it did. -/
def waveLevelSpec : ChangeSpec := { name := "waveLevel", fn := fun _ => fun
  | [d1, d2] => { results := [.lit (.bool true)], args := [d1, d2] }
  | _ => none }
def waveLevelRow : OpenClaim := { program := "ytiikcnbfdnadfaa", sum := "a589b696b52e4cc887bd9aeda93455ed4562d4459cf0746751cd91b98147cea8", func := "psaltery/psalterylaw08.WaveLevel", spec := "waveLevel", unfollowed := true, recurses := true, apart := false }
def WaveLevelSaid : Prop := waveLevelRow.holds Try.pinned (OpenSpec.ofChange waveLevelSpec)

/-- ITS FALSE NEIGHBOUR: 'it returns false'. Refute it at one input. -/
def waveLevelWrong : ChangeSpec := { name := "waveLevel", fn := fun _ => fun
  | [d1, d2] => { results := [.lit (.bool false)], args := [d1, d2] }
  | _ => none }
def WaveLevelWrongFalsely : Prop := waveLevelRow.holds Try.pinned (OpenSpec.ofChange waveLevelWrong)

/-- 'psalterylaw08.WaveBounds': WHATEVER THE INPUT: true; the input reads as it did. -/
def waveBoundsSpec : ChangeSpec := { name := "waveBounds", fn := fun _ => fun
  | [d] => { results := [.lit (.bool true)], args := [d] }
  | _ => none }
def waveBoundsRow : OpenClaim := { program := "ytiikcnbfdnadfaa", sum := "a589b696b52e4cc887bd9aeda93455ed4562d4459cf0746751cd91b98147cea8", func := "psaltery/psalterylaw08.WaveBounds", spec := "waveBounds", unfollowed := true, recurses := true, apart := false }
def WaveBoundsSaid : Prop := waveBoundsRow.holds Try.pinned (OpenSpec.ofChange waveBoundsSpec)

/-- ITS FALSE NEIGHBOUR: 'it returns false'. Refute it at one input. -/
def waveBoundsWrong : ChangeSpec := { name := "waveBounds", fn := fun _ => fun
  | [d] => { results := [.lit (.bool false)], args := [d] }
  | _ => none }
def WaveBoundsWrongFalsely : Prop := waveBoundsRow.holds Try.pinned (OpenSpec.ofChange waveBoundsWrong)

/- THE SECOND FORM. 'bulk': how many values and letters a reading holds, each counted each time it is reached (what is shared counts as often as it is met; a slice's spare places count too). A statement '..UptoSaid' is the law's where the arguments, and the package variables that the reading takes, are together of bulk at most 1048576: NARROWER than '..Said'. Prove '..Said' where nothing that the law and all that it calls make is longer than what came in: it says more and counts as full. Else prove '..UptoSaid'. A law counts once. -/
mutual
def uptoBulk {H : Type} : DataW H → Nat
  | .lit (.string bytes) => bytes.length + 1
  | .lit _ => 1
  | .nil => 1
  | .ptr d => uptoBulk d + 1
  | .slice elems spare => uptoBulkAll elems + uptoBulkAll spare + 1
  | .agg parts => uptoBulkAll parts + 1
  | .iface _ d => uptoBulk d + 1
  | .map entries => uptoBulkEntries entries + 1
  | .held _ => 1
def uptoBulkAll {H : Type} : List (DataW H) → Nat
  | [] => 0
  | d :: r => uptoBulk d + uptoBulkAll r
def uptoBulkEntries {H : Type} : List (Lit × DataW H) → Nat
  | [] => 0
  | x :: r => uptoBulkEntry x + uptoBulkEntries r
def uptoBulkEntry {H : Type} : Lit × DataW H → Nat
  | (.string bytes, d) => bytes.length + uptoBulk d + 1
  | (_, d) => uptoBulk d + 1
 end
def uptoSmall : (H : Type) → List (DataW H) → Bool := fun _ ds => decide (uptoBulkAll ds ≤ 1048576)
def OpenSpec.upto (s : _root_.Go.ChangeSpec) : _root_.Go.OpenSpec := { _root_.Go.OpenSpec.ofChange s with cond := some uptoSmall }

/-- 'psalterylaw08.WaveForwards', WHERE WHAT IT READS IS OF BULK AT MOST 1048576: true; the input reads as it did. -/
def waveForwardsUptoRow : OpenClaim := { program := "ytiikcnbfdnadfaa", sum := "a589b696b52e4cc887bd9aeda93455ed4562d4459cf0746751cd91b98147cea8", func := "psaltery/psalterylaw08.WaveForwards", spec := "waveForwards", unfollowed := true, recurses := true, apart := false, narrowed := true }
def WaveForwardsUptoSaid : Prop := waveForwardsUptoRow.holds Try.pinned (OpenSpec.upto waveForwardsSpec)

/-- 'psalterylaw08.WaveInverses', WHERE WHAT IT READS IS OF BULK AT MOST 1048576: true; the input reads as it did. -/
def waveInversesUptoRow : OpenClaim := { program := "ytiikcnbfdnadfaa", sum := "a589b696b52e4cc887bd9aeda93455ed4562d4459cf0746751cd91b98147cea8", func := "psaltery/psalterylaw08.WaveInverses", spec := "waveInverses", unfollowed := true, recurses := true, apart := false, narrowed := true }
def WaveInversesUptoSaid : Prop := waveInversesUptoRow.holds Try.pinned (OpenSpec.upto waveInversesSpec)

/-- 'psalterylaw08.WaveBack', WHERE WHAT IT READS IS OF BULK AT MOST 1048576: true; the input reads as it did. -/
def waveBackUptoRow : OpenClaim := { program := "ytiikcnbfdnadfaa", sum := "a589b696b52e4cc887bd9aeda93455ed4562d4459cf0746751cd91b98147cea8", func := "psaltery/psalterylaw08.WaveBack", spec := "waveBack", unfollowed := true, recurses := true, apart := false, narrowed := true }
def WaveBackUptoSaid : Prop := waveBackUptoRow.holds Try.pinned (OpenSpec.upto waveBackSpec)

/-- 'psalterylaw08.WaveAgain', WHERE WHAT IT READS IS OF BULK AT MOST 1048576: true; the input reads as it did. -/
def waveAgainUptoRow : OpenClaim := { program := "ytiikcnbfdnadfaa", sum := "a589b696b52e4cc887bd9aeda93455ed4562d4459cf0746751cd91b98147cea8", func := "psaltery/psalterylaw08.WaveAgain", spec := "waveAgain", unfollowed := true, recurses := true, apart := false, narrowed := true }
def WaveAgainUptoSaid : Prop := waveAgainUptoRow.holds Try.pinned (OpenSpec.upto waveAgainSpec)

/-- 'psalterylaw08.WaveLevel', WHERE WHAT IT READS IS OF BULK AT MOST 1048576: true; the input reads as it did. -/
def waveLevelUptoRow : OpenClaim := { program := "ytiikcnbfdnadfaa", sum := "a589b696b52e4cc887bd9aeda93455ed4562d4459cf0746751cd91b98147cea8", func := "psaltery/psalterylaw08.WaveLevel", spec := "waveLevel", unfollowed := true, recurses := true, apart := false, narrowed := true }
def WaveLevelUptoSaid : Prop := waveLevelUptoRow.holds Try.pinned (OpenSpec.upto waveLevelSpec)

/-- 'psalterylaw08.WaveBounds', WHERE WHAT IT READS IS OF BULK AT MOST 1048576: true; the input reads as it did. -/
def waveBoundsUptoRow : OpenClaim := { program := "ytiikcnbfdnadfaa", sum := "a589b696b52e4cc887bd9aeda93455ed4562d4459cf0746751cd91b98147cea8", func := "psaltery/psalterylaw08.WaveBounds", spec := "waveBounds", unfollowed := true, recurses := true, apart := false, narrowed := true }
def WaveBoundsUptoSaid : Prop := waveBoundsUptoRow.holds Try.pinned (OpenSpec.upto waveBoundsSpec)

end Rows
end Go.Proofs.Ytiikcnbfdnadfaa
