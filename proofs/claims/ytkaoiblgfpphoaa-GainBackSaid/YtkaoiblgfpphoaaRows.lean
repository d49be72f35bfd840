/-
  No cell of these rows narrows 'for every input' (looked for: loops, veiled, ifaces, maps, wideKeys, modest, calm, conditions, laid).
  DERIVED. THE GIVEN ROWS OF THIS SEAT. 14 by the template 'for every input the law returns true; each argument reads behind the call as it read before'; 0 by the template 'total and deterministic' (their statements: YtkaoiblgfpphoaaTotals.lean).
  GIVEN WITH THE SEED: the statements are not yours to turn. If you find one false, say at which input.
  Laid BY PROGRAM, IN A SANDBOX (cutbox-rows.mjs): the forced cells as the released guide's own fill.sh prints them over the translation b28d433f15017356… (all of the seat's roots in one cut). By AI agents, Wed Nov 11 2026. No macro, syntax, notation, axiom, sorry.
-/
import Derived.Test.YtkaoiblgfpphoaaChecked
import GoSem.Claim
import GoSem.ClaimJoined
import GoSem.ClaimMapViews
import Derived.JoinedTies
import Derived.KernelRfl
namespace Go.Proofs.Ytkaoiblgfpphoaa
/- THE CELL 'sum', in the pinned program and in every row, IS THE sha256 OF THE DUMP (.gsa) THAT YtkaoiblgfpphoaaProg.lean LOADS. Nothing in Lean hashes anything: it is a label: what it is worth is what the hold of that sum in a sandbox is worth. -/
noncomputable def Try.pinned : Pinned := { name := "ytkaoiblgfpphoaa", sum := "b28d433f15017356a55e7a2f3634d4abf2cac7494fc7f1f9d769dd837cfcf436", checked := Try.checked }
namespace Rows
def none {H : Type} : Left H := { results := [], args := [] }

/-- 'psalterylaw05.CoderPuts': WHATEVER THE INPUT: true; the input reads as it did. -/
def coderPutsSpec : ChangeSpec := { name := "coderPuts", fn := fun _ => fun
  | [d1, d2, d3, d4] => { results := [.lit (.bool true)], args := [d1, d2, d3, d4] }
  | _ => none }
def coderPutsRow : OpenClaim := { program := "ytkaoiblgfpphoaa", sum := "b28d433f15017356a55e7a2f3634d4abf2cac7494fc7f1f9d769dd837cfcf436", func := "psaltery/psalterylaw05.CoderPuts", spec := "coderPuts", apart := false }
def CoderPutsSaid : Prop := coderPutsRow.holds Try.pinned (OpenSpec.ofChange coderPutsSpec)

/-- ITS FALSE NEIGHBOUR: 'it returns false'. Refute it at one input. -/
def coderPutsWrong : ChangeSpec := { name := "coderPuts", fn := fun _ => fun
  | [d1, d2, d3, d4] => { results := [.lit (.bool false)], args := [d1, d2, d3, d4] }
  | _ => none }
def CoderPutsWrongFalsely : Prop := coderPutsRow.holds Try.pinned (OpenSpec.ofChange coderPutsWrong)

/-- 'psalterylaw05.CoderOpens': WHATEVER THE INPUT: true; the input reads as it did. -/
def coderOpensSpec : ChangeSpec := { name := "coderOpens", fn := fun _ => fun
  | [d] => { results := [.lit (.bool true)], args := [d] }
  | _ => none }
def coderOpensRow : OpenClaim := { program := "ytkaoiblgfpphoaa", sum := "b28d433f15017356a55e7a2f3634d4abf2cac7494fc7f1f9d769dd837cfcf436", func := "psaltery/psalterylaw05.CoderOpens", spec := "coderOpens", apart := false }
def CoderOpensSaid : Prop := coderOpensRow.holds Try.pinned (OpenSpec.ofChange coderOpensSpec)

/-- ITS FALSE NEIGHBOUR: 'it returns false'. Refute it at one input. -/
def coderOpensWrong : ChangeSpec := { name := "coderOpens", fn := fun _ => fun
  | [d] => { results := [.lit (.bool false)], args := [d] }
  | _ => none }
def CoderOpensWrongFalsely : Prop := coderOpensRow.holds Try.pinned (OpenSpec.ofChange coderOpensWrong)

/-- 'psalterylaw05.CoderShort': WHATEVER THE INPUT: true; the input reads as it did. -/
def coderShortSpec : ChangeSpec := { name := "coderShort", fn := fun _ => fun
  | [d] => { results := [.lit (.bool true)], args := [d] }
  | _ => none }
def coderShortRow : OpenClaim := { program := "ytkaoiblgfpphoaa", sum := "b28d433f15017356a55e7a2f3634d4abf2cac7494fc7f1f9d769dd837cfcf436", func := "psaltery/psalterylaw05.CoderShort", spec := "coderShort", recurses := true, apart := false }
def CoderShortSaid : Prop := coderShortRow.holds Try.pinned (OpenSpec.ofChange coderShortSpec)

/-- ITS FALSE NEIGHBOUR: 'it returns false'. Refute it at one input. -/
def coderShortWrong : ChangeSpec := { name := "coderShort", fn := fun _ => fun
  | [d] => { results := [.lit (.bool false)], args := [d] }
  | _ => none }
def CoderShortWrongFalsely : Prop := coderShortRow.holds Try.pinned (OpenSpec.ofChange coderShortWrong)

/-- 'psalterylaw05.CoderTakes': WHATEVER THE INPUT: true; the input reads as it did. -/
def coderTakesSpec : ChangeSpec := { name := "coderTakes", fn := fun _ => fun
  | [d1, d2, d3, d4] => { results := [.lit (.bool true)], args := [d1, d2, d3, d4] }
  | _ => none }
def coderTakesRow : OpenClaim := { program := "ytkaoiblgfpphoaa", sum := "b28d433f15017356a55e7a2f3634d4abf2cac7494fc7f1f9d769dd837cfcf436", func := "psaltery/psalterylaw05.CoderTakes", spec := "coderTakes", apart := false }
def CoderTakesSaid : Prop := coderTakesRow.holds Try.pinned (OpenSpec.ofChange coderTakesSpec)

/-- ITS FALSE NEIGHBOUR: 'it returns false'. Refute it at one input. -/
def coderTakesWrong : ChangeSpec := { name := "coderTakes", fn := fun _ => fun
  | [d1, d2, d3, d4] => { results := [.lit (.bool false)], args := [d1, d2, d3, d4] }
  | _ => none }
def CoderTakesWrongFalsely : Prop := coderTakesRow.holds Try.pinned (OpenSpec.ofChange coderTakesWrong)

/-- 'psalterylaw05.CoderBack': WHATEVER THE INPUT: true; the input reads as it did. -/
def coderBackSpec : ChangeSpec := { name := "coderBack", fn := fun _ => fun
  | [d] => { results := [.lit (.bool true)], args := [d] }
  | _ => none }
def coderBackRow : OpenClaim := { program := "ytkaoiblgfpphoaa", sum := "b28d433f15017356a55e7a2f3634d4abf2cac7494fc7f1f9d769dd837cfcf436", func := "psaltery/psalterylaw05.CoderBack", spec := "coderBack", apart := false }
def CoderBackSaid : Prop := coderBackRow.holds Try.pinned (OpenSpec.ofChange coderBackSpec)

/-- ITS FALSE NEIGHBOUR: 'it returns false'. Refute it at one input. -/
def coderBackWrong : ChangeSpec := { name := "coderBack", fn := fun _ => fun
  | [d] => { results := [.lit (.bool false)], args := [d] }
  | _ => none }
def CoderBackWrongFalsely : Prop := coderBackRow.holds Try.pinned (OpenSpec.ofChange coderBackWrong)

/-- 'psalterylaw05.CoderAny': WHATEVER THE INPUT: true; the input reads as it did. -/
def coderAnySpec : ChangeSpec := { name := "coderAny", fn := fun _ => fun
  | [d1, d2] => { results := [.lit (.bool true)], args := [d1, d2] }
  | _ => none }
def coderAnyRow : OpenClaim := { program := "ytkaoiblgfpphoaa", sum := "b28d433f15017356a55e7a2f3634d4abf2cac7494fc7f1f9d769dd837cfcf436", func := "psaltery/psalterylaw05.CoderAny", spec := "coderAny", apart := false }
def CoderAnySaid : Prop := coderAnyRow.holds Try.pinned (OpenSpec.ofChange coderAnySpec)

/-- ITS FALSE NEIGHBOUR: 'it returns false'. Refute it at one input. -/
def coderAnyWrong : ChangeSpec := { name := "coderAny", fn := fun _ => fun
  | [d1, d2] => { results := [.lit (.bool false)], args := [d1, d2] }
  | _ => none }
def CoderAnyWrongFalsely : Prop := coderAnyRow.holds Try.pinned (OpenSpec.ofChange coderAnyWrong)

/-- 'psalterylaw05.CoderNums': WHATEVER THE INPUT: true; the input reads as it did. -/
def coderNumsSpec : ChangeSpec := { name := "coderNums", fn := fun _ => fun
  | [d1, d2, d3, d4] => { results := [.lit (.bool true)], args := [d1, d2, d3, d4] }
  | _ => none }
def coderNumsRow : OpenClaim := { program := "ytkaoiblgfpphoaa", sum := "b28d433f15017356a55e7a2f3634d4abf2cac7494fc7f1f9d769dd837cfcf436", func := "psaltery/psalterylaw05.CoderNums", spec := "coderNums", apart := false }
def CoderNumsSaid : Prop := coderNumsRow.holds Try.pinned (OpenSpec.ofChange coderNumsSpec)

/-- ITS FALSE NEIGHBOUR: 'it returns false'. Refute it at one input. -/
def coderNumsWrong : ChangeSpec := { name := "coderNums", fn := fun _ => fun
  | [d1, d2, d3, d4] => { results := [.lit (.bool false)], args := [d1, d2, d3, d4] }
  | _ => none }
def CoderNumsWrongFalsely : Prop := coderNumsRow.holds Try.pinned (OpenSpec.ofChange coderNumsWrong)

/-- 'psalterylaw05.CoderNumsBack': WHATEVER THE INPUT: true; the input reads as it did. -/
def coderNumsBackSpec : ChangeSpec := { name := "coderNumsBack", fn := fun _ => fun
  | [d] => { results := [.lit (.bool true)], args := [d] }
  | _ => none }
def coderNumsBackRow : OpenClaim := { program := "ytkaoiblgfpphoaa", sum := "b28d433f15017356a55e7a2f3634d4abf2cac7494fc7f1f9d769dd837cfcf436", func := "psaltery/psalterylaw05.CoderNumsBack", spec := "coderNumsBack", apart := false }
def CoderNumsBackSaid : Prop := coderNumsBackRow.holds Try.pinned (OpenSpec.ofChange coderNumsBackSpec)

/-- ITS FALSE NEIGHBOUR: 'it returns false'. Refute it at one input. -/
def coderNumsBackWrong : ChangeSpec := { name := "coderNumsBack", fn := fun _ => fun
  | [d] => { results := [.lit (.bool false)], args := [d] }
  | _ => none }
def CoderNumsBackWrongFalsely : Prop := coderNumsBackRow.holds Try.pinned (OpenSpec.ofChange coderNumsBackWrong)

/-- 'psalterylaw11.GainPuts': WHATEVER THE INPUT: true; the input reads as it did. -/
def gainPutsSpec : ChangeSpec := { name := "gainPuts", fn := fun _ => fun
  | [d1, d2, d3, d4] => { results := [.lit (.bool true)], args := [d1, d2, d3, d4] }
  | _ => none }
def gainPutsRow : OpenClaim := { program := "ytkaoiblgfpphoaa", sum := "b28d433f15017356a55e7a2f3634d4abf2cac7494fc7f1f9d769dd837cfcf436", func := "psaltery/psalterylaw11.GainPuts", spec := "gainPuts", apart := false }
def GainPutsSaid : Prop := gainPutsRow.holds Try.pinned (OpenSpec.ofChange gainPutsSpec)

/-- ITS FALSE NEIGHBOUR: 'it returns false'. Refute it at one input. -/
def gainPutsWrong : ChangeSpec := { name := "gainPuts", fn := fun _ => fun
  | [d1, d2, d3, d4] => { results := [.lit (.bool false)], args := [d1, d2, d3, d4] }
  | _ => none }
def GainPutsWrongFalsely : Prop := gainPutsRow.holds Try.pinned (OpenSpec.ofChange gainPutsWrong)

/-- 'psalterylaw11.GainTakes': WHATEVER THE INPUT: true; the input reads as it did. -/
def gainTakesSpec : ChangeSpec := { name := "gainTakes", fn := fun _ => fun
  | [d1, d2, d3] => { results := [.lit (.bool true)], args := [d1, d2, d3] }
  | _ => none }
def gainTakesRow : OpenClaim := { program := "ytkaoiblgfpphoaa", sum := "b28d433f15017356a55e7a2f3634d4abf2cac7494fc7f1f9d769dd837cfcf436", func := "psaltery/psalterylaw11.GainTakes", spec := "gainTakes", apart := false }
def GainTakesSaid : Prop := gainTakesRow.holds Try.pinned (OpenSpec.ofChange gainTakesSpec)

/-- ITS FALSE NEIGHBOUR: 'it returns false'. Refute it at one input. -/
def gainTakesWrong : ChangeSpec := { name := "gainTakes", fn := fun _ => fun
  | [d1, d2, d3] => { results := [.lit (.bool false)], args := [d1, d2, d3] }
  | _ => none }
def GainTakesWrongFalsely : Prop := gainTakesRow.holds Try.pinned (OpenSpec.ofChange gainTakesWrong)

/-- 'psalterylaw11.GainBack': WHATEVER THE INPUT: true; the input reads as it did. -/
def gainBackSpec : ChangeSpec := { name := "gainBack", fn := fun _ => fun
  | [d] => { results := [.lit (.bool true)], args := [d] }
  | _ => none }
def gainBackRow : OpenClaim := { program := "ytkaoiblgfpphoaa", sum := "b28d433f15017356a55e7a2f3634d4abf2cac7494fc7f1f9d769dd837cfcf436", func := "psaltery/psalterylaw11.GainBack", spec := "gainBack", apart := false }
def GainBackSaid : Prop := gainBackRow.holds Try.pinned (OpenSpec.ofChange gainBackSpec)

/-- ITS FALSE NEIGHBOUR: 'it returns false'. Refute it at one input. -/
def gainBackWrong : ChangeSpec := { name := "gainBack", fn := fun _ => fun
  | [d] => { results := [.lit (.bool false)], args := [d] }
  | _ => none }
def GainBackWrongFalsely : Prop := gainBackRow.holds Try.pinned (OpenSpec.ofChange gainBackWrong)

/-- 'psalterylaw11.GainAny': WHATEVER THE INPUT: true; the input reads as it did. -/
def gainAnySpec : ChangeSpec := { name := "gainAny", fn := fun _ => fun
  | [d1, d2, d3] => { results := [.lit (.bool true)], args := [d1, d2, d3] }
  | _ => none }
def gainAnyRow : OpenClaim := { program := "ytkaoiblgfpphoaa", sum := "b28d433f15017356a55e7a2f3634d4abf2cac7494fc7f1f9d769dd837cfcf436", func := "psaltery/psalterylaw11.GainAny", spec := "gainAny", apart := false }
def GainAnySaid : Prop := gainAnyRow.holds Try.pinned (OpenSpec.ofChange gainAnySpec)

/-- ITS FALSE NEIGHBOUR: 'it returns false'. Refute it at one input. -/
def gainAnyWrong : ChangeSpec := { name := "gainAny", fn := fun _ => fun
  | [d1, d2, d3] => { results := [.lit (.bool false)], args := [d1, d2, d3] }
  | _ => none }
def GainAnyWrongFalsely : Prop := gainAnyRow.holds Try.pinned (OpenSpec.ofChange gainAnyWrong)

/-- 'psalterylaw11.GainAlone': WHATEVER THE INPUT: true; the input reads as it did. -/
def gainAloneSpec : ChangeSpec := { name := "gainAlone", fn := fun _ => fun
  | [d1, d2, d3, d4, d5] => { results := [.lit (.bool true)], args := [d1, d2, d3, d4, d5] }
  | _ => none }
def gainAloneRow : OpenClaim := { program := "ytkaoiblgfpphoaa", sum := "b28d433f15017356a55e7a2f3634d4abf2cac7494fc7f1f9d769dd837cfcf436", func := "psaltery/psalterylaw11.GainAlone", spec := "gainAlone", apart := false }
def GainAloneSaid : Prop := gainAloneRow.holds Try.pinned (OpenSpec.ofChange gainAloneSpec)

/-- ITS FALSE NEIGHBOUR: 'it returns false'. Refute it at one input. -/
def gainAloneWrong : ChangeSpec := { name := "gainAlone", fn := fun _ => fun
  | [d1, d2, d3, d4, d5] => { results := [.lit (.bool false)], args := [d1, d2, d3, d4, d5] }
  | _ => none }
def GainAloneWrongFalsely : Prop := gainAloneRow.holds Try.pinned (OpenSpec.ofChange gainAloneWrong)

/-- 'psalterylaw11.GainShort': WHATEVER THE INPUT: true; the input reads as it did. -/
def gainShortSpec : ChangeSpec := { name := "gainShort", fn := fun _ => fun
  | [d] => { results := [.lit (.bool true)], args := [d] }
  | _ => none }
def gainShortRow : OpenClaim := { program := "ytkaoiblgfpphoaa", sum := "b28d433f15017356a55e7a2f3634d4abf2cac7494fc7f1f9d769dd837cfcf436", func := "psaltery/psalterylaw11.GainShort", spec := "gainShort", apart := false }
def GainShortSaid : Prop := gainShortRow.holds Try.pinned (OpenSpec.ofChange gainShortSpec)

/-- ITS FALSE NEIGHBOUR: 'it returns false'. Refute it at one input. -/
def gainShortWrong : ChangeSpec := { name := "gainShort", fn := fun _ => fun
  | [d] => { results := [.lit (.bool false)], args := [d] }
  | _ => none }
def GainShortWrongFalsely : Prop := gainShortRow.holds Try.pinned (OpenSpec.ofChange gainShortWrong)

/- THE SECOND FORM. 'bulk': how many values and letters a reading holds, each counted each time it is reached (what is shared counts as often as it is met; a slice's spare places count too). A statement '..UptoSaid' is the law's where the arguments, and the package variables that the reading takes, are together of bulk at most 1048576: NARROWER than '..Said'. Prove '..Said' where nothing that the law and all that it calls make is longer than what came in: it says more and counts as full. Else prove '..UptoSaid'. A law counts once. -/
mutual
def uptoBulk {H : Type} : DataW H → Nat
  | .lit (.string bytes) => bytes.length + 1
  | .lit _ => 1
  | .nil => 1
  | .ptr d => uptoBulk d + 1
  | .slice elems spare => uptoBulkAll elems + uptoBulkAll spare + 1
  | .agg parts => uptoBulkAll parts + 1
  | .iface _ d => uptoBulk d + 1
  | .map entries => uptoBulkEntries entries + 1
  | .held _ => 1
def uptoBulkAll {H : Type} : List (DataW H) → Nat
  | [] => 0
  | d :: r => uptoBulk d + uptoBulkAll r
def uptoBulkEntries {H : Type} : List (Lit × DataW H) → Nat
  | [] => 0
  | x :: r => uptoBulkEntry x + uptoBulkEntries r
def uptoBulkEntry {H : Type} : Lit × DataW H → Nat
  | (.string bytes, d) => bytes.length + uptoBulk d + 1
  | (_, d) => uptoBulk d + 1
 end
def uptoSmall : (H : Type) → List (DataW H) → Bool := fun _ ds => decide (uptoBulkAll ds ≤ 1048576)
def OpenSpec.upto (s : _root_.Go.ChangeSpec) : _root_.Go.OpenSpec := { _root_.Go.OpenSpec.ofChange s with cond := some uptoSmall }

/-- 'psalterylaw05.CoderPuts', WHERE WHAT IT READS IS OF BULK AT MOST 1048576: true; the input reads as it did. -/
def coderPutsUptoRow : OpenClaim := { program := "ytkaoiblgfpphoaa", sum := "b28d433f15017356a55e7a2f3634d4abf2cac7494fc7f1f9d769dd837cfcf436", func := "psaltery/psalterylaw05.CoderPuts", spec := "coderPuts", apart := false, narrowed := true }
def CoderPutsUptoSaid : Prop := coderPutsUptoRow.holds Try.pinned (OpenSpec.upto coderPutsSpec)

/-- 'psalterylaw05.CoderOpens', WHERE WHAT IT READS IS OF BULK AT MOST 1048576: true; the input reads as it did. -/
def coderOpensUptoRow : OpenClaim := { program := "ytkaoiblgfpphoaa", sum := "b28d433f15017356a55e7a2f3634d4abf2cac7494fc7f1f9d769dd837cfcf436", func := "psaltery/psalterylaw05.CoderOpens", spec := "coderOpens", apart := false, narrowed := true }
def CoderOpensUptoSaid : Prop := coderOpensUptoRow.holds Try.pinned (OpenSpec.upto coderOpensSpec)

/-- 'psalterylaw05.CoderShort', WHERE WHAT IT READS IS OF BULK AT MOST 1048576: true; the input reads as it did. -/
def coderShortUptoRow : OpenClaim := { program := "ytkaoiblgfpphoaa", sum := "b28d433f15017356a55e7a2f3634d4abf2cac7494fc7f1f9d769dd837cfcf436", func := "psaltery/psalterylaw05.CoderShort", spec := "coderShort", recurses := true, apart := false, narrowed := true }
def CoderShortUptoSaid : Prop := coderShortUptoRow.holds Try.pinned (OpenSpec.upto coderShortSpec)

/-- 'psalterylaw05.CoderTakes', WHERE WHAT IT READS IS OF BULK AT MOST 1048576: true; the input reads as it did. -/
def coderTakesUptoRow : OpenClaim := { program := "ytkaoiblgfpphoaa", sum := "b28d433f15017356a55e7a2f3634d4abf2cac7494fc7f1f9d769dd837cfcf436", func := "psaltery/psalterylaw05.CoderTakes", spec := "coderTakes", apart := false, narrowed := true }
def CoderTakesUptoSaid : Prop := coderTakesUptoRow.holds Try.pinned (OpenSpec.upto coderTakesSpec)

/-- 'psalterylaw05.CoderBack', WHERE WHAT IT READS IS OF BULK AT MOST 1048576: true; the input reads as it did. -/
def coderBackUptoRow : OpenClaim := { program := "ytkaoiblgfpphoaa", sum := "b28d433f15017356a55e7a2f3634d4abf2cac7494fc7f1f9d769dd837cfcf436", func := "psaltery/psalterylaw05.CoderBack", spec := "coderBack", apart := false, narrowed := true }
def CoderBackUptoSaid : Prop := coderBackUptoRow.holds Try.pinned (OpenSpec.upto coderBackSpec)

/-- 'psalterylaw05.CoderAny', WHERE WHAT IT READS IS OF BULK AT MOST 1048576: true; the input reads as it did. -/
def coderAnyUptoRow : OpenClaim := { program := "ytkaoiblgfpphoaa", sum := "b28d433f15017356a55e7a2f3634d4abf2cac7494fc7f1f9d769dd837cfcf436", func := "psaltery/psalterylaw05.CoderAny", spec := "coderAny", apart := false, narrowed := true }
def CoderAnyUptoSaid : Prop := coderAnyUptoRow.holds Try.pinned (OpenSpec.upto coderAnySpec)

/-- 'psalterylaw05.CoderNums', WHERE WHAT IT READS IS OF BULK AT MOST 1048576: true; the input reads as it did. -/
def coderNumsUptoRow : OpenClaim := { program := "ytkaoiblgfpphoaa", sum := "b28d433f15017356a55e7a2f3634d4abf2cac7494fc7f1f9d769dd837cfcf436", func := "psaltery/psalterylaw05.CoderNums", spec := "coderNums", apart := false, narrowed := true }
def CoderNumsUptoSaid : Prop := coderNumsUptoRow.holds Try.pinned (OpenSpec.upto coderNumsSpec)

/-- 'psalterylaw05.CoderNumsBack', WHERE WHAT IT READS IS OF BULK AT MOST 1048576: true; the input reads as it did. -/
def coderNumsBackUptoRow : OpenClaim := { program := "ytkaoiblgfpphoaa", sum := "b28d433f15017356a55e7a2f3634d4abf2cac7494fc7f1f9d769dd837cfcf436", func := "psaltery/psalterylaw05.CoderNumsBack", spec := "coderNumsBack", apart := false, narrowed := true }
def CoderNumsBackUptoSaid : Prop := coderNumsBackUptoRow.holds Try.pinned (OpenSpec.upto coderNumsBackSpec)

/-- 'psalterylaw11.GainPuts', WHERE WHAT IT READS IS OF BULK AT MOST 1048576: true; the input reads as it did. -/
def gainPutsUptoRow : OpenClaim := { program := "ytkaoiblgfpphoaa", sum := "b28d433f15017356a55e7a2f3634d4abf2cac7494fc7f1f9d769dd837cfcf436", func := "psaltery/psalterylaw11.GainPuts", spec := "gainPuts", apart := false, narrowed := true }
def GainPutsUptoSaid : Prop := gainPutsUptoRow.holds Try.pinned (OpenSpec.upto gainPutsSpec)

/-- 'psalterylaw11.GainTakes', WHERE WHAT IT READS IS OF BULK AT MOST 1048576: true; the input reads as it did. -/
def gainTakesUptoRow : OpenClaim := { program := "ytkaoiblgfpphoaa", sum := "b28d433f15017356a55e7a2f3634d4abf2cac7494fc7f1f9d769dd837cfcf436", func := "psaltery/psalterylaw11.GainTakes", spec := "gainTakes", apart := false, narrowed := true }
def GainTakesUptoSaid : Prop := gainTakesUptoRow.holds Try.pinned (OpenSpec.upto gainTakesSpec)

/-- 'psalterylaw11.GainBack', WHERE WHAT IT READS IS OF BULK AT MOST 1048576: true; the input reads as it did. -/
def gainBackUptoRow : OpenClaim := { program := "ytkaoiblgfpphoaa", sum := "b28d433f15017356a55e7a2f3634d4abf2cac7494fc7f1f9d769dd837cfcf436", func := "psaltery/psalterylaw11.GainBack", spec := "gainBack", apart := false, narrowed := true }
def GainBackUptoSaid : Prop := gainBackUptoRow.holds Try.pinned (OpenSpec.upto gainBackSpec)

/-- 'psalterylaw11.GainAny', WHERE WHAT IT READS IS OF BULK AT MOST 1048576: true; the input reads as it did. -/
def gainAnyUptoRow : OpenClaim := { program := "ytkaoiblgfpphoaa", sum := "b28d433f15017356a55e7a2f3634d4abf2cac7494fc7f1f9d769dd837cfcf436", func := "psaltery/psalterylaw11.GainAny", spec := "gainAny", apart := false, narrowed := true }
def GainAnyUptoSaid : Prop := gainAnyUptoRow.holds Try.pinned (OpenSpec.upto gainAnySpec)

/-- 'psalterylaw11.GainAlone', WHERE WHAT IT READS IS OF BULK AT MOST 1048576: true; the input reads as it did. -/
def gainAloneUptoRow : OpenClaim := { program := "ytkaoiblgfpphoaa", sum := "b28d433f15017356a55e7a2f3634d4abf2cac7494fc7f1f9d769dd837cfcf436", func := "psaltery/psalterylaw11.GainAlone", spec := "gainAlone", apart := false, narrowed := true }
def GainAloneUptoSaid : Prop := gainAloneUptoRow.holds Try.pinned (OpenSpec.upto gainAloneSpec)

/-- 'psalterylaw11.GainShort', WHERE WHAT IT READS IS OF BULK AT MOST 1048576: true; the input reads as it did. -/
def gainShortUptoRow : OpenClaim := { program := "ytkaoiblgfpphoaa", sum := "b28d433f15017356a55e7a2f3634d4abf2cac7494fc7f1f9d769dd837cfcf436", func := "psaltery/psalterylaw11.GainShort", spec := "gainShort", apart := false, narrowed := true }
def GainShortUptoSaid : Prop := gainShortUptoRow.holds Try.pinned (OpenSpec.upto gainShortSpec)

end Rows
end Go.Proofs.Ytkaoiblgfpphoaa
