/-
  No cell of these rows narrows 'for every input' (looked for: loops, veiled, ifaces, maps, wideKeys, modest, calm, conditions, laid).
  DERIVED. THE GIVEN ROWS OF THIS SEAT. 14 by the template 'for every input the law returns true; each argument reads behind the call as it read before'; 0 by the template 'total and deterministic' (their statements: YthjmodhemglgbaaTotals.lean).
  GIVEN WITH THE SEED: the statements are not yours to turn. If you find one false, say at which input.
  Laid BY PROGRAM, IN A SANDBOX (cutbox-rows.mjs): the forced cells as the released guide's own fill.sh prints them over the translation 8f36666817a44776… (all of the seat's roots in one cut). By AI agents, Wed Nov 11 2026. No macro, syntax, notation, axiom, sorry.
-/
import Derived.Test.YthjmodhemglgbaaChecked
import GoSem.Claim
import GoSem.ClaimJoined
import GoSem.ClaimMapViews
import Derived.JoinedTies
import Derived.KernelRfl
namespace Go.Proofs.Ythjmodhemglgbaa
/- THE CELL 'sum', in the pinned program and in every row, IS THE sha256 OF THE DUMP (.gsa) THAT YthjmodhemglgbaaProg.lean LOADS. Nothing in Lean hashes anything: it is a label: what it is worth is what the hold of that sum in a sandbox is worth. -/
noncomputable def Try.pinned : Pinned := { name := "ythjmodhemglgbaa", sum := "8f36666817a44776f18e9fb8554c468c1cf11b71a66c97bbaaec499f6458d120", checked := Try.checked }
namespace Rows
def none {H : Type} : Left H := { results := [], args := [] }

/-- 'waggonerlaw13.SpaceHolds': WHATEVER THE INPUT: true; the input reads as it did. -/
def spaceHoldsSpec : ChangeSpec := { name := "spaceHolds", fn := fun _ => fun
  | [d1, d2] => { results := [.lit (.bool true)], args := [d1, d2] }
  | _ => none }
def spaceHoldsRow : OpenClaim := { program := "ythjmodhemglgbaa", sum := "8f36666817a44776f18e9fb8554c468c1cf11b71a66c97bbaaec499f6458d120", func := "waggoner/waggonerlaw13.SpaceHolds", spec := "spaceHolds", inPlace := ["internal/bytealg.IndexByteString", "internal/bytealg.IndexString"], unfollowed := true, recurses := true, named := ["internal/bytealg.MaxLen"], apart := false }
def SpaceHoldsSaid : Prop := spaceHoldsRow.holds Try.pinned (OpenSpec.ofChange spaceHoldsSpec)

/-- ITS FALSE NEIGHBOUR: 'it returns false'. Refute it at one input. -/
def spaceHoldsWrong : ChangeSpec := { name := "spaceHolds", fn := fun _ => fun
  | [d1, d2] => { results := [.lit (.bool false)], args := [d1, d2] }
  | _ => none }
def SpaceHoldsWrongFalsely : Prop := spaceHoldsRow.holds Try.pinned (OpenSpec.ofChange spaceHoldsWrong)

/-- 'waggonerlaw12.SnapTells': WHATEVER THE INPUT: true; the input reads as it did. -/
def snapTellsSpec : ChangeSpec := { name := "snapTells", fn := fun _ => fun
  | [d1, d2, d3] => { results := [.lit (.bool true)], args := [d1, d2, d3] }
  | _ => none }
def snapTellsRow : OpenClaim := { program := "ythjmodhemglgbaa", sum := "8f36666817a44776f18e9fb8554c468c1cf11b71a66c97bbaaec499f6458d120", func := "waggoner/waggonerlaw12.SnapTells", spec := "snapTells", inPlace := ["internal/bytealg.IndexByteString", "internal/bytealg.IndexString"], unfollowed := true, recurses := true, named := ["internal/bytealg.MaxLen"], apart := false }
def SnapTellsSaid : Prop := snapTellsRow.holds Try.pinned (OpenSpec.ofChange snapTellsSpec)

/-- ITS FALSE NEIGHBOUR: 'it returns false'. Refute it at one input. -/
def snapTellsWrong : ChangeSpec := { name := "snapTells", fn := fun _ => fun
  | [d1, d2, d3] => { results := [.lit (.bool false)], args := [d1, d2, d3] }
  | _ => none }
def SnapTellsWrongFalsely : Prop := snapTellsRow.holds Try.pinned (OpenSpec.ofChange snapTellsWrong)

/-- 'waggonerlaw12.SnapFinds': WHATEVER THE INPUT: true; the input reads as it did. -/
def snapFindsSpec : ChangeSpec := { name := "snapFinds", fn := fun _ => fun
  | [d] => { results := [.lit (.bool true)], args := [d] }
  | _ => none }
def snapFindsRow : OpenClaim := { program := "ythjmodhemglgbaa", sum := "8f36666817a44776f18e9fb8554c468c1cf11b71a66c97bbaaec499f6458d120", func := "waggoner/waggonerlaw12.SnapFinds", spec := "snapFinds", inPlace := ["internal/bytealg.IndexByteString", "internal/bytealg.IndexString"], unfollowed := true, recurses := true, named := ["internal/bytealg.MaxLen"], apart := false }
def SnapFindsSaid : Prop := snapFindsRow.holds Try.pinned (OpenSpec.ofChange snapFindsSpec)

/-- ITS FALSE NEIGHBOUR: 'it returns false'. Refute it at one input. -/
def snapFindsWrong : ChangeSpec := { name := "snapFinds", fn := fun _ => fun
  | [d] => { results := [.lit (.bool false)], args := [d] }
  | _ => none }
def SnapFindsWrongFalsely : Prop := snapFindsRow.holds Try.pinned (OpenSpec.ofChange snapFindsWrong)

/-- 'waggonerlaw12.SnapBack': WHATEVER THE INPUT: true; the input reads as it did. -/
def snapBackSpec : ChangeSpec := { name := "snapBack", fn := fun _ => fun
  | [d1, d2, d3] => { results := [.lit (.bool true)], args := [d1, d2, d3] }
  | _ => none }
def snapBackRow : OpenClaim := { program := "ythjmodhemglgbaa", sum := "8f36666817a44776f18e9fb8554c468c1cf11b71a66c97bbaaec499f6458d120", func := "waggoner/waggonerlaw12.SnapBack", spec := "snapBack", inPlace := ["internal/bytealg.IndexByteString", "internal/bytealg.IndexString"], unfollowed := true, recurses := true, named := ["internal/bytealg.MaxLen"], apart := false }
def SnapBackSaid : Prop := snapBackRow.holds Try.pinned (OpenSpec.ofChange snapBackSpec)

/-- ITS FALSE NEIGHBOUR: 'it returns false'. Refute it at one input. -/
def snapBackWrong : ChangeSpec := { name := "snapBack", fn := fun _ => fun
  | [d1, d2, d3] => { results := [.lit (.bool false)], args := [d1, d2, d3] }
  | _ => none }
def SnapBackWrongFalsely : Prop := snapBackRow.holds Try.pinned (OpenSpec.ofChange snapBackWrong)

/-- 'waggonerlaw12.SnapLast': WHATEVER THE INPUT: true; the input reads as it did. -/
def snapLastSpec : ChangeSpec := { name := "snapLast", fn := fun _ => fun
  | [d1, d2] => { results := [.lit (.bool true)], args := [d1, d2] }
  | _ => none }
def snapLastRow : OpenClaim := { program := "ythjmodhemglgbaa", sum := "8f36666817a44776f18e9fb8554c468c1cf11b71a66c97bbaaec499f6458d120", func := "waggoner/waggonerlaw12.SnapLast", spec := "snapLast", inPlace := ["internal/bytealg.IndexByteString", "internal/bytealg.IndexString"], unfollowed := true, recurses := true, named := ["internal/bytealg.MaxLen"], apart := false }
def SnapLastSaid : Prop := snapLastRow.holds Try.pinned (OpenSpec.ofChange snapLastSpec)

/-- ITS FALSE NEIGHBOUR: 'it returns false'. Refute it at one input. -/
def snapLastWrong : ChangeSpec := { name := "snapLast", fn := fun _ => fun
  | [d1, d2] => { results := [.lit (.bool false)], args := [d1, d2] }
  | _ => none }
def SnapLastWrongFalsely : Prop := snapLastRow.holds Try.pinned (OpenSpec.ofChange snapLastWrong)

/-- 'waggonerlaw12.SnapTurns': WHATEVER THE INPUT: true; the input reads as it did. -/
def snapTurnsSpec : ChangeSpec := { name := "snapTurns", fn := fun _ => fun
  | [d1, d2, d3] => { results := [.lit (.bool true)], args := [d1, d2, d3] }
  | _ => none }
def snapTurnsRow : OpenClaim := { program := "ythjmodhemglgbaa", sum := "8f36666817a44776f18e9fb8554c468c1cf11b71a66c97bbaaec499f6458d120", func := "waggoner/waggonerlaw12.SnapTurns", spec := "snapTurns", inPlace := ["internal/bytealg.IndexByteString", "internal/bytealg.IndexString"], unfollowed := true, recurses := true, named := ["internal/bytealg.MaxLen"], apart := false }
def SnapTurnsSaid : Prop := snapTurnsRow.holds Try.pinned (OpenSpec.ofChange snapTurnsSpec)

/-- ITS FALSE NEIGHBOUR: 'it returns false'. Refute it at one input. -/
def snapTurnsWrong : ChangeSpec := { name := "snapTurns", fn := fun _ => fun
  | [d1, d2, d3] => { results := [.lit (.bool false)], args := [d1, d2, d3] }
  | _ => none }
def SnapTurnsWrongFalsely : Prop := snapTurnsRow.holds Try.pinned (OpenSpec.ofChange snapTurnsWrong)

/-- 'waggonerlaw12.SnapSizes': WHATEVER THE INPUT: true; the input reads as it did. -/
def snapSizesSpec : ChangeSpec := { name := "snapSizes", fn := fun _ => fun
  | [d1, d2] => { results := [.lit (.bool true)], args := [d1, d2] }
  | _ => none }
def snapSizesRow : OpenClaim := { program := "ythjmodhemglgbaa", sum := "8f36666817a44776f18e9fb8554c468c1cf11b71a66c97bbaaec499f6458d120", func := "waggoner/waggonerlaw12.SnapSizes", spec := "snapSizes", inPlace := ["internal/bytealg.IndexByteString", "internal/bytealg.IndexString"], unfollowed := true, recurses := true, named := ["internal/bytealg.MaxLen"], apart := false }
def SnapSizesSaid : Prop := snapSizesRow.holds Try.pinned (OpenSpec.ofChange snapSizesSpec)

/-- ITS FALSE NEIGHBOUR: 'it returns false'. Refute it at one input. -/
def snapSizesWrong : ChangeSpec := { name := "snapSizes", fn := fun _ => fun
  | [d1, d2] => { results := [.lit (.bool false)], args := [d1, d2] }
  | _ => none }
def SnapSizesWrongFalsely : Prop := snapSizesRow.holds Try.pinned (OpenSpec.ofChange snapSizesWrong)

/-- 'waggonerlaw13.SpaceSnaps': WHATEVER THE INPUT: true; the input reads as it did. -/
def spaceSnapsSpec : ChangeSpec := { name := "spaceSnaps", fn := fun _ => fun
  | [d1, d2] => { results := [.lit (.bool true)], args := [d1, d2] }
  | _ => none }
def spaceSnapsRow : OpenClaim := { program := "ythjmodhemglgbaa", sum := "8f36666817a44776f18e9fb8554c468c1cf11b71a66c97bbaaec499f6458d120", func := "waggoner/waggonerlaw13.SpaceSnaps", spec := "spaceSnaps", inPlace := ["internal/bytealg.IndexByteString", "internal/bytealg.IndexString"], unfollowed := true, recurses := true, named := ["internal/bytealg.MaxLen"], apart := false }
def SpaceSnapsSaid : Prop := spaceSnapsRow.holds Try.pinned (OpenSpec.ofChange spaceSnapsSpec)

/-- ITS FALSE NEIGHBOUR: 'it returns false'. Refute it at one input. -/
def spaceSnapsWrong : ChangeSpec := { name := "spaceSnaps", fn := fun _ => fun
  | [d1, d2] => { results := [.lit (.bool false)], args := [d1, d2] }
  | _ => none }
def SpaceSnapsWrongFalsely : Prop := spaceSnapsRow.holds Try.pinned (OpenSpec.ofChange spaceSnapsWrong)

/-- 'waggonerlaw06.LogRuns': WHATEVER THE INPUT: true; the input reads as it did. -/
def logRunsSpec : ChangeSpec := { name := "logRuns", fn := fun _ => fun
  | [d1, d2] => { results := [.lit (.bool true)], args := [d1, d2] }
  | _ => none }
def logRunsRow : OpenClaim := { program := "ythjmodhemglgbaa", sum := "8f36666817a44776f18e9fb8554c468c1cf11b71a66c97bbaaec499f6458d120", func := "waggoner/waggonerlaw06.LogRuns", spec := "logRuns", inPlace := ["internal/bytealg.IndexByteString", "internal/bytealg.IndexString"], unfollowed := true, recurses := true, named := ["internal/bytealg.MaxLen"], apart := false }
def LogRunsSaid : Prop := logRunsRow.holds Try.pinned (OpenSpec.ofChange logRunsSpec)

/-- ITS FALSE NEIGHBOUR: 'it returns false'. Refute it at one input. -/
def logRunsWrong : ChangeSpec := { name := "logRuns", fn := fun _ => fun
  | [d1, d2] => { results := [.lit (.bool false)], args := [d1, d2] }
  | _ => none }
def LogRunsWrongFalsely : Prop := logRunsRow.holds Try.pinned (OpenSpec.ofChange logRunsWrong)

/-- 'waggonerlaw06.LogKeeps': WHATEVER THE INPUT: true; the input reads as it did. -/
def logKeepsSpec : ChangeSpec := { name := "logKeeps", fn := fun _ => fun
  | [d1, d2] => { results := [.lit (.bool true)], args := [d1, d2] }
  | _ => none }
def logKeepsRow : OpenClaim := { program := "ythjmodhemglgbaa", sum := "8f36666817a44776f18e9fb8554c468c1cf11b71a66c97bbaaec499f6458d120", func := "waggoner/waggonerlaw06.LogKeeps", spec := "logKeeps", inPlace := ["internal/bytealg.IndexByteString", "internal/bytealg.IndexString"], unfollowed := true, recurses := true, named := ["internal/bytealg.MaxLen"], apart := false }
def LogKeepsSaid : Prop := logKeepsRow.holds Try.pinned (OpenSpec.ofChange logKeepsSpec)

/-- ITS FALSE NEIGHBOUR: 'it returns false'. Refute it at one input. -/
def logKeepsWrong : ChangeSpec := { name := "logKeeps", fn := fun _ => fun
  | [d1, d2] => { results := [.lit (.bool false)], args := [d1, d2] }
  | _ => none }
def LogKeepsWrongFalsely : Prop := logKeepsRow.holds Try.pinned (OpenSpec.ofChange logKeepsWrong)

/-- 'waggonerlaw06.LogFull': WHATEVER THE INPUT: true; the input reads as it did. -/
def logFullSpec : ChangeSpec := { name := "logFull", fn := fun _ => fun
  | [d1, d2] => { results := [.lit (.bool true)], args := [d1, d2] }
  | _ => none }
def logFullRow : OpenClaim := { program := "ythjmodhemglgbaa", sum := "8f36666817a44776f18e9fb8554c468c1cf11b71a66c97bbaaec499f6458d120", func := "waggoner/waggonerlaw06.LogFull", spec := "logFull", inPlace := ["internal/bytealg.IndexByteString", "internal/bytealg.IndexString"], unfollowed := true, recurses := true, named := ["internal/bytealg.MaxLen"], apart := false }
def LogFullSaid : Prop := logFullRow.holds Try.pinned (OpenSpec.ofChange logFullSpec)

/-- ITS FALSE NEIGHBOUR: 'it returns false'. Refute it at one input. -/
def logFullWrong : ChangeSpec := { name := "logFull", fn := fun _ => fun
  | [d1, d2] => { results := [.lit (.bool false)], args := [d1, d2] }
  | _ => none }
def LogFullWrongFalsely : Prop := logFullRow.holds Try.pinned (OpenSpec.ofChange logFullWrong)

/-- 'waggonerlaw06.LogOrder': WHATEVER THE INPUT: true; the input reads as it did. -/
def logOrderSpec : ChangeSpec := { name := "logOrder", fn := fun _ => fun
  | [d1, d2, d3] => { results := [.lit (.bool true)], args := [d1, d2, d3] }
  | _ => none }
def logOrderRow : OpenClaim := { program := "ythjmodhemglgbaa", sum := "8f36666817a44776f18e9fb8554c468c1cf11b71a66c97bbaaec499f6458d120", func := "waggoner/waggonerlaw06.LogOrder", spec := "logOrder", inPlace := ["internal/bytealg.IndexByteString", "internal/bytealg.IndexString"], unfollowed := true, recurses := true, named := ["internal/bytealg.MaxLen"], apart := false }
def LogOrderSaid : Prop := logOrderRow.holds Try.pinned (OpenSpec.ofChange logOrderSpec)

/-- ITS FALSE NEIGHBOUR: 'it returns false'. Refute it at one input. -/
def logOrderWrong : ChangeSpec := { name := "logOrder", fn := fun _ => fun
  | [d1, d2, d3] => { results := [.lit (.bool false)], args := [d1, d2, d3] }
  | _ => none }
def LogOrderWrongFalsely : Prop := logOrderRow.holds Try.pinned (OpenSpec.ofChange logOrderWrong)

/-- 'waggonerlaw06.LogFinds': WHATEVER THE INPUT: true; the input reads as it did. -/
def logFindsSpec : ChangeSpec := { name := "logFinds", fn := fun _ => fun
  | [d] => { results := [.lit (.bool true)], args := [d] }
  | _ => none }
def logFindsRow : OpenClaim := { program := "ythjmodhemglgbaa", sum := "8f36666817a44776f18e9fb8554c468c1cf11b71a66c97bbaaec499f6458d120", func := "waggoner/waggonerlaw06.LogFinds", spec := "logFinds", inPlace := ["internal/bytealg.IndexByteString", "internal/bytealg.IndexString"], unfollowed := true, recurses := true, named := ["internal/bytealg.MaxLen"], apart := false }
def LogFindsSaid : Prop := logFindsRow.holds Try.pinned (OpenSpec.ofChange logFindsSpec)

/-- ITS FALSE NEIGHBOUR: 'it returns false'. Refute it at one input. -/
def logFindsWrong : ChangeSpec := { name := "logFinds", fn := fun _ => fun
  | [d] => { results := [.lit (.bool false)], args := [d] }
  | _ => none }
def LogFindsWrongFalsely : Prop := logFindsRow.holds Try.pinned (OpenSpec.ofChange logFindsWrong)

/-- 'waggonerlaw06.LogCrash': WHATEVER THE INPUT: true; the input reads as it did. -/
def logCrashSpec : ChangeSpec := { name := "logCrash", fn := fun _ => fun
  | [d1, d2, d3] => { results := [.lit (.bool true)], args := [d1, d2, d3] }
  | _ => none }
def logCrashRow : OpenClaim := { program := "ythjmodhemglgbaa", sum := "8f36666817a44776f18e9fb8554c468c1cf11b71a66c97bbaaec499f6458d120", func := "waggoner/waggonerlaw06.LogCrash", spec := "logCrash", inPlace := ["internal/bytealg.IndexByteString", "internal/bytealg.IndexString"], unfollowed := true, recurses := true, named := ["internal/bytealg.MaxLen"], apart := false }
def LogCrashSaid : Prop := logCrashRow.holds Try.pinned (OpenSpec.ofChange logCrashSpec)

/-- ITS FALSE NEIGHBOUR: 'it returns false'. Refute it at one input. -/
def logCrashWrong : ChangeSpec := { name := "logCrash", fn := fun _ => fun
  | [d1, d2, d3] => { results := [.lit (.bool false)], args := [d1, d2, d3] }
  | _ => none }
def LogCrashWrongFalsely : Prop := logCrashRow.holds Try.pinned (OpenSpec.ofChange logCrashWrong)

/- THE SECOND FORM. 'bulk': how many values and letters a reading holds, each counted each time it is reached (what is shared counts as often as it is met; a slice's spare places count too). A statement '..UptoSaid' is the law's where the arguments, and the package variables that the reading takes, are together of bulk at most 1048576: NARROWER than '..Said'. Prove '..Said' where nothing that the law and all that it calls make is longer than what came in: it says more and counts as full. Else prove '..UptoSaid'. A law counts once. -/
mutual
def uptoBulk {H : Type} : DataW H → Nat
  | .lit (.string bytes) => bytes.length + 1
  | .lit _ => 1
  | .nil => 1
  | .ptr d => uptoBulk d + 1
  | .slice elems spare => uptoBulkAll elems + uptoBulkAll spare + 1
  | .agg parts => uptoBulkAll parts + 1
  | .iface _ d => uptoBulk d + 1
  | .map entries => uptoBulkEntries entries + 1
  | .held _ => 1
def uptoBulkAll {H : Type} : List (DataW H) → Nat
  | [] => 0
  | d :: r => uptoBulk d + uptoBulkAll r
def uptoBulkEntries {H : Type} : List (Lit × DataW H) → Nat
  | [] => 0
  | x :: r => uptoBulkEntry x + uptoBulkEntries r
def uptoBulkEntry {H : Type} : Lit × DataW H → Nat
  | (.string bytes, d) => bytes.length + uptoBulk d + 1
  | (_, d) => uptoBulk d + 1
 end
def uptoSmall : (H : Type) → List (DataW H) → Bool := fun _ ds => decide (uptoBulkAll ds ≤ 1048576)
def OpenSpec.upto (s : _root_.Go.ChangeSpec) : _root_.Go.OpenSpec := { _root_.Go.OpenSpec.ofChange s with cond := some uptoSmall }

/-- 'waggonerlaw13.SpaceHolds', WHERE WHAT IT READS IS OF BULK AT MOST 1048576: true; the input reads as it did. -/
def spaceHoldsUptoRow : OpenClaim := { program := "ythjmodhemglgbaa", sum := "8f36666817a44776f18e9fb8554c468c1cf11b71a66c97bbaaec499f6458d120", func := "waggoner/waggonerlaw13.SpaceHolds", spec := "spaceHolds", inPlace := ["internal/bytealg.IndexByteString", "internal/bytealg.IndexString"], unfollowed := true, recurses := true, named := ["internal/bytealg.MaxLen"], apart := false, narrowed := true }
def SpaceHoldsUptoSaid : Prop := spaceHoldsUptoRow.holds Try.pinned (OpenSpec.upto spaceHoldsSpec)

/-- 'waggonerlaw12.SnapTells', WHERE WHAT IT READS IS OF BULK AT MOST 1048576: true; the input reads as it did. -/
def snapTellsUptoRow : OpenClaim := { program := "ythjmodhemglgbaa", sum := "8f36666817a44776f18e9fb8554c468c1cf11b71a66c97bbaaec499f6458d120", func := "waggoner/waggonerlaw12.SnapTells", spec := "snapTells", inPlace := ["internal/bytealg.IndexByteString", "internal/bytealg.IndexString"], unfollowed := true, recurses := true, named := ["internal/bytealg.MaxLen"], apart := false, narrowed := true }
def SnapTellsUptoSaid : Prop := snapTellsUptoRow.holds Try.pinned (OpenSpec.upto snapTellsSpec)

/-- 'waggonerlaw12.SnapFinds', WHERE WHAT IT READS IS OF BULK AT MOST 1048576: true; the input reads as it did. -/
def snapFindsUptoRow : OpenClaim := { program := "ythjmodhemglgbaa", sum := "8f36666817a44776f18e9fb8554c468c1cf11b71a66c97bbaaec499f6458d120", func := "waggoner/waggonerlaw12.SnapFinds", spec := "snapFinds", inPlace := ["internal/bytealg.IndexByteString", "internal/bytealg.IndexString"], unfollowed := true, recurses := true, named := ["internal/bytealg.MaxLen"], apart := false, narrowed := true }
def SnapFindsUptoSaid : Prop := snapFindsUptoRow.holds Try.pinned (OpenSpec.upto snapFindsSpec)

/-- 'waggonerlaw12.SnapBack', WHERE WHAT IT READS IS OF BULK AT MOST 1048576: true; the input reads as it did. -/
def snapBackUptoRow : OpenClaim := { program := "ythjmodhemglgbaa", sum := "8f36666817a44776f18e9fb8554c468c1cf11b71a66c97bbaaec499f6458d120", func := "waggoner/waggonerlaw12.SnapBack", spec := "snapBack", inPlace := ["internal/bytealg.IndexByteString", "internal/bytealg.IndexString"], unfollowed := true, recurses := true, named := ["internal/bytealg.MaxLen"], apart := false, narrowed := true }
def SnapBackUptoSaid : Prop := snapBackUptoRow.holds Try.pinned (OpenSpec.upto snapBackSpec)

/-- 'waggonerlaw12.SnapLast', WHERE WHAT IT READS IS OF BULK AT MOST 1048576: true; the input reads as it did. -/
def snapLastUptoRow : OpenClaim := { program := "ythjmodhemglgbaa", sum := "8f36666817a44776f18e9fb8554c468c1cf11b71a66c97bbaaec499f6458d120", func := "waggoner/waggonerlaw12.SnapLast", spec := "snapLast", inPlace := ["internal/bytealg.IndexByteString", "internal/bytealg.IndexString"], unfollowed := true, recurses := true, named := ["internal/bytealg.MaxLen"], apart := false, narrowed := true }
def SnapLastUptoSaid : Prop := snapLastUptoRow.holds Try.pinned (OpenSpec.upto snapLastSpec)

/-- 'waggonerlaw12.SnapTurns', WHERE WHAT IT READS IS OF BULK AT MOST 1048576: true; the input reads as it did. -/
def snapTurnsUptoRow : OpenClaim := { program := "ythjmodhemglgbaa", sum := "8f36666817a44776f18e9fb8554c468c1cf11b71a66c97bbaaec499f6458d120", func := "waggoner/waggonerlaw12.SnapTurns", spec := "snapTurns", inPlace := ["internal/bytealg.IndexByteString", "internal/bytealg.IndexString"], unfollowed := true, recurses := true, named := ["internal/bytealg.MaxLen"], apart := false, narrowed := true }
def SnapTurnsUptoSaid : Prop := snapTurnsUptoRow.holds Try.pinned (OpenSpec.upto snapTurnsSpec)

/-- 'waggonerlaw12.SnapSizes', WHERE WHAT IT READS IS OF BULK AT MOST 1048576: true; the input reads as it did. -/
def snapSizesUptoRow : OpenClaim := { program := "ythjmodhemglgbaa", sum := "8f36666817a44776f18e9fb8554c468c1cf11b71a66c97bbaaec499f6458d120", func := "waggoner/waggonerlaw12.SnapSizes", spec := "snapSizes", inPlace := ["internal/bytealg.IndexByteString", "internal/bytealg.IndexString"], unfollowed := true, recurses := true, named := ["internal/bytealg.MaxLen"], apart := false, narrowed := true }
def SnapSizesUptoSaid : Prop := snapSizesUptoRow.holds Try.pinned (OpenSpec.upto snapSizesSpec)

/-- 'waggonerlaw13.SpaceSnaps', WHERE WHAT IT READS IS OF BULK AT MOST 1048576: true; the input reads as it did. -/
def spaceSnapsUptoRow : OpenClaim := { program := "ythjmodhemglgbaa", sum := "8f36666817a44776f18e9fb8554c468c1cf11b71a66c97bbaaec499f6458d120", func := "waggoner/waggonerlaw13.SpaceSnaps", spec := "spaceSnaps", inPlace := ["internal/bytealg.IndexByteString", "internal/bytealg.IndexString"], unfollowed := true, recurses := true, named := ["internal/bytealg.MaxLen"], apart := false, narrowed := true }
def SpaceSnapsUptoSaid : Prop := spaceSnapsUptoRow.holds Try.pinned (OpenSpec.upto spaceSnapsSpec)

/-- 'waggonerlaw06.LogRuns', WHERE WHAT IT READS IS OF BULK AT MOST 1048576: true; the input reads as it did. -/
def logRunsUptoRow : OpenClaim := { program := "ythjmodhemglgbaa", sum := "8f36666817a44776f18e9fb8554c468c1cf11b71a66c97bbaaec499f6458d120", func := "waggoner/waggonerlaw06.LogRuns", spec := "logRuns", inPlace := ["internal/bytealg.IndexByteString", "internal/bytealg.IndexString"], unfollowed := true, recurses := true, named := ["internal/bytealg.MaxLen"], apart := false, narrowed := true }
def LogRunsUptoSaid : Prop := logRunsUptoRow.holds Try.pinned (OpenSpec.upto logRunsSpec)

/-- 'waggonerlaw06.LogKeeps', WHERE WHAT IT READS IS OF BULK AT MOST 1048576: true; the input reads as it did. -/
def logKeepsUptoRow : OpenClaim := { program := "ythjmodhemglgbaa", sum := "8f36666817a44776f18e9fb8554c468c1cf11b71a66c97bbaaec499f6458d120", func := "waggoner/waggonerlaw06.LogKeeps", spec := "logKeeps", inPlace := ["internal/bytealg.IndexByteString", "internal/bytealg.IndexString"], unfollowed := true, recurses := true, named := ["internal/bytealg.MaxLen"], apart := false, narrowed := true }
def LogKeepsUptoSaid : Prop := logKeepsUptoRow.holds Try.pinned (OpenSpec.upto logKeepsSpec)

/-- 'waggonerlaw06.LogFull', WHERE WHAT IT READS IS OF BULK AT MOST 1048576: true; the input reads as it did. -/
def logFullUptoRow : OpenClaim := { program := "ythjmodhemglgbaa", sum := "8f36666817a44776f18e9fb8554c468c1cf11b71a66c97bbaaec499f6458d120", func := "waggoner/waggonerlaw06.LogFull", spec := "logFull", inPlace := ["internal/bytealg.IndexByteString", "internal/bytealg.IndexString"], unfollowed := true, recurses := true, named := ["internal/bytealg.MaxLen"], apart := false, narrowed := true }
def LogFullUptoSaid : Prop := logFullUptoRow.holds Try.pinned (OpenSpec.upto logFullSpec)

/-- 'waggonerlaw06.LogOrder', WHERE WHAT IT READS IS OF BULK AT MOST 1048576: true; the input reads as it did. -/
def logOrderUptoRow : OpenClaim := { program := "ythjmodhemglgbaa", sum := "8f36666817a44776f18e9fb8554c468c1cf11b71a66c97bbaaec499f6458d120", func := "waggoner/waggonerlaw06.LogOrder", spec := "logOrder", inPlace := ["internal/bytealg.IndexByteString", "internal/bytealg.IndexString"], unfollowed := true, recurses := true, named := ["internal/bytealg.MaxLen"], apart := false, narrowed := true }
def LogOrderUptoSaid : Prop := logOrderUptoRow.holds Try.pinned (OpenSpec.upto logOrderSpec)

/-- 'waggonerlaw06.LogFinds', WHERE WHAT IT READS IS OF BULK AT MOST 1048576: true; the input reads as it did. -/
def logFindsUptoRow : OpenClaim := { program := "ythjmodhemglgbaa", sum := "8f36666817a44776f18e9fb8554c468c1cf11b71a66c97bbaaec499f6458d120", func := "waggoner/waggonerlaw06.LogFinds", spec := "logFinds", inPlace := ["internal/bytealg.IndexByteString", "internal/bytealg.IndexString"], unfollowed := true, recurses := true, named := ["internal/bytealg.MaxLen"], apart := false, narrowed := true }
def LogFindsUptoSaid : Prop := logFindsUptoRow.holds Try.pinned (OpenSpec.upto logFindsSpec)

/-- 'waggonerlaw06.LogCrash', WHERE WHAT IT READS IS OF BULK AT MOST 1048576: true; the input reads as it did. -/
def logCrashUptoRow : OpenClaim := { program := "ythjmodhemglgbaa", sum := "8f36666817a44776f18e9fb8554c468c1cf11b71a66c97bbaaec499f6458d120", func := "waggoner/waggonerlaw06.LogCrash", spec := "logCrash", inPlace := ["internal/bytealg.IndexByteString", "internal/bytealg.IndexString"], unfollowed := true, recurses := true, named := ["internal/bytealg.MaxLen"], apart := false, narrowed := true }
def LogCrashUptoSaid : Prop := logCrashUptoRow.holds Try.pinned (OpenSpec.upto logCrashSpec)

end Rows
end Go.Proofs.Ythjmodhemglgbaa
