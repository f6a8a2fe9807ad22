/-
  No cell of these rows narrows 'for every input' (looked for: loops, veiled, ifaces, maps, wideKeys, modest, calm, conditions, laid).
  DERIVED. THE GIVEN ROWS OF THIS SEAT. 4 by the template 'for every input the law returns true; each argument reads behind the call as it read before'; 0 by the template 'total and deterministic' (their statements: YtobmcjhifpnaiaaTotals.lean).
  GIVEN WITH THE SEED: the statements are not yours to turn. If you find one false, say at which input.
  Laid BY PROGRAM, IN A SANDBOX (cutbox-rows.mjs): the forced cells as the released guide's own fill.sh prints them over the translation 11361bffa04481af… (all of the seat's roots in one cut). By AI agents, Wed Nov 11 2026. No macro, syntax, notation, axiom, sorry.
-/
import Derived.Test.YtobmcjhifpnaiaaChecked
import GoSem.Claim
import GoSem.ClaimJoined
import GoSem.ClaimMapViews
import Derived.JoinedTies
import Derived.KernelRfl
namespace Go.Proofs.Ytobmcjhifpnaiaa
/- THE CELL 'sum', in the pinned program and in every row, IS THE sha256 OF THE DUMP (.gsa) THAT YtobmcjhifpnaiaaProg.lean LOADS. Nothing in Lean hashes anything: it is a label: what it is worth is what the hold of that sum in a sandbox is worth. -/
noncomputable def Try.pinned : Pinned := { name := "ytobmcjhifpnaiaa", sum := "11361bffa04481af5b5cfd05aaa389b6a0a4c7d51f7c610d22e168d3c59b3849", checked := Try.checked }
namespace Rows
def none {H : Type} : Left H := { results := [], args := [] }

/-- 'waggonerlaw13.SpaceTells': WHATEVER THE INPUT: true; the input reads as it did. -/
def spaceTellsSpec : ChangeSpec := { name := "spaceTells", fn := fun _ => fun
  | [d1, d2, d3, d4] => { results := [.lit (.bool true)], args := [d1, d2, d3, d4] }
  | _ => none }
def spaceTellsRow : OpenClaim := { program := "ytobmcjhifpnaiaa", sum := "11361bffa04481af5b5cfd05aaa389b6a0a4c7d51f7c610d22e168d3c59b3849", func := "waggoner/waggonerlaw13.SpaceTells", spec := "spaceTells", unfollowed := true, recurses := true, apart := false }
def SpaceTellsSaid : Prop := spaceTellsRow.holds Try.pinned (OpenSpec.ofChange spaceTellsSpec)

/-- ITS FALSE NEIGHBOUR: 'it returns false'. Refute it at one input. -/
def spaceTellsWrong : ChangeSpec := { name := "spaceTells", fn := fun _ => fun
  | [d1, d2, d3, d4] => { results := [.lit (.bool false)], args := [d1, d2, d3, d4] }
  | _ => none }
def SpaceTellsWrongFalsely : Prop := spaceTellsRow.holds Try.pinned (OpenSpec.ofChange spaceTellsWrong)

/-- 'waggonerlaw13.SpaceGrows': WHATEVER THE INPUT: true; the input reads as it did. -/
def spaceGrowsSpec : ChangeSpec := { name := "spaceGrows", fn := fun _ => fun
  | [d1, d2, d3, d4, d5] => { results := [.lit (.bool true)], args := [d1, d2, d3, d4, d5] }
  | _ => none }
def spaceGrowsRow : OpenClaim := { program := "ytobmcjhifpnaiaa", sum := "11361bffa04481af5b5cfd05aaa389b6a0a4c7d51f7c610d22e168d3c59b3849", func := "waggoner/waggonerlaw13.SpaceGrows", spec := "spaceGrows", unfollowed := true, recurses := true, apart := false }
def SpaceGrowsSaid : Prop := spaceGrowsRow.holds Try.pinned (OpenSpec.ofChange spaceGrowsSpec)

/-- ITS FALSE NEIGHBOUR: 'it returns false'. Refute it at one input. -/
def spaceGrowsWrong : ChangeSpec := { name := "spaceGrows", fn := fun _ => fun
  | [d1, d2, d3, d4, d5] => { results := [.lit (.bool false)], args := [d1, d2, d3, d4, d5] }
  | _ => none }
def SpaceGrowsWrongFalsely : Prop := spaceGrowsRow.holds Try.pinned (OpenSpec.ofChange spaceGrowsWrong)

/-- 'waggonerlaw13.SpaceSums': WHATEVER THE INPUT: true; the input reads as it did. -/
def spaceSumsSpec : ChangeSpec := { name := "spaceSums", fn := fun _ => fun
  | [d1, d2, d3] => { results := [.lit (.bool true)], args := [d1, d2, d3] }
  | _ => none }
def spaceSumsRow : OpenClaim := { program := "ytobmcjhifpnaiaa", sum := "11361bffa04481af5b5cfd05aaa389b6a0a4c7d51f7c610d22e168d3c59b3849", func := "waggoner/waggonerlaw13.SpaceSums", spec := "spaceSums", unfollowed := true, recurses := true, apart := false }
def SpaceSumsSaid : Prop := spaceSumsRow.holds Try.pinned (OpenSpec.ofChange spaceSumsSpec)

/-- ITS FALSE NEIGHBOUR: 'it returns false'. Refute it at one input. -/
def spaceSumsWrong : ChangeSpec := { name := "spaceSums", fn := fun _ => fun
  | [d1, d2, d3] => { results := [.lit (.bool false)], args := [d1, d2, d3] }
  | _ => none }
def SpaceSumsWrongFalsely : Prop := spaceSumsRow.holds Try.pinned (OpenSpec.ofChange spaceSumsWrong)

/-- 'waggonerlaw13.SpaceRoom': WHATEVER THE INPUT: true; the input reads as it did. -/
def spaceRoomSpec : ChangeSpec := { name := "spaceRoom", fn := fun _ => fun
  | [d1, d2] => { results := [.lit (.bool true)], args := [d1, d2] }
  | _ => none }
def spaceRoomRow : OpenClaim := { program := "ytobmcjhifpnaiaa", sum := "11361bffa04481af5b5cfd05aaa389b6a0a4c7d51f7c610d22e168d3c59b3849", func := "waggoner/waggonerlaw13.SpaceRoom", spec := "spaceRoom", unfollowed := true, recurses := true, apart := false }
def SpaceRoomSaid : Prop := spaceRoomRow.holds Try.pinned (OpenSpec.ofChange spaceRoomSpec)

/-- ITS FALSE NEIGHBOUR: 'it returns false'. Refute it at one input. -/
def spaceRoomWrong : ChangeSpec := { name := "spaceRoom", fn := fun _ => fun
  | [d1, d2] => { results := [.lit (.bool false)], args := [d1, d2] }
  | _ => none }
def SpaceRoomWrongFalsely : Prop := spaceRoomRow.holds Try.pinned (OpenSpec.ofChange spaceRoomWrong)

/- THE SECOND FORM. 'bulk': how many values and letters a reading holds, each counted each time it is reached (what is shared counts as often as it is met; a slice's spare places count too). A statement '..UptoSaid' is the law's where the arguments, and the package variables that the reading takes, are together of bulk at most 1048576: NARROWER than '..Said'. Prove '..Said' where nothing that the law and all that it calls make is longer than what came in: it says more and counts as full. Else prove '..UptoSaid'. A law counts once. -/
mutual
def uptoBulk {H : Type} : DataW H → Nat
  | .lit (.string bytes) => bytes.length + 1
  | .lit _ => 1
  | .nil => 1
  | .ptr d => uptoBulk d + 1
  | .slice elems spare => uptoBulkAll elems + uptoBulkAll spare + 1
  | .agg parts => uptoBulkAll parts + 1
  | .iface _ d => uptoBulk d + 1
  | .map entries => uptoBulkEntries entries + 1
  | .held _ => 1
def uptoBulkAll {H : Type} : List (DataW H) → Nat
  | [] => 0
  | d :: r => uptoBulk d + uptoBulkAll r
def uptoBulkEntries {H : Type} : List (Lit × DataW H) → Nat
  | [] => 0
  | x :: r => uptoBulkEntry x + uptoBulkEntries r
def uptoBulkEntry {H : Type} : Lit × DataW H → Nat
  | (.string bytes, d) => bytes.length + uptoBulk d + 1
  | (_, d) => uptoBulk d + 1
 end
def uptoSmall : (H : Type) → List (DataW H) → Bool := fun _ ds => decide (uptoBulkAll ds ≤ 1048576)
def OpenSpec.upto (s : _root_.Go.ChangeSpec) : _root_.Go.OpenSpec := { _root_.Go.OpenSpec.ofChange s with cond := some uptoSmall }

/-- 'waggonerlaw13.SpaceTells', WHERE WHAT IT READS IS OF BULK AT MOST 1048576: true; the input reads as it did. -/
def spaceTellsUptoRow : OpenClaim := { program := "ytobmcjhifpnaiaa", sum := "11361bffa04481af5b5cfd05aaa389b6a0a4c7d51f7c610d22e168d3c59b3849", func := "waggoner/waggonerlaw13.SpaceTells", spec := "spaceTells", unfollowed := true, recurses := true, apart := false, narrowed := true }
def SpaceTellsUptoSaid : Prop := spaceTellsUptoRow.holds Try.pinned (OpenSpec.upto spaceTellsSpec)

/-- 'waggonerlaw13.SpaceGrows', WHERE WHAT IT READS IS OF BULK AT MOST 1048576: true; the input reads as it did. -/
def spaceGrowsUptoRow : OpenClaim := { program := "ytobmcjhifpnaiaa", sum := "11361bffa04481af5b5cfd05aaa389b6a0a4c7d51f7c610d22e168d3c59b3849", func := "waggoner/waggonerlaw13.SpaceGrows", spec := "spaceGrows", unfollowed := true, recurses := true, apart := false, narrowed := true }
def SpaceGrowsUptoSaid : Prop := spaceGrowsUptoRow.holds Try.pinned (OpenSpec.upto spaceGrowsSpec)

/-- 'waggonerlaw13.SpaceSums', WHERE WHAT IT READS IS OF BULK AT MOST 1048576: true; the input reads as it did. -/
def spaceSumsUptoRow : OpenClaim := { program := "ytobmcjhifpnaiaa", sum := "11361bffa04481af5b5cfd05aaa389b6a0a4c7d51f7c610d22e168d3c59b3849", func := "waggoner/waggonerlaw13.SpaceSums", spec := "spaceSums", unfollowed := true, recurses := true, apart := false, narrowed := true }
def SpaceSumsUptoSaid : Prop := spaceSumsUptoRow.holds Try.pinned (OpenSpec.upto spaceSumsSpec)

/-- 'waggonerlaw13.SpaceRoom', WHERE WHAT IT READS IS OF BULK AT MOST 1048576: true; the input reads as it did. -/
def spaceRoomUptoRow : OpenClaim := { program := "ytobmcjhifpnaiaa", sum := "11361bffa04481af5b5cfd05aaa389b6a0a4c7d51f7c610d22e168d3c59b3849", func := "waggoner/waggonerlaw13.SpaceRoom", spec := "spaceRoom", unfollowed := true, recurses := true, apart := false, narrowed := true }
def SpaceRoomUptoSaid : Prop := spaceRoomUptoRow.holds Try.pinned (OpenSpec.upto spaceRoomSpec)

end Rows
end Go.Proofs.Ytobmcjhifpnaiaa
