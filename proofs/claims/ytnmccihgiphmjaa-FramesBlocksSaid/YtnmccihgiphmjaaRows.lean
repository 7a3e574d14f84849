/-
  No cell of these rows narrows 'for every input' (looked for: loops, veiled, ifaces, maps, wideKeys, modest, calm, conditions, laid).
  DERIVED. THE GIVEN ROWS OF THIS SEAT. 4 by the template 'for every input the law returns true; each argument reads behind the call as it read before'; 0 by the template 'total and deterministic' (their statements: YtnmccihgiphmjaaTotals.lean).
  GIVEN WITH THE SEED: the statements are not yours to turn. If you find one false, say at which input.
  Laid BY PROGRAM, IN A SANDBOX (cutbox-rows.mjs): the forced cells as the released guide's own fill.sh prints them over the translation d7fb2e69968f0af7… (all of the seat's roots in one cut). By AI agents, Wed Nov 11 2026. No macro, syntax, notation, axiom, sorry.
-/
import Derived.Test.YtnmccihgiphmjaaChecked
import GoSem.Claim
import GoSem.ClaimJoined
import GoSem.ClaimMapViews
import Derived.JoinedTies
import Derived.KernelRfl
namespace Go.Proofs.Ytnmccihgiphmjaa
/- THE CELL 'sum', in the pinned program and in every row, IS THE sha256 OF THE DUMP (.gsa) THAT YtnmccihgiphmjaaProg.lean LOADS. Nothing in Lean hashes anything: it is a label: what it is worth is what the hold of that sum in a sandbox is worth. -/
noncomputable def Try.pinned : Pinned := { name := "ytnmccihgiphmjaa", sum := "d7fb2e69968f0af748acbf5873276003deb08e50611893e1182533623c27577c", checked := Try.checked }
namespace Rows
def none {H : Type} : Left H := { results := [], args := [] }

/-- 'demesnelaw8.FramesKinds': WHATEVER THE INPUT: true; the input reads as it did. -/
def framesKindsSpec : ChangeSpec := { name := "framesKinds", fn := fun _ => fun
  | [d1, d2, d3] => { results := [.lit (.bool true)], args := [d1, d2, d3] }
  | _ => none }
def framesKindsRow : OpenClaim := { program := "ytnmccihgiphmjaa", sum := "d7fb2e69968f0af748acbf5873276003deb08e50611893e1182533623c27577c", func := "demesne/demesnelaw8.FramesKinds", spec := "framesKinds", inPlace := ["slices.overlaps[int]"], apart := false }
def FramesKindsSaid : Prop := framesKindsRow.holds Try.pinned (OpenSpec.ofChange framesKindsSpec)

/-- ITS FALSE NEIGHBOUR: 'it returns false'. Refute it at one input. -/
def framesKindsWrong : ChangeSpec := { name := "framesKinds", fn := fun _ => fun
  | [d1, d2, d3] => { results := [.lit (.bool false)], args := [d1, d2, d3] }
  | _ => none }
def FramesKindsWrongFalsely : Prop := framesKindsRow.holds Try.pinned (OpenSpec.ofChange framesKindsWrong)

/-- 'demesnelaw8.FramesBlocks': WHATEVER THE INPUT: true; the input reads as it did. -/
def framesBlocksSpec : ChangeSpec := { name := "framesBlocks", fn := fun _ => fun
  | [d1, d2, d3, d4] => { results := [.lit (.bool true)], args := [d1, d2, d3, d4] }
  | _ => none }
def framesBlocksRow : OpenClaim := { program := "ytnmccihgiphmjaa", sum := "d7fb2e69968f0af748acbf5873276003deb08e50611893e1182533623c27577c", func := "demesne/demesnelaw8.FramesBlocks", spec := "framesBlocks", inPlace := ["slices.overlaps[int]"], apart := false }
def FramesBlocksSaid : Prop := framesBlocksRow.holds Try.pinned (OpenSpec.ofChange framesBlocksSpec)

/-- ITS FALSE NEIGHBOUR: 'it returns false'. Refute it at one input. -/
def framesBlocksWrong : ChangeSpec := { name := "framesBlocks", fn := fun _ => fun
  | [d1, d2, d3, d4] => { results := [.lit (.bool false)], args := [d1, d2, d3, d4] }
  | _ => none }
def FramesBlocksWrongFalsely : Prop := framesBlocksRow.holds Try.pinned (OpenSpec.ofChange framesBlocksWrong)

/-- 'demesnelaw8.FramesPlays': WHATEVER THE INPUT: true; the input reads as it did. -/
def framesPlaysSpec : ChangeSpec := { name := "framesPlays", fn := fun _ => fun
  | [d1, d2, d3] => { results := [.lit (.bool true)], args := [d1, d2, d3] }
  | _ => none }
def framesPlaysRow : OpenClaim := { program := "ytnmccihgiphmjaa", sum := "d7fb2e69968f0af748acbf5873276003deb08e50611893e1182533623c27577c", func := "demesne/demesnelaw8.FramesPlays", spec := "framesPlays", inPlace := ["slices.overlaps[int]"], apart := false }
def FramesPlaysSaid : Prop := framesPlaysRow.holds Try.pinned (OpenSpec.ofChange framesPlaysSpec)

/-- ITS FALSE NEIGHBOUR: 'it returns false'. Refute it at one input. -/
def framesPlaysWrong : ChangeSpec := { name := "framesPlays", fn := fun _ => fun
  | [d1, d2, d3] => { results := [.lit (.bool false)], args := [d1, d2, d3] }
  | _ => none }
def FramesPlaysWrongFalsely : Prop := framesPlaysRow.holds Try.pinned (OpenSpec.ofChange framesPlaysWrong)

/-- 'demesnelaw8.FramesClean': WHATEVER THE INPUT: true; the input reads as it did. -/
def framesCleanSpec : ChangeSpec := { name := "framesClean", fn := fun _ => fun
  | [d1, d2] => { results := [.lit (.bool true)], args := [d1, d2] }
  | _ => none }
def framesCleanRow : OpenClaim := { program := "ytnmccihgiphmjaa", sum := "d7fb2e69968f0af748acbf5873276003deb08e50611893e1182533623c27577c", func := "demesne/demesnelaw8.FramesClean", spec := "framesClean", inPlace := ["slices.overlaps[int]"], apart := false }
def FramesCleanSaid : Prop := framesCleanRow.holds Try.pinned (OpenSpec.ofChange framesCleanSpec)

/-- ITS FALSE NEIGHBOUR: 'it returns false'. Refute it at one input. -/
def framesCleanWrong : ChangeSpec := { name := "framesClean", fn := fun _ => fun
  | [d1, d2] => { results := [.lit (.bool false)], args := [d1, d2] }
  | _ => none }
def FramesCleanWrongFalsely : Prop := framesCleanRow.holds Try.pinned (OpenSpec.ofChange framesCleanWrong)

/- THE SECOND FORM. 'bulk': how many values and letters a reading holds, each counted each time it is reached (what is shared counts as often as it is met; a slice's spare places count too). A statement '..UptoSaid' is the law's where the arguments, and the package variables that the reading takes, are together of bulk at most 1048576: NARROWER than '..Said'. Prove '..Said' where nothing that the law and all that it calls make is longer than what came in: it says more and counts as full. Else prove '..UptoSaid'. A law counts once. -/
mutual
def uptoBulk {H : Type} : DataW H → Nat
  | .lit (.string bytes) => bytes.length + 1
  | .lit _ => 1
  | .nil => 1
  | .ptr d => uptoBulk d + 1
  | .slice elems spare => uptoBulkAll elems + uptoBulkAll spare + 1
  | .agg parts => uptoBulkAll parts + 1
  | .iface _ d => uptoBulk d + 1
  | .map entries => uptoBulkEntries entries + 1
  | .held _ => 1
def uptoBulkAll {H : Type} : List (DataW H) → Nat
  | [] => 0
  | d :: r => uptoBulk d + uptoBulkAll r
def uptoBulkEntries {H : Type} : List (Lit × DataW H) → Nat
  | [] => 0
  | x :: r => uptoBulkEntry x + uptoBulkEntries r
def uptoBulkEntry {H : Type} : Lit × DataW H → Nat
  | (.string bytes, d) => bytes.length + uptoBulk d + 1
  | (_, d) => uptoBulk d + 1
 end
def uptoSmall : (H : Type) → List (DataW H) → Bool := fun _ ds => decide (uptoBulkAll ds ≤ 1048576)
def OpenSpec.upto (s : _root_.Go.ChangeSpec) : _root_.Go.OpenSpec := { _root_.Go.OpenSpec.ofChange s with cond := some uptoSmall }

/-- 'demesnelaw8.FramesKinds', WHERE WHAT IT READS IS OF BULK AT MOST 1048576: true; the input reads as it did. -/
def framesKindsUptoRow : OpenClaim := { program := "ytnmccihgiphmjaa", sum := "d7fb2e69968f0af748acbf5873276003deb08e50611893e1182533623c27577c", func := "demesne/demesnelaw8.FramesKinds", spec := "framesKinds", inPlace := ["slices.overlaps[int]"], apart := false, narrowed := true }
def FramesKindsUptoSaid : Prop := framesKindsUptoRow.holds Try.pinned (OpenSpec.upto framesKindsSpec)

/-- 'demesnelaw8.FramesBlocks', WHERE WHAT IT READS IS OF BULK AT MOST 1048576: true; the input reads as it did. -/
def framesBlocksUptoRow : OpenClaim := { program := "ytnmccihgiphmjaa", sum := "d7fb2e69968f0af748acbf5873276003deb08e50611893e1182533623c27577c", func := "demesne/demesnelaw8.FramesBlocks", spec := "framesBlocks", inPlace := ["slices.overlaps[int]"], apart := false, narrowed := true }
def FramesBlocksUptoSaid : Prop := framesBlocksUptoRow.holds Try.pinned (OpenSpec.upto framesBlocksSpec)

/-- 'demesnelaw8.FramesPlays', WHERE WHAT IT READS IS OF BULK AT MOST 1048576: true; the input reads as it did. -/
def framesPlaysUptoRow : OpenClaim := { program := "ytnmccihgiphmjaa", sum := "d7fb2e69968f0af748acbf5873276003deb08e50611893e1182533623c27577c", func := "demesne/demesnelaw8.FramesPlays", spec := "framesPlays", inPlace := ["slices.overlaps[int]"], apart := false, narrowed := true }
def FramesPlaysUptoSaid : Prop := framesPlaysUptoRow.holds Try.pinned (OpenSpec.upto framesPlaysSpec)

/-- 'demesnelaw8.FramesClean', WHERE WHAT IT READS IS OF BULK AT MOST 1048576: true; the input reads as it did. -/
def framesCleanUptoRow : OpenClaim := { program := "ytnmccihgiphmjaa", sum := "d7fb2e69968f0af748acbf5873276003deb08e50611893e1182533623c27577c", func := "demesne/demesnelaw8.FramesClean", spec := "framesClean", inPlace := ["slices.overlaps[int]"], apart := false, narrowed := true }
def FramesCleanUptoSaid : Prop := framesCleanUptoRow.holds Try.pinned (OpenSpec.upto framesCleanSpec)

end Rows
end Go.Proofs.Ytnmccihgiphmjaa
