/-
  No cell of these rows narrows 'for every input' (looked for: loops, veiled, ifaces, maps, wideKeys, modest, calm, conditions, laid).
  DERIVED. THE GIVEN ROWS OF THIS SEAT. 11 by the template 'for every input the law returns true; each argument reads behind the call as it read before'; 0 by the template 'total and deterministic' (their statements: YtlbehhbicmmdoaaTotals.lean).
  GIVEN WITH THE SEED: the statements are not yours to turn. If you find one false, say at which input.
  Laid BY PROGRAM, IN A SANDBOX (cutbox-rows.mjs): the forced cells as the released guide's own fill.sh prints them over the translation 23bcb98d775611c7… (all of the seat's roots in one cut). By AI agents, Wed Nov 11 2026. No macro, syntax, notation, axiom, sorry.
-/
import Derived.Test.YtlbehhbicmmdoaaChecked
import GoSem.Claim
import GoSem.ClaimJoined
import GoSem.ClaimMapViews
import Derived.JoinedTies
import Derived.KernelRfl
namespace Go.Proofs.Ytlbehhbicmmdoaa
/- THE CELL 'sum', in the pinned program and in every row, IS THE sha256 OF THE DUMP (.gsa) THAT YtlbehhbicmmdoaaProg.lean LOADS. Nothing in Lean hashes anything: it is a label: what it is worth is what the hold of that sum in a sandbox is worth. -/
noncomputable def Try.pinned : Pinned := { name := "ytlbehhbicmmdoaa", sum := "23bcb98d775611c7d541ad6c61940cf1a5d59e6eb1a8a46a8e7daaefc9bfbed7", checked := Try.checked }
namespace Rows
def none {H : Type} : Left H := { results := [], args := [] }

/-- 'demesnelaw12.WalkGoes': WHATEVER THE INPUT: true; the input reads as it did. -/
def walkGoesSpec : ChangeSpec := { name := "walkGoes", fn := fun _ => fun
  | [d1, d2, d3, d4, d5, d6, d7] => { results := [.lit (.bool true)], args := [d1, d2, d3, d4, d5, d6, d7] }
  | _ => none }
def walkGoesRow : OpenClaim := { program := "ytlbehhbicmmdoaa", sum := "23bcb98d775611c7d541ad6c61940cf1a5d59e6eb1a8a46a8e7daaefc9bfbed7", func := "demesne/demesnelaw12.WalkGoes", spec := "walkGoes", unfollowed := true, recurses := true, apart := false }
def WalkGoesSaid : Prop := walkGoesRow.holds Try.pinned (OpenSpec.ofChange walkGoesSpec)

/-- ITS FALSE NEIGHBOUR: 'it returns false'. Refute it at one input. -/
def walkGoesWrong : ChangeSpec := { name := "walkGoes", fn := fun _ => fun
  | [d1, d2, d3, d4, d5, d6, d7] => { results := [.lit (.bool false)], args := [d1, d2, d3, d4, d5, d6, d7] }
  | _ => none }
def WalkGoesWrongFalsely : Prop := walkGoesRow.holds Try.pinned (OpenSpec.ofChange walkGoesWrong)

/-- 'demesnelaw12.WalkOuts': WHATEVER THE INPUT: true; the input reads as it did. -/
def walkOutsSpec : ChangeSpec := { name := "walkOuts", fn := fun _ => fun
  | [d1, d2, d3] => { results := [.lit (.bool true)], args := [d1, d2, d3] }
  | _ => none }
def walkOutsRow : OpenClaim := { program := "ytlbehhbicmmdoaa", sum := "23bcb98d775611c7d541ad6c61940cf1a5d59e6eb1a8a46a8e7daaefc9bfbed7", func := "demesne/demesnelaw12.WalkOuts", spec := "walkOuts", unfollowed := true, recurses := true, apart := false }
def WalkOutsSaid : Prop := walkOutsRow.holds Try.pinned (OpenSpec.ofChange walkOutsSpec)

/-- ITS FALSE NEIGHBOUR: 'it returns false'. Refute it at one input. -/
def walkOutsWrong : ChangeSpec := { name := "walkOuts", fn := fun _ => fun
  | [d1, d2, d3] => { results := [.lit (.bool false)], args := [d1, d2, d3] }
  | _ => none }
def WalkOutsWrongFalsely : Prop := walkOutsRow.holds Try.pinned (OpenSpec.ofChange walkOutsWrong)

/-- 'demesnelaw12.WalkEnds': WHATEVER THE INPUT: true; the input reads as it did. -/
def walkEndsSpec : ChangeSpec := { name := "walkEnds", fn := fun _ => fun
  | [d1, d2, d3, d4, d5] => { results := [.lit (.bool true)], args := [d1, d2, d3, d4, d5] }
  | _ => none }
def walkEndsRow : OpenClaim := { program := "ytlbehhbicmmdoaa", sum := "23bcb98d775611c7d541ad6c61940cf1a5d59e6eb1a8a46a8e7daaefc9bfbed7", func := "demesne/demesnelaw12.WalkEnds", spec := "walkEnds", unfollowed := true, recurses := true, apart := false }
def WalkEndsSaid : Prop := walkEndsRow.holds Try.pinned (OpenSpec.ofChange walkEndsSpec)

/-- ITS FALSE NEIGHBOUR: 'it returns false'. Refute it at one input. -/
def walkEndsWrong : ChangeSpec := { name := "walkEnds", fn := fun _ => fun
  | [d1, d2, d3, d4, d5] => { results := [.lit (.bool false)], args := [d1, d2, d3, d4, d5] }
  | _ => none }
def WalkEndsWrongFalsely : Prop := walkEndsRow.holds Try.pinned (OpenSpec.ofChange walkEndsWrong)

/-- 'demesnelaw12.WalkLoops': WHATEVER THE INPUT: true; the input reads as it did. -/
def walkLoopsSpec : ChangeSpec := { name := "walkLoops", fn := fun _ => fun
  | [d1, d2, d3] => { results := [.lit (.bool true)], args := [d1, d2, d3] }
  | _ => none }
def walkLoopsRow : OpenClaim := { program := "ytlbehhbicmmdoaa", sum := "23bcb98d775611c7d541ad6c61940cf1a5d59e6eb1a8a46a8e7daaefc9bfbed7", func := "demesne/demesnelaw12.WalkLoops", spec := "walkLoops", unfollowed := true, recurses := true, apart := false }
def WalkLoopsSaid : Prop := walkLoopsRow.holds Try.pinned (OpenSpec.ofChange walkLoopsSpec)

/-- ITS FALSE NEIGHBOUR: 'it returns false'. Refute it at one input. -/
def walkLoopsWrong : ChangeSpec := { name := "walkLoops", fn := fun _ => fun
  | [d1, d2, d3] => { results := [.lit (.bool false)], args := [d1, d2, d3] }
  | _ => none }
def WalkLoopsWrongFalsely : Prop := walkLoopsRow.holds Try.pinned (OpenSpec.ofChange walkLoopsWrong)

/-- 'demesnelaw12.WalkNear': WHATEVER THE INPUT: true; the input reads as it did. -/
def walkNearSpec : ChangeSpec := { name := "walkNear", fn := fun _ => fun
  | [d1, d2, d3, d4, d5, d6] => { results := [.lit (.bool true)], args := [d1, d2, d3, d4, d5, d6] }
  | _ => none }
def walkNearRow : OpenClaim := { program := "ytlbehhbicmmdoaa", sum := "23bcb98d775611c7d541ad6c61940cf1a5d59e6eb1a8a46a8e7daaefc9bfbed7", func := "demesne/demesnelaw12.WalkNear", spec := "walkNear", unfollowed := true, recurses := true, apart := false }
def WalkNearSaid : Prop := walkNearRow.holds Try.pinned (OpenSpec.ofChange walkNearSpec)

/-- ITS FALSE NEIGHBOUR: 'it returns false'. Refute it at one input. -/
def walkNearWrong : ChangeSpec := { name := "walkNear", fn := fun _ => fun
  | [d1, d2, d3, d4, d5, d6] => { results := [.lit (.bool false)], args := [d1, d2, d3, d4, d5, d6] }
  | _ => none }
def WalkNearWrongFalsely : Prop := walkNearRow.holds Try.pinned (OpenSpec.ofChange walkNearWrong)

/-- 'demesnelaw14.NestedBounds': WHATEVER THE INPUT: true; the input reads as it did. -/
def nestedBoundsSpec : ChangeSpec := { name := "nestedBounds", fn := fun _ => fun
  | [d1, d2, d3, d4] => { results := [.lit (.bool true)], args := [d1, d2, d3, d4] }
  | _ => none }
def nestedBoundsRow : OpenClaim := { program := "ytlbehhbicmmdoaa", sum := "23bcb98d775611c7d541ad6c61940cf1a5d59e6eb1a8a46a8e7daaefc9bfbed7", func := "demesne/demesnelaw14.NestedBounds", spec := "nestedBounds", unfollowed := true, recurses := true, apart := false }
def NestedBoundsSaid : Prop := nestedBoundsRow.holds Try.pinned (OpenSpec.ofChange nestedBoundsSpec)

/-- ITS FALSE NEIGHBOUR: 'it returns false'. Refute it at one input. -/
def nestedBoundsWrong : ChangeSpec := { name := "nestedBounds", fn := fun _ => fun
  | [d1, d2, d3, d4] => { results := [.lit (.bool false)], args := [d1, d2, d3, d4] }
  | _ => none }
def NestedBoundsWrongFalsely : Prop := nestedBoundsRow.holds Try.pinned (OpenSpec.ofChange nestedBoundsWrong)

/-- 'demesnelaw14.NestedOff': WHATEVER THE INPUT: true; the input reads as it did. -/
def nestedOffSpec : ChangeSpec := { name := "nestedOff", fn := fun _ => fun
  | [d1, d2, d3] => { results := [.lit (.bool true)], args := [d1, d2, d3] }
  | _ => none }
def nestedOffRow : OpenClaim := { program := "ytlbehhbicmmdoaa", sum := "23bcb98d775611c7d541ad6c61940cf1a5d59e6eb1a8a46a8e7daaefc9bfbed7", func := "demesne/demesnelaw14.NestedOff", spec := "nestedOff", unfollowed := true, recurses := true, apart := false }
def NestedOffSaid : Prop := nestedOffRow.holds Try.pinned (OpenSpec.ofChange nestedOffSpec)

/-- ITS FALSE NEIGHBOUR: 'it returns false'. Refute it at one input. -/
def nestedOffWrong : ChangeSpec := { name := "nestedOff", fn := fun _ => fun
  | [d1, d2, d3] => { results := [.lit (.bool false)], args := [d1, d2, d3] }
  | _ => none }
def NestedOffWrongFalsely : Prop := nestedOffRow.holds Try.pinned (OpenSpec.ofChange nestedOffWrong)

/-- 'demesnelaw14.NestedGrants': WHATEVER THE INPUT: true; the input reads as it did. -/
def nestedGrantsSpec : ChangeSpec := { name := "nestedGrants", fn := fun _ => fun
  | [d1, d2, d3] => { results := [.lit (.bool true)], args := [d1, d2, d3] }
  | _ => none }
def nestedGrantsRow : OpenClaim := { program := "ytlbehhbicmmdoaa", sum := "23bcb98d775611c7d541ad6c61940cf1a5d59e6eb1a8a46a8e7daaefc9bfbed7", func := "demesne/demesnelaw14.NestedGrants", spec := "nestedGrants", unfollowed := true, recurses := true, apart := false }
def NestedGrantsSaid : Prop := nestedGrantsRow.holds Try.pinned (OpenSpec.ofChange nestedGrantsSpec)

/-- ITS FALSE NEIGHBOUR: 'it returns false'. Refute it at one input. -/
def nestedGrantsWrong : ChangeSpec := { name := "nestedGrants", fn := fun _ => fun
  | [d1, d2, d3] => { results := [.lit (.bool false)], args := [d1, d2, d3] }
  | _ => none }
def NestedGrantsWrongFalsely : Prop := nestedGrantsRow.holds Try.pinned (OpenSpec.ofChange nestedGrantsWrong)

/-- 'demesnelaw14.NestedSeconds': WHATEVER THE INPUT: true; the input reads as it did. -/
def nestedSecondsSpec : ChangeSpec := { name := "nestedSeconds", fn := fun _ => fun
  | [d1, d2, d3, d4] => { results := [.lit (.bool true)], args := [d1, d2, d3, d4] }
  | _ => none }
def nestedSecondsRow : OpenClaim := { program := "ytlbehhbicmmdoaa", sum := "23bcb98d775611c7d541ad6c61940cf1a5d59e6eb1a8a46a8e7daaefc9bfbed7", func := "demesne/demesnelaw14.NestedSeconds", spec := "nestedSeconds", unfollowed := true, recurses := true, apart := false }
def NestedSecondsSaid : Prop := nestedSecondsRow.holds Try.pinned (OpenSpec.ofChange nestedSecondsSpec)

/-- ITS FALSE NEIGHBOUR: 'it returns false'. Refute it at one input. -/
def nestedSecondsWrong : ChangeSpec := { name := "nestedSeconds", fn := fun _ => fun
  | [d1, d2, d3, d4] => { results := [.lit (.bool false)], args := [d1, d2, d3, d4] }
  | _ => none }
def NestedSecondsWrongFalsely : Prop := nestedSecondsRow.holds Try.pinned (OpenSpec.ofChange nestedSecondsWrong)

/-- 'demesnelaw14.NestedWalks': WHATEVER THE INPUT: true; the input reads as it did. -/
def nestedWalksSpec : ChangeSpec := { name := "nestedWalks", fn := fun _ => fun
  | [d1, d2, d3, d4, d5] => { results := [.lit (.bool true)], args := [d1, d2, d3, d4, d5] }
  | _ => none }
def nestedWalksRow : OpenClaim := { program := "ytlbehhbicmmdoaa", sum := "23bcb98d775611c7d541ad6c61940cf1a5d59e6eb1a8a46a8e7daaefc9bfbed7", func := "demesne/demesnelaw14.NestedWalks", spec := "nestedWalks", unfollowed := true, recurses := true, apart := false }
def NestedWalksSaid : Prop := nestedWalksRow.holds Try.pinned (OpenSpec.ofChange nestedWalksSpec)

/-- ITS FALSE NEIGHBOUR: 'it returns false'. Refute it at one input. -/
def nestedWalksWrong : ChangeSpec := { name := "nestedWalks", fn := fun _ => fun
  | [d1, d2, d3, d4, d5] => { results := [.lit (.bool false)], args := [d1, d2, d3, d4, d5] }
  | _ => none }
def NestedWalksWrongFalsely : Prop := nestedWalksRow.holds Try.pinned (OpenSpec.ofChange nestedWalksWrong)

/-- 'demesnelaw14.NestedThrough': WHATEVER THE INPUT: true; the input reads as it did. -/
def nestedThroughSpec : ChangeSpec := { name := "nestedThrough", fn := fun _ => fun
  | [d1, d2, d3] => { results := [.lit (.bool true)], args := [d1, d2, d3] }
  | _ => none }
def nestedThroughRow : OpenClaim := { program := "ytlbehhbicmmdoaa", sum := "23bcb98d775611c7d541ad6c61940cf1a5d59e6eb1a8a46a8e7daaefc9bfbed7", func := "demesne/demesnelaw14.NestedThrough", spec := "nestedThrough", unfollowed := true, recurses := true, apart := false }
def NestedThroughSaid : Prop := nestedThroughRow.holds Try.pinned (OpenSpec.ofChange nestedThroughSpec)

/-- ITS FALSE NEIGHBOUR: 'it returns false'. Refute it at one input. -/
def nestedThroughWrong : ChangeSpec := { name := "nestedThrough", fn := fun _ => fun
  | [d1, d2, d3] => { results := [.lit (.bool false)], args := [d1, d2, d3] }
  | _ => none }
def NestedThroughWrongFalsely : Prop := nestedThroughRow.holds Try.pinned (OpenSpec.ofChange nestedThroughWrong)

/- THE SECOND FORM. 'bulk': how many values and letters a reading holds, each counted each time it is reached (what is shared counts as often as it is met; a slice's spare places count too). A statement '..UptoSaid' is the law's where the arguments, and the package variables that the reading takes, are together of bulk at most 1048576: NARROWER than '..Said'. Prove '..Said' where nothing that the law and all that it calls make is longer than what came in: it says more and counts as full. Else prove '..UptoSaid'. A law counts once. -/
mutual
def uptoBulk {H : Type} : DataW H → Nat
  | .lit (.string bytes) => bytes.length + 1
  | .lit _ => 1
  | .nil => 1
  | .ptr d => uptoBulk d + 1
  | .slice elems spare => uptoBulkAll elems + uptoBulkAll spare + 1
  | .agg parts => uptoBulkAll parts + 1
  | .iface _ d => uptoBulk d + 1
  | .map entries => uptoBulkEntries entries + 1
  | .held _ => 1
def uptoBulkAll {H : Type} : List (DataW H) → Nat
  | [] => 0
  | d :: r => uptoBulk d + uptoBulkAll r
def uptoBulkEntries {H : Type} : List (Lit × DataW H) → Nat
  | [] => 0
  | x :: r => uptoBulkEntry x + uptoBulkEntries r
def uptoBulkEntry {H : Type} : Lit × DataW H → Nat
  | (.string bytes, d) => bytes.length + uptoBulk d + 1
  | (_, d) => uptoBulk d + 1
 end
def uptoSmall : (H : Type) → List (DataW H) → Bool := fun _ ds => decide (uptoBulkAll ds ≤ 1048576)
def OpenSpec.upto (s : _root_.Go.ChangeSpec) : _root_.Go.OpenSpec := { _root_.Go.OpenSpec.ofChange s with cond := some uptoSmall }

/-- 'demesnelaw12.WalkGoes', WHERE WHAT IT READS IS OF BULK AT MOST 1048576: true; the input reads as it did. -/
def walkGoesUptoRow : OpenClaim := { program := "ytlbehhbicmmdoaa", sum := "23bcb98d775611c7d541ad6c61940cf1a5d59e6eb1a8a46a8e7daaefc9bfbed7", func := "demesne/demesnelaw12.WalkGoes", spec := "walkGoes", unfollowed := true, recurses := true, apart := false, narrowed := true }
def WalkGoesUptoSaid : Prop := walkGoesUptoRow.holds Try.pinned (OpenSpec.upto walkGoesSpec)

/-- 'demesnelaw12.WalkOuts', WHERE WHAT IT READS IS OF BULK AT MOST 1048576: true; the input reads as it did. -/
def walkOutsUptoRow : OpenClaim := { program := "ytlbehhbicmmdoaa", sum := "23bcb98d775611c7d541ad6c61940cf1a5d59e6eb1a8a46a8e7daaefc9bfbed7", func := "demesne/demesnelaw12.WalkOuts", spec := "walkOuts", unfollowed := true, recurses := true, apart := false, narrowed := true }
def WalkOutsUptoSaid : Prop := walkOutsUptoRow.holds Try.pinned (OpenSpec.upto walkOutsSpec)

/-- 'demesnelaw12.WalkEnds', WHERE WHAT IT READS IS OF BULK AT MOST 1048576: true; the input reads as it did. -/
def walkEndsUptoRow : OpenClaim := { program := "ytlbehhbicmmdoaa", sum := "23bcb98d775611c7d541ad6c61940cf1a5d59e6eb1a8a46a8e7daaefc9bfbed7", func := "demesne/demesnelaw12.WalkEnds", spec := "walkEnds", unfollowed := true, recurses := true, apart := false, narrowed := true }
def WalkEndsUptoSaid : Prop := walkEndsUptoRow.holds Try.pinned (OpenSpec.upto walkEndsSpec)

/-- 'demesnelaw12.WalkLoops', WHERE WHAT IT READS IS OF BULK AT MOST 1048576: true; the input reads as it did. -/
def walkLoopsUptoRow : OpenClaim := { program := "ytlbehhbicmmdoaa", sum := "23bcb98d775611c7d541ad6c61940cf1a5d59e6eb1a8a46a8e7daaefc9bfbed7", func := "demesne/demesnelaw12.WalkLoops", spec := "walkLoops", unfollowed := true, recurses := true, apart := false, narrowed := true }
def WalkLoopsUptoSaid : Prop := walkLoopsUptoRow.holds Try.pinned (OpenSpec.upto walkLoopsSpec)

/-- 'demesnelaw12.WalkNear', WHERE WHAT IT READS IS OF BULK AT MOST 1048576: true; the input reads as it did. -/
def walkNearUptoRow : OpenClaim := { program := "ytlbehhbicmmdoaa", sum := "23bcb98d775611c7d541ad6c61940cf1a5d59e6eb1a8a46a8e7daaefc9bfbed7", func := "demesne/demesnelaw12.WalkNear", spec := "walkNear", unfollowed := true, recurses := true, apart := false, narrowed := true }
def WalkNearUptoSaid : Prop := walkNearUptoRow.holds Try.pinned (OpenSpec.upto walkNearSpec)

/-- 'demesnelaw14.NestedBounds', WHERE WHAT IT READS IS OF BULK AT MOST 1048576: true; the input reads as it did. -/
def nestedBoundsUptoRow : OpenClaim := { program := "ytlbehhbicmmdoaa", sum := "23bcb98d775611c7d541ad6c61940cf1a5d59e6eb1a8a46a8e7daaefc9bfbed7", func := "demesne/demesnelaw14.NestedBounds", spec := "nestedBounds", unfollowed := true, recurses := true, apart := false, narrowed := true }
def NestedBoundsUptoSaid : Prop := nestedBoundsUptoRow.holds Try.pinned (OpenSpec.upto nestedBoundsSpec)

/-- 'demesnelaw14.NestedOff', WHERE WHAT IT READS IS OF BULK AT MOST 1048576: true; the input reads as it did. -/
def nestedOffUptoRow : OpenClaim := { program := "ytlbehhbicmmdoaa", sum := "23bcb98d775611c7d541ad6c61940cf1a5d59e6eb1a8a46a8e7daaefc9bfbed7", func := "demesne/demesnelaw14.NestedOff", spec := "nestedOff", unfollowed := true, recurses := true, apart := false, narrowed := true }
def NestedOffUptoSaid : Prop := nestedOffUptoRow.holds Try.pinned (OpenSpec.upto nestedOffSpec)

/-- 'demesnelaw14.NestedGrants', WHERE WHAT IT READS IS OF BULK AT MOST 1048576: true; the input reads as it did. -/
def nestedGrantsUptoRow : OpenClaim := { program := "ytlbehhbicmmdoaa", sum := "23bcb98d775611c7d541ad6c61940cf1a5d59e6eb1a8a46a8e7daaefc9bfbed7", func := "demesne/demesnelaw14.NestedGrants", spec := "nestedGrants", unfollowed := true, recurses := true, apart := false, narrowed := true }
def NestedGrantsUptoSaid : Prop := nestedGrantsUptoRow.holds Try.pinned (OpenSpec.upto nestedGrantsSpec)

/-- 'demesnelaw14.NestedSeconds', WHERE WHAT IT READS IS OF BULK AT MOST 1048576: true; the input reads as it did. -/
def nestedSecondsUptoRow : OpenClaim := { program := "ytlbehhbicmmdoaa", sum := "23bcb98d775611c7d541ad6c61940cf1a5d59e6eb1a8a46a8e7daaefc9bfbed7", func := "demesne/demesnelaw14.NestedSeconds", spec := "nestedSeconds", unfollowed := true, recurses := true, apart := false, narrowed := true }
def NestedSecondsUptoSaid : Prop := nestedSecondsUptoRow.holds Try.pinned (OpenSpec.upto nestedSecondsSpec)

/-- 'demesnelaw14.NestedWalks', WHERE WHAT IT READS IS OF BULK AT MOST 1048576: true; the input reads as it did. -/
def nestedWalksUptoRow : OpenClaim := { program := "ytlbehhbicmmdoaa", sum := "23bcb98d775611c7d541ad6c61940cf1a5d59e6eb1a8a46a8e7daaefc9bfbed7", func := "demesne/demesnelaw14.NestedWalks", spec := "nestedWalks", unfollowed := true, recurses := true, apart := false, narrowed := true }
def NestedWalksUptoSaid : Prop := nestedWalksUptoRow.holds Try.pinned (OpenSpec.upto nestedWalksSpec)

/-- 'demesnelaw14.NestedThrough', WHERE WHAT IT READS IS OF BULK AT MOST 1048576: true; the input reads as it did. -/
def nestedThroughUptoRow : OpenClaim := { program := "ytlbehhbicmmdoaa", sum := "23bcb98d775611c7d541ad6c61940cf1a5d59e6eb1a8a46a8e7daaefc9bfbed7", func := "demesne/demesnelaw14.NestedThrough", spec := "nestedThrough", unfollowed := true, recurses := true, apart := false, narrowed := true }
def NestedThroughUptoSaid : Prop := nestedThroughUptoRow.holds Try.pinned (OpenSpec.upto nestedThroughSpec)

end Rows
end Go.Proofs.Ytlbehhbicmmdoaa
