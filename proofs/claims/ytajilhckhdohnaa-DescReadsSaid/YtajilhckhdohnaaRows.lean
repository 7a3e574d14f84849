/-
  No cell of these rows narrows 'for every input' (looked for: loops, veiled, ifaces, maps, wideKeys, modest, calm, conditions, laid).
  DERIVED. THE GIVEN ROWS OF THIS SEAT. 11 by the template 'for every input the law returns true; each argument reads behind the call as it read before'; 0 by the template 'total and deterministic' (their statements: YtajilhckhdohnaaTotals.lean).
  GIVEN WITH THE SEED: the statements are not yours to turn. If you find one false, say at which input.
  Laid BY PROGRAM, IN A SANDBOX (cutbox-rows.mjs): the forced cells as the released guide's own fill.sh prints them over the translation 517e3b06e1a450d0… (all of the seat's roots in one cut). By AI agents, Wed Nov 11 2026. No macro, syntax, notation, axiom, sorry.
-/
import Derived.Test.YtajilhckhdohnaaChecked
import GoSem.Claim
import GoSem.ClaimJoined
import GoSem.ClaimMapViews
import Derived.JoinedTies
import Derived.KernelRfl
namespace Go.Proofs.Ytajilhckhdohnaa
/- THE CELL 'sum', in the pinned program and in every row, IS THE sha256 OF THE DUMP (.gsa) THAT YtajilhckhdohnaaProg.lean LOADS. Nothing in Lean hashes anything: it is a label: what it is worth is what the hold of that sum in a sandbox is worth. -/
noncomputable def Try.pinned : Pinned := { name := "ytajilhckhdohnaa", sum := "517e3b06e1a450d0aa252d0dc7ea7b6e25cbbc2d22586a33dee2da7a27ba9482", checked := Try.checked }
namespace Rows
def none {H : Type} : Left H := { results := [], args := [] }

/-- 'demesnelaw4.BitsBytes': WHATEVER THE INPUT: true; the input reads as it did. -/
def bitsBytesSpec : ChangeSpec := { name := "bitsBytes", fn := fun _ => fun
  | [d1, d2, d3, d4] => { results := [.lit (.bool true)], args := [d1, d2, d3, d4] }
  | _ => none }
def bitsBytesRow : OpenClaim := { program := "ytajilhckhdohnaa", sum := "517e3b06e1a450d0aa252d0dc7ea7b6e25cbbc2d22586a33dee2da7a27ba9482", func := "demesne/demesnelaw4.BitsBytes", spec := "bitsBytes", apart := false }
def BitsBytesSaid : Prop := bitsBytesRow.holds Try.pinned (OpenSpec.ofChange bitsBytesSpec)

/-- ITS FALSE NEIGHBOUR: 'it returns false'. Refute it at one input. -/
def bitsBytesWrong : ChangeSpec := { name := "bitsBytes", fn := fun _ => fun
  | [d1, d2, d3, d4] => { results := [.lit (.bool false)], args := [d1, d2, d3, d4] }
  | _ => none }
def BitsBytesWrongFalsely : Prop := bitsBytesRow.holds Try.pinned (OpenSpec.ofChange bitsBytesWrong)

/-- 'demesnelaw4.BitsFields': WHATEVER THE INPUT: true; the input reads as it did. -/
def bitsFieldsSpec : ChangeSpec := { name := "bitsFields", fn := fun _ => fun
  | [d1, d2, d3, d4] => { results := [.lit (.bool true)], args := [d1, d2, d3, d4] }
  | _ => none }
def bitsFieldsRow : OpenClaim := { program := "ytajilhckhdohnaa", sum := "517e3b06e1a450d0aa252d0dc7ea7b6e25cbbc2d22586a33dee2da7a27ba9482", func := "demesne/demesnelaw4.BitsFields", spec := "bitsFields", apart := false }
def BitsFieldsSaid : Prop := bitsFieldsRow.holds Try.pinned (OpenSpec.ofChange bitsFieldsSpec)

/-- ITS FALSE NEIGHBOUR: 'it returns false'. Refute it at one input. -/
def bitsFieldsWrong : ChangeSpec := { name := "bitsFields", fn := fun _ => fun
  | [d1, d2, d3, d4] => { results := [.lit (.bool false)], args := [d1, d2, d3, d4] }
  | _ => none }
def BitsFieldsWrongFalsely : Prop := bitsFieldsRow.holds Try.pinned (OpenSpec.ofChange bitsFieldsWrong)

/-- 'demesnelaw4.BitsIndexes': WHATEVER THE INPUT: true; the input reads as it did. -/
def bitsIndexesSpec : ChangeSpec := { name := "bitsIndexes", fn := fun _ => fun
  | [d1, d2] => { results := [.lit (.bool true)], args := [d1, d2] }
  | _ => none }
def bitsIndexesRow : OpenClaim := { program := "ytajilhckhdohnaa", sum := "517e3b06e1a450d0aa252d0dc7ea7b6e25cbbc2d22586a33dee2da7a27ba9482", func := "demesne/demesnelaw4.BitsIndexes", spec := "bitsIndexes", apart := false }
def BitsIndexesSaid : Prop := bitsIndexesRow.holds Try.pinned (OpenSpec.ofChange bitsIndexesSpec)

/-- ITS FALSE NEIGHBOUR: 'it returns false'. Refute it at one input. -/
def bitsIndexesWrong : ChangeSpec := { name := "bitsIndexes", fn := fun _ => fun
  | [d1, d2] => { results := [.lit (.bool false)], args := [d1, d2] }
  | _ => none }
def BitsIndexesWrongFalsely : Prop := bitsIndexesRow.holds Try.pinned (OpenSpec.ofChange bitsIndexesWrong)

/-- 'demesnelaw4.BitsBack': WHATEVER THE INPUT: true; the input reads as it did. -/
def bitsBackSpec : ChangeSpec := { name := "bitsBack", fn := fun _ => fun
  | [d1, d2, d3, d4] => { results := [.lit (.bool true)], args := [d1, d2, d3, d4] }
  | _ => none }
def bitsBackRow : OpenClaim := { program := "ytajilhckhdohnaa", sum := "517e3b06e1a450d0aa252d0dc7ea7b6e25cbbc2d22586a33dee2da7a27ba9482", func := "demesne/demesnelaw4.BitsBack", spec := "bitsBack", apart := false }
def BitsBackSaid : Prop := bitsBackRow.holds Try.pinned (OpenSpec.ofChange bitsBackSpec)

/-- ITS FALSE NEIGHBOUR: 'it returns false'. Refute it at one input. -/
def bitsBackWrong : ChangeSpec := { name := "bitsBack", fn := fun _ => fun
  | [d1, d2, d3, d4] => { results := [.lit (.bool false)], args := [d1, d2, d3, d4] }
  | _ => none }
def BitsBackWrongFalsely : Prop := bitsBackRow.holds Try.pinned (OpenSpec.ofChange bitsBackWrong)

/-- 'demesnelaw4.BitsWhole': WHATEVER THE INPUT: true; the input reads as it did. -/
def bitsWholeSpec : ChangeSpec := { name := "bitsWhole", fn := fun _ => fun
  | [d1, d2, d3, d4, d5] => { results := [.lit (.bool true)], args := [d1, d2, d3, d4, d5] }
  | _ => none }
def bitsWholeRow : OpenClaim := { program := "ytajilhckhdohnaa", sum := "517e3b06e1a450d0aa252d0dc7ea7b6e25cbbc2d22586a33dee2da7a27ba9482", func := "demesne/demesnelaw4.BitsWhole", spec := "bitsWhole", apart := false }
def BitsWholeSaid : Prop := bitsWholeRow.holds Try.pinned (OpenSpec.ofChange bitsWholeSpec)

/-- ITS FALSE NEIGHBOUR: 'it returns false'. Refute it at one input. -/
def bitsWholeWrong : ChangeSpec := { name := "bitsWhole", fn := fun _ => fun
  | [d1, d2, d3, d4, d5] => { results := [.lit (.bool false)], args := [d1, d2, d3, d4, d5] }
  | _ => none }
def BitsWholeWrongFalsely : Prop := bitsWholeRow.holds Try.pinned (OpenSpec.ofChange bitsWholeWrong)

/-- 'demesnelaw4.BitsSpans': WHATEVER THE INPUT: true; the input reads as it did. -/
def bitsSpansSpec : ChangeSpec := { name := "bitsSpans", fn := fun _ => fun
  | [d1, d2] => { results := [.lit (.bool true)], args := [d1, d2] }
  | _ => none }
def bitsSpansRow : OpenClaim := { program := "ytajilhckhdohnaa", sum := "517e3b06e1a450d0aa252d0dc7ea7b6e25cbbc2d22586a33dee2da7a27ba9482", func := "demesne/demesnelaw4.BitsSpans", spec := "bitsSpans", apart := false }
def BitsSpansSaid : Prop := bitsSpansRow.holds Try.pinned (OpenSpec.ofChange bitsSpansSpec)

/-- ITS FALSE NEIGHBOUR: 'it returns false'. Refute it at one input. -/
def bitsSpansWrong : ChangeSpec := { name := "bitsSpans", fn := fun _ => fun
  | [d1, d2] => { results := [.lit (.bool false)], args := [d1, d2] }
  | _ => none }
def BitsSpansWrongFalsely : Prop := bitsSpansRow.holds Try.pinned (OpenSpec.ofChange bitsSpansWrong)

/-- 'demesnelaw9.DescCodes': WHATEVER THE INPUT: true; the input reads as it did. -/
def descCodesSpec : ChangeSpec := { name := "descCodes", fn := fun _ => fun
  | [d1, d2, d3] => { results := [.lit (.bool true)], args := [d1, d2, d3] }
  | _ => none }
def descCodesRow : OpenClaim := { program := "ytajilhckhdohnaa", sum := "517e3b06e1a450d0aa252d0dc7ea7b6e25cbbc2d22586a33dee2da7a27ba9482", func := "demesne/demesnelaw9.DescCodes", spec := "descCodes", unfollowed := true, recurses := true, apart := false }
def DescCodesSaid : Prop := descCodesRow.holds Try.pinned (OpenSpec.ofChange descCodesSpec)

/-- ITS FALSE NEIGHBOUR: 'it returns false'. Refute it at one input. -/
def descCodesWrong : ChangeSpec := { name := "descCodes", fn := fun _ => fun
  | [d1, d2, d3] => { results := [.lit (.bool false)], args := [d1, d2, d3] }
  | _ => none }
def DescCodesWrongFalsely : Prop := descCodesRow.holds Try.pinned (OpenSpec.ofChange descCodesWrong)

/-- 'demesnelaw9.DescReads': WHATEVER THE INPUT: true; the input reads as it did. -/
def descReadsSpec : ChangeSpec := { name := "descReads", fn := fun _ => fun
  | [d1, d2, d3, d4, d5] => { results := [.lit (.bool true)], args := [d1, d2, d3, d4, d5] }
  | _ => none }
def descReadsRow : OpenClaim := { program := "ytajilhckhdohnaa", sum := "517e3b06e1a450d0aa252d0dc7ea7b6e25cbbc2d22586a33dee2da7a27ba9482", func := "demesne/demesnelaw9.DescReads", spec := "descReads", unfollowed := true, recurses := true, apart := false }
def DescReadsSaid : Prop := descReadsRow.holds Try.pinned (OpenSpec.ofChange descReadsSpec)

/-- ITS FALSE NEIGHBOUR: 'it returns false'. Refute it at one input. -/
def descReadsWrong : ChangeSpec := { name := "descReads", fn := fun _ => fun
  | [d1, d2, d3, d4, d5] => { results := [.lit (.bool false)], args := [d1, d2, d3, d4, d5] }
  | _ => none }
def DescReadsWrongFalsely : Prop := descReadsRow.holds Try.pinned (OpenSpec.ofChange descReadsWrong)

/-- 'demesnelaw9.DescBack': WHATEVER THE INPUT: true; the input reads as it did. -/
def descBackSpec : ChangeSpec := { name := "descBack", fn := fun _ => fun
  | [d1, d2, d3, d4] => { results := [.lit (.bool true)], args := [d1, d2, d3, d4] }
  | _ => none }
def descBackRow : OpenClaim := { program := "ytajilhckhdohnaa", sum := "517e3b06e1a450d0aa252d0dc7ea7b6e25cbbc2d22586a33dee2da7a27ba9482", func := "demesne/demesnelaw9.DescBack", spec := "descBack", unfollowed := true, recurses := true, apart := false }
def DescBackSaid : Prop := descBackRow.holds Try.pinned (OpenSpec.ofChange descBackSpec)

/-- ITS FALSE NEIGHBOUR: 'it returns false'. Refute it at one input. -/
def descBackWrong : ChangeSpec := { name := "descBack", fn := fun _ => fun
  | [d1, d2, d3, d4] => { results := [.lit (.bool false)], args := [d1, d2, d3, d4] }
  | _ => none }
def DescBackWrongFalsely : Prop := descBackRow.holds Try.pinned (OpenSpec.ofChange descBackWrong)

/-- 'demesnelaw9.DescUnlike': WHATEVER THE INPUT: true; the input reads as it did. -/
def descUnlikeSpec : ChangeSpec := { name := "descUnlike", fn := fun _ => fun
  | [d1, d2, d3, d4] => { results := [.lit (.bool true)], args := [d1, d2, d3, d4] }
  | _ => none }
def descUnlikeRow : OpenClaim := { program := "ytajilhckhdohnaa", sum := "517e3b06e1a450d0aa252d0dc7ea7b6e25cbbc2d22586a33dee2da7a27ba9482", func := "demesne/demesnelaw9.DescUnlike", spec := "descUnlike", unfollowed := true, recurses := true, apart := false }
def DescUnlikeSaid : Prop := descUnlikeRow.holds Try.pinned (OpenSpec.ofChange descUnlikeSpec)

/-- ITS FALSE NEIGHBOUR: 'it returns false'. Refute it at one input. -/
def descUnlikeWrong : ChangeSpec := { name := "descUnlike", fn := fun _ => fun
  | [d1, d2, d3, d4] => { results := [.lit (.bool false)], args := [d1, d2, d3, d4] }
  | _ => none }
def DescUnlikeWrongFalsely : Prop := descUnlikeRow.holds Try.pinned (OpenSpec.ofChange descUnlikeWrong)

/-- 'demesnelaw9.DescStages': WHATEVER THE INPUT: true; the input reads as it did. -/
def descStagesSpec : ChangeSpec := { name := "descStages", fn := fun _ => fun
  | [d1, d2] => { results := [.lit (.bool true)], args := [d1, d2] }
  | _ => none }
def descStagesRow : OpenClaim := { program := "ytajilhckhdohnaa", sum := "517e3b06e1a450d0aa252d0dc7ea7b6e25cbbc2d22586a33dee2da7a27ba9482", func := "demesne/demesnelaw9.DescStages", spec := "descStages", unfollowed := true, recurses := true, apart := false }
def DescStagesSaid : Prop := descStagesRow.holds Try.pinned (OpenSpec.ofChange descStagesSpec)

/-- ITS FALSE NEIGHBOUR: 'it returns false'. Refute it at one input. -/
def descStagesWrong : ChangeSpec := { name := "descStages", fn := fun _ => fun
  | [d1, d2] => { results := [.lit (.bool false)], args := [d1, d2] }
  | _ => none }
def DescStagesWrongFalsely : Prop := descStagesRow.holds Try.pinned (OpenSpec.ofChange descStagesWrong)

/- THE SECOND FORM. 'bulk': how many values and letters a reading holds, each counted each time it is reached (what is shared counts as often as it is met; a slice's spare places count too). A statement '..UptoSaid' is the law's where the arguments, and the package variables that the reading takes, are together of bulk at most 1048576: NARROWER than '..Said'. Prove '..Said' where nothing that the law and all that it calls make is longer than what came in: it says more and counts as full. Else prove '..UptoSaid'. A law counts once. -/
mutual
def uptoBulk {H : Type} : DataW H → Nat
  | .lit (.string bytes) => bytes.length + 1
  | .lit _ => 1
  | .nil => 1
  | .ptr d => uptoBulk d + 1
  | .slice elems spare => uptoBulkAll elems + uptoBulkAll spare + 1
  | .agg parts => uptoBulkAll parts + 1
  | .iface _ d => uptoBulk d + 1
  | .map entries => uptoBulkEntries entries + 1
  | .held _ => 1
def uptoBulkAll {H : Type} : List (DataW H) → Nat
  | [] => 0
  | d :: r => uptoBulk d + uptoBulkAll r
def uptoBulkEntries {H : Type} : List (Lit × DataW H) → Nat
  | [] => 0
  | x :: r => uptoBulkEntry x + uptoBulkEntries r
def uptoBulkEntry {H : Type} : Lit × DataW H → Nat
  | (.string bytes, d) => bytes.length + uptoBulk d + 1
  | (_, d) => uptoBulk d + 1
 end
def uptoSmall : (H : Type) → List (DataW H) → Bool := fun _ ds => decide (uptoBulkAll ds ≤ 1048576)
def OpenSpec.upto (s : _root_.Go.ChangeSpec) : _root_.Go.OpenSpec := { _root_.Go.OpenSpec.ofChange s with cond := some uptoSmall }

/-- 'demesnelaw4.BitsBytes', WHERE WHAT IT READS IS OF BULK AT MOST 1048576: true; the input reads as it did. -/
def bitsBytesUptoRow : OpenClaim := { program := "ytajilhckhdohnaa", sum := "517e3b06e1a450d0aa252d0dc7ea7b6e25cbbc2d22586a33dee2da7a27ba9482", func := "demesne/demesnelaw4.BitsBytes", spec := "bitsBytes", apart := false, narrowed := true }
def BitsBytesUptoSaid : Prop := bitsBytesUptoRow.holds Try.pinned (OpenSpec.upto bitsBytesSpec)

/-- 'demesnelaw4.BitsFields', WHERE WHAT IT READS IS OF BULK AT MOST 1048576: true; the input reads as it did. -/
def bitsFieldsUptoRow : OpenClaim := { program := "ytajilhckhdohnaa", sum := "517e3b06e1a450d0aa252d0dc7ea7b6e25cbbc2d22586a33dee2da7a27ba9482", func := "demesne/demesnelaw4.BitsFields", spec := "bitsFields", apart := false, narrowed := true }
def BitsFieldsUptoSaid : Prop := bitsFieldsUptoRow.holds Try.pinned (OpenSpec.upto bitsFieldsSpec)

/-- 'demesnelaw4.BitsIndexes', WHERE WHAT IT READS IS OF BULK AT MOST 1048576: true; the input reads as it did. -/
def bitsIndexesUptoRow : OpenClaim := { program := "ytajilhckhdohnaa", sum := "517e3b06e1a450d0aa252d0dc7ea7b6e25cbbc2d22586a33dee2da7a27ba9482", func := "demesne/demesnelaw4.BitsIndexes", spec := "bitsIndexes", apart := false, narrowed := true }
def BitsIndexesUptoSaid : Prop := bitsIndexesUptoRow.holds Try.pinned (OpenSpec.upto bitsIndexesSpec)

/-- 'demesnelaw4.BitsBack', WHERE WHAT IT READS IS OF BULK AT MOST 1048576: true; the input reads as it did. -/
def bitsBackUptoRow : OpenClaim := { program := "ytajilhckhdohnaa", sum := "517e3b06e1a450d0aa252d0dc7ea7b6e25cbbc2d22586a33dee2da7a27ba9482", func := "demesne/demesnelaw4.BitsBack", spec := "bitsBack", apart := false, narrowed := true }
def BitsBackUptoSaid : Prop := bitsBackUptoRow.holds Try.pinned (OpenSpec.upto bitsBackSpec)

/-- 'demesnelaw4.BitsWhole', WHERE WHAT IT READS IS OF BULK AT MOST 1048576: true; the input reads as it did. -/
def bitsWholeUptoRow : OpenClaim := { program := "ytajilhckhdohnaa", sum := "517e3b06e1a450d0aa252d0dc7ea7b6e25cbbc2d22586a33dee2da7a27ba9482", func := "demesne/demesnelaw4.BitsWhole", spec := "bitsWhole", apart := false, narrowed := true }
def BitsWholeUptoSaid : Prop := bitsWholeUptoRow.holds Try.pinned (OpenSpec.upto bitsWholeSpec)

/-- 'demesnelaw4.BitsSpans', WHERE WHAT IT READS IS OF BULK AT MOST 1048576: true; the input reads as it did. -/
def bitsSpansUptoRow : OpenClaim := { program := "ytajilhckhdohnaa", sum := "517e3b06e1a450d0aa252d0dc7ea7b6e25cbbc2d22586a33dee2da7a27ba9482", func := "demesne/demesnelaw4.BitsSpans", spec := "bitsSpans", apart := false, narrowed := true }
def BitsSpansUptoSaid : Prop := bitsSpansUptoRow.holds Try.pinned (OpenSpec.upto bitsSpansSpec)

/-- 'demesnelaw9.DescCodes', WHERE WHAT IT READS IS OF BULK AT MOST 1048576: true; the input reads as it did. -/
def descCodesUptoRow : OpenClaim := { program := "ytajilhckhdohnaa", sum := "517e3b06e1a450d0aa252d0dc7ea7b6e25cbbc2d22586a33dee2da7a27ba9482", func := "demesne/demesnelaw9.DescCodes", spec := "descCodes", unfollowed := true, recurses := true, apart := false, narrowed := true }
def DescCodesUptoSaid : Prop := descCodesUptoRow.holds Try.pinned (OpenSpec.upto descCodesSpec)

/-- 'demesnelaw9.DescReads', WHERE WHAT IT READS IS OF BULK AT MOST 1048576: true; the input reads as it did. -/
def descReadsUptoRow : OpenClaim := { program := "ytajilhckhdohnaa", sum := "517e3b06e1a450d0aa252d0dc7ea7b6e25cbbc2d22586a33dee2da7a27ba9482", func := "demesne/demesnelaw9.DescReads", spec := "descReads", unfollowed := true, recurses := true, apart := false, narrowed := true }
def DescReadsUptoSaid : Prop := descReadsUptoRow.holds Try.pinned (OpenSpec.upto descReadsSpec)

/-- 'demesnelaw9.DescBack', WHERE WHAT IT READS IS OF BULK AT MOST 1048576: true; the input reads as it did. -/
def descBackUptoRow : OpenClaim := { program := "ytajilhckhdohnaa", sum := "517e3b06e1a450d0aa252d0dc7ea7b6e25cbbc2d22586a33dee2da7a27ba9482", func := "demesne/demesnelaw9.DescBack", spec := "descBack", unfollowed := true, recurses := true, apart := false, narrowed := true }
def DescBackUptoSaid : Prop := descBackUptoRow.holds Try.pinned (OpenSpec.upto descBackSpec)

/-- 'demesnelaw9.DescUnlike', WHERE WHAT IT READS IS OF BULK AT MOST 1048576: true; the input reads as it did. -/
def descUnlikeUptoRow : OpenClaim := { program := "ytajilhckhdohnaa", sum := "517e3b06e1a450d0aa252d0dc7ea7b6e25cbbc2d22586a33dee2da7a27ba9482", func := "demesne/demesnelaw9.DescUnlike", spec := "descUnlike", unfollowed := true, recurses := true, apart := false, narrowed := true }
def DescUnlikeUptoSaid : Prop := descUnlikeUptoRow.holds Try.pinned (OpenSpec.upto descUnlikeSpec)

/-- 'demesnelaw9.DescStages', WHERE WHAT IT READS IS OF BULK AT MOST 1048576: true; the input reads as it did. -/
def descStagesUptoRow : OpenClaim := { program := "ytajilhckhdohnaa", sum := "517e3b06e1a450d0aa252d0dc7ea7b6e25cbbc2d22586a33dee2da7a27ba9482", func := "demesne/demesnelaw9.DescStages", spec := "descStages", unfollowed := true, recurses := true, apart := false, narrowed := true }
def DescStagesUptoSaid : Prop := descStagesUptoRow.holds Try.pinned (OpenSpec.upto descStagesSpec)

end Rows
end Go.Proofs.Ytajilhckhdohnaa
