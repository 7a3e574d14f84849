/-
  No cell of these rows narrows 'for every input' (looked for: loops, veiled, ifaces, maps, wideKeys, modest, calm, conditions, laid).
  DERIVED. THE GIVEN ROWS OF THIS SEAT. 11 by the template 'for every input the law returns true; each argument reads behind the call as it read before'; 0 by the template 'total and deterministic' (their statements: YtbnbchclbblbkaaTotals.lean).
  GIVEN WITH THE SEED: the statements are not yours to turn. If you find one false, say at which input.
  Laid BY PROGRAM, IN A SANDBOX (cutbox-rows.mjs): the forced cells as the released guide's own fill.sh prints them over the translation b0229aad987010ba… (all of the seat's roots in one cut). By AI agents, Wed Nov 11 2026. No macro, syntax, notation, axiom, sorry.
-/
import Derived.Test.YtbnbchclbblbkaaChecked
import GoSem.Claim
import GoSem.ClaimJoined
import GoSem.ClaimMapViews
import Derived.JoinedTies
import Derived.KernelRfl
namespace Go.Proofs.Ytbnbchclbblbkaa
/- THE CELL 'sum', in the pinned program and in every row, IS THE sha256 OF THE DUMP (.gsa) THAT YtbnbchclbblbkaaProg.lean LOADS. Nothing in Lean hashes anything: it is a label: what it is worth is what the hold of that sum in a sandbox is worth. -/
noncomputable def Try.pinned : Pinned := { name := "ytbnbchclbblbkaa", sum := "b0229aad987010ba4b6a70e0ab1f1a8a00e198e464591c3b64dfd600c00ae680", checked := Try.checked }
namespace Rows
def none {H : Type} : Left H := { results := [], args := [] }

/-- 'demesnelaw10.PermTexts': WHATEVER THE INPUT: true; the input reads as it did. -/
def permTextsSpec : ChangeSpec := { name := "permTexts", fn := fun _ => fun
  | [d1, d2] => { results := [.lit (.bool true)], args := [d1, d2] }
  | _ => none }
def permTextsRow : OpenClaim := { program := "ytbnbchclbblbkaa", sum := "b0229aad987010ba4b6a70e0ab1f1a8a00e198e464591c3b64dfd600c00ae680", func := "demesne/demesnelaw10.PermTexts", spec := "permTexts", apart := false }
def PermTextsSaid : Prop := permTextsRow.holds Try.pinned (OpenSpec.ofChange permTextsSpec)

/-- ITS FALSE NEIGHBOUR: 'it returns false'. Refute it at one input. -/
def permTextsWrong : ChangeSpec := { name := "permTexts", fn := fun _ => fun
  | [d1, d2] => { results := [.lit (.bool false)], args := [d1, d2] }
  | _ => none }
def PermTextsWrongFalsely : Prop := permTextsRow.holds Try.pinned (OpenSpec.ofChange permTextsWrong)

/-- 'demesnelaw10.PermAsks': WHATEVER THE INPUT: true; the input reads as it did. -/
def permAsksSpec : ChangeSpec := { name := "permAsks", fn := fun _ => fun
  | [d1, d2, d3] => { results := [.lit (.bool true)], args := [d1, d2, d3] }
  | _ => none }
def permAsksRow : OpenClaim := { program := "ytbnbchclbblbkaa", sum := "b0229aad987010ba4b6a70e0ab1f1a8a00e198e464591c3b64dfd600c00ae680", func := "demesne/demesnelaw10.PermAsks", spec := "permAsks", apart := false }
def PermAsksSaid : Prop := permAsksRow.holds Try.pinned (OpenSpec.ofChange permAsksSpec)

/-- ITS FALSE NEIGHBOUR: 'it returns false'. Refute it at one input. -/
def permAsksWrong : ChangeSpec := { name := "permAsks", fn := fun _ => fun
  | [d1, d2, d3] => { results := [.lit (.bool false)], args := [d1, d2, d3] }
  | _ => none }
def PermAsksWrongFalsely : Prop := permAsksRow.holds Try.pinned (OpenSpec.ofChange permAsksWrong)

/-- 'demesnelaw10.PermLeast': WHATEVER THE INPUT: true; the input reads as it did. -/
def permLeastSpec : ChangeSpec := { name := "permLeast", fn := fun _ => fun
  | [d1, d2, d3, d4] => { results := [.lit (.bool true)], args := [d1, d2, d3, d4] }
  | _ => none }
def permLeastRow : OpenClaim := { program := "ytbnbchclbblbkaa", sum := "b0229aad987010ba4b6a70e0ab1f1a8a00e198e464591c3b64dfd600c00ae680", func := "demesne/demesnelaw10.PermLeast", spec := "permLeast", apart := false }
def PermLeastSaid : Prop := permLeastRow.holds Try.pinned (OpenSpec.ofChange permLeastSpec)

/-- ITS FALSE NEIGHBOUR: 'it returns false'. Refute it at one input. -/
def permLeastWrong : ChangeSpec := { name := "permLeast", fn := fun _ => fun
  | [d1, d2, d3, d4] => { results := [.lit (.bool false)], args := [d1, d2, d3, d4] }
  | _ => none }
def PermLeastWrongFalsely : Prop := permLeastRow.holds Try.pinned (OpenSpec.ofChange permLeastWrong)

/-- 'demesnelaw10.PermOrder': WHATEVER THE INPUT: true; the input reads as it did. -/
def permOrderSpec : ChangeSpec := { name := "permOrder", fn := fun _ => fun
  | [d1, d2, d3] => { results := [.lit (.bool true)], args := [d1, d2, d3] }
  | _ => none }
def permOrderRow : OpenClaim := { program := "ytbnbchclbblbkaa", sum := "b0229aad987010ba4b6a70e0ab1f1a8a00e198e464591c3b64dfd600c00ae680", func := "demesne/demesnelaw10.PermOrder", spec := "permOrder", apart := false }
def PermOrderSaid : Prop := permOrderRow.holds Try.pinned (OpenSpec.ofChange permOrderSpec)

/-- ITS FALSE NEIGHBOUR: 'it returns false'. Refute it at one input. -/
def permOrderWrong : ChangeSpec := { name := "permOrder", fn := fun _ => fun
  | [d1, d2, d3] => { results := [.lit (.bool false)], args := [d1, d2, d3] }
  | _ => none }
def PermOrderWrongFalsely : Prop := permOrderRow.holds Try.pinned (OpenSpec.ofChange permOrderWrong)

/-- 'demesnelaw16.VmidPlays': WHATEVER THE INPUT: true; the input reads as it did. -/
def vmidPlaysSpec : ChangeSpec := { name := "vmidPlays", fn := fun _ => fun
  | [d1, d2] => { results := [.lit (.bool true)], args := [d1, d2] }
  | _ => none }
def vmidPlaysRow : OpenClaim := { program := "ytbnbchclbblbkaa", sum := "b0229aad987010ba4b6a70e0ab1f1a8a00e198e464591c3b64dfd600c00ae680", func := "demesne/demesnelaw16.VmidPlays", spec := "vmidPlays", apart := false }
def VmidPlaysSaid : Prop := vmidPlaysRow.holds Try.pinned (OpenSpec.ofChange vmidPlaysSpec)

/-- ITS FALSE NEIGHBOUR: 'it returns false'. Refute it at one input. -/
def vmidPlaysWrong : ChangeSpec := { name := "vmidPlays", fn := fun _ => fun
  | [d1, d2] => { results := [.lit (.bool false)], args := [d1, d2] }
  | _ => none }
def VmidPlaysWrongFalsely : Prop := vmidPlaysRow.holds Try.pinned (OpenSpec.ofChange vmidPlaysWrong)

/-- 'demesnelaw16.VmidOnce': WHATEVER THE INPUT: true; the input reads as it did. -/
def vmidOnceSpec : ChangeSpec := { name := "vmidOnce", fn := fun _ => fun
  | [d1, d2] => { results := [.lit (.bool true)], args := [d1, d2] }
  | _ => none }
def vmidOnceRow : OpenClaim := { program := "ytbnbchclbblbkaa", sum := "b0229aad987010ba4b6a70e0ab1f1a8a00e198e464591c3b64dfd600c00ae680", func := "demesne/demesnelaw16.VmidOnce", spec := "vmidOnce", apart := false }
def VmidOnceSaid : Prop := vmidOnceRow.holds Try.pinned (OpenSpec.ofChange vmidOnceSpec)

/-- ITS FALSE NEIGHBOUR: 'it returns false'. Refute it at one input. -/
def vmidOnceWrong : ChangeSpec := { name := "vmidOnce", fn := fun _ => fun
  | [d1, d2] => { results := [.lit (.bool false)], args := [d1, d2] }
  | _ => none }
def VmidOnceWrongFalsely : Prop := vmidOnceRow.holds Try.pinned (OpenSpec.ofChange vmidOnceWrong)

/-- 'demesnelaw16.VmidTurns': WHATEVER THE INPUT: true; the input reads as it did. -/
def vmidTurnsSpec : ChangeSpec := { name := "vmidTurns", fn := fun _ => fun
  | [d1, d2, d3] => { results := [.lit (.bool true)], args := [d1, d2, d3] }
  | _ => none }
def vmidTurnsRow : OpenClaim := { program := "ytbnbchclbblbkaa", sum := "b0229aad987010ba4b6a70e0ab1f1a8a00e198e464591c3b64dfd600c00ae680", func := "demesne/demesnelaw16.VmidTurns", spec := "vmidTurns", apart := false }
def VmidTurnsSaid : Prop := vmidTurnsRow.holds Try.pinned (OpenSpec.ofChange vmidTurnsSpec)

/-- ITS FALSE NEIGHBOUR: 'it returns false'. Refute it at one input. -/
def vmidTurnsWrong : ChangeSpec := { name := "vmidTurns", fn := fun _ => fun
  | [d1, d2, d3] => { results := [.lit (.bool false)], args := [d1, d2, d3] }
  | _ => none }
def VmidTurnsWrongFalsely : Prop := vmidTurnsRow.holds Try.pinned (OpenSpec.ofChange vmidTurnsWrong)

/-- 'demesnelaw6.DiskPlays': WHATEVER THE INPUT: true; the input reads as it did. -/
def diskPlaysSpec : ChangeSpec := { name := "diskPlays", fn := fun _ => fun
  | [d1, d2] => { results := [.lit (.bool true)], args := [d1, d2] }
  | _ => none }
def diskPlaysRow : OpenClaim := { program := "ytbnbchclbblbkaa", sum := "b0229aad987010ba4b6a70e0ab1f1a8a00e198e464591c3b64dfd600c00ae680", func := "demesne/demesnelaw6.DiskPlays", spec := "diskPlays", apart := false }
def DiskPlaysSaid : Prop := diskPlaysRow.holds Try.pinned (OpenSpec.ofChange diskPlaysSpec)

/-- ITS FALSE NEIGHBOUR: 'it returns false'. Refute it at one input. -/
def diskPlaysWrong : ChangeSpec := { name := "diskPlays", fn := fun _ => fun
  | [d1, d2] => { results := [.lit (.bool false)], args := [d1, d2] }
  | _ => none }
def DiskPlaysWrongFalsely : Prop := diskPlaysRow.holds Try.pinned (OpenSpec.ofChange diskPlaysWrong)

/-- 'demesnelaw6.DiskKeeps': WHATEVER THE INPUT: true; the input reads as it did. -/
def diskKeepsSpec : ChangeSpec := { name := "diskKeeps", fn := fun _ => fun
  | [d1, d2, d3] => { results := [.lit (.bool true)], args := [d1, d2, d3] }
  | _ => none }
def diskKeepsRow : OpenClaim := { program := "ytbnbchclbblbkaa", sum := "b0229aad987010ba4b6a70e0ab1f1a8a00e198e464591c3b64dfd600c00ae680", func := "demesne/demesnelaw6.DiskKeeps", spec := "diskKeeps", apart := false }
def DiskKeepsSaid : Prop := diskKeepsRow.holds Try.pinned (OpenSpec.ofChange diskKeepsSpec)

/-- ITS FALSE NEIGHBOUR: 'it returns false'. Refute it at one input. -/
def diskKeepsWrong : ChangeSpec := { name := "diskKeeps", fn := fun _ => fun
  | [d1, d2, d3] => { results := [.lit (.bool false)], args := [d1, d2, d3] }
  | _ => none }
def DiskKeepsWrongFalsely : Prop := diskKeepsRow.holds Try.pinned (OpenSpec.ofChange diskKeepsWrong)

/-- 'demesnelaw6.DiskLeast': WHATEVER THE INPUT: true; the input reads as it did. -/
def diskLeastSpec : ChangeSpec := { name := "diskLeast", fn := fun _ => fun
  | [d1, d2] => { results := [.lit (.bool true)], args := [d1, d2] }
  | _ => none }
def diskLeastRow : OpenClaim := { program := "ytbnbchclbblbkaa", sum := "b0229aad987010ba4b6a70e0ab1f1a8a00e198e464591c3b64dfd600c00ae680", func := "demesne/demesnelaw6.DiskLeast", spec := "diskLeast", apart := false }
def DiskLeastSaid : Prop := diskLeastRow.holds Try.pinned (OpenSpec.ofChange diskLeastSpec)

/-- ITS FALSE NEIGHBOUR: 'it returns false'. Refute it at one input. -/
def diskLeastWrong : ChangeSpec := { name := "diskLeast", fn := fun _ => fun
  | [d1, d2] => { results := [.lit (.bool false)], args := [d1, d2] }
  | _ => none }
def DiskLeastWrongFalsely : Prop := diskLeastRow.holds Try.pinned (OpenSpec.ofChange diskLeastWrong)

/-- 'demesnelaw6.DiskFails': WHATEVER THE INPUT: true; the input reads as it did. -/
def diskFailsSpec : ChangeSpec := { name := "diskFails", fn := fun _ => fun
  | [d1, d2] => { results := [.lit (.bool true)], args := [d1, d2] }
  | _ => none }
def diskFailsRow : OpenClaim := { program := "ytbnbchclbblbkaa", sum := "b0229aad987010ba4b6a70e0ab1f1a8a00e198e464591c3b64dfd600c00ae680", func := "demesne/demesnelaw6.DiskFails", spec := "diskFails", apart := false }
def DiskFailsSaid : Prop := diskFailsRow.holds Try.pinned (OpenSpec.ofChange diskFailsSpec)

/-- ITS FALSE NEIGHBOUR: 'it returns false'. Refute it at one input. -/
def diskFailsWrong : ChangeSpec := { name := "diskFails", fn := fun _ => fun
  | [d1, d2] => { results := [.lit (.bool false)], args := [d1, d2] }
  | _ => none }
def DiskFailsWrongFalsely : Prop := diskFailsRow.holds Try.pinned (OpenSpec.ofChange diskFailsWrong)

/- THE SECOND FORM. 'bulk': how many values and letters a reading holds, each counted each time it is reached (what is shared counts as often as it is met; a slice's spare places count too). A statement '..UptoSaid' is the law's where the arguments, and the package variables that the reading takes, are together of bulk at most 1048576: NARROWER than '..Said'. Prove '..Said' where nothing that the law and all that it calls make is longer than what came in: it says more and counts as full. Else prove '..UptoSaid'. A law counts once. -/
mutual
def uptoBulk {H : Type} : DataW H → Nat
  | .lit (.string bytes) => bytes.length + 1
  | .lit _ => 1
  | .nil => 1
  | .ptr d => uptoBulk d + 1
  | .slice elems spare => uptoBulkAll elems + uptoBulkAll spare + 1
  | .agg parts => uptoBulkAll parts + 1
  | .iface _ d => uptoBulk d + 1
  | .map entries => uptoBulkEntries entries + 1
  | .held _ => 1
def uptoBulkAll {H : Type} : List (DataW H) → Nat
  | [] => 0
  | d :: r => uptoBulk d + uptoBulkAll r
def uptoBulkEntries {H : Type} : List (Lit × DataW H) → Nat
  | [] => 0
  | x :: r => uptoBulkEntry x + uptoBulkEntries r
def uptoBulkEntry {H : Type} : Lit × DataW H → Nat
  | (.string bytes, d) => bytes.length + uptoBulk d + 1
  | (_, d) => uptoBulk d + 1
 end
def uptoSmall : (H : Type) → List (DataW H) → Bool := fun _ ds => decide (uptoBulkAll ds ≤ 1048576)
def OpenSpec.upto (s : _root_.Go.ChangeSpec) : _root_.Go.OpenSpec := { _root_.Go.OpenSpec.ofChange s with cond := some uptoSmall }

/-- 'demesnelaw10.PermTexts', WHERE WHAT IT READS IS OF BULK AT MOST 1048576: true; the input reads as it did. -/
def permTextsUptoRow : OpenClaim := { program := "ytbnbchclbblbkaa", sum := "b0229aad987010ba4b6a70e0ab1f1a8a00e198e464591c3b64dfd600c00ae680", func := "demesne/demesnelaw10.PermTexts", spec := "permTexts", apart := false, narrowed := true }
def PermTextsUptoSaid : Prop := permTextsUptoRow.holds Try.pinned (OpenSpec.upto permTextsSpec)

/-- 'demesnelaw10.PermAsks', WHERE WHAT IT READS IS OF BULK AT MOST 1048576: true; the input reads as it did. -/
def permAsksUptoRow : OpenClaim := { program := "ytbnbchclbblbkaa", sum := "b0229aad987010ba4b6a70e0ab1f1a8a00e198e464591c3b64dfd600c00ae680", func := "demesne/demesnelaw10.PermAsks", spec := "permAsks", apart := false, narrowed := true }
def PermAsksUptoSaid : Prop := permAsksUptoRow.holds Try.pinned (OpenSpec.upto permAsksSpec)

/-- 'demesnelaw10.PermLeast', WHERE WHAT IT READS IS OF BULK AT MOST 1048576: true; the input reads as it did. -/
def permLeastUptoRow : OpenClaim := { program := "ytbnbchclbblbkaa", sum := "b0229aad987010ba4b6a70e0ab1f1a8a00e198e464591c3b64dfd600c00ae680", func := "demesne/demesnelaw10.PermLeast", spec := "permLeast", apart := false, narrowed := true }
def PermLeastUptoSaid : Prop := permLeastUptoRow.holds Try.pinned (OpenSpec.upto permLeastSpec)

/-- 'demesnelaw10.PermOrder', WHERE WHAT IT READS IS OF BULK AT MOST 1048576: true; the input reads as it did. -/
def permOrderUptoRow : OpenClaim := { program := "ytbnbchclbblbkaa", sum := "b0229aad987010ba4b6a70e0ab1f1a8a00e198e464591c3b64dfd600c00ae680", func := "demesne/demesnelaw10.PermOrder", spec := "permOrder", apart := false, narrowed := true }
def PermOrderUptoSaid : Prop := permOrderUptoRow.holds Try.pinned (OpenSpec.upto permOrderSpec)

/-- 'demesnelaw16.VmidPlays', WHERE WHAT IT READS IS OF BULK AT MOST 1048576: true; the input reads as it did. -/
def vmidPlaysUptoRow : OpenClaim := { program := "ytbnbchclbblbkaa", sum := "b0229aad987010ba4b6a70e0ab1f1a8a00e198e464591c3b64dfd600c00ae680", func := "demesne/demesnelaw16.VmidPlays", spec := "vmidPlays", apart := false, narrowed := true }
def VmidPlaysUptoSaid : Prop := vmidPlaysUptoRow.holds Try.pinned (OpenSpec.upto vmidPlaysSpec)

/-- 'demesnelaw16.VmidOnce', WHERE WHAT IT READS IS OF BULK AT MOST 1048576: true; the input reads as it did. -/
def vmidOnceUptoRow : OpenClaim := { program := "ytbnbchclbblbkaa", sum := "b0229aad987010ba4b6a70e0ab1f1a8a00e198e464591c3b64dfd600c00ae680", func := "demesne/demesnelaw16.VmidOnce", spec := "vmidOnce", apart := false, narrowed := true }
def VmidOnceUptoSaid : Prop := vmidOnceUptoRow.holds Try.pinned (OpenSpec.upto vmidOnceSpec)

/-- 'demesnelaw16.VmidTurns', WHERE WHAT IT READS IS OF BULK AT MOST 1048576: true; the input reads as it did. -/
def vmidTurnsUptoRow : OpenClaim := { program := "ytbnbchclbblbkaa", sum := "b0229aad987010ba4b6a70e0ab1f1a8a00e198e464591c3b64dfd600c00ae680", func := "demesne/demesnelaw16.VmidTurns", spec := "vmidTurns", apart := false, narrowed := true }
def VmidTurnsUptoSaid : Prop := vmidTurnsUptoRow.holds Try.pinned (OpenSpec.upto vmidTurnsSpec)

/-- 'demesnelaw6.DiskPlays', WHERE WHAT IT READS IS OF BULK AT MOST 1048576: true; the input reads as it did. -/
def diskPlaysUptoRow : OpenClaim := { program := "ytbnbchclbblbkaa", sum := "b0229aad987010ba4b6a70e0ab1f1a8a00e198e464591c3b64dfd600c00ae680", func := "demesne/demesnelaw6.DiskPlays", spec := "diskPlays", apart := false, narrowed := true }
def DiskPlaysUptoSaid : Prop := diskPlaysUptoRow.holds Try.pinned (OpenSpec.upto diskPlaysSpec)

/-- 'demesnelaw6.DiskKeeps', WHERE WHAT IT READS IS OF BULK AT MOST 1048576: true; the input reads as it did. -/
def diskKeepsUptoRow : OpenClaim := { program := "ytbnbchclbblbkaa", sum := "b0229aad987010ba4b6a70e0ab1f1a8a00e198e464591c3b64dfd600c00ae680", func := "demesne/demesnelaw6.DiskKeeps", spec := "diskKeeps", apart := false, narrowed := true }
def DiskKeepsUptoSaid : Prop := diskKeepsUptoRow.holds Try.pinned (OpenSpec.upto diskKeepsSpec)

/-- 'demesnelaw6.DiskLeast', WHERE WHAT IT READS IS OF BULK AT MOST 1048576: true; the input reads as it did. -/
def diskLeastUptoRow : OpenClaim := { program := "ytbnbchclbblbkaa", sum := "b0229aad987010ba4b6a70e0ab1f1a8a00e198e464591c3b64dfd600c00ae680", func := "demesne/demesnelaw6.DiskLeast", spec := "diskLeast", apart := false, narrowed := true }
def DiskLeastUptoSaid : Prop := diskLeastUptoRow.holds Try.pinned (OpenSpec.upto diskLeastSpec)

/-- 'demesnelaw6.DiskFails', WHERE WHAT IT READS IS OF BULK AT MOST 1048576: true; the input reads as it did. -/
def diskFailsUptoRow : OpenClaim := { program := "ytbnbchclbblbkaa", sum := "b0229aad987010ba4b6a70e0ab1f1a8a00e198e464591c3b64dfd600c00ae680", func := "demesne/demesnelaw6.DiskFails", spec := "diskFails", apart := false, narrowed := true }
def DiskFailsUptoSaid : Prop := diskFailsUptoRow.holds Try.pinned (OpenSpec.upto diskFailsSpec)

end Rows
end Go.Proofs.Ytbnbchclbblbkaa
