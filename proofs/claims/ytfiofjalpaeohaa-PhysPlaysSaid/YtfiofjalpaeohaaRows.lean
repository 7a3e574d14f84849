/-
  No cell of these rows narrows 'for every input' (looked for: loops, veiled, ifaces, maps, wideKeys, modest, calm, conditions, laid).
  DERIVED. THE GIVEN ROWS OF THIS SEAT. 9 by the template 'for every input the law returns true; each argument reads behind the call as it read before'; 0 by the template 'total and deterministic' (their statements: YtfiofjalpaeohaaTotals.lean).
  GIVEN WITH THE SEED: the statements are not yours to turn. If you find one false, say at which input.
  Laid BY PROGRAM, IN A SANDBOX (cutbox-rows.mjs): the forced cells as the released guide's own fill.sh prints them over the translation 082be3f0233efe30… (all of the seat's roots in one cut). By AI agents, Wed Nov 11 2026. No macro, syntax, notation, axiom, sorry.
-/
import Derived.Test.YtfiofjalpaeohaaChecked
import GoSem.Claim
import GoSem.ClaimJoined
import GoSem.ClaimMapViews
import Derived.JoinedTies
import Derived.KernelRfl
namespace Go.Proofs.Ytfiofjalpaeohaa
/- THE CELL 'sum', in the pinned program and in every row, IS THE sha256 OF THE DUMP (.gsa) THAT YtfiofjalpaeohaaProg.lean LOADS. Nothing in Lean hashes anything: it is a label: what it is worth is what the hold of that sum in a sandbox is worth. -/
noncomputable def Try.pinned : Pinned := { name := "ytfiofjalpaeohaa", sum := "082be3f0233efe301beecfe56fbdfc865f527905e196546a911e34fee8c31074", checked := Try.checked }
namespace Rows
def none {H : Type} : Left H := { results := [], args := [] }

/-- 'demesnelaw6.DiskPlays': WHATEVER THE INPUT: true; the input reads as it did. -/
def diskPlaysSpec : ChangeSpec := { name := "diskPlays", fn := fun _ => fun
  | [d1, d2] => { results := [.lit (.bool true)], args := [d1, d2] }
  | _ => none }
def diskPlaysRow : OpenClaim := { program := "ytfiofjalpaeohaa", sum := "082be3f0233efe301beecfe56fbdfc865f527905e196546a911e34fee8c31074", func := "demesne/demesnelaw6.DiskPlays", spec := "diskPlays", apart := false }
def DiskPlaysSaid : Prop := diskPlaysRow.holds Try.pinned (OpenSpec.ofChange diskPlaysSpec)

/-- ITS FALSE NEIGHBOUR: 'it returns false'. Refute it at one input. -/
def diskPlaysWrong : ChangeSpec := { name := "diskPlays", fn := fun _ => fun
  | [d1, d2] => { results := [.lit (.bool false)], args := [d1, d2] }
  | _ => none }
def DiskPlaysWrongFalsely : Prop := diskPlaysRow.holds Try.pinned (OpenSpec.ofChange diskPlaysWrong)

/-- 'demesnelaw15.TlbFirst': WHATEVER THE INPUT: true; the input reads as it did. -/
def tlbFirstSpec : ChangeSpec := { name := "tlbFirst", fn := fun _ => fun
  | [d1, d2, d3] => { results := [.lit (.bool true)], args := [d1, d2, d3] }
  | _ => none }
def tlbFirstRow : OpenClaim := { program := "ytfiofjalpaeohaa", sum := "082be3f0233efe301beecfe56fbdfc865f527905e196546a911e34fee8c31074", func := "demesne/demesnelaw15.TlbFirst", spec := "tlbFirst", unfollowed := true, recurses := true, apart := false }
def TlbFirstSaid : Prop := tlbFirstRow.holds Try.pinned (OpenSpec.ofChange tlbFirstSpec)

/-- ITS FALSE NEIGHBOUR: 'it returns false'. Refute it at one input. -/
def tlbFirstWrong : ChangeSpec := { name := "tlbFirst", fn := fun _ => fun
  | [d1, d2, d3] => { results := [.lit (.bool false)], args := [d1, d2, d3] }
  | _ => none }
def TlbFirstWrongFalsely : Prop := tlbFirstRow.holds Try.pinned (OpenSpec.ofChange tlbFirstWrong)

/-- 'demesnelaw15.TlbHolds': WHATEVER THE INPUT: true; the input reads as it did. -/
def tlbHoldsSpec : ChangeSpec := { name := "tlbHolds", fn := fun _ => fun
  | [d1, d2, d3] => { results := [.lit (.bool true)], args := [d1, d2, d3] }
  | _ => none }
def tlbHoldsRow : OpenClaim := { program := "ytfiofjalpaeohaa", sum := "082be3f0233efe301beecfe56fbdfc865f527905e196546a911e34fee8c31074", func := "demesne/demesnelaw15.TlbHolds", spec := "tlbHolds", unfollowed := true, recurses := true, apart := false }
def TlbHoldsSaid : Prop := tlbHoldsRow.holds Try.pinned (OpenSpec.ofChange tlbHoldsSpec)

/-- ITS FALSE NEIGHBOUR: 'it returns false'. Refute it at one input. -/
def tlbHoldsWrong : ChangeSpec := { name := "tlbHolds", fn := fun _ => fun
  | [d1, d2, d3] => { results := [.lit (.bool false)], args := [d1, d2, d3] }
  | _ => none }
def TlbHoldsWrongFalsely : Prop := tlbHoldsRow.holds Try.pinned (OpenSpec.ofChange tlbHoldsWrong)

/-- 'demesnelaw15.TlbApart': WHATEVER THE INPUT: true; the input reads as it did. -/
def tlbApartSpec : ChangeSpec := { name := "tlbApart", fn := fun _ => fun
  | [d1, d2, d3] => { results := [.lit (.bool true)], args := [d1, d2, d3] }
  | _ => none }
def tlbApartRow : OpenClaim := { program := "ytfiofjalpaeohaa", sum := "082be3f0233efe301beecfe56fbdfc865f527905e196546a911e34fee8c31074", func := "demesne/demesnelaw15.TlbApart", spec := "tlbApart", unfollowed := true, recurses := true, apart := false }
def TlbApartSaid : Prop := tlbApartRow.holds Try.pinned (OpenSpec.ofChange tlbApartSpec)

/-- ITS FALSE NEIGHBOUR: 'it returns false'. Refute it at one input. -/
def tlbApartWrong : ChangeSpec := { name := "tlbApart", fn := fun _ => fun
  | [d1, d2, d3] => { results := [.lit (.bool false)], args := [d1, d2, d3] }
  | _ => none }
def TlbApartWrongFalsely : Prop := tlbApartRow.holds Try.pinned (OpenSpec.ofChange tlbApartWrong)

/-- 'demesnelaw15.TlbPlays': WHATEVER THE INPUT: true; the input reads as it did. -/
def tlbPlaysSpec : ChangeSpec := { name := "tlbPlays", fn := fun _ => fun
  | [d1, d2, d3] => { results := [.lit (.bool true)], args := [d1, d2, d3] }
  | _ => none }
def tlbPlaysRow : OpenClaim := { program := "ytfiofjalpaeohaa", sum := "082be3f0233efe301beecfe56fbdfc865f527905e196546a911e34fee8c31074", func := "demesne/demesnelaw15.TlbPlays", spec := "tlbPlays", unfollowed := true, recurses := true, apart := false }
def TlbPlaysSaid : Prop := tlbPlaysRow.holds Try.pinned (OpenSpec.ofChange tlbPlaysSpec)

/-- ITS FALSE NEIGHBOUR: 'it returns false'. Refute it at one input. -/
def tlbPlaysWrong : ChangeSpec := { name := "tlbPlays", fn := fun _ => fun
  | [d1, d2, d3] => { results := [.lit (.bool false)], args := [d1, d2, d3] }
  | _ => none }
def TlbPlaysWrongFalsely : Prop := tlbPlaysRow.holds Try.pinned (OpenSpec.ofChange tlbPlaysWrong)

/-- 'demesnelaw5.PhysEnds': WHATEVER THE INPUT: true; the input reads as it did. -/
def physEndsSpec : ChangeSpec := { name := "physEnds", fn := fun _ => fun
  | [d1, d2, d3] => { results := [.lit (.bool true)], args := [d1, d2, d3] }
  | _ => none }
def physEndsRow : OpenClaim := { program := "ytfiofjalpaeohaa", sum := "082be3f0233efe301beecfe56fbdfc865f527905e196546a911e34fee8c31074", func := "demesne/demesnelaw5.PhysEnds", spec := "physEnds", apart := false }
def PhysEndsSaid : Prop := physEndsRow.holds Try.pinned (OpenSpec.ofChange physEndsSpec)

/-- ITS FALSE NEIGHBOUR: 'it returns false'. Refute it at one input. -/
def physEndsWrong : ChangeSpec := { name := "physEnds", fn := fun _ => fun
  | [d1, d2, d3] => { results := [.lit (.bool false)], args := [d1, d2, d3] }
  | _ => none }
def PhysEndsWrongFalsely : Prop := physEndsRow.holds Try.pinned (OpenSpec.ofChange physEndsWrong)

/-- 'demesnelaw5.PhysApart': WHATEVER THE INPUT: true; the input reads as it did. -/
def physApartSpec : ChangeSpec := { name := "physApart", fn := fun _ => fun
  | [d1, d2, d3] => { results := [.lit (.bool true)], args := [d1, d2, d3] }
  | _ => none }
def physApartRow : OpenClaim := { program := "ytfiofjalpaeohaa", sum := "082be3f0233efe301beecfe56fbdfc865f527905e196546a911e34fee8c31074", func := "demesne/demesnelaw5.PhysApart", spec := "physApart", apart := false }
def PhysApartSaid : Prop := physApartRow.holds Try.pinned (OpenSpec.ofChange physApartSpec)

/-- ITS FALSE NEIGHBOUR: 'it returns false'. Refute it at one input. -/
def physApartWrong : ChangeSpec := { name := "physApart", fn := fun _ => fun
  | [d1, d2, d3] => { results := [.lit (.bool false)], args := [d1, d2, d3] }
  | _ => none }
def PhysApartWrongFalsely : Prop := physApartRow.holds Try.pinned (OpenSpec.ofChange physApartWrong)

/-- 'demesnelaw5.PhysPlays': WHATEVER THE INPUT: true; the input reads as it did. -/
def physPlaysSpec : ChangeSpec := { name := "physPlays", fn := fun _ => fun
  | [d1, d2, d3, d4] => { results := [.lit (.bool true)], args := [d1, d2, d3, d4] }
  | _ => none }
def physPlaysRow : OpenClaim := { program := "ytfiofjalpaeohaa", sum := "082be3f0233efe301beecfe56fbdfc865f527905e196546a911e34fee8c31074", func := "demesne/demesnelaw5.PhysPlays", spec := "physPlays", apart := false }
def PhysPlaysSaid : Prop := physPlaysRow.holds Try.pinned (OpenSpec.ofChange physPlaysSpec)

/-- ITS FALSE NEIGHBOUR: 'it returns false'. Refute it at one input. -/
def physPlaysWrong : ChangeSpec := { name := "physPlays", fn := fun _ => fun
  | [d1, d2, d3, d4] => { results := [.lit (.bool false)], args := [d1, d2, d3, d4] }
  | _ => none }
def PhysPlaysWrongFalsely : Prop := physPlaysRow.holds Try.pinned (OpenSpec.ofChange physPlaysWrong)

/-- 'demesnelaw5.PhysKeeps': WHATEVER THE INPUT: true; the input reads as it did. -/
def physKeepsSpec : ChangeSpec := { name := "physKeeps", fn := fun _ => fun
  | [d1, d2, d3, d4] => { results := [.lit (.bool true)], args := [d1, d2, d3, d4] }
  | _ => none }
def physKeepsRow : OpenClaim := { program := "ytfiofjalpaeohaa", sum := "082be3f0233efe301beecfe56fbdfc865f527905e196546a911e34fee8c31074", func := "demesne/demesnelaw5.PhysKeeps", spec := "physKeeps", apart := false }
def PhysKeepsSaid : Prop := physKeepsRow.holds Try.pinned (OpenSpec.ofChange physKeepsSpec)

/-- ITS FALSE NEIGHBOUR: 'it returns false'. Refute it at one input. -/
def physKeepsWrong : ChangeSpec := { name := "physKeeps", fn := fun _ => fun
  | [d1, d2, d3, d4] => { results := [.lit (.bool false)], args := [d1, d2, d3, d4] }
  | _ => none }
def PhysKeepsWrongFalsely : Prop := physKeepsRow.holds Try.pinned (OpenSpec.ofChange physKeepsWrong)

/- THE SECOND FORM. 'bulk': how many values and letters a reading holds, each counted each time it is reached (what is shared counts as often as it is met; a slice's spare places count too). A statement '..UptoSaid' is the law's where the arguments, and the package variables that the reading takes, are together of bulk at most 1048576: NARROWER than '..Said'. Prove '..Said' where nothing that the law and all that it calls make is longer than what came in: it says more and counts as full. Else prove '..UptoSaid'. A law counts once. -/
mutual
def uptoBulk {H : Type} : DataW H → Nat
  | .lit (.string bytes) => bytes.length + 1
  | .lit _ => 1
  | .nil => 1
  | .ptr d => uptoBulk d + 1
  | .slice elems spare => uptoBulkAll elems + uptoBulkAll spare + 1
  | .agg parts => uptoBulkAll parts + 1
  | .iface _ d => uptoBulk d + 1
  | .map entries => uptoBulkEntries entries + 1
  | .held _ => 1
def uptoBulkAll {H : Type} : List (DataW H) → Nat
  | [] => 0
  | d :: r => uptoBulk d + uptoBulkAll r
def uptoBulkEntries {H : Type} : List (Lit × DataW H) → Nat
  | [] => 0
  | x :: r => uptoBulkEntry x + uptoBulkEntries r
def uptoBulkEntry {H : Type} : Lit × DataW H → Nat
  | (.string bytes, d) => bytes.length + uptoBulk d + 1
  | (_, d) => uptoBulk d + 1
 end
def uptoSmall : (H : Type) → List (DataW H) → Bool := fun _ ds => decide (uptoBulkAll ds ≤ 1048576)
def OpenSpec.upto (s : _root_.Go.ChangeSpec) : _root_.Go.OpenSpec := { _root_.Go.OpenSpec.ofChange s with cond := some uptoSmall }

/-- 'demesnelaw6.DiskPlays', WHERE WHAT IT READS IS OF BULK AT MOST 1048576: true; the input reads as it did. -/
def diskPlaysUptoRow : OpenClaim := { program := "ytfiofjalpaeohaa", sum := "082be3f0233efe301beecfe56fbdfc865f527905e196546a911e34fee8c31074", func := "demesne/demesnelaw6.DiskPlays", spec := "diskPlays", apart := false, narrowed := true }
def DiskPlaysUptoSaid : Prop := diskPlaysUptoRow.holds Try.pinned (OpenSpec.upto diskPlaysSpec)

/-- 'demesnelaw15.TlbFirst', WHERE WHAT IT READS IS OF BULK AT MOST 1048576: true; the input reads as it did. -/
def tlbFirstUptoRow : OpenClaim := { program := "ytfiofjalpaeohaa", sum := "082be3f0233efe301beecfe56fbdfc865f527905e196546a911e34fee8c31074", func := "demesne/demesnelaw15.TlbFirst", spec := "tlbFirst", unfollowed := true, recurses := true, apart := false, narrowed := true }
def TlbFirstUptoSaid : Prop := tlbFirstUptoRow.holds Try.pinned (OpenSpec.upto tlbFirstSpec)

/-- 'demesnelaw15.TlbHolds', WHERE WHAT IT READS IS OF BULK AT MOST 1048576: true; the input reads as it did. -/
def tlbHoldsUptoRow : OpenClaim := { program := "ytfiofjalpaeohaa", sum := "082be3f0233efe301beecfe56fbdfc865f527905e196546a911e34fee8c31074", func := "demesne/demesnelaw15.TlbHolds", spec := "tlbHolds", unfollowed := true, recurses := true, apart := false, narrowed := true }
def TlbHoldsUptoSaid : Prop := tlbHoldsUptoRow.holds Try.pinned (OpenSpec.upto tlbHoldsSpec)

/-- 'demesnelaw15.TlbApart', WHERE WHAT IT READS IS OF BULK AT MOST 1048576: true; the input reads as it did. -/
def tlbApartUptoRow : OpenClaim := { program := "ytfiofjalpaeohaa", sum := "082be3f0233efe301beecfe56fbdfc865f527905e196546a911e34fee8c31074", func := "demesne/demesnelaw15.TlbApart", spec := "tlbApart", unfollowed := true, recurses := true, apart := false, narrowed := true }
def TlbApartUptoSaid : Prop := tlbApartUptoRow.holds Try.pinned (OpenSpec.upto tlbApartSpec)

/-- 'demesnelaw15.TlbPlays', WHERE WHAT IT READS IS OF BULK AT MOST 1048576: true; the input reads as it did. -/
def tlbPlaysUptoRow : OpenClaim := { program := "ytfiofjalpaeohaa", sum := "082be3f0233efe301beecfe56fbdfc865f527905e196546a911e34fee8c31074", func := "demesne/demesnelaw15.TlbPlays", spec := "tlbPlays", unfollowed := true, recurses := true, apart := false, narrowed := true }
def TlbPlaysUptoSaid : Prop := tlbPlaysUptoRow.holds Try.pinned (OpenSpec.upto tlbPlaysSpec)

/-- 'demesnelaw5.PhysEnds', WHERE WHAT IT READS IS OF BULK AT MOST 1048576: true; the input reads as it did. -/
def physEndsUptoRow : OpenClaim := { program := "ytfiofjalpaeohaa", sum := "082be3f0233efe301beecfe56fbdfc865f527905e196546a911e34fee8c31074", func := "demesne/demesnelaw5.PhysEnds", spec := "physEnds", apart := false, narrowed := true }
def PhysEndsUptoSaid : Prop := physEndsUptoRow.holds Try.pinned (OpenSpec.upto physEndsSpec)

/-- 'demesnelaw5.PhysApart', WHERE WHAT IT READS IS OF BULK AT MOST 1048576: true; the input reads as it did. -/
def physApartUptoRow : OpenClaim := { program := "ytfiofjalpaeohaa", sum := "082be3f0233efe301beecfe56fbdfc865f527905e196546a911e34fee8c31074", func := "demesne/demesnelaw5.PhysApart", spec := "physApart", apart := false, narrowed := true }
def PhysApartUptoSaid : Prop := physApartUptoRow.holds Try.pinned (OpenSpec.upto physApartSpec)

/-- 'demesnelaw5.PhysPlays', WHERE WHAT IT READS IS OF BULK AT MOST 1048576: true; the input reads as it did. -/
def physPlaysUptoRow : OpenClaim := { program := "ytfiofjalpaeohaa", sum := "082be3f0233efe301beecfe56fbdfc865f527905e196546a911e34fee8c31074", func := "demesne/demesnelaw5.PhysPlays", spec := "physPlays", apart := false, narrowed := true }
def PhysPlaysUptoSaid : Prop := physPlaysUptoRow.holds Try.pinned (OpenSpec.upto physPlaysSpec)

/-- 'demesnelaw5.PhysKeeps', WHERE WHAT IT READS IS OF BULK AT MOST 1048576: true; the input reads as it did. -/
def physKeepsUptoRow : OpenClaim := { program := "ytfiofjalpaeohaa", sum := "082be3f0233efe301beecfe56fbdfc865f527905e196546a911e34fee8c31074", func := "demesne/demesnelaw5.PhysKeeps", spec := "physKeeps", apart := false, narrowed := true }
def PhysKeepsUptoSaid : Prop := physKeepsUptoRow.holds Try.pinned (OpenSpec.upto physKeepsSpec)

end Rows
end Go.Proofs.Ytfiofjalpaeohaa
