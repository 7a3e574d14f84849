/- Layer 12: the document's walk: Give. -/
import Derived.Test.YtlbehhbicmmdoaaRefWalk
namespace Go.Proofs.Ytlbehhbicmmdoaa
set_option linter.unusedVariables false
set_option linter.unusedSimpArgs false
open Go.RowKit

/-- Cells of a walk. -/
abbrev wC (st : Int) (table addr : Nat) (v : Value) (kind : Int) (over : Bool) : Array Value := #[.int .i64 st, .int .u64 (table : Nat), .int .u64 (addr : Nat), v, .int .i64 kind, .bool over]
/-- Kind and Over laid. -/
theorem isW_end {x : World} {B p : Nat} {st : Int} {table addr : Nat} {v : Value} {l : List St} {kind k : Int} {over o : Bool} (h : IsW x B p st table addr v l kind over) :
    (∀ i, x.frozen? ⟨p, i, none⟩ = false) ∧ (∀ i, (putB x p (.cells (wC st table addr v k over) 39)).frozen? ⟨p, i, none⟩ = false) ∧
    x.setCell ⟨p, 4, none⟩ (.int .i64 k) = putB x p (.cells (wC st table addr v k over) 39) ∧
    (putB x p (.cells (wC st table addr v k over) 39)).setCell ⟨p, 5, none⟩ (.bool o) = putB (putB x p (.cells (wC st table addr v k over) 39)) p (.cells (wC st table addr v k o) 39) ∧
    (∀ i, x.cell? ⟨p, i, none⟩ = (wC st table addr v kind over)[i]?) ∧ (∀ i, (putB x p (.cells (wC st table addr v k over) 39)).cell? ⟨p, i, none⟩ = (wC st table addr v k over)[i]?) ∧
    IsW (putB (putB x p (.cells (wC st table addr v k over) 39)) p (.cells (wC st table addr v k o) 39)) B p st table addr v l k o ∧ Only (fun b => b = p) x (putB (putB x p (.cells (wC st table addr v k over) 39)) p (.cells (wC st table addr v k o) 39)) := by
  have hlt := lt_of_block h.hp
  have h1 : (putB x p (.cells (wC st table addr v k over) 39)).heap[p]? = some (.cells (wC st table addr v k over) 39) := putB_same _ hlt
  have ho : Only (fun b => b = p) x (putB (putB x p (.cells (wC st table addr v k over) 39)) p (.cells (wC st table addr v k o) 39)) := ((Only.refl (fun b => b = p) x).putB _ (fun _ => rfl)).putB _ (fun _ => rfl)
  refine ⟨frozen_of h.hp, frozen_of h1, by rw [set_of h.hp]; rfl, by rw [set_of h1]; rfl, cell_of h.hp, cell_of h1, ?_, ho⟩
  exact { hp := putB_same _ (lt_of_block h1), own := own_keep h.own ho (fun b hb e => by have := (h.own.lt b hb).1; have := h.pB; omega), pB := h.pB, xB := Nat.le_trans h.xB ho.size }
set_option maxHeartbeats 4000000 in
set_option maxRecDepth 100000 in
theorem give_no {x : World} {B p : Nat} {st : Int} {table addr : Nat} {v : Value} {l : List St} {kind : Int} (h : IsW x B p st table addr v l kind false) (a : Nat) :
    Calls Try.prog 20 #[.pointer (some ⟨p, 0, none⟩), .int .u64 (a : Nat), .bool false] x (fun e y => e = .returned (.tuple #[]) ∧ IsW y B p st table addr v l (-1) true ∧ Only (fun b => b = p) x y) := by
  obtain ⟨f0, f1, s4, s5, k0, k1, hI, hO⟩ := isW_end (k := -1) (o := true) h
  have HF := Lib.hid (And.intro hI hO)
  clear h hI hO
  go_enter Try.func20, Try.ntmps20
  go_wp2
  first | (refine bodyPost_end (v := .tuple #[]) (by first | rfl | kernel_rfl) rfl ?_) | (refine bodyPost_ret (v := .tuple #[]) (by first | rfl | kernel_rfl) rfl ?_)
  exact ⟨rfl, HF.out.1, HF.out.2⟩
end Go.Proofs.Ytlbehhbicmmdoaa
