/- The statements of layer 15: told. -/
import Derived.Test.YtfiofjalpaeohaaTlbLines2
namespace Go.Proofs.Ytfiofjalpaeohaa
set_option linter.unusedVariables false
set_option linter.unusedSimpArgs false
open Go.RowKit

def la : Ln := ⟨1, 0, 5, 0, 7, false, false, false, false, false, false⟩
def lb : Ln := ⟨1, 0, 6, 0, 0, false, false, false, false, false, false⟩
def lc : Ln := ⟨2, 0, 5, 0, 0, false, false, false, false, false, false⟩
set_option maxHeartbeats 2000000 in
set_option maxRecDepth 100000 in
theorem told_bad (x : World) : Calls Try.prog 29 #[.int .i64 3, .int .i64 2] x (RetB x (.tuple #[.pointer none, .int .i64 1])) := by
  go_enter Try.func29, Try.ntmps29
  go_wp2
  go_ret2
  exact ⟨rfl, old_refl _⟩
theorem told_new (x : World) : Calls Try.prog 29 #[.int .i64 1, .int .i64 2] x (fun e y => ∃ p gs b, e = .returned (.tuple #[.pointer (some ⟨p, 0, none⟩), .int .i64 0]) ∧ IsTlb y p gs [b] 1 2 [[pl0, pl0]] ∧ Old x y ∧ x.heap.size ≤ b) := by
  refine (tlbNew_calls x 1 2 (.inl rfl) (by decide)).mono ?_
  rintro e y ⟨p, gs, bs, rfl, h, ho, _, _, hbb⟩
  have hl := h.lb
  match bs, hl with
  | [b], _ => exact ⟨p, gs, b, rfl, h, ho, hbb b (List.mem_singleton.2 rfl)⟩
theorem has_mem' {w : World} : ∀ {L : List (Nat × Array Value × TypeId)}, Has w L → ∀ z ∈ L, w.heap[z.1]? = some (.cells z.2.1 z.2.2)
  | [], _, z, hz => by cases hz
  | a :: L, h, z, hz => by
    rcases List.mem_cons.1 hz with rfl | hz
    · exact h.1
    · exact has_mem' h.2 z hz
theorem has_only' {F : Nat → Prop} {x y : World} (ho : Only F x y) : ∀ {L : List (Nat × Array Value × TypeId)}, (∀ z ∈ L, ¬ F z.1) → Has x L → Has y L
  | [], _, _ => trivial
  | a :: L, hF, h => ⟨keep_only ho (hF a (List.mem_cons_self ..)) h.1, has_only' ho (fun z hz => hF z (List.mem_cons_of_mem _ hz)) h.2⟩
section
variable {x : World} {p gs b : Nat}
theorem told_fa (h : IsTlb x p gs [b] 1 2 [[pl0, pl0]]) : Calls Try.prog 30 #[.pointer (some ⟨p, 0, none⟩), .agg #[.int .i64 1, .int .i64 0, .int .u64 5, .int .u64 0, .int .i64 7, .bool false, .bool false, .bool false, .bool false, .bool false, .bool false], .int .i64 0] x
    (fun e y => e = .returned (.tuple #[.agg #[.int .i64 0, .int .i64 0, .int .u64 0, .int .u64 0, .int .i64 0, .bool false, .bool false, .bool false, .bool false, .bool false, .bool false], .bool false]) ∧ IsTlb y p gs [b] 1 2 [[⟨true, la⟩, pl0]] ∧ Only (fun z => z = b) x y) := by
  have hJ : fillJ [pl0, pl0] la 0 2 = 0 := by decide +kernel
  have := fill_calls h la 0 (i0 := 0) (b := b) (t := [pl0, pl0]) (by decide) rfl rfl pl0 (by rw [hJ]; rfl)
  rw [hJ] at this
  exact this
theorem told_fb (h : IsTlb x p gs [b] 1 2 [[⟨true, la⟩, pl0]]) : Calls Try.prog 30 #[.pointer (some ⟨p, 0, none⟩), .agg #[.int .i64 1, .int .i64 0, .int .u64 6, .int .u64 0, .int .i64 0, .bool false, .bool false, .bool false, .bool false, .bool false, .bool false], .int .i64 0] x
    (fun e y => e = .returned (.tuple #[.agg #[.int .i64 0, .int .i64 0, .int .u64 0, .int .u64 0, .int .i64 0, .bool false, .bool false, .bool false, .bool false, .bool false, .bool false], .bool false]) ∧ IsTlb y p gs [b] 1 2 [[⟨true, la⟩, ⟨true, lb⟩]] ∧ Only (fun z => z = b) x y) := by
  have hJ : fillJ [⟨true, la⟩, pl0] lb 0 2 = 1 := by decide +kernel
  have := fill_calls h lb 0 (i0 := 0) (b := b) (t := [⟨true, la⟩, pl0]) (by decide) rfl rfl pl0 (by rw [hJ]; rfl)
  rw [hJ] at this
  exact this
theorem told_fc (h : IsTlb x p gs [b] 1 2 [[⟨true, la⟩, ⟨true, lb⟩]]) : Calls Try.prog 30 #[.pointer (some ⟨p, 0, none⟩), .agg #[.int .i64 2, .int .i64 0, .int .u64 5, .int .u64 0, .int .i64 0, .bool false, .bool false, .bool false, .bool false, .bool false, .bool false], .int .i64 5] x
    (fun e y => e = .returned (.tuple #[.agg #[.int .i64 1, .int .i64 0, .int .u64 6, .int .u64 0, .int .i64 0, .bool false, .bool false, .bool false, .bool false, .bool false, .bool false], .bool true]) ∧ IsTlb y p gs [b] 1 2 [[⟨true, la⟩, ⟨true, lc⟩]] ∧ Only (fun z => z = b) x y) := by
  have hJ : fillJ [⟨true, la⟩, ⟨true, lb⟩] lc 5 2 = 1 := by decide +kernel
  have := fill_calls h lc 5 (i0 := 0) (b := b) (t := [⟨true, la⟩, ⟨true, lb⟩]) (by decide) rfl rfl ⟨true, lb⟩ (by rw [hJ]; rfl)
  rw [hJ] at this
  exact this
theorem told_g1 (h : IsTlb x p gs [b] 1 2 [[⟨true, la⟩, ⟨true, lc⟩]]) : Calls Try.prog 34 #[.pointer (some ⟨p, 0, none⟩), .int .i64 1, .int .i64 0, .int .u64 5] x
    (RetB x (.tuple #[.agg #[.int .i64 1, .int .i64 0, .int .u64 5, .int .u64 0, .int .i64 7, .bool false, .bool false, .bool false, .bool false, .bool false, .bool false], .bool true])) :=
  find_some h (kid := 1) (kas := 0) (kvp := 5) (i0 := 0) (b := b) (t := [⟨true, la⟩, ⟨true, lc⟩]) (by decide) rfl rfl 0 ⟨true, la⟩ (by decide +kernel) rfl
theorem told_g2 (h : IsTlb x p gs [b] 1 2 [[⟨true, la⟩, ⟨true, lc⟩]]) : Calls Try.prog 34 #[.pointer (some ⟨p, 0, none⟩), .int .i64 1, .int .i64 0, .int .u64 6] x
    (RetB x (.tuple #[.agg #[.int .i64 0, .int .i64 0, .int .u64 0, .int .u64 0, .int .i64 0, .bool false, .bool false, .bool false, .bool false, .bool false, .bool false], .bool false])) :=
  find_none h (kid := 1) (kas := 0) (kvp := 6) (i0 := 0) (b := b) (t := [⟨true, la⟩, ⟨true, lc⟩]) (by decide) rfl rfl (by decide +kernel)
theorem told_l (h : IsTlb x p gs [b] 1 2 [[⟨true, la⟩, ⟨true, lc⟩]]) : Calls Try.prog 33 #[.pointer (some ⟨p, 0, none⟩)] x (fun e y => ∃ ad c, e = .returned (.slice ad 2 c) ∧ Old x y) := by
  refine (list_calls h).mono ?_
  rintro e y ⟨v, rfl, ho, hy⟩
  obtain ⟨ad, c, rfl, _⟩ := own_value ho
  exact ⟨ad, c, rfl, hy⟩
theorem told_id (h : IsTlb x p gs [b] 1 2 [[⟨true, la⟩, ⟨true, lc⟩]]) : Calls Try.prog 35 #[.pointer (some ⟨p, 0, none⟩), .int .i64 1] x
    (fun e y => e = .returned (.int .i64 1) ∧ IsTlb y p gs [b] 1 2 [[pl0, ⟨true, lc⟩]] ∧ Only (fun z => z = b) x y) := by
  refine (IDLose_calls h 1).mono ?_
  rintro e y ⟨rfl, h1, h2⟩
  exact ⟨rfl, h1, h2.mono fun i _ hi => List.mem_singleton.1 hi⟩
theorem told_all (h : IsTlb x p gs [b] 1 2 [[pl0, ⟨true, lc⟩]]) : Calls Try.prog 39 #[.pointer (some ⟨p, 0, none⟩)] x
    (fun e y => e = .returned (.int .i64 1) ∧ IsTlb y p gs [b] 1 2 [[pl0, pl0]] ∧ Only (fun z => z = b) x y) := by
  refine (AllLose_calls h).mono ?_
  rintro e y ⟨rfl, h1, h2⟩
  exact ⟨rfl, h1, h2.mono fun i _ hi => List.mem_singleton.1 hi⟩
theorem told_ev (h : IsTlb x p gs [b] 1 2 [[pl0, pl0]]) : Calls Try.prog 38 #[.pointer (some ⟨p, 0, none⟩), .int .i64 0, .int .i64 0] x
    (fun e y => e = .returned (.bool false) ∧ Only (fun z => z = b) x y) := by
  refine (evict_calls (i := 0) (b := b) (t := [pl0, pl0]) h rfl rfl 0 pl0 rfl).mono ?_
  rintro e y ⟨rfl, h1, h2⟩
  exact ⟨rfl, h2⟩
theorem told_keep {w y : World} {t : List Pl} {L : List (Nat × Array Value × TypeId)} (h : IsTlb x p gs [b] 1 2 [t]) (hH : Holds w L x) (hL : ∀ z ∈ L, z.2.2 = 64) (ho : Only (fun z => z = b) x y) (hb : w.heap.size ≤ b) : Holds w L y := by
  have hblk := (h.set_ 0 b t rfl rfl).2
  refine ⟨Only.below (((Only.of_below hH.1).mono (G := fun k => w.heap.size ≤ k) (fun _ _ f => f.elim)).trans (ho.mono fun i _ e => by rw [e]; exact hb)) (Nat.le_refl _), has_only' ho (fun z hz e => ?_) hH.2⟩
  have hz2 : x.heap[z.1]? = some (.cells z.2.1 z.2.2) := has_mem' hH.2 z hz
  rw [e, hblk, hL z hz] at hz2
  simp only [Option.some.injEq, Obj.cells.injEq] at hz2
  exact absurd hz2.2.1 (by decide)
end
end Go.Proofs.Ytfiofjalpaeohaa
