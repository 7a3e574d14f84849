/- Contracts of the document's disk: New. -/
import Derived.Test.YtfiofjalpaeohaaRef6e
namespace Go.Proofs.Ytfiofjalpaeohaa
set_option linter.unusedVariables false
set_option linter.unusedSimpArgs false
open Go.RowKit

def MadeB (w0 : World) (n : Nat) (v : Value) (x : World) : Prop := ∃ p, v = .slice (some ⟨p, 0, none⟩) n n ∧ w0.heap.size ≤ p ∧ x.heap[p]? = some (.cells (boolsC (List.replicate n false)) 4)
def MadeG (w0 : World) (n : Nat) (v : Value) (x : World) : Prop := ∃ p, v = .slice (some ⟨p, 0, none⟩) n n ∧ w0.heap.size ≤ p ∧ x.heap[p]? = some (.cells (List.replicate n (.slice none 0 0)).toArray 31)
def MadeQ (w0 : World) (a b v : Value) (x : World) : Prop := ∃ p, v = .pointer (some ⟨p, 0, none⟩) ∧ w0.heap.size ≤ p ∧ x.heap[p]? = some (.cells #[a, b, .slice none 0 0] 52)
theorem madeB_old {w0 x y : World} {n : Nat} {v : Value} (h : MadeB w0 n v x) (ho : Old x y) : MadeB w0 n v y := by
  obtain ⟨p, a, b, c⟩ := h; exact ⟨p, a, b, keep_old ho c⟩
theorem madeG_old {w0 x y : World} {n : Nat} {v : Value} (h : MadeG w0 n v x) (ho : Old x y) : MadeG w0 n v y := by
  obtain ⟨p, a, b, c⟩ := h; exact ⟨p, a, b, keep_old ho c⟩
theorem madeQ_old {w0 x y : World} {a b v : Value} (h : MadeQ w0 a b v x) (ho : Old x y) : MadeQ w0 a b v y := by
  obtain ⟨p, a, b, c⟩ := h; exact ⟨p, a, b, keep_old ho c⟩
theorem slice_info : (Try.prog.info? 31).map (fun i => (i.zero, i.size, i.bytes)) = some (some (.slice none 0 0), 1, 24) := by kernel_rfl
theorem madeC_slices (n : Nat) : madeCells #[.slice none 0 0] n = (List.replicate n (Value.slice none 0 0)).toArray := by
  apply Array.ext
  · rw [size_madeCells]; simp
  · intro i h1 h2
    simp [madeCells, Nat.mod_one]
theorem makeSlices (n : Nat) (h : n ≤ 4096) (w : World) : (Instr.makeSlice 50 (.int .i64 (n : Int)) (.int .i64 (n : Int))).run Try.prog w = .ok (.slice (some ⟨w.heap.size, 0, none⟩) n n) (w.alloc (.cells (List.replicate n (Value.slice none 0 0)).toArray 31)) := by
  rw [← madeC_slices]
  exact run_make_row' 50 31 (.slice none 0 0) 24 Try.underlying50 slice_info rfl .i64 .i64 n (by omega) (by omega) w

def NewVals (w0 : World) (n : Nat) (l : Array Bool) (v10 v11 v12 v13 v14 v15 v2 v3 : Value) (x : World) : Prop :=
  Old w0 x ∧ (l.getD 0 false = true → v10 = .int .i64 (n : Nat)) ∧ (l.getD 1 false = true → MadeB w0 n v11 x) ∧ (l.getD 2 false = true → v12 = .int .i64 (n : Nat)) ∧ (l.getD 3 false = true → MadeG w0 n v13 x) ∧ (l.getD 4 false = true → v14 = .agg #[v11, v13, .slice none 0 0]) ∧ (l.getD 5 false = true → MadeQ w0 v11 v13 v15 x) ∧ (l.getD 6 false = true → v2 = v15) ∧ (l.getD 7 false = true → v3 = .int .i64 0) ∧ (l.getD 4 false = true → l.getD 1 false = true ∧ l.getD 3 false = true) ∧ (l.getD 5 false = true → l.getD 4 false = true) ∧ (l.getD 6 false = true → l.getD 5 false = true)
theorem newVals_0 {w0 : World} {n : Nat} {l : Array Bool} {v10 v11 v12 v13 v14 v15 v2 v3 : Value} {x y : World} (hz : l.size = 8) (hn : l.getD 0 false = false) (ho : Old x y) (h : NewVals w0 n l v10 v11 v12 v13 v14 v15 v2 v3 x) : NewVals w0 n (l.setIfInBounds 0 true) (.int .i64 (n : Nat)) v11 v12 v13 v14 v15 v2 v3 y := by
  obtain ⟨C, C0, C1, C2, C3, C4, C5, C6, C7, D4, D5, D6⟩ := h
  exact ⟨old_then C ho,
    fun _ => rfl,
    fun e => madeB_old (C1 (by rwa [getD_set_ne false (by decide)] at e)) ho,
    fun e => C2 (by rwa [getD_set_ne false (by decide)] at e),
    fun e => madeG_old (C3 (by rwa [getD_set_ne false (by decide)] at e)) ho,
    fun e => C4 (by rwa [getD_set_ne false (by decide)] at e),
    fun e => madeQ_old (C5 (by rwa [getD_set_ne false (by decide)] at e)) ho,
    fun e => C6 (by rwa [getD_set_ne false (by decide)] at e),
    fun e => C7 (by rwa [getD_set_ne false (by decide)] at e),
    fun e => ⟨by rw [getD_set_ne false (by decide)]; exact (D4 (by rwa [getD_set_ne false (by decide)] at e)).1, by rw [getD_set_ne false (by decide)]; exact (D4 (by rwa [getD_set_ne false (by decide)] at e)).2⟩,
    fun e => (by rw [getD_set_ne false (by decide)]; exact D5 (by rwa [getD_set_ne false (by decide)] at e)),
    fun e => (by rw [getD_set_ne false (by decide)]; exact D6 (by rwa [getD_set_ne false (by decide)] at e))⟩
theorem newVals_1 {w0 : World} {n : Nat} {l : Array Bool} {v10 v11 v12 v13 v14 v15 v2 v3 u : Value} {x y : World} (hz : l.size = 8) (hn : l.getD 1 false = false) (ho : Old x y) (hu : MadeB w0 n u y) (h : NewVals w0 n l v10 v11 v12 v13 v14 v15 v2 v3 x) : NewVals w0 n (l.setIfInBounds 1 true) v10 u v12 v13 v14 v15 v2 v3 y := by
  obtain ⟨C, C0, C1, C2, C3, C4, C5, C6, C7, D4, D5, D6⟩ := h
  exact ⟨old_then C ho,
    fun e => C0 (by rwa [getD_set_ne false (by decide)] at e),
    fun _ => hu,
    fun e => C2 (by rwa [getD_set_ne false (by decide)] at e),
    fun e => madeG_old (C3 (by rwa [getD_set_ne false (by decide)] at e)) ho,
    fun e => (by have e := e; rw [getD_set_ne false (by decide)] at e; have := (D4 e).1; rw [hn] at this; cases this),
    fun e => (by have e := e; rw [getD_set_ne false (by decide)] at e; have := (D4 (D5 e)).1; rw [hn] at this; cases this),
    fun e => C6 (by rwa [getD_set_ne false (by decide)] at e),
    fun e => C7 (by rwa [getD_set_ne false (by decide)] at e),
    fun e => ⟨by simp [hz], by rw [getD_set_ne false (by decide)]; exact (D4 (by rwa [getD_set_ne false (by decide)] at e)).2⟩,
    fun e => (by rw [getD_set_ne false (by decide)]; exact D5 (by rwa [getD_set_ne false (by decide)] at e)),
    fun e => (by rw [getD_set_ne false (by decide)]; exact D6 (by rwa [getD_set_ne false (by decide)] at e))⟩
theorem newVals_2 {w0 : World} {n : Nat} {l : Array Bool} {v10 v11 v12 v13 v14 v15 v2 v3 : Value} {x y : World} (hz : l.size = 8) (hn : l.getD 2 false = false) (ho : Old x y) (h : NewVals w0 n l v10 v11 v12 v13 v14 v15 v2 v3 x) : NewVals w0 n (l.setIfInBounds 2 true) v10 v11 (.int .i64 (n : Nat)) v13 v14 v15 v2 v3 y := by
  obtain ⟨C, C0, C1, C2, C3, C4, C5, C6, C7, D4, D5, D6⟩ := h
  exact ⟨old_then C ho,
    fun e => C0 (by rwa [getD_set_ne false (by decide)] at e),
    fun e => madeB_old (C1 (by rwa [getD_set_ne false (by decide)] at e)) ho,
    fun _ => rfl,
    fun e => madeG_old (C3 (by rwa [getD_set_ne false (by decide)] at e)) ho,
    fun e => C4 (by rwa [getD_set_ne false (by decide)] at e),
    fun e => madeQ_old (C5 (by rwa [getD_set_ne false (by decide)] at e)) ho,
    fun e => C6 (by rwa [getD_set_ne false (by decide)] at e),
    fun e => C7 (by rwa [getD_set_ne false (by decide)] at e),
    fun e => ⟨by rw [getD_set_ne false (by decide)]; exact (D4 (by rwa [getD_set_ne false (by decide)] at e)).1, by rw [getD_set_ne false (by decide)]; exact (D4 (by rwa [getD_set_ne false (by decide)] at e)).2⟩,
    fun e => (by rw [getD_set_ne false (by decide)]; exact D5 (by rwa [getD_set_ne false (by decide)] at e)),
    fun e => (by rw [getD_set_ne false (by decide)]; exact D6 (by rwa [getD_set_ne false (by decide)] at e))⟩
theorem newVals_3 {w0 : World} {n : Nat} {l : Array Bool} {v10 v11 v12 v13 v14 v15 v2 v3 u : Value} {x y : World} (hz : l.size = 8) (hn : l.getD 3 false = false) (ho : Old x y) (hu : MadeG w0 n u y) (h : NewVals w0 n l v10 v11 v12 v13 v14 v15 v2 v3 x) : NewVals w0 n (l.setIfInBounds 3 true) v10 v11 v12 u v14 v15 v2 v3 y := by
  obtain ⟨C, C0, C1, C2, C3, C4, C5, C6, C7, D4, D5, D6⟩ := h
  exact ⟨old_then C ho,
    fun e => C0 (by rwa [getD_set_ne false (by decide)] at e),
    fun e => madeB_old (C1 (by rwa [getD_set_ne false (by decide)] at e)) ho,
    fun e => C2 (by rwa [getD_set_ne false (by decide)] at e),
    fun _ => hu,
    fun e => (by have e := e; rw [getD_set_ne false (by decide)] at e; have := (D4 e).2; rw [hn] at this; cases this),
    fun e => (by have e := e; rw [getD_set_ne false (by decide)] at e; have := (D4 (D5 e)).2; rw [hn] at this; cases this),
    fun e => C6 (by rwa [getD_set_ne false (by decide)] at e),
    fun e => C7 (by rwa [getD_set_ne false (by decide)] at e),
    fun e => ⟨by rw [getD_set_ne false (by decide)]; exact (D4 (by rwa [getD_set_ne false (by decide)] at e)).1, by simp [hz]⟩,
    fun e => (by rw [getD_set_ne false (by decide)]; exact D5 (by rwa [getD_set_ne false (by decide)] at e)),
    fun e => (by rw [getD_set_ne false (by decide)]; exact D6 (by rwa [getD_set_ne false (by decide)] at e))⟩
theorem newVals_4 {w0 : World} {n : Nat} {l : Array Bool} {v10 v11 v12 v13 v14 v15 v2 v3 : Value} {x y : World} (hz : l.size = 8) (hn : l.getD 4 false = false) (ho : Old x y) (p1 : l.getD 1 false = true) (p3 : l.getD 3 false = true) (h : NewVals w0 n l v10 v11 v12 v13 v14 v15 v2 v3 x) : NewVals w0 n (l.setIfInBounds 4 true) v10 v11 v12 v13 (.agg #[v11, v13, .slice none 0 0]) v15 v2 v3 y := by
  obtain ⟨C, C0, C1, C2, C3, C4, C5, C6, C7, D4, D5, D6⟩ := h
  exact ⟨old_then C ho,
    fun e => C0 (by rwa [getD_set_ne false (by decide)] at e),
    fun e => madeB_old (C1 (by rwa [getD_set_ne false (by decide)] at e)) ho,
    fun e => C2 (by rwa [getD_set_ne false (by decide)] at e),
    fun e => madeG_old (C3 (by rwa [getD_set_ne false (by decide)] at e)) ho,
    fun _ => rfl,
    fun e => madeQ_old (C5 (by rwa [getD_set_ne false (by decide)] at e)) ho,
    fun e => C6 (by rwa [getD_set_ne false (by decide)] at e),
    fun e => C7 (by rwa [getD_set_ne false (by decide)] at e),
    fun _ => ⟨by rw [getD_set_ne false (by decide)]; exact p1, by rw [getD_set_ne false (by decide)]; exact p3⟩,
    fun _ => (by simp [hz]),
    fun e => (by rw [getD_set_ne false (by decide)]; exact D6 (by rwa [getD_set_ne false (by decide)] at e))⟩
theorem newVals_5 {w0 : World} {n : Nat} {l : Array Bool} {v10 v11 v12 v13 v14 v15 v2 v3 u : Value} {x y : World} (hz : l.size = 8) (hn : l.getD 5 false = false) (ho : Old x y) (hu : MadeQ w0 v11 v13 u y) (p4 : l.getD 4 false = true) (h : NewVals w0 n l v10 v11 v12 v13 v14 v15 v2 v3 x) : NewVals w0 n (l.setIfInBounds 5 true) v10 v11 v12 v13 v14 u v2 v3 y := by
  obtain ⟨C, C0, C1, C2, C3, C4, C5, C6, C7, D4, D5, D6⟩ := h
  exact ⟨old_then C ho,
    fun e => C0 (by rwa [getD_set_ne false (by decide)] at e),
    fun e => madeB_old (C1 (by rwa [getD_set_ne false (by decide)] at e)) ho,
    fun e => C2 (by rwa [getD_set_ne false (by decide)] at e),
    fun e => madeG_old (C3 (by rwa [getD_set_ne false (by decide)] at e)) ho,
    fun e => C4 (by rwa [getD_set_ne false (by decide)] at e),
    fun _ => hu,
    fun e => (by have e := e; rw [getD_set_ne false (by decide)] at e; have := D6 e; rw [hn] at this; cases this),
    fun e => C7 (by rwa [getD_set_ne false (by decide)] at e),
    fun e => ⟨by rw [getD_set_ne false (by decide)]; exact (D4 (by rwa [getD_set_ne false (by decide)] at e)).1, by rw [getD_set_ne false (by decide)]; exact (D4 (by rwa [getD_set_ne false (by decide)] at e)).2⟩,
    fun _ => (by rw [getD_set_ne false (by decide)]; exact p4),
    fun _ => (by simp [hz])⟩
theorem newVals_6 {w0 : World} {n : Nat} {l : Array Bool} {v10 v11 v12 v13 v14 v15 v2 v3 : Value} {x y : World} (hz : l.size = 8) (hn : l.getD 6 false = false) (ho : Old x y) (p5 : l.getD 5 false = true) (h : NewVals w0 n l v10 v11 v12 v13 v14 v15 v2 v3 x) : NewVals w0 n (l.setIfInBounds 6 true) v10 v11 v12 v13 v14 v15 v15 v3 y := by
  obtain ⟨C, C0, C1, C2, C3, C4, C5, C6, C7, D4, D5, D6⟩ := h
  exact ⟨old_then C ho,
    fun e => C0 (by rwa [getD_set_ne false (by decide)] at e),
    fun e => madeB_old (C1 (by rwa [getD_set_ne false (by decide)] at e)) ho,
    fun e => C2 (by rwa [getD_set_ne false (by decide)] at e),
    fun e => madeG_old (C3 (by rwa [getD_set_ne false (by decide)] at e)) ho,
    fun e => C4 (by rwa [getD_set_ne false (by decide)] at e),
    fun e => madeQ_old (C5 (by rwa [getD_set_ne false (by decide)] at e)) ho,
    fun _ => rfl,
    fun e => C7 (by rwa [getD_set_ne false (by decide)] at e),
    fun e => ⟨by rw [getD_set_ne false (by decide)]; exact (D4 (by rwa [getD_set_ne false (by decide)] at e)).1, by rw [getD_set_ne false (by decide)]; exact (D4 (by rwa [getD_set_ne false (by decide)] at e)).2⟩,
    fun e => (by rw [getD_set_ne false (by decide)]; exact D5 (by rwa [getD_set_ne false (by decide)] at e)),
    fun _ => (by rw [getD_set_ne false (by decide)]; exact p5)⟩
theorem newVals_7 {w0 : World} {n : Nat} {l : Array Bool} {v10 v11 v12 v13 v14 v15 v2 v3 : Value} {x y : World} (hz : l.size = 8) (hn : l.getD 7 false = false) (ho : Old x y) (h : NewVals w0 n l v10 v11 v12 v13 v14 v15 v2 v3 x) : NewVals w0 n (l.setIfInBounds 7 true) v10 v11 v12 v13 v14 v15 v2 (.int .i64 0) y := by
  obtain ⟨C, C0, C1, C2, C3, C4, C5, C6, C7, D4, D5, D6⟩ := h
  exact ⟨old_then C ho,
    fun e => C0 (by rwa [getD_set_ne false (by decide)] at e),
    fun e => madeB_old (C1 (by rwa [getD_set_ne false (by decide)] at e)) ho,
    fun e => C2 (by rwa [getD_set_ne false (by decide)] at e),
    fun e => madeG_old (C3 (by rwa [getD_set_ne false (by decide)] at e)) ho,
    fun e => C4 (by rwa [getD_set_ne false (by decide)] at e),
    fun e => madeQ_old (C5 (by rwa [getD_set_ne false (by decide)] at e)) ho,
    fun e => C6 (by rwa [getD_set_ne false (by decide)] at e),
    fun _ => rfl,
    fun e => ⟨by rw [getD_set_ne false (by decide)]; exact (D4 (by rwa [getD_set_ne false (by decide)] at e)).1, by rw [getD_set_ne false (by decide)]; exact (D4 (by rwa [getD_set_ne false (by decide)] at e)).2⟩,
    fun e => (by rw [getD_set_ne false (by decide)]; exact D5 (by rwa [getD_set_ne false (by decide)] at e)),
    fun e => (by rw [getD_set_ne false (by decide)]; exact D6 (by rwa [getD_set_ne false (by decide)] at e))⟩
/-- The frame and the world. -/
def NewS (w0 : World) (n : Nat) (l : Array Bool) (b : Act) (x : World) : Prop := ∃ v10 v11 v12 v13 v14 v15 v2 v3 : Value, b = { tmps := #[.int .i64 (n : Nat), undef, v2, v3, .int .i64 (n : Nat), .bool (decide ((n : Int) < 0)), .bool (decide ((n : Int) < 0)), .int .i64 (n : Nat), .bool (decide (4096 < (n : Int))), .bool (decide ((n : Int) < 0) || decide (4096 < (n : Int))), v10, v11, v12, v13, v14, v15], defers := [] } ∧ NewVals w0 n l v10 v11 v12 v13 v14 v15 v2 v3 x

theorem refNew_none (n : Int) (w : World) (h : ¬ (0 ≤ n ∧ n ≤ 4096)) : Calls Try.prog 13 #[.int .i64 n] w (RetB w (.tuple #[.pointer none, .int .i64 1])) := by
  by_cases h1 : n < 0
  · clear h
    go_enter Try.func13, Try.ntmps13
    go_wp2
    go_ret2
    exact ⟨rfl, old_refl _⟩
  · have h2 : 4096 < n := by omega
    clear h
    go_enter Try.func13, Try.ntmps13
    go_wp2
    go_ret2
    exact ⟨rfl, old_refl _⟩

set_option maxHeartbeats 4000000 in
set_option maxRecDepth 100000 in
theorem refNew_calls (n : Nat) (w : World) (hn4 : n ≤ 4096) : Calls Try.prog 13 #[.int .i64 n] w fun e w' =>
    ∃ q, e = .returned (.tuple #[.pointer (some ⟨q, 0, none⟩), .int .i64 0]) ∧ Old w w' ∧ IsRef w' (fun b => w.heap.size ≤ b) q n (fun _ => none) [] := by
  have hmb := fun w => makeBools n hn4 w
  have hmg := fun w => makeSlices n hn4 w
  go_enter Try.func13, Try.ntmps13
  go_upto_region 3 with (fail)
  refine wp_region_inv (NewS w n) (by kernel_rfl) (by kernel_rfl) ?_ ?_ ?_
  · exact ⟨_, _, _, _, _, _, _, _, rfl, by unfold NewVals; refine ⟨old_drew (old_refl _), ?_⟩; simp⟩
  · intro i o ho l b x hl hn hmet hS
    have hi8 : i < 8 := by
      have := (Array.getElem?_eq_some_iff.1 ho).1
      exact this
    obtain rfl | rfl | rfl | rfl | rfl | rfl | rfl | rfl : i = 0 ∨ i = 1 ∨ i = 2 ∨ i = 3 ∨ i = 4 ∨ i = 5 ∨ i = 6 ∨ i = 7 := by omega
    · obtain rfl := Option.some.inj ho
      obtain ⟨v10, v11, v12, v13, v14, v15, v2, v3, rfl, hV⟩ := hS
      go_wp2
      exact ⟨_, _, _, _, _, _, _, _, rfl, newVals_0 hl hn (old_refl _) hV⟩
    · obtain rfl := Option.some.inj ho
      obtain ⟨v10, v11, v12, v13, v14, v15, v2, v3, rfl, hV⟩ := hS
      have p0 : l.getD 0 false = true := hmet _ rfl ⟨0, .data⟩ (by simp) rfl
      obtain rfl := hV.2.1 p0
      go_wp2
      exact ⟨_, _, _, _, _, _, _, _, rfl, newVals_1 hl hn (old_alloc (old_refl _) _) ⟨_, rfl, hV.1.size, new_block _ _⟩ hV⟩
    · obtain rfl := Option.some.inj ho
      obtain ⟨v10, v11, v12, v13, v14, v15, v2, v3, rfl, hV⟩ := hS
      go_wp2
      exact ⟨_, _, _, _, _, _, _, _, rfl, newVals_2 hl hn (old_refl _) hV⟩
    · obtain rfl := Option.some.inj ho
      obtain ⟨v10, v11, v12, v13, v14, v15, v2, v3, rfl, hV⟩ := hS
      have p2 : l.getD 2 false = true := hmet _ rfl ⟨2, .data⟩ (by simp) rfl
      obtain rfl := hV.2.2.2.1 p2
      go_wp2
      exact ⟨_, _, _, _, _, _, _, _, rfl, newVals_3 hl hn (old_alloc (old_refl _) _) ⟨_, rfl, hV.1.size, new_block _ _⟩ hV⟩
    · obtain rfl := Option.some.inj ho
      obtain ⟨v10, v11, v12, v13, v14, v15, v2, v3, rfl, hV⟩ := hS
      have p1 : l.getD 1 false = true := hmet _ rfl ⟨1, .data⟩ (by simp) rfl
      have p3 : l.getD 3 false = true := hmet _ rfl ⟨3, .data⟩ (by simp) rfl
      obtain ⟨a1, rfl, a2, a3⟩ := hV.2.2.1 p1
      obtain ⟨b1, rfl, b2, b3⟩ := hV.2.2.2.2.1 p3
      clear a3 b3
      go_wp2
      exact ⟨_, _, _, _, _, _, _, _, rfl, newVals_4 hl hn (old_refl _) p1 p3 hV⟩
    · obtain rfl := Option.some.inj ho
      obtain ⟨v10, v11, v12, v13, v14, v15, v2, v3, rfl, hV⟩ := hS
      have p4 : l.getD 4 false = true := hmet _ rfl ⟨4, .data⟩ (by simp) rfl
      obtain ⟨p1, p3⟩ := hV.2.2.2.2.2.2.2.2.2.1 p4
      obtain rfl := hV.2.2.2.2.2.1 p4
      obtain ⟨a1, rfl, a2, a3⟩ := hV.2.2.1 p1
      obtain ⟨b1, rfl, b2, b3⟩ := hV.2.2.2.2.1 p3
      clear a3 b3
      go_wp2
      exact ⟨_, _, _, _, _, _, _, _, rfl, newVals_5 hl hn (old_alloc (old_refl _) _) ⟨_, rfl, hV.1.size, new_block _ _⟩ p4 hV⟩
    · obtain rfl := Option.some.inj ho
      obtain ⟨v10, v11, v12, v13, v14, v15, v2, v3, rfl, hV⟩ := hS
      have p5 : l.getD 5 false = true := hmet _ rfl ⟨5, .data⟩ (by simp) rfl
      obtain ⟨q1, rfl, q2, q3⟩ := hV.2.2.2.2.2.2.1 p5
      clear q3
      go_wp2
      exact ⟨_, _, _, _, _, _, _, _, rfl, newVals_6 hl hn (old_refl _) p5 hV⟩
    · obtain rfl := Option.some.inj ho
      obtain ⟨v10, v11, v12, v13, v14, v15, v2, v3, rfl, hV⟩ := hS
      go_wp2
      exact ⟨_, _, _, _, _, _, _, _, rfl, newVals_7 hl hn (old_refl _) hV⟩
  · intro l b x hl hall hS
    obtain ⟨v10, v11, v12, v13, v14, v15, v2, v3, rfl, hV⟩ := hS
    obtain ⟨hO, _, C1, _, C3, _, C5, C6, C7, _⟩ := hV
    obtain ⟨a, rfl, a2, a3⟩ := C1 (hall 1 (by decide))
    obtain ⟨g, rfl, g2, g3⟩ := C3 (hall 3 (by decide))
    obtain ⟨q, rfl, q2, q3⟩ := C5 (hall 5 (by decide))
    obtain rfl := C6 (hall 6 (by decide))
    obtain rfl := C7 (hall 7 (by decide))
    have n1 : q ≠ a := by
      intro e; subst e; rw [q3] at a3
      have := Option.some.inj a3
      injection this with h1 h2 h3
      exact absurd h2 (by decide)
    have n2 : q ≠ g := by
      intro e; subst e; rw [q3] at g3
      have := Option.some.inj g3
      injection this with h1 h2 h3
      exact absurd h2 (by decide)
    have n3 : a ≠ g := by
      intro e; subst e; rw [a3] at g3
      have := Option.some.inj g3
      injection this with h1 h2 h3
      exact absurd h2 (by decide)
    have HR := Lib.hid (IsRef.intro (w := x) (O := fun b => w.heap.size ≤ b) (pg := fun _ => none) (F := []) (slots := n) (on := List.replicate n false) (vs := List.replicate n (.slice none 0 0)) (fv := .slice none 0 0) (q := q) (ob := a) (gb := g)
      { hq := q3, oq := q2, ho := a3, oo := a2, hg := g3, og := g2, n1 := n1, n2 := n2, n3 := n3, hs := hn4, lo := List.length_replicate, lv := List.length_replicate,
        hon := fun k hk => by rw [List.getElem?_replicate, if_pos hk]; rfl, hin := (fun k hk => by cases hk), hpg := (fun k l hk => by cases hk), hF := ⟨none, 0, rfl, Nat.le_refl _, Nat.zero_le _, fun k x hx => by simp at hx⟩ })
    clear a3 g3 q3 C1 C3 C5 C6 C7 hall
    go_wp2
    go_ret2
    exact ⟨q, rfl, hO, HR.out⟩

end Go.Proofs.Ytfiofjalpaeohaa
