/- Contracts of the package demesneref16: a list of owners, by ID. -/
import Derived.Test.YtbnbchclbblbkaaVmidOnce
namespace Go.Proofs.Ytbnbchclbblbkaa
set_option linter.unusedVariables false
set_option linter.unusedSimpArgs false
open Go.RowKit

/-- The cells of the document's IDs: its list in block a. -/
def refCells (a n : Nat) (given t : Int) : Array Value := #[.slice (some ⟨a, 0, none⟩) n n, .int .i64 given, .int .i64 t]

/-- Block r holds them, block a the owners. -/
def IsRef (w : World) (r a : Nat) (n : Nat) (given t : Int) (own : List Int) : Prop :=
  w.heap[r]? = some (.cells (refCells a n given t) 57) ∧ w.heap[a]? = some (.cells (intsCells own) 3) ∧ own.length = n ∧ a ≠ r ∧ n ≤ 255

theorem ref_old {w x : World} {r a n : Nat} {given t : Int} {own : List Int} (h : Old w x) (hI : IsRef w r a n given t own) : IsRef x r a n given t own := ⟨keep_old h hI.1, keep_old h hI.2.1, hI.2.2⟩

/-- Guest g has ID i + 1. -/
def OwnsAt (own : List Int) (g : Int) (i : Nat) : Prop := own[i]? = some g ∧ ∀ j : Nat, j < i → own[j]? ≠ some g

set_option maxHeartbeats 4000000 in
set_option maxRecDepth 100000 in
theorem refHas_yes (r a n : Nat) (given t : Int) (own : List Int) (g : Int) (i : Nat) (w : World) (hI : IsRef w r a n given t own) (hg : 0 < g) (hi : OwnsAt own g i) :
    Calls Try.prog 30 #[.pointer (some ⟨r, 0, none⟩), .int .i64 g] w (RetB w (.tuple #[.int .i64 (i + 1), .bool true])) := by
  have hin : i < n := by
    rw [← hI.2.2.1]
    exact (List.getElem?_eq_some_iff.1 hi.1).1
  have hn := hI.2.2.2.2
  go_enter Try.func30, Try.ntmps30
  go_wp2
  go_loopw [6] (fun v wr => ∃ j : Nat, v = .int .i64 j ∧ j ≤ i ∧ IsRef wr r a n given t own ∧ Old w wr) (fun v _ => (256 - intOf v).toNat)
  case atStart => exact ⟨0, rfl, by omega, hI, by first | exact old_refl _ | exact old_drew (old_refl _)⟩
  case round =>
    clear hI
    obtain ⟨j, rfl, hj, hI, hO⟩ := hrel
    have c0 : wr.cell? ⟨r, 0, none⟩ = some (.slice (some ⟨a, 0, none⟩) n n) := by rw [cell_of hI.1]; rfl
    by_cases hji : j = i
    · subst hji
      have cg : wr.cell? ⟨a, j, none⟩ = some (.int .i64 g) := by rw [cell_of hI.2.1, ints_get, hi.1]; rfl
      have HI := Lib.hid hi
      clear hI hi
      go_wp2
      go_ret2
      exact ⟨rfl, hO⟩
    · obtain ⟨x, hx⟩ : ∃ x, own[j]? = some x := ⟨_, List.getElem?_eq_getElem (by rw [hI.2.2.1]; omega)⟩
      have hxg : (x == g) = false := by
        rw [beq_eq_false_iff_ne]
        intro e
        exact hi.2 j (by omega) (by rw [hx, e])
      have cg : wr.cell? ⟨a, j, none⟩ = some (.int .i64 x) := by rw [cell_of hI.2.1, ints_get, hx]; rfl
      have HI := Lib.hid hi
      have HR := Lib.hid hI
      clear hI hi hx
      go_wp2
      go_roundw
      case rel => exact ⟨j + 1, by go_num, by omega, HR.out, hO⟩
      case measure => simp [intOf]; omega

set_option maxHeartbeats 4000000 in
set_option maxRecDepth 100000 in
theorem refHas_no (r a n : Nat) (given t : Int) (own : List Int) (g : Int) (w : World) (hI : IsRef w r a n given t own) (hg : 0 < g) (hi : ∀ j : Nat, own[j]? ≠ some g) :
    Calls Try.prog 30 #[.pointer (some ⟨r, 0, none⟩), .int .i64 g] w (RetB w (.tuple #[.int .i64 0, .bool false])) := by
  have hn := hI.2.2.2.2
  go_enter Try.func30, Try.ntmps30
  go_wp2
  go_loopw [6] (fun v wr => ∃ j : Nat, v = .int .i64 j ∧ j ≤ n ∧ IsRef wr r a n given t own ∧ Old w wr) (fun v _ => (256 - intOf v).toNat)
  case atStart => exact ⟨0, rfl, by omega, hI, by first | exact old_refl _ | exact old_drew (old_refl _)⟩
  case round =>
    clear hI
    obtain ⟨j, rfl, hj, hI, hO⟩ := hrel
    have c0 : wr.cell? ⟨r, 0, none⟩ = some (.slice (some ⟨a, 0, none⟩) n n) := by rw [cell_of hI.1]; rfl
    by_cases hjn : j < n
    · obtain ⟨x, hx⟩ : ∃ x, own[j]? = some x := ⟨_, List.getElem?_eq_getElem (by rw [hI.2.2.1]; omega)⟩
      have hxg : (x == g) = false := by
        rw [beq_eq_false_iff_ne]
        intro e
        exact hi j (by rw [hx, e])
      have cg : wr.cell? ⟨a, j, none⟩ = some (.int .i64 x) := by rw [cell_of hI.2.1, ints_get, hx]; rfl
      have HI := Lib.hid hi
      have HR := Lib.hid hI
      clear hI hi hx
      go_wp2
      go_roundw
      case rel => exact ⟨j + 1, by go_num, by omega, HR.out, hO⟩
      case measure => simp [intOf]; omega
    · have HI := Lib.hid hi
      clear hI hi
      go_wp2
      go_ret2
      exact ⟨rfl, hO⟩
set_option maxHeartbeats 4000000 in
set_option maxRecDepth 100000 in
theorem refHas_nonpos (r a n : Nat) (given t : Int) (own : List Int) (g : Int) (w : World) (hI : IsRef w r a n given t own) (hg : ¬ 0 < g) :
    Calls Try.prog 30 #[.pointer (some ⟨r, 0, none⟩), .int .i64 g] w (RetB w (.tuple #[.int .i64 0, .bool false])) := by
  have hn := hI.2.2.2.2
  go_enter Try.func30, Try.ntmps30
  go_wp2
  go_loopw [6] (fun v wr => ∃ j : Nat, v = .int .i64 j ∧ j ≤ n ∧ IsRef wr r a n given t own ∧ Old w wr) (fun v _ => (256 - intOf v).toNat)
  case atStart => exact ⟨0, rfl, by omega, hI, by first | exact old_refl _ | exact old_drew (old_refl _)⟩
  case round =>
    clear hI
    obtain ⟨j, rfl, hj, hI, hO⟩ := hrel
    have c0 : wr.cell? ⟨r, 0, none⟩ = some (.slice (some ⟨a, 0, none⟩) n n) := by rw [cell_of hI.1]; rfl
    by_cases hjn : j < n
    · obtain ⟨x, hx⟩ : ∃ x, own[j]? = some x := ⟨_, List.getElem?_eq_getElem (by rw [hI.2.2.1]; omega)⟩
      have cg : wr.cell? ⟨a, j, none⟩ = some (.int .i64 x) := by rw [cell_of hI.2.1, ints_get, hx]; rfl
      have HR := Lib.hid hI
      clear hI hx
      go_wp2
      go_roundw
      case rel => exact ⟨j + 1, by go_num, by omega, HR.out, hO⟩
      case measure => simp [intOf]; omega
    · clear hI
      go_wp2
      go_ret2
      exact ⟨rfl, hO⟩
/-- What a method leaves: its answer, the document's IDs, and all else as it was. -/
def RetRef (w : World) (r a : Nat) (v : Value) (a' n : Nat) (given t : Int) (own : List Int) (e : Ending) (w' : World) : Prop :=
  e = .returned v ∧ IsRef w' r a' n given t own ∧ Only (fun k => k = r ∨ k = a) w w' ∧ (a' = a ∨ w.heap.size ≤ a')

set_option maxHeartbeats 4000000 in
set_option maxRecDepth 100000 in
theorem refDrop_no (r a n : Nat) (given t : Int) (own : List Int) (g : Int) (w : World) (hI : IsRef w r a n given t own) (hg : 0 < g) (hi : ∀ j : Nat, own[j]? ≠ some g) :
    Calls Try.prog 28 #[.pointer (some ⟨r, 0, none⟩), .int .i64 g] w (RetRef w r a (.bool false) a n given t own) := by
  have HI := Lib.hid hi
  clear hi
  go_enter Try.func28, Try.ntmps28
  go_wp2_with fail
  (with_reducible refine (refHas_no r a n given t own g _ hI hg HI.out).mono ?_)
  rintro e w1 ⟨rfl, hb1⟩
  have hR := Lib.hid (ref_old hb1 hI)
  clear hI
  go_wp2
  go_ret
  exact ⟨rfl, hR.out, (Only.of_below hb1).mono (fun i _ h => h.elim), .inl rfl⟩

set_option maxHeartbeats 4000000 in
set_option maxRecDepth 100000 in
theorem refDrop_nonpos (r a n : Nat) (given t : Int) (own : List Int) (g : Int) (w : World) (hI : IsRef w r a n given t own) (hg : ¬ 0 < g) :
    Calls Try.prog 28 #[.pointer (some ⟨r, 0, none⟩), .int .i64 g] w (RetRef w r a (.bool false) a n given t own) := by
  go_enter Try.func28, Try.ntmps28
  go_wp2_with fail
  (with_reducible refine (refHas_nonpos r a n given t own g _ hI (by omega)).mono ?_)
  rintro e w1 ⟨rfl, hb1⟩
  have hR := Lib.hid (ref_old hb1 hI)
  clear hI
  go_wp2
  go_ret
  exact ⟨rfl, hR.out, (Only.of_below hb1).mono (fun i _ h => h.elim), .inl rfl⟩

set_option maxHeartbeats 4000000 in
set_option maxRecDepth 100000 in
theorem refDrop_yes (r a n : Nat) (given t : Int) (own : List Int) (g : Int) (i : Nat) (w : World) (hI : IsRef w r a n given t own) (hg : 0 < g) (hi : OwnsAt own g i) :
    Calls Try.prog 28 #[.pointer (some ⟨r, 0, none⟩), .int .i64 g] w (RetRef w r a (.bool true) a n given t (own.set i 0)) := by
  have hin : i < n := by
    rw [← hI.2.2.1]
    exact (List.getElem?_eq_some_iff.1 hi.1).1
  have hn := hI.2.2.2.2
  have HI := Lib.hid hi
  have hgi := hi.1
  clear hi
  go_enter Try.func28, Try.ntmps28
  go_wp2_with fail
  (with_reducible refine (refHas_yes r a n given t own g i _ hI hg HI.out).mono ?_)
  rintro e w1 ⟨rfl, hb1⟩
  have hR := ref_old hb1 hI
  have c0 : w1.cell? ⟨r, 0, none⟩ = some (.slice (some ⟨a, 0, none⟩) n n) := by rw [cell_of hR.1]; rfl
  have ci : w1.cell? ⟨a, i, none⟩ = some (.int .i64 g) := by rw [cell_of hR.2.1, ints_get, hgi]; rfl
  have fi : w1.frozen? ⟨a, i, none⟩ = false := frozen_of hR.2.1 _
  have si : w1.setCell ⟨a, i, none⟩ (.int .i64 0) = putB w1 a (.cells (intsCells (own.set i 0)) 3) := by rw [set_of hR.2.1, ints_set]
  have HR := Lib.hid hR
  clear hI hR hgi
  go_wp2
  go_ret
  exact ⟨rfl, ⟨by rw [putB_other _ HR.out.2.2.2.1]; exact HR.out.1, putB_same _ (lt_of_block HR.out.2.1), by rw [List.length_set]; exact HR.out.2.2.1, HR.out.2.2.2⟩, ((Only.of_below hb1).mono (fun i _ h => h.elim)).putB _ (fun _ => .inr rfl), .inl rfl⟩
theorem int_info : (Try.prog.info? 3).map (fun i => (i.zero, i.size, i.bytes)) = some (some (.int .i64 0), 1, 8) := by kernel_rfl

theorem made_ints (n : Nat) : madeCells #[.int .i64 0] n = intsCells (List.replicate n 0) := by
  apply Array.ext
  · rw [size_madeCells]; simp [intsCells]
  · intro i h1 h2
    simp [madeCells, intsCells, Nat.mod_one]

theorem makeInts (n : Nat) (h : n ≤ 255) (w : World) : (Instr.makeSlice 55 (.int .i64 (n : Int)) (.int .i64 (n : Int))).run Try.prog w = .ok (.slice (some ⟨w.heap.size, 0, none⟩) n n) (w.alloc (.cells (intsCells (List.replicate n 0)) 3)) := by
  rw [← made_ints]
  exact run_make_row' 55 3 (.int .i64 0) 8 Try.underlying55 int_info rfl .i64 .i64 n (by omega) (by omega) w

set_option maxHeartbeats 4000000 in
set_option maxRecDepth 100000 in
theorem refNew_calls (n : Nat) (w : World) (h1 : 1 ≤ n) (h2 : n ≤ 255) :
    Calls Try.prog 24 #[.int .i64 n] w fun e w' => e = .returned (.tuple #[.pointer (some ⟨w.heap.size + 1, 0, none⟩), .int .i64 0]) ∧ IsRef w' (w.heap.size + 1) w.heap.size n 0 0 (List.replicate n 0) ∧ Old w w' := by
  have hm := makeInts n h2
  go_enter Try.func24, Try.ntmps24
  go_wp2
  go_ret2
  refine ⟨rfl, ⟨alloc_heap_new _ _ _ ?_, keep_alloc _ (new_block _ _), List.length_replicate, by omega, h2⟩, old_alloc (old_alloc (old_refl _) _) _⟩
  exact (Array.size_push _).symm

set_option maxHeartbeats 4000000 in
theorem refNew_none (n : Int) (w : World) (h : ¬ (1 ≤ n ∧ n ≤ 255)) :
    Calls Try.prog 24 #[.int .i64 n] w (RetB w (.tuple #[.pointer none, .int .i64 1])) := by
  by_cases h1 : n < 1
  · go_enter Try.func24, Try.ntmps24
    go_wp2
    go_ret2
    exact ⟨rfl, old_refl _⟩
  · have h2 : 255 < n := by omega
    clear h
    go_enter Try.func24, Try.ntmps24
    go_wp2
    go_ret2
    exact ⟨rfl, old_refl _⟩
theorem ref_set1 (a n : Nat) (given t v : Int) : (refCells a n given t).setIfInBounds 1 (.int .i64 v) = refCells a n v t := rfl
theorem ref_set2 (a n : Nat) (given t v : Int) : (refCells a n given t).setIfInBounds 2 (.int .i64 v) = refCells a n given v := rfl

set_option maxHeartbeats 4000000 in
set_option maxRecDepth 100000 in
theorem refGet_has (r a n : Nat) (given t : Int) (own : List Int) (g : Int) (i : Nat) (w : World) (hI : IsRef w r a n given t own) (hg : 1 ≤ g) (hg2 : g ≤ 255) (hi : OwnsAt own g i) :
    Calls Try.prog 26 #[.pointer (some ⟨r, 0, none⟩), .int .i64 g] w (RetRef w r a (.tuple #[.int .i64 (i + 1), .bool false, .int .i64 0]) a n given t own) := by
  have HI := Lib.hid hi
  clear hi
  go_enter Try.func26, Try.ntmps26
  go_wp2_with fail
  (with_reducible refine (refHas_yes r a n given t own g i _ hI (by omega) HI.out).mono ?_)
  rintro e w1 ⟨rfl, hb1⟩
  have hR := Lib.hid (ref_old hb1 hI)
  clear hI
  go_wp2
  go_ret3
  exact ⟨rfl, hR.out, (Only.of_below hb1).mono (fun i _ h => h.elim), .inl rfl⟩

set_option maxHeartbeats 4000000 in
set_option maxRecDepth 100000 in
theorem refGet_new (r a n q : Nat) (t : Int) (own : List Int) (g : Int) (w : World) (hI : IsRef w r a n q t own) (hg : 1 ≤ g) (hg2 : g ≤ 255) (hi : ∀ j : Nat, own[j]? ≠ some g) (hq : q < n) :
    Calls Try.prog 26 #[.pointer (some ⟨r, 0, none⟩), .int .i64 g] w (RetRef w r a (.tuple #[.int .i64 (q + 1), .bool false, .int .i64 0]) a n (q + 1) t (own.set q g)) := by
  have HI := Lib.hid hi
  have hn := hI.2.2.2.2
  obtain ⟨x, hx⟩ : ∃ x, own[q]? = some x := ⟨_, List.getElem?_eq_getElem (by rw [hI.2.2.1]; omega)⟩
  clear hi
  go_enter Try.func26, Try.ntmps26
  go_wp2_with fail
  (with_reducible refine (refHas_no r a n q t own g _ hI (by omega) HI.out).mono ?_)
  rintro e w1 ⟨rfl, hb1⟩
  have hR := ref_old hb1 hI
  have c0 : w1.cell? ⟨r, 0, none⟩ = some (.slice (some ⟨a, 0, none⟩) n n) := by rw [cell_of hR.1]; rfl
  have c1 : w1.cell? ⟨r, 1, none⟩ = some (.int .i64 q) := by rw [cell_of hR.1]; rfl
  have cq : w1.cell? ⟨a, q, none⟩ = some (.int .i64 x) := by rw [cell_of hR.2.1, ints_get, hx]; rfl
  have fq : w1.frozen? ⟨a, q, none⟩ = false := frozen_of hR.2.1 _
  have sq : w1.setCell ⟨a, q, none⟩ (.int .i64 g) = putB w1 a (.cells (intsCells (own.set q g)) 3) := by rw [set_of hR.2.1, ints_set]
  have hne : ((q : Int) == (n : Int)) = false := by rw [beq_eq_false_iff_ne]; omega
  have HR := Lib.hid hR
  clear hI hR hx
  go_wp2
  refine wp_region_walked (S := Is w1.drew) (by kernel_rfl) (by kernel_rfl) rfl ?_
  repeat (apply walked_cons; (first | exact gives_and rfl rfl rfl rfl | exact gives_or rfl rfl rfl rfl | (focus (intro wS hS; cases hS; go_wp2; exact ⟨rfl, rfl, rfl⟩; done)) | (focus (apply gives_guard; (focus (first | exact wanted_yes rfl rfl rfl | exact wanted_no rfl rfl rfl | exact wanted_yes2 rfl rfl rfl | exact wanted_no2 rfl rfl rfl)); (focus (intro hx9; (try simp only [Bool.not_eq_true', Bool.and_eq_true, Bool.not_not] at hx9); (try obtain ⟨hx9, hy9⟩ := hx9); (try subst hy9); (try subst hx9); (first | exact gives_and rfl rfl rfl rfl | exact gives_or rfl rfl rfl rfl | (intro wS hS; cases hS; go_wp2; exact ⟨rfl, rfl, rfl⟩; done))))))); rfl; (try simp only [Act.put, List.setIfInBounds_toArray, List.set_cons_succ, List.set_cons_zero]))
  apply walked_nil
  intro wS hS
  cases hS
  go_wp2
  refine wp_region_tail (S := Is w1.drew.drew) 10 (by kernel_rfl) (by kernel_rfl) (by kernel_rfl) (by decide) rfl ?_
  repeat (apply walked_cons; (first | exact gives_and rfl rfl rfl rfl | exact gives_or rfl rfl rfl rfl | (focus (intro wS hS; cases hS; go_wp2; exact ⟨rfl, rfl, rfl⟩; done)) | (focus (apply gives_guard; (focus (first | exact wanted_yes rfl rfl rfl | exact wanted_no rfl rfl rfl | exact wanted_yes2 rfl rfl rfl | exact wanted_no2 rfl rfl rfl)); (focus (intro hx9; (try simp only [Bool.not_eq_true', Bool.and_eq_true, Bool.not_not] at hx9); (try obtain ⟨hx9, hy9⟩ := hx9); (try subst hy9); (try subst hx9); (first | exact gives_and rfl rfl rfl rfl | exact gives_or rfl rfl rfl rfl | (intro wS hS; cases hS; go_wp2; exact ⟨rfl, rfl, rfl⟩; done))))))); rfl; (try simp only [Act.put, List.setIfInBounds_toArray, List.set_cons_succ, List.set_cons_zero]))
  apply walked_nil
  intro wS hS
  cases hS
  have zq := lt_of_block HR.out.2.1
  have h1 : (putB w1 a (.cells (intsCells (own.set q g)) 3)).heap[r]? = some (.cells (refCells a n q t) 57) := by rw [putB_other _ HR.out.2.2.2.1]; exact HR.out.1
  have h2 : (putB w1 a (.cells (intsCells (own.set q g)) 3)).heap[a]? = _ := putB_same _ zq
  have hO := ((Only.of_below hb1).mono (G := fun k => k = r ∨ k = a) (fun i _ h => h.elim)).putB (.cells (intsCells (own.set q g)) 3) (b := a) (fun _ => .inr rfl)
  generalize putB w1 a (.cells (intsCells (own.set q g)) 3) = W at *
  have d1 : W.cell? ⟨r, 1, none⟩ = some (.int .i64 q) := by rw [cell_of h1]; rfl
  have e1 : W.frozen? ⟨r, 1, none⟩ = false := frozen_of h1 _
  have s1 : ∀ v, W.setCell ⟨r, 1, none⟩ (.int .i64 v) = putB W r (.cells (refCells a n v t) 57) := fun v => by rw [set_of h1, ref_set1]
  have zr := lt_of_block h1
  have k1 : (putB W r (.cells (refCells a n (q + 1) t) 57)).cell? ⟨r, 1, none⟩ = some (.int .i64 (q + 1)) := by rw [cell_of (putB_same _ zr)]; rfl
  have H2 := Lib.hid h2
  clear h1 h2
  show wpList _ _ _ [_] _ _
  go_wp2
  go_ret3
  exact ⟨rfl, ⟨putB_same _ zr, by rw [show ∀ X : World, X.drew.heap = X.heap from fun _ => rfl]; exact (putB_other _ (fun e => HR.out.2.2.2.1 e.symm)).trans H2.out, by rw [List.length_set]; exact HR.out.2.2.1, HR.out.2.2.2⟩, ((hO.putB _ (fun _ => .inl rfl)).drew).drew, .inl rfl⟩

theorem ref_set0 (a a' n : Nat) (given t : Int) : (refCells a n given t).setIfInBounds 0 (.slice (some ⟨a', 0, none⟩) n n) = refCells a' n given t := rfl

set_option maxHeartbeats 4000000 in
set_option maxRecDepth 100000 in
theorem refGet_roll (r a n : Nat) (t : Int) (own : List Int) (g : Int) (w : World) (hI : IsRef w r a n n t own) (hg : 1 ≤ g) (hg2 : g ≤ 255) (hi : ∀ j : Nat, own[j]? ≠ some g) (hn1 : 1 ≤ n) (ht0 : 0 ≤ t) (ht : t < 4611686018427387904) :
    Calls Try.prog 26 #[.pointer (some ⟨r, 0, none⟩), .int .i64 g] w (fun e w' => ∃ a', RetRef w r a (.tuple #[.int .i64 (0 + 1), .bool true, .int .i64 0]) a' n (0 + 1) (t + 1) ((List.replicate n 0).set 0 g) e w') := by
  have HI := Lib.hid hi
  have hn := hI.2.2.2.2
  have hm := makeInts n hn
  clear hi
  go_enter Try.func26, Try.ntmps26
  go_wp2_with fail
  (with_reducible refine (refHas_no r a n n t own g _ hI (by omega) HI.out).mono ?_)
  rintro e w1 ⟨rfl, hb1⟩
  have hR := ref_old hb1 hI
  have c0 : w1.cell? ⟨r, 0, none⟩ = some (.slice (some ⟨a, 0, none⟩) n n) := by rw [cell_of hR.1]; rfl
  have c1 : w1.cell? ⟨r, 1, none⟩ = some (.int .i64 n) := by rw [cell_of hR.1]; rfl
  have HR := Lib.hid hR
  clear hI hR
  go_wp2
  refine wp_region_walked (S := Is w1.drew) (by kernel_rfl) (by kernel_rfl) rfl ?_
  repeat (apply walked_cons; (first | exact gives_and rfl rfl rfl rfl | exact gives_or rfl rfl rfl rfl | (focus (intro wS hS; cases hS; go_wp2; exact ⟨rfl, rfl, rfl⟩; done)) | (focus (apply gives_guard; (focus (first | exact wanted_yes rfl rfl rfl | exact wanted_no rfl rfl rfl | exact wanted_yes2 rfl rfl rfl | exact wanted_no2 rfl rfl rfl)); (focus (intro hx9; (try simp only [Bool.not_eq_true', Bool.and_eq_true, Bool.not_not] at hx9); (try obtain ⟨hx9, hy9⟩ := hx9); (try subst hy9); (try subst hx9); (first | exact gives_and rfl rfl rfl rfl | exact gives_or rfl rfl rfl rfl | (intro wS hS; cases hS; go_wp2; exact ⟨rfl, rfl, rfl⟩; done))))))); rfl; (try simp only [Act.put, List.setIfInBounds_toArray, List.set_cons_succ, List.set_cons_zero]))
  apply walked_nil
  intro wS hS
  cases hS
  go_upto_region 8 with (fail)
  have h1 : (w1.alloc (.cells (intsCells (List.replicate n 0)) 3)).heap[r]? = some (.cells (refCells a n n t) 57) := keep_alloc _ HR.out.1
  have h2 : (w1.alloc (.cells (intsCells (List.replicate n 0)) 3)).heap[w1.heap.size]? = _ := new_block _ _
  have hO := old_alloc hb1 (.cells (intsCells (List.replicate n 0)) 3)
  have hc : (w1.alloc (.cells (intsCells (List.replicate n 0)) 3)).cell? ⟨r, 0, none⟩ = some (.slice (some ⟨a, 0, none⟩) n n) := by rw [cell_of h1]; rfl
  have hf : (w1.alloc (.cells (intsCells (List.replicate n 0)) 3)).frozen? ⟨r, 0, none⟩ = false := frozen_of h1 _
  have hs : (w1.alloc (.cells (intsCells (List.replicate n 0)) 3)).setCell ⟨r, 0, none⟩ (.slice (some ⟨w1.heap.size, 0, none⟩) n n) = putB (w1.alloc (.cells (intsCells (List.replicate n 0)) 3)) r (.cells (refCells w1.heap.size n n t) 57) := by rw [set_of h1, ref_set0]
  have H1 := Lib.hid h1
  have H2 := Lib.hid h2
  clear h1 h2
  go_upto_region 9 with (fail)
  have hrh : r ≠ w1.heap.size := Nat.ne_of_lt (lt_of_block HR.out.1)
  have hwh : w.heap.size ≤ w1.heap.size := hb1.size
  have k1 : (putB (w1.alloc (.cells (intsCells (List.replicate n 0)) 3)) r (.cells (refCells w1.heap.size n n t) 57)).heap[r]? = _ := putB_same _ (lt_of_block H1.out)
  have k2 : (putB (w1.alloc (.cells (intsCells (List.replicate n 0)) 3)) r (.cells (refCells w1.heap.size n n t) 57)).heap[w1.heap.size]? = _ := (putB_other _ hrh).trans H2.out
  have hO2 := ((Only.of_below hO).mono (G := fun k => k = r ∨ k = a) (fun i _ h => h.elim)).putB (.cells (refCells w1.heap.size n n t) 57) (b := r) (fun _ => .inl rfl)
  clear hc hf hs hO hm
  generalize putB (w1.alloc (.cells (intsCells (List.replicate n 0)) 3)) r (.cells (refCells w1.heap.size n n t) 57) = W at *
  generalize hh : w1.heap.size = h at *
  clear hh
  have hc : W.cell? ⟨r, 1, none⟩ = some (.int .i64 n) := by rw [cell_of k1]; rfl
  have hf : W.frozen? ⟨r, 1, none⟩ = false := frozen_of k1 _
  have hs : ∀ v, W.setCell ⟨r, 1, none⟩ (.int .i64 v) = putB W r (.cells (refCells h n v t) 57) := fun v => by rw [set_of k1, ref_set1]
  have K1 := Lib.hid k1
  have K2 := Lib.hid k2
  clear k1 k2
  go_upto_region 10 with (fail)
  have zr := lt_of_block K1.out
  have k1 : (putB W r (.cells (refCells h n 0 t) 57)).heap[r]? = _ := putB_same _ zr
  have k2 : (putB W r (.cells (refCells h n 0 t) 57)).heap[h]? = _ := (putB_other _ hrh).trans K2.out
  have hO3 := hO2.putB (.cells (refCells h n 0 t) 57) (b := r) (fun _ => .inl rfl)
  clear hc hf hs hO2
  generalize putB W r (.cells (refCells h n 0 t) 57) = X at *
  have hc : X.cell? ⟨r, 2, none⟩ = some (.int .i64 t) := by rw [cell_of k1]; rfl
  have hf : X.frozen? ⟨r, 2, none⟩ = false := frozen_of k1 _
  have hs : ∀ v, X.setCell ⟨r, 2, none⟩ (.int .i64 v) = putB X r (.cells (refCells h n 0 v) 57) := fun v => by rw [set_of k1, ref_set2]
  have L1 := Lib.hid k1
  have L2 := Lib.hid k2
  clear k1 k2
  go_upto_region 11 with (fail)
  have zx := lt_of_block L1.out
  have k1 : (putB X r (.cells (refCells h n 0 (t + 1)) 57)).heap[r]? = _ := putB_same _ zx
  have k2 : (putB X r (.cells (refCells h n 0 (t + 1)) 57)).heap[h]? = _ := (putB_other _ hrh).trans L2.out
  have hO4 := hO3.putB (.cells (refCells h n 0 (t + 1)) 57) (b := r) (fun _ => .inl rfl)
  clear hc hf hs hO3
  generalize putB X r (.cells (refCells h n 0 (t + 1)) 57) = Y at *
  have c0 : Y.cell? ⟨r, 0, none⟩ = some (.slice (some ⟨h, 0, none⟩) n n) := by rw [cell_of k1]; rfl
  have c1 : Y.cell? ⟨r, 1, none⟩ = some (.int .i64 0) := by rw [cell_of k1]; rfl
  have cq : Y.cell? ⟨h, 0, none⟩ = some (.int .i64 0) := by rw [cell_of k2, ints_get, List.getElem?_replicate, if_pos (by omega)]; rfl
  have fq : Y.frozen? ⟨h, 0, none⟩ = false := frozen_of k2 _
  have sq : Y.setCell ⟨h, 0, none⟩ (.int .i64 g) = putB Y h (.cells (intsCells ((List.replicate n 0).set 0 g)) 3) := by rw [set_of k2, ints_set]
  have M1 := Lib.hid k1
  have M2 := Lib.hid k2
  clear k1 k2
  refine wp_region_tail (S := Is Y.drew.drew) 10 (by kernel_rfl) (by kernel_rfl) (by kernel_rfl) (by decide) rfl ?_
  repeat (apply walked_cons; (first | exact gives_and rfl rfl rfl rfl | exact gives_or rfl rfl rfl rfl | (focus (intro wS hS; cases hS; go_wp2; exact ⟨rfl, rfl, rfl⟩; done)) | (focus (apply gives_guard; (focus (first | exact wanted_yes rfl rfl rfl | exact wanted_no rfl rfl rfl | exact wanted_yes2 rfl rfl rfl | exact wanted_no2 rfl rfl rfl)); (focus (intro hx9; (try simp only [Bool.not_eq_true', Bool.and_eq_true, Bool.not_not] at hx9); (try obtain ⟨hx9, hy9⟩ := hx9); (try subst hy9); (try subst hx9); (first | exact gives_and rfl rfl rfl rfl | exact gives_or rfl rfl rfl rfl | (intro wS hS; cases hS; go_wp2; exact ⟨rfl, rfl, rfl⟩; done))))))); rfl; (try simp only [Act.put, List.setIfInBounds_toArray, List.set_cons_succ, List.set_cons_zero]))
  apply walked_nil
  intro wS hS
  cases hS
  have k1 : (putB Y h (.cells (intsCells ((List.replicate n 0).set 0 g)) 3)).heap[r]? = _ := (putB_other _ (fun e => hrh e.symm)).trans M1.out
  have k2 : (putB Y h (.cells (intsCells ((List.replicate n 0).set 0 g)) 3)).heap[h]? = _ := putB_same _ (lt_of_block M2.out)
  have hO5 := hO4.putB (.cells (intsCells ((List.replicate n 0).set 0 g)) 3) (b := h) (fun hlt => absurd hlt (by omega))
  clear hO4
  generalize putB Y h (.cells (intsCells ((List.replicate n 0).set 0 g)) 3) = Z at *
  have d1 : Z.cell? ⟨r, 1, none⟩ = some (.int .i64 0) := by rw [cell_of k1]; rfl
  have e1 : Z.frozen? ⟨r, 1, none⟩ = false := frozen_of k1 _
  have s1 : ∀ v, Z.setCell ⟨r, 1, none⟩ (.int .i64 v) = putB Z r (.cells (refCells h n v (t + 1)) 57) := fun v => by rw [set_of k1, ref_set1]
  have zr2 := lt_of_block k1
  have j1 : (putB Z r (.cells (refCells h n 1 (t + 1)) 57)).cell? ⟨r, 1, none⟩ = some (.int .i64 1) := by rw [cell_of (putB_same _ zr2)]; rfl
  have N2 := Lib.hid k2
  clear k1 k2
  show wpList _ _ _ [_] _ _
  go_wp2
  go_ret3
  exact ⟨h, rfl, ⟨putB_same _ zr2, (putB_other _ hrh).trans N2.out, by rw [List.length_set]; exact List.length_replicate, fun e => hrh e.symm, hn⟩, ((hO5.putB _ (fun _ => .inl rfl)).drew).drew, .inr hwh⟩

set_option maxHeartbeats 4000000 in
theorem refGet_none (r a n : Nat) (given t : Int) (own : List Int) (g : Int) (w : World) (hI : IsRef w r a n given t own) (h : ¬ (1 ≤ g ∧ g ≤ 255)) :
    Calls Try.prog 26 #[.pointer (some ⟨r, 0, none⟩), .int .i64 g] w (RetRef w r a (.tuple #[.int .i64 0, .bool false, .int .i64 1]) a n given t own) := by
  have HI := Lib.hid hI
  clear hI
  by_cases h1 : g < 1
  · go_enter Try.func26, Try.ntmps26
    go_wp2
    go_ret3
    exact ⟨rfl, HI.out, Only.refl _ _, .inl rfl⟩
  · have h2 : 255 < g := by omega
    clear h
    go_enter Try.func26, Try.ntmps26
    go_wp2
    go_ret3
    exact ⟨rfl, HI.out, Only.refl _ _, .inl rfl⟩
end Go.Proofs.Ytbnbchclbblbkaa
