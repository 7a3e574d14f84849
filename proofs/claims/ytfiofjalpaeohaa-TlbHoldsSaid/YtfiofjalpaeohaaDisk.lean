/- Contracts of the package disk. -/
import Derived.Test.YtfiofjalpaeohaaBytes
import Derived.Test.YtfiofjalpaeohaaMaps
import Derived.Test.YtfiofjalpaeohaaStage
import Derived.Test.YtfiofjalpaeohaaGoto
namespace Go.Proofs.Ytfiofjalpaeohaa
set_option linter.unusedVariables false
set_option linter.unusedSimpArgs false
open Go.RowKit

/-- How many of the first n are there. -/
def cntOf (pg : Int → Option (List Nat)) : Nat → Nat
  | 0 => 0
  | n + 1 => cntOf pg n + if (pg n).isSome then 1 else 0

theorem cnt_le (pg : Int → Option (List Nat)) (n : Nat) : cntOf pg n ≤ n := by
  induction n with
  | zero => exact Nat.le_refl _
  | succ n ih => unfold cntOf; split <;> omega

/-- Another page at a slot. -/
def updP (pg : Int → Option (List Nat)) (k : Int) (v : Option (List Nat)) : Int → Option (List Nat) := fun y => if y = k then v else pg y

theorem cnt_out (pg : Int → Option (List Nat)) (k : Int) (v : Option (List Nat)) (n : Nat) (h : (n : Int) ≤ k) : cntOf (updP pg k v) n = cntOf pg n := by
  induction n with
  | zero => rfl
  | succ n ih =>
    unfold cntOf
    rw [ih (by omega)]
    rw [show updP pg k v (n : Int) = pg (n : Int) by unfold updP; rw [if_neg (by omega)]]

theorem cnt_upd (pg : Int → Option (List Nat)) (k : Nat) (v : Option (List Nat)) (n : Nat) (h : k < n) : cntOf (updP pg k v) n + (if (pg k).isSome then 1 else 0) = cntOf pg n + if v.isSome then 1 else 0 := by
  induction n with
  | zero => omega
  | succ n ih =>
    unfold cntOf
    by_cases hk : k = n
    · subst hk
      rw [cnt_out pg k v k (by omega), show updP pg (k : Int) v (k : Int) = v by unfold updP; rw [if_pos rfl]]
      omega
    · rw [show updP pg k v (n : Int) = pg (n : Int) by unfold updP; rw [if_neg (by omega)]]
      have := ih (by omega)
      omega

theorem cnt_full (pg : Int → Option (List Nat)) (n : Nat) (h : ∀ j : Nat, j < n → (pg j).isSome = true) : cntOf pg n = n := by
  induction n with
  | zero => rfl
  | succ n ih =>
    unfold cntOf
    rw [ih (fun j hj => h j (by omega)), h n (by omega)]
    rfl

/-- The least slot that is free. -/
theorem least_free (pg : Int → Option (List Nat)) (n : Nat) (h : cntOf pg n ≠ n) : ∃ i : Nat, i < n ∧ pg i = none ∧ ∀ j : Nat, j < i → (pg j).isSome = true := by
  induction n with
  | zero => exact absurd rfl h
  | succ n ih =>
    by_cases hc : cntOf pg n = n
    · refine ⟨n, by omega, ?_, fun j hj => ?_⟩
      · unfold cntOf at h
        cases hp : pg n with
        | none => rfl
        | some l => rw [hp, hc] at h; exact absurd rfl h
      · by_cases hj2 : (pg j).isSome = true
        · exact hj2
        · have h1 := cnt_le pg n
          exfalso
          have : ∀ m : Nat, j < m → cntOf pg m < m := by
            intro m hm
            induction m with
            | zero => omega
            | succ m im =>
              unfold cntOf
              by_cases e : j = m
              · subst e
                rw [if_neg hj2]
                have := cnt_le pg j
                omega
              · have := im (by omega)
                split <;> omega
          have := this n hj
          omega
    · obtain ⟨i, h1, h2, h3⟩ := ih hc
      exact ⟨i, by omega, h2, h3⟩

/-- The cells of a disk. -/
def diskCells (slots m : Nat) (fails : Value) : Array Value := #[.int .i64 slots, .map (some m), fails]

/-- A page's slice. -/
def PageIs (w : World) (X : Nat → Prop) (p m : Nat) (v : Value) (l : List Nat) : Prop :=
  ∃ g c, v = .slice (some ⟨g, 0, none⟩) 4096 c ∧ l.length = 4096 ∧ Row w 0 g c l ∧ ¬ X g ∧ g ≠ p ∧ g ≠ m

/-- What is to fail. -/
def FailsIs (w : World) (X : Nat → Prop) (p m : Nat) (v : Value) (F : List Bool) : Prop :=
  ∃ ad c, v = .slice ad F.length c ∧ F.length ≤ c ∧ c ≤ maxLen ∧ ∀ (k : Nat) (x : Bool), F[k]? = some x → ∃ g off, ad = some ⟨g, off, none⟩ ∧ ¬ X g ∧ g ≠ p ∧ g ≠ m ∧ g < w.heap.size ∧ w.cell? ⟨g, off + k, none⟩ = some (.bool x)

/-- Block p holds a disk; X: blocks that are not its own. -/
def IsDisk (w : World) (X : Nat → Prop) (p slots : Nat) (pg : Int → Option (List Nat)) (F : List Bool) : Prop :=
  ∃ m f fv, w.heap[p]? = some (.cells (diskCells slots m fv) 108) ∧ ¬ X p ∧ IsMap w m f (cntOf pg slots) ∧ ¬ X m ∧ m ≠ p ∧ slots ≤ 4096 ∧
    (∀ k : Int, (pg k).isSome = true → 0 ≤ k ∧ k < slots) ∧ (∀ k, pg k = none → f k = none) ∧ (∀ k l, pg k = some l → ∃ v, f k = some v ∧ PageIs w X p m v l) ∧ FailsIs w X p m fv F

section
variable {w x : World} {X Y : Nat → Prop} {p m slots : Nat} {pg : Int → Option (List Nat)} {F : List Bool} {v : Value} {l : List Nat}

theorem page_only {G : Nat → Prop} (h : PageIs w X p m v l) (ho : Only G w x) (hG : ∀ b, ¬ X b → b ≠ p → b ≠ m → ¬ G b) : PageIs x X p m v l := by
  obtain ⟨g, c, rfl, h1, h2, h3, h4, h5⟩ := h
  exact ⟨g, c, rfl, h1, row_only h2 ho (hG g h3 h4 h5), h3, h4, h5⟩
theorem fails_only {G : Nat → Prop} (h : FailsIs w X p m v F) (ho : Only G w x) (hG : ∀ b, ¬ X b → b ≠ p → b ≠ m → ¬ G b) : FailsIs x X p m v F := by
  obtain ⟨ad, c, rfl, h1, h2, h3⟩ := h
  refine ⟨ad, c, rfl, h1, h2, fun k y hy => ?_⟩
  obtain ⟨g, off, e, a1, a2, a3, a4, a5⟩ := h3 k y hy
  exact ⟨g, off, e, a1, a2, a3, Nat.lt_of_lt_of_le a4 ho.size, by rw [ho.cell g _ a4 (hG g a1 a2 a3)]; exact a5⟩

/-- Others' blocks were turned. -/
theorem disk_only {G : Nat → Prop} (h : IsDisk w X p slots pg F) (ho : Only G w x) (hG : ∀ b, ¬ X b → ¬ G b) : IsDisk x X p slots pg F := by
  obtain ⟨m, f, fv, h1, h2, h3, h4, h5, h6, h7, h8, h9, hA⟩ := h
  refine ⟨m, f, fv, keep_only ho (hG p h2) h1, h2, isMap_only h3 ho (hG m h4), h4, h5, h6, h7, h8, fun k l hk => ?_, fails_only hA ho fun b hb _ _ => hG b hb⟩
  obtain ⟨v, a, b⟩ := h9 k l hk
  exact ⟨v, a, page_only b ho fun b hb _ _ => hG b hb⟩
theorem disk_old (h : IsDisk w X p slots pg F) (ho : Old w x) : IsDisk x X p slots pg F := disk_only h (Only.of_below ho) fun _ _ f => f
/-- More blocks that are not the disk's own. -/
theorem disk_more (h : IsDisk w X p slots pg F) (hY : ∀ b, Y b → X b ∨ w.heap.size ≤ b) : IsDisk w Y p slots pg F := by
  obtain ⟨m, f, fv, h1, h2, h3, h4, h5, h6, h7, h8, h9, hA⟩ := h
  have key : ∀ b, ¬ X b → b < w.heap.size → ¬ Y b := fun b hb hl hy => (hY b hy).elim hb (by omega)
  refine ⟨m, f, fv, h1, key p h2 (lt_of_block h1), h3, key m h4 (isMap_lt h3), h5, h6, h7, h8, fun k l hk => ?_, ?_⟩
  · obtain ⟨v, a, g, c, rfl, b1, b2, b3, b4, b5⟩ := h9 k l hk
    exact ⟨_, a, g, c, rfl, b1, b2, key g b3 (row_parts b2).2.1, b4, b5⟩
  · obtain ⟨ad, c, rfl, a1, a2, a3⟩ := hA
    refine ⟨ad, c, rfl, a1, a2, fun k y hy => ?_⟩
    obtain ⟨g, off, e, b1, b2, b3, b4, b5⟩ := a3 k y hy
    exact ⟨g, off, e, key g b1 b4, b2, b3, b4, b5⟩
end

/-- What a method of the disk leaves. -/
def RetDisk (w : World) (X : Nat → Prop) (p slots : Nat) (v : Value) (pg : Int → Option (List Nat)) (F : List Bool) (e : Ending) (w' : World) : Prop :=
  e = .returned v ∧ IsDisk w' X p slots pg F ∧ Only (fun b => ¬ X b) w w'

set_option maxHeartbeats 1000000 in
theorem left_calls (X : Nat → Prop) (p slots : Nat) (pg : Int → Option (List Nat)) (F : List Bool) (w : World) (h : IsDisk w X p slots pg F) :
    Calls Try.prog 27 #[.pointer (some ⟨p, 0, none⟩)] w (RetB w (.int .i64 F.length)) := by
  obtain ⟨m, f, fv, h1, h2, h3, h4, h5, h6, h7, h8, h9, ad, c, rfl, _⟩ := h
  have c2 : w.cell? ⟨p, 2, none⟩ = some (.slice ad F.length c) := by rw [cell_of h1]; rfl
  clear h1 h2 h3 h4 h5 h6 h7 h8 h9
  go_enter Try.func27, Try.ntmps27
  go_wp2
  go_ret
  exact ⟨rfl, old_refl _⟩

set_option maxHeartbeats 1000000 in
theorem free_calls (X : Nat → Prop) (p slots : Nat) (pg : Int → Option (List Nat)) (F : List Bool) (w : World) (h : IsDisk w X p slots pg F) :
    Calls Try.prog 25 #[.pointer (some ⟨p, 0, none⟩)] w (RetB w (.int .i64 (slots - cntOf pg slots : Nat))) := by
  obtain ⟨m, f, fv, h1, h2, h3, h4, h5, h6, h7, h8, h9, hA⟩ := h
  have c0 : w.cell? ⟨p, 0, none⟩ = some (.int .i64 slots) := by rw [cell_of h1]; rfl
  have c1 : w.cell? ⟨p, 1, none⟩ = some (.map (some m)) := by rw [cell_of h1]; rfl
  have hle := cnt_le pg slots
  have hlen := fun ty => map_len (P := Try.prog) (t := 106) (ty := ty) Try.underlying106 (isMap_old h3 (old_drew (old_refl w)))
  have hsub : (slots : Int) - (cntOf pg slots : Nat) = ((slots - cntOf pg slots : Nat) : Int) := by omega
  clear h1 h2 h3 h4 h5 h7 h8 h9 hA
  generalize cntOf pg slots = n at *
  go_enter Try.func25, Try.ntmps25
  go_wp2
  refine wp_region_walked (S := Is w.drew) (by kernel_rfl) (by kernel_rfl) rfl ?_
  repeat (apply walked_cons; (first | exact gives_and rfl rfl rfl rfl | exact gives_or rfl rfl rfl rfl | (focus (intro wS hS; cases hS; go_wp2; exact ⟨rfl, rfl, rfl⟩; done)) | (focus (apply gives_guard; (focus (first | exact wanted_yes rfl rfl rfl | exact wanted_no rfl rfl rfl | exact wanted_yes2 rfl rfl rfl | exact wanted_no2 rfl rfl rfl)); (focus (intro hx9; (try simp only [Bool.not_eq_true', Bool.and_eq_true, Bool.not_not] at hx9); (try obtain ⟨hx9, hy9⟩ := hx9); (try subst hy9); (try subst hx9); (first | exact gives_and rfl rfl rfl rfl | exact gives_or rfl rfl rfl rfl | (intro wS hS; cases hS; go_wp2; exact ⟨rfl, rfl, rfl⟩; done))))))); rfl; (try simp only [Act.put, List.setIfInBounds_toArray, List.set_cons_succ, List.set_cons_zero]))
  apply walked_nil
  intro wS hS
  cases hS
  go_wp2
  go_ret
  refine ⟨?_, old_drew (old_refl _)⟩
  rw [← hsub]
  rfl
end Go.Proofs.Ytfiofjalpaeohaa
