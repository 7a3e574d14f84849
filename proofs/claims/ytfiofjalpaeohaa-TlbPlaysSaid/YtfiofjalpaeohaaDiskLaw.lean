/- The statements of layer 6: a disk beside a page and a list of truths. -/
import Derived.Test.YtfiofjalpaeohaaDiskTold
import Derived.Test.YtfiofjalpaeohaaBits
import Derived.Deep.OwnRows
namespace Go.Proofs.Ytfiofjalpaeohaa
set_option linter.unusedVariables false
set_option linter.unusedSimpArgs false
open Go.RowKit

def boolsC (l : List Bool) : Array Value := (l.map .bool).toArray
theorem boolsC_get (l : List Bool) (i : Nat) : (boolsC l)[i]? = (l[i]?).map .bool := by simp [boolsC]
theorem boolsC_set (l : List Bool) (i : Nat) (v : Bool) : (boolsC l).setIfInBounds i (.bool v) = boolsC (l.set i v) := by simp [boolsC, List.setIfInBounds_toArray, List.map_set]
theorem madeC_bools (n : Nat) : madeCells #[.bool false] n = boolsC (List.replicate n false) := by
  apply Array.ext
  · rw [size_madeCells]; simp [boolsC]
  · intro i h1 h2
    simp [madeCells, boolsC, Nat.mod_one]
theorem makeBools (n : Nat) (h : n ≤ 4096) (w : World) : (Instr.makeSlice 32 (.int .i64 (n : Int)) (.int .i64 (n : Int))).run Try.prog w = .ok (.slice (some ⟨w.heap.size, 0, none⟩) n n) (w.alloc (.cells (boolsC (List.replicate n false)) 4)) := by
  rw [← madeC_bools]
  exact run_make_row' 32 4 (.bool false) 1 Try.underlying32 bool_info2 rfl .i64 .i64 n (by omega) (by omega) w

/-- Blocks that are not the disk's: those that were there, and two more. -/
def Not2 (B a c : Nat) (b : Nat) : Prop := b < B ∨ b = a ∨ b = c

/-- The disk, a page and a list of truths. -/
def DAt (n p gp gb : Nat) (w : World) (P : List Nat) (pg : Int → Option (List Nat)) (F on : List Bool) (x : World) : Prop :=
  IsDisk x (Not2 w.heap.size gp gb) p n pg F ∧ Row x gp gp 4096 P ∧ x.heap[gb]? = some (.cells (boolsC on) 4) ∧ Old w x ∧ gp ≠ gb ∧ w.heap.size ≤ gb ∧ w.heap.size ≤ gp

section
variable {n p gp gb : Nat} {w x y : World} {P : List Nat} {pg pg' : Int → Option (List Nat)} {F F' on : List Bool}
theorem dat_old (h : DAt n p gp gb w P pg F on x) (ho : Old x y) : DAt n p gp gb w P pg F on y :=
  ⟨disk_old h.1 ho, row_old h.2.1 ho, keep_old ho h.2.2.1, old_then h.2.2.2.1 ho, h.2.2.2.2⟩
theorem dat_drew (h : DAt n p gp gb w P pg F on x) : DAt n p gp gb w P pg F on x.drew := dat_old h (old_drew (old_refl _))
theorem dat_disk (h : DAt n p gp gb w P pg F on x) (hd : IsDisk y (Not2 w.heap.size gp gb) p n pg' F') (ho : Only (fun b => ¬ Not2 w.heap.size gp gb b) x y) : DAt n p gp gb w P pg' F' on y :=
  ⟨hd, row_only h.2.1 ho (fun f => f (.inr (.inl rfl))), keep_only ho (fun f => f (.inr (.inr rfl))) h.2.2.1, old_not h.2.2.2.1 ho (fun b hb => .inl hb), h.2.2.2.2⟩
theorem dat_on {on' : List Bool} (h : DAt n p gp gb w P pg F on x) : DAt n p gp gb w P pg F on' (putB x gb (.cells (boolsC on') 4)) := by
  obtain ⟨h1, h2, h3, h4, h5, h6, h7⟩ := h
  have ho : Only (fun b => b = gb) x (putB x gb (.cells (boolsC on') 4)) := (Only.refl _ x).putB _ fun _ => rfl
  exact ⟨disk_only h1 ho (fun b hb e => hb (.inr (.inr e))), row_only h2 ho h5, putB_same _ (lt_of_block h3), old_put h4 _ h6, h5, h6, h7⟩
theorem dat_X (h : DAt n p gp gb w P pg F on x) : ∀ b, Not2 w.heap.size gp gb b → b < x.heap.size := by
  intro b hb
  rcases hb with hb | rfl | rfl
  · exact Nat.lt_of_lt_of_le hb h.2.2.2.1.size
  · exact (row_parts h.2.1).2.1
  · exact lt_of_block h.2.2.1
theorem dat_gp (h : DAt n p gp gb w P pg F on x) : gp ≠ p := by
  intro e
  obtain ⟨m, f, fv, _, h2, _⟩ := h.1
  exact h2 (.inr (.inl e.symm))
theorem dat_cell (h : DAt n p gp gb w P pg F on x) {j : Nat} {b : Bool} (hb : on[j]? = some b) : x.cell? ⟨gb, j, none⟩ = some (.bool b) := by
  rw [cell_of h.2.2.1, boolsC_get, hb]; rfl
theorem dat_frozen (h : DAt n p gp gb w P pg F on x) (j : Nat) : x.frozen? ⟨gb, j, none⟩ = false := frozen_of h.2.2.1 _
theorem dat_set (h : DAt n p gp gb w P pg F on x) (j : Nat) (b : Bool) : x.setCell ⟨gb, j, none⟩ (.bool b) = putB x gb (.cells (boolsC (on.set j b)) 4) := by rw [set_of h.2.2.1, boolsC_set]

/-- The contracts beside a page and a list. -/
theorem dat_take (h : DAt n p gp gb w P pg F on x) (i : Nat) (hi : i < n) (hfree : pg i = none) (hleast : ∀ j : Nat, j < i → (pg j).isSome = true) :
    Calls Try.prog 14 #[.pointer (some ⟨p, 0, none⟩)] x (fun e y => e = .returned (.tuple #[.int .i64 i, .int .i64 0]) ∧ DAt n p gp gb w P (updP pg i (some zeros4096)) F on y) :=
  (take_ok _ p n pg F i x h.1 (dat_X h) hi hfree hleast).mono fun e y hr => ⟨hr.1, dat_disk h hr.2.1 hr.2.2⟩
theorem dat_write (h : DAt n p gp gb w P pg F on x) (k : Int) (l : List Nat) (hk : pg k = some l) (hF : F.headD false = false) (hP : P.length = 4096) :
    Calls Try.prog 19 #[.pointer (some ⟨p, 0, none⟩), .int .i64 k, .slice (some ⟨gp, 0, none⟩) 4096 4096] x (fun e y => e = .returned (.int .i64 0) ∧ DAt n p gp gb w P (updP pg k (some P)) F.tail on y) :=
  (write_ok _ p n pg F k l P (some ⟨gp, 0, none⟩) 4096 x h.1 (dat_X h) hk hF (row_bytes h.2.1) hP (fun bb off e => by cases e; exact dat_gp h)).mono fun e y hr => ⟨hr.1, dat_disk h hr.2.1 hr.2.2⟩
theorem dat_give (h : DAt n p gp gb w P pg F on x) (k : Int) :
    Calls Try.prog 16 #[.pointer (some ⟨p, 0, none⟩), .int .i64 k] x (fun e y => e = .returned (.int .i64 (if (pg k).isSome then 0 else 23)) ∧ DAt n p gp gb w P (updP pg k none) F on y) := by
  cases hk : pg k with
  | none =>
    refine (give_none _ p n pg F k x h.1 hk).mono fun e y hr => ⟨hr.1, ?_⟩
    have : updP pg k none = pg := by
      funext z
      unfold updP
      split
      · rename_i hz; rw [hz, hk]
      · rfl
    rw [this]
    exact dat_disk h hr.2.1 hr.2.2
  | some l => exact (give_some _ p n pg F k l x h.1 hk).mono fun e y hr => ⟨hr.1, dat_disk h hr.2.1 hr.2.2⟩
theorem dat_read (h : DAt n p gp gb w P pg F on x) (k : Int) (l : List Nat) (hk : pg k = some l) (hF : F.headD false = false) :
    Calls Try.prog 21 #[.pointer (some ⟨p, 0, none⟩), .int .i64 k] x (fun e y => ∃ g c, e = .returned (.tuple #[.slice (some ⟨g, 0, none⟩) 4096 c, .int .i64 0]) ∧ Row y x.heap.size g c l ∧ DAt n p gp gb w P pg F.tail on y) :=
  (read_ok _ p n pg F k l x h.1 hk hF).mono fun e y ⟨g, c, hr, hrow, hd, ho, _⟩ => ⟨g, c, hr, hrow, dat_disk h hd ho⟩
theorem dat_free (h : DAt n p gp gb w P pg F on x) :
    Calls Try.prog 25 #[.pointer (some ⟨p, 0, none⟩)] x (RetB x (.int .i64 (n - cntOf pg n : Nat))) := free_calls _ p n pg F x h.1
end

/-- What the list tells of the slots. -/
def OnIs (n : Nat) (pg : Int → Option (List Nat)) (on : List Bool) : Prop := on.length = n ∧ ∀ j : Nat, j < n → on[j]? = some (pg j).isSome
theorem on_upd {n : Nat} {pg : Int → Option (List Nat)} {on : List Bool} (h : OnIs n pg on) (j : Nat) (v : Option (List Nat)) : OnIs n (updP pg j v) (on.set j v.isSome) := by
  refine ⟨by rw [List.length_set]; exact h.1, fun i hi => ?_⟩
  unfold updP
  by_cases e : j = i
  · subst e
    rw [List.getElem?_set_self (by rw [h.1]; exact hi), if_pos rfl]
  · rw [List.getElem?_set_ne e, if_neg (by omega)]
    exact h.2 i hi
theorem on_same {n : Nat} {pg : Int → Option (List Nat)} {on : List Bool} (h : OnIs n pg on) (j : Nat) (v : Option (List Nat)) (hv : (pg j).isSome = v.isSome) : OnIs n (updP pg j v) on := by
  refine ⟨h.1, fun i hi => ?_⟩
  rw [h.2 i hi]
  unfold updP
  split
  · rename_i e
    rw [e, hv]
  · rfl

theorem slot_of (y : Int) (n : Nat) (h1 : 1 ≤ n) (h2 : n ≤ 4096) : ∃ j : Nat, j < n ∧ (wrap64 (y.tmod n + n)).tmod n = (j : Int) := by
  have a1 := Int.lt_tmod_of_pos y (b := (n : Int)) (by omega)
  have a2 := Int.tmod_lt_of_pos y (b := (n : Int)) (by omega)
  rw [IntWalk.wrap64_in (y.tmod n + n) (by omega)]
  have b1 := Int.tmod_nonneg (a := y.tmod n + n) (n : Int) (by omega)
  have b2 := Int.tmod_lt_of_pos (y.tmod n + n) (b := (n : Int)) (by omega)
  exact ⟨((y.tmod n + n).tmod n).toNat, by omega, by omega⟩
end Go.Proofs.Ytfiofjalpaeohaa
