/- Contracts of the package perm, and of the law's own helpers. -/
import Derived.Test.YtbnbchclbblbkaaPerm
namespace Go.Proofs.Ytbnbchclbblbkaa
set_option linter.unusedVariables false
set_option linter.unusedSimpArgs false
open Go.RowKit
attribute [local go_sem] cell_mark_at frozen_mark_at setCell_mark_at putB_cell_same putB_frozen_same putB_set_same putB_size putB_putB putB_cell_other putB_frozen_other

theorem bits8 : bits .and .i64 0 1 = 0 ∧ bits .and .i64 0 2 = 0 ∧ bits .and .i64 0 4 = 0 ∧ bits .and .i64 1 1 = 1 ∧ bits .and .i64 1 2 = 0 ∧ bits .and .i64 1 4 = 0 ∧
    bits .and .i64 2 1 = 0 ∧ bits .and .i64 2 2 = 2 ∧ bits .and .i64 2 4 = 0 ∧ bits .and .i64 3 1 = 1 ∧ bits .and .i64 3 2 = 2 ∧ bits .and .i64 3 4 = 0 ∧
    bits .and .i64 4 1 = 0 ∧ bits .and .i64 4 2 = 0 ∧ bits .and .i64 4 4 = 4 ∧ bits .and .i64 5 1 = 1 ∧ bits .and .i64 5 2 = 0 ∧ bits .and .i64 5 4 = 4 ∧
    bits .and .i64 6 1 = 0 ∧ bits .and .i64 6 2 = 2 ∧ bits .and .i64 6 4 = 4 ∧ bits .and .i64 7 1 = 1 ∧ bits .and .i64 7 2 = 2 ∧ bits .and .i64 7 4 = 4 := by
  refine ⟨?_, ?_, ?_, ?_, ?_, ?_, ?_, ?_, ?_, ?_, ?_, ?_, ?_, ?_, ?_, ?_, ?_, ?_, ?_, ?_, ?_, ?_, ?_, ?_⟩ <;> kernel_rfl

/-- The first k of the eight permissions are not written so. -/
def notFirst (k : Nat) (s : ByteArray) : Prop := ∀ j, j < k → permText (j.testBit 0) (j.testBit 1) (j.testBit 2) ≠ s

theorem notFirst_succ {k : Nat} {s : ByteArray} (h : notFirst k s) (b0 b1 b2 : Bool) (e0 : k.testBit 0 = b0) (e1 : k.testBit 1 = b1) (e2 : k.testBit 2 = b2)
    (hn : permText b0 b1 b2 ≠ s) : notFirst (k + 1) s := by
  intro j hj
  rcases Nat.lt_or_ge j k with h1 | h1
  · exact h j h1
  · have : j = k := by omega
    subst this
    rw [e0, e1, e2]; exact hn

/-- What Parse returns: a permission that is written so, or none. -/
def ParseSays (s : ByteArray) (v : Value) : Prop :=
  (∃ a0 a1 a2, permText a0 a1 a2 = s ∧ v = .tuple #[.agg #[.bool a0, .bool a1, .bool a2], .int .i64 0]) ∨
  ((∀ a0 a1 a2, permText a0 a1 a2 ≠ s) ∧ v = .tuple #[.agg #[.bool false, .bool false, .bool false], .int .i64 4])

def ParsePost (s : ByteArray) (w : World) (e : Ending) (w' : World) : Prop := ∃ v, ParseSays s v ∧ RetB w v e w'

def parseRel (s : ByteArray) (w : World) (i : Value) (wr : World) : Prop :=
  ∃ k : Nat, k ≤ 8 ∧ i = .int .i64 k ∧ notFirst k s ∧ Below w.heap.size w wr ∧ wr.heap[w.heap.size]? = some (.cells #[.bool false, .bool false, .bool false] 23)

set_option maxHeartbeats 4000000 in
set_option maxRecDepth 100000 in
theorem parse_calls (s : ByteArray) (w : World) :
    Calls Try.prog 15 #[.string s] w (ParsePost s w) := by
  have hb8 := bits8
  go_enter Try.func15, Try.ntmps15
  go_wp2
  go_loopw [6] (fun i wr => parseRel s w i wr) (fun i _ => 8 - (intOf i).toNat)
  case atStart => exact ⟨0, by omega, rfl, fun j hj => by omega, by go_grown, alloc_heap_new _ _ _ rfl⟩
  case round =>
    obtain ⟨k, hk, rfl, hn, hb, hR⟩ := hrel
    have HN := Lib.hid hn
    clear hn
    have hz := lt_of_block hR
    have hc := cell_of hR
    have hf := frozen_of hR
    have hs := set_of hR
    have HR := Lib.hid hR
    clear hR
    have hk9 : k = 0 ∨ k = 1 ∨ k = 2 ∨ k = 3 ∨ k = 4 ∨ k = 5 ∨ k = 6 ∨ k = 7 ∨ k = 8 := by omega
    rcases hk9 with rfl | rfl | rfl | rfl | rfl | rfl | rfl | rfl | rfl
    iterate 8
      · go_wp2_with fail
        refine (text_calls _ _ _ _).mono ?_
        rintro e w1 ⟨rfl, hb1⟩
        have hB1 : Below w.heap.size w w1 := (hb.alloc (by omega) _).trans (hb1.mono (by simp; omega))
        have hR1 := keep_below hb1 (keep_alloc _ HR.out)
        have hz1 := lt_of_block hR1
        obtain ⟨hc1, hf1⟩ := reads_below hb1
        have hs1 := set_of hR1
        have HR1 := Lib.hid hR1
        clear hR1
        go_wp2
        · refine bodyPost_ret (by simp [results, Try.results15, go_sem, hz1]; try rfl) rfl ?_
          exact ⟨_, .inl ⟨_, _, _, str_eq (by assumption), rfl⟩, rfl, below_putB hB1 _ (Nat.le_refl _)⟩
        · exact ⟨⟨_, by decide, rfl, notFirst_succ HN.out _ _ _ rfl rfl rfl (str_ne (by assumption)), hB1, HR1.out⟩, by simp [intOf]⟩
    · go_wp2
      refine bodyPost_ret (by simp [results, Try.results15, go_sem, hz]; try rfl) rfl ?_
      exact ⟨_, .inr ⟨fun a0 a1 a2 => by
        have h0 := HN.out 0 (by decide); have h1 := HN.out 1 (by decide); have h2 := HN.out 2 (by decide); have h3 := HN.out 3 (by decide)
        have h4 := HN.out 4 (by decide); have h5 := HN.out 5 (by decide); have h6 := HN.out 6 (by decide); have h7 := HN.out 7 (by decide)
        cases a0 <;> cases a1 <;> cases a2
        · exact h0
        · exact h4
        · exact h2
        · exact h6
        · exact h1
        · exact h5
        · exact h3
        · exact h7, rfl⟩, rfl, below_putB hb _ (Nat.le_refl _)⟩

end Go.Proofs.Ytbnbchclbblbkaa
