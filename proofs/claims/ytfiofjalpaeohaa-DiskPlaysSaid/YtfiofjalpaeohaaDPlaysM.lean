/- Copies of bytes with a mark, copies of truths: what the statement DiskPlays makes of a step's slices. -/
import Derived.Test.YtfiofjalpaeohaaDPlays3
import Derived.Test.YtfiofjalpaeohaaMark
namespace Go.Proofs.Ytfiofjalpaeohaa
set_option linter.unusedVariables false
set_option linter.unusedSimpArgs false
open Go.RowKit

theorem bytes_only {F : Nat → Prop} {w x : World} {ad : Option Addr} {c : Nat} {l : List Nat} (h : Bytes w ad c l) (ho : Only F w x) (hF : ∀ bb off, ad = some ⟨bb, off, none⟩ → ¬ F bb) : Bytes x ad c l := by
  refine ⟨h.1, h.2.1, h.2.2.1, fun k y hy => ?_⟩
  obtain ⟨a, bb, off, rfl, hb, hc⟩ := h.2.2.2 k y hy
  exact ⟨a, bb, off, rfl, Nat.lt_of_lt_of_le hb ho.size, by rw [ho.cell bb _ hb (hF bb off rfl)]; exact hc⟩
/-- An empty slice of bytes reads as nothing, wherever it points. -/
theorem bytes_nil_addr {w x : World} {ad : Option Addr} {c : Nat} (h : Bytes w ad c []) : Bytes x ad c [] := ⟨h.1, h.2.1, h.2.2.1, fun k y hy => by simp at hy⟩

/-- A row of truths that a call has made. -/
def RowT (w : World) (B g cap : Nat) (l : List Bool) : Prop := w.ownsRow B 4 1 (.slice (some ⟨g, 0, none⟩) l.length cap) l.length (l.map Value.bool)
section
variable {w w' : World} {B g cap : Nat} {l : List Bool}
theorem rowT_parts (h : RowT w B g cap l) : B ≤ g ∧ g < w.heap.size ∧ l.length ≤ cap ∧ cap ≤ maxLen := by
  rcases h.2 with ⟨h', _⟩ | ⟨g', cap', cur, h', hb, hg, hnc, hcm, _⟩
  · simp at h'
  · simp only [Value.slice.injEq, Option.some.injEq, Addr.mk.injEq, and_true, true_and] at h'
    obtain ⟨rfl, rfl⟩ := h'
    exact ⟨hb, lt_of_block hg, hnc, hcm⟩
theorem rowT_cell (h : RowT w B g cap l) {k : Nat} {x : Bool} (hx : l[k]? = some x) : w.cell? ⟨g, k, none⟩ = some (.bool x) := by
  have hk := (List.getElem?_eq_some_iff.1 hx).1
  rw [World.ownsRow.cellAt h k (by omega), List.getElem?_map, hx]; rfl
theorem rowT_frozen (h : RowT w B g cap l) (k : Nat) : w.frozen? ⟨g, k, none⟩ = false := World.ownsRow.frozenAt h k
theorem rowT_set (h : RowT w B g cap l) (k : Nat) (x : Bool) : RowT (w.setCell ⟨g, k, none⟩ (.bool x)) B g cap (l.set k x) := by
  have := (World.ownsRow.stored h k (.bool x)).1
  unfold RowT
  rw [List.length_set, List.map_set]; exact this
theorem rowT_bools (h : RowT w B g cap l) : Bools w (some ⟨g, 0, none⟩) cap l := by
  obtain ⟨a, b, c, d⟩ := rowT_parts h
  exact ⟨c, d, fun e => (by cases e), fun k x hx => ⟨g, 0, rfl, b, by rw [Nat.zero_add]; exact rowT_cell h hx⟩⟩
theorem rowT_only {F : Nat → Prop} (h : RowT w B g cap l) (ho : Only F w w') (hF : ¬ F g) : RowT w' B g cap l := by
  refine ⟨h.1, ?_⟩
  rcases h.2 with h' | ⟨g', cap', cur, h', hb, hg, rest⟩
  · exact .inl h'
  · simp only [Value.slice.injEq, Option.some.injEq, Addr.mk.injEq, and_true, true_and] at h'
    obtain ⟨rfl, rfl⟩ := h'
    exact .inr ⟨g, cap, cur, rfl, hb, keep_only ho hF hg, rest⟩
theorem rowT_set_only (w : World) (g k : Nat) (v : Value) : Only (fun j => j = g) w (w.setCell ⟨g, k, none⟩ v) := (Only.refl _ w).setCell _ _ fun _ => rfl
end
theorem bools_cut {w : World} {ad : Option Addr} {c : Nat} {l : List Bool} (h : Bools w ad c l) (n : Nat) : Bools w ad c (l.take n) := by
  refine ⟨?_, h.2.1, h.2.2.1, fun k x hx => h.2.2.2 k x ?_⟩
  · rw [List.length_take]; exact Nat.le_trans (Nat.min_le_right _ _) h.1
  · rw [List.getElem?_take] at hx
    split at hx
    · exact hx
    · cases hx
set_option maxRecDepth 100000 in
theorem slice_cut_bools (w : World) (ad : Option Addr) (n cap len : Nat) (h : n ≤ cap) : (Instr.slice 32 (.slice ad len cap) none (some (.int .i64 n)) none).run Try.prog w = .ok (.slice ad n cap) w := by
  rw [run_slice_h (P := Try.prog) w 32 ad len cap rfl .i64 n (by omega) (by omega)]
  have hs : (sizeOf (Try.prog.elem 32)).run Try.prog w = .ok 1 w := by kernel_rfl
  rw [hs]
  cases ad <;> simp [Result.andThen, sliced, Addr.add]

set_option maxRecDepth 100000 in
/-- append([]bool{}, fails...). -/
theorem copy_bools (ty : TypeId) (w : World) (ad : Option Addr) (c : Nat) (L : List Bool) (hB : Bools w ad c L) (hL : L.length ≤ 1000000) :
    ∃ g cap w2, (Builtin.append_ #[32, 32] ty #[.slice (some ⟨w.heap.size, 0, none⟩) 0 0, .slice ad L.length c]).run Try.prog (w.alloc (.cells #[] 4)) = .ok (.slice (some ⟨g, 0, none⟩) L.length cap) w2 ∧
      RowT w2 w.heap.size g cap L ∧ Old w w2 := by
  obtain ⟨i0, hi, hz0, hz1, hz2⟩ := info_parts bool_info2
  have hlit : (w.alloc (.cells #[] 4)).ownsRow w.heap.size 4 1 (.slice (some ⟨w.heap.size, 0, none⟩) 0 0) 0 [] := World.ownsRow_lit w #[] 0 (Nat.le_refl _) (by decide) rfl
  have hO1 : Old w (w.alloc (.cells #[] 4)) := old_alloc (old_refl w) _
  have hBL := bools_old hB hO1
  cases ad with
  | none =>
    have h0 := hB.2.2.1 rfl
    obtain rfl : L = [] := by
      cases L with
      | nil => rfl
      | cons x l => have := hB.1; simp at this; omega
    subst h0
    exact ⟨_, _, _, run_append_owned_none (P := Try.prog) _ w.heap.size 32 ty 4 i0 1 Try.underlying32 hi _ 0 [] hlit, hlit, hO1⟩
  | some a =>
    obtain ⟨v, w2, hrun, hown, hgrow, hnil⟩ := run_append_own (P := Try.prog) (w.alloc (.cells #[] 4)) w.heap.size 32 ty 4 i0 (.bool false) 1 1 Try.underlying32 hi hz0 hz1 hz2 rfl (by decide) _ 0 [] hlit a L.length c (L.map Value.bool) (by simp) (bools_news hBL) (bools_one L) (by unfold maxLen; omega) (by omega) hO1.size
    simp only [Nat.zero_add, List.nil_append] at hown
    have hO2 : Old w w2 := old_grown hO1 hgrow (fun g e => by
      have e' : some w.heap.size = some g := e
      have := Option.some.inj e'
      omega)
    rcases hown.2 with ⟨e, _⟩ | ⟨g, cap, cur, rfl, _⟩
    · have := hnil.1 e
      simp at this
    · exact ⟨g, cap, w2, hrun, hown, hO2⟩

/-- The state while a page is handed to both disks. -/
def WrS (n p q : Nat) (w : World) (K : Nat → Prop) (b10 : Nat) (C : Array Value) (B g2 cap2 : Nat) (ad2 : Option Addr) (c2 : Nat) (L : List Nat) (pg : Int → Option (List Nat)) (F : List Bool) (pg' : Int → Option (List Nat)) (F' : List Bool) (z : World) : Prop :=
  (∃ T R, Both n p q w T R K pg F pg' F' z) ∧ z.heap[b10]? = some (.cells C 34) ∧ Bytes z ad2 c2 L ∧ Row z B g2 cap2 (L ++ [165])
section
variable {n p q : Nat} {w : World} {K : Nat → Prop} {b10 : Nat} {C : Array Value} {B g2 cap2 : Nat} {ad2 : Option Addr} {c2 : Nat} {L : List Nat} {pg pg' pg0 pg1 : Int → Option (List Nat)} {F F' F0 F1 : List Bool} {z y : World}
theorem wrs_old (h : WrS n p q w K b10 C B g2 cap2 ad2 c2 L pg F pg' F' z) (ho : Old z y) : WrS n p q w K b10 C B g2 cap2 ad2 c2 L pg F pg' F' y := by
  obtain ⟨⟨T, R, h1⟩, h2, h3, h4⟩ := h
  exact ⟨⟨T, R, both_disk h1 (disk_old h1.hd ho) ((Only.of_below ho).mono fun b _ f => f.elim)⟩, keep_old ho h2, bytes_old h3 ho, row_old h4 ho⟩
theorem wrs_only (h : WrS n p q w K b10 C B g2 cap2 ad2 c2 L pg F pg' F' z) (ho : Only (fun b => ¬ K b) z y) (hb : ∃ T R, Both n p q w T R K pg0 F0 pg1 F1 y) (h10 : K b10) (hg : K g2) (hA : ∀ bb off, ad2 = some ⟨bb, off, none⟩ → L ≠ [] → K bb) :
    WrS n p q w K b10 C B g2 cap2 ad2 c2 L pg0 F0 pg1 F1 y := by
  refine ⟨hb, keep_only ho (fun f => f h10) h.2.1, ?_, row_only h.2.2.2 ho (fun f => f hg)⟩
  by_cases hne : L = []
  · have := h.2.2.1
    subst hne; exact bytes_nil_addr this
  · exact bytes_only h.2.2.1 ho (fun bb off e f => f (hA bb off e hne))
theorem row_first (h : Row z B g2 cap2 (L ++ [165])) : Bytes z (some ⟨g2, 0, none⟩) cap2 L := by
  have := bytes_cut (row_bytes h) L.length
  rwa [List.take_left] at this
theorem wrs_P {k a : Int} (hP : ∀ T R K pg' F' x ad c, Both n p q w T R K pg F pg' F' x → Bytes x ad c L → (∀ bb off, ad = some ⟨bb, off, none⟩ → L ≠ [] → K bb) →
      Calls Try.prog 19 #[.pointer (some ⟨p, 0, none⟩), .int .i64 k, .slice ad L.length c] x (PStep n p q w T R K (.int .i64 a) pg1 F1 pg' F' x))
    (h : WrS n p q w K b10 C B g2 cap2 ad2 c2 L pg F pg' F' z) (h10 : K b10) (hg : K g2) (hA : ∀ bb off, ad2 = some ⟨bb, off, none⟩ → L ≠ [] → K bb) :
    Calls Try.prog 19 #[.pointer (some ⟨p, 0, none⟩), .int .i64 k, .slice (some ⟨g2, 0, none⟩) L.length cap2] z (fun e y => e = .returned (.int .i64 a) ∧ WrS n p q w K b10 C B g2 cap2 ad2 c2 L pg1 F1 pg' F' y) := by
  obtain ⟨T, R, h1⟩ := h.1
  exact (hP T R K pg' F' z _ _ h1 (row_first h.2.2.2) (fun bb off e _ => by cases e; exact hg)).mono fun e y ⟨he, hb, ho⟩ => ⟨he, wrs_only h ho ⟨_, _, hb⟩ h10 hg hA⟩
theorem wrs_R {k a : Int} (hR : ∀ T R K pg0 F0 x ad c, Both n p q w T R K pg0 F0 pg F x → Bytes x ad c L → (∀ bb off, ad = some ⟨bb, off, none⟩ → L ≠ [] → K bb) →
      Calls Try.prog 20 #[.pointer (some ⟨q, 0, none⟩), .int .i64 k, .slice ad L.length c] x (RStep n p q w K (.int .i64 a) pg0 F0 pg1 F1 x))
    (h : WrS n p q w K b10 C B g2 cap2 ad2 c2 L pg0 F0 pg F z) (h10 : K b10) (hg : K g2) (hA : ∀ bb off, ad2 = some ⟨bb, off, none⟩ → L ≠ [] → K bb) :
    Calls Try.prog 20 #[.pointer (some ⟨q, 0, none⟩), .int .i64 k, .slice ad2 L.length c2] z (fun e y => e = .returned (.int .i64 a) ∧ WrS n p q w K b10 C B g2 cap2 ad2 c2 L pg0 F0 pg1 F1 y) := by
  obtain ⟨T, R, h1⟩ := h.1
  exact (hR T R K pg0 F0 z _ _ h1 h.2.2.1 hA).mono fun e y ⟨he, hb, ho⟩ => ⟨he, wrs_only h ho hb h10 hg hA⟩

/-- The state while the copy is compared and overwritten. -/
def WrM (n p q : Nat) (w : World) (K : Nat → Prop) (B g2 cap2 : Nat) (ad2 : Option Addr) (c2 : Nat) (L : List Nat) (pg : Int → Option (List Nat)) (F : List Bool) (m : Nat) (M : List Nat) (z : World) : Prop :=
  (∃ T R, Both n p q w T R K pg F pg F z) ∧ Bytes z ad2 c2 L ∧ Row z B g2 cap2 M ∧ M.length = L.length + 1 ∧ ∀ j, m ≤ j → j < L.length → M[j]? = L[j]?
theorem wrm_of (h : WrS n p q w K b10 C B g2 cap2 ad2 c2 L pg F pg F z) : WrM n p q w K B g2 cap2 ad2 c2 L pg F 0 (L ++ [165]) z :=
  ⟨h.1, h.2.2.1, h.2.2.2, by simp, fun j _ hj => List.getElem?_append_left hj⟩
theorem wrm_step {m : Nat} {M : List Nat} (h : WrM n p q w K B g2 cap2 ad2 c2 L pg F m M z) (hm : m < L.length) (hg : K g2) (hgw : w.heap.size ≤ g2) (hA : ∀ bb off, ad2 = some ⟨bb, off, none⟩ → bb ≠ g2) :
    WrM n p q w K B g2 cap2 ad2 c2 L pg F (m + 1) (M.set m 238) (z.setCell ⟨g2, m, none⟩ (.int .u8 238)) := by
  obtain ⟨⟨T, R, h1⟩, h2, h3, h4, h5⟩ := h
  refine ⟨⟨T, R, both_own h1 (row_set_only z g2 m (.int .u8 238)) (fun b e => by rw [e]; exact ⟨hg, hgw⟩)⟩, bytes_only h2 (row_set_only z g2 m (.int .u8 238)) (fun bb off e f => hA bb off e f), row_set h3 m 238 (by decide), by rw [List.length_set]; exact h4, fun j hj hjl => ?_⟩
  rw [List.getElem?_set_ne (by omega)]
  exact h5 j (by omega) hjl
theorem wrm_drew {m : Nat} {M : List Nat} (h : WrM n p q w K B g2 cap2 ad2 c2 L pg F m M z) : WrM n p q w K B g2 cap2 ad2 c2 L pg F m M z.drew := by
  obtain ⟨⟨T, R, h1⟩, h2, h3, h4⟩ := h
  have ho : Old z z.drew := old_drew (old_refl _)
  exact ⟨⟨T, R, both_disk h1 (disk_old h1.hd ho) ((Only.of_below ho).mono fun b _ f => f.elim)⟩, bytes_old h2 ho, row_old h3 ho, h4⟩
end
end Go.Proofs.Ytfiofjalpaeohaa
