/- Bytes in memory: slices that read as lists of bytes, rows that a call has made. No function of the program stands here. -/
import Derived.Test.YtfiofjalpaeohaaBase
import Derived.Test.YtfiofjalpaeohaaArgs
import Derived.Laws.OwnMore
import Derived.Laws.AppendOwnNone
import Derived.Laws.IdiomStrings
import Derived.ChangeSlices
namespace Go.Proofs.Ytfiofjalpaeohaa
set_option linter.unusedVariables false
set_option linter.unusedSimpArgs false
open Go.RowKit

/-- A slice of bytes reads as l. -/
def Bytes (w : World) (ad : Option Addr) (c : Nat) (l : List Nat) : Prop :=
  l.length ≤ c ∧ c ≤ maxLen ∧ (ad = none → c = 0) ∧ ∀ (k x : Nat), l[k]? = some x → x < 256 ∧ ∃ bb off, ad = some ⟨bb, off, none⟩ ∧ bb < w.heap.size ∧ w.cell? ⟨bb, off + k, none⟩ = some (.int .u8 x)

theorem bytes_old {w x : World} {ad : Option Addr} {c : Nat} {l : List Nat} (h : Bytes w ad c l) (ho : Old w x) : Bytes x ad c l := by
  refine ⟨h.1, h.2.1, h.2.2.1, fun k y hy => ?_⟩
  obtain ⟨a, bb, off, rfl, hb, hc⟩ := h.2.2.2 k y hy
  exact ⟨a, bb, off, rfl, Nat.lt_of_lt_of_le hb ho.size, by rw [ho.cell hb]; exact hc⟩

theorem bytes_at {w : World} {ad : Option Addr} {c : Nat} {l : List Nat} (h : Bytes w ad c l) (k : Nat) (hk : k < l.length) :
    ∃ (x bb off : Nat), l[k]? = some x ∧ x < 256 ∧ ad = some ⟨bb, off, none⟩ ∧ bb < w.heap.size ∧ w.cell? ⟨bb, off + k, none⟩ = some (.int .u8 x) := by
  obtain ⟨a, bb, off, rfl, hb, hc⟩ := h.2.2.2 k _ (List.getElem?_eq_getElem hk)
  exact ⟨_, bb, off, List.getElem?_eq_getElem hk, a, rfl, hb, hc⟩

theorem bytes_some {w : World} {ad : Option Addr} {c : Nat} {l : List Nat} (h : Bytes w ad c l) (hl : 0 < l.length) : ∃ bb off, ad = some ⟨bb, off, none⟩ ∧ ∀ k x : Nat, l[k]? = some x → x < 256 ∧ w.cell? ⟨bb, off + k, none⟩ = some (.int .u8 x) := by
  obtain ⟨x, bb, off, _, _, rfl, _, _⟩ := bytes_at h 0 hl
  refine ⟨bb, off, rfl, fun k y hy => ?_⟩
  obtain ⟨a, bb', off', e, _, hc⟩ := h.2.2.2 k y hy
  cases e
  exact ⟨a, hc⟩

theorem bytes_lt {w : World} {ad : Option Addr} {c : Nat} {l : List Nat} (h : Bytes w ad c l) : ∀ x ∈ l, x < 256 := by
  intro x hx
  obtain ⟨k, hk⟩ := List.mem_iff_getElem?.1 hx
  exact (h.2.2.2 k x hk).1

def vb (x : Nat) : Value := .int .u8 x
theorem vb_one (l : List Nat) : ∀ u ∈ l.map vb, u.oneCell' = true := by
  intro u hu
  obtain ⟨x, _, rfl⟩ := List.mem_map.1 hu
  rfl

theorem u8_info : (Try.prog.info? 5).map (fun i => (i.zero, i.size, i.bytes)) = some (some (.int .u8 0), 1, 1) := by kernel_rfl

/-- A row of bytes at block g, from block B on. -/
def Row (w : World) (B g cap : Nat) (l : List Nat) : Prop :=
  w.ownsRow B 5 1 (.slice (some ⟨g, 0, none⟩) l.length cap) l.length (l.map vb) ∧ ∀ x ∈ l, x < 256

section
variable {w w' : World} {B g cap : Nat} {l : List Nat}

theorem row_parts (h : Row w B g cap l) : B ≤ g ∧ g < w.heap.size ∧ l.length ≤ cap ∧ cap ≤ maxLen := by
  rcases h.1.2 with ⟨h', _⟩ | ⟨g', cap', cur, h', hb, hg, hnc, hcm, _⟩
  · simp at h'
  · simp only [Value.slice.injEq, Option.some.injEq, Addr.mk.injEq, and_true, true_and] at h'
    obtain ⟨rfl, rfl⟩ := h'
    exact ⟨hb, lt_of_block hg, hnc, hcm⟩
theorem row_cell (h : Row w B g cap l) {k x : Nat} (hx : l[k]? = some x) : w.cell? ⟨g, k, none⟩ = some (.int .u8 x) := by
  have hk := (List.getElem?_eq_some_iff.1 hx).1
  rw [h.1.cellAt k (by omega), List.getElem?_map, hx]; rfl
theorem row_frozen (h : Row w B g cap l) (k : Nat) : w.frozen? ⟨g, k, none⟩ = false := h.1.frozenAt k
theorem row_set (h : Row w B g cap l) (k x : Nat) (hx : x < 256) : Row (w.setCell ⟨g, k, none⟩ (.int .u8 x)) B g cap (l.set k x) := by
  have := (h.1.stored k (vb x)).1
  refine ⟨?_, fun y hy => ?_⟩
  · rw [List.length_set, List.map_set]; exact this
  · rcases List.mem_or_eq_of_mem_set hy with h1 | rfl
    · exact h.2 y h1
    · exact hx
theorem row_set_only (w : World) (g k : Nat) (v : Value) : Only (fun j => j = g) w (w.setCell ⟨g, k, none⟩ v) := (Only.refl _ w).setCell _ _ fun _ => rfl
theorem old_set {w0 : World} (h : Old w0 w) (hg : w0.heap.size ≤ g) (k : Nat) (v : Value) : Old w0 (w.setCell ⟨g, k, none⟩ v) :=
  Only.to_below (((Only.of_below h).setCell ⟨g, k, none⟩ v (fun hlt => absurd hlt (by show ¬ g < _; omega))))
theorem row_bytes (h : Row w B g cap l) : Bytes w (some ⟨g, 0, none⟩) cap l := by
  obtain ⟨a, b, c, d⟩ := row_parts h
  exact ⟨c, d, fun e => (by cases e), fun k x hx => ⟨h.2 x (List.mem_of_getElem? hx), g, 0, rfl, b, by rw [Nat.zero_add]; exact row_cell h hx⟩⟩
theorem row_old (h : Row w B g cap l) (ho : Old w w') : Row w' B g cap l := by
  refine ⟨⟨h.1.1, ?_⟩, h.2⟩
  rcases h.1.2 with h' | ⟨g', cap', cur, h', hb, hg, rest⟩
  · exact .inl h'
  · exact .inr ⟨g', cap', cur, h', hb, keep_old ho hg, rest⟩
theorem row_only {F : Nat → Prop} (h : Row w B g cap l) (ho : Only F w w') (hF : ¬ F g) : Row w' B g cap l := by
  refine ⟨⟨h.1.1, ?_⟩, h.2⟩
  rcases h.1.2 with h' | ⟨g', cap', cur, h', hb, hg, rest⟩
  · exact .inl h'
  · simp only [Value.slice.injEq, Option.some.injEq, Addr.mk.injEq, and_true, true_and] at h'
    obtain ⟨rfl, rfl⟩ := h'
    exact .inr ⟨g, cap, cur, rfl, hb, keep_only ho hF hg, rest⟩

/-- A row out of what append leaves. -/
theorem row_of {v : Value} {n : Nat} (h : w.ownsRow B 5 1 v n (l.map vb)) (hn : n = l.length) (h0 : 0 < n) (hl : ∀ x ∈ l, x < 256) : ∃ g cap, v = .slice (some ⟨g, 0, none⟩) l.length cap ∧ Row w B g cap l := by
  subst hn
  rcases h.2 with ⟨_, h'⟩ | ⟨g', cap', cur, rfl, _⟩
  · omega
  · exact ⟨g', cap', rfl, h, hl⟩
theorem old_grown {w0 : World} {row : Option Nat} (h : Old w0 w) (hg : w.grownBy w' row) (hr : ∀ g, row = some g → w0.heap.size ≤ g) : Old w0 w' :=
  ⟨hg.os.trans h.os, hg.tape.trans h.tape, hg.output.trans h.output, Nat.le_trans h.size hg.size, fun k hk =>
    (hg.block k (Nat.lt_of_lt_of_le hk h.size) (fun e => by have := hr k e.symm; omega)).trans (h.block k hk)⟩
end

theorem bytes_news {w : World} {bb off c : Nat} {l : List Nat} (h : Bytes w (some ⟨bb, off, none⟩) c l) : ∀ (j : Nat) (u : Value), (l.map vb)[j]? = some u → w.cell? ((⟨bb, off, none⟩ : Addr).add j) = some u := by
  intro j u hu
  rw [List.getElem?_map] at hu
  obtain ⟨x, hx, rfl⟩ := Option.map_eq_some_iff.1 hu
  obtain ⟨_, bb', off', e, _, hc⟩ := h.2.2.2 j x hx
  cases e
  by_cases h0 : j = 0
  · subst h0; exact hc
  · rw [show (⟨bb, off, none⟩ : Addr).add j = ⟨bb, off + j, none⟩ by simp [Addr.add, h0]]
    exact hc

theorem bytes_news2 {w : World} {a : Addr} {c : Nat} {l : List Nat} (h : Bytes w (some a) c l) : ∀ (j : Nat) (u : Value), (l.map vb)[j]? = some u → w.cell? (a.add j) = some u := by
  intro j u hu
  rw [List.getElem?_map] at hu
  obtain ⟨x, hx, rfl⟩ := Option.map_eq_some_iff.1 hu
  obtain ⟨_, bb, off, e, _, hc⟩ := h.2.2.2 j x hx
  cases e
  rw [add_eq _ _ rfl]
  exact hc

/-- The text that bytes make. -/
def strOf (l : List Nat) : ByteArray := ⟨(l.map UInt8.ofNat).toArray⟩

theorem conv_bytes {w : World} {ad : Addr} {c : Nat} {l : List Nat} (h : Bytes w (some ad) c l) : (convert 31 9 (.slice (some ad) l.length c)).run Try.prog w = .ok (.string (strOf l)) w := by
  have := run_convert_bytes_back (P := Try.prog) w 31 9 5 ad c (l.map UInt8.ofNat) Try.underlying31 Try.underlying5 Try.underlying9 (fun j hj => ?_)
  · rw [List.length_map] at this
    exact this
  · have hj' : j < l.length := by simpa using hj
    obtain ⟨hx, bb, off, e, _, hc⟩ := h.2.2.2 j _ (List.getElem?_eq_getElem hj')
    cases e
    have ea : (⟨bb, off, none⟩ : Addr).add j = ⟨bb, off + j, none⟩ := by
      by_cases h0 : j = 0
      · subst h0; rfl
      · simp [Addr.add, h0]
    rw [ea, hc]
    simp only [List.getElem_map, UInt8.toNat_ofNat']
    rw [Nat.mod_eq_of_lt (by omega)]

theorem bytes_lit (w : World) (l : List Nat) (hl : ∀ x ∈ l, x < 256) (hn : l.length ≤ maxLen) : Bytes (w.alloc (.cells (l.map vb).toArray 5)) (some ⟨w.heap.size, 0, none⟩) l.length l := by
  refine ⟨Nat.le_refl _, hn, (fun e => by cases e), fun k x hx => ⟨hl x (List.mem_of_getElem? hx), w.heap.size, 0, rfl, lt_of_block (new_block w _), ?_⟩⟩
  rw [cell_of (new_block w _), Nat.zero_add]
  simp [hx, vb]


section
open Go.ChangeShapes Go.WideShapes Go.Deep Go.RowKit Go.Joins
variable {H : Type} {enc : TypeId × Value → H} {P : Program} {w : World}

theorem wf_u8 {x : Int} (h : (Lit.int .u8 x).wf = true) : 0 ≤ x ∧ x < 256 := by
  simp only [Lit.wf, Bool.and_eq_true, decide_eq_true_eq] at h
  have e1 : IntKind.u8.min = 0 := rfl
  have e2 : IntKind.u8.max = 255 := rfl
  rw [e1, e2] at h
  omega

/-- An argument that is a slice of bytes. -/
theorem open_bytes {r : Reach} {b0 : Nat} {t e : TypeId} {v : Value} {d : DataW H} {p : List MemPlace} (ht : P.underlying t = some (.slice e)) (he : P.underlying e = some (.int .u8)) (hc : P.cellsOf e = 1)
    (hv : Value.okWide P w r b0 t v) (h : DataW.Trod enc P w 0 (fun _ => true) true t v d p) :
    ∃ ad cap l, v = .slice ad l.length cap ∧ Bytes w ad cap l := by
  obtain ⟨a0, len0, cap0, rfl⟩ := okWide_slice ht hv
  obtain ⟨fuel, hf⟩ := h
  rcases Go.ChangeShapes.open_ints ht he hc hf with ⟨hcs, _⟩ | ⟨a, len, cap, zs, hcs, _, hl, hm, hz, _, hcell, hwz⟩
  · simp [Value.cells] at hcs
    obtain ⟨rfl, rfl, rfl⟩ := hcs
    exact ⟨none, 0, [], rfl, Nat.le_refl _, Nat.zero_le _, fun _ => rfl, fun k x hx => by simp at hx⟩
  · simp [Value.cells] at hcs
    obtain ⟨rfl, rfl, rfl⟩ := hcs
    simp only [if_true] at hz
    have hlen : ((zs.take len0).map Int.toNat).length = len0 := by simp; omega
    refine ⟨some a, cap0, (zs.take len0).map Int.toNat, by rw [hlen], by omega, hm, (fun e => by cases e), fun k x hx => ?_⟩
    have hk : k < len0 := by
      have := (List.getElem?_eq_some_iff.1 hx).1
      rwa [hlen] at this
    have hkz : k < zs.length := by omega
    rw [List.getElem?_map, List.getElem?_take, if_pos hk, List.getElem?_eq_getElem hkz] at hx
    have hx' : zs[k].toNat = x := Option.some.inj hx
    have hw := wf_u8 (hwz _ (List.getElem_mem hkz))
    have hc' := hcell k hkz
    rw [List.getD_eq_getElem?_getD, List.getElem?_eq_getElem hkz] at hc'
    simp only [Option.getD_some] at hc'
    obtain ⟨ab, ao, spot⟩ := a
    have hspot : spot = none := by
      have := (cell_plain (hcell 0 (by omega))).1
      simpa [Addr.add] using this
    subst hspot
    rw [add_eq _ _ rfl] at hc'
    refine ⟨by omega, ab, ao, rfl, (cell_plain hc').2, ?_⟩
    rw [hc']
    congr 2
    omega
end
end Go.Proofs.Ytfiofjalpaeohaa
