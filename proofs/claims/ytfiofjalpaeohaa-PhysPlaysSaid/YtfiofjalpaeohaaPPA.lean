/- Texts on the way to the statement PhysPlays, several in one file: each part says what it is. -/
import Derived.Test.YtfiofjalpaeohaaProg
import Derived.Test.YtfiofjalpaeohaaRows
import Derived.WalkKit
import Derived.WalkSpells
import Derived.WalkLawsBesides
import Derived.Handy
import Derived.Lib.Hide
import Derived.Lib.SlBytesConst
import Derived.Deep.RegionHeld3
import Derived.BigQuiet
import Derived.Deep.QuietTactic
import Derived.Deep.DeepCutAuto
import Derived.Maps.OwnOps
import Derived.ProofKit
import Derived.OpenShut
import Derived.Lib.SmallJoins
import Derived.Deep.Slices
import Derived.Deep.SlicePairs
import Derived.Deep.Fields
import Derived.Laws.OwnMore
import Derived.Laws.AppendOwnNone
import Derived.Laws.IdiomStrings
import Derived.ChangeSlices
import Derived.Laws.Rows
import Derived.Laws.Tables
import Derived.Laws.Bits64b
namespace Go.Proofs.Ytfiofjalpaeohaa
set_option linter.unusedVariables false
set_option linter.unusedSimpArgs false
open Go.RowKit
/-- A call that returns v and leaves all that was there as it was. -/
def RetB (w : World) (v : Value) (e : Ending) (w' : World) : Prop := e = .returned v ∧ Below w.heap.size w w'
/-! Structs held against each other, field by field. -/
section
variable {P : Program} {w : World} {d : Nat} {xs ys : Array Value} {f : Field} {fs : List Field} {a b : Value} {r s : Bool}
end
/-! Blocks known whole. -/
/-- The world with another block in b's place. -/
def putB (w : World) (b : Nat) (o : Obj) : World := { w with heap := w.heap.setIfInBounds b o }
theorem cell_of {w : World} {b : Nat} {C : Array Value} {t : TypeId} {fr : Nat × Nat} (h : w.heap[b]? = some (.cells C t fr)) (i : Nat) : w.cell? ⟨b, i, none⟩ = C[i]? := by
  simp [World.cell?, h]
theorem frozen_of {w : World} {b : Nat} {C : Array Value} {t : TypeId} (h : w.heap[b]? = some (.cells C t)) (i : Nat) : w.frozen? ⟨b, i, none⟩ = false := by
  simp [World.frozen?, h]
theorem modify_eq_set (a : Array Obj) (b : Nat) (f : Obj → Obj) (o : Obj) (h : a[b]? = some o) : a.modify b f = a.setIfInBounds b (f o) := by
  apply Array.ext_getElem?
  intro k
  simp only [Array.getElem?_modify, Array.getElem?_setIfInBounds]
  by_cases hk : b = k
  · subst hk
    have hb : b < a.size := by
      rcases Nat.lt_or_ge b a.size with h' | h'
      · exact h'
      · simp [Array.getElem?_eq_none h'] at h
    have e : a[b] = o := by simpa [Array.getElem?_eq_getElem hb] using h
    simp [hb, e]
  · simp [hk]
theorem set_of {w : World} {b : Nat} {C : Array Value} {t : TypeId} {fr : Nat × Nat} (h : w.heap[b]? = some (.cells C t fr)) (i : Nat) (v : Value) :
    w.setCell ⟨b, i, none⟩ v = putB w b (.cells (C.setIfInBounds i v) t fr) := by
  unfold World.setCell putB
  rw [modify_eq_set _ _ _ _ h]
  simp
theorem lt_of_block {w : World} {b : Nat} {o : Obj} (h : w.heap[b]? = some o) : b < w.heap.size := by
  rcases Nat.lt_or_ge b w.heap.size with h' | h'
  · exact h'
  · simp [Array.getElem?_eq_none h'] at h
theorem putB_size (w : World) (b : Nat) (o : Obj) : (putB w b o).heap.size = w.heap.size := by simp [putB]
theorem putB_same {w : World} {b : Nat} (o : Obj) (hb : b < w.heap.size) : (putB w b o).heap[b]? = some o := by simp [putB, hb]
theorem putB_other {w : World} {b k : Nat} (o : Obj) (hk : b ≠ k) : (putB w b o).heap[k]? = w.heap[k]? := by simp [putB, Array.getElem?_setIfInBounds, hk]
/-- What was there, but for the blocks of F, is as it was. -/
structure Only (F : Nat → Prop) (w w' : World) : Prop where
  os : w'.os = w.os
  tape : w'.tape = w.tape
  output : w'.output = w.output
  size : w.heap.size ≤ w'.heap.size
  block : ∀ k, k < w.heap.size → ¬ F k → w'.heap[k]? = w.heap[k]?
theorem Only.refl (F : Nat → Prop) (w : World) : Only F w w := ⟨rfl, rfl, rfl, Nat.le_refl _, fun _ _ _ => rfl⟩
theorem Only.trans {F : Nat → Prop} {a b c : World} (h : Only F a b) (k : Only F b c) : Only F a c :=
  ⟨k.os.trans h.os, k.tape.trans h.tape, k.output.trans h.output, Nat.le_trans h.size k.size, fun i hi hF => (k.block i (Nat.lt_of_lt_of_le hi h.size) hF).trans (h.block i hi hF)⟩
/-- A step that turns old blocks of F, or what was made since. -/
theorem Only.step {F G : Nat → Prop} {a b c : World} (h : Only F a b) (k : Only G b c) (hG : ∀ i, i < a.heap.size → G i → F i) : Only F a c :=
  ⟨k.os.trans h.os, k.tape.trans h.tape, k.output.trans h.output, Nat.le_trans h.size k.size,
    fun i hi hF => (k.block i (Nat.lt_of_lt_of_le hi h.size) (fun g => hF (hG i hi g))).trans (h.block i hi hF)⟩
theorem Only.mono {F G : Nat → Prop} {w w' : World} (h : Only F w w') (hG : ∀ i, i < w.heap.size → F i → G i) : Only G w w' :=
  ⟨h.os, h.tape, h.output, h.size, fun i hi hF => h.block i hi (fun f => hF (hG i hi f))⟩
theorem Only.drew {F : Nat → Prop} {a w : World} (h : Only F a w) : Only F a w.drew := ⟨h.os, h.tape, h.output, h.size, h.block⟩
theorem Only.alloc {F : Nat → Prop} {a w : World} (h : Only F a w) (o : Obj) : Only F a (w.alloc o) :=
  ⟨h.os, h.tape, h.output, by have := h.size; simp; omega, fun i hi hF => by
    rw [Below.heap_alloc _ _ _ (Nat.lt_of_lt_of_le hi h.size)]; exact h.block i hi hF⟩
theorem Only.putB {F : Nat → Prop} {a w : World} (h : Only F a w) {b : Nat} (o : Obj) (hb : b < a.heap.size → F b) : Only F a (putB w b o) :=
  ⟨h.os, h.tape, h.output, by rw [putB_size]; exact h.size, fun i hi hF => by
    by_cases hbi : b = i
    · subst hbi; exact absurd (hb hi) hF
    · rw [putB_other _ hbi]; exact h.block i hi hF⟩
theorem Only.setCell {F : Nat → Prop} {a w : World} (h : Only F a w) (p : Addr) (v : Value) (hb : p.block < a.heap.size → F p.block) : Only F a (w.setCell p v) :=
  ⟨h.os, h.tape, h.output, by have := h.size; simpa [World.setCell] using this, fun i hi hF => by
    by_cases hbi : p.block = i
    · subst hbi; exact absurd (hb hi) hF
    · rw [Below.heap_setCell _ _ _ _ (fun e => hbi e.symm)]; exact h.block i hi hF⟩
/-- Nothing that was there has turned. -/
abbrev Nothing : Nat → Prop := fun _ => False
theorem Only.below {w w' : World} {B : Nat} (h : Only (fun k => B ≤ k) w w') (hB : B ≤ w.heap.size) : Below B w w' :=
  ⟨h.os, h.tape, h.output, h.size, fun k hk => h.block k (by omega) (by omega)⟩
theorem Only.of_below {w w' : World} (h : Below w.heap.size w w') : Only Nothing w w' := ⟨h.os, h.tape, h.output, h.size, fun k hk _ => h.block k hk⟩
theorem Only.to_below {w w' : World} (h : Only Nothing w w') : Below w.heap.size w w' := ⟨h.os, h.tape, h.output, h.size, fun k hk => h.block k hk (fun f => f)⟩
theorem Only.cell {F : Nat → Prop} {w w' : World} (h : Only F w w') (b i : Nat) (hb : b < w.heap.size) (hF : ¬ F b) : w'.cell? ⟨b, i, none⟩ = w.cell? ⟨b, i, none⟩ :=
  World.cell?_of_block (w := w) (h.block b hb hF)
theorem Only.frozen {F : Nat → Prop} {w w' : World} (h : Only F w w') (b i : Nat) (hb : b < w.heap.size) (hF : ¬ F b) : w'.frozen? ⟨b, i, none⟩ = w.frozen? ⟨b, i, none⟩ :=
  World.frozen?_of_block (w := w) (h.block b hb hF)
theorem alloc_heap_new (w : World) (o : Obj) (k : Nat) (hk : k = w.heap.size) : (w.alloc o).heap[k]? = some o := by
  subst hk
  show (w.heap.push o)[w.heap.size]? = _
  simp
theorem str_beq (a b : ByteArray) : (a.toList == b.toList) = decide (a = b) := by
  rw [ByteArray.toList_eq, ByteArray.toList_eq]
  by_cases h : a = b
  · simp [h]
  · have : a.data.toList ≠ b.data.toList := fun e => h (ByteArray.ext (Array.toList_inj.1 e))
    rw [beq_eq_false_iff_ne.2 this, decide_eq_false h]
/-- What was there when w was is as it was. -/
abbrev Old (w x : World) : Prop := Below w.heap.size w x
theorem old_refl (w : World) : Old w w := Below.refl _ _
theorem old_alloc {w x : World} (h : Old w x) (o : Obj) : Old w (x.alloc o) := h.alloc h.size o
theorem old_drew {w x : World} (h : Old w x) : Old w x.drew := h.drew
theorem old_then {w x y : World} (h : Old w x) (hb : Old x y) : Old w y := h.trans (hb.mono h.size)
theorem keep_old {w x : World} {b : Nat} {o : Obj} (h : Old w x) (hb : w.heap[b]? = some o) : x.heap[b]? = some o := by
  rw [h.block b (lt_of_block hb)]; exact hb
theorem new_block (w : World) (o : Obj) : (w.alloc o).heap[w.heap.size]? = some o := alloc_heap_new _ _ _ rfl
/-- Three facts on a block: its cells, its marks, its number. -/
theorem of_block {w : World} {b : Nat} {C : Array Value} {t : TypeId} (h : w.heap[b]? = some (.cells C t)) :
    (∀ i, w.cell? ⟨b, i, none⟩ = C[i]?) ∧ (∀ i, w.frozen? ⟨b, i, none⟩ = false) ∧ b < w.heap.size := ⟨cell_of h, frozen_of h, lt_of_block h⟩
/-- Blocks of cells, known whole. -/
def Has (w : World) : List (Nat × Array Value × TypeId) → Prop
  | [] => True
  | x :: l => w.heap[x.1]? = some (.cells x.2.1 x.2.2) ∧ Has w l
theorem keep_only {F : Nat → Prop} {w w' : World} {b : Nat} {o : Obj} (h : Only F w w') (hF : ¬ F b) (hb : w.heap[b]? = some o) : w'.heap[b]? = some o := by
  rw [h.block b (lt_of_block hb) hF]; exact hb
end Go.Proofs.Ytfiofjalpaeohaa
namespace Go.Proofs.Ytfiofjalpaeohaa
set_option linter.unusedVariables false
set_option linter.unusedSimpArgs false
open Go.ChangeShapes Go.WideShapes Go.ChangeAt Go.RowKit
theorem own : ownKnob Try.prog.godebug = none := by kernel_rfl
theorem laidOut : laidOutB Try.prog = true := by kernel_rfl
section
variable {H : Type} {enc : TypeId × Value → H} {P : Program}
theorem trodAll_below (hl : laidOutB P = true) {W W' : World} (hb : Below W.heap.size W W') : ∀ {ts : List TypeId} {vs : List Value} {ds : List (DataW H)} {ps : List MemPlace},
    (∀ t ∈ ts, P.readableRec t = true ∧ t < P.types.size) → DataW.TrodAll enc P W 0 (fun _ => true) true ts vs ds ps → (∀ x ∈ ps, x.block < W.heap.size) →
    DataW.TrodAll enc P W' 0 (fun b => decide (b < W.heap.size)) true ts vs ds ps
  | [], vs, ds, ps, _, h, _ => by
    obtain ⟨rfl, rfl, rfl⟩ := trodAll_nil h
    exact trodAll_mk0
  | t :: ts, vs, ds, ps, hr, h, hlt => by
    obtain ⟨v, vs', d, ds', p, q, rfl, rfl, rfl, h0, hs⟩ := trodAll_cons h
    refine trodAll_cons_mk (Below.trod hl (hr t List.mem_cons_self).1 (hr t List.mem_cons_self).2 h0 hb fun x hx => hlt x (List.mem_append_left _ hx)) ?_
    exact trodAll_below hl hb (fun t' ht => hr t' (List.mem_cons_of_mem _ ht)) hs fun x hx => hlt x (List.mem_append_right _ hx)
/-- True was told, and below the heap's old size nothing has turned: that is all that a law's row asks. -/
theorem post_true {f : Func} {s : ChangeSpec} {apart fresh handsOn : Bool} {W W' : World} {args : Array Value} {ds : List (DataW H)} {before : List MemPlace} {tb : TypeId}
    (hl : laidOutB P = true) (hr : ∀ t ∈ f.params.toList, P.readableRec t = true ∧ t < P.types.size) (hv : s.vars = [])
    (hW : DataW.Whole enc P f.params.toList s.vars apart W args.toList ds [] before) (hf : f.resultTypes = #[tb]) (hu : P.underlying tb = some .bool)
    (hs : s.fn H (ds ++ []) = { results := [.lit (.bool true)], args := ds }) (hb : Below W.heap.size W W') :
    s.post enc P f apart fresh handsOn false W args (.bool true) W' := by
  have hW0 := hW
  obtain ⟨p, q, hA, hV, hpq, _, _⟩ := hW0
  rw [hv] at hV
  have hq : q = [] := hV
  subst hq
  rw [List.append_nil] at hpq
  subst hpq
  refine ⟨ds, [], before, [], before, [], hW, ?_, ?_, ?_, hb.frame _, fun h => by cases h⟩
  · rw [hs, hf]
    exact trodAll_mk1 (shut_bool hu true)
  · rw [hs]
    exact trodAll_below hl hb hr hA fun x hx => hW.lt x hx
  · rw [hs, hv]
    rfl
end
end Go.Proofs.Ytfiofjalpaeohaa
namespace Go.Proofs.Ytfiofjalpaeohaa
set_option linter.unusedVariables false
set_option linter.unusedSimpArgs false
open Go.ChangeShapes Go.WideShapes Go.Deep Go.RowKit Go.Joins
/-- A list of what is there, place by place. -/
theorem list_of {α : Type} {Q : Nat → α → Prop} : ∀ (n : Nat), (∀ i, i < n → ∃ x, Q i x) → ∃ l : List α, l.length = n ∧ ∀ i x, l[i]? = some x → Q i x
  | 0, _ => ⟨[], rfl, fun i x h => by simp at h⟩
  | n + 1, h => by
    obtain ⟨l, hl, hq⟩ := list_of n (fun i hi => h i (by omega))
    obtain ⟨x, hx⟩ := h n (by omega)
    refine ⟨l ++ [x], by simp [hl], fun i y hy => ?_⟩
    rcases Nat.lt_or_ge i n with hi | hi
    · rw [List.getElem?_append_left (by omega)] at hy
      exact hq i y hy
    · rw [List.getElem?_append_right (by omega)] at hy
      have : i = n := by
        by_cases e : i = n
        · exact e
        · rw [List.getElem?_eq_none (by simp; omega)] at hy
          cases hy
      subst this
      simp [hl] at hy
      rw [← hy]; exact hx
/-- A whole number of 64 bits. -/
def I64 (x : Int) : Prop := -9223372036854775808 ≤ x ∧ x ≤ 9223372036854775807
theorem i64_of {x : Int} (h : (Lit.int .i64 x).wf = true) : I64 x := by
  simp [Lit.wf, IntKind.min, IntKind.max, IntKind.signed, IntKind.bits] at h
  exact ⟨by omega, by omega⟩
theorem add_eq (a : Addr) (n : Nat) (h : a.spot = none) : a.add n = ⟨a.block, a.off + n, none⟩ := by
  obtain ⟨b, o, s⟩ := a
  simp at h
  subst h
  unfold Addr.add
  split <;> simp_all
theorem cell_plain {w : World} {a : Addr} {v : Value} (h : w.cell? a = some v) : a.spot = none ∧ a.block < w.heap.size := by
  unfold World.cell? at h
  cases hb : w.heap[a.block]? with
  | none => simp [hb] at h
  | some o =>
    refine ⟨?_, lt_of_block hb⟩
    rw [hb] at h
    cases o <;> simp at h
    exact h.1
section
variable {H : Type} {enc : TypeId × Value → H} {P : Program} {w : World}
end
end Go.Proofs.Ytfiofjalpaeohaa
namespace Go.Proofs.Ytfiofjalpaeohaa
set_option linter.unusedVariables false
set_option linter.unusedSimpArgs false
open Go.RowKit
/-- A slice of bytes reads as l. -/
def Bytes (w : World) (ad : Option Addr) (c : Nat) (l : List Nat) : Prop :=
  l.length ≤ c ∧ c ≤ maxLen ∧ (ad = none → c = 0) ∧ ∀ (k x : Nat), l[k]? = some x → x < 256 ∧ ∃ bb off, ad = some ⟨bb, off, none⟩ ∧ bb < w.heap.size ∧ w.cell? ⟨bb, off + k, none⟩ = some (.int .u8 x)
theorem bytes_old {w x : World} {ad : Option Addr} {c : Nat} {l : List Nat} (h : Bytes w ad c l) (ho : Old w x) : Bytes x ad c l := by
  refine ⟨h.1, h.2.1, h.2.2.1, fun k y hy => ?_⟩
  obtain ⟨a, bb, off, rfl, hb, hc⟩ := h.2.2.2 k y hy
  exact ⟨a, bb, off, rfl, Nat.lt_of_lt_of_le hb ho.size, by rw [ho.cell hb]; exact hc⟩
theorem bytes_at {w : World} {ad : Option Addr} {c : Nat} {l : List Nat} (h : Bytes w ad c l) (k : Nat) (hk : k < l.length) :
    ∃ (x bb off : Nat), l[k]? = some x ∧ x < 256 ∧ ad = some ⟨bb, off, none⟩ ∧ bb < w.heap.size ∧ w.cell? ⟨bb, off + k, none⟩ = some (.int .u8 x) := by
  obtain ⟨a, bb, off, rfl, hb, hc⟩ := h.2.2.2 k _ (List.getElem?_eq_getElem hk)
  exact ⟨_, bb, off, List.getElem?_eq_getElem hk, a, rfl, hb, hc⟩
theorem bytes_some {w : World} {ad : Option Addr} {c : Nat} {l : List Nat} (h : Bytes w ad c l) (hl : 0 < l.length) : ∃ bb off, ad = some ⟨bb, off, none⟩ ∧ ∀ k x : Nat, l[k]? = some x → x < 256 ∧ w.cell? ⟨bb, off + k, none⟩ = some (.int .u8 x) := by
  obtain ⟨x, bb, off, _, _, rfl, _, _⟩ := bytes_at h 0 hl
  refine ⟨bb, off, rfl, fun k y hy => ?_⟩
  obtain ⟨a, bb', off', e, _, hc⟩ := h.2.2.2 k y hy
  cases e
  exact ⟨a, hc⟩
theorem bytes_lt {w : World} {ad : Option Addr} {c : Nat} {l : List Nat} (h : Bytes w ad c l) : ∀ x ∈ l, x < 256 := by
  intro x hx
  obtain ⟨k, hk⟩ := List.mem_iff_getElem?.1 hx
  exact (h.2.2.2 k x hk).1
def vb (x : Nat) : Value := .int .u8 x
theorem vb_one (l : List Nat) : ∀ u ∈ l.map vb, u.oneCell' = true := by
  intro u hu
  obtain ⟨x, _, rfl⟩ := List.mem_map.1 hu
  rfl
theorem u8_info : (Try.prog.info? 5).map (fun i => (i.zero, i.size, i.bytes)) = some (some (.int .u8 0), 1, 1) := by kernel_rfl
/-- A row of bytes at block g, from block B on. -/
def Row (w : World) (B g cap : Nat) (l : List Nat) : Prop :=
  w.ownsRow B 5 1 (.slice (some ⟨g, 0, none⟩) l.length cap) l.length (l.map vb) ∧ ∀ x ∈ l, x < 256
section
variable {w w' : World} {B g cap : Nat} {l : List Nat}
theorem row_parts (h : Row w B g cap l) : B ≤ g ∧ g < w.heap.size ∧ l.length ≤ cap ∧ cap ≤ maxLen := by
  rcases h.1.2 with ⟨h', _⟩ | ⟨g', cap', cur, h', hb, hg, hnc, hcm, _⟩
  · simp at h'
  · simp only [Value.slice.injEq, Option.some.injEq, Addr.mk.injEq, and_true, true_and] at h'
    obtain ⟨rfl, rfl⟩ := h'
    exact ⟨hb, lt_of_block hg, hnc, hcm⟩
theorem row_cell (h : Row w B g cap l) {k x : Nat} (hx : l[k]? = some x) : w.cell? ⟨g, k, none⟩ = some (.int .u8 x) := by
  have hk := (List.getElem?_eq_some_iff.1 hx).1
  rw [h.1.cellAt k (by omega), List.getElem?_map, hx]; rfl
theorem row_frozen (h : Row w B g cap l) (k : Nat) : w.frozen? ⟨g, k, none⟩ = false := h.1.frozenAt k
theorem row_set (h : Row w B g cap l) (k x : Nat) (hx : x < 256) : Row (w.setCell ⟨g, k, none⟩ (.int .u8 x)) B g cap (l.set k x) := by
  have := (h.1.stored k (vb x)).1
  refine ⟨?_, fun y hy => ?_⟩
  · rw [List.length_set, List.map_set]; exact this
  · rcases List.mem_or_eq_of_mem_set hy with h1 | rfl
    · exact h.2 y h1
    · exact hx
theorem old_set {w0 : World} (h : Old w0 w) (hg : w0.heap.size ≤ g) (k : Nat) (v : Value) : Old w0 (w.setCell ⟨g, k, none⟩ v) :=
  Only.to_below (((Only.of_below h).setCell ⟨g, k, none⟩ v (fun hlt => absurd hlt (by show ¬ g < _; omega))))
theorem row_bytes (h : Row w B g cap l) : Bytes w (some ⟨g, 0, none⟩) cap l := by
  obtain ⟨a, b, c, d⟩ := row_parts h
  exact ⟨c, d, fun e => (by cases e), fun k x hx => ⟨h.2 x (List.mem_of_getElem? hx), g, 0, rfl, b, by rw [Nat.zero_add]; exact row_cell h hx⟩⟩
theorem row_old (h : Row w B g cap l) (ho : Old w w') : Row w' B g cap l := by
  refine ⟨⟨h.1.1, ?_⟩, h.2⟩
  rcases h.1.2 with h' | ⟨g', cap', cur, h', hb, hg, rest⟩
  · exact .inl h'
  · exact .inr ⟨g', cap', cur, h', hb, keep_old ho hg, rest⟩
theorem row_only {F : Nat → Prop} (h : Row w B g cap l) (ho : Only F w w') (hF : ¬ F g) : Row w' B g cap l := by
  refine ⟨⟨h.1.1, ?_⟩, h.2⟩
  rcases h.1.2 with h' | ⟨g', cap', cur, h', hb, hg, rest⟩
  · exact .inl h'
  · simp only [Value.slice.injEq, Option.some.injEq, Addr.mk.injEq, and_true, true_and] at h'
    obtain ⟨rfl, rfl⟩ := h'
    exact .inr ⟨g, cap, cur, rfl, hb, keep_only ho hF hg, rest⟩
/-- A row out of what append leaves. -/
theorem row_of {v : Value} {n : Nat} (h : w.ownsRow B 5 1 v n (l.map vb)) (hn : n = l.length) (h0 : 0 < n) (hl : ∀ x ∈ l, x < 256) : ∃ g cap, v = .slice (some ⟨g, 0, none⟩) l.length cap ∧ Row w B g cap l := by
  subst hn
  rcases h.2 with ⟨_, h'⟩ | ⟨g', cap', cur, rfl, _⟩
  · omega
  · exact ⟨g', cap', rfl, h, hl⟩
theorem old_grown {w0 : World} {row : Option Nat} (h : Old w0 w) (hg : w.grownBy w' row) (hr : ∀ g, row = some g → w0.heap.size ≤ g) : Old w0 w' :=
  ⟨hg.os.trans h.os, hg.tape.trans h.tape, hg.output.trans h.output, Nat.le_trans h.size hg.size, fun k hk =>
    (hg.block k (Nat.lt_of_lt_of_le hk h.size) (fun e => by have := hr k e.symm; omega)).trans (h.block k hk)⟩
end
theorem bytes_news {w : World} {bb off c : Nat} {l : List Nat} (h : Bytes w (some ⟨bb, off, none⟩) c l) : ∀ (j : Nat) (u : Value), (l.map vb)[j]? = some u → w.cell? ((⟨bb, off, none⟩ : Addr).add j) = some u := by
  intro j u hu
  rw [List.getElem?_map] at hu
  obtain ⟨x, hx, rfl⟩ := Option.map_eq_some_iff.1 hu
  obtain ⟨_, bb', off', e, _, hc⟩ := h.2.2.2 j x hx
  cases e
  by_cases h0 : j = 0
  · subst h0; exact hc
  · rw [show (⟨bb, off, none⟩ : Addr).add j = ⟨bb, off + j, none⟩ by simp [Addr.add, h0]]
    exact hc
theorem bytes_news2 {w : World} {a : Addr} {c : Nat} {l : List Nat} (h : Bytes w (some a) c l) : ∀ (j : Nat) (u : Value), (l.map vb)[j]? = some u → w.cell? (a.add j) = some u := by
  intro j u hu
  rw [List.getElem?_map] at hu
  obtain ⟨x, hx, rfl⟩ := Option.map_eq_some_iff.1 hu
  obtain ⟨_, bb, off, e, _, hc⟩ := h.2.2.2 j x hx
  cases e
  rw [add_eq _ _ rfl]
  exact hc
/-- The text that bytes make. -/
def strOf (l : List Nat) : ByteArray := ⟨(l.map UInt8.ofNat).toArray⟩
theorem conv_bytes {w : World} {ad : Addr} {c : Nat} {l : List Nat} (h : Bytes w (some ad) c l) : (convert 31 9 (.slice (some ad) l.length c)).run Try.prog w = .ok (.string (strOf l)) w := by
  have := run_convert_bytes_back (P := Try.prog) w 31 9 5 ad c (l.map UInt8.ofNat) Try.underlying31 Try.underlying5 Try.underlying9 (fun j hj => ?_)
  · rw [List.length_map] at this
    exact this
  · have hj' : j < l.length := by simpa using hj
    obtain ⟨hx, bb, off, e, _, hc⟩ := h.2.2.2 j _ (List.getElem?_eq_getElem hj')
    cases e
    have ea : (⟨bb, off, none⟩ : Addr).add j = ⟨bb, off + j, none⟩ := by
      by_cases h0 : j = 0
      · subst h0; rfl
      · simp [Addr.add, h0]
    rw [ea, hc]
    simp only [List.getElem_map, UInt8.toNat_ofNat']
    rw [Nat.mod_eq_of_lt (by omega)]
section
open Go.ChangeShapes Go.WideShapes Go.Deep Go.RowKit Go.Joins
variable {H : Type} {enc : TypeId × Value → H} {P : Program} {w : World}
theorem wf_u8 {x : Int} (h : (Lit.int .u8 x).wf = true) : 0 ≤ x ∧ x < 256 := by
  simp only [Lit.wf, Bool.and_eq_true, decide_eq_true_eq] at h
  have e1 : IntKind.u8.min = 0 := rfl
  have e2 : IntKind.u8.max = 255 := rfl
  rw [e1, e2] at h
  omega
end
end Go.Proofs.Ytfiofjalpaeohaa
namespace Go.Proofs.Ytfiofjalpaeohaa
set_option linter.unusedVariables false
set_option linter.unusedSimpArgs false
open Go.RowKit
/-- An append whose run is known. -/
theorem wpList_append_run {P : Program} {w : World} {ops : Array Oper} {rest : List Oper} {o : Oper} {a : Act} {Q : Exit → Act → World → Prop} (hgd : o.guard = none) (s x : Operand) (t : TypeId)
    (ho : o.op = .call { callee := .builtin .append, args := #[s, x], argTypes := #[t, t] }) (u v : Value) (hs : a.eval s = u) (hx : a.eval x = v) (v' : Value) (w' : World)
    (hrun : (Builtin.append_ #[t, t] o.type #[u, v]).run P w = .ok v' w') (h : wpList P ops Q rest (a.put o.dst v') w') : wpList P ops Q (o :: rest) a w := by
  refine wpList_plain hgd fun K hK => ?_
  unfold Oper.wp
  simp [execOp, ho, resolve, invoke, builtin, hs, hx, hrun, Result.andThen]
  exact hK _ _ h
/-- The first bytes of a slice. -/
theorem bytes_cut {w : World} {ad : Option Addr} {c : Nat} {l : List Nat} (h : Bytes w ad c l) (n : Nat) : Bytes w ad c (l.take n) := by
  refine ⟨?_, h.2.1, h.2.2.1, fun k x hx => h.2.2.2 k x ?_⟩
  · rw [List.length_take]; exact Nat.le_trans (Nat.min_le_right _ _) h.1
  · rw [List.getElem?_take] at hx
    split at hx
    · exact hx
    · cases hx
theorem cell_new1 (w : World) (v : Value) (t : TypeId) (b : Nat) (hb : b = w.heap.size) : ∀ (j : Nat) (u : Value), [v][j]? = some u → (w.alloc (.cells #[v] t)).cell? ((⟨b, 0, none⟩ : Addr).add j) = some u := by
  subst hb
  intro j u hu
  cases j with
  | zero =>
    rw [add_eq _ _ rfl, cell_of (new_block _ _)]
    exact hu
  | succ j => simp at hu
set_option maxRecDepth 100000 in
/-- append([]byte{}, page...). -/
theorem copy_run (ty : TypeId) (w : World) (ad : Option Addr) (c : Nat) (L : List Nat) (hB : Bytes w ad c L) (hL : L.length ≤ 1000000) :
    ∃ v w2, (Builtin.append_ #[31, 31] ty #[.slice (some ⟨w.heap.size, 0, none⟩) 0 0, .slice ad L.length c]).run Try.prog (w.alloc (.cells #[] 5)) = .ok v w2 ∧
      w2.ownsRow w.heap.size 5 1 v L.length (L.map vb) ∧ Old w w2 ∧ w.heap.size < w2.heap.size := by
  obtain ⟨i0, hi, hz0, hz1, hz2⟩ := info_parts u8_info
  have hlit : (w.alloc (.cells #[] 5)).ownsRow w.heap.size 5 1 (.slice (some ⟨w.heap.size, 0, none⟩) 0 0) 0 [] := World.ownsRow_lit w #[] 0 (Nat.le_refl _) (by decide) rfl
  have hO1 : Old w (w.alloc (.cells #[] 5)) := old_alloc (old_refl w) _
  have hs1 : w.heap.size < (w.alloc (.cells #[] 5)).heap.size := by simp
  have hBL := bytes_old hB hO1
  cases ad with
  | none =>
    have h0 := hB.2.2.1 rfl
    obtain rfl : L = [] := by
      cases L with
      | nil => rfl
      | cons x l => have := hB.1; simp at this; omega
    subst h0
    exact ⟨_, _, run_append_owned_none (P := Try.prog) _ w.heap.size 31 ty 5 i0 1 Try.underlying31 hi _ 0 [] hlit, hlit, hO1, hs1⟩
  | some a =>
    obtain ⟨v, w2, hrun, hown, hgrow, -⟩ := run_append_own (P := Try.prog) (w.alloc (.cells #[] 5)) w.heap.size 31 ty 5 i0 (.int .u8 0) 1 1 Try.underlying31 hi hz0 hz1 hz2 rfl (by decide) _ 0 [] hlit a L.length c (L.map vb) (by simp) (bytes_news2 hBL) (vb_one L) (by unfold maxLen; omega) (by omega) hO1.size
    simp only [Nat.zero_add, List.nil_append] at hown
    refine ⟨v, w2, hrun, hown, old_grown hO1 hgrow (fun g e => ?_), Nat.lt_of_lt_of_le hs1 hgrow.size⟩
    have e' : some w.heap.size = some g := e
    have := Option.some.inj e'
    omega
set_option maxRecDepth 100000 in
/-- append(.., 0xA5): the copy and the mark. -/
theorem mark_run (ty : TypeId) {w w2 : World} {B : Nat} {v : Value} {L : List Nat} (h : w2.ownsRow B 5 1 v L.length (L.map vb)) (hB : B = w.heap.size) (hO : Old w w2) (hsz : w.heap.size < w2.heap.size) (hL : L.length ≤ 1000000) (h256 : ∀ x ∈ L, x < 256) :
    ∃ g cap w3, (Builtin.append_ #[31, 31] ty #[v, .slice (some ⟨w2.heap.size, 0, none⟩) 1 1]).run Try.prog (w2.alloc (.cells #[.int .u8 165] 5)) = .ok (.slice (some ⟨g, 0, none⟩) (L.length + 1) cap) w3 ∧
      Row w3 w.heap.size g cap (L ++ [165]) ∧ Old w w3 ∧ L.length + 1 ≤ cap ∧ cap ≤ maxLen := by
  subst hB
  obtain ⟨i0, hi, hz0, hz1, hz2⟩ := info_parts u8_info
  have hown1 := h.alloc (.cells #[.int .u8 165] 5)
  have hle : w.heap.size ≤ (w2.alloc (.cells #[.int .u8 165] 5)).heap.size := by simp; omega
  obtain ⟨v3, w3, hrun, hown, hgrow, -⟩ := run_append_own (P := Try.prog) (w2.alloc (.cells #[.int .u8 165] 5)) w.heap.size 31 ty 5 i0 (.int .u8 0) 1 1 Try.underlying31 hi hz0 hz1 hz2 rfl (by decide) v L.length (L.map vb) hown1 ⟨w2.heap.size, 0, none⟩ 1 1 [.int .u8 165] rfl (cell_new1 _ _ _ _ rfl) (by simp [Value.oneCell']) (by unfold maxLen; omega) (by omega) hle
  have h256' : ∀ x ∈ L ++ [165], x < 256 := by
    intro x hx
    rcases List.mem_append.1 hx with h | h
    · exact h256 x h
    · simp at h; omega
  obtain ⟨g, cap, rfl, hrow⟩ := row_of (l := L ++ [165]) (n := L.length + 1) (by rw [List.map_append]; exact hown) (by simp) (by omega) h256'
  have hlen : (L ++ [165]).length = L.length + 1 := by simp
  rw [hlen] at hrun
  have hp := row_parts hrow
  rw [hlen] at hp
  refine ⟨g, cap, w3, hrun, hrow, old_grown (old_alloc hO _) hgrow (fun g e => (hown1.lt g e).1), hp.2.2.1, hp.2.2.2⟩
set_option maxRecDepth 100000 in
theorem slice_cut (w : World) (g n cap len : Nat) (h : n ≤ cap) : (Instr.slice 31 (.slice (some ⟨g, 0, none⟩) len cap) none (some (.int .i64 n)) none).run Try.prog w = .ok (.slice (some ⟨g, 0, none⟩) n cap) w := by
  rw [run_slice_h (P := Try.prog) w 31 (some ⟨g, 0, none⟩) len cap rfl .i64 n (by omega) (by omega)]
  have hs : (sizeOf (Try.prog.elem 31)).run Try.prog w = .ok 1 w := by kernel_rfl
  rw [hs]
  simp [Result.andThen, sliced, Addr.add]
set_option maxRecDepth 100000 in
theorem slice_cut_any (w : World) (ad : Option Addr) (n cap len : Nat) (h : n ≤ cap) : (Instr.slice 31 (.slice ad len cap) none (some (.int .i64 n)) none).run Try.prog w = .ok (.slice ad n cap) w := by
  rw [run_slice_h (P := Try.prog) w 31 ad len cap rfl .i64 n (by omega) (by omega)]
  have hs : (sizeOf (Try.prog.elem 31)).run Try.prog w = .ok 1 w := by kernel_rfl
  rw [hs]
  cases ad <;> simp [Result.andThen, sliced, Addr.add]
end Go.Proofs.Ytfiofjalpaeohaa
namespace Go.Proofs.Ytfiofjalpaeohaa
set_option linter.unusedVariables false
set_option linter.unusedSimpArgs false
open Go.RowKit
theorem own_only {F : Nat → Prop} {w w' : World} {B : Nat} {e : TypeId} {s n : Nat} {v : Value} {xs : List Value} (h : w.ownsRow B e s v n xs) (ho : Only F w w') (hF : ∀ b, B ≤ b → ¬ F b) : w'.ownsRow B e s v n xs := by
  refine ⟨h.1, ?_⟩
  rcases h.2 with h' | ⟨g, cap, cur, h', hb, hg, rest⟩
  · exact .inl h'
  · exact .inr ⟨g, cap, cur, h', hb, keep_only ho (hF g hb) hg, rest⟩
theorem own_old {w w' : World} {B : Nat} {e : TypeId} {s n : Nat} {v : Value} {xs : List Value} (h : w.ownsRow B e s v n xs) (ho : Old w w') : w'.ownsRow B e s v n xs :=
  own_only h (Only.of_below ho) (fun _ _ f => f)
theorem news_block (w : World) (l : List Value) (t : TypeId) (b : Nat) (hb : b = w.heap.size) : ∀ (j : Nat) (u : Value), l[j]? = some u → (w.alloc (.cells l.toArray t)).cell? ((⟨b, 0, none⟩ : Addr).add j) = some u := by
  subst hb
  intro j u hu
  rw [add_eq _ _ rfl, cell_of (new_block _ _)]
  simpa using hu
/-- What an append leaves, told by blocks. -/
theorem grown_only {w w' : World} {row : Option Nat} (h : w.grownBy w' row) : Only (fun b => some b = row) w w' :=
  ⟨h.os, h.tape, h.output, h.size, fun k hk hF => h.block k hk (fun e => hF e)⟩
/-- A row's value. -/
theorem own_value {w : World} {B : Nat} {e : TypeId} {s n : Nat} {v : Value} {xs : List Value} (h : w.ownsRow B e s v n xs) : ∃ ad c, v = .slice ad n c ∧ n ≤ c ∧ c ≤ maxLen ∧ (∀ bb off, ad = some ⟨bb, off, none⟩ → off = 0 ∧ B ≤ bb ∧ bb < w.heap.size) ∧ (0 < n → ∃ g, ad = some ⟨g, 0, none⟩) := by
  rcases h.2 with ⟨rfl, rfl⟩ | ⟨g, cap, cur, rfl, hb, hg, hnc, hcm, _⟩
  · exact ⟨none, 0, rfl, Nat.le_refl _, Nat.zero_le _, (fun _ _ e => by cases e), fun f => absurd f (Nat.lt_irrefl _)⟩
  · exact ⟨some ⟨g, 0, none⟩, cap, rfl, hnc, hcm, (fun _ _ e => by cases e; exact ⟨rfl, hb, lt_of_block hg⟩), fun _ => ⟨g, rfl⟩⟩
/-- A row's cell. -/
theorem own_cell {w : World} {B : Nat} {e : TypeId} {s n c : Nat} {ad : Option Addr} {xs : List Value} (h : w.ownsRow B e s (.slice ad n c) n xs) {g off : Nat} (ha : ad = some ⟨g, off, none⟩) (j : Nat) {u : Value} (hu : xs[j]? = some u) : w.cell? ⟨g, j, none⟩ = some u := by
  rcases h.2 with ⟨e', h0⟩ | ⟨g', cap, cur, e', hb, hg, hnc, hcm, hcs, ht⟩
  · subst ha; cases e'
  · subst ha
    simp only [Value.slice.injEq, Option.some.injEq, Addr.mk.injEq, and_true, true_and] at e'
    obtain ⟨⟨rfl, rfl⟩, rfl⟩ := e'
    have hj : j < n * s := by rw [← h.1]; exact (List.getElem?_eq_some_iff.1 hu).1
    rw [← hu, ← ht, List.getElem?_take, if_pos hj]
    show _ = _
    rw [World.cell?, hg]
    simp
end Go.Proofs.Ytfiofjalpaeohaa
namespace Go.Proofs.Ytfiofjalpaeohaa
set_option linter.unusedVariables false
set_option linter.unusedSimpArgs false
open Go.RowKit
section
variable {P : Program} {w : World}
theorem run_loadVar_at (g o : Nat) (ty : TypeId) (cells : List Value) (d : TypeDesc) (hc : ∀ (c : Nat) (v : Value), cells[c]? = some v → w.cell? ⟨g, o + c, none⟩ = some v)
    (hu : P.underlying ty = some d) (hd : (match d with | .struct _ | .array _ _ => true | _ => false) = true) (hi : (P.info? ty).map (·.size) = some cells.length) :
    (loadVar ty ⟨g, o, none⟩).run P w = .ok (.agg cells.toArray) w := by
  have hl : (loadCells ⟨g, o, none⟩ cells.length).run P w = .ok cells.toArray w :=
    run_loadCells_list (P := P) w ⟨g, o, none⟩ cells (fun j v hv => by
      rw [add_eq _ _ rfl]
      exact hc j v hv)
  cases hq : P.info? ty with
  | none => simp [hq] at hi
  | some i =>
    have hs : i.size = cells.length := by simpa [hq] using hi
    have hagg : (isAgg ty).run P w = .ok true w := by
      unfold isAgg
      rw [Sem.run_bind, run_underlying hu w]
      cases d <;> simp_all
    simp [loadVar, Sem.run_bind, hagg, sizeOf, typeInfo, hq, hs, hl]
theorem wpList_load_at {ops : Array Oper} {rest : List Oper} {o : Oper} {a : Act} {Q : Exit → Act → World → Prop} (hgd : o.guard = none) (ty : TypeId) (x : Operand) (ho : o.op = .load ty x)
    (g off : Nat) (hx : a.eval x = .pointer (some ⟨g, off, none⟩)) (cells : List Value) (d : TypeDesc) (hc : ∀ (c : Nat) (v : Value), cells[c]? = some v → w.cell? ⟨g, off + c, none⟩ = some v)
    (hu : P.underlying ty = some d) (hd : (match d with | .struct _ | .array _ _ => true | _ => false) = true) (hi : (P.info? ty).map (·.size) = some cells.length)
    (h : wpList P ops Q rest (a.put o.dst (.agg cells.toArray)) w) : wpList P ops Q (o :: rest) a w := by
  refine wpList_plain hgd fun K hK => ?_
  unfold Oper.wp execOp
  simp only [ho, hx, Instr.loadAt, Instr.sureAddr, Sem.run_bind, Sem.run_pure, Result.andThen_ok, run_loadVar_at g off ty cells d hc hu hd hi]
  exact hK _ _ h
end
/-- A row of structs. -/
def flatC {α : Type} (f : α → List Value) : List α → List Value
  | [] => []
  | a :: l => f a ++ flatC f l
section
variable {α : Type} {f : α → List Value} {k : Nat}
theorem flatC_append (l m : List α) : flatC f (l ++ m) = flatC f l ++ flatC f m := by
  induction l with
  | nil => rfl
  | cons s l ih => simp only [List.cons_append, flatC, ih, List.append_assoc]
theorem flatC_length (hf : ∀ a, (f a).length = k) (l : List α) : (flatC f l).length = l.length * k := by
  induction l with
  | nil => simp [flatC]
  | cons s l ih => simp only [flatC, List.length_append, ih, List.length_cons, hf]; rw [Nat.add_mul]; omega
theorem flatC_get (hf : ∀ a, (f a).length = k) : ∀ (l : List α) (i : Nat) (s : α) (c : Nat) (v : Value), l[i]? = some s → (f s)[c]? = some v → (flatC f l)[i * k + c]? = some v
  | [], i, s, c, v, h, _ => by simp at h
  | t :: l, 0, s, c, v, h, hc => by
    simp at h; subst h
    have hl := (List.getElem?_eq_some_iff.1 hc).1
    simp only [flatC, Nat.zero_mul, Nat.zero_add]
    rw [List.getElem?_append_left hl]; exact hc
  | t :: l, i + 1, s, c, v, h, hc => by
    have := flatC_get hf l i s c v (by simpa using h) hc
    have e : (i + 1) * k + c = (f t).length + (i * k + c) := by rw [hf, Nat.add_mul]; omega
    rw [flatC, e, List.getElem?_append_right (Nat.le_add_right _ _), Nat.add_sub_cancel_left]; exact this
end
end Go.Proofs.Ytfiofjalpaeohaa
namespace Go.Proofs.Ytfiofjalpaeohaa
set_option linter.unusedVariables false
set_option linter.unusedSimpArgs false
open Go.RowKit
/-- A byte of the list. -/
def look5 (L : List (Nat × Nat)) (a : Nat) : Nat := match L with
  | [] => 0
  | p :: t => if p.1 = a then p.2 else look5 t a
/-- Each address once, no byte 0. -/
def Good5 (L : List (Nat × Nat)) : Prop := (L.map (·.1)).Nodup ∧ ∀ p ∈ L, p.2 ≠ 0 ∧ p.2 < 256
theorem good5_nil : Good5 [] := ⟨.nil, fun p hp => by cases hp⟩
theorem look5_none {L : List (Nat × Nat)} {a : Nat} (h : ∀ p ∈ L, p.1 ≠ a) : look5 L a = 0 := by
  induction L with
  | nil => rfl
  | cons p t ih =>
    unfold look5
    rw [if_neg (h p (List.mem_cons_self ..))]
    exact ih fun q hq => h q (List.mem_cons_of_mem _ hq)
theorem look5_mem {L : List (Nat × Nat)} (hg : Good5 L) {p : Nat × Nat} (h : p ∈ L) : look5 L p.1 = p.2 := by
  induction L with
  | nil => cases h
  | cons q t ih =>
    have hn := List.nodup_cons.1 hg.1
    unfold look5
    rcases List.mem_cons.1 h with h | h
    · rw [h, if_pos rfl]
    · have : q.1 ≠ p.1 := fun e => hn.1 (List.mem_map.2 ⟨p, h, e.symm⟩)
      rw [if_neg this]
      exact ih ⟨hn.2, fun r hr => hg.2 r (List.mem_cons_of_mem _ hr)⟩ h
theorem look5_zero {L : List (Nat × Nat)} (hg : Good5 L) {a : Nat} : look5 L a = 0 ↔ ∀ p ∈ L, p.1 ≠ a := by
  refine ⟨fun h p hp e => ?_, look5_none⟩
  have := look5_mem hg hp
  rw [e, h] at this
  exact (hg.2 p hp).1 this.symm
theorem look5_lt {L : List (Nat × Nat)} (hg : Good5 L) (a : Nat) : look5 L a < 256 := by
  by_cases h : ∀ p ∈ L, p.1 ≠ a
  · rw [look5_none h]; decide
  · have ⟨p, hp⟩ := Classical.not_forall.1 h
    have ⟨h1, h2⟩ := Classical.not_imp.1 hp
    have e : p.1 = a := Classical.not_not.1 h2
    have := look5_mem hg h1
    rw [e] at this
    rw [this]; exact (hg.2 p h1).2
theorem look5_append {L K : List (Nat × Nat)} {a : Nat} (h : ∀ p ∈ L, p.1 ≠ a) : look5 (L ++ K) a = look5 K a := by
  induction L with
  | nil => rfl
  | cons p t ih =>
    rw [List.cons_append]
    conv => lhs; unfold look5
    rw [if_neg (h p (List.mem_cons_self ..))]
    exact ih fun q hq => h q (List.mem_cons_of_mem _ hq)
theorem look5_append_left {L K : List (Nat × Nat)} {a : Nat} (h : ∀ p ∈ K, p.1 ≠ a) : look5 (L ++ K) a = look5 L a := by
  induction L with
  | nil => rw [List.nil_append, look5_none h]; rfl
  | cons p t ih =>
    rw [List.cons_append]
    unfold look5
    rw [ih]
/-- Where an address lies. -/
theorem split5 {L : List (Nat × Nat)} (hg : Good5 L) {i : Nat} {p : Nat × Nat} (h : L[i]? = some p) : (∀ q ∈ L.take i, q.1 ≠ p.1) ∧ (∀ q ∈ L.drop (i + 1), q.1 ≠ p.1) ∧ L = L.take i ++ p :: L.drop (i + 1) := by
  obtain ⟨hi, hp⟩ := List.getElem?_eq_some_iff.1 h
  have e : L = L.take i ++ p :: L.drop (i + 1) := by rw [← hp, List.getElem_cons_drop, List.take_append_drop]
  have hn := hg.1
  rw [e, List.map_append, List.map_cons, List.nodup_append] at hn
  refine ⟨fun q hq e' => ?_, fun q hq e' => ?_, e⟩
  · exact hn.2.2 q.1 (List.mem_map.2 ⟨q, hq, rfl⟩) p.1 (List.mem_cons_self ..) e'
  · exact (List.nodup_cons.1 hn.2.1).1 (by rw [← e']; exact List.mem_map.2 ⟨q, hq, rfl⟩)
theorem good5_parts {A B : List (Nat × Nat)} : Good5 (A ++ B) ↔ Good5 A ∧ Good5 B ∧ ∀ p ∈ A, ∀ q ∈ B, p.1 ≠ q.1 := by
  unfold Good5
  rw [List.map_append, List.nodup_append]
  constructor
  · rintro ⟨⟨h1, h2, h3⟩, h4⟩
    exact ⟨⟨h1, fun p hp => h4 p (List.mem_append_left _ hp)⟩, ⟨h2, fun p hp => h4 p (List.mem_append_right _ hp)⟩, fun p hp q hq => h3 _ (List.mem_map.2 ⟨p, hp, rfl⟩) _ (List.mem_map.2 ⟨q, hq, rfl⟩)⟩
  · rintro ⟨⟨h1, h2⟩, ⟨h3, h4⟩, h5⟩
    refine ⟨⟨h1, h3, fun a ha b hb => ?_⟩, fun p hp => ?_⟩
    · obtain ⟨p, hp, rfl⟩ := List.mem_map.1 ha
      obtain ⟨q, hq, rfl⟩ := List.mem_map.1 hb
      exact h5 p hp q hq
    · rcases List.mem_append.1 hp with hp | hp
      · exact h2 p hp
      · exact h4 p hp
/-- A byte struck out. -/
theorem cut5 {L : List (Nat × Nat)} (hg : Good5 L) {i : Nat} {p : Nat × Nat} (h : L[i]? = some p) : Good5 (L.take i ++ L.drop (i + 1)) ∧ ∀ x, look5 (L.take i ++ L.drop (i + 1)) x = if x = p.1 then 0 else look5 L x := by
  obtain ⟨h1, h2, e⟩ := split5 hg h
  have hg' := hg
  rw [e] at hg'
  rw [show p :: L.drop (i + 1) = [p] ++ L.drop (i + 1) from rfl, good5_parts, good5_parts] at hg'
  have hn : Good5 (L.take i ++ L.drop (i + 1)) := good5_parts.2 ⟨hg'.1, hg'.2.1.2.1, fun a ha b hb => hg'.2.2 a ha b (List.mem_append_right _ hb)⟩
  refine ⟨hn, fun x => ?_⟩
  by_cases hx : x = p.1
  · rw [if_pos hx, hx]
    refine look5_none fun q hq => ?_
    rcases List.mem_append.1 hq with hq | hq
    · exact h1 q hq
    · exact h2 q hq
  · rw [if_neg hx]
    conv => rhs; rw [e]
    clear hn hg' e
    generalize L.take i = A at *
    generalize L.drop (i + 1) = B at *
    clear h1
    induction A with
    | nil =>
      rw [List.nil_append, List.nil_append]
      conv => rhs; unfold look5
      rw [if_neg (fun e => hx e.symm)]
    | cons q t ih =>
      rw [List.cons_append, List.cons_append]
      unfold look5
      rw [ih]
/-- A byte changed. -/
theorem put5 {L : List (Nat × Nat)} (hg : Good5 L) {i b : Nat} {p : Nat × Nat} (h : L[i]? = some p) (hb : b ≠ 0) (hb2 : b < 256) : Good5 (L.set i (p.1, b)) ∧ ∀ x, look5 (L.set i (p.1, b)) x = if x = p.1 then b else look5 L x := by
  obtain ⟨h1, h2, e⟩ := split5 hg h
  obtain ⟨hi, -⟩ := List.getElem?_eq_some_iff.1 h
  have es : L.set i (p.1, b) = L.take i ++ (p.1, b) :: L.drop (i + 1) := by rw [List.set_eq_take_append_cons_drop, if_pos hi]
  have hg' := hg
  rw [e] at hg'
  rw [show p :: L.drop (i + 1) = [p] ++ L.drop (i + 1) from rfl, good5_parts, good5_parts] at hg'
  rw [es]
  have hn : Good5 (L.take i ++ (p.1, b) :: L.drop (i + 1)) := by
    rw [show (p.1, b) :: L.drop (i + 1) = [(p.1, b)] ++ L.drop (i + 1) from rfl, good5_parts, good5_parts]
    refine ⟨hg'.1, ⟨⟨by simp, fun q hq => ?_⟩, hg'.2.1.2.1, fun a ha c hc => ?_⟩, fun a ha c hc => ?_⟩
    · rw [List.mem_singleton.1 hq]; exact ⟨hb, hb2⟩
    · rw [List.mem_singleton.1 ha]; exact fun e' => h2 c hc e'.symm
    · rcases List.mem_append.1 hc with hc | hc
      · rw [List.mem_singleton.1 hc]; exact h1 a ha
      · exact hg'.2.2 a ha c (List.mem_append_right _ hc)
  refine ⟨hn, fun x => ?_⟩
  by_cases hx : x = p.1
  · rw [if_pos hx, hx]
    exact look5_mem hn (p := (p.1, b)) (by simp)
  · rw [if_neg hx]
    conv => rhs; rw [e]
    clear hn hg' es e
    generalize L.take i = A at *
    clear h1
    induction A with
    | nil =>
      rw [List.nil_append, List.nil_append]
      unfold look5
      rw [if_neg (fun e => hx e.symm), if_neg (fun e => hx e.symm)]
    | cons q t ih =>
      rw [List.cons_append, List.cons_append]
      unfold look5
      rw [ih]
/-- A byte laid behind. -/
theorem add5 {L : List (Nat × Nat)} (hg : Good5 L) {a b : Nat} (h : ∀ p ∈ L, p.1 ≠ a) (hb : b ≠ 0) (hb2 : b < 256) : Good5 (L ++ [(a, b)]) ∧ ∀ x, look5 (L ++ [(a, b)]) x = if x = a then b else look5 L x := by
  refine ⟨good5_parts.2 ⟨hg, ⟨by simp, fun q hq => ?_⟩, fun p hp q hq => ?_⟩, fun x => ?_⟩
  · rw [List.mem_singleton.1 hq]; exact ⟨hb, hb2⟩
  · rw [List.mem_singleton.1 hq]; exact h p hp
  · by_cases hx : x = a
    · rw [if_pos hx, hx, look5_append h]; unfold look5; rw [if_pos rfl]
    · rw [if_neg hx, look5_append_left (fun p hp => by rw [List.mem_singleton.1 hp]; exact fun e => hx e.symm)]
/-- A page struck out. -/
theorem page5 {L : List (Nat × Nat)} (hg : Good5 L) (f : Nat) : Good5 (L.filter (fun p => decide (p.1 / 4096 ≠ f))) ∧ ∀ x, look5 (L.filter (fun p => decide (p.1 / 4096 ≠ f))) x = if x / 4096 = f then 0 else look5 L x := by
  have hn : Good5 (L.filter (fun p => decide (p.1 / 4096 ≠ f))) := by
    refine ⟨(List.filter_sublist.map (fun p : Nat × Nat => p.1)).nodup hg.1, fun p hp => hg.2 p (List.mem_filter.1 hp).1⟩
  refine ⟨hn, fun x => ?_⟩
  by_cases hx : x / 4096 = f
  · rw [if_pos hx]
    refine look5_none fun p hp e => ?_
    have := (List.mem_filter.1 hp).2
    rw [decide_eq_true_eq, e] at this
    exact this hx
  · rw [if_neg hx]
    by_cases h1 : ∀ p ∈ L, p.1 ≠ x
    · rw [look5_none h1, look5_none (fun p hp => h1 p (List.mem_filter.1 hp).1)]
    · have ⟨p, hp⟩ := Classical.not_forall.1 h1
      have ⟨h2, h3⟩ := Classical.not_imp.1 hp
      have e : p.1 = x := Classical.not_not.1 h3
      rw [← e, look5_mem hg h2, look5_mem hn (List.mem_filter.2 ⟨h2, by rw [decide_eq_true_eq, e]; exact hx⟩)]
/-- A page without bytes. -/
theorem clear5 {L : List (Nat × Nat)} (hg : Good5 L) (f : Nat) : (∀ p ∈ L, p.1 / 4096 ≠ f) ↔ ∀ x, x / 4096 = f → look5 L x = 0 := by
  constructor
  · intro h x hx
    exact look5_none fun p hp e => h p hp (by rw [e]; exact hx)
  · intro h p hp e
    have := look5_mem hg hp
    rw [h _ e] at this
    exact (hg.2 p hp).1 this.symm
end Go.Proofs.Ytfiofjalpaeohaa
namespace Go.Proofs.Ytfiofjalpaeohaa
set_option linter.unusedVariables false
set_option linter.unusedSimpArgs false
open Go.RowKit
/-- Get's step. -/
theorem take5_succ {L : List (Nat × Nat)} (hg : Good5 L) {i : Nat} {p : Nat × Nat} (h : L[i]? = some p) (x : Nat) : look5 (L.take (i + 1)) x = if x = p.1 then p.2 else look5 (L.take i) x := by
  obtain ⟨h1, -, e⟩ := split5 hg h
  rw [List.take_add_one, h, Option.toList_some]
  by_cases hx : x = p.1
  · rw [if_pos hx, hx, look5_append h1]; unfold look5; rw [if_pos rfl]
  · rw [if_neg hx, look5_append_left (fun q hq => by rw [List.mem_singleton.1 hq]; exact fun e => hx e.symm)]
/-- The cells of a page. -/
def cells5 (f : Nat) (pg : Nat → Nat) (n : Nat) : List (Nat × Nat) := (List.range n).filterMap (fun i => if pg i = 0 then none else some (f * 4096 + i, pg i))
theorem cells5_succ (f : Nat) (pg : Nat → Nat) (n : Nat) : cells5 f pg (n + 1) = cells5 f pg n ++ (if pg n = 0 then [] else [(f * 4096 + n, pg n)]) := by
  unfold cells5
  rw [List.range_succ, List.filterMap_append]
  congr 1
  by_cases h : pg n = 0
  · simp [List.filterMap_cons, h]
  · simp [List.filterMap_cons, h]
theorem mem_cells5 {f : Nat} {pg : Nat → Nat} {n : Nat} {p : Nat × Nat} : p ∈ cells5 f pg n ↔ ∃ i, i < n ∧ pg i ≠ 0 ∧ p = (f * 4096 + i, pg i) := by
  unfold cells5
  rw [List.mem_filterMap]
  constructor
  · rintro ⟨i, h1, h2⟩
    by_cases h : pg i = 0
    · rw [if_pos h] at h2; cases h2
    · rw [if_neg h] at h2; exact ⟨i, List.mem_range.1 h1, h, (Option.some.inj h2).symm⟩
  · rintro ⟨i, h1, h2, h3⟩
    exact ⟨i, List.mem_range.2 h1, by rw [if_neg h2, h3]⟩
theorem cells5_zero (f : Nat) {pg : Nat → Nat} {n : Nat} (h : ∀ i, i < n → pg i = 0) : cells5 f pg n = [] := by
  refine List.eq_nil_iff_forall_not_mem.2 (fun p hp => ?_)
  obtain ⟨i, h1, h2, -⟩ := mem_cells5.1 hp
  exact h2 (h i h1)
/-- Each step of Set's second loop. -/
theorem set5_step {L : List (Nat × Nat)} (hg : Good5 L) (f : Nat) (pg : Nat → Nat) (hp : ∀ i, pg i < 256) : ∀ n, n ≤ 4096 →
    Good5 (L.filter (fun p => decide (p.1 / 4096 ≠ f)) ++ cells5 f pg n) ∧ ∀ x, look5 (L.filter (fun p => decide (p.1 / 4096 ≠ f)) ++ cells5 f pg n) x = if x / 4096 = f then (if x % 4096 < n then pg (x % 4096) else 0) else look5 L x := by
  obtain ⟨h1, h2⟩ := page5 hg f
  intro n
  induction n with
  | zero =>
    intro _
    rw [show cells5 f pg 0 = [] from rfl, List.append_nil]
    refine ⟨h1, fun x => ?_⟩
    rw [h2]
    simp
  | succ n ih =>
    intro hn
    obtain ⟨g1, g2⟩ := ih (by omega)
    rw [cells5_succ, ← List.append_assoc]
    by_cases h0 : pg n = 0
    · rw [if_pos h0, List.append_nil]
      refine ⟨g1, fun x => ?_⟩
      rw [g2]
      by_cases hx : x / 4096 = f
      · rw [if_pos hx, if_pos hx]
        by_cases h3 : x % 4096 < n
        · rw [if_pos h3, if_pos (by omega)]
        · rw [if_neg h3]
          by_cases h4 : x % 4096 = n
          · rw [if_pos (by omega), h4, h0]
          · rw [if_neg (by omega)]
      · rw [if_neg hx, if_neg hx]
    · rw [if_neg h0]
      have hno : ∀ p ∈ L.filter (fun p => decide (p.1 / 4096 ≠ f)) ++ cells5 f pg n, p.1 ≠ f * 4096 + n := by
        refine (look5_zero g1).1 ?_
        rw [g2, if_pos (by omega), if_neg (by omega)]
      obtain ⟨k1, k2⟩ := add5 g1 hno h0 (hp n)
      refine ⟨k1, fun x => ?_⟩
      rw [k2, g2]
      by_cases hx : x = f * 4096 + n
      · rw [if_pos hx, if_pos (by omega), if_pos (by omega), show x % 4096 = n by omega]
      · rw [if_neg hx]
        by_cases hf : x / 4096 = f
        · rw [if_pos hf, if_pos hf]
          by_cases h3 : x % 4096 < n
          · rw [if_pos h3, if_pos (by omega)]
          · rw [if_neg h3, if_neg (by omega)]
        · rw [if_neg hf, if_neg hf]
theorem set5 {L : List (Nat × Nat)} (hg : Good5 L) (f : Nat) (pg : Nat → Nat) (hp : ∀ i, pg i < 256) :
    Good5 (L.filter (fun p => decide (p.1 / 4096 ≠ f)) ++ cells5 f pg 4096) ∧ ∀ x, look5 (L.filter (fun p => decide (p.1 / 4096 ≠ f)) ++ cells5 f pg 4096) x = if x / 4096 = f then pg (x % 4096) else look5 L x := by
  obtain ⟨h1, h2⟩ := set5_step hg f pg hp 4096 (Nat.le_refl _)
  refine ⟨h1, fun x => ?_⟩
  rw [h2]
  by_cases hx : x / 4096 = f
  · rw [if_pos hx, if_pos hx, if_pos (by omega)]
  · rw [if_neg hx, if_neg hx]
theorem take_filter_succ {L : List (Nat × Nat)} {i : Nat} {p : Nat × Nat} (h : L[i]? = some p) (f : Nat) :
    (L.take (i + 1)).filter (fun p => decide (p.1 / 4096 ≠ f)) = (L.take i).filter (fun p => decide (p.1 / 4096 ≠ f)) ++ (if p.1 / 4096 = f then [] else [p]) := by
  rw [List.take_add_one, h, Option.toList_some, List.filter_append]
  congr 1
  by_cases hx : p.1 / 4096 = f
  · rw [if_pos hx]; simp [List.filter_cons, hx]
  · rw [if_neg hx]; simp [List.filter_cons, hx]
theorem drop5 {α : Type} (l : List α) (i : Nat) (a : α) (h : l[i]? = some a) : l.drop i = a :: l.drop (i + 1) := by
  obtain ⟨hi, rfl⟩ := List.getElem?_eq_some_iff.1 h
  exact List.drop_eq_getElem_cons hi
end Go.Proofs.Ytfiofjalpaeohaa
namespace Go.Proofs.Ytfiofjalpaeohaa
set_option linter.unusedVariables false
set_option linter.unusedSimpArgs false
open Go.RowKit
def c5 (p : Nat × Nat) : List Value := [.int .u64 (p.1 : Nat), .int .u8 (p.2 : Nat)]
theorem c5_len (p : Nat × Nat) : (c5 p).length = 2 := rfl
/-- Block q holds the document's memory. -/
structure IsR5 (x : World) (q : Nat) (ad : Option Addr) (c n ops : Nat) (L : List (Nat × Nat)) : Prop where
  hq : x.heap[q]? = some (.cells #[.int .i64 (n : Nat), .slice ad L.length c, .int .i64 (ops : Nat)] 103)
  hL : x.ownsRow 0 146 2 (.slice ad L.length c) L.length (flatC c5 L)
  ne : ∀ b off, ad = some ⟨b, off, none⟩ → b ≠ q
  good : Good5 L
  lim : L.length ≤ 200000
  hn : 1 ≤ n ∧ n ≤ 1048576
  at_ : ∀ p ∈ L, p.1 < n * 4096
section
variable {w x y : World} {q c n ops : Nat} {ad : Option Addr} {L : List (Nat × Nat)}
theorem r5_only {G : Nat → Prop} (h : IsR5 x q ad c n ops L) (ho : Only G x y) (hq : ¬ G q) (hb : ∀ b off, ad = some ⟨b, off, none⟩ → ¬ G b) : IsR5 y q ad c n ops L := by
  refine { h with hq := keep_only ho hq h.hq, hL := ⟨h.hL.1, ?_⟩ }
  rcases h.hL.2 with h' | ⟨g, cap, cur, h', h1, h2, h3⟩
  · exact .inl h'
  · refine .inr ⟨g, cap, cur, h', h1, keep_only ho (hb g 0 ?_) h2, h3⟩
    simp only [Value.slice.injEq] at h'
    exact h'.1
theorem r5_old (h : IsR5 x q ad c n ops L) (ho : Old x y) : IsR5 y q ad c n ops L := r5_only h (Only.of_below ho) (fun f => f) (fun _ _ _ f => f)
/-- The slice: nil, or of a block. -/
theorem r5_slice (h : IsR5 x q ad c n ops L) : (ad = none ∧ c = 0 ∧ L = []) ∨ ∃ g, ad = some ⟨g, 0, none⟩ ∧ g ≠ q ∧ L.length ≤ c ∧ c ≤ maxLen ∧ g < x.heap.size := by
  rcases h.hL.2 with ⟨h', h0⟩ | ⟨g, cap, cur, h', h1, h2, h3, h4, _⟩
  · simp only [Value.slice.injEq] at h'
    exact .inl ⟨h'.1, h'.2.2, List.length_eq_zero_iff.1 h0⟩
  · simp only [Value.slice.injEq, true_and] at h'
    obtain ⟨rfl, rfl⟩ := h'
    exact .inr ⟨g, rfl, h.ne g 0 rfl, h3, h4, lt_of_block h2⟩
theorem r5_cell (h : IsR5 x q ad c n ops L) {g : Nat} (ha : ad = some ⟨g, 0, none⟩) {i : Nat} {p : Nat × Nat} (hp : L[i]? = some p) (k : Nat) (v : Value) (hv : (c5 p)[k]? = some v) : x.cell? ⟨g, i * 2 + k, none⟩ = some v :=
  own_cell h.hL ha (i * 2 + k) (flatC_get c5_len L i p k v hp hv)
set_option maxHeartbeats 8000000 in
set_option maxRecDepth 100000 in
theorem r5byte_calls (h : IsR5 w q ad c n ops L) (a : Nat) :
    Calls Try.prog 90 #[.pointer (some ⟨q, 0, none⟩), .int .u64 (a : Nat)] w (RetB w (.int .u8 (look5 L a : Nat))) := by
  obtain ⟨r, hr⟩ : ∃ r, look5 L a = r := ⟨_, rfl⟩
  rw [hr]
  have n512 : (L.length : Int) ≤ 200000 := by have := h.lim; omega
  have H := Lib.hid h
  have HR := Lib.hid hr
  clear h hr
  go_enter Try.func90, Try.ntmps90
  go_wp2
  go_loopw [5] (fun s5 wx => ∃ k : Nat, k ≤ L.length ∧ s5 = .int .i64 (k : Nat) ∧ Old w wx ∧ look5 (L.drop k) a = r) (fun s5 _ => L.length - (intOf s5).toNat)
  case atStart => exact ⟨0, by omega, rfl, old_refl _, by rw [List.drop_zero]; exact HR.out⟩
  case round =>
    obtain ⟨k, hk, rfl, hO, ht⟩ := hrel
    have hT := r5_old H.out hO
    obtain ⟨k0, z0, zz⟩ := of_block hT.hq
    by_cases hkn : k = L.length
    · have hrt : r = 0 := by
        rw [← ht, List.drop_eq_nil_of_le (by omega)]; rfl
      have HO := Lib.hid hO
      subst hrt
      clear hk ht hO hT
      go_wp2
      go_ret
      exact ⟨rfl, HO.out⟩
    · have hlt : k < L.length := by omega
      obtain ⟨p, hp⟩ : ∃ p, L[k]? = some p := ⟨_, List.getElem?_eq_getElem hlt⟩
      rw [drop5 _ _ _ hp] at ht
      unfold look5 at ht
      have i1 : (k : Int) < L.length := by omega
      rcases r5_slice hT with ⟨_, _, h0⟩ | ⟨g, hg, _, hc, _, _⟩
      · rw [h0] at hlt; exact absurd hlt (Nat.not_lt_zero _)
      have hc0 : wr.cell? ⟨g, k * 2, none⟩ = some (.int .u64 (p.1 : Nat)) := r5_cell hT hg hp 0 _ rfl
      have hc1 : wr.cell? ⟨g, k * 2 + 1, none⟩ = some (.int .u8 (p.2 : Nat)) := r5_cell hT hg hp 1 _ rfl
      subst hg
      obtain ⟨pa, pb⟩ := p
      have HO := Lib.hid hO
      have HLT := Lib.hid hlt
      have HT := Lib.hid ht
      clear hk hO ht hlt hp hT
      by_cases hpa : pa = a
      · have ht := HT.out
        rw [if_pos hpa] at ht
        subst hpa
        have e : r = pb := ht.symm
        subst e
        clear ht HT
        go_wp2
        go_ret
        exact ⟨rfl, HO.out⟩
      · have ht := HT.out
        rw [if_neg hpa] at ht
        have HT2 := Lib.hid ht
        have hpb : ((pa : Int) == (a : Int)) = false := by rw [beq_eq_false_iff_ne]; omega
        clear ht HT
        go_wp2
        go_roundw
        case rel => exact ⟨k + 1, HLT.out, by simp, HO.out, by simpa using HT2.out⟩
        case measure => have := HLT.out; (simp [intOf]) <;> omega
end
end Go.Proofs.Ytfiofjalpaeohaa
namespace Go.Proofs.Ytfiofjalpaeohaa
set_option linter.unusedVariables false
set_option linter.unusedSimpArgs false
open Go.RowKit
section
variable {P : Program} {ops : Array Oper} {S : World → Prop}
/-- The end of one operation. -/
def Fin (S : World → Prop) (a' : Act) (e : Exit) (a'' : Act) (w' : World) : Prop := e = .normal ∧ a'' = a' ∧ S w'
/-- This one world. -/
def Is (W w : World) : Prop := w = W
/-- What comes behind the last operation. -/
def Later (S : World → Prop) (Q : Exit → Act → World → Prop) (a : Act) : Prop := ∀ w, S w → Q .normal a w
/-- In every world of S this operation comes to the frame a', and the world behind it is one of S. -/
def Gives (P : Program) (ops : Array Oper) (S : World → Prop) (o : Oper) (a a' : Act) : Prop :=
  ∀ w, S w → wpList P ops (Fin S a') [o] a w
/-- The operations one by one, in the order of the text. -/
def Walked (P : Program) (ops : Array Oper) (S : World → Prop) (Q : Act → Prop) : List Oper → Act → Prop
  | [], a => Q a
  | o :: r, a => ∃ a', Gives P ops S o a a' ∧ a'.defers = a.defers ∧ Walked P ops S Q r a'
/-- Two frames agree on what an operation looks at. -/
def Agree (ops : Array Oper) (o : Oper) (a b : Act) : Prop := b.tmps.size = a.tmps.size ∧ ∀ t, t ∈ o.looksAt ops → b.tmps[t]? = a.tmps[t]?
theorem agree_eval {o : Oper} {a b : Act} (h : Agree ops o a b) (hs : ∀ cs c, o.op ≠ .select cs c) : execOp b.eval o = execOp a.eval o := by
  refine execOp_congr o hs fun x hx => ?_
  cases x with
  | tmp t =>
    have ht : t ∈ o.looksAt ops := List.mem_append_left _ (List.mem_filterMap.2 ⟨.tmp t, by simpa using hx, rfl⟩)
    have := h.2 t ht
    simp [Act.eval, this]
  | _ => rfl
theorem agree_wanted {o : Oper} {a b : Act} (h : Agree ops o a b) : Region.wanted o (yielded ops b.tmps) = Region.wanted o (yielded ops a.tmps) := by
  unfold Region.wanted
  cases hg : o.guard with
  | none => rfl
  | some gw =>
    obtain ⟨g, want⟩ := gw
    have hy : yielded ops b.tmps g = yielded ops a.tmps g := by
      unfold yielded
      cases ht : (ops[g]?).bind (·.dst) with
      | none => rfl
      | some t =>
        have := h.2 t (by simp [Oper.looksAt, hg, ht])
        simp [this]
    simp only [hy]
theorem put_same {a b : Act} {dst : Option Tmp} {v u : Value} (hsz : b.tmps.size = a.tmps.size) (h : a.put dst v = a.put dst u) : b.put dst v = b.put dst u := by
  cases dst with
  | none => rfl
  | some d =>
    by_cases hd : d < a.tmps.size
    · have h1 := congrArg (fun x : Act => x.tmps[d]?) h
      simp [Act.put, hd] at h1
      rw [h1]
    · have hd' : ¬ d < b.tmps.size := by rw [hsz]; exact hd
      simp [Act.put, Array.setIfInBounds, hd']
/-- What an operation gives at one frame it gives at every frame that agrees on what it looks at. -/
theorem gives_val {o : Oper} {a a' : Act} (h : Gives P ops S o a a') (hd : a'.defers = a.defers) (hs : ∀ cs c, o.op ≠ .select cs c) {w0 : World} (h0 : S w0) :
    ∃ v, a' = a.put o.dst v ∧ ∀ (b : Act) (w : World) (K : Act → World → Prop) (Q : Exit → Act → World → Prop), Agree ops o a b → S w → (∀ w', S w' → K (b.put o.dst v) w') →
      (if Region.wanted o (yielded ops b.tmps) then o.wp P b w K Q ∨ (o.asks P b w ∧ LetsOut Q) else K (b.put o.dst undef) w) := by
  by_cases hw : Region.wanted o (yielded ops a.tmps) = true
  · -- what it comes to in a world of S
    have key : ∀ w, S w → o.wp P a w (fun a'' w' => a'' = a' ∧ S w') (fun _ _ _ => False) := by
      intro w hS
      have h1 := h w hS
      unfold wpList at h1
      rw [if_pos hw] at h1
      rcases h1 with h1 | ⟨_, a1, w1, h1, _⟩
      · unfold Oper.wp at h1 ⊢
        generalize (execOp a.eval o).run P w = r at h1 ⊢
        cases r with
        | ok n w' =>
          cases n with
          | value v => exact h1.2
          | skip => exact h1.2
          | defer d => exact h1.2
          | enter f args =>
            simp only [Oper.upon] at h1 ⊢
            refine Calls.mono h1 fun e w'' he => ?_
            cases e with
            | returned v => exact he.2
            | panicked c => exact absurd he.1 (by simp)
            | outgrown => obtain ⟨_, _, h2, _⟩ := he; exact absurd h2 (by simp)
          | row row args =>
            simp only [Oper.upon] at h1 ⊢
            exact Rows.mono h1 fun v w'' he => he.2
          | _ => exact (h1 : False).elim
        | halt x w' =>
          cases x <;> simp only [Oper.upon] at h1 ⊢ <;> first | exact h1 | exact absurd h1.1 (by simp)
      · exact absurd h1 (by simp)
    have nodefer : ∀ d, ({ a with defers := d :: a.defers } : Act).put o.dst undef ≠ a' := by
      intro d e
      have h1 := congrArg Act.defers e
      rw [hd] at h1
      have h2 : (({ a with defers := d :: a.defers } : Act).put o.dst undef).defers = d :: a.defers := by cases o.dst <;> rfl
      rw [h2] at h1
      have := congrArg List.length h1
      simp at this
    -- the value
    have hv : ∃ v, a' = a.put o.dst v := by
      have k0 := key w0 h0
      unfold Oper.wp at k0
      generalize (execOp a.eval o).run P w0 = r at k0
      cases r with
      | ok n w' =>
        cases n with
        | value v => exact ⟨v, k0.1.symm⟩
        | skip => exact ⟨undef, k0.1.symm⟩
        | defer d => exact absurd k0.1 (nodefer d)
        | enter f args =>
          simp only [Oper.upon] at k0
          obtain ⟨e, w'', fr, hr, _⟩ := k0 []
          cases e with
          | returned v => exact ⟨v, hr.1.symm⟩
          | panicked c => exact hr.elim
          | outgrown => obtain ⟨_, _, h2⟩ := hr; exact h2.elim
        | row row args =>
          simp only [Oper.upon] at k0
          obtain ⟨v, w'', hr, _⟩ := k0 default []
          exact ⟨v, hr.1.symm⟩
        | _ => exact (k0 : False).elim
      | halt x w' => cases x <;> simp only [Oper.upon] at k0
    obtain ⟨v, hv⟩ := hv
    refine ⟨v, hv, fun b w K Q hab hS hK => ?_⟩
    rw [agree_wanted hab, if_pos hw]
    refine .inl ?_
    have k := key w hS
    unfold Oper.wp at k ⊢
    rw [agree_eval hab hs]
    have same : ∀ u, a.put o.dst u = a' → b.put o.dst u = b.put o.dst v := fun u hu => put_same hab.1 (hu.trans hv)
    generalize (execOp a.eval o).run P w = r at k ⊢
    cases r with
    | ok n w' =>
      cases n with
      | value u => show K _ _; rw [same u k.1]; exact hK _ k.2
      | skip => show K _ _; rw [same undef k.1]; exact hK _ k.2
      | defer d => exact absurd k.1 (nodefer d)
      | enter f args =>
        simp only [Oper.upon] at k ⊢
        refine Calls.mono k fun e w'' he => ?_
        cases e with
        | returned u => show K _ _; rw [same u he.1]; exact hK _ he.2
        | panicked c => exact he.elim
        | outgrown => obtain ⟨_, _, h2⟩ := he; exact h2.elim
      | row row args =>
        simp only [Oper.upon] at k ⊢
        refine Rows.mono k fun u w'' he => ?_
        rw [same u he.1]; exact hK _ he.2
      | _ => exact (k : False).elim
    | halt x w' => cases x <;> simp only [Oper.upon] at k
  · have hw' : Region.wanted o (yielded ops a.tmps) = false := by simpa using hw
    refine ⟨undef, ?_, fun b w K Q hab hS hK => ?_⟩
    · have h1 := h w0 h0
      unfold wpList at h1
      rw [if_neg hw] at h1
      exact h1.2.1.symm
    · rw [agree_wanted hab, if_neg hw]
      exact hK w hS
end
/-! What comes ahead of what. -/
theorem inner_bit (acc : Array Nat) (x : Nat) : ∀ (es : List Edge) (s0 : Nat),
    (es.foldl (fun s e => if Region.binds .any e then s ||| 2 ^ e.on ||| acc.getD e.on 0 else s) s0).testBit x = true →
    s0.testBit x = true ∨ ∃ e ∈ es, Region.binds .any e = true ∧ (e.on = x ∨ (acc.getD e.on 0).testBit x = true) := by
  intro es
  induction es with
  | nil => intro s0 h; exact .inl h
  | cons e es ih =>
    intro s0 h
    rw [List.foldl_cons] at h
    rcases ih _ h with h1 | ⟨e', he', hb, hx⟩
    · split at h1
      · rename_i hb
        rw [Nat.testBit_or, Nat.testBit_or, Bool.or_eq_true, Bool.or_eq_true] at h1
        rcases h1 with (h1 | h1) | h1
        · exact .inl h1
        · rw [Nat.testBit_two_pow] at h1
          exact .inr ⟨e, List.mem_cons_self, hb, .inl (of_decide_eq_true h1)⟩
        · exact .inr ⟨e, List.mem_cons_self, hb, .inr h1⟩
      · exact .inl h1
    · exact .inr ⟨e', List.mem_cons_of_mem _ he', hb, hx⟩
/-- One more mask. -/
def maskStep (acc : Array Nat) (o : Oper) : Array Nat :=
  acc.push (o.after.foldl (fun s e => if Region.binds .any e then s ||| 2 ^ e.on ||| acc.getD e.on 0 else s) 0)
theorem masks_eq (ops : Array Oper) : Region.before ops = ops.toList.foldl maskStep #[] := by
  unfold Region.before
  rw [← Array.foldl_toList]
  rfl
theorem masks_fold : ∀ (l : List Oper) (acc : Array Nat),
    (∀ i, i < acc.size → (l.foldl maskStep acc).getD i 0 = acc.getD i 0) ∧ (l.foldl maskStep acc).size = acc.size + l.length ∧
    ∀ j o, l[j]? = some o → ∃ acc' : Array Nat, acc'.size = acc.size + j ∧ (∀ i, i < acc'.size → acc'.getD i 0 = (l.foldl maskStep acc).getD i 0) ∧
      (l.foldl maskStep acc).getD (acc.size + j) 0 = o.after.foldl (fun s e => if Region.binds .any e then s ||| 2 ^ e.on ||| acc'.getD e.on 0 else s) 0 := by
  intro l
  induction l with
  | nil => intro acc; exact ⟨fun _ _ => rfl, by simp, fun j o h => by simp at h⟩
  | cons o l ih =>
    intro acc
    obtain ⟨h1, h2, h3⟩ := ih (maskStep acc o)
    have hsz : (maskStep acc o).size = acc.size + 1 := by simp [maskStep]
    have hold : ∀ i, i < acc.size → (maskStep acc o).getD i 0 = acc.getD i 0 := fun i hi => by
      simp [maskStep, Array.getElem?_push, Nat.ne_of_lt hi]
    have hnew : (maskStep acc o).getD acc.size 0 = o.after.foldl (fun s e => if Region.binds .any e then s ||| 2 ^ e.on ||| acc.getD e.on 0 else s) 0 := by
      simp [maskStep]
    rw [List.foldl_cons]
    refine ⟨fun i hi => (h1 i (by omega)).trans (hold i hi), by rw [h2, hsz, List.length_cons]; omega, fun j o' hj => ?_⟩
    cases j with
    | zero =>
      simp at hj
      subst hj
      exact ⟨acc, rfl, fun i hi => ((h1 i (by omega)).trans (hold i hi)).symm, by rw [Nat.add_zero, h1 _ (by omega), hnew]⟩
    | succ j =>
      rw [List.getElem?_cons_succ] at hj
      obtain ⟨acc', a1, a2, a3⟩ := h3 j o' hj
      exact ⟨acc', by omega, a2, by rw [show acc.size + (j + 1) = (maskStep acc o).size + j by omega]; exact a3⟩
theorem mask_bit {ops : Array Oper} {x y : Nat} {o : Oper} (ho : ops[y]? = some o) (h : ((Region.before ops).getD y 0).testBit x = true) :
    ∃ e ∈ o.after, Region.binds .any e = true ∧ (e.on = x ∨ (e.on < y ∧ ((Region.before ops).getD e.on 0).testBit x = true)) := by
  obtain ⟨_, _, h3⟩ := masks_fold ops.toList #[]
  obtain ⟨acc', a1, a2, a3⟩ := h3 y o (by simpa using ho)
  rw [masks_eq] at h ⊢
  simp only [Array.size_empty, Nat.zero_add] at a1 a3
  rw [a3, ← Array.foldl_toList] at h
  rcases inner_bit acc' x _ _ h with h1 | ⟨e, he, hb, hx⟩
  · simp at h1
  · refine ⟨e, by simpa using he, hb, ?_⟩
    rcases hx with hx | hx
    · exact .inl hx
    · rcases Nat.lt_or_ge e.on acc'.size with hlt | hge
      · exact .inr ⟨by omega, by rw [← a2 _ hlt]; exact hx⟩
      · rw [show acc'.getD e.on 0 = 0 by simp [Array.getElem?_eq_none hge]] at hx
        simp at hx
/-- All that an operation waits for has come up. -/
def AllMet (ops : Array Oper) (listed : Array Bool) (y : Nat) : Prop := ∀ o, ops[y]? = some o → ∀ e ∈ o.after, Region.binds .any e = true → listed.getD e.on false = true
theorem met_bit {ops : Array Oper} {listed : Array Bool} (hc : ∀ y, listed.getD y false = true → AllMet ops listed y) (x : Nat) : ∀ (n y : Nat), y < n → y < ops.size → AllMet ops listed y →
    ((Region.before ops).getD y 0).testBit x = true → listed.getD x false = true := by
  intro n
  induction n with
  | zero => intro y h; omega
  | succ n ih =>
    intro y hy hs hm hb
    obtain ⟨e, he, hbind, hx⟩ := mask_bit (Array.getElem?_eq_getElem hs) hb
    have hl := hm _ (Array.getElem?_eq_getElem hs) e he hbind
    rcases hx with rfl | ⟨hlt, hx⟩
    · exact hl
    · exact ih e.on (by omega) (by omega) (hc _ hl) hx
/-- May the operations be walked in the order of the text? Each slot is written once, and who reads it comes ahead of or behind its writer in every order. -/
def seqOk (ops : Array Oper) : Bool :=
  (List.range ops.size).all fun j => match ops[j]? with
    | none => true
    | some o => (match o.op with | .select .. => false | _ => true) && o.after.all (fun e => !Region.binds .any e || decide (e.on < j)) &&
      (List.range ops.size).all fun i => i == j || match (ops[i]?).bind (·.dst) with
        | none => true
        | some t => o.dst != some t && (!(o.looksAt ops).contains t || (if i < j then ((Region.before ops).getD j 0).testBit i else ((Region.before ops).getD i 0).testBit j))
theorem seqOk_spec {ops : Array Oper} (h : seqOk ops = true) {j : Nat} {o : Oper} (ho : ops[j]? = some o) :
    (∀ cs c, o.op ≠ .select cs c) ∧ (∀ e ∈ o.after, Region.binds .any e = true → e.on < j) ∧
    ∀ i o', ops[i]? = some o' → i ≠ j → ∀ t, o'.dst = some t → o.dst ≠ some t ∧
      (t ∈ o.looksAt ops → (i < j ∧ ((Region.before ops).getD j 0).testBit i = true) ∨ (j < i ∧ ((Region.before ops).getD i 0).testBit j = true)) := by
  have hj : j < ops.size := (Array.getElem?_eq_some_iff.1 ho).1
  have h1 := (List.all_eq_true.1 h) j (List.mem_range.2 hj)
  simp only [ho, Bool.and_eq_true] at h1
  obtain ⟨⟨hs, he⟩, hi⟩ := h1
  refine ⟨fun cs c e => by rw [e] at hs; simp at hs, fun e hm hb => ?_, fun i o' ho' hne t ht => ?_⟩
  · have := (Array.all_eq_true_iff_forall_mem.1 he) e hm
    simpa [hb] using this
  · have hi' : i < ops.size := (Array.getElem?_eq_some_iff.1 ho').1
    have h2 := (List.all_eq_true.1 hi) i (List.mem_range.2 hi')
    simp only [ho', Option.bind_some, ht, Bool.or_eq_true, beq_iff_eq, hne, false_or, Bool.and_eq_true, bne_iff_ne, ne_eq] at h2
    refine ⟨h2.1, fun hm => ?_⟩
    rcases h2.2 with h3 | h3
    · simp [hm] at h3
    · split at h3
      · exact .inl ⟨by assumption, h3⟩
      · exact .inr ⟨by omega, h3⟩
theorem count_lt {p q : Nat → Bool} (h : ∀ k, q k = true → p k = true) {j : Nat} (hp : p j = true) (hq : q j = false) : ∀ {l : List Nat}, j ∈ l → (l.filter q).length < (l.filter p).length := by
  have hle : ∀ l : List Nat, (l.filter q).length ≤ (l.filter p).length := by
    intro l
    induction l with
    | nil => simp
    | cons x l ih =>
      by_cases hx : q x = true
      · simp [hx, h x hx]; exact ih
      · by_cases hy : p x = true
        · simp [hx, hy]; omega
        · simp [hx, hy]; exact ih
  intro l
  induction l with
  | nil => intro hj; simp at hj
  | cons x l ih =>
    intro hj
    by_cases hxj : x = j
    · subst hxj
      have := hle l
      simp [hp, hq]; omega
    · have hj' : j ∈ l := by simpa [Ne.symm hxj] using hj
      have := ih hj'
      by_cases hx : q x = true
      · simp [hx, h x hx]; exact this
      · by_cases hy : p x = true
        · simp [hx, hy]; omega
        · simp [hx, hy]; exact this
section
variable {P : Program} {ops : Array Oper} {S : World → Prop} {Q : Exit → Act → World → Prop}
theorem walked_chain {Qf : Act → Prop} : ∀ (l : List Oper) (a : Act), Walked P ops S Qf l a →
    ∃ A : Nat → Act, A 0 = a ∧ (∀ k o, l[k]? = some o → Gives P ops S o (A k) (A (k + 1)) ∧ (A (k + 1)).defers = (A k).defers) ∧ Qf (A l.length) := by
  intro l
  induction l with
  | nil => intro a h; exact ⟨fun _ => a, rfl, fun k o hk => by simp at hk, h⟩
  | cons o l ih =>
    intro a h
    obtain ⟨a', hg, hd, hr⟩ := h
    obtain ⟨A, h0, h1, h2⟩ := ih a' hr
    refine ⟨fun k => match k with | 0 => a | k + 1 => A k, rfl, fun k o' hk => ?_, h2⟩
    cases k with
    | zero =>
      simp at hk
      subst hk
      exact ⟨show Gives P ops S o a (A 0) by rw [h0]; exact hg, show (A 0).defers = a.defers by rw [h0]; exact hd⟩
    | succ k => exact h1 k o' (by simpa using hk)
/-- The frame while the operations come up in some order: what has come up holds its value, all else is as it was. -/
structure Midway (ops : Array Oper) (a z : Act) (listed : Array Bool) (b : Act) : Prop where
  size : b.tmps.size = a.tmps.size
  defers : b.defers = a.defers
  len : listed.size = ops.size
  closed : ∀ y, listed.getD y false = true → AllMet ops listed y
  done : ∀ k o t, ops[k]? = some o → listed.getD k false = true → o.dst = some t → b.tmps[t]? = z.tmps[t]?
  left : ∀ t, (∀ k o, ops[k]? = some o → listed.getD k false = true → o.dst ≠ some t) → b.tmps[t]? = a.tmps[t]?
theorem act_ext {a b : Act} (h : a.tmps = b.tmps) (hd : a.defers = b.defers) : a = b := by
  cases a; cases b; simp_all
theorem put_size (a : Act) (d : Option Tmp) (v : Value) : (a.put d v).tmps.size = a.tmps.size := by cases d <;> simp [Act.put]
theorem put_defs (a : Act) (d : Option Tmp) (v : Value) : (a.put d v).defers = a.defers := by cases d <;> simp [Act.put]
theorem put_ne {a : Act} {d : Option Tmp} {v : Value} {t : Tmp} (h : d ≠ some t) : (a.put d v).tmps[t]? = a.tmps[t]? := by
  cases d with
  | none => rfl
  | some d => simp [Act.put, Array.getElem?_setIfInBounds_ne (show d ≠ t from fun e => h (by rw [e]))]
theorem put_at {a b : Act} {v : Value} {t : Tmp} (h : a.tmps.size = b.tmps.size) : (a.put (some t) v).tmps[t]? = (b.put (some t) v).tmps[t]? := by
  simp [Act.put, Array.getElem?_setIfInBounds, h]
/-- **A statement whose order is open: one walk, in the order of the text, is enough.** -/
theorem wp_region_walked {id : Nat} {a : Act} {w : World} (hm : P.follows .mixedOrders = true) (hok : seqOk ops = true) (hS : S w.drew)
    (h : Walked P ops S (Later S Q) ops.toList a) : (Code.region id ops true).wp P Q a w := by
  obtain ⟨A, hA0, hA, hQ⟩ := walked_chain _ _ h
  have hA' : ∀ k o, ops[k]? = some o → ∃ v, A (k + 1) = (A k).put o.dst v ∧ ∀ (b : Act) (w : World) (K : Act → World → Prop) (Q : Exit → Act → World → Prop), Agree ops o (A k) b → S w →
      (∀ w', S w' → K (b.put o.dst v) w') → (if Region.wanted o (yielded ops b.tmps) then o.wp P b w K Q ∨ (o.asks P b w ∧ LetsOut Q) else K (b.put o.dst undef) w) := fun k o ho => by
    obtain ⟨g, d⟩ := hA k o (by simpa using ho)
    exact gives_val g d (seqOk_spec hok ho).1 hS
  have hlen : ops.toList.length = ops.size := by simp
  rw [hlen] at hQ
  have asz : ∀ k, k ≤ ops.size → (A k).tmps.size = a.tmps.size ∧ (A k).defers = a.defers := by
    intro k
    induction k with
    | zero => intro _; rw [hA0]; exact ⟨rfl, rfl⟩
    | succ k ih =>
      intro hk
      obtain ⟨v, hv, _⟩ := hA' k _ (Array.getElem?_eq_getElem (show k < ops.size by omega))
      obtain ⟨i1, i2⟩ := ih (by omega)
      rw [hv, put_size, put_defs]; exact ⟨i1, i2⟩
  -- between k and m nothing writes t
  have far : ∀ k t m, k ≤ m → m ≤ ops.size → (∀ i o, k ≤ i → i < m → ops[i]? = some o → o.dst ≠ some t) → (A m).tmps[t]? = (A k).tmps[t]? := by
    intro k t m
    induction m with
    | zero => intro h1 _ _; rw [show k = 0 by omega]
    | succ m ih =>
      intro h1 h2 hno
      by_cases hkm : k = m + 1
      · rw [hkm]
      · obtain ⟨v, hv, _⟩ := hA' m _ (Array.getElem?_eq_getElem (show m < ops.size by omega))
        rw [hv, put_ne (hno m _ (by omega) (by omega) (Array.getElem?_eq_getElem (show m < ops.size by omega)))]
        exact ih (by omega) (by omega) (fun i o hi hi' ho => hno i o hi (by omega) ho)
  have unlike : ∀ (i j : Nat) (oi oj : Oper) (t : Tmp), ops[i]? = some oi → ops[j]? = some oj → oi.dst = some t → oj.dst = some t → i = j := by
    intro i j oi oj t hi hj ti tj
    by_cases e : i = j
    · exact e
    · exact absurd tj (((seqOk_spec hok hj).2.2 i oi hi e t ti).1)
  have lt_of : ∀ (listed : Array Bool) k, listed.getD k false = true → listed.size = ops.size → k < ops.size := by
    intro listed k hk hl
    rcases Nat.lt_or_ge k listed.size with h' | h'
    · omega
    · simp [Array.getElem?_eq_none h'] at hk
  -- what comes up next gives what it gives in the order of the text
  have main : ∀ (fuel : Nat) (listed : Array Bool) (b : Act) (w : World), ((List.range ops.size).filter (fun k => !listed.getD k true)).length ≤ fuel →
      Midway ops a (A ops.size) listed b → S w → wpAny P .any ops Q fuel listed b w := by
    intro fuel
    induction fuel with
    | zero =>
      intro listed b w hf hM hw
      have hall : ∀ k, k < ops.size → listed.getD k false = true := by
        intro k hk
        have hnil : (List.range ops.size).filter (fun k => !listed.getD k true) = [] := List.length_eq_zero_iff.1 (by omega)
        have := (List.filter_eq_nil_iff.1 hnil) k (List.mem_range.2 hk)
        have hkl : k < listed.size := by rw [hM.len]; exact hk
        simpa [hkl] using this
      have hfin : b = A ops.size := by
        refine act_ext (Array.ext_getElem? fun t => ?_) (by rw [hM.defers, (asz _ (Nat.le_refl _)).2])
        by_cases hx : ∃ (k : Nat) (o : Oper), ops[k]? = some o ∧ o.dst = some t
        · obtain ⟨k, o, ho, ht⟩ := hx
          exact hM.done k o t ho (hall k (Array.getElem?_eq_some_iff.1 ho).1) ht
        · rw [hM.left t (fun k o ho _ ht => hx ⟨k, o, ho, ht⟩), far 0 t ops.size (by omega) (Nat.le_refl _) (fun i o _ _ ho ht => hx ⟨i, o, ho, ht⟩), hA0]
      refine ⟨?_, by rw [hfin]; exact hQ w hw⟩
      refine List.eq_nil_iff_forall_not_mem.2 fun j hj => ?_
      obtain ⟨hjun, o, ho, _⟩ := mem_ready.1 hj
      have hjl : j < listed.size := by rw [hM.len]; exact (Array.getElem?_eq_some_iff.1 ho).1
      have := hall j (Array.getElem?_eq_some_iff.1 ho).1
      simp [hjl] at hjun this
      rw [this] at hjun; cases hjun
    | succ fuel ih =>
      intro listed b w hf hM hw
      refine ⟨fun hnil => ?_, fun j hj => ?_⟩
      · -- nothing is left: all have come up
        have hall : ∀ n k, k < n → k < ops.size → listed.getD k false = true := by
          intro n
          induction n with
          | zero => intro k hk; omega
          | succ n ihn =>
            intro k hk hs
            by_cases hl : listed.getD k false = true
            · exact hl
            · exfalso
              have hkl : k < listed.size := by rw [hM.len]; exact hs
              have hmem : k ∈ Region.ready .any ops listed := mem_ready.2 ⟨by simpa [hkl] using hl, _, Array.getElem?_eq_getElem hs, fun e he hb => by
                have hlt := (seqOk_spec hok (Array.getElem?_eq_getElem hs)).2.1 e he hb
                exact ihn e.on (by omega) (by omega)⟩
              rw [hnil] at hmem
              cases hmem
        have hfin : b = A ops.size := by
          refine act_ext (Array.ext_getElem? fun t => ?_) (by rw [hM.defers, (asz _ (Nat.le_refl _)).2])
          by_cases hx : ∃ (k : Nat) (o : Oper), ops[k]? = some o ∧ o.dst = some t
          · obtain ⟨k, o, ho, ht⟩ := hx
            exact hM.done k o t ho (hall _ k (Nat.lt_succ_self k) (Array.getElem?_eq_some_iff.1 ho).1) ht
          · rw [hM.left t (fun k o ho _ ht => hx ⟨k, o, ho, ht⟩), far 0 t ops.size (by omega) (Nat.le_refl _) (fun i o _ _ ho ht => hx ⟨i, o, ho, ht⟩), hA0]
        rw [hfin]; exact hQ w hw
      · obtain ⟨hjun, o, ho, hedges⟩ := mem_ready.1 hj
        have hjs : j < ops.size := (Array.getElem?_eq_some_iff.1 ho).1
        have hjl : j < listed.size := by rw [hM.len]; exact hjs
        have hjun' : listed.getD j false = false := by simpa [hjl] using hjun
        have hmet : AllMet ops listed j := fun o' ho' e he hb => by
          rw [ho] at ho'
          cases ho'
          exact hedges e he hb
        obtain ⟨v, hv, step⟩ := hA' j o ho
        have hag : Agree ops o (A j) b := by
          refine ⟨by rw [hM.size, (asz j (by omega)).1], fun t ht => ?_⟩
          by_cases hx : ∃ (i : Nat) (oi : Oper), ops[i]? = some oi ∧ oi.dst = some t
          · obtain ⟨i, oi, hi, hti⟩ := hx
            by_cases hij : i = j
            · rw [hM.left t (fun k ok hk hlk htk => by
                have : k = i := unlike k i ok oi t hk hi htk hti
                rw [this, hij, hjun'] at hlk
                cases hlk), far 0 t j (by omega) (by omega) (fun k ok _ hk hok' htk => by
                have : k = i := unlike k i ok oi t hok' hi htk hti
                omega), hA0]
            · rcases ((seqOk_spec hok ho).2.2 i oi hi hij t hti).2 ht with ⟨hlt, hbit⟩ | ⟨hlt, hbit⟩
              · have hli := met_bit hM.closed i (j + 1) j (by omega) hjs hmet hbit
                rw [hM.done i oi t hi hli hti]
                exact far j t ops.size (by omega) (Nat.le_refl _) (fun k ok hk _ hok' htk => by
                  have : k = i := unlike k i ok oi t hok' hi htk hti
                  omega)
              · have hun : listed.getD i false ≠ true := fun hli => by
                  have his : i < ops.size := (Array.getElem?_eq_some_iff.1 hi).1
                  have := met_bit hM.closed j (i + 1) i (by omega) his (hM.closed i hli) hbit
                  rw [hjun'] at this
                  cases this
                rw [hM.left t (fun k ok hk hlk htk => by
                  have : k = i := unlike k i ok oi t hk hi htk hti
                  rw [this] at hlk
                  exact hun hlk), far 0 t j (by omega) (by omega) (fun k ok _ hk hok' htk => by
                  have : k = i := unlike k i ok oi t hok' hi htk hti
                  omega), hA0]
          · rw [hM.left t (fun k ok hk _ htk => hx ⟨k, ok, hk, htk⟩), far 0 t j (by omega) (by omega) (fun k ok _ _ hk htk => hx ⟨k, ok, hk, htk⟩), hA0]
        have hM' : Midway ops a (A ops.size) (listed.setIfInBounds j true) (b.put o.dst v) := by
          refine ⟨by rw [put_size, hM.size], by rw [put_defs, hM.defers], by rw [Array.size_setIfInBounds, hM.len], fun y hy => ?_, fun k ok t hk hlk htk => ?_, fun t hno => ?_⟩
          · intro oy hoy e he hb
            by_cases hyj : j = y
            · subst hyj
              exact getD_set_true (hmet oy hoy e he hb)
            · rw [getD_set_ne false hyj] at hy
              exact getD_set_true (hM.closed y hy oy hoy e he hb)
          · by_cases hkj : j = k
            · subst hkj
              rw [ho] at hk
              cases hk
              rw [htk, put_at (b := A j) (by rw [hM.size, (asz j (by omega)).1]), ← htk, ← hv]
              exact (far (j + 1) t ops.size (by omega) (Nat.le_refl _) (fun i oi hi _ hoi hti => by
                have : i = j := unlike i j oi o t hoi ho hti htk
                omega)).symm
            · rw [getD_set_ne false hkj] at hlk
              rw [put_ne (fun e => hkj (unlike j k o ok t ho hk e htk))]
              exact hM.done k ok t hk hlk htk
          · have hjt : o.dst ≠ some t := hno j o ho (by simp [hjl])
            rw [put_ne hjt]
            refine hM.left t (fun k ok hk hlk => hno k ok hk ?_)
            exact getD_set_true hlk
        unfold wpOp
        simp only [ho]
        refine step b w _ Q hag hw (fun w' hw' => ih _ _ w' ?_ hM' hw')
        have := count_lt (p := fun k => !listed.getD k true) (q := fun k => !(listed.setIfInBounds j true).getD k true) (fun k hk => by
          by_cases hkj : j = k
          · subst hkj; simp [hjun]
          · rw [getD_set_ne true hkj] at hk; exact hk) (j := j) (by simp [hjun]) (by simp [hjl]) (List.mem_range.2 hjs)
        omega
  refine wp_region_any hm (main ops.size _ a w.drew ?_ ?_ hS)
  · exact Nat.le_trans (List.length_filter_le _ _) (by simp)
  · refine ⟨rfl, rfl, by simp, fun y hy => ?_, fun k o t ho hk _ => ?_, fun t _ => rfl⟩
    · simp [Array.getElem?_replicate] at hy
      split at hy <;> simp at hy
    · simp [Array.getElem?_replicate] at hk
      split at hk <;> simp at hk
/-! The last operations of a statement, each behind all that stand ahead of it in the text: they come in the order of the text. -/
/-- From number m on each operation waits for all ahead of it. -/
def tailOk (ops : Array Oper) (m : Nat) : Bool := (List.range ops.size).all fun j => decide (j < m) || (List.range j).all fun i => ((Region.before ops).getD j 0).testBit i
theorem tailOk_spec {m : Nat} (h : tailOk ops m = true) {j i : Nat} (hj : j < ops.size) (hm : m ≤ j) (hi : i < j) : ((Region.before ops).getD j 0).testBit i = true := by
  have h1 := (List.all_eq_true.1 h) j (List.mem_range.2 hj)
  rw [Bool.or_eq_true] at h1
  rcases h1 with h1 | h1
  · have := of_decide_eq_true h1; omega
  · exact (List.all_eq_true.1 h1) i (List.mem_range.2 hi)
/-- Just the first k have come up. -/
def Upto (ops : Array Oper) (k : Nat) (listed : Array Bool) : Prop := listed.size = ops.size ∧ ∀ i, i < ops.size → (listed.getD i false = true ↔ i < k)
theorem forced {m : Nat} (hok : seqOk ops = true) (ht : tailOk ops m = true) : ∀ (d k fuel : Nat) (listed : Array Bool) (b : Act) (w : World), ops.size - k = d → d ≤ fuel → m ≤ k → k ≤ ops.size → Upto ops k listed →
    (∀ y, listed.getD y false = true → AllMet ops listed y) → wpList P ops Q (ops.toList.drop k) b w → wpAny P .any ops Q fuel listed b w := by
  intro d
  induction d with
  | zero =>
    intro k fuel listed b w hd hf hm hk hu hc h
    have hke : k = ops.size := by omega
    subst hke
    rw [List.drop_of_length_le (by simp)] at h
    have hnil : Region.ready .any ops listed = [] := by
      refine List.eq_nil_iff_forall_not_mem.2 fun j hj => ?_
      obtain ⟨hjun, o, ho, _⟩ := mem_ready.1 hj
      have hjs : j < ops.size := (Array.getElem?_eq_some_iff.1 ho).1
      have hjl : j < listed.size := by rw [hu.1]; exact hjs
      have := (hu.2 j hjs).2 hjs
      simp [hjl] at hjun this
      rw [this] at hjun; cases hjun
    cases fuel with
    | zero => exact ⟨hnil, h⟩
    | succ f => exact ⟨fun _ => h, fun i hi => by rw [hnil] at hi; cases hi⟩
  | succ d ih =>
    intro k fuel listed b w hd hf hm hk hu hc h
    have hks : k < ops.size := by omega
    have hkl : k < listed.size := by rw [hu.1]; exact hks
    cases fuel with
    | zero => omega
    | succ f =>
      have hkun : listed.getD k false ≠ true := fun e => by have := (hu.2 k hks).1 e; omega
      have hkr : k ∈ Region.ready .any ops listed := mem_ready.2 ⟨by simpa [hkl] using hkun, _, Array.getElem?_eq_getElem hks, fun e he hb => by
        have hlt := (seqOk_spec hok (Array.getElem?_eq_getElem hks)).2.1 e he hb
        exact (hu.2 e.on (by omega)).2 (by omega)⟩
      refine ⟨fun hnil => (by rw [hnil] at hkr; cases hkr), fun j hj => ?_⟩
      obtain ⟨hjun, o, ho, hedges⟩ := mem_ready.1 hj
      have hjs : j < ops.size := (Array.getElem?_eq_some_iff.1 ho).1
      have hjl : j < listed.size := by rw [hu.1]; exact hjs
      have hmet : AllMet ops listed j := fun o' ho' e he hb => by
        rw [ho] at ho'
        cases ho'
        exact hedges e he hb
      have hjk : j = k := by
        have h1 : ¬ j < k := fun hlt => by
          have := (hu.2 j hjs).2 hlt
          simp [hjl] at hjun this
          rw [this] at hjun; cases hjun
        by_cases h2 : k < j
        · have := met_bit hc k (j + 1) j (by omega) hjs hmet (tailOk_spec ht hjs (by omega) h2)
          exact absurd this hkun
        · omega
      subst hjk
      have hdrop : ops.toList.drop j = o :: ops.toList.drop (j + 1) := by
        have hl : j < ops.toList.length := by simpa using hjs
        rw [List.drop_eq_getElem_cons hl]
        congr 1
        have := (Array.getElem?_eq_some_iff.1 ho).2
        simpa using this
      rw [hdrop] at h
      have hu' : Upto ops (j + 1) (listed.setIfInBounds j true) := by
        refine ⟨by rw [Array.size_setIfInBounds, hu.1], fun i hi => ?_⟩
        by_cases hij : j = i
        · subst hij; simp [hjl]
        · rw [getD_set_ne false hij, hu.2 i hi]; omega
      have hc' : ∀ y, (listed.setIfInBounds j true).getD y false = true → AllMet ops (listed.setIfInBounds j true) y := fun y hy => by
        intro oy hoy e he hb
        by_cases hyj : j = y
        · subst hyj; exact getD_set_true (hmet oy hoy e he hb)
        · rw [getD_set_ne false hyj] at hy
          exact getD_set_true (hc y hy oy hoy e he hb)
      unfold wpOp
      simp only [ho]
      unfold wpList at h
      split at h
      · rename_i hw
        rw [if_pos hw]
        exact h.imp (Oper.wp_mono fun a' w' h' => ih (j + 1) f _ a' w' (by omega) (by omega) (by omega) (by omega) hu' hc' h') id
      · rename_i hw
        rw [if_neg hw]
        exact ih (j + 1) f _ _ w (by omega) (by omega) (by omega) (by omega) hu' hc' h
/-- **A statement whose order is open, and which ends in operations that wait for all ahead of them (a store, an append): one walk, in the order of the text, is enough.** -/
theorem wp_region_tail (m : Nat) {id : Nat} {a : Act} {w : World} (hm : P.follows .mixedOrders = true) (hok : seqOk ops = true) (ht : tailOk ops m = true) (hms : m ≤ ops.size) (hS : S w.drew)
    (h : Walked P ops S (fun a' => ∀ w', S w' → wpList P ops Q (ops.toList.drop m) a' w') (ops.toList.take m) a) : (Code.region id ops true).wp P Q a w := by
  obtain ⟨A, hA0, hA, hQ⟩ := walked_chain _ _ h
  have hA' : ∀ k o, k < m → ops[k]? = some o → ∃ v, A (k + 1) = (A k).put o.dst v ∧ ∀ (b : Act) (w : World) (K : Act → World → Prop) (Q : Exit → Act → World → Prop), Agree ops o (A k) b → S w →
      (∀ w', S w' → K (b.put o.dst v) w') → (if Region.wanted o (yielded ops b.tmps) then o.wp P b w K Q ∨ (o.asks P b w ∧ LetsOut Q) else K (b.put o.dst undef) w) := fun k o hk ho => by
    obtain ⟨g, d⟩ := hA k o (by rw [List.getElem?_take, if_pos hk]; simpa using ho)
    exact gives_val g d (seqOk_spec hok ho).1 hS
  have hlen : (ops.toList.take m).length = m := by simp [Nat.min_eq_left hms]
  rw [hlen] at hQ
  have asz : ∀ k, k ≤ m → (A k).tmps.size = a.tmps.size ∧ (A k).defers = a.defers := by
    intro k
    induction k with
    | zero => intro _; rw [hA0]; exact ⟨rfl, rfl⟩
    | succ k ih =>
      intro hk
      obtain ⟨v, hv, _⟩ := hA' k _ (by omega) (Array.getElem?_eq_getElem (show k < ops.size by omega))
      obtain ⟨i1, i2⟩ := ih (by omega)
      rw [hv, put_size, put_defs]; exact ⟨i1, i2⟩
  have far : ∀ k t n, k ≤ n → n ≤ m → (∀ i o, k ≤ i → i < n → ops[i]? = some o → o.dst ≠ some t) → (A n).tmps[t]? = (A k).tmps[t]? := by
    intro k t n
    induction n with
    | zero => intro h1 _ _; rw [show k = 0 by omega]
    | succ n ih =>
      intro h1 h2 hno
      by_cases hkm : k = n + 1
      · rw [hkm]
      · obtain ⟨v, hv, _⟩ := hA' n _ (by omega) (Array.getElem?_eq_getElem (show n < ops.size by omega))
        rw [hv, put_ne (hno n _ (by omega) (by omega) (Array.getElem?_eq_getElem (show n < ops.size by omega)))]
        exact ih (by omega) (by omega) (fun i o hi hi' ho => hno i o hi (by omega) ho)
  have unlike : ∀ (i j : Nat) (oi oj : Oper) (t : Tmp), ops[i]? = some oi → ops[j]? = some oj → oi.dst = some t → oj.dst = some t → i = j := by
    intro i j oi oj t hi hj ti tj
    by_cases e : i = j
    · exact e
    · exact absurd tj (((seqOk_spec hok hj).2.2 i oi hi e t ti).1)
  have main : ∀ (fuel : Nat) (listed : Array Bool) (b : Act) (w : World), ((List.range m).filter (fun k => !listed.getD k true)).length + (ops.size - m) ≤ fuel →
      Midway ops a (A m) listed b → (∀ k, listed.getD k false = true → k < m) → S w → wpAny P .any ops Q fuel listed b w := by
    intro fuel
    induction fuel with
    | zero =>
      intro listed b w hf hM hin hw
      have hall : ∀ k, k < m → listed.getD k false = true := by
        intro k hk
        have hnil : (List.range m).filter (fun k => !listed.getD k true) = [] := List.length_eq_zero_iff.1 (by omega)
        have := (List.filter_eq_nil_iff.1 hnil) k (List.mem_range.2 hk)
        have hkl : k < listed.size := by rw [hM.len]; omega
        simpa [hkl] using this
      have hfin : b = A m := by
        refine act_ext (Array.ext_getElem? fun t => ?_) (by rw [hM.defers, (asz _ (Nat.le_refl _)).2])
        by_cases hx : ∃ (k : Nat) (o : Oper), k < m ∧ ops[k]? = some o ∧ o.dst = some t
        · obtain ⟨k, o, hk, ho, ht⟩ := hx
          exact hM.done k o t ho (hall k hk) ht
        · rw [hM.left t (fun k o ho hl ht => hx ⟨k, o, hin k hl, ho, ht⟩), far 0 t m (by omega) (Nat.le_refl _) (fun i o _ hi ho ht => hx ⟨i, o, hi, ho, ht⟩), hA0]
      rw [hfin]
      exact forced hok ht (ops.size - m) m 0 listed _ w rfl (by omega) (Nat.le_refl _) hms ⟨hM.len, fun i _ => ⟨fun e => hin i e, fun e => hall i e⟩⟩ hM.closed (hQ w hw)
    | succ fuel ih =>
      intro listed b w hf hM hin hw
      by_cases hall : ∀ k, k < m → listed.getD k false = true
      · have hfin : b = A m := by
          refine act_ext (Array.ext_getElem? fun t => ?_) (by rw [hM.defers, (asz _ (Nat.le_refl _)).2])
          by_cases hx : ∃ (k : Nat) (o : Oper), k < m ∧ ops[k]? = some o ∧ o.dst = some t
          · obtain ⟨k, o, hk, ho, ht⟩ := hx
            exact hM.done k o t ho (hall k hk) ht
          · rw [hM.left t (fun k o ho hl ht => hx ⟨k, o, hin k hl, ho, ht⟩), far 0 t m (by omega) (Nat.le_refl _) (fun i o _ hi ho ht => hx ⟨i, o, hi, ho, ht⟩), hA0]
        rw [hfin]
        exact forced hok ht (ops.size - m) m (fuel + 1) listed _ w rfl (by omega) (Nat.le_refl _) hms ⟨hM.len, fun i _ => ⟨fun e => hin i e, fun e => hall i e⟩⟩ hM.closed (hQ w hw)
      · refine ⟨fun hnil => absurd ?_ hall, fun j hj => ?_⟩
        · -- nothing may come up: then all has
          have hall' : ∀ n k, k < n → k < m → listed.getD k false = true := by
            intro n
            induction n with
            | zero => intro k hk; omega
            | succ n ihn =>
              intro k hk hs
              by_cases hl : listed.getD k false = true
              · exact hl
              · exfalso
                have hks : k < ops.size := by omega
                have hkl : k < listed.size := by rw [hM.len]; exact hks
                have hmem : k ∈ Region.ready .any ops listed := mem_ready.2 ⟨by simpa [hkl] using hl, _, Array.getElem?_eq_getElem hks, fun e he hb => by
                  have hlt := (seqOk_spec hok (Array.getElem?_eq_getElem hks)).2.1 e he hb
                  exact ihn e.on (by omega) (by omega)⟩
                rw [hnil] at hmem
                cases hmem
          exact fun k hk => hall' _ k (Nat.lt_succ_self k) hk
        · obtain ⟨hjun, o, ho, hedges⟩ := mem_ready.1 hj
          have hjs : j < ops.size := (Array.getElem?_eq_some_iff.1 ho).1
          have hjl : j < listed.size := by rw [hM.len]; exact hjs
          have hjun' : listed.getD j false = false := by simpa [hjl] using hjun
          have hmet : AllMet ops listed j := fun o' ho' e he hb => by
            rw [ho] at ho'
            cases ho'
            exact hedges e he hb
          have hjm : j < m := by
            refine Nat.lt_of_not_le fun hle => hall fun k hk => ?_
            exact met_bit hM.closed k (j + 1) j (by omega) hjs hmet (tailOk_spec ht hjs hle (by omega))
          obtain ⟨v, hv, step⟩ := hA' j o hjm ho
          have hag : Agree ops o (A j) b := by
            refine ⟨by rw [hM.size, (asz j (by omega)).1], fun t ht => ?_⟩
            by_cases hx : ∃ (i : Nat) (oi : Oper), ops[i]? = some oi ∧ oi.dst = some t
            · obtain ⟨i, oi, hi, hti⟩ := hx
              by_cases hij : i = j
              · rw [hM.left t (fun k ok hk hlk htk => by
                  have : k = i := unlike k i ok oi t hk hi htk hti
                  rw [this, hij, hjun'] at hlk
                  cases hlk), far 0 t j (by omega) (by omega) (fun k ok _ hk hok' htk => by
                  have : k = i := unlike k i ok oi t hok' hi htk hti
                  omega), hA0]
              · rcases ((seqOk_spec hok ho).2.2 i oi hi hij t hti).2 ht with ⟨hlt, hbit⟩ | ⟨hlt, hbit⟩
                · have hli := met_bit hM.closed i (j + 1) j (by omega) hjs hmet hbit
                  rw [hM.done i oi t hi hli hti]
                  exact far j t m (by omega) (Nat.le_refl _) (fun k ok hk _ hok' htk => by
                    have : k = i := unlike k i ok oi t hok' hi htk hti
                    omega)
                · have hun : listed.getD i false ≠ true := fun hli => by
                    have his : i < ops.size := (Array.getElem?_eq_some_iff.1 hi).1
                    have := met_bit hM.closed j (i + 1) i (by omega) his (hM.closed i hli) hbit
                    rw [hjun'] at this
                    cases this
                  rw [hM.left t (fun k ok hk hlk htk => by
                    have : k = i := unlike k i ok oi t hk hi htk hti
                    rw [this] at hlk
                    exact hun hlk), far 0 t j (by omega) (by omega) (fun k ok _ hk hok' htk => by
                    have : k = i := unlike k i ok oi t hok' hi htk hti
                    omega), hA0]
            · rw [hM.left t (fun k ok hk _ htk => hx ⟨k, ok, hk, htk⟩), far 0 t j (by omega) (by omega) (fun k ok _ _ hk htk => hx ⟨k, ok, hk, htk⟩), hA0]
          have hM' : Midway ops a (A m) (listed.setIfInBounds j true) (b.put o.dst v) := by
            refine ⟨by rw [put_size, hM.size], by rw [put_defs, hM.defers], by rw [Array.size_setIfInBounds, hM.len], fun y hy => ?_, fun k ok t hk hlk htk => ?_, fun t hno => ?_⟩
            · intro oy hoy e he hb
              by_cases hyj : j = y
              · subst hyj
                exact getD_set_true (hmet oy hoy e he hb)
              · rw [getD_set_ne false hyj] at hy
                exact getD_set_true (hM.closed y hy oy hoy e he hb)
            · by_cases hkj : j = k
              · subst hkj
                rw [ho] at hk
                cases hk
                rw [htk, put_at (b := A j) (by rw [hM.size, (asz j (by omega)).1]), ← htk, ← hv]
                exact (far (j + 1) t m (by omega) (Nat.le_refl _) (fun i oi hi _ hoi hti => by
                  have : i = j := unlike i j oi o t hoi ho hti htk
                  omega)).symm
              · rw [getD_set_ne false hkj] at hlk
                rw [put_ne (fun e => hkj (unlike j k o ok t ho hk e htk))]
                exact hM.done k ok t hk hlk htk
            · have hjt : o.dst ≠ some t := hno j o ho (by simp [hjl])
              rw [put_ne hjt]
              refine hM.left t (fun k ok hk hlk => hno k ok hk ?_)
              exact getD_set_true hlk
          unfold wpOp
          simp only [ho]
          refine step b w _ Q hag hw (fun w' hw' => ih _ _ w' ?_ hM' (fun k hk => ?_) hw')
          · have := count_lt (p := fun k => !listed.getD k true) (q := fun k => !(listed.setIfInBounds j true).getD k true) (fun k hk => by
              by_cases hkj : j = k
              · subst hkj; simp [hjun]
              · rw [getD_set_ne true hkj] at hk; exact hk) (j := j) (by simp [hjun]) (by simp [hjl]) (List.mem_range.2 hjm)
            omega
          · by_cases hkj : j = k
            · omega
            · rw [getD_set_ne false hkj] at hk
              exact hin k hk
  refine wp_region_any hm (main ops.size _ a w.drew ?_ ?_ ?_ hS)
  · have := List.length_filter_le (fun k => !(Array.replicate ops.size false).getD k true) (List.range m)
    simp only [List.length_range] at this
    omega
  · refine ⟨rfl, rfl, by simp, fun y hy => ?_, fun k o t ho hk _ => ?_, fun t _ => rfl⟩
    · simp [Array.getElem?_replicate] at hy
      split at hy <;> simp at hy
    · simp [Array.getElem?_replicate] at hk
      split at hk <;> simp at hk
  · intro k hk
    simp [Array.getElem?_replicate] at hk
    split at hk <;> simp at hk
/-- An operation whose guard is not decided: its value, or none. -/
theorem gives_guard {o : Oper} {a : Act} {v : Value} (x : Bool) (hw : Region.wanted o (yielded ops a.tmps) = x) (h : x = true → Gives P ops S { o with guard := none } a (a.put o.dst v)) :
    Gives P ops S o a (a.put o.dst (bif x then v else undef)) := by
  intro w hS
  unfold wpList
  cases x with
  | true =>
    rw [if_pos hw]
    have h1 := h rfl w hS
    unfold wpList at h1
    rw [if_pos (by simp [Region.wanted])] at h1
    exact h1
  | false =>
    rw [if_neg (by rw [hw]; simp)]
    exact ⟨rfl, rfl, hS⟩
theorem wanted_yes {o : Oper} {a : Act} {j : Nat} {t : Tmp} {b : Bool} (hg : o.guard = some (j, true)) (ht : (ops[j]?).bind (·.dst) = some t) (hb : a.tmps[t]? = some (.bool b)) :
    Region.wanted o (yielded ops a.tmps) = b := by simp [Region.wanted, hg, yielded, ht, hb]
theorem wanted_no {o : Oper} {a : Act} {j : Nat} {t : Tmp} {b : Bool} (hg : o.guard = some (j, false)) (ht : (ops[j]?).bind (·.dst) = some t) (hb : a.tmps[t]? = some (.bool b)) :
    Region.wanted o (yielded ops a.tmps) = !b := by cases b <;> simp [Region.wanted, hg, yielded, ht, hb]
theorem wanted_yes2 {o : Oper} {a : Act} {j : Nat} {t : Tmp} {b g : Bool} (hg : o.guard = some (j, true)) (ht : (ops[j]?).bind (·.dst) = some t) (hb : a.tmps[t]? = some (bif g then .bool b else undef)) :
    Region.wanted o (yielded ops a.tmps) = (g && b) := by cases g <;> simp [Region.wanted, hg, yielded, ht, hb, undef]
theorem wanted_no2 {o : Oper} {a : Act} {j : Nat} {t : Tmp} {b g : Bool} (hg : o.guard = some (j, false)) (ht : (ops[j]?).bind (·.dst) = some t) (hb : a.tmps[t]? = some (bif g then .bool b else undef)) :
    Region.wanted o (yielded ops a.tmps) = (g && !b) := by cases g <;> cases b <;> simp [Region.wanted, hg, yielded, ht, hb, undef]
/-- '&&' and '||' whose left side is not decided. -/
theorem gives_and {o : Oper} {a : Act} {t u : Tmp} {p q : Bool} (ho : o.op = .pick (.tmp t) (.tmp u) (.const (.bool false))) (hg : o.guard = none) (ht : a.tmps[t]? = some (.bool p))
    (hu : a.tmps[u]? = some (bif p then .bool q else undef)) : Gives P ops S o a (a.put o.dst (.bool (p && q))) := by
  intro w hS
  unfold wpList
  rw [if_pos (by simp [Region.wanted, hg])]
  refine .inl ?_
  unfold Oper.wp
  have hr : (execOp a.eval o).run P w = .ok (.value (.bool (p && q))) w := by
    unfold execOp
    rw [ho]
    cases p <;> simp [Act.eval, ht, hu, asBool]
  rw [hr]
  exact ⟨rfl, rfl, hS⟩
theorem gives_or {o : Oper} {a : Act} {t u : Tmp} {p q : Bool} (ho : o.op = .pick (.tmp t) (.const (.bool true)) (.tmp u)) (hg : o.guard = none) (ht : a.tmps[t]? = some (.bool p))
    (hu : a.tmps[u]? = some (bif !p then .bool q else undef)) : Gives P ops S o a (a.put o.dst (.bool (p || q))) := by
  intro w hS
  unfold wpList
  rw [if_pos (by simp [Region.wanted, hg])]
  refine .inl ?_
  unfold Oper.wp
  have hr : (execOp a.eval o).run P w = .ok (.value (.bool (p || q))) w := by
    unfold execOp
    rw [ho]
    cases p <;> simp [Act.eval, ht, hu, asBool]
  rw [hr]
  exact ⟨rfl, rfl, hS⟩
theorem walked_cons {Qf : Act → Prop} {o : Oper} {r : List Oper} {a a' : Act} (hg : Gives P ops S o a a') (hd : a'.defers = a.defers) (hr : Walked P ops S Qf r a') : Walked P ops S Qf (o :: r) a := ⟨a', hg, hd, hr⟩
theorem walked_nil {Qf : Act → Prop} {a : Act} (h : Qf a) : Walked P ops S Qf [] a := h
end
end Go.Proofs.Ytfiofjalpaeohaa
namespace Go.Proofs.Ytfiofjalpaeohaa
set_option linter.unusedVariables false
set_option linter.unusedSimpArgs false
open Go.RowKit
section
variable {P : Program} {ops : Array Oper} {S : Array Bool → World → Prop} {Q : Exit → Act → World → Prop}
/-- Operation number j (of n) comes to the frame a', wherever it comes up. -/
def GivesS (P : Program) (ops : Array Oper) (S : Array Bool → World → Prop) (n j : Nat) (o : Oper) (a a' : Act) : Prop :=
  ∀ (l : Array Bool) (w : World), l.size = n → l.getD j false = false → S l w → wpList P ops (Fin (S (l.setIfInBounds j true)) a') [o] a w
/-- The operations one by one, in the order of the text. -/
def WalkedS (P : Program) (ops : Array Oper) (S : Array Bool → World → Prop) (n : Nat) (Q : Act → Prop) : List Oper → Nat → Act → Prop
  | [], _, a => Q a
  | o :: r, j, a => ∃ a', GivesS P ops S n j o a a' ∧ a'.defers = a.defers ∧ WalkedS P ops S n Q r (j + 1) a'
/-- What an operation gives at one frame it gives at every frame that agrees on what it looks at. -/
theorem gives_vals {n j : Nat} {o : Oper} {a a' : Act} (h : GivesS P ops S n j o a a') (hd : a'.defers = a.defers) (hs : ∀ cs c, o.op ≠ .select cs c) {l0 : Array Bool} {w0 : World} (z0 : l0.size = n) (n0 : l0.getD j false = false) (h0 : S l0 w0) :
    ∃ v, a' = a.put o.dst v ∧ (∃ w1, S (l0.setIfInBounds j true) w1) ∧ ∀ (l : Array Bool) (b : Act) (w : World) (K : Act → World → Prop) (Q : Exit → Act → World → Prop), Agree ops o a b → l.size = n → l.getD j false = false → S l w → (∀ w', S (l.setIfInBounds j true) w' → K (b.put o.dst v) w') →
      (if Region.wanted o (yielded ops b.tmps) then o.wp P b w K Q ∨ (o.asks P b w ∧ LetsOut Q) else K (b.put o.dst undef) w) := by
  by_cases hw : Region.wanted o (yielded ops a.tmps) = true
  · -- what it comes to in a world of S
    have key : ∀ l w, l.size = n → l.getD j false = false → S l w → o.wp P a w (fun a'' w' => a'' = a' ∧ S (l.setIfInBounds j true) w') (fun _ _ _ => False) := by
      intro l w hz hn hS
      have h1 := h l w hz hn hS
      unfold wpList at h1
      rw [if_pos hw] at h1
      rcases h1 with h1 | ⟨_, a1, w1, h1, _⟩
      · unfold Oper.wp at h1 ⊢
        generalize (execOp a.eval o).run P w = r at h1 ⊢
        cases r with
        | ok n w' =>
          cases n with
          | value v => exact h1.2
          | skip => exact h1.2
          | defer d => exact h1.2
          | enter f args =>
            simp only [Oper.upon] at h1 ⊢
            refine Calls.mono h1 fun e w'' he => ?_
            cases e with
            | returned v => exact he.2
            | panicked c => exact absurd he.1 (by simp)
            | outgrown => obtain ⟨_, _, h2, _⟩ := he; exact absurd h2 (by simp)
          | row row args =>
            simp only [Oper.upon] at h1 ⊢
            exact Rows.mono h1 fun v w'' he => he.2
          | _ => exact (h1 : False).elim
        | halt x w' =>
          cases x <;> simp only [Oper.upon] at h1 ⊢ <;> first | exact h1 | exact absurd h1.1 (by simp)
      · exact absurd h1 (by simp)
    have nodefer : ∀ d, ({ a with defers := d :: a.defers } : Act).put o.dst undef ≠ a' := by
      intro d e
      have h1 := congrArg Act.defers e
      rw [hd] at h1
      have h2 : (({ a with defers := d :: a.defers } : Act).put o.dst undef).defers = d :: a.defers := by cases o.dst <;> rfl
      rw [h2] at h1
      have := congrArg List.length h1
      simp at this
    -- the value
    have hv : ∃ v, a' = a.put o.dst v ∧ ∃ w1, S (l0.setIfInBounds j true) w1 := by
      have k0 := key l0 w0 z0 n0 h0
      unfold Oper.wp at k0
      generalize (execOp a.eval o).run P w0 = r at k0
      cases r with
      | ok n w' =>
        cases n with
        | value v => exact ⟨v, k0.1.symm, _, k0.2⟩
        | skip => exact ⟨undef, k0.1.symm, _, k0.2⟩
        | defer d => exact absurd k0.1 (nodefer d)
        | enter f args =>
          simp only [Oper.upon] at k0
          obtain ⟨e, w'', fr, hr, _⟩ := k0 []
          cases e with
          | returned v => exact ⟨v, hr.1.symm, _, hr.2⟩
          | panicked c => exact hr.elim
          | outgrown => obtain ⟨_, _, h2⟩ := hr; exact h2.elim
        | row row args =>
          simp only [Oper.upon] at k0
          obtain ⟨v, w'', hr, _⟩ := k0 default []
          exact ⟨v, hr.1.symm, _, hr.2⟩
        | _ => exact (k0 : False).elim
      | halt x w' => cases x <;> simp only [Oper.upon] at k0
    obtain ⟨v, hv, hw1⟩ := hv
    refine ⟨v, hv, hw1, fun l b w K Q hab hz hn hS hK => ?_⟩
    rw [agree_wanted hab, if_pos hw]
    refine .inl ?_
    have k := key l w hz hn hS
    unfold Oper.wp at k ⊢
    rw [agree_eval hab hs]
    have same : ∀ u, a.put o.dst u = a' → b.put o.dst u = b.put o.dst v := fun u hu => put_same hab.1 (hu.trans hv)
    generalize (execOp a.eval o).run P w = r at k ⊢
    cases r with
    | ok n w' =>
      cases n with
      | value u => show K _ _; rw [same u k.1]; exact hK _ k.2
      | skip => show K _ _; rw [same undef k.1]; exact hK _ k.2
      | defer d => exact absurd k.1 (nodefer d)
      | enter f args =>
        simp only [Oper.upon] at k ⊢
        refine Calls.mono k fun e w'' he => ?_
        cases e with
        | returned u => show K _ _; rw [same u he.1]; exact hK _ he.2
        | panicked c => exact he.elim
        | outgrown => obtain ⟨_, _, h2⟩ := he; exact h2.elim
      | row row args =>
        simp only [Oper.upon] at k ⊢
        refine Rows.mono k fun u w'' he => ?_
        rw [same u he.1]; exact hK _ he.2
      | _ => exact (k : False).elim
    | halt x w' => cases x <;> simp only [Oper.upon] at k
  · have hw' : Region.wanted o (yielded ops a.tmps) = false := by simpa using hw
    refine ⟨undef, ?_, ?_, fun l b w K Q hab hz hn hS hK => ?_⟩
    · have h1 := h l0 w0 z0 n0 h0
      unfold wpList at h1
      rw [if_neg hw] at h1
      exact h1.2.1.symm
    · have h1 := h l0 w0 z0 n0 h0
      unfold wpList at h1
      rw [if_neg hw] at h1
      exact ⟨_, h1.2.2⟩
    · rw [agree_wanted hab, if_neg hw]
      have h1 := h l w hz hn hS
      unfold wpList at h1
      rw [if_neg hw] at h1
      exact hK w h1.2.2
theorem walkedS_chain {n : Nat} {Qf : Act → Prop} : ∀ {L : List Oper} (_ : ∀ (j : Nat) (o : Oper), L[j]? = some o → ∀ cs c, o.op ≠ .select cs c) (a : Act) (l0 : Array Bool) (w0 : World) {j0 : Nat}, l0.size = n → (∀ i, j0 ≤ i → l0.getD i false = false) → S l0 w0 →
    WalkedS P ops S n Qf L j0 a →
    ∃ A : Nat → Act, A 0 = a ∧ (∀ k o, L[k]? = some o → ∃ v, A (k + 1) = (A k).put o.dst v ∧ ∀ (l : Array Bool) (b : Act) (w : World) (K : Act → World → Prop) (Q : Exit → Act → World → Prop), Agree ops o (A k) b → l.size = n → l.getD (j0 + k) false = false → S l w →
      (∀ w', S (l.setIfInBounds (j0 + k) true) w' → K (b.put o.dst v) w') → (if Region.wanted o (yielded ops b.tmps) then o.wp P b w K Q ∨ (o.asks P b w ∧ LetsOut Q) else K (b.put o.dst undef) w)) ∧ Qf (A L.length) := by
  intro L
  induction L with
  | nil => intro _ a l0 w0 j0 _ _ _ h; exact ⟨fun _ => a, rfl, fun k o hk => by simp at hk, h⟩
  | cons o L ih =>
    intro hs a l0 w0 j0 hz hn h0 h
    obtain ⟨a', hg, hd, hr⟩ := h
    obtain ⟨v, hv, ⟨w1, h1⟩, step⟩ := gives_vals hg hd (hs 0 o rfl) hz (hn j0 (Nat.le_refl _)) h0
    obtain ⟨A, hA0, hA1, hA2⟩ := ih (fun j o' ho' => hs (j + 1) o' (by simpa using ho')) a' (l0.setIfInBounds j0 true) w1 (j0 := j0 + 1) (by rw [Array.size_setIfInBounds, hz]) (fun i hi => by
      rw [getD_set_ne false (by omega)]; exact hn i (by omega)) h1 hr
    refine ⟨fun k => match k with | 0 => a | k + 1 => A k, rfl, fun k o' hk => ?_, hA2⟩
    cases k with
    | zero =>
      simp at hk
      subst hk
      exact ⟨v, by show A 0 = a.put o.dst v; rw [hA0]; exact hv, step⟩
    | succ k =>
      have := hA1 k o' (by simpa using hk)
      rw [show j0 + 1 + k = j0 + (k + 1) by omega] at this
      exact this
/-- **A statement whose order is open, and which ends in operations that wait for all ahead of them (a store, an append): one walk, in the order of the text, is enough.** -/
theorem wp_region_staged (m : Nat) {id : Nat} {a : Act} {w : World} (hm : P.follows .mixedOrders = true) (hok : seqOk ops = true) (ht : tailOk ops m = true) (hms : m ≤ ops.size) (hS : S (Array.replicate ops.size false) w.drew)
    (h : WalkedS P ops S ops.size (fun a' => ∀ l w', l.size = ops.size → (∀ k, k < m → l.getD k false = true) → S l w' → wpList P ops Q (ops.toList.drop m) a' w') (ops.toList.take m) 0 a) : (Code.region id ops true).wp P Q a w := by
  obtain ⟨A, hA0, hA, hQ⟩ := walkedS_chain (fun j o ho => (seqOk_spec (j := j) hok (by rw [List.getElem?_take] at ho; split at ho; (· simpa using ho); (· cases ho))).1) _ _ _ (by simp) (fun i _ => by simp [Array.getElem?_replicate]; split <;> rfl) hS h
  have hA' : ∀ k o, k < m → ops[k]? = some o → ∃ v, A (k + 1) = (A k).put o.dst v ∧ ∀ (l : Array Bool) (b : Act) (w : World) (K : Act → World → Prop) (Q : Exit → Act → World → Prop), Agree ops o (A k) b → l.size = ops.size → l.getD k false = false → S l w →
      (∀ w', S (l.setIfInBounds k true) w' → K (b.put o.dst v) w') → (if Region.wanted o (yielded ops b.tmps) then o.wp P b w K Q ∨ (o.asks P b w ∧ LetsOut Q) else K (b.put o.dst undef) w) := fun k o hk ho => by
    simpa using hA k o (by rw [List.getElem?_take, if_pos hk]; simpa using ho)
  have hlen : (ops.toList.take m).length = m := by simp [Nat.min_eq_left hms]
  rw [hlen] at hQ
  have asz : ∀ k, k ≤ m → (A k).tmps.size = a.tmps.size ∧ (A k).defers = a.defers := by
    intro k
    induction k with
    | zero => intro _; rw [hA0]; exact ⟨rfl, rfl⟩
    | succ k ih =>
      intro hk
      obtain ⟨v, hv, _⟩ := hA' k _ (by omega) (Array.getElem?_eq_getElem (show k < ops.size by omega))
      obtain ⟨i1, i2⟩ := ih (by omega)
      rw [hv, put_size, put_defs]; exact ⟨i1, i2⟩
  have far : ∀ k t n, k ≤ n → n ≤ m → (∀ i o, k ≤ i → i < n → ops[i]? = some o → o.dst ≠ some t) → (A n).tmps[t]? = (A k).tmps[t]? := by
    intro k t n
    induction n with
    | zero => intro h1 _ _; rw [show k = 0 by omega]
    | succ n ih =>
      intro h1 h2 hno
      by_cases hkm : k = n + 1
      · rw [hkm]
      · obtain ⟨v, hv, _⟩ := hA' n _ (by omega) (Array.getElem?_eq_getElem (show n < ops.size by omega))
        rw [hv, put_ne (hno n _ (by omega) (by omega) (Array.getElem?_eq_getElem (show n < ops.size by omega)))]
        exact ih (by omega) (by omega) (fun i o hi hi' ho => hno i o hi (by omega) ho)
  have unlike : ∀ (i j : Nat) (oi oj : Oper) (t : Tmp), ops[i]? = some oi → ops[j]? = some oj → oi.dst = some t → oj.dst = some t → i = j := by
    intro i j oi oj t hi hj ti tj
    by_cases e : i = j
    · exact e
    · exact absurd tj (((seqOk_spec hok hj).2.2 i oi hi e t ti).1)
  have main : ∀ (fuel : Nat) (listed : Array Bool) (b : Act) (w : World), ((List.range m).filter (fun k => !listed.getD k true)).length + (ops.size - m) ≤ fuel →
      Midway ops a (A m) listed b → (∀ k, listed.getD k false = true → k < m) → S listed w → wpAny P .any ops Q fuel listed b w := by
    intro fuel
    induction fuel with
    | zero =>
      intro listed b w hf hM hin hw
      have hall : ∀ k, k < m → listed.getD k false = true := by
        intro k hk
        have hnil : (List.range m).filter (fun k => !listed.getD k true) = [] := List.length_eq_zero_iff.1 (by omega)
        have := (List.filter_eq_nil_iff.1 hnil) k (List.mem_range.2 hk)
        have hkl : k < listed.size := by rw [hM.len]; omega
        simpa [hkl] using this
      have hfin : b = A m := by
        refine act_ext (Array.ext_getElem? fun t => ?_) (by rw [hM.defers, (asz _ (Nat.le_refl _)).2])
        by_cases hx : ∃ (k : Nat) (o : Oper), k < m ∧ ops[k]? = some o ∧ o.dst = some t
        · obtain ⟨k, o, hk, ho, ht⟩ := hx
          exact hM.done k o t ho (hall k hk) ht
        · rw [hM.left t (fun k o ho hl ht => hx ⟨k, o, hin k hl, ho, ht⟩), far 0 t m (by omega) (Nat.le_refl _) (fun i o _ hi ho ht => hx ⟨i, o, hi, ho, ht⟩), hA0]
      rw [hfin]
      exact forced hok ht (ops.size - m) m 0 listed _ w rfl (by omega) (Nat.le_refl _) hms ⟨hM.len, fun i _ => ⟨fun e => hin i e, fun e => hall i e⟩⟩ hM.closed (hQ listed w hM.len hall hw)
    | succ fuel ih =>
      intro listed b w hf hM hin hw
      by_cases hall : ∀ k, k < m → listed.getD k false = true
      · have hfin : b = A m := by
          refine act_ext (Array.ext_getElem? fun t => ?_) (by rw [hM.defers, (asz _ (Nat.le_refl _)).2])
          by_cases hx : ∃ (k : Nat) (o : Oper), k < m ∧ ops[k]? = some o ∧ o.dst = some t
          · obtain ⟨k, o, hk, ho, ht⟩ := hx
            exact hM.done k o t ho (hall k hk) ht
          · rw [hM.left t (fun k o ho hl ht => hx ⟨k, o, hin k hl, ho, ht⟩), far 0 t m (by omega) (Nat.le_refl _) (fun i o _ hi ho ht => hx ⟨i, o, hi, ho, ht⟩), hA0]
        rw [hfin]
        exact forced hok ht (ops.size - m) m (fuel + 1) listed _ w rfl (by omega) (Nat.le_refl _) hms ⟨hM.len, fun i _ => ⟨fun e => hin i e, fun e => hall i e⟩⟩ hM.closed (hQ listed w hM.len hall hw)
      · refine ⟨fun hnil => absurd ?_ hall, fun j hj => ?_⟩
        · -- nothing may come up: then all has
          have hall' : ∀ n k, k < n → k < m → listed.getD k false = true := by
            intro n
            induction n with
            | zero => intro k hk; omega
            | succ n ihn =>
              intro k hk hs
              by_cases hl : listed.getD k false = true
              · exact hl
              · exfalso
                have hks : k < ops.size := by omega
                have hkl : k < listed.size := by rw [hM.len]; exact hks
                have hmem : k ∈ Region.ready .any ops listed := mem_ready.2 ⟨by simpa [hkl] using hl, _, Array.getElem?_eq_getElem hks, fun e he hb => by
                  have hlt := (seqOk_spec hok (Array.getElem?_eq_getElem hks)).2.1 e he hb
                  exact ihn e.on (by omega) (by omega)⟩
                rw [hnil] at hmem
                cases hmem
          exact fun k hk => hall' _ k (Nat.lt_succ_self k) hk
        · obtain ⟨hjun, o, ho, hedges⟩ := mem_ready.1 hj
          have hjs : j < ops.size := (Array.getElem?_eq_some_iff.1 ho).1
          have hjl : j < listed.size := by rw [hM.len]; exact hjs
          have hjun' : listed.getD j false = false := by simpa [hjl] using hjun
          have hmet : AllMet ops listed j := fun o' ho' e he hb => by
            rw [ho] at ho'
            cases ho'
            exact hedges e he hb
          have hjm : j < m := by
            refine Nat.lt_of_not_le fun hle => hall fun k hk => ?_
            exact met_bit hM.closed k (j + 1) j (by omega) hjs hmet (tailOk_spec ht hjs hle (by omega))
          obtain ⟨v, hv, step⟩ := hA' j o hjm ho
          have hag : Agree ops o (A j) b := by
            refine ⟨by rw [hM.size, (asz j (by omega)).1], fun t ht => ?_⟩
            by_cases hx : ∃ (i : Nat) (oi : Oper), ops[i]? = some oi ∧ oi.dst = some t
            · obtain ⟨i, oi, hi, hti⟩ := hx
              by_cases hij : i = j
              · rw [hM.left t (fun k ok hk hlk htk => by
                  have : k = i := unlike k i ok oi t hk hi htk hti
                  rw [this, hij, hjun'] at hlk
                  cases hlk), far 0 t j (by omega) (by omega) (fun k ok _ hk hok' htk => by
                  have : k = i := unlike k i ok oi t hok' hi htk hti
                  omega), hA0]
              · rcases ((seqOk_spec hok ho).2.2 i oi hi hij t hti).2 ht with ⟨hlt, hbit⟩ | ⟨hlt, hbit⟩
                · have hli := met_bit hM.closed i (j + 1) j (by omega) hjs hmet hbit
                  rw [hM.done i oi t hi hli hti]
                  exact far j t m (by omega) (Nat.le_refl _) (fun k ok hk _ hok' htk => by
                    have : k = i := unlike k i ok oi t hok' hi htk hti
                    omega)
                · have hun : listed.getD i false ≠ true := fun hli => by
                    have his : i < ops.size := (Array.getElem?_eq_some_iff.1 hi).1
                    have := met_bit hM.closed j (i + 1) i (by omega) his (hM.closed i hli) hbit
                    rw [hjun'] at this
                    cases this
                  rw [hM.left t (fun k ok hk hlk htk => by
                    have : k = i := unlike k i ok oi t hk hi htk hti
                    rw [this] at hlk
                    exact hun hlk), far 0 t j (by omega) (by omega) (fun k ok _ hk hok' htk => by
                    have : k = i := unlike k i ok oi t hok' hi htk hti
                    omega), hA0]
            · rw [hM.left t (fun k ok hk _ htk => hx ⟨k, ok, hk, htk⟩), far 0 t j (by omega) (by omega) (fun k ok _ _ hk htk => hx ⟨k, ok, hk, htk⟩), hA0]
          have hM' : Midway ops a (A m) (listed.setIfInBounds j true) (b.put o.dst v) := by
            refine ⟨by rw [put_size, hM.size], by rw [put_defs, hM.defers], by rw [Array.size_setIfInBounds, hM.len], fun y hy => ?_, fun k ok t hk hlk htk => ?_, fun t hno => ?_⟩
            · intro oy hoy e he hb
              by_cases hyj : j = y
              · subst hyj
                exact getD_set_true (hmet oy hoy e he hb)
              · rw [getD_set_ne false hyj] at hy
                exact getD_set_true (hM.closed y hy oy hoy e he hb)
            · by_cases hkj : j = k
              · subst hkj
                rw [ho] at hk
                cases hk
                rw [htk, put_at (b := A j) (by rw [hM.size, (asz j (by omega)).1]), ← htk, ← hv]
                exact (far (j + 1) t m (by omega) (Nat.le_refl _) (fun i oi hi _ hoi hti => by
                  have : i = j := unlike i j oi o t hoi ho hti htk
                  omega)).symm
              · rw [getD_set_ne false hkj] at hlk
                rw [put_ne (fun e => hkj (unlike j k o ok t ho hk e htk))]
                exact hM.done k ok t hk hlk htk
            · have hjt : o.dst ≠ some t := hno j o ho (by simp [hjl])
              rw [put_ne hjt]
              refine hM.left t (fun k ok hk hlk => hno k ok hk ?_)
              exact getD_set_true hlk
          unfold wpOp
          simp only [ho]
          refine step listed b w _ Q hag hM.len hjun' hw (fun w' hw' => ih _ _ w' ?_ hM' (fun k hk => ?_) hw')
          · have := count_lt (p := fun k => !listed.getD k true) (q := fun k => !(listed.setIfInBounds j true).getD k true) (fun k hk => by
              by_cases hkj : j = k
              · subst hkj; simp [hjun]
              · rw [getD_set_ne true hkj] at hk; exact hk) (j := j) (by simp [hjun]) (by simp [hjl]) (List.mem_range.2 hjm)
            omega
          · by_cases hkj : j = k
            · omega
            · rw [getD_set_ne false hkj] at hk
              exact hin k hk
  refine wp_region_any hm (main ops.size _ a w.drew ?_ ?_ ?_ hS)
  · have := List.length_filter_le (fun k => !(Array.replicate ops.size false).getD k true) (List.range m)
    simp only [List.length_range] at this
    omega
  · refine ⟨rfl, rfl, by simp, fun y hy => ?_, fun k o t ho hk _ => ?_, fun t _ => rfl⟩
    · simp [Array.getElem?_replicate] at hy
      split at hy <;> simp at hy
    · simp [Array.getElem?_replicate] at hk
      split at hk <;> simp at hk
  · intro k hk
    simp [Array.getElem?_replicate] at hk
    split at hk <;> simp at hk
theorem walkedS_cons {n j : Nat} {Qf : Act → Prop} {o : Oper} {r : List Oper} {a a' : Act} (hg : GivesS P ops S n j o a a') (hd : a'.defers = a.defers) (hr : WalkedS P ops S n Qf r (j + 1) a') : WalkedS P ops S n Qf (o :: r) j a := ⟨a', hg, hd, hr⟩
theorem walkedS_nil {n j : Nat} {Qf : Act → Prop} {a : Act} (h : Qf a) : WalkedS P ops S n Qf [] j a := h
end
end Go.Proofs.Ytfiofjalpaeohaa
namespace Go.Proofs.Ytfiofjalpaeohaa
set_option linter.unusedVariables false
set_option linter.unusedSimpArgs false
open Go.RowKit
/-- A jump to a label, else Q. -/
def toLabel (R : Nat → Act → World → Prop) (Q : Exit → Act → World → Prop) : Exit → Act → World → Prop
  | .goto l, a, w => R l a w
  | e, a, w => Q e a w
theorem wp_scope_labels {P : Program} {c : Code} {a : Act} {w : World} {Q : Exit → Act → World → Prop} (J : Nat → Nat → Act → World → Prop)
    (first : c.wp P (toLabel (fun l a w => ∃ k, J l k a w) Q) a w)
    (pass : ∀ l k a w, J l k a w → ∃ rest, findLabel c l = some rest ∧ rest.wp P (toLabel (fun l' a' w' => ∃ j, j < k ∧ J l' j a' w') Q) a w) : (Code.scope c).wp P Q a w := by
  intro b k cs
  have key : ∀ n l a w, J l n a w → ∃ rest, findLabel c l = some rest ∧ ∃ e a' w', Q e a' w' ∧ Arrives P (lone (b.at a (.code rest :: .inScope c :: k)) cs w) b k cs e a' w' := by
    intro n
    induction n using Nat.strongRecOn with
    | _ n ih =>
      intro l a w hJ
      obtain ⟨rest, hf, hw⟩ := pass l n a w hJ
      refine ⟨rest, hf, ?_⟩
      obtain ⟨e, a₁, w₁, hq, harr⟩ := hw b (.inScope c :: k) cs
      cases e with
      | normal => exact ⟨.normal, a₁, w₁, hq, Steps.trans harr (.one step_inScope)⟩
      | exit id => exact ⟨.exit id, a₁, w₁, hq, fun k' hk => harr k' (by simp [exitTo, hk])⟩
      | goto l' =>
        obtain ⟨j, hlt, hJ'⟩ := hq
        obtain ⟨rest', hf', e₂, a₂, w₂, hq₂, harr₂⟩ := ih j hlt l' a₁ w₁ hJ'
        have hg : gotoIn l' (.inScope c :: k) = some (.code rest' :: .inScope c :: k) := by simp [gotoIn, hf']
        exact ⟨e₂, a₂, w₂, hq₂, .of_steps (harr _ hg) harr₂⟩
      | ret => exact ⟨_, a₁, w₁, hq, harr⟩
      | panic ch => exact ⟨_, a₁, w₁, hq, harr⟩
      | outgrown => exact ⟨_, a₁, w₁, hq, harr⟩
  obtain ⟨e, a₁, w₁, hq, harr⟩ := first b (.inScope c :: k) cs
  cases e with
  | normal => exact ⟨.normal, a₁, w₁, hq, .head step_scope (Steps.trans harr (.one step_inScope))⟩
  | exit id => exact ⟨.exit id, a₁, w₁, hq, fun k' hk => .head step_scope (harr k' (by simp [exitTo, hk]))⟩
  | goto l' =>
    obtain ⟨n, hJ'⟩ := hq
    obtain ⟨rest', hf', e₂, a₂, w₂, hq₂, harr₂⟩ := key n l' a₁ w₁ hJ'
    have hg : gotoIn l' (.inScope c :: k) = some (.code rest' :: .inScope c :: k) := by simp [gotoIn, hf']
    exact ⟨e₂, a₂, w₂, hq₂, .of_steps (.head step_scope (harr _ hg)) harr₂⟩
  | ret => exact ⟨_, a₁, w₁, hq, .of_steps (.one step_scope) harr⟩
  | panic ch => exact ⟨_, a₁, w₁, hq, .of_steps (.one step_scope) harr⟩
  | outgrown => exact ⟨_, a₁, w₁, hq, .of_steps (.one step_scope) harr⟩
end Go.Proofs.Ytfiofjalpaeohaa
namespace Go.Proofs.Ytfiofjalpaeohaa
set_option linter.unusedVariables false
set_option linter.unusedSimpArgs false
open Go.RowKit
/-- World A until operation J has come, then world B. -/
def StageS (J : Nat) (A B : World) (l : Array Bool) (x : World) : Prop := x = bif l.getD J false then B else A
section
variable {J : Nat} {A B x : World} {l : Array Bool}
theorem stage_other (j : Nat) (hj : j ≠ J) (h : StageS J A B l x) : StageS J A B (l.setIfInBounds j true) x := by
  unfold StageS at h ⊢
  rw [getD_set_ne false hj]; exact h
theorem stage_cell {a : Addr} {v : Option Value} (h : StageS J A B l x) (hA : A.cell? a = v) (hB : B.cell? a = v) : x.cell? a = v := by
  unfold StageS at h
  rw [h]
  cases l.getD J false
  · exact hA
  · exact hB
theorem stage_before (hn : l.getD J false = false) (h : StageS J A B l x) : x = A := by
  unfold StageS at h
  rw [hn] at h; exact h
theorem stage_after (hn : l.getD J false = true) (h : StageS J A B l x) : x = B := by
  unfold StageS at h
  rw [hn] at h; exact h
theorem stage_done {n : Nat} (hz : l.size = n) (hJ : J < n) : StageS J A B (l.setIfInBounds J true) B := by
  have e : (l.setIfInBounds J true).getD J false = true := by simp [hz, hJ]
  unfold StageS
  rw [e]; rfl
end
end Go.Proofs.Ytfiofjalpaeohaa
namespace Go.Proofs.Ytfiofjalpaeohaa
set_option linter.unusedVariables false
set_option linter.unusedSimpArgs false
open Go.RowKit
theorem two64 : (2 : Nat) ^ 64 = 18446744073709551616 := rfl
end Go.Proofs.Ytfiofjalpaeohaa
namespace Go.Proofs.Ytfiofjalpaeohaa
set_option linter.unusedVariables false
set_option linter.unusedSimpArgs false
open Go.RowKit
end Go.Proofs.Ytfiofjalpaeohaa
namespace Go.Proofs.Ytfiofjalpaeohaa
set_option linter.unusedVariables false
set_option linter.unusedSimpArgs false
open Go.RowKit
end Go.Proofs.Ytfiofjalpaeohaa
