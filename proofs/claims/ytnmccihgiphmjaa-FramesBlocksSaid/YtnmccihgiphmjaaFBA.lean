/- Texts on the way to the statement FramesBlocks, several in one file: each part says what it is. -/
import Derived.Test.YtnmccihgiphmjaaProg
import Derived.Test.YtnmccihgiphmjaaRows
import Derived.WalkKit
import Derived.WalkSpells
import Derived.WalkLawsBesides
import Derived.Handy
import Derived.Lib.Hide
import Derived.Lib.SlBytesConst
import Derived.Deep.RegionHeld3
import Derived.BigQuiet
import Derived.Deep.QuietTactic
import Derived.Deep.DeepCutAuto
import Derived.Maps.OwnOps
import Derived.ProofKit
import Derived.OpenShut
import Derived.Lib.SmallJoins
import Derived.Deep.Slices
import Derived.Deep.SlicePairs
import Derived.Deep.Fields
import Derived.Laws.OwnMore
import Derived.Laws.AppendOwnNone
import Derived.Laws.IdiomStrings
import Derived.ChangeSlices
import Derived.Shelf.SlicesG.SearchI
import Derived.Shelf.SlicesG.Delete
import Derived.Shelf.Spec.SlicesInsertGrow
import Derived.Shelf.SlicesG.Cells
namespace Go.Proofs.Ytnmccihgiphmjaa
set_option linter.unusedVariables false
set_option linter.unusedSimpArgs false
open Go.RowKit
/-- A call that returns v and leaves all that was there as it was. -/
def RetB (w : World) (v : Value) (e : Ending) (w' : World) : Prop := e = .returned v ∧ Below w.heap.size w w'
/-! Structs held against each other, field by field. -/
section
variable {P : Program} {w : World} {d : Nat} {xs ys : Array Value} {f : Field} {fs : List Field} {a b : Value} {r s : Bool}
end
/-! Blocks known whole. -/
/-- The world with another block in b's place. -/
def putB (w : World) (b : Nat) (o : Obj) : World := { w with heap := w.heap.setIfInBounds b o }
theorem cell_of {w : World} {b : Nat} {C : Array Value} {t : TypeId} {fr : Nat × Nat} (h : w.heap[b]? = some (.cells C t fr)) (i : Nat) : w.cell? ⟨b, i, none⟩ = C[i]? := by
  simp [World.cell?, h]
theorem frozen_of {w : World} {b : Nat} {C : Array Value} {t : TypeId} (h : w.heap[b]? = some (.cells C t)) (i : Nat) : w.frozen? ⟨b, i, none⟩ = false := by
  simp [World.frozen?, h]
theorem modify_eq_set (a : Array Obj) (b : Nat) (f : Obj → Obj) (o : Obj) (h : a[b]? = some o) : a.modify b f = a.setIfInBounds b (f o) := by
  apply Array.ext_getElem?
  intro k
  simp only [Array.getElem?_modify, Array.getElem?_setIfInBounds]
  by_cases hk : b = k
  · subst hk
    have hb : b < a.size := by
      rcases Nat.lt_or_ge b a.size with h' | h'
      · exact h'
      · simp [Array.getElem?_eq_none h'] at h
    have e : a[b] = o := by simpa [Array.getElem?_eq_getElem hb] using h
    simp [hb, e]
  · simp [hk]
theorem set_of {w : World} {b : Nat} {C : Array Value} {t : TypeId} {fr : Nat × Nat} (h : w.heap[b]? = some (.cells C t fr)) (i : Nat) (v : Value) :
    w.setCell ⟨b, i, none⟩ v = putB w b (.cells (C.setIfInBounds i v) t fr) := by
  unfold World.setCell putB
  rw [modify_eq_set _ _ _ _ h]
  simp
theorem lt_of_block {w : World} {b : Nat} {o : Obj} (h : w.heap[b]? = some o) : b < w.heap.size := by
  rcases Nat.lt_or_ge b w.heap.size with h' | h'
  · exact h'
  · simp [Array.getElem?_eq_none h'] at h
theorem putB_size (w : World) (b : Nat) (o : Obj) : (putB w b o).heap.size = w.heap.size := by simp [putB]
theorem putB_same {w : World} {b : Nat} (o : Obj) (hb : b < w.heap.size) : (putB w b o).heap[b]? = some o := by simp [putB, hb]
theorem putB_other {w : World} {b k : Nat} (o : Obj) (hk : b ≠ k) : (putB w b o).heap[k]? = w.heap[k]? := by simp [putB, Array.getElem?_setIfInBounds, hk]
/-- What was there, but for the blocks of F, is as it was. -/
structure Only (F : Nat → Prop) (w w' : World) : Prop where
  os : w'.os = w.os
  tape : w'.tape = w.tape
  output : w'.output = w.output
  size : w.heap.size ≤ w'.heap.size
  block : ∀ k, k < w.heap.size → ¬ F k → w'.heap[k]? = w.heap[k]?
theorem Only.refl (F : Nat → Prop) (w : World) : Only F w w := ⟨rfl, rfl, rfl, Nat.le_refl _, fun _ _ _ => rfl⟩
theorem Only.trans {F : Nat → Prop} {a b c : World} (h : Only F a b) (k : Only F b c) : Only F a c :=
  ⟨k.os.trans h.os, k.tape.trans h.tape, k.output.trans h.output, Nat.le_trans h.size k.size, fun i hi hF => (k.block i (Nat.lt_of_lt_of_le hi h.size) hF).trans (h.block i hi hF)⟩
/-- A step that turns old blocks of F, or what was made since. -/
theorem Only.step {F G : Nat → Prop} {a b c : World} (h : Only F a b) (k : Only G b c) (hG : ∀ i, i < a.heap.size → G i → F i) : Only F a c :=
  ⟨k.os.trans h.os, k.tape.trans h.tape, k.output.trans h.output, Nat.le_trans h.size k.size,
    fun i hi hF => (k.block i (Nat.lt_of_lt_of_le hi h.size) (fun g => hF (hG i hi g))).trans (h.block i hi hF)⟩
theorem Only.mono {F G : Nat → Prop} {w w' : World} (h : Only F w w') (hG : ∀ i, i < w.heap.size → F i → G i) : Only G w w' :=
  ⟨h.os, h.tape, h.output, h.size, fun i hi hF => h.block i hi (fun f => hF (hG i hi f))⟩
theorem Only.drew {F : Nat → Prop} {a w : World} (h : Only F a w) : Only F a w.drew := ⟨h.os, h.tape, h.output, h.size, h.block⟩
theorem Only.drewN {F : Nat → Prop} {a w : World} (h : Only F a w) (n : Nat) : Only F a (w.drewN n) := ⟨h.os, h.tape, h.output, h.size, h.block⟩
theorem Only.alloc {F : Nat → Prop} {a w : World} (h : Only F a w) (o : Obj) : Only F a (w.alloc o) :=
  ⟨h.os, h.tape, h.output, by have := h.size; simp; omega, fun i hi hF => by
    rw [Below.heap_alloc _ _ _ (Nat.lt_of_lt_of_le hi h.size)]; exact h.block i hi hF⟩
theorem Only.putB {F : Nat → Prop} {a w : World} (h : Only F a w) {b : Nat} (o : Obj) (hb : b < a.heap.size → F b) : Only F a (putB w b o) :=
  ⟨h.os, h.tape, h.output, by rw [putB_size]; exact h.size, fun i hi hF => by
    by_cases hbi : b = i
    · subst hbi; exact absurd (hb hi) hF
    · rw [putB_other _ hbi]; exact h.block i hi hF⟩
theorem Only.setCell {F : Nat → Prop} {a w : World} (h : Only F a w) (p : Addr) (v : Value) (hb : p.block < a.heap.size → F p.block) : Only F a (w.setCell p v) :=
  ⟨h.os, h.tape, h.output, by have := h.size; simpa [World.setCell] using this, fun i hi hF => by
    by_cases hbi : p.block = i
    · subst hbi; exact absurd (hb hi) hF
    · rw [Below.heap_setCell _ _ _ _ (fun e => hbi e.symm)]; exact h.block i hi hF⟩
/-- Nothing that was there has turned. -/
abbrev Nothing : Nat → Prop := fun _ => False
theorem Only.below {w w' : World} {B : Nat} (h : Only (fun k => B ≤ k) w w') (hB : B ≤ w.heap.size) : Below B w w' :=
  ⟨h.os, h.tape, h.output, h.size, fun k hk => h.block k (by omega) (by omega)⟩
theorem Only.of_below {w w' : World} (h : Below w.heap.size w w') : Only Nothing w w' := ⟨h.os, h.tape, h.output, h.size, fun k hk _ => h.block k hk⟩
theorem Only.to_below {w w' : World} (h : Only Nothing w w') : Below w.heap.size w w' := ⟨h.os, h.tape, h.output, h.size, fun k hk => h.block k hk (fun f => f)⟩
theorem Only.cell {F : Nat → Prop} {w w' : World} (h : Only F w w') (b i : Nat) (hb : b < w.heap.size) (hF : ¬ F b) : w'.cell? ⟨b, i, none⟩ = w.cell? ⟨b, i, none⟩ :=
  World.cell?_of_block (w := w) (h.block b hb hF)
theorem Only.frozen {F : Nat → Prop} {w w' : World} (h : Only F w w') (b i : Nat) (hb : b < w.heap.size) (hF : ¬ F b) : w'.frozen? ⟨b, i, none⟩ = w.frozen? ⟨b, i, none⟩ :=
  World.frozen?_of_block (w := w) (h.block b hb hF)
theorem alloc_heap_new (w : World) (o : Obj) (k : Nat) (hk : k = w.heap.size) : (w.alloc o).heap[k]? = some o := by
  subst hk
  show (w.heap.push o)[w.heap.size]? = _
  simp
/-- What was there when w was is as it was. -/
abbrev Old (w x : World) : Prop := Below w.heap.size w x
theorem old_refl (w : World) : Old w w := Below.refl _ _
theorem old_alloc {w x : World} (h : Old w x) (o : Obj) : Old w (x.alloc o) := h.alloc h.size o
theorem old_drew {w x : World} (h : Old w x) : Old w x.drew := h.drew
theorem old_then {w x y : World} (h : Old w x) (hb : Old x y) : Old w y := h.trans (hb.mono h.size)
theorem keep_old {w x : World} {b : Nat} {o : Obj} (h : Old w x) (hb : w.heap[b]? = some o) : x.heap[b]? = some o := by
  rw [h.block b (lt_of_block hb)]; exact hb
theorem new_block (w : World) (o : Obj) : (w.alloc o).heap[w.heap.size]? = some o := alloc_heap_new _ _ _ rfl
/-- Blocks of cells, known whole. -/
def Has (w : World) : List (Nat × Array Value × TypeId) → Prop
  | [] => True
  | x :: l => w.heap[x.1]? = some (.cells x.2.1 x.2.2) ∧ Has w l
theorem keep_only {F : Nat → Prop} {w w' : World} {b : Nat} {o : Obj} (h : Only F w w') (hF : ¬ F b) (hb : w.heap[b]? = some o) : w'.heap[b]? = some o := by
  rw [h.block b (lt_of_block hb) hF]; exact hb
end Go.Proofs.Ytnmccihgiphmjaa
namespace Go.Proofs.Ytnmccihgiphmjaa
set_option linter.unusedVariables false
set_option linter.unusedSimpArgs false
open Go.ChangeShapes Go.WideShapes Go.ChangeAt Go.RowKit
theorem own : ownKnob Try.prog.godebug = none := by kernel_rfl
theorem laidOut : laidOutB Try.prog = true := by kernel_rfl
section
variable {H : Type} {enc : TypeId × Value → H} {P : Program}
theorem trodAll_below (hl : laidOutB P = true) {W W' : World} (hb : Below W.heap.size W W') : ∀ {ts : List TypeId} {vs : List Value} {ds : List (DataW H)} {ps : List MemPlace},
    (∀ t ∈ ts, P.readableRec t = true ∧ t < P.types.size) → DataW.TrodAll enc P W 0 (fun _ => true) true ts vs ds ps → (∀ x ∈ ps, x.block < W.heap.size) →
    DataW.TrodAll enc P W' 0 (fun b => decide (b < W.heap.size)) true ts vs ds ps
  | [], vs, ds, ps, _, h, _ => by
    obtain ⟨rfl, rfl, rfl⟩ := trodAll_nil h
    exact trodAll_mk0
  | t :: ts, vs, ds, ps, hr, h, hlt => by
    obtain ⟨v, vs', d, ds', p, q, rfl, rfl, rfl, h0, hs⟩ := trodAll_cons h
    refine trodAll_cons_mk (Below.trod hl (hr t List.mem_cons_self).1 (hr t List.mem_cons_self).2 h0 hb fun x hx => hlt x (List.mem_append_left _ hx)) ?_
    exact trodAll_below hl hb (fun t' ht => hr t' (List.mem_cons_of_mem _ ht)) hs fun x hx => hlt x (List.mem_append_right _ hx)
/-- True was told, and below the heap's old size nothing has turned: that is all that a law's row asks. -/
theorem post_true {f : Func} {s : ChangeSpec} {apart fresh handsOn : Bool} {W W' : World} {args : Array Value} {ds : List (DataW H)} {before : List MemPlace} {tb : TypeId}
    (hl : laidOutB P = true) (hr : ∀ t ∈ f.params.toList, P.readableRec t = true ∧ t < P.types.size) (hv : s.vars = [])
    (hW : DataW.Whole enc P f.params.toList s.vars apart W args.toList ds [] before) (hf : f.resultTypes = #[tb]) (hu : P.underlying tb = some .bool)
    (hs : s.fn H (ds ++ []) = { results := [.lit (.bool true)], args := ds }) (hb : Below W.heap.size W W') :
    s.post enc P f apart fresh handsOn false W args (.bool true) W' := by
  have hW0 := hW
  obtain ⟨p, q, hA, hV, hpq, _, _⟩ := hW0
  rw [hv] at hV
  have hq : q = [] := hV
  subst hq
  rw [List.append_nil] at hpq
  subst hpq
  refine ⟨ds, [], before, [], before, [], hW, ?_, ?_, ?_, hb.frame _, fun h => by cases h⟩
  · rw [hs, hf]
    exact trodAll_mk1 (shut_bool hu true)
  · rw [hs]
    exact trodAll_below hl hb hr hA fun x hx => hW.lt x hx
  · rw [hs, hv]
    rfl
end
end Go.Proofs.Ytnmccihgiphmjaa
namespace Go.Proofs.Ytnmccihgiphmjaa
set_option linter.unusedVariables false
set_option linter.unusedSimpArgs false
open Go.RowKit
/-- An assertion of a world, over the blocks that it owns. -/
abbrev Asn : Type := (Nat → Prop) → World → Prop
/-- It hangs on its own blocks alone. -/
structure Loc (A : Asn) : Prop where
  lt : ∀ {O : Nat → Prop} {w : World} {b : Nat}, A O w → O b → b < w.heap.size
  keep : ∀ {O G : Nat → Prop} {w x : World}, A O w → Only G w x → (∀ b, O b → ¬ G b) → A O x
/-- Assertions that own nothing in common. -/
def SepL : List Asn → Asn
  | [] => fun O _ => ∀ b, ¬ O b
  | A :: l => fun O w => ∃ O1 O2, A O1 w ∧ SepL l O2 w ∧ (∀ b, O1 b → ¬ O2 b) ∧ (∀ b, O b ↔ O1 b ∨ O2 b)
def Locs (l : List Asn) : Prop := ∀ A ∈ l, Loc A
theorem sep_lt : ∀ {l : List Asn}, Locs l → ∀ {O : Nat → Prop} {w : World} {b : Nat}, SepL l O w → O b → b < w.heap.size
  | [], _, _, _, _, h, hb => (h _ hb).elim
  | A :: l, hl, _, _, _, ⟨O1, O2, h1, h2, _, h4⟩, hb => by
    rcases (h4 _).1 hb with h | h
    · exact (hl A (List.mem_cons_self ..)).lt h1 h
    · exact sep_lt (fun B hB => hl B (List.mem_cons_of_mem _ hB)) h2 h
theorem sep_keep : ∀ {l : List Asn}, Locs l → ∀ {O G : Nat → Prop} {w x : World}, SepL l O w → Only G w x → (∀ b, O b → ¬ G b) → SepL l O x
  | [], _, _, _, _, _, h, _, _ => h
  | A :: l, hl, _, _, _, _, ⟨O1, O2, h1, h2, h3, h4⟩, ho, hG =>
    ⟨O1, O2, (hl A (List.mem_cons_self ..)).keep h1 ho (fun b hb => hG b ((h4 b).2 (.inl hb))), sep_keep (fun B hB => hl B (List.mem_cons_of_mem _ hB)) h2 ho (fun b hb => hG b ((h4 b).2 (.inr hb))), h3, h4⟩
theorem sep_loc {l : List Asn} (hl : Locs l) : Loc (SepL l) := ⟨fun h hb => sep_lt hl h hb, fun h ho hG => sep_keep hl h ho hG⟩
theorem locs_nil : Locs [] := fun _ h => (by cases h)
theorem locs_cons {A : Asn} {l : List Asn} (h : Loc A) (hl : Locs l) : Locs (A :: l) := fun B hB => by
  rcases List.mem_cons.1 hB with rfl | hB
  · exact h
  · exact hl B hB
theorem locs_set {A : Asn} {l : List Asn} (i : Nat) (h : Loc A) (hl : Locs l) : Locs (l.set i A) := fun B hB => by
  rcases List.mem_or_eq_of_mem_set hB with hB | rfl
  · exact hl B hB
  · exact h
/-- One of them turns. -/
theorem sep_turn : ∀ {l : List Asn} {i : Nat} {A : Asn}, Locs l → l[i]? = some A → ∀ {O : Nat → Prop} {w : World}, SepL l O w →
    ∃ O1, A O1 w ∧ (∀ b, O1 b → O b) ∧ ∀ (B : Asn) (O1' : Nat → Prop) (y : World), B O1' y → (∀ b, O1' b → O1 b ∨ w.heap.size ≤ b) → Only O1 w y →
      ∃ O', SepL (l.set i B) O' y ∧ (∀ b, O' b → O b ∨ w.heap.size ≤ b)
  | [], i, A, _, h, _, _, _ => by simp at h
  | C :: l, 0, A, hl, h, O, w, ⟨O1, O2, h1, h2, h3, h4⟩ => by
    simp only [List.getElem?_cons_zero, Option.some.injEq] at h
    subst h
    refine ⟨O1, h1, fun b hb => (h4 b).2 (.inl hb), fun B O1' y hB hf ho => ⟨fun b => O1' b ∨ O2 b, ⟨O1', O2, hB, ?_, fun b hb hb2 => ?_, fun b => Iff.rfl⟩, fun b hb => ?_⟩⟩
    · exact sep_keep (fun B hB => hl B (List.mem_cons_of_mem _ hB)) h2 ho (fun b hb hb1 => h3 b hb1 hb)
    · rcases hf b hb with h | h
      · exact h3 b h hb2
      · have := sep_lt (fun B hB => hl B (List.mem_cons_of_mem _ hB)) h2 hb2
        omega
    · rcases hb with hb | hb
      · rcases hf b hb with h | h
        · exact .inl ((h4 b).2 (.inl h))
        · exact .inr h
      · exact .inl ((h4 b).2 (.inr hb))
  | C :: l, i + 1, A, hl, h, O, w, ⟨O1, O2, h1, h2, h3, h4⟩ => by
    have hl' : Locs l := fun B hB => hl B (List.mem_cons_of_mem _ hB)
    obtain ⟨P1, p1, p2, p3⟩ := sep_turn hl' (by simpa using h) h2
    refine ⟨P1, p1, fun b hb => (h4 b).2 (.inr (p2 b hb)), fun B O1' y hB hf ho => ?_⟩
    obtain ⟨O', q1, q2⟩ := p3 B O1' y hB hf ho
    refine ⟨fun b => O1 b ∨ O' b, ⟨O1, O', (hl C (List.mem_cons_self ..)).keep h1 ho (fun b hb hb1 => h3 b hb (p2 b hb1)), q1, fun b hb hb2 => ?_, fun b => Iff.rfl⟩, fun b hb => ?_⟩
    · rcases q2 b hb2 with h | h
      · exact h3 b hb h
      · have := (hl C (List.mem_cons_self ..)).lt h1 hb
        omega
    · rcases hb with hb | hb
      · exact .inl ((h4 b).2 (.inl hb))
      · rcases q2 b hb with h | h
        · exact .inl ((h4 b).2 (.inr h))
        · exact .inr h
theorem sep_get : ∀ {l : List Asn} {i : Nat} {A : Asn}, l[i]? = some A → ∀ {O : Nat → Prop} {w : World}, SepL l O w → ∃ O1, A O1 w ∧ ∀ b, O1 b → O b
  | [], i, A, h, _, _, _ => by simp at h
  | C :: l, 0, A, h, O, w, ⟨O1, O2, h1, h2, h3, h4⟩ => by
    simp only [List.getElem?_cons_zero, Option.some.injEq] at h
    subst h
    exact ⟨O1, h1, fun b hb => (h4 b).2 (.inl hb)⟩
  | C :: l, i + 1, A, h, O, w, ⟨O1, O2, h1, h2, h3, h4⟩ => by
    obtain ⟨P1, p1, p2⟩ := sep_get (l := l) (i := i) (by simpa using h) h2
    exact ⟨P1, p1, fun b hb => (h4 b).2 (.inr (p2 b hb))⟩
theorem sep_swap {A B : Asn} {l : List Asn} {O : Nat → Prop} {w : World} (h : SepL (A :: B :: l) O w) : SepL (B :: A :: l) O w := by
  obtain ⟨O1, O2, h1, ⟨O3, O4, h2, h3, h4, h5⟩, h6, h7⟩ := h
  refine ⟨O3, fun b => O1 b ∨ O4 b, h2, ⟨O1, O4, h1, h3, fun b hb hb4 => h6 b hb ((h5 b).2 (.inr hb4)), fun b => Iff.rfl⟩, fun b hb hb2 => ?_, fun b => ?_⟩
  · rcases hb2 with hb2 | hb2
    · exact h6 b hb2 ((h5 b).2 (.inl hb))
    · exact h4 b hb hb2
  · rw [h7, h5]
    constructor
    · rintro (h | h | h)
      · exact .inr (.inl h)
      · exact .inl h
      · exact .inr (.inr h)
    · rintro (h | h | h)
      · exact .inr (.inl h)
      · exact .inl h
      · exact .inr (.inr h)
theorem sep_under {A : Asn} {l m : List Asn} (hlm : ∀ O w, SepL l O w → SepL m O w) {O : Nat → Prop} {w : World} (h : SepL (A :: l) O w) : SepL (A :: m) O w := by
  obtain ⟨O1, O2, h1, h2, h3, h4⟩ := h
  exact ⟨O1, O2, h1, hlm _ _ h2, h3, h4⟩
/-- What stands in a world x that came out of w: these structures, all of blocks made since; and all of w as it was. -/
def Stands (w : World) (l : List Asn) (x : World) : Prop := Locs l ∧ Old w x ∧ ∃ O, SepL l O x ∧ ∀ b, O b → w.heap.size ≤ b
section
variable {w x y : World} {l : List Asn} {A B : Asn}
theorem stands_nil (w : World) : Stands w [] w := ⟨locs_nil, old_refl w, fun _ => False, fun _ f => f, fun _ f => f.elim⟩
theorem stands_old (h : Stands w l x) : Old w x := h.2.1
theorem stands_then (h : Stands w l x) (ho : Old x y) : Stands w l y := by
  obtain ⟨h1, h2, O, h3, h4⟩ := h
  exact ⟨h1, old_then h2 ho, O, sep_keep h1 h3 (Only.of_below ho) (fun _ _ f => f), h4⟩
theorem stands_get (h : Stands w l x) {i : Nat} (hi : l[i]? = some A) : ∃ O, A O x ∧ ∀ b, O b → w.heap.size ≤ b := by
  obtain ⟨h1, h2, O, h3, h4⟩ := h
  obtain ⟨O1, p1, p2⟩ := sep_get hi h3
  exact ⟨O1, p1, fun b hb => h4 b (p2 b hb)⟩
/-- A structure that was made since. -/
theorem stands_new (h : Stands w l x) (ho : Old x y) (hA : Loc A) {O1 : Nat → Prop} (h1 : A O1 y) (hO : ∀ b, O1 b → x.heap.size ≤ b) : Stands w (A :: l) y := by
  obtain ⟨g1, g2, O, g3, g4⟩ := h
  refine ⟨locs_cons hA g1, old_then g2 ho, fun b => O1 b ∨ O b, ⟨O1, O, h1, sep_keep g1 g3 (Only.of_below ho) (fun _ _ f => f), fun b hb hb2 => ?_, fun b => Iff.rfl⟩, fun b hb => ?_⟩
  · have := hO b hb
    have := sep_lt g1 g3 hb2
    omega
  · rcases hb with hb | hb
    · have := hO b hb
      have := g2.size
      omega
    · exact g4 b hb
/-- One of the structures turns. -/
theorem stands_turn (h : Stands w l x) {i : Nat} (hi : l[i]? = some A) : ∃ O1, A O1 x ∧ (∀ b, O1 b → w.heap.size ≤ b) ∧ ∀ (B : Asn) (O1' : Nat → Prop) (y : World), Loc B → B O1' y → (∀ b, O1' b → O1 b ∨ x.heap.size ≤ b) → Only O1 x y → Stands w (l.set i B) y := by
  obtain ⟨h1, h2, O, h3, h4⟩ := h
  obtain ⟨O1, p1, p2, p3⟩ := sep_turn h1 hi h3
  refine ⟨O1, p1, fun b hb => h4 b (p2 b hb), fun B O1' y hB hB' hf ho => ?_⟩
  obtain ⟨O', q1, q2⟩ := p3 B O1' y hB' hf ho
  refine ⟨locs_set i hB h1, ?_, O', q1, fun b hb => ?_⟩
  · exact Only.to_below ((Only.of_below h2).step ho (fun b hb f => by have := h4 b (p2 b f); omega))
  · rcases q2 b hb with h | h
    · exact h4 b h
    · have := h2.size
      omega
end
theorem stands_perm {w x : World} {l m : List Asn} (hp : ∀ A ∈ m, A ∈ l) (hlm : ∀ O w, SepL l O w → SepL m O w) (h : Stands w l x) : Stands w m x := by
  obtain ⟨h1, h2, O, h3, h4⟩ := h
  exact ⟨fun A hA => h1 A (hp A hA), h2, O, hlm _ _ h3, h4⟩
/-- A call that turns one structure. -/
def Turns (P : Program) (f : FuncId) (args : Array Value) (A : Asn) (v : Value) (B : Asn) : Prop :=
  ∀ O w, A O w → Calls P f args w (fun e y => e = .returned v ∧ ∃ O', B O' y ∧ (∀ b, O' b → O b ∨ w.heap.size ≤ b) ∧ Only O w y)
theorem turns_stands {P : Program} {f : FuncId} {args : Array Value} {A B : Asn} {v : Value} (ht : Turns P f args A v B) (hB : Loc B) {w x : World} {l : List Asn} {i : Nat} (h : Stands w l x) (hi : l[i]? = some A) :
    Calls P f args x (fun e y => e = .returned v ∧ Stands w (l.set i B) y) := by
  obtain ⟨O1, p1, -, p3⟩ := stands_turn h hi
  refine (ht O1 x p1).mono ?_
  rintro e y ⟨rfl, O', q1, q2, q3⟩
  exact ⟨rfl, p3 B O' y hB q1 q2 q3⟩
/-- A call that leaves all as it was. -/
theorem quiet_stands {P : Program} {f : FuncId} {args : Array Value} {v : Value} {w x : World} {l : List Asn} (h : Stands w l x) (hc : Calls P f args x (RetB x v)) :
    Calls P f args x (fun e y => e = .returned v ∧ Stands w l y) := by
  refine hc.mono ?_
  rintro e y ⟨rfl, ho⟩
  exact ⟨rfl, stands_then h ho⟩
/-- A block of cells. -/
def Pts (b : Nat) (C : Array Value) (t : TypeId) : Asn := fun O w => (∀ k, O k ↔ k = b) ∧ w.heap[b]? = some (.cells C t)
theorem loc_pts (b : Nat) (C : Array Value) (t : TypeId) : Loc (Pts b C t) :=
  ⟨fun h hb => by rw [(h.1 _).1 hb]; exact lt_of_block h.2, fun h ho hG => ⟨h.1, keep_only ho (hG b ((h.1 b).2 rfl)) h.2⟩⟩
theorem stands_pts {w x : World} {l : List Asn} (h : Stands w l x) (C : Array Value) (t : TypeId) : Stands w (Pts x.heap.size C t :: l) (x.alloc (.cells C t)) :=
  stands_new h (old_alloc (old_refl x) _) (loc_pts _ _ _) (O1 := fun k => k = x.heap.size) ⟨fun _ => Iff.rfl, new_block _ _⟩ (fun b e => by omega)
end Go.Proofs.Ytnmccihgiphmjaa
namespace Go.Proofs.Ytnmccihgiphmjaa
set_option linter.unusedVariables false
set_option linter.unusedSimpArgs false
open Go.RowKit
/-- Behind some steps from w on: the structures l, out of the blocks of O and new ones; nothing but O's blocks has turned. -/
def Ev (w : World) (O : Nat → Prop) (l : List Asn) (x : World) : Prop := Locs l ∧ Only O w x ∧ ∃ O', SepL l O' x ∧ ∀ b, O' b → O b ∨ w.heap.size ≤ b
section
variable {w x y : World} {O : Nat → Prop} {l : List Asn} {A B : Asn}
theorem ev_start (hl : Locs l) (h : SepL l O w) : Ev w O l w := ⟨hl, Only.refl _ _, O, h, fun b hb => .inl hb⟩
theorem ev_then (h : Ev w O l x) (ho : Old x y) : Ev w O l y := by
  obtain ⟨h1, h2, O', h3, h4⟩ := h
  exact ⟨h1, h2.trans ((Only.of_below ho).mono fun _ _ f => f.elim), O', sep_keep h1 h3 (Only.of_below ho) (fun _ _ f => f), h4⟩
theorem ev_get (h : Ev w O l x) {i : Nat} (hi : l[i]? = some A) : ∃ O1, A O1 x := by
  obtain ⟨h1, h2, O', h3, h4⟩ := h
  obtain ⟨O1, p1, -⟩ := sep_get hi h3
  exact ⟨O1, p1⟩
/-- One of the structures turns. -/
theorem ev_turn (h : Ev w O l x) {i : Nat} (hi : l[i]? = some A) : ∃ O1, A O1 x ∧ ∀ (B : Asn) (O1' : Nat → Prop) (y : World), Loc B → B O1' y → (∀ b, O1' b → O1 b ∨ x.heap.size ≤ b) → Only O1 x y → Ev w O (l.set i B) y := by
  obtain ⟨h1, h2, O', h3, h4⟩ := h
  obtain ⟨O1, p1, p2, p3⟩ := sep_turn h1 hi h3
  refine ⟨O1, p1, fun B O1' y hB hB' hf ho => ?_⟩
  obtain ⟨O2, q1, q2⟩ := p3 B O1' y hB' hf ho
  refine ⟨locs_set i hB h1, h2.step ho (fun b hb f => ?_), O2, q1, fun b hb => ?_⟩
  · rcases h4 b (p2 b f) with h | h
    · exact h
    · omega
  · rcases q2 b hb with h | h
    · exact h4 b h
    · have := h2.size; exact .inr (by omega)
theorem ev_call {P : Program} {f : FuncId} {args : Array Value} {v : Value} (ht : Turns P f args A v B) (hB : Loc B) (h : Ev w O l x) {i : Nat} (hi : l[i]? = some A) :
    Calls P f args x (fun e y => e = .returned v ∧ Ev w O (l.set i B) y) := by
  obtain ⟨O1, p1, p3⟩ := ev_turn h hi
  refine (ht O1 x p1).mono ?_
  rintro e y ⟨rfl, O', q1, q2, q3⟩
  exact ⟨rfl, p3 B O' y hB q1 q2 q3⟩
theorem ev_pts {b i : Nat} {C : Array Value} {t : TypeId} (h : Ev w O l x) (hi : l[i]? = some (Pts b C t)) : x.heap[b]? = some (.cells C t) := by
  obtain ⟨O1, p1⟩ := ev_get h hi
  exact p1.2
theorem ev_end {v : Value} {e : Ending} (he : e = .returned v) (h : Ev w O l y) : e = .returned v ∧ ∃ O', SepL l O' y ∧ (∀ b, O' b → O b ∨ w.heap.size ≤ b) ∧ Only O w y := by
  obtain ⟨h1, h2, O', h3, h4⟩ := h
  exact ⟨he, O', h3, h4, h2⟩
end
end Go.Proofs.Ytnmccihgiphmjaa
namespace Go.Proofs.Ytnmccihgiphmjaa
set_option linter.unusedVariables false
set_option linter.unusedSimpArgs false
open Go.ChangeShapes Go.WideShapes Go.Deep Go.RowKit Go.Joins
theorem add_eq (a : Addr) (n : Nat) (h : a.spot = none) : a.add n = ⟨a.block, a.off + n, none⟩ := by
  obtain ⟨b, o, s⟩ := a
  simp at h
  subst h
  unfold Addr.add
  split <;> simp_all
section
variable {H : Type} {enc : TypeId × Value → H} {P : Program} {w : World}
end
end Go.Proofs.Ytnmccihgiphmjaa
namespace Go.Proofs.Ytnmccihgiphmjaa
set_option linter.unusedVariables false
set_option linter.unusedSimpArgs false
open Go.RowKit
/-- A slice of bytes reads as l. -/
def Bytes (w : World) (ad : Option Addr) (c : Nat) (l : List Nat) : Prop :=
  l.length ≤ c ∧ c ≤ maxLen ∧ (ad = none → c = 0) ∧ ∀ (k x : Nat), l[k]? = some x → x < 256 ∧ ∃ bb off, ad = some ⟨bb, off, none⟩ ∧ bb < w.heap.size ∧ w.cell? ⟨bb, off + k, none⟩ = some (.int .u8 x)
def vb (x : Nat) : Value := .int .u8 x
/-- A row of bytes at block g, from block B on. -/
def Row (w : World) (B g cap : Nat) (l : List Nat) : Prop :=
  w.ownsRow B 5 1 (.slice (some ⟨g, 0, none⟩) l.length cap) l.length (l.map vb) ∧ ∀ x ∈ l, x < 256
section
variable {w w' : World} {B g cap : Nat} {l : List Nat}
theorem row_parts (h : Row w B g cap l) : B ≤ g ∧ g < w.heap.size ∧ l.length ≤ cap ∧ cap ≤ maxLen := by
  rcases h.1.2 with ⟨h', _⟩ | ⟨g', cap', cur, h', hb, hg, hnc, hcm, _⟩
  · simp at h'
  · simp only [Value.slice.injEq, Option.some.injEq, Addr.mk.injEq, and_true, true_and] at h'
    obtain ⟨rfl, rfl⟩ := h'
    exact ⟨hb, lt_of_block hg, hnc, hcm⟩
theorem row_only {F : Nat → Prop} (h : Row w B g cap l) (ho : Only F w w') (hF : ¬ F g) : Row w' B g cap l := by
  refine ⟨⟨h.1.1, ?_⟩, h.2⟩
  rcases h.1.2 with h' | ⟨g', cap', cur, h', hb, hg, rest⟩
  · exact .inl h'
  · simp only [Value.slice.injEq, Option.some.injEq, Addr.mk.injEq, and_true, true_and] at h'
    obtain ⟨rfl, rfl⟩ := h'
    exact .inr ⟨g, cap, cur, rfl, hb, keep_only ho hF hg, rest⟩
end
section
open Go.ChangeShapes Go.WideShapes Go.Deep Go.RowKit Go.Joins
variable {H : Type} {enc : TypeId × Value → H} {P : Program} {w : World}
end
end Go.Proofs.Ytnmccihgiphmjaa
namespace Go.Proofs.Ytnmccihgiphmjaa
set_option linter.unusedVariables false
set_option linter.unusedSimpArgs false
open Go.RowKit
/-- An append whose run is known. -/
theorem wpList_append_run {P : Program} {w : World} {ops : Array Oper} {rest : List Oper} {o : Oper} {a : Act} {Q : Exit → Act → World → Prop} (hgd : o.guard = none) (s x : Operand) (t : TypeId)
    (ho : o.op = .call { callee := .builtin .append, args := #[s, x], argTypes := #[t, t] }) (u v : Value) (hs : a.eval s = u) (hx : a.eval x = v) (v' : Value) (w' : World)
    (hrun : (Builtin.append_ #[t, t] o.type #[u, v]).run P w = .ok v' w') (h : wpList P ops Q rest (a.put o.dst v') w') : wpList P ops Q (o :: rest) a w := by
  refine wpList_plain hgd fun K hK => ?_
  unfold Oper.wp
  simp [execOp, ho, resolve, invoke, builtin, hs, hx, hrun, Result.andThen]
  exact hK _ _ h
end Go.Proofs.Ytnmccihgiphmjaa
namespace Go.Proofs.Ytnmccihgiphmjaa
set_option linter.unusedVariables false
set_option linter.unusedSimpArgs false
open Go.RowKit
theorem news_block (w : World) (l : List Value) (t : TypeId) (b : Nat) (hb : b = w.heap.size) : ∀ (j : Nat) (u : Value), l[j]? = some u → (w.alloc (.cells l.toArray t)).cell? ((⟨b, 0, none⟩ : Addr).add j) = some u := by
  subst hb
  intro j u hu
  rw [add_eq _ _ rfl, cell_of (new_block _ _)]
  simpa using hu
/-- What an append leaves, told by blocks. -/
theorem grown_only {w w' : World} {row : Option Nat} (h : w.grownBy w' row) : Only (fun b => some b = row) w w' :=
  ⟨h.os, h.tape, h.output, h.size, fun k hk hF => h.block k hk (fun e => hF e)⟩
/-- A row's value. -/
theorem own_value {w : World} {B : Nat} {e : TypeId} {s n : Nat} {v : Value} {xs : List Value} (h : w.ownsRow B e s v n xs) : ∃ ad c, v = .slice ad n c ∧ n ≤ c ∧ c ≤ maxLen ∧ (∀ bb off, ad = some ⟨bb, off, none⟩ → off = 0 ∧ B ≤ bb ∧ bb < w.heap.size) ∧ (0 < n → ∃ g, ad = some ⟨g, 0, none⟩) := by
  rcases h.2 with ⟨rfl, rfl⟩ | ⟨g, cap, cur, rfl, hb, hg, hnc, hcm, _⟩
  · exact ⟨none, 0, rfl, Nat.le_refl _, Nat.zero_le _, (fun _ _ e => by cases e), fun f => absurd f (Nat.lt_irrefl _)⟩
  · exact ⟨some ⟨g, 0, none⟩, cap, rfl, hnc, hcm, (fun _ _ e => by cases e; exact ⟨rfl, hb, lt_of_block hg⟩), fun _ => ⟨g, rfl⟩⟩
/-- A row's cell. -/
theorem own_cell {w : World} {B : Nat} {e : TypeId} {s n c : Nat} {ad : Option Addr} {xs : List Value} (h : w.ownsRow B e s (.slice ad n c) n xs) {g off : Nat} (ha : ad = some ⟨g, off, none⟩) (j : Nat) {u : Value} (hu : xs[j]? = some u) : w.cell? ⟨g, j, none⟩ = some u := by
  rcases h.2 with ⟨e', h0⟩ | ⟨g', cap, cur, e', hb, hg, hnc, hcm, hcs, ht⟩
  · subst ha; cases e'
  · subst ha
    simp only [Value.slice.injEq, Option.some.injEq, Addr.mk.injEq, and_true, true_and] at e'
    obtain ⟨⟨rfl, rfl⟩, rfl⟩ := e'
    have hj : j < n * s := by rw [← h.1]; exact (List.getElem?_eq_some_iff.1 hu).1
    rw [← hu, ← ht, List.getElem?_take, if_pos hj]
    show _ = _
    rw [World.cell?, hg]
    simp
end Go.Proofs.Ytnmccihgiphmjaa
namespace Go.Proofs.Ytnmccihgiphmjaa
set_option linter.unusedVariables false
set_option linter.unusedSimpArgs false
open Go.RowKit Go.Shelf
def ren49 : Ren := ⟨fun | 49 => 58 | 59 => 63 | 60 => 64 | 68 => 68 | n => n, fun | 0 => 0 | 3 => 3 | 4 => 4 | 22 => 54 | 23 => 3 | 51 => 90 | n => n, fun n => n⟩
theorem lay49 : SlLaysN.n49 Try.prog ren49 := {
    mixed := by kernel_rfl,
    f49 := ⟨Try.f58.name, by decide, by kernel_rfl⟩,
    f59 := ⟨Try.f63.name, by decide, by kernel_rfl⟩,
    f60 := ⟨Try.f64.name, by decide, by kernel_rfl⟩,
    f68 := ⟨Try.f68.name, by decide, by kernel_rfl⟩,
    t0 := by kernel_rfl,
    a0 := fun w => by kernel_rfl,
    z0 := fun w => by kernel_rfl,
    v0 := fun w => by kernel_rfl,
    t3 := by kernel_rfl,
    a3 := fun w => by kernel_rfl,
    z3 := fun w => by kernel_rfl,
    v3 := fun w => by kernel_rfl,
    t4 := by kernel_rfl,
    a4 := fun w => by kernel_rfl,
    z4 := fun w => by kernel_rfl,
    v4 := fun w => by kernel_rfl,
    t22 := by kernel_rfl,
    a22 := fun w => by kernel_rfl,
    z22 := fun w => by kernel_rfl,
    v22 := fun w => by kernel_rfl,
    t23 := by kernel_rfl,
    a23 := fun w => by kernel_rfl,
    z23 := fun w => by kernel_rfl,
    v23 := fun w => by kernel_rfl,
    t51 := by kernel_rfl,
    a51 := fun w => by kernel_rfl,
    z51 := fun w => by kernel_rfl,
    v51 := fun w => by kernel_rfl }
def ren45 : Ren := ⟨fun | 45 => 59 | n => n, fun | 0 => 0 | 3 => 3 | 4 => 4 | 22 => 54 | 23 => 3 | n => n, fun n => n⟩
theorem lay45 : SlLaysN.n45 Try.prog ren45 := {
    mixed := by kernel_rfl,
    f45 := ⟨Try.f59.name, by decide, by kernel_rfl⟩,
    t0 := by kernel_rfl,
    a0 := fun w => by kernel_rfl,
    z0 := fun w => by kernel_rfl,
    v0 := fun w => by kernel_rfl,
    t3 := by kernel_rfl,
    a3 := fun w => by kernel_rfl,
    z3 := fun w => by kernel_rfl,
    v3 := fun w => by kernel_rfl,
    t4 := by kernel_rfl,
    a4 := fun w => by kernel_rfl,
    z4 := fun w => by kernel_rfl,
    v4 := fun w => by kernel_rfl,
    t22 := by kernel_rfl,
    a22 := fun w => by kernel_rfl,
    z22 := fun w => by kernel_rfl,
    v22 := fun w => by kernel_rfl,
    t23 := by kernel_rfl,
    a23 := fun w => by kernel_rfl,
    z23 := fun w => by kernel_rfl,
    v23 := fun w => by kernel_rfl,
    i23 := by kernel_rfl }
def ren21 : Ren := ⟨fun | 21 => 60 | 27 => 65 | 28 => 66 | 35 => 69 | 39 => 70 | n => n, fun | 0 => 0 | 3 => 3 | 4 => 4 | 22 => 54 | n => n, fun n => n⟩
theorem lay21 : Lays2.n21 Try.prog ren21 := {
    mixed := by kernel_rfl,
    f21 := by kernel_rfl,
    f27 := by kernel_rfl,
    f28 := by kernel_rfl,
    f35 := by kernel_rfl,
    f39 := by kernel_rfl,
    t0 := by kernel_rfl,
    a0 := fun w => by kernel_rfl,
    z0 := fun w => by kernel_rfl,
    v0 := fun w => by kernel_rfl,
    t3 := by kernel_rfl,
    a3 := fun w => by kernel_rfl,
    z3 := fun w => by kernel_rfl,
    v3 := fun w => by kernel_rfl,
    t4 := by kernel_rfl,
    a4 := fun w => by kernel_rfl,
    z4 := fun w => by kernel_rfl,
    v4 := fun w => by kernel_rfl,
    t22 := by kernel_rfl,
    a22 := fun w => by kernel_rfl,
    z22 := fun w => by kernel_rfl,
    v22 := fun w => by kernel_rfl,
    i3 := by kernel_rfl }
end Go.Proofs.Ytnmccihgiphmjaa
namespace Go.Proofs.Ytnmccihgiphmjaa
set_option linter.unusedVariables false
set_option linter.unusedSimpArgs false
open Go.RowKit
def vI (n : Nat) : Value := .int .i64 (n : Nat)
/-- A row of whole numbers. -/
def RowI (w : World) (ad : Option Addr) (c : Nat) (l : List Nat) : Prop := w.ownsRow 0 3 1 (.slice ad l.length c) l.length (l.map vI)
/-- Cells written one behind the other. -/
def setArr (cur : Array Value) : Nat → List Value → Array Value
  | _, [] => cur
  | o, v :: r => setArr (cur.setIfInBounds o v) (o + 1) r
theorem setArr_size : ∀ (vs : List Value) (cur : Array Value) (o : Nat), (setArr cur o vs).size = cur.size
  | [], _, _ => rfl
  | v :: r, cur, o => by rw [setArr, setArr_size r]; simp
theorem setArr_toList : ∀ (vs : List Value) (cur : Array Value) (o : Nat), o + vs.length ≤ cur.size → (setArr cur o vs).toList = cur.toList.take o ++ vs ++ cur.toList.drop (o + vs.length)
  | [], cur, o, _ => by simp [setArr]
  | v :: r, cur, o, h => by
    simp only [List.length_cons] at h
    rw [setArr, setArr_toList r _ (o + 1) (by simp; omega)]
    simp only [Array.toList_setIfInBounds, List.length_cons]
    have ho : o < cur.toList.length := by rw [Array.length_toList]; omega
    have h1 : (cur.toList.set o v).take (o + 1) = cur.toList.take o ++ [v] := by
      rw [List.take_add_one, List.take_set, List.set_eq_of_length_le (by rw [List.length_take]; omega), List.getElem?_set_self ho]; rfl
    rw [h1, List.drop_set_of_lt (by omega), List.append_assoc, List.append_assoc, show o + 1 + r.length = o + (r.length + 1) by omega]
    simp
theorem setCells_heap : ∀ (vs : List Value) (w : World) (b o : Nat) (cur : Array Value) (t : TypeId), w.heap[b]? = some (.cells cur t) → (w.setCells b o vs).heap[b]? = some (.cells (setArr cur o vs) t)
  | [], w, b, o, cur, t, h => h
  | v :: r, w, b, o, cur, t, h => by
    rw [World.setCells, setArr]
    refine setCells_heap r _ b (o + 1) _ t ?_
    rw [set_of h]
    exact putB_same _ (lt_of_block h)
theorem setCells_only : ∀ (vs : List Value) (w : World) (b o : Nat), Only (fun z => z = b) w (w.setCells b o vs)
  | [], w, b, o => Only.refl _ _
  | v :: r, w, b, o => by
    rw [World.setCells]
    have h1 : Only (fun z => z = b) w (w.setCell ⟨b, o, none⟩ v) := (Only.refl _ w).setCell _ _ fun _ => rfl
    exact h1.trans (setCells_only r _ b (o + 1))
section
variable {w x : World} {ad : Option Addr} {c : Nat} {l : List Nat}
theorem rowI_cases (h : RowI w ad c l) : (ad = none ∧ c = 0 ∧ l = []) ∨ ∃ g cur, ad = some ⟨g, 0, none⟩ ∧ w.heap[g]? = some (.cells cur 3) ∧ l.length ≤ c ∧ c ≤ maxLen ∧ cur.size = c ∧ cur.toList.take l.length = l.map vI := by
  rcases h.2 with ⟨h', h0⟩ | ⟨g, cap, cur, h', _, h2, h3, h4, h5, h6⟩
  · simp only [Value.slice.injEq] at h'
    exact .inl ⟨h'.1, h'.2.2, List.length_eq_zero_iff.1 h0⟩
  · simp only [Value.slice.injEq, true_and] at h'
    obtain ⟨rfl, rfl⟩ := h'
    rw [Nat.mul_one] at h5 h6
    exact .inr ⟨g, cur, rfl, h2, h3, h4, h5, h6⟩
theorem rowI_make {g : Nat} {cur : Array Value} (h1 : w.heap[g]? = some (.cells cur 3)) (h2 : l.length ≤ c) (h3 : c ≤ maxLen) (h4 : cur.size = c) (h5 : cur.toList.take l.length = l.map vI) : RowI w (some ⟨g, 0, none⟩) c l :=
  ⟨by simp, .inr ⟨g, c, cur, rfl, Nat.zero_le _, h1, h2, h3, by rw [Nat.mul_one]; exact h4, by rw [Nat.mul_one]; exact h5⟩⟩
theorem rowI_only {G : Nat → Prop} (h : RowI w ad c l) (ho : Only G w x) (hG : ∀ b off, ad = some ⟨b, off, none⟩ → ¬ G b) : RowI x ad c l := by
  rcases rowI_cases h with ⟨rfl, rfl, rfl⟩ | ⟨g, cur, rfl, h1, h2, h3, h4, h5⟩
  · exact World.ownsRow_nil _ _ _ _
  · exact rowI_make (keep_only ho (hG g 0 rfl) h1) h2 h3 h4 h5
theorem rowI_lt (h : RowI w ad c l) {b off : Nat} (e : ad = some ⟨b, off, none⟩) : b < w.heap.size ∧ off = 0 := by
  rcases rowI_cases h with ⟨rfl, _⟩ | ⟨g, cur, rfl, h1, _⟩
  · cases e
  · cases e; exact ⟨lt_of_block h1, rfl⟩
theorem rowI_cell (h : RowI w ad c l) {b off : Nat} (e : ad = some ⟨b, off, none⟩) {j u : Nat} (hu : l[j]? = some u) : w.cell? ⟨b, j, none⟩ = some (.int .i64 (u : Nat)) := by
  rcases rowI_cases h with ⟨rfl, _⟩ | ⟨g, cur, rfl, h1, h2, h3, h4, h5⟩
  · cases e
  · cases e
    rw [cell_of h1]
    have hj := (List.getElem?_eq_some_iff.1 hu).1
    have : (cur.toList.take l.length)[j]? = some (vI u) := by rw [h5, List.getElem?_map, hu]; rfl
    rw [List.getElem?_take, if_pos hj] at this
    simpa [vI] using this
/-- Search. -/
theorem sl_search (h : RowI w ad c l) (hs : l.Pairwise (· < ·)) (hl : l.length ≤ 2097152) (x : Nat) :
    Calls Try.prog 58 #[.slice ad l.length c, .int .i64 (x : Nat)] w (RetB w (.tuple #[.int .i64 ((l.countP (fun y => decide (y < x)) : Nat) : Int), .bool (decide (x ∈ l))])) := by
  rcases rowI_cases h with ⟨rfl, rfl, rfl⟩ | ⟨g, cur, rfl, h1, h2, h3, h4, h5⟩
  · clear h hs hl
    go_enter Try.func58, Try.ntmps58
    go_wp2
    go_loop [7, 8] (fun s7 s8 => s7 = .int .i64 0 ∧ s8 = .int .i64 0) (fun _ _ => 0)
    case atStart => exact ⟨rfl, rfl⟩
    case round =>
      obtain ⟨rfl, rfl⟩ := hrel
      go_wp2
      go_ret2
      exact ⟨rfl, old_refl _⟩
  · have hc : ∀ j, j < (l.map (fun n : Nat => (n : Int))).length → w.cell? ⟨g, 0 + j, none⟩ = some (.int .i64 ((l.map (fun n : Nat => (n : Int))).getD j 0)) := fun j hj => by
      rw [List.length_map] at hj
      rw [Nat.zero_add, rowI_cell h rfl (List.getElem?_eq_getElem hj), List.getD_eq_getElem?_getD, List.getElem?_map, List.getElem?_eq_getElem hj]; rfl
    have e1 : ((l.map (fun n : Nat => (n : Int))).take l.length) = l.map (fun n : Nat => (n : Int)) := by rw [List.take_of_length_le (by simp)]
    have hk := AnyG.slices_BinarySearch_int lay49 g 0 l.length c (l.map (fun n : Nat => (n : Int))) (x : Nat) w (by simp) (by omega) hc (by
      rw [e1, List.pairwise_map]
      exact hs.imp fun h => by omega)
    rw [e1] at hk
    have e2 : (l.map (fun n : Nat => (n : Int))).countP (fun y => decide (y < (x : Int))) = l.countP (fun y => decide (y < x)) := by
      rw [List.countP_map]
      congr 1
      funext y
      show decide ((y : Int) < (x : Int)) = _
      congr 1
      exact propext (by omega)
    have e3 : (l.map (fun n : Nat => (n : Int))).contains (x : Int) = decide (x ∈ l) := by
      apply Bool.eq_iff_iff.2
      rw [List.contains_iff_mem, decide_eq_true_iff, List.mem_map]
      constructor
      · rintro ⟨y, hy, e⟩
        rw [show x = y by omega]; exact hy
      · intro hx; exact ⟨x, hx, rfl⟩
    rw [e2, e3] at hk
    refine Calls.mono hk ?_
    rintro e y ⟨rfl, q, rfl⟩
    exact ⟨rfl, Only.to_below ((Only.refl _ w).drewN q)⟩
/-- Delete. -/
theorem sl_delete (h : RowI w ad c l) (i : Nat) (hi : i < l.length) :
    Calls Try.prog 59 #[.slice ad l.length c, .int .i64 (i : Nat), .int .i64 ((i : Int) + 1)] w (fun e y => e = .returned (.slice ad (l.length - 1) c) ∧ RowI y ad c (l.take i ++ l.drop (i + 1)) ∧ Only (fun z => ad = some ⟨z, 0, none⟩) w y) := by
  rcases rowI_cases h with ⟨rfl, rfl, rfl⟩ | ⟨g, cur, rfl, h1, h2, h3, h4, h5⟩
  · simp at hi
  · have hlen : (l.take i ++ l.drop (i + 1)).length = l.length - 1 := by rw [List.length_append, List.length_take, List.length_drop]; omega
    have hc : ∀ j, j < (l.map (fun n : Nat => (n : Int))).length → w.cell? ⟨g, 0 + j, none⟩ = some (.int .i64 ((l.map (fun n : Nat => (n : Int))).getD j 0)) := fun j hj => by
      rw [List.length_map] at hj
      rw [Nat.zero_add, rowI_cell h rfl (List.getElem?_eq_getElem hj), List.getD_eq_getElem?_getD, List.getElem?_map, List.getElem?_eq_getElem hj]; rfl
    have hk := AnyG.slices_Delete_int_cells lay45 g 0 l.length c i (i + 1) (l.map (fun n : Nat => (n : Int))) w (by simp) h2 (by unfold maxLen at h3; exact h3) (by omega) (by omega) hc (fun j _ => frozen_of h1 _)
    rw [show i + 1 - i = 1 by omega] at hk
    refine Calls.mono hk ?_
    rintro e y ⟨rfl, q, rfl⟩
    have h1' : (w.drewN q).heap[g]? = some (.cells cur 3) := h1
    have e1 : ((l.map (fun n : Nat => (n : Int))).take l.length) = l.map (fun n : Nat => (n : Int)) := by rw [List.take_of_length_le (by simp)]
    rw [e1]
    have hh := setCells_heap ((((l.map (fun n : Nat => (n : Int))).take i ++ (l.map (fun n : Nat => (n : Int))).drop (i + 1) ++ List.replicate 1 0).map (Value.int .i64))) (w.drewN q) g 0 cur _ h1'
    have hvl : ((((l.map (fun n : Nat => (n : Int))).take i ++ (l.map (fun n : Nat => (n : Int))).drop (i + 1) ++ List.replicate 1 0).map (Value.int .i64))).length = l.length := by
      simp only [List.length_map, List.length_append, List.length_take, List.length_drop, List.length_replicate]; omega
    refine ⟨rfl, rowI_make hh (by rw [hlen]; omega) h3 (by rw [setArr_size]; exact h4) ?_, ?_⟩
    · rw [setArr_toList _ _ _ (by rw [hvl]; omega), List.take_zero, List.nil_append, hlen, List.take_append_of_le_length (by rw [hvl]; omega), List.map_append, List.take_append_of_le_length (by
        simp only [List.length_map, List.length_append, List.length_take, List.length_drop]; omega), List.take_of_length_le (by simp only [List.length_map, List.length_append, List.length_take, List.length_drop]; omega)]
      simp only [List.map_append, List.map_take, List.map_drop, List.map_map]
      rfl
    · exact (((Only.refl _ w).drewN q).trans ((setCells_only _ _ g 0).mono fun b _ e => by rw [e]))
theorem take_mid {α : Type} (A B C : List α) (x : α) (n : Nat) (h : A.length + 1 + B.length = n) : (A ++ x :: (B ++ C)).take n = A ++ x :: B := by
  rw [show A ++ x :: (B ++ C) = (A ++ x :: B) ++ C by simp, List.take_append_of_le_length (by simp; omega), List.take_of_length_le (by simp; omega)]
/-- Insert: laid in or behind. -/
theorem sl_insert (h : RowI w ad c l) (i : Nat) (hi : i ≤ l.length) (x vb : Nat) (hv : w.heap[vb]? = some (.cells #[.int .i64 (x : Nat)] 3)) (hne : ∀ b off, ad = some ⟨b, off, none⟩ → vb ≠ b) (hl : l.length ≤ 2097152) : ∃ ad' c',
    Calls Try.prog 60 #[.slice ad l.length c, .int .i64 (i : Nat), .slice (some ⟨vb, 0, none⟩) 1 1] w (fun e y => e = .returned (.slice ad' (l.length + 1) c') ∧ RowI y ad' c' (l.take i ++ x :: l.drop i) ∧ Only (fun z => ad = some ⟨z, 0, none⟩) w y) ∧
      (∀ z off, ad' = some ⟨z, off, none⟩ → ad = some ⟨z, 0, none⟩ ∨ w.heap.size ≤ z) := by
  have hlen : (l.take i ++ x :: l.drop i).length = l.length + 1 := by rw [List.length_append, List.length_take, List.length_cons, List.length_drop]; omega
  have hvs : ∀ (j : Nat) (v : Value), [vI x][j]? = some v → w.cell? ⟨vb, 0 + j, none⟩ = some v := fun j v hj => by
    rw [Nat.zero_add, cell_of hv]
    cases j with
    | zero => simpa [vI] using hj
    | succ j => simp at hj
  have h1v : ∀ v ∈ [vI x], v.oneCell' = true := fun v hv => by rw [List.mem_singleton.1 hv]; rfl
  have h1c : ∀ v ∈ l.map vI, v.oneCell' = true := fun v hv => by obtain ⟨n, _, rfl⟩ := List.mem_map.1 hv; rfl
  have hcs : ∀ g, ad = some ⟨g, 0, none⟩ → ∀ (j : Nat) (v : Value), (l.map vI)[j]? = some v → w.cell? ⟨g, j, none⟩ = some v := fun g e j v hj => by
    rw [List.getElem?_map] at hj
    cases hu : l[j]? with
    | none => rw [hu] at hj; cases hj
    | some u =>
      rw [hu] at hj
      rw [rowI_cell h e hu]; exact hj
  by_cases hend : i = l.length
  · subst hend
    have el : l.take l.length ++ x :: l.drop l.length = l ++ [x] := by simp
    rw [el] at hlen ⊢
    by_cases hroom : l.length + 1 ≤ c
    · rcases rowI_cases h with ⟨rfl, rfl, rfl⟩ | ⟨g, cur, rfl, h1, h2, h3, h4, h5⟩
      · omega
      · refine ⟨some ⟨g, 0, none⟩, c, ?_, fun z off e => .inl (by cases e; rfl)⟩
        have hk := Any2.slices_Insert_int_end_room lay21 g 0 l.length c vb 0 1 1 [vI x] w (by omega) hroom (by unfold maxLen at h3; exact h3) rfl
          (fun j hj => by rw [cell_of h1, Array.getElem?_eq_getElem (by omega)]; rfl) (fun j hj => frozen_of h1 _) hvs h1v
        refine Calls.mono hk ?_
        rintro e y ⟨rfl, rfl⟩
        have hh := setCells_heap [vI x] w g (0 + l.length) cur _ h1
        refine ⟨rfl, rowI_make hh (by rw [hlen]; exact hroom) h3 (by rw [setArr_size]; exact h4) ?_, (setCells_only _ _ _ _).mono fun b _ e => by rw [e]⟩
        rw [setArr_toList _ _ _ (by simp; omega), hlen, Nat.zero_add, h5, List.take_append_of_le_length (by simp), List.take_of_length_le (by simp)]
        simp
    · have hcl : l.length ≤ c := by
        rcases rowI_cases h with ⟨rfl, rfl, rfl⟩ | ⟨g, cur, rfl, h1, h2, h3, h4, h5⟩
        · simp
        · exact h2
      refine ⟨some ⟨w.heap.size, 0, none⟩, grownCap w (l.length + 1) c 3, ?_, fun z off e => .inr (by cases e; exact Nat.le_refl _)⟩
      have hk : Calls Try.prog 60 #[.slice ad l.length c, .int .i64 (l.length : Nat), .slice (some ⟨vb, 0, none⟩) 1 1] w (fun e w' => e = .returned (.slice (some ⟨w.heap.size, 0, none⟩) (l.length + 1) (grownCap w (l.length + 1) c 3)) ∧
          w' = w.drew.alloc (.cells ((l.map vI ++ [vI x]).toArray ++ Builtin.zeroCells (Value.int .i64 0).cells (grownCap w (l.length + 1) c 3 - (l.length + 1))) 3)) :=
        Any2.slices_Insert_int_end_grow lay21 ad l.length c vb 0 1 1 (l.map vI) [vI x] w (by omega) hcl (by omega) (by omega) (by simp) rfl (fun e => by
          rcases rowI_cases h with ⟨_, _, rfl⟩ | ⟨g, cur, e2, _⟩
          · rfl
          · rw [e2] at e; cases e) (fun a e j v hj => by
          rcases rowI_cases h with ⟨e2, _, _⟩ | ⟨g, cur, e2, _⟩
          · rw [e2] at e; cases e
          · have e3 := e2
            rw [e2] at e
            cases e
            rw [add_eq _ _ rfl]
            simpa using hcs g e3 j v hj) hvs h1v
      have hG : l.length + 1 ≤ grownCap w (l.length + 1) c 3 := grownCap_ge w _ _ _
      have hG2 := grownCap_le_maxLen w (l.length + 1) c 3 (by unfold maxLen; omega)
      generalize grownCap w (l.length + 1) c 3 = G at *
      refine Calls.mono hk ?_
      rintro e y ⟨rfl, rfl⟩
      have hz : (Builtin.zeroCells (Value.int .i64 0).cells (G - (l.length + 1))).size = G - (l.length + 1) := by simp [Builtin.zeroCells, Value.cells]
      refine ⟨rfl, rowI_make (new_block w.drew _) (by rw [hlen]; exact hG) hG2 ?_ ?_, (Only.refl _ _).drew.alloc _⟩
      · rw [Array.size_append, hz]
        simp only [List.size_toArray, List.length_append, List.length_map, List.length_cons, List.length_nil]
        omega
      · rw [Array.toList_append, hlen, List.take_append_of_le_length (by simp), List.take_of_length_le (by simp)]
        simp
  · have hlt : i < l.length := by omega
    rcases rowI_cases h with ⟨rfl, rfl, rfl⟩ | ⟨g, cur, rfl, h1, h2, h3, h4, h5⟩
    · simp at hlt
    have hvg : vb ≠ g := hne g 0 rfl
    have hcs' : ∀ (j : Nat) (v : Value), (l.map vI)[j]? = some v → w.cell? ⟨g, 0 + j, none⟩ = some v := fun j v hj => by rw [Nat.zero_add]; exact hcs g rfl j v hj
    have hfin : (l.map vI).take i ++ (vI x :: (l.map vI).drop i) = (l.take i ++ x :: l.drop i).map vI := by
      rw [List.map_append, List.map_cons, List.map_take, List.map_drop]
    have hdl : ((l.map vI).drop i).length = l.length - i := by simp
    by_cases hroom : l.length + 1 ≤ c
    · refine ⟨some ⟨g, 0, none⟩, c, ?_, fun z off e => .inl (by cases e; rfl)⟩
      have hk : Calls Try.prog 60 #[.slice (some ⟨g, 0, none⟩) l.length c, .int .i64 (i : Nat), .slice (some ⟨vb, 0, none⟩) 1 1] w (fun e w' => e = .returned (.slice (some ⟨g, 0, none⟩) (l.length + 1) c) ∧ w' = (w.drew.setCells g (0 + (i + 1)) ((l.map vI).drop i)).setCells g (0 + i) [vI x]) :=
        Any2.slices_Insert_int_shift lay21 g 0 l.length c i vb 0 1 1 (l.map vI) [vI x] w hlt (by omega) hroom (by unfold maxLen at h3; exact h3) hvg (by simp) rfl hcs'
          (fun j hj => by rw [cell_of h1, Array.getElem?_eq_getElem (by omega)]; rfl) (fun j hj => frozen_of h1 _) hvs h1c h1v 3 3 1 cur.size (by simp [World.shape?, hv]) (by simp [World.shape?, h1]) (by omega) (frozen_of hv _) (frozen_of hv _)
      refine Calls.mono hk ?_
      rintro e y ⟨rfl, rfl⟩
      rw [Nat.zero_add, Nat.zero_add]
      have hh1 := setCells_heap ((l.map vI).drop i) w.drew g (i + 1) cur _ h1
      have hh := setCells_heap [vI x] _ g i _ _ hh1
      have hs1 : (setArr cur (i + 1) ((l.map vI).drop i)).size = c := by rw [setArr_size]; exact h4
      refine ⟨rfl, rowI_make hh (by rw [hlen]; exact hroom) h3 (by rw [setArr_size, hs1]) ?_, ?_⟩
      · rw [setArr_toList _ _ _ (by rw [hs1]; simp; omega), setArr_toList _ _ _ (by rw [hdl]; omega), hlen, ← hfin, ← h5]
        have ht : cur.toList.length = c := by rw [Array.length_toList, h4]
        generalize cur.toList = T at *
        have e1 : ((T.take (i + 1) ++ (T.take l.length).drop i ++ T.drop (i + 1 + ((T.take l.length).drop i).length)).take i) = (T.take l.length).take i := by
          rw [List.append_assoc, List.take_append_of_le_length (by rw [List.length_take]; omega), List.take_take, List.take_take]
          congr 1; omega
        have e2 : ((T.take (i + 1) ++ (T.take l.length).drop i ++ T.drop (i + 1 + ((T.take l.length).drop i).length)).drop (i + 1)) = (T.take l.length).drop i ++ T.drop (i + 1 + ((T.take l.length).drop i).length) := by
          rw [List.append_assoc, List.drop_append_of_le_length (by rw [List.length_take]; omega), List.drop_of_length_le (by rw [List.length_take]; omega), List.nil_append]
        rw [show [vI x].length = 1 from rfl, e1, e2]
        simp only [List.append_assoc, List.cons_append, List.nil_append]
        exact take_mid _ _ _ _ _ (by simp only [List.length_take, List.length_drop]; omega)
      · exact ((((Only.refl _ w).drew.trans ((setCells_only _ _ g _).mono fun b _ e => by rw [e]))).trans ((setCells_only _ _ g _).mono fun b _ e => by rw [e]))
    · refine ⟨some ⟨w.heap.size, 0, none⟩, grownCap w (l.length + 1) c 3, ?_, fun z off e => .inr (by cases e; exact Nat.le_refl _)⟩
      have hk : Calls Try.prog 60 #[.slice (some ⟨g, 0, none⟩) l.length c, .int .i64 (i : Nat), .slice (some ⟨vb, 0, none⟩) 1 1] w (fun e w' => e = .returned (.slice (some ⟨w.heap.size, 0, none⟩) (l.length + 1) (grownCap w (l.length + 1) c 3)) ∧
          w' = (((w.alloc (.cells (((l.map vI).take i).toArray ++ Builtin.zeroCells (Value.int .i64 0).cells (l.length + 1 - i) ++ Builtin.zeroCells (Value.int .i64 0).cells (grownCap w (l.length + 1) c 3 - (l.length + 1))) 3)).drew.setCells w.heap.size i [vI x]).drew).setCells w.heap.size (i + 1) ((l.map vI).drop i)) :=
        Any2.slices_Insert_int_grow lay21 g 0 l.length c i vb 0 1 1 (l.map vI) [vI x] w hlt (by omega) h2 (by omega) (by omega) (by simp) rfl hcs' hvs h1c h1v
      have hG : l.length + 1 ≤ grownCap w (l.length + 1) c 3 := grownCap_ge w _ _ _
      have hG2 := grownCap_le_maxLen w (l.length + 1) c 3 (by unfold maxLen; omega)
      generalize grownCap w (l.length + 1) c 3 = G at *
      refine Calls.mono hk ?_
      rintro e y ⟨rfl, rfl⟩
      have hz : ∀ k, (Builtin.zeroCells (Value.int .i64 0).cells k).size = k := fun k => by simp [Builtin.zeroCells, Value.cells]
      obtain ⟨R, hR⟩ : ∃ R, ((l.map vI).take i).toArray ++ Builtin.zeroCells (Value.int .i64 0).cells (l.length + 1 - i) ++ Builtin.zeroCells (Value.int .i64 0).cells (G - (l.length + 1)) = R := ⟨_, rfl⟩
      have hRs : R.size = G := by
        rw [← hR, Array.size_append, Array.size_append, hz, hz]
        simp only [List.size_toArray, List.length_take, List.length_map]
        omega
      have hRt : R.toList.take i = (l.map vI).take i := by
        rw [← hR, Array.toList_append, Array.toList_append, List.append_assoc, List.take_append_of_le_length (by simp; omega), List.take_of_length_le (by simp; omega)]
      rw [hR]
      have hh0 : ((w.alloc (.cells R 3)).drew).heap[w.heap.size]? = some (.cells R 3) := new_block w _
      have hh1 := setCells_heap [vI x] _ w.heap.size i _ _ hh0
      have hh1' : (((w.alloc (.cells R 3)).drew.setCells w.heap.size i [vI x]).drew).heap[w.heap.size]? = some (.cells (setArr R i [vI x]) 3) := hh1
      have hh := setCells_heap ((l.map vI).drop i) _ w.heap.size (i + 1) _ _ hh1'
      refine ⟨rfl, rowI_make hh (by rw [hlen]; exact hG) hG2 (by rw [setArr_size, setArr_size, hRs]) ?_, ?_⟩
      · have hTl : R.toList.length = G := by rw [Array.length_toList, hRs]
        rw [setArr_toList _ _ _ (by rw [setArr_size, hRs, hdl]; omega), setArr_toList _ _ _ (by rw [hRs]; simp; omega), hlen, ← hfin]
        generalize R.toList = T at *
        have e1 : (T.take i ++ [vI x] ++ T.drop (i + [vI x].length)).take (i + 1) = T.take i ++ [vI x] := by
          rw [List.take_append_of_le_length (by simp; omega), List.take_of_length_le (by simp; omega)]
        rw [e1, hRt]
        simp only [List.append_assoc, List.cons_append, List.nil_append]
        exact take_mid _ _ _ _ _ (by simp only [List.length_take, List.length_drop, List.length_map]; omega)
      · have hw : Only (fun z => some (⟨g, 0, none⟩ : Addr) = some ⟨z, 0, none⟩ ∨ w.heap.size ≤ z) w ((((w.alloc (.cells R 3)).drew.setCells w.heap.size i [vI x]).drew).setCells w.heap.size (i + 1) ((l.map vI).drop i)) :=
          (((((Only.refl _ w).alloc _).drew.trans ((setCells_only _ _ _ _).mono fun b _ e => .inr (by omega))).drew).trans ((setCells_only _ _ _ _).mono fun b _ e => .inr (by omega)))
        exact hw.mono fun b hb e => e.elim id (fun h => by omega)
end
end Go.Proofs.Ytnmccihgiphmjaa
namespace Go.Proofs.Ytnmccihgiphmjaa
set_option linter.unusedVariables false
set_option linter.unusedSimpArgs false
open Go.RowKit
/-- All frames of the run number q of order i are in T. -/
def AllIn (T : Nat → Bool) (i q : Nat) : Prop := ∀ x, x / 2 ^ i = q → T x = true
/-- A free run that is no part of a greater one. -/
def Run (T : Nat → Bool) (i q : Nat) : Prop := AllIn T i q ∧ (i = 9 ∨ ¬ AllIn T (i + 1) (q / 2))
/-- The other half. -/
def budN (q : Nat) : Nat := if q % 2 = 0 then q + 1 else q - 1
theorem budN_half (q : Nat) : budN q / 2 = q / 2 := by unfold budN; split <;> omega
theorem budN_ne (q : Nat) : budN q ≠ q := by unfold budN; split <;> omega
theorem half_cases (p q : Nat) (h : p / 2 = q / 2) : p = q ∨ p = budN q := by unfold budN; split <;> omega
theorem div_up (x i k : Nat) : x / 2 ^ (i + k) = x / 2 ^ i / 2 ^ k := by rw [Nat.pow_add, Nat.div_div_eq_div_mul]
theorem first_in (i q : Nat) : q * 2 ^ i / 2 ^ i = q := Nat.mul_div_cancel _ (Nat.two_pow_pos i)
/-- The first frame of a run inside another one lies in the other one. -/
theorem allIn_up {T : Nat → Bool} {i k q : Nat} (h : AllIn T (i + k) q) {p : Nat} (hp : p / 2 ^ k = q) : AllIn T i p := fun x hx => h x (by rw [div_up, hx, hp])
theorem allIn_halves {T : Nat → Bool} {i q : Nat} : AllIn T (i + 1) (q / 2) ↔ AllIn T i q ∧ AllIn T i (budN q) := by
  refine ⟨fun h => ⟨allIn_up h (by simp), allIn_up h (by simpa using budN_half q)⟩, fun h x hx => ?_⟩
  rw [div_up] at hx
  rcases half_cases (x / 2 ^ i) q (by simpa using hx) with e | e
  · exact h.1 x e
  · exact h.2 x e
/-- A run laid beside the free ones whose other half is not free. -/
theorem run_add {S T : Nat → Bool} {j b : Nat} (hT : ∀ x, T x = true ↔ S x = true ∨ x / 2 ^ j = b) (hd : ∀ x, x / 2 ^ j = b → S x = false) (hb : j = 9 ∨ ¬ AllIn S j (budN b)) (i q : Nat) (hi : i ≤ 9) (hj : j ≤ 9) :
    Run T i q ↔ Run S i q ∨ (i = j ∧ q = b) := by
  have sub : ∀ i q, AllIn S i q → AllIn T i q := fun i q h x hx => (hT x).2 (.inl (h x hx))
  -- a run that holds the new one is not free
  have big : ∀ i q, j < i → i ≤ 9 → b / 2 ^ (i - j) = q → ¬ AllIn T i q := by
    intro i q hji hi9 hq h
    have hj9 : j ≠ 9 := by omega
    rcases hb with hb | hb
    · exact hj9 hb
    · apply hb
      intro x hx
      have h1 : T x = true := h x (by
        rw [show i = j + (i - j) by omega, div_up, hx, ← hq, show i - j = 1 + (i - j - 1) by omega, Nat.pow_add, ← Nat.div_div_eq_div_mul, ← Nat.div_div_eq_div_mul, Nat.pow_one, budN_half])
      rcases (hT x).1 h1 with h2 | h2
      · exact h2
      · exact absurd (hx.symm.trans h2) (budN_ne b)
  have notS : ∀ i q x, x / 2 ^ j = b → x / 2 ^ i = q → ¬ AllIn S i q := fun i q x hx hq h => by
    have := h x hq
    rw [hd x hx] at this; cases this
  -- a run beside the new one
  have away : ∀ i q, (∀ x, x / 2 ^ i = q → x / 2 ^ j ≠ b) → (AllIn T i q ↔ AllIn S i q) := fun i q ha =>
    ⟨fun h x hx => by
      rcases (hT x).1 (h x hx) with h2 | h2
      · exact h2
      · exact absurd h2 (ha x hx), sub i q⟩
  by_cases hij : j < i
  · by_cases hq : b / 2 ^ (i - j) = q
    · -- it holds the new one
      have n1 := big i q hij hi hq
      have hx : b * 2 ^ j / 2 ^ i = q := by rw [show i = j + (i - j) by omega, div_up, first_in]; exact hq
      have n2 := notS i q (b * 2 ^ j) (first_in j b) hx
      refine ⟨fun h => absurd h.1 n1, fun h => ?_⟩
      rcases h with h | h
      · exact absurd h.1 n2
      · omega
    · -- beside it
      have aw : ∀ x, x / 2 ^ i = q → x / 2 ^ j ≠ b := fun x hx e => hq (by
        rw [show i = j + (i - j) by omega, div_up, e] at hx; exact hx)
      have e1 := away i q aw
      have e2 : i ≠ 9 → (AllIn T (i + 1) (q / 2) ↔ AllIn S (i + 1) (q / 2)) := fun h9 => by
        by_cases hq2 : b / 2 ^ (i + 1 - j) = q / 2
        · have n1 := big (i + 1) (q / 2) (by omega) (by omega) hq2
          have hx : b * 2 ^ j / 2 ^ (i + 1) = q / 2 := by rw [show i + 1 = j + (i + 1 - j) by omega, div_up, first_in]; exact hq2
          exact ⟨fun h => absurd h n1, fun h => absurd h (notS _ _ _ (first_in j b) hx)⟩
        · exact away _ _ (fun x hx e => hq2 (by rw [show i + 1 = j + (i + 1 - j) by omega, div_up, e] at hx; exact hx))
      unfold Run
      rw [e1]
      constructor
      · rintro ⟨h1, h2⟩
        refine .inl ⟨h1, ?_⟩
        by_cases h9 : i = 9
        · exact .inl h9
        · exact .inr (by rw [← e2 h9]; exact h2.resolve_left h9)
      · rintro (⟨h1, h2⟩ | h)
        · refine ⟨h1, ?_⟩
          by_cases h9 : i = 9
          · exact .inl h9
          · exact .inr (by rw [e2 h9]; exact h2.resolve_left h9)
        · omega
  · by_cases hq : q / 2 ^ (j - i) = b
    · -- inside the new one
      have inB : ∀ x, x / 2 ^ i = q → x / 2 ^ j = b := fun x hx => by rw [show j = i + (j - i) by omega, div_up, hx]; exact hq
      have n2 := notS i q (q * 2 ^ i) (inB _ (first_in i q)) (first_in i q)
      by_cases hji : i = j
      · subst hji
        have hqb : q = b := by simpa using hq
        subst hqb
        refine ⟨fun _ => .inr ⟨rfl, rfl⟩, fun _ => ⟨fun x hx => (hT x).2 (.inr hx), ?_⟩⟩
        by_cases h9 : i = 9
        · exact .inl h9
        · exact .inr (big (i + 1) (q / 2) (by omega) (by omega) (by simp))
      · have hpar : AllIn T (i + 1) (q / 2) := fun x hx => (hT x).2 (.inr (by
          rw [show j = i + 1 + (j - i - 1) by omega, div_up, hx, ← hq, show j - i = 1 + (j - i - 1) by omega, Nat.pow_add, ← Nat.div_div_eq_div_mul, Nat.pow_one]; simp))
        refine ⟨fun h => ?_, fun h => ?_⟩
        · rcases h.2 with h2 | h2
          · omega
          · exact absurd hpar h2
        · rcases h with h | h
          · exact absurd h.1 n2
          · omega
    · -- beside it
      have aw : ∀ x, x / 2 ^ i = q → x / 2 ^ j ≠ b := fun x hx e => hq (by
        have h9 : x / 2 ^ j = x / 2 ^ i / 2 ^ (j - i) := by rw [← div_up]; congr 2; omega
        rw [hx, e] at h9; exact h9.symm)
      have e1 := away i q aw
      have hnb : ¬ (i = j ∧ q = b) := fun e => by
        apply hq; rw [e.1, e.2]; simp
      have e2 : i ≠ 9 → (AllIn T (i + 1) (q / 2) ↔ AllIn S (i + 1) (q / 2)) := fun h9 => by
        by_cases hji : i = j
        · subst hji
          by_cases hq2 : b / 2 ^ (i + 1 - i) = q / 2
          · have n1 := big (i + 1) (q / 2) (by omega) (by omega) hq2
            have hx : b * 2 ^ i / 2 ^ (i + 1) = q / 2 := by rw [div_up, first_in]; simpa using hq2
            exact ⟨fun h => absurd h n1, fun h => absurd h (notS _ _ _ (first_in i b) hx)⟩
          · exact away _ _ (fun x hx e => hq2 (by rw [div_up, e] at hx; simpa using hx))
        · refine away _ _ (fun x hx e => hq ?_)
          rw [← e, show j = i + 1 + (j - i - 1) by omega, div_up, hx, show i + 1 + (j - i - 1) - i = 1 + (j - i - 1) by omega, Nat.pow_add, ← Nat.div_div_eq_div_mul, Nat.pow_one]
      unfold Run
      rw [e1]
      constructor
      · rintro ⟨h1, h2⟩
        refine .inl ⟨h1, ?_⟩
        by_cases h9 : i = 9
        · exact .inl h9
        · exact .inr (by rw [← e2 h9]; exact h2.resolve_left h9)
      · rintro (⟨h1, h2⟩ | h)
        · refine ⟨h1, ?_⟩
          by_cases h9 : i = 9
          · exact .inl h9
          · exact .inr (by rw [e2 h9]; exact h2.resolve_left h9)
        · exact absurd h hnb
/-! A rising list of what a predicate lets in. -/
def ups (P : Nat → Bool) (M : Nat) : List Nat := (List.range M).filter P
theorem ups_succ (P : Nat → Bool) (M : Nat) : ups P (M + 1) = ups P M ++ (if P M then [M] else []) := by
  unfold ups
  rw [List.range_succ, List.filter_append]
  congr 1
  simp only [List.filter_cons, List.filter_nil]
theorem mem_ups {P : Nat → Bool} {M x : Nat} : x ∈ ups P M ↔ x < M ∧ P x = true := by simp [ups]
theorem ups_congr {P P' : Nat → Bool} {M : Nat} (h : ∀ x, x < M → P x = P' x) : ups P M = ups P' M := by
  induction M with
  | zero => rfl
  | succ M ih => rw [ups_succ, ups_succ, ih (fun x hx => h x (by omega)), h M (by omega)]
/-- What a place parts. -/
theorem ups_part (P : Nat → Bool) (b : Nat) : ∀ M, b < M → ∃ l, ups P M = ups P b ++ (if P b then [b] else []) ++ l ∧ (∀ x ∈ l, b < x ∧ x < M) ∧ ∀ P' : Nat → Bool, (∀ x, x ≠ b → P' x = P x) → ups P' M = ups P b ++ (if P' b then [b] else []) ++ l
  | 0, h => absurd h (Nat.not_lt_zero _)
  | M + 1, h => by
    by_cases hb : b = M
    · subst hb
      refine ⟨[], by rw [ups_succ, List.append_nil], by simp, fun P' hP => ?_⟩
      rw [ups_succ, List.append_nil, ups_congr (P := P') (P' := P) (fun x hx => hP x (by omega))]
    · obtain ⟨l, h1, h2, h3⟩ := ups_part P b M (by omega)
      refine ⟨l ++ (if P M then [M] else []), by rw [ups_succ, h1, List.append_assoc], fun x hx => ?_, fun P' hP => ?_⟩
      · rcases List.mem_append.1 hx with hx | hx
        · have := h2 x hx; omega
        · split at hx
          · simp at hx; omega
          · simp at hx
      · rw [ups_succ, h3 P' hP, hP M (fun e => hb e.symm), List.append_assoc]
theorem ups_sorted (P : Nat → Bool) (M : Nat) : (ups P M).Pairwise (· < ·) := by
  unfold ups
  exact List.Pairwise.filter _ List.pairwise_lt_range
theorem ups_lt {P : Nat → Bool} {M x : Nat} (h : x ∈ ups P M) : x < M := (mem_ups.1 h).1
end Go.Proofs.Ytnmccihgiphmjaa
namespace Go.Proofs.Ytnmccihgiphmjaa
set_option linter.unusedVariables false
set_option linter.unusedSimpArgs false
open Go.RowKit
noncomputable def runB (S : Nat → Bool) (k q : Nat) : Bool := @decide (Run S k q) (Classical.propDecidable _)
theorem runB_iff {S : Nat → Bool} {k q : Nat} : runB S k q = true ↔ Run S k q := by unfold runB; simp
theorem runB_false {S : Nat → Bool} {k q : Nat} : runB S k q = false ↔ ¬ Run S k q := by unfold runB; simp
/-- The free runs of order k, rising. -/
noncomputable def runsL (S : Nat → Bool) (M k : Nat) : List Nat := (ups (runB S k) M).map (· * 2 ^ k)
theorem mem_runsL {S : Nat → Bool} {M k f : Nat} : f ∈ runsL S M k ↔ ∃ q, q < M ∧ Run S k q ∧ q * 2 ^ k = f := by
  unfold runsL
  simp only [List.mem_map, mem_ups, runB_iff]
  constructor
  · rintro ⟨q, ⟨h1, h2⟩, h3⟩; exact ⟨q, h1, h2, h3⟩
  · rintro ⟨q, h1, h2, h3⟩; exact ⟨q, ⟨h1, h2⟩, h3⟩
theorem runsL_sorted (S : Nat → Bool) (M k : Nat) : (runsL S M k).Pairwise (· < ·) := by
  unfold runsL
  rw [List.pairwise_map]
  exact (ups_sorted _ _).imp fun h => Nat.mul_lt_mul_of_pos_right h (Nat.two_pow_pos k)
/-- One run more, one run less. -/
theorem runsL_part {S T : Nat → Bool} {M j b : Nat} (hb : b < M) (hS : ¬ Run S j b) (hT : Run T j b) (ho : ∀ q, q ≠ b → (Run T j q ↔ Run S j q)) :
    ∃ l m, runsL S M j = l ++ m ∧ runsL T M j = l ++ b * 2 ^ j :: m ∧ (∀ x ∈ l, x < b * 2 ^ j) ∧ ∀ x ∈ m, b * 2 ^ j < x := by
  obtain ⟨l, h1, h2, h3⟩ := ups_part (runB S j) b M hb
  have h4 := h3 (runB T j) (fun x hx => by
    cases h : runB S j x with
    | true => exact runB_iff.2 ((ho x hx).2 (runB_iff.1 h))
    | false => exact runB_false.2 (fun h' => runB_false.1 h ((ho x hx).1 h')))
  rw [runB_false.2 hS] at h1
  rw [runB_iff.2 hT] at h4
  refine ⟨(ups (runB S j) b).map (· * 2 ^ j), l.map (· * 2 ^ j), ?_, ?_, fun x hx => ?_, fun x hx => ?_⟩
  · unfold runsL; rw [h1]; simp
  · unfold runsL; rw [h4]; simp
  · obtain ⟨q, hq, rfl⟩ := List.mem_map.1 hx
    exact Nat.mul_lt_mul_of_pos_right (ups_lt hq) (Nat.two_pow_pos j)
  · obtain ⟨q, hq, rfl⟩ := List.mem_map.1 hx
    exact Nat.mul_lt_mul_of_pos_right (h2 q hq).1 (Nat.two_pow_pos j)
theorem runsL_same {S T : Nat → Bool} {M i : Nat} (h : ∀ q, Run T i q ↔ Run S i q) : runsL T M i = runsL S M i := by
  unfold runsL
  rw [ups_congr (P := runB T i) (P' := runB S i) (fun x _ => by
    cases h' : runB S i x with
    | true => exact runB_iff.2 ((h x).2 (runB_iff.1 h'))
    | false => exact runB_false.2 (fun e => runB_false.1 h' ((h x).1 e)))]
section
variable {S T : Nat → Bool} {M j b : Nat}
theorem not_run_of_none (hd : ∀ x, x / 2 ^ j = b → S x = false) : ¬ Run S j b := fun h => by
  have := h.1 (b * 2 ^ j) (first_in j b)
  rw [hd _ (first_in j b)] at this; cases this
/-- put. -/
theorem runs_put (hT : ∀ x, T x = true ↔ S x = true ∨ x / 2 ^ j = b) (hd : ∀ x, x / 2 ^ j = b → S x = false) (hbu : j = 9 ∨ ¬ AllIn S j (budN b)) (hj : j ≤ 9) (hb : b < M) :
    (∃ l m, runsL S M j = l ++ m ∧ runsL T M j = l ++ b * 2 ^ j :: m ∧ (∀ x ∈ l, x < b * 2 ^ j) ∧ ∀ x ∈ m, b * 2 ^ j < x) ∧ ∀ i, i ≤ 9 → i ≠ j → runsL T M i = runsL S M i := by
  have h := fun i q (hi : i ≤ 9) => run_add hT hd hbu i q hi hj
  refine ⟨runsL_part hb (not_run_of_none hd) ((h j b hj).2 (.inr ⟨rfl, rfl⟩)) (fun q hq => ?_), fun i hi hij => runsL_same fun q => ?_⟩
  · rw [h j q hj]; exact ⟨fun e => e.resolve_right (fun e => hq e.2), .inl⟩
  · rw [h i q hi]; exact ⟨fun e => e.resolve_right (fun e => hij e.1), .inl⟩
/-- cut: of a run. -/
theorem runs_cut (hT : ∀ x, T x = true ↔ S x = true ∨ x / 2 ^ j = b) (hd : ∀ x, x / 2 ^ j = b → S x = false) (hr : Run T j b) (hj : j ≤ 9) (hb : b < M) :
    (∃ l m, runsL S M j = l ++ m ∧ runsL T M j = l ++ b * 2 ^ j :: m ∧ (∀ x ∈ l, x < b * 2 ^ j) ∧ ∀ x ∈ m, b * 2 ^ j < x) ∧ ∀ i, i ≤ 9 → i ≠ j → runsL T M i = runsL S M i := by
  refine runs_put hT hd ?_ hj hb
  rcases hr.2 with h | h
  · exact .inl h
  · refine .inr (fun hs => h (allIn_halves.2 ⟨hr.1, fun x hx => (hT x).2 (.inl (hs x hx))⟩))
/-- Each free frame lies in one run. -/
theorem run_of {x : Nat} (hx : S x = true) : ∃ k, k ≤ 9 ∧ Run S k (x / 2 ^ k) := by
  have key : ∀ n, n ≤ 9 → AllIn S (9 - n) (x / 2 ^ (9 - n)) → ∃ k, k ≤ 9 ∧ Run S k (x / 2 ^ k) := by
    intro n
    induction n with
    | zero => intro _ h; exact ⟨9, Nat.le_refl 9, h, .inl rfl⟩
    | succ n ih =>
      intro hn h
      by_cases hp : AllIn S (9 - n) (x / 2 ^ (9 - n))
      · exact ih (by omega) hp
      · refine ⟨9 - (n + 1), by omega, h, .inr (fun hp' => hp ?_)⟩
        rw [show 9 - (n + 1) + 1 = 9 - n by omega] at hp'
        have e : x / 2 ^ (9 - n) = x / 2 ^ (9 - (n + 1)) / 2 := by rw [← Nat.pow_one 2, Nat.pow_one 2, show 9 - n = 9 - (n + 1) + 1 by omega, div_up, Nat.pow_one]
        rw [e]; exact hp'
  refine key 9 (Nat.le_refl 9) fun y hy => ?_
  simp at hy
  rw [hy]; exact hx
end
/-- Without n frames from f on. -/
def lessS (S : Nat → Bool) (f n : Nat) : Nat → Bool := fun x => S x && !(decide (f ≤ x) && decide (x < f + n))
def moreS (S : Nat → Bool) (f n : Nat) : Nat → Bool := fun x => S x || (decide (f ≤ x) && decide (x < f + n))
theorem lessS_iff {S : Nat → Bool} {f n x : Nat} : lessS S f n x = true ↔ S x = true ∧ ¬ (f ≤ x ∧ x < f + n) := by
  unfold lessS; simp [Bool.and_eq_true]; intro _; omega
theorem moreS_iff {S : Nat → Bool} {f n x : Nat} : moreS S f n x = true ↔ S x = true ∨ (f ≤ x ∧ x < f + n) := by
  unfold moreS; simp [Bool.and_eq_true]
theorem blk_iff (q j x : Nat) : x / 2 ^ j = q ↔ q * 2 ^ j ≤ x ∧ x < q * 2 ^ j + 2 ^ j := by
  have hp := Nat.two_pow_pos j
  constructor
  · rintro rfl
    have h1 := Nat.div_mul_le_self x (2 ^ j)
    have h2 := Nat.lt_div_mul_add (a := x) hp
    exact ⟨h1, h2⟩
  · rintro ⟨h1, h2⟩
    exact Nat.div_eq_of_lt_le (by rw [Nat.mul_comm] at h1; rw [Nat.mul_comm]; exact h1) (by rw [Nat.add_mul, Nat.one_mul]; exact h2)
end Go.Proofs.Ytnmccihgiphmjaa
namespace Go.Proofs.Ytnmccihgiphmjaa
set_option linter.unusedVariables false
set_option linter.unusedSimpArgs false
open Go.RowKit
/-- Two runs that share a frame are one. -/
theorem run_unique {S : Nat → Bool} {k q k' q' x : Nat} (h : Run S k q) (h' : Run S k' q') (hx : x / 2 ^ k = q) (hx' : x / 2 ^ k' = q') (hk : k ≤ 9) (hk' : k' ≤ 9) : k = k' ∧ q = q' := by
  have key : ∀ {k q k' q' : Nat}, Run S k q → Run S k' q' → x / 2 ^ k = q → x / 2 ^ k' = q' → k' ≤ 9 → ¬ k < k' := by
    intro k q k' q' h h' hx hx' hk' hlt
    rcases h.2 with h9 | h9
    · omega
    · apply h9
      refine allIn_up (k := k' - (k + 1)) (q := q') (by rw [show k + 1 + (k' - (k + 1)) = k' by omega]; exact h'.1) ?_
      rw [← hx, ← hx', show k' = k + (1 + (k' - (k + 1))) by omega, div_up, Nat.pow_add, ← Nat.div_div_eq_div_mul, Nat.pow_one]
      congr 2; omega
  have e : k = k' := by
    have h1 := key h h' hx hx' hk'
    have h2 := key h' h hx' hx hk
    omega
  subst e
  exact ⟨rfl, hx.symm.trans hx'⟩
/-- All frames from first to end. -/
def allS (first en : Nat) : Nat → Bool := fun x => decide (first ≤ x) && decide (x < en)
theorem allS_iff {first en x : Nat} : allS first en x = true ↔ first ≤ x ∧ x < en := by unfold allS; simp
theorem allIn_all {first en k q : Nat} : AllIn (allS first en) k q ↔ first ≤ q * 2 ^ k ∧ q * 2 ^ k + 2 ^ k ≤ en := by
  have hp := Nat.two_pow_pos k
  constructor
  · intro h
    have h1 := allS_iff.1 (h (q * 2 ^ k) (first_in k q))
    have h2 := allS_iff.1 (h (q * 2 ^ k + (2 ^ k - 1)) ((blk_iff q k _).2 (by omega)))
    omega
  · rintro ⟨h1, h2⟩ x hx
    have := (blk_iff q k x).1 hx
    exact allS_iff.2 (by omega)
/-- What holds where New has come to. -/
def NewI (first en at_ : Nat) : Prop := first ≤ at_ ∧ at_ ≤ en ∧ ∀ o, o ≤ 8 → at_ % 2 ^ o = 0 → at_ / 2 ^ o % 2 = 1 → at_ < first + 2 ^ o ∨ en < at_ + 2 ^ o
theorem newI_start {first en : Nat} (h : first ≤ en) : NewI first en first := ⟨Nat.le_refl _, h, fun o _ _ _ => .inl (by have := Nat.two_pow_pos o; omega)⟩
/-- The order that New finds. -/
structure Greedy (en at_ o : Nat) : Prop where
  o9 : o ≤ 9
  al : at_ % 2 ^ o = 0
  fit : at_ + 2 ^ o ≤ en
  stop : o = 9 ∨ at_ % 2 ^ (o + 1) ≠ 0 ∨ en < at_ + 2 ^ (o + 1)
theorem mod_up {a o : Nat} (h : a % 2 ^ o = 0) : a % 2 ^ (o + 1) = 0 ↔ a / 2 ^ o % 2 = 0 := by
  have e : a = a / 2 ^ o * 2 ^ o := by have := Nat.div_add_mod a (2 ^ o); rw [h] at this; rw [Nat.mul_comm]; omega
  obtain ⟨q, hq⟩ : ∃ q, a / 2 ^ o = q := ⟨_, rfl⟩
  rw [hq] at e ⊢
  have hp := Nat.two_pow_pos o
  rw [e, Nat.pow_succ, Nat.mul_comm q, Nat.mul_mod_mul_left]
  constructor
  · intro h'; rcases Nat.mul_eq_zero.1 h' with h' | h'
    · omega
    · exact h'
  · intro h'; rw [h']; simp
theorem new_run {first en at_ o : Nat} (hi : NewI first en at_) (hg : Greedy en at_ o) : Run (allS first en) o (at_ / 2 ^ o) := by
  have e : at_ / 2 ^ o * 2 ^ o = at_ := by have := Nat.div_add_mod at_ (2 ^ o); rw [hg.al] at this; rw [Nat.mul_comm]; omega
  have hp := Nat.two_pow_pos o
  refine ⟨allIn_all.2 (by rw [e]; exact ⟨hi.1, hg.fit⟩), ?_⟩
  by_cases h9 : o = 9
  · exact .inl h9
  · refine .inr (fun h => ?_)
    rw [allIn_all] at h
    have hq2 : at_ / 2 ^ o / 2 * 2 ^ (o + 1) = at_ / 2 ^ o / 2 * 2 * 2 ^ o := by rw [Nat.pow_succ, Nat.mul_comm (2 ^ o), Nat.mul_assoc]
    have hpp : 2 ^ (o + 1) = 2 ^ o + 2 ^ o := by rw [Nat.pow_succ]; omega
    rw [hq2, hpp] at h
    by_cases hodd : at_ / 2 ^ o % 2 = 1
    · have h1 := hi.2.2 o (by have := hg.o9; omega) hg.al hodd
      have h2 : at_ / 2 ^ o / 2 * 2 * 2 ^ o + 2 ^ o = at_ := by
        have : at_ / 2 ^ o / 2 * 2 + 1 = at_ / 2 ^ o := by omega
        rw [← Nat.succ_mul, Nat.succ_eq_add_one, this, e]
      have := hg.fit
      omega
    · have hev : at_ / 2 ^ o % 2 = 0 := by omega
      have h2 : at_ / 2 ^ o / 2 * 2 * 2 ^ o = at_ := by
        have : at_ / 2 ^ o / 2 * 2 = at_ / 2 ^ o := by omega
        rw [this, e]
      rcases hg.stop with h3 | h3 | h3
      · exact h9 h3
      · exact h3 ((mod_up hg.al).2 hev)
      · rw [hpp] at h3; omega
theorem new_next {first en at_ o : Nat} (hi : NewI first en at_) (hg : Greedy en at_ o) : NewI first en (at_ + 2 ^ o) := by
  have hp := Nat.two_pow_pos o
  refine ⟨by have := hi.1; omega, hg.fit, fun o' ho' hal' hodd' => ?_⟩
  have hpp : 2 ^ (o + 1) = 2 ^ o + 2 ^ o := by rw [Nat.pow_succ]; omega
  -- the order of the new place
  have hq : (at_ + 2 ^ o) / 2 ^ o = at_ / 2 ^ o + 1 := by rw [Nat.add_div_right _ hp]
  have hal : (at_ + 2 ^ o) % 2 ^ o = 0 := by rw [Nat.add_mod_right]; exact hg.al
  rcases Nat.lt_trichotomy o' o with h | h | h
  · -- a lesser one: it is even there
    exfalso
    have : (at_ + 2 ^ o) % 2 ^ (o' + 1) = 0 := Nat.mod_eq_zero_of_dvd (Nat.dvd_trans (Nat.pow_dvd_pow 2 h) (Nat.dvd_of_mod_eq_zero hal))
    rw [mod_up hal'] at this
    omega
  · subst h
    rw [hq] at hodd'
    rcases hg.stop with h3 | h3 | h3
    · omega
    · exact absurd ((mod_up hg.al).2 (by omega)) h3
    · right; rw [hpp] at h3; omega
  · -- a greater one
    have h1 : (at_ + 2 ^ o) % 2 ^ (o + 1) = 0 := Nat.mod_eq_zero_of_dvd (Nat.dvd_trans (Nat.pow_dvd_pow 2 h) (Nat.dvd_of_mod_eq_zero hal'))
    rw [mod_up hal, hq] at h1
    have h2 := hi.2.2 o (by omega) hg.al (by omega)
    have h3 : 2 ^ (o + 1) ≤ 2 ^ o' := Nat.pow_le_pow_right (by decide) h
    have := hg.fit
    left
    omega
/-- The runs ahead of a place. -/
noncomputable def beforeL (S : Nat → Bool) (M k at_ : Nat) : List Nat := (runsL S M k).filter (fun f => decide (f < at_))
theorem before_step {first en at_ o M k : Nat} (hi : NewI first en at_) (hg : Greedy en at_ o) (hk : k ≤ 9) (hM : en ≤ M) :
    beforeL (allS first en) M k (at_ + 2 ^ o) = beforeL (allS first en) M k at_ ++ (if k = o then [at_] else []) := by
  have hp := Nat.two_pow_pos o
  have e : at_ / 2 ^ o * 2 ^ o = at_ := by have := Nat.div_add_mod at_ (2 ^ o); rw [hg.al] at this; rw [Nat.mul_comm]; omega
  have hr := new_run hi hg
  have only : ∀ f ∈ runsL (allS first en) M k, at_ ≤ f → f < at_ + 2 ^ o → k = o ∧ f = at_ := by
    intro f hf h1 h2
    obtain ⟨q, -, hq, rfl⟩ := mem_runsL.1 hf
    obtain ⟨rfl, rfl⟩ := run_unique hq hr (first_in k q) ((blk_iff _ o _).2 (by rw [e]; exact ⟨h1, h2⟩)) hk hg.o9
    exact ⟨rfl, e⟩
  have part : ∀ l : List Nat, l.Pairwise (· < ·) → (∀ f ∈ l, at_ ≤ f → f < at_ + 2 ^ o → k = o ∧ f = at_) → (k = o → at_ ∈ l) →
      l.filter (fun f => decide (f < at_ + 2 ^ o)) = l.filter (fun f => decide (f < at_)) ++ (if k = o then [at_] else []) := by
    intro l
    induction l with
    | nil =>
      intro _ _ h3
      by_cases hko : k = o
      · exact absurd (h3 hko) (by simp)
      · rw [if_neg hko]; rfl
    | cons f l ih =>
      intro h1 h2 h3
      rw [List.pairwise_cons] at h1
      by_cases hlt : f < at_
      · have h3' : k = o → at_ ∈ l := fun hko => by
          rcases List.mem_cons.1 (h3 hko) with h | h
          · omega
          · exact h
        simp only [List.filter_cons, decide_eq_true hlt, decide_eq_true (show f < at_ + 2 ^ o by omega), if_true, List.cons_append]
        rw [ih h1.2 (fun g hg' => h2 g (List.mem_cons_of_mem _ hg')) h3']
      · have hnone : ∀ g ∈ l, ¬ g < at_ := fun g hg' => by have := h1.1 g hg'; omega
        have e1 : l.filter (fun f => decide (f < at_)) = [] := List.filter_eq_nil_iff.2 (fun g hg' => by simpa using hnone g hg')
        by_cases hlt2 : f < at_ + 2 ^ o
        · obtain ⟨hko, rfl⟩ := h2 f (List.mem_cons_self ..) (by omega) hlt2
          have e2 : l.filter (fun g => decide (g < f + 2 ^ o)) = [] := List.filter_eq_nil_iff.2 (fun g hg' => by
            have h4 := h1.1 g hg'
            simp only [decide_eq_true_eq]
            intro h5
            have := (h2 g (List.mem_cons_of_mem _ hg') (by omega) h5).2
            omega)
          simp only [List.filter_cons, decide_eq_true hlt2, decide_eq_false hlt, if_true, Bool.false_eq_true, if_false]
          rw [e1, e2, if_pos hko]; rfl
        · have e2 : l.filter (fun g => decide (g < at_ + 2 ^ o)) = [] := List.filter_eq_nil_iff.2 (fun g hg' => by
            have h4 := h1.1 g hg'
            simp only [decide_eq_true_eq]
            omega)
          simp only [List.filter_cons, decide_eq_false hlt2, decide_eq_false hlt, Bool.false_eq_true, if_false]
          rw [e1, e2]
          by_cases hko : k = o
          · exfalso
            rcases List.mem_cons.1 (h3 hko) with h | h
            · omega
            · exact absurd (h1.1 _ h) (by omega)
          · rw [if_neg hko]; rfl
  refine part _ (runsL_sorted _ _ _) only (fun hko => ?_)
  subst hko
  refine mem_runsL.2 ⟨at_ / 2 ^ k, ?_, hr, e⟩
  have h1 : at_ / 2 ^ k ≤ at_ := Nat.div_le_self _ _
  have := hg.fit
  omega
theorem before_none {first en M k : Nat} : beforeL (allS first en) M k first = [] := by
  refine List.filter_eq_nil_iff.2 (fun f hf => ?_)
  obtain ⟨q, -, hq, rfl⟩ := mem_runsL.1 hf
  have := (allIn_all.1 hq.1).1
  simp only [decide_eq_true_eq]; omega
theorem before_all {first en M k : Nat} : beforeL (allS first en) M k en = runsL (allS first en) M k := by
  refine List.filter_eq_self.2 (fun f hf => ?_)
  obtain ⟨q, -, hq, rfl⟩ := mem_runsL.1 hf
  have h1 := (allIn_all.1 hq.1).2
  have := Nat.two_pow_pos k
  simp only [decide_eq_true_eq]; omega
end Go.Proofs.Ytnmccihgiphmjaa
namespace Go.Proofs.Ytnmccihgiphmjaa
set_option linter.unusedVariables false
set_option linter.unusedSimpArgs false
open Go.RowKit
/-- What is told of a place in a rising list. -/
structure PartL (A B : List Nat) (f : Nat) (l m : List Nat) : Prop where
  has : A = l ++ f :: m
  lacks : B = l ++ m
  lo : ∀ x ∈ l, x < f
  hi : ∀ x ∈ m, f < x
theorem PartL.count {A B l m : List Nat} {f : Nat} (h : PartL A B f l m) : A.countP (fun x => decide (x < f)) = l.length ∧ B.countP (fun x => decide (x < f)) = l.length := by
  have h1 : l.countP (fun x => decide (x < f)) = l.length := List.countP_eq_length.2 (fun x hx => by simpa using h.lo x hx)
  have h2 : m.countP (fun x => decide (x < f)) = 0 := List.countP_eq_zero.2 (fun x hx => by have := h.hi x hx; simp only [decide_eq_true_eq]; omega)
  constructor
  · rw [h.has, List.countP_append, List.countP_cons, h1, h2]; simp
  · rw [h.lacks, List.countP_append, h1, h2]; rfl
theorem PartL.mem {A B l m : List Nat} {f : Nat} (h : PartL A B f l m) : f ∈ A ∧ f ∉ B := by
  refine ⟨by rw [h.has]; simp, fun hf => ?_⟩
  rw [h.lacks, List.mem_append] at hf
  rcases hf with hf | hf
  · exact absurd (h.lo f hf) (Nat.lt_irrefl f)
  · exact absurd (h.hi f hf) (Nat.lt_irrefl f)
/-- A free run, or none. -/
theorem mem_run {S : Nat → Bool} {M j b : Nat} (hb : b < M) : b * 2 ^ j ∈ runsL S M j ↔ Run S j b := by
  rw [mem_runsL]
  constructor
  · rintro ⟨q, _, h2, h3⟩
    have : q = b := Nat.eq_of_mul_eq_mul_right (Nat.two_pow_pos j) h3
    rwa [← this]
  · exact fun h => ⟨b, hb, h, rfl⟩
section
variable {S : Nat → Bool} {M j b : Nat}
/-- A run cut out. -/
theorem cut_run (hr : Run S j b) (hj : j ≤ 9) (hb : b < M) :
    (∃ l m, PartL (runsL S M j) (runsL (lessS S (b * 2 ^ j) (2 ^ j)) M j) (b * 2 ^ j) l m) ∧ ∀ i, i ≤ 9 → i ≠ j → runsL (lessS S (b * 2 ^ j) (2 ^ j)) M i = runsL S M i := by
  have h1 : ∀ x, S x = true ↔ lessS S (b * 2 ^ j) (2 ^ j) x = true ∨ x / 2 ^ j = b := fun x => by
    rw [lessS_iff, blk_iff b j x]
    constructor
    · intro h
      by_cases h' : b * 2 ^ j ≤ x ∧ x < b * 2 ^ j + 2 ^ j
      · exact .inr h'
      · exact .inl ⟨h, h'⟩
    · rintro (h | h)
      · exact h.1
      · exact hr.1 x ((blk_iff b j x).2 h)
  have h2 : ∀ x, x / 2 ^ j = b → lessS S (b * 2 ^ j) (2 ^ j) x = false := fun x hx => by
    rw [Bool.eq_false_iff]; intro h
    exact (lessS_iff.1 h).2 ((blk_iff b j x).1 hx)
  obtain ⟨⟨l, m, e1, e2, e3, e4⟩, h4⟩ := runs_cut h1 h2 hr hj hb
  exact ⟨⟨l, m, ⟨e2, e1, e3, e4⟩⟩, fun i hi hij => (h4 i hi hij).symm⟩
/-- One halving: the greater half is laid in. -/
theorem halve_put {k f : Nat} (hal : f % 2 ^ (k + 1) = 0) (hin : ∀ x, f ≤ x → x < f + 2 ^ (k + 1) → S x = true) (hk : k < 9) (hM : f + 2 ^ (k + 1) ≤ M) :
    (∃ l m, PartL (runsL (lessS S f (2 ^ k)) M k) (runsL (lessS S f (2 ^ (k + 1))) M k) (f + 2 ^ k) l m) ∧ ∀ i, i ≤ 9 → i ≠ k → runsL (lessS S f (2 ^ k)) M i = runsL (lessS S f (2 ^ (k + 1))) M i := by
  have hp := Nat.two_pow_pos k
  have hpp : 2 ^ (k + 1) = 2 ^ k + 2 ^ k := by rw [Nat.pow_succ]; omega
  obtain ⟨q, hq⟩ : ∃ q, f = q * 2 ^ (k + 1) := ⟨f / 2 ^ (k + 1), by have := Nat.div_add_mod f (2 ^ (k + 1)); rw [hal] at this; rw [Nat.mul_comm]; omega⟩
  have hf : f = 2 * q * 2 ^ k := by rw [hq, Nat.pow_succ, Nat.mul_comm (2 ^ k), ← Nat.mul_assoc, Nat.mul_comm q]
  have hb : (2 * q + 1) * 2 ^ k = f + 2 ^ k := by rw [Nat.add_mul, Nat.one_mul, ← hf]
  have hblk : ∀ x, x / 2 ^ k = 2 * q + 1 ↔ f + 2 ^ k ≤ x ∧ x < f + 2 ^ (k + 1) := fun x => by rw [blk_iff, hb, hpp]; omega
  have h := runs_put (S := lessS S f (2 ^ (k + 1))) (T := lessS S f (2 ^ k)) (M := M) (j := k) (b := 2 * q + 1) (fun x => by
      rw [lessS_iff, lessS_iff, hblk]
      constructor
      · rintro ⟨h1, h2⟩
        by_cases h3 : f + 2 ^ k ≤ x ∧ x < f + 2 ^ (k + 1)
        · exact .inr h3
        · refine .inl ⟨h1, ?_⟩; rw [hpp] at h3 ⊢; omega
      · rintro (⟨h1, h2⟩ | h1)
        · refine ⟨h1, ?_⟩; rw [hpp] at h2; omega
        · exact ⟨hin x (by omega) (by omega), by omega⟩)
    (fun x hx => by
      rw [Bool.eq_false_iff]; intro h
      have h1 := (lessS_iff.1 h).2
      have h2 := (hblk x).1 hx
      omega)
    (.inr fun h => by
      have e : budN (2 * q + 1) = 2 * q := by unfold budN; split <;> omega
      rw [e] at h
      have h1 := h f (by rw [hf]; exact first_in k _)
      have h2 := (lessS_iff.1 h1).2
      omega) (by omega) (by
      have h1 : 2 * q + 1 ≤ (2 * q + 1) * 2 ^ k := Nat.le_mul_of_pos_right _ hp
      omega)
  obtain ⟨⟨l, m, e1, e2, e3, e4⟩, h4⟩ := h
  rw [hb] at e2 e3 e4
  exact ⟨⟨l, m, ⟨e2, e1, e3, e4⟩⟩, h4⟩
/-- The other half of a run that is not free. -/
theorem bud_run (hj : j < 9) (hd : ∀ x, x / 2 ^ j = b → S x = false) : Run S j (budN b) ↔ AllIn S j (budN b) := by
  refine ⟨fun h => h.1, fun h => ⟨h, .inr fun h' => ?_⟩⟩
  rw [budN_half] at h'
  have := (allIn_halves.1 h').1 (b * 2 ^ j) (first_in j b)
  rw [hd _ (first_in j b)] at this; cases this
/-- The last step of Give. -/
theorem join_put (hd : ∀ x, x / 2 ^ j = b → S x = false) (hbu : j = 9 ∨ ¬ Run S j (budN b)) (hj : j ≤ 9) (hb : b < M) :
    (∃ l m, PartL (runsL (moreS S (b * 2 ^ j) (2 ^ j)) M j) (runsL S M j) (b * 2 ^ j) l m) ∧ ∀ i, i ≤ 9 → i ≠ j → runsL (moreS S (b * 2 ^ j) (2 ^ j)) M i = runsL S M i := by
  obtain ⟨⟨l, m, e1, e2, e3, e4⟩, h4⟩ := runs_put (S := S) (T := moreS S (b * 2 ^ j) (2 ^ j)) (M := M) (j := j) (b := b) (fun x => by rw [moreS_iff, blk_iff]) hd
    (by
      rcases hbu with h | h
      · exact .inl h
      · by_cases h9 : j = 9
        · exact .inl h9
        · exact .inr (fun h' => h ((bud_run (by omega) hd).2 h'))) hj hb
  exact ⟨⟨l, m, ⟨e2, e1, e3, e4⟩⟩, h4⟩
/-- The run that Give holds, joined with its other half. -/
theorem join_step {x : Nat} : moreS (lessS S (budN b * 2 ^ j) (2 ^ j)) (b / 2 * 2 ^ (j + 1)) (2 ^ (j + 1)) x = true ↔ moreS S (b * 2 ^ j) (2 ^ j) x = true ∨ (x / 2 ^ j = budN b) := by
  rw [moreS_iff, moreS_iff, lessS_iff, ← blk_iff b j x, ← blk_iff (budN b) j x, ← blk_iff (b / 2) (j + 1) x, div_up, Nat.pow_one]
  have hb := budN_half b
  constructor
  · rintro (⟨h1, _⟩ | h)
    · exact .inl (.inl h1)
    · rcases half_cases (x / 2 ^ j) b h with e | e
      · exact .inl (.inr e)
      · exact .inr e
  · rintro ((h | h) | h)
    · by_cases h' : x / 2 ^ j = budN b
      · exact .inr (by rw [h', hb])
      · exact .inl ⟨h, h'⟩
    · exact .inr (by rw [h])
    · exact .inr (by rw [h, hb])
theorem join_apart (hd : ∀ x, x / 2 ^ j = b → S x = false) : ∀ x, x / 2 ^ (j + 1) = b / 2 → lessS S (budN b * 2 ^ j) (2 ^ j) x = false := by
  intro x hx
  rw [div_up, Nat.pow_one] at hx
  rw [Bool.eq_false_iff]; intro h
  have h1 := lessS_iff.1 h
  rw [← blk_iff] at h1
  rcases half_cases (x / 2 ^ j) b hx with e | e
  · rw [hd x e] at h1; exact absurd h1.1 (by simp)
  · exact h1.2 e
/-- Has. -/
theorem has_iff (hM : ∀ x, S x = true → x < M) {x : Nat} : S x = true ↔ ∃ k, k ≤ 9 ∧ x / 2 ^ k * 2 ^ k ∈ runsL S M k := by
  constructor
  · intro h
    obtain ⟨k, hk, hr⟩ := run_of h
    refine ⟨k, hk, (mem_run ?_).2 hr⟩
    exact Nat.lt_of_le_of_lt (Nat.div_le_self _ _) (hM x h)
  · rintro ⟨k, _, h⟩
    obtain ⟨q, _, hr, hq⟩ := mem_runsL.1 h
    have : q = x / 2 ^ k := Nat.eq_of_mul_eq_mul_right (Nat.two_pow_pos k) hq
    exact hr.1 x this.symm
end
/-- No frame is free in a memory without runs of an order or more: Take's 'none'. -/
theorem none_from {S : Nat → Bool} {M o : Nat} (h : ∀ k, o ≤ k → k ≤ 9 → runsL S M k = []) {q : Nat} (hM : ∀ x, S x = true → x < M) (ho : o ≤ 9) : ¬ AllIn S o q := by
  intro ha
  obtain ⟨k, hk, hr⟩ := run_of (ha (q * 2 ^ o) (first_in o q))
  have hx := hM _ (ha (q * 2 ^ o) (first_in o q))
  have hlt : q * 2 ^ o / 2 ^ k < M := Nat.lt_of_le_of_lt (Nat.div_le_self _ _) hx
  by_cases hok : o ≤ k
  · have := (mem_run hlt).2 hr
    rw [h k hok hk] at this; cases this
  · refine (hr.2.resolve_left (by omega)) (allIn_up (k := o - (k + 1)) (q := q) (by rw [show k + 1 + (o - (k + 1)) = o by omega]; exact ha) ?_)
    rw [← Nat.pow_one 2, ← div_up, Nat.pow_one, ← div_up, show k + (1 + (o - (k + 1))) = o by omega, first_in]
end Go.Proofs.Ytnmccihgiphmjaa
namespace Go.Proofs.Ytnmccihgiphmjaa
set_option linter.unusedVariables false
set_option linter.unusedSimpArgs false
open Go.RowKit
/-- How many are free. -/
def cntS (S : Nat → Bool) (M : Nat) : Nat := (List.range M).countP S
theorem cntS_succ (S : Nat → Bool) (M : Nat) : cntS S (M + 1) = cntS S M + (if S M = true then 1 else 0) := by
  unfold cntS; rw [List.range_succ, List.countP_append, List.countP_singleton]
theorem cntS_zero {S : Nat → Bool} {M : Nat} : cntS S M = 0 ↔ ∀ x, x < M → S x = false := by
  unfold cntS
  rw [List.countP_eq_zero]
  simp only [List.mem_range, Bool.not_eq_true]
theorem cntS_less (S : Nat → Bool) (f n : Nat) : ∀ M, (∀ x, f ≤ x → x < f + n → S x = true) → cntS (lessS S f n) M + (min M (f + n) - min M f) = cntS S M := by
  intro M h
  induction M with
  | zero => simp [cntS]
  | succ M ih =>
    rw [cntS_succ, cntS_succ]
    by_cases h1 : f ≤ M ∧ M < f + n
    · have e1 : lessS S f n M = false := by rw [Bool.eq_false_iff]; intro h'; exact (lessS_iff.1 h').2 h1
      rw [e1, h M h1.1 h1.2]
      simp only [Bool.false_eq_true, if_false, if_true]
      omega
    · have e1 : lessS S f n M = S M := by
        cases hS : S M with
        | true => exact lessS_iff.2 ⟨hS, h1⟩
        | false => rw [Bool.eq_false_iff]; intro h'; rw [(lessS_iff.1 h').1] at hS; cases hS
      rw [e1]
      split <;> omega
theorem cntS_lessIn {S : Nat → Bool} {f n M : Nat} (h : ∀ x, f ≤ x → x < f + n → S x = true) (hM : f + n ≤ M) : cntS (lessS S f n) M + n = cntS S M := by
  have := cntS_less S f n M h; omega
theorem cntS_congr {S T : Nat → Bool} {M : Nat} (h : ∀ x, x < M → S x = T x) : cntS S M = cntS T M := by
  unfold cntS
  exact List.countP_congr fun x hx => by rw [h x (List.mem_range.1 hx)]
theorem cntS_moreIn {S : Nat → Bool} {f n M : Nat} (h : ∀ x, f ≤ x → x < f + n → S x = false) (hM : f + n ≤ M) : cntS (moreS S f n) M = cntS S M + n := by
  rw [← cntS_lessIn (S := moreS S f n) (f := f) (n := n) (fun x h1 h2 => moreS_iff.2 (.inr ⟨h1, h2⟩)) hM]
  congr 1
  refine cntS_congr fun x _ => ?_
  cases hS : S x with
  | true =>
    refine lessS_iff.2 ⟨moreS_iff.2 (.inl hS), fun h' => ?_⟩
    rw [h x h'.1 h'.2] at hS; cases hS
  | false =>
    rw [Bool.eq_false_iff]; intro h'
    have h1 := lessS_iff.1 h'
    rcases moreS_iff.1 h1.1 with h2 | h2
    · rw [hS] at h2; cases h2
    · exact h1.2 h2
theorem cntS_all {first en M : Nat} (h : first ≤ en) (hM : en ≤ M) : cntS (allS first en) M = en - first := by
  induction M with
  | zero => simp [cntS]; omega
  | succ M ih =>
    rw [cntS_succ]
    by_cases h1 : en ≤ M
    · have e : allS first en M = false := by rw [Bool.eq_false_iff]; intro h'; have := allS_iff.1 h'; omega
      rw [ih h1, e]; rfl
    · have e : en = M + 1 := by omega
      subst e
      by_cases h2 : first ≤ M
      · rw [show allS first (M + 1) M = true from allS_iff.2 ⟨h2, by omega⟩]
        have key : ∀ K, K ≤ M → cntS (allS first (M + 1)) K = K - first := by
          intro K
          induction K with
          | zero => intro _; simp [cntS]
          | succ K ihK =>
            intro hK
            rw [cntS_succ, ihK (by omega)]
            by_cases h3 : first ≤ K
            · rw [show allS first (M + 1) K = true from allS_iff.2 ⟨h3, by omega⟩]; simp only [if_true]; omega
            · rw [show allS first (M + 1) K = false from by rw [Bool.eq_false_iff]; intro h'; have := allS_iff.1 h'; omega]; simp only [Bool.false_eq_true, if_false]; omega
        rw [key M (Nat.le_refl M)]; simp only [if_true]; omega
      · rw [show allS first (M + 1) M = false from by rw [Bool.eq_false_iff]; intro h'; have := allS_iff.1 h'; omega]
        simp only [Bool.false_eq_true, if_false, Nat.add_zero]
        rw [cntS_zero.2 (fun x hx => by rw [Bool.eq_false_iff]; intro h'; have := allS_iff.1 h'; omega)]; omega
/-- What Take finds. -/
structure Finds (S : Nat → Bool) (M order k f : Nat) : Prop where
  le : order ≤ k
  k9 : k ≤ 9
  least : ∀ i, order ≤ i → i < k → runsL S M i = []
  head : ∃ t, runsL S M k = f :: t
theorem Finds.run {S : Nat → Bool} {M order k f : Nat} (h : Finds S M order k f) : ∃ q, f = q * 2 ^ k ∧ q < M ∧ Run S k q := by
  obtain ⟨t, ht⟩ := h.head
  obtain ⟨q, h1, h2, h3⟩ := mem_runsL.1 (show f ∈ runsL S M k by rw [ht]; exact List.mem_cons_self ..)
  exact ⟨q, h3.symm, h1, h2⟩
theorem Finds.al {S : Nat → Bool} {M order k f : Nat} (h : Finds S M order k f) {j : Nat} (hj : j ≤ k) : f % 2 ^ j = 0 := by
  obtain ⟨q, rfl, -, -⟩ := h.run
  rw [show k = (k - j) + j by omega, Nat.pow_add, ← Nat.mul_assoc]
  exact Nat.mul_mod_left _ _
theorem Finds.free {S : Nat → Bool} {M order k f : Nat} (h : Finds S M order k f) {j : Nat} (hj : j ≤ k) : ∀ x, f ≤ x → x < f + 2 ^ j → S x = true := by
  obtain ⟨q, rfl, -, hr⟩ := h.run
  intro x h1 h2
  have : 2 ^ j ≤ 2 ^ k := Nat.pow_le_pow_right (by decide) hj
  exact hr.1 x ((blk_iff q k x).2 ⟨h1, by omega⟩)
theorem Finds.fits {S : Nat → Bool} {M order k f : Nat} (h : Finds S M order k f) (hM : ∀ x, S x = true → x < M) {j : Nat} (hj : j ≤ k) : f + 2 ^ j ≤ M := by
  have hp := Nat.two_pow_pos j
  have := hM _ (h.free hj (f + 2 ^ j - 1) (by omega) (by omega))
  omega
/-- Take finds, or there is none. -/
theorem finds_or (S : Nat → Bool) (M order : Nat) : (∃ k f, Finds S M order k f) ∨ ∀ k, order ≤ k → k ≤ 9 → runsL S M k = [] := by
  by_cases h : ∀ k, order ≤ k → k ≤ 9 → runsL S M k = []
  · exact .inr h
  · refine .inl ?_
    have key : ∀ n k, k + n = 10 → order ≤ k → (∀ i, order ≤ i → i < k → runsL S M i = []) → ∃ k f, Finds S M order k f := by
      intro n
      induction n with
      | zero => intro k hk _ hl; exact absurd (fun i h1 h2 => hl i h1 (by omega)) h
      | succ n ih =>
        intro k hk ho hl
        cases hr : runsL S M k with
        | nil => exact ih (k + 1) (by omega) (by omega) (fun i h1 h2 => by
            rcases Nat.lt_or_ge i k with h3 | h3
            · exact hl i h1 h3
            · rw [show i = k by omega]; exact hr)
        | cons f t => exact ⟨k, f, ho, by omega, hl, t, hr⟩
    by_cases ho : order ≤ 10
    · exact key (10 - order) order (by omega) (Nat.le_refl _) (fun i h1 h2 => by omega)
    · exact absurd (fun k h1 h2 => by omega) h
/-- One frame: none is found if and only if none is free. -/
theorem none_iff {S : Nat → Bool} {M : Nat} (hM : ∀ x, S x = true → x < M) : (∀ k, 0 ≤ k → k ≤ 9 → runsL S M k = []) ↔ cntS S M = 0 := by
  rw [cntS_zero]
  constructor
  · intro h x hx
    rw [Bool.eq_false_iff]; intro hS
    exact none_from (o := 0) (q := x) h hM (by omega) (fun y hy => by simp at hy; rw [hy]; exact hS)
  · intro h k _ _
    refine List.eq_nil_iff_forall_not_mem.2 (fun f hf => ?_)
    obtain ⟨q, -, hr, -⟩ := mem_runsL.1 hf
    have h1 := hr.1 (q * 2 ^ k) (first_in k q)
    rw [h _ (hM _ h1)] at h1; cases h1
end Go.Proofs.Ytnmccihgiphmjaa
namespace Go.Proofs.Ytnmccihgiphmjaa
set_option linter.unusedVariables false
set_option linter.unusedSimpArgs false
open Go.RowKit
end Go.Proofs.Ytnmccihgiphmjaa
namespace Go.Proofs.Ytnmccihgiphmjaa
set_option linter.unusedVariables false
set_option linter.unusedSimpArgs false
open Go.RowKit
/-- A buddy's cells. -/
def budCells (first en : Nat) (ad : Nat → Option Addr) (cp : Nat → Nat) (R : Nat → List Nat) (free : Nat) : List Value :=
  .int .i64 (first : Nat) :: .int .i64 (en : Nat) :: ((List.range 10).map (fun k => Value.slice (ad k) (R k).length (cp k)) ++ [.int .i64 (free : Nat)])
def upd {α : Type} (f : Nat → α) (k : Nat) (v : α) : Nat → α := fun j => if j = k then v else f j
theorem upd_same {α : Type} (f : Nat → α) (k : Nat) (v : α) : upd f k v k = v := if_pos rfl
theorem upd_ne {α : Type} (f : Nat → α) {k j : Nat} (v : α) (h : j ≠ k) : upd f k v j = f j := if_neg h
theorem ten_cases {k : Nat} (h : k < 10) : k = 0 ∨ k = 1 ∨ k = 2 ∨ k = 3 ∨ k = 4 ∨ k = 5 ∨ k = 6 ∨ k = 7 ∨ k = 8 ∨ k = 9 := by omega
section
variable {first en free : Nat} {ad : Nat → Option Addr} {cp : Nat → Nat} {R : Nat → List Nat}
theorem budCells_row {k : Nat} (hk : k < 10) : (budCells first en ad cp R free)[2 + k]? = some (.slice (ad k) (R k).length (cp k)) := by
  rcases ten_cases hk with rfl | rfl | rfl | rfl | rfl | rfl | rfl | rfl | rfl | rfl <;> rfl
theorem budCells_set {k : Nat} (hk : k < 10) (a : Option Addr) (c : Nat) (l : List Nat) : (budCells first en ad cp R free).set (2 + k) (.slice a l.length c) = budCells first en (upd ad k a) (upd cp k c) (upd R k l) free := by
  rcases ten_cases hk with rfl | rfl | rfl | rfl | rfl | rfl | rfl | rfl | rfl | rfl <;> rfl
theorem budCells_free (f : Nat) : (budCells first en ad cp R free).set 12 (.int .i64 (f : Nat)) = budCells first en ad cp R f := rfl
end
/-- Block p holds a buddy with the rows R; O: its own blocks. -/
structure BudW (O : Nat → Prop) (w : World) (p first en free : Nat) (ad : Nat → Option Addr) (cp : Nat → Nat) (R : Nat → List Nat) : Prop where
  hp : w.heap[p]? = some (.cells (budCells first en ad cp R free).toArray 95)
  rows : ∀ k, k < 10 → RowI w (ad k) (cp k) (R k)
  own : O p
  rown : ∀ k b off, k < 10 → ad k = some ⟨b, off, none⟩ → O b ∧ b ≠ p
  apart : ∀ j k b o1 o2, j < 10 → k < 10 → j ≠ k → ad j = some ⟨b, o1, none⟩ → ad k = some ⟨b, o2, none⟩ → False
  lt : ∀ b, O b → b < w.heap.size
  bnd : first ≤ 1048576 ∧ en ≤ 1048576
def BudA (p first en free : Nat) (R : Nat → List Nat) : Asn := fun O w => ∃ ad cp, BudW O w p first en free ad cp R
section
variable {O G : Nat → Prop} {w x y : World} {p first en free : Nat} {ad : Nat → Option Addr} {cp : Nat → Nat} {R : Nat → List Nat}
theorem budW_only (h : BudW O w p first en free ad cp R) (ho : Only G w x) (hG : ∀ b, O b → ¬ G b) : BudW O x p first en free ad cp R :=
  { h with
    hp := keep_only ho (hG p h.own) h.hp
    rows := fun k hk => rowI_only (h.rows k hk) ho (fun b off e => hG b (h.rown k b off hk e).1)
    lt := fun b hb => Nat.lt_of_lt_of_le (h.lt b hb) ho.size }
theorem budW_old (h : BudW O w p first en free ad cp R) (ho : Old w x) : BudW O x p first en free ad cp R := budW_only h (Only.of_below ho) (fun _ _ f => f)
theorem loc_bud (p first en free : Nat) (R : Nat → List Nat) : Loc (BudA p first en free R) :=
  ⟨fun ⟨_, _, h⟩ hb => h.lt _ hb, fun ⟨ad, cp, h⟩ ho hG => ⟨ad, cp, budW_only h ho hG⟩⟩
theorem bud_cell (h : BudW O w p first en free ad cp R) {k : Nat} (hk : k < 10) : w.cell? ⟨p, 2 + k, none⟩ = some (.slice (ad k) (R k).length (cp k)) := by
  rw [cell_of h.hp, List.getElem?_toArray, budCells_row hk]
theorem bud_first (h : BudW O w p first en free ad cp R) : w.cell? ⟨p, 0, none⟩ = some (.int .i64 (first : Nat)) ∧ w.cell? ⟨p, 1, none⟩ = some (.int .i64 (en : Nat)) ∧ w.cell? ⟨p, 12, none⟩ = some (.int .i64 (free : Nat)) := by
  refine ⟨?_, ?_, ?_⟩ <;> rw [cell_of h.hp] <;> rfl
/-- A row is another one. -/
theorem bud_set (h : BudW O w p first en free ad cp R) {k : Nat} (hk : k < 10) {a : Option Addr} {c : Nat} {l : List Nat} (hx : x.heap[p]? = some (.cells (budCells first en ad cp R free).toArray 95)) (ho : Only (fun z => ad k = some ⟨z, 0, none⟩) w x) (hr : RowI x a c l)
    (hf : ∀ z off, a = some ⟨z, off, none⟩ → ad k = some ⟨z, 0, none⟩ ∨ w.heap.size ≤ z) :
    ∃ O', BudW O' (x.setCell ⟨p, 2 + k, none⟩ (.slice a l.length c)) p first en free (upd ad k a) (upd cp k c) (upd R k l) ∧ (∀ b, O' b → O b ∨ w.heap.size ≤ b) ∧ Only O w (x.setCell ⟨p, 2 + k, none⟩ (.slice a l.length c)) := by
  have hpw := lt_of_block h.hp
  have hap : ∀ z off, a = some ⟨z, off, none⟩ → z ≠ p := fun z off e => by
    rcases hf z off e with h' | h'
    · exact (h.rown k z 0 hk h').2
    · omega
  have hset : Only (fun z => z = p) x (x.setCell ⟨p, 2 + k, none⟩ (.slice a l.length c)) := (Only.refl _ _).setCell _ _ fun _ => rfl
  have hO : Only O w (x.setCell ⟨p, 2 + k, none⟩ (.slice a l.length c)) :=
    (ho.mono fun b _ e => (h.rown k b 0 hk e).1).trans (hset.mono fun b _ e => by rw [e]; exact h.own)
  refine ⟨fun b => O b ∨ ∃ off, a = some ⟨b, off, none⟩, ⟨?_, fun j hj => ?_, .inl h.own, fun j b off hj e => ?_, fun i j b o1 o2 hi hj hij e1 e2 => ?_, fun b hb => ?_, h.bnd⟩, fun b hb => ?_, hO⟩
  · rw [set_of hx, ← budCells_set hk]
    have := putB_same (w := x) (b := p) (.cells ((budCells first en ad cp R free).toArray.setIfInBounds (2 + k) (.slice a l.length c)) 95) (lt_of_block hx)
    rw [this]
    simp
  · by_cases hjk : j = k
    · subst hjk
      rw [upd_same, upd_same, upd_same]
      exact rowI_only hr hset (fun b off e f => hap b off e f)
    · rw [upd_ne _ _ hjk, upd_ne _ _ hjk, upd_ne _ _ hjk]
      refine rowI_only (rowI_only (h.rows j hj) ho (fun b off e e' => h.apart j k b off 0 hj hk hjk e e')) hset (fun b off e f => (h.rown j b off hj e).2 f)
  · by_cases hjk : j = k
    · subst hjk
      rw [upd_same] at e
      exact ⟨.inr ⟨off, e⟩, hap b off e⟩
    · rw [upd_ne _ _ hjk] at e
      exact ⟨.inl (h.rown j b off hj e).1, (h.rown j b off hj e).2⟩
  · have key : ∀ m, m < 10 → m ≠ k → ∀ o o', ad m = some ⟨b, o, none⟩ → a = some ⟨b, o', none⟩ → False := fun m hm hmk o o' e e' => by
      rcases hf b o' e' with h' | h'
      · exact h.apart m k b o 0 hm hk hmk e h'
      · have := (h.lt b (h.rown m b o hm e).1); omega
    by_cases hik : i = k
    · subst hik
      rw [upd_same] at e1
      rw [upd_ne _ _ (Ne.symm hij)] at e2
      exact key j hj (Ne.symm hij) o2 o1 e2 e1
    · rw [upd_ne _ _ hik] at e1
      by_cases hjk : j = k
      · subst hjk
        rw [upd_same] at e2
        exact key i hi hik o1 o2 e1 e2
      · rw [upd_ne _ _ hjk] at e2
        exact h.apart i j b o1 o2 hi hj hij e1 e2
  · rcases hb with hb | ⟨off, e⟩
    · exact Nat.lt_of_lt_of_le (h.lt b hb) hO.size
    · exact Nat.lt_of_lt_of_le (rowI_lt hr e).1 hset.size
  · rcases hb with hb | ⟨off, e⟩
    · exact .inl hb
    · rcases hf b off e with h' | h'
      · exact .inl (h.rown k b 0 hk h').1
      · exact .inr h'
theorem bud_free_put (h : BudW O w p first en free ad cp R) (f : Nat) : BudW O (w.setCell ⟨p, 12, none⟩ (.int .i64 (f : Nat))) p first en f ad cp R ∧ Only O w (w.setCell ⟨p, 12, none⟩ (.int .i64 (f : Nat))) := by
  have hset : Only (fun z => z = p) w (w.setCell ⟨p, 12, none⟩ (.int .i64 (f : Nat))) := (Only.refl _ _).setCell _ _ fun _ => rfl
  refine ⟨{ h with hp := ?_, rows := fun k hk => rowI_only (h.rows k hk) hset (fun b off e f => (h.rown k b off hk e).2 f), lt := fun b hb => Nat.lt_of_lt_of_le (h.lt b hb) hset.size }, hset.mono fun b _ e => by rw [e]; exact h.own⟩
  rw [set_of h.hp, putB_same (w := w) (b := p) _ (lt_of_block h.hp), List.setIfInBounds_toArray, budCells_free]
theorem budFree_calls (h : BudW O w p first en free ad cp R) : Calls Try.prog 33 #[.pointer (some ⟨p, 0, none⟩)] w (RetB w (.int .i64 (free : Nat))) := by
  obtain ⟨c0, c1, c12⟩ := bud_first h
  clear h
  go_enter Try.func33, Try.ntmps33
  go_wp2
  go_ret
  exact ⟨rfl, old_refl _⟩
end
end Go.Proofs.Ytnmccihgiphmjaa
