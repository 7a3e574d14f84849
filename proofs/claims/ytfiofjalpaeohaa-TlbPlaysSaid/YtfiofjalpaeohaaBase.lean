/- Words and small laws that all contracts of this seat use: no function of the program stands here. -/
import Derived.Test.YtfiofjalpaeohaaProg
import Derived.WalkKit
import Derived.WalkSpells
import Derived.WalkLawsBesides
import Derived.Handy
import Derived.Lib.Hide
import Derived.Lib.SlBytesConst
import Derived.Deep.RegionHeld3
import Derived.BigQuiet
import Derived.Deep.QuietTactic
import Derived.Deep.DeepCutAuto
import Derived.Maps.OwnOps
namespace Go.Proofs.Ytfiofjalpaeohaa
set_option linter.unusedVariables false
set_option linter.unusedSimpArgs false
open Go.RowKit

/-- A call that returns v and leaves all that was there as it was. -/
def RetB (w : World) (v : Value) (e : Ending) (w' : World) : Prop := e = .returned v ∧ Below w.heap.size w w'

/-- A constant text made into bytes: the block's number given by an equation. -/
theorem run_const_bytes {P : Program} (t e : TypeId) (ht : P.underlying t = some (.slice e)) (he : P.underlying e = some (.int .u8))
    (w : World) (C : Array Value) (n c b : Nat) (hb : b = w.heap.size) :
    (convert t t (.slice (some ⟨b, 0, none⟩) n c)).run P (w.alloc (.cells C e)) = .ok (.slice (some ⟨b, 0, none⟩) n c) (w.alloc (.cells C e (C.size, C.size + 1))) := by
  subst hb
  exact Lib.run_convert_bytes_const w t e C n c ht he

theorem cell_mark_at {w : World} (c : Array Value) (t : TypeId) (fr : Nat × Nat) (n i : Nat) (hn : n = w.heap.size) : (w.alloc (.cells c t fr)).cell? ⟨n, i, none⟩ = c[i]? := by
  subst hn
  exact World.cell?_alloc_mark w c t fr i

theorem frozen_mark_at {w : World} (c : Array Value) (t : TypeId) (lo hi n i : Nat) (hn : n = w.heap.size) :
    (w.alloc (.cells c t (lo, hi))).frozen? ⟨n, i, none⟩ = (decide (lo ≤ i) && decide (i < hi)) := by
  subst hn
  exact World.frozen?_alloc_mark w c t lo hi i

theorem setCell_mark_at {w : World} (c : Array Value) (t : TypeId) (fr : Nat × Nat) (n i : Nat) (v : Value) (hn : n = w.heap.size) :
    (w.alloc (.cells c t fr)).setCell ⟨n, i, none⟩ v = w.alloc (.cells (c.setIfInBounds i v) t fr) := by
  subst hn
  unfold World.setCell World.alloc
  congr 1
  apply Array.ext_getElem?
  intro k
  simp only [Array.getElem?_modify, Array.getElem?_push]
  by_cases hk : k = w.heap.size
  · subst hk
    simp
  · simp [hk]
    omega

/-- Three bytes of a new block made into a text. -/
theorem run_three_string {P : Program} (src dst e : TypeId) (hs : P.underlying src = some (.slice e)) (he : P.underlying e = some (.int .u8)) (hd : P.underlying dst = some .string)
    (w : World) (x0 x1 x2 : Int) (fr : Nat × Nat) (b cap : Nat) (hb : b = w.heap.size) :
    (convert src dst (.slice (some ⟨b, 0, none⟩) 3 cap)).run P (w.alloc (.cells #[.int .u8 x0, .int .u8 x1, .int .u8 x2] e fr)) =
      .ok (.string (strOfNums [x0, x1, x2])) (w.alloc (.cells #[.int .u8 x0, .int .u8 x1, .int .u8 x2] e fr)) := by
  refine run_convert_bytes_arg _ src e hs he b 0 3 cap [x0, x1, x2] rfl ?_ dst hd
  intro i hi
  rw [Nat.zero_add, cell_mark_at _ _ _ _ _ hb]
  match i, hi with
  | 0, _ => rfl
  | 1, _ => rfl
  | 2, _ => rfl

/-! Structs held against each other, field by field. -/

section
variable {P : Program} {w : World} {d : Nat} {xs ys : Array Value} {f : Field} {fs : List Field} {a b : Value} {r s : Bool}

theorem same_nil : (Op.eqFields d xs ys []).run P w = .ok true w := by simp [Op.eqFields, Sem.run_pure]

theorem same_cons (hn : (f.name == "_") = false) (ha : (part f.type xs f.offset).run P w = .ok a w) (hb : (part f.type ys f.offset).run P w = .ok b w)
    (he : (Op.equalIn d f.type a b).run P w = .ok r w) (hr : (Op.eqFields d xs ys fs).run P w = .ok s w) : (Op.eqFields d xs ys (f :: fs)).run P w = .ok (r && s) w := by
  rw [Op.eqFields, if_pos (show f.name ≠ "_" by simpa using hn)]
  simp only [Sem.run_bind, ha, Result.andThen_ok, hb, he]
  cases r with
  | false => simp [Sem.run_pure]
  | true => simpa using hr

theorem same_struct {t : TypeId} {fa : Array Field} (hu : P.underlying t = some (.struct fa)) (hp : P.stoodInHeld t = false) (h : (Op.eqFields d xs ys fa.toList).run P w = .ok r w) :
    (Op.equalIn (d + 1) t (.agg xs) (.agg ys)).run P w = .ok r w := by
  have hf : P.fieldsOf t = fa := by simp [Program.fieldsOf, hu]
  rw [run_equalIn_struct (P := P) w d t xs ys (by rw [hf]; exact hu) hp, hf]
  exact h
end

/-! Blocks known whole. -/

/-- The world with another block in b's place. -/
def putB (w : World) (b : Nat) (o : Obj) : World := { w with heap := w.heap.setIfInBounds b o }

theorem cell_of {w : World} {b : Nat} {C : Array Value} {t : TypeId} {fr : Nat × Nat} (h : w.heap[b]? = some (.cells C t fr)) (i : Nat) : w.cell? ⟨b, i, none⟩ = C[i]? := by
  simp [World.cell?, h]

theorem frozen_of {w : World} {b : Nat} {C : Array Value} {t : TypeId} (h : w.heap[b]? = some (.cells C t)) (i : Nat) : w.frozen? ⟨b, i, none⟩ = false := by
  simp [World.frozen?, h]

theorem modify_eq_set (a : Array Obj) (b : Nat) (f : Obj → Obj) (o : Obj) (h : a[b]? = some o) : a.modify b f = a.setIfInBounds b (f o) := by
  apply Array.ext_getElem?
  intro k
  simp only [Array.getElem?_modify, Array.getElem?_setIfInBounds]
  by_cases hk : b = k
  · subst hk
    have hb : b < a.size := by
      rcases Nat.lt_or_ge b a.size with h' | h'
      · exact h'
      · simp [Array.getElem?_eq_none h'] at h
    have e : a[b] = o := by simpa [Array.getElem?_eq_getElem hb] using h
    simp [hb, e]
  · simp [hk]

theorem set_of {w : World} {b : Nat} {C : Array Value} {t : TypeId} {fr : Nat × Nat} (h : w.heap[b]? = some (.cells C t fr)) (i : Nat) (v : Value) :
    w.setCell ⟨b, i, none⟩ v = putB w b (.cells (C.setIfInBounds i v) t fr) := by
  unfold World.setCell putB
  rw [modify_eq_set _ _ _ _ h]
  simp

theorem lt_of_block {w : World} {b : Nat} {o : Obj} (h : w.heap[b]? = some o) : b < w.heap.size := by
  rcases Nat.lt_or_ge b w.heap.size with h' | h'
  · exact h'
  · simp [Array.getElem?_eq_none h'] at h

theorem putB_size (w : World) (b : Nat) (o : Obj) : (putB w b o).heap.size = w.heap.size := by simp [putB]

theorem putB_same {w : World} {b : Nat} (o : Obj) (hb : b < w.heap.size) : (putB w b o).heap[b]? = some o := by simp [putB, hb]

theorem putB_other {w : World} {b k : Nat} (o : Obj) (hk : b ≠ k) : (putB w b o).heap[k]? = w.heap[k]? := by simp [putB, Array.getElem?_setIfInBounds, hk]

theorem putB_cell_same {w : World} {b : Nat} (C : Array Value) (t : TypeId) (fr : Nat × Nat) (i : Nat) (hb : b < w.heap.size) : (putB w b (.cells C t fr)).cell? ⟨b, i, none⟩ = C[i]? :=
  cell_of (putB_same _ hb) i

theorem putB_cell_other {w : World} {b k : Nat} (o : Obj) (i : Nat) (hk : b ≠ k) : (putB w b o).cell? ⟨k, i, none⟩ = w.cell? ⟨k, i, none⟩ := by
  simp [World.cell?, putB_other o hk]

theorem putB_frozen_same {w : World} {b : Nat} (C : Array Value) (t : TypeId) (i : Nat) (hb : b < w.heap.size) : (putB w b (.cells C t)).frozen? ⟨b, i, none⟩ = false :=
  frozen_of (putB_same _ hb) i

theorem putB_frozen_other {w : World} {b k : Nat} (o : Obj) (i : Nat) (hk : b ≠ k) : (putB w b o).frozen? ⟨k, i, none⟩ = w.frozen? ⟨k, i, none⟩ := by
  simp [World.frozen?, putB_other o hk]

theorem putB_putB (w : World) (b : Nat) (o o' : Obj) : putB (putB w b o) b o' = putB w b o' := by simp [putB]

theorem putB_set_same {w : World} {b : Nat} (C : Array Value) (t : TypeId) (fr : Nat × Nat) (i : Nat) (v : Value) (hb : b < w.heap.size) :
    (putB w b (.cells C t fr)).setCell ⟨b, i, none⟩ v = putB w b (.cells (C.setIfInBounds i v) t fr) := by
  rw [set_of (putB_same _ hb), putB_putB]

theorem putB_set_other {w : World} {b k : Nat} (o : Obj) (i : Nat) (v : Value) (hk : b ≠ k) : (putB w b o).setCell ⟨k, i, none⟩ v = putB (w.setCell ⟨k, i, none⟩ v) b o := by
  unfold putB World.setCell
  congr 1
  apply Array.ext_getElem?
  intro j
  simp only [Array.getElem?_modify, Array.getElem?_setIfInBounds, Array.size_modify]
  by_cases h1 : k = j
  · subst h1
    simp [hk]
  · by_cases h2 : b = j
    · subst h2; simp [h1]
    · simp [h1, h2]

theorem putB_drew (w : World) (b : Nat) (o : Obj) : putB w.drew b o = (putB w b o).drew := rfl

/-- What was there, but for the blocks of F, is as it was. -/
structure Only (F : Nat → Prop) (w w' : World) : Prop where
  os : w'.os = w.os
  tape : w'.tape = w.tape
  output : w'.output = w.output
  size : w.heap.size ≤ w'.heap.size
  block : ∀ k, k < w.heap.size → ¬ F k → w'.heap[k]? = w.heap[k]?

theorem Only.refl (F : Nat → Prop) (w : World) : Only F w w := ⟨rfl, rfl, rfl, Nat.le_refl _, fun _ _ _ => rfl⟩

theorem Only.trans {F : Nat → Prop} {a b c : World} (h : Only F a b) (k : Only F b c) : Only F a c :=
  ⟨k.os.trans h.os, k.tape.trans h.tape, k.output.trans h.output, Nat.le_trans h.size k.size, fun i hi hF => (k.block i (Nat.lt_of_lt_of_le hi h.size) hF).trans (h.block i hi hF)⟩

/-- A step that turns old blocks of F, or what was made since. -/
theorem Only.step {F G : Nat → Prop} {a b c : World} (h : Only F a b) (k : Only G b c) (hG : ∀ i, i < a.heap.size → G i → F i) : Only F a c :=
  ⟨k.os.trans h.os, k.tape.trans h.tape, k.output.trans h.output, Nat.le_trans h.size k.size,
    fun i hi hF => (k.block i (Nat.lt_of_lt_of_le hi h.size) (fun g => hF (hG i hi g))).trans (h.block i hi hF)⟩

theorem Only.mono {F G : Nat → Prop} {w w' : World} (h : Only F w w') (hG : ∀ i, i < w.heap.size → F i → G i) : Only G w w' :=
  ⟨h.os, h.tape, h.output, h.size, fun i hi hF => h.block i hi (fun f => hF (hG i hi f))⟩

theorem Only.drew {F : Nat → Prop} {a w : World} (h : Only F a w) : Only F a w.drew := ⟨h.os, h.tape, h.output, h.size, h.block⟩

theorem Only.drewN {F : Nat → Prop} {a w : World} (h : Only F a w) (n : Nat) : Only F a (w.drewN n) := ⟨h.os, h.tape, h.output, h.size, h.block⟩

theorem Only.alloc {F : Nat → Prop} {a w : World} (h : Only F a w) (o : Obj) : Only F a (w.alloc o) :=
  ⟨h.os, h.tape, h.output, by have := h.size; simp; omega, fun i hi hF => by
    rw [Below.heap_alloc _ _ _ (Nat.lt_of_lt_of_le hi h.size)]; exact h.block i hi hF⟩

theorem Only.putB {F : Nat → Prop} {a w : World} (h : Only F a w) {b : Nat} (o : Obj) (hb : b < a.heap.size → F b) : Only F a (putB w b o) :=
  ⟨h.os, h.tape, h.output, by rw [putB_size]; exact h.size, fun i hi hF => by
    by_cases hbi : b = i
    · subst hbi; exact absurd (hb hi) hF
    · rw [putB_other _ hbi]; exact h.block i hi hF⟩

theorem Only.setCell {F : Nat → Prop} {a w : World} (h : Only F a w) (p : Addr) (v : Value) (hb : p.block < a.heap.size → F p.block) : Only F a (w.setCell p v) :=
  ⟨h.os, h.tape, h.output, by have := h.size; simpa [World.setCell] using this, fun i hi hF => by
    by_cases hbi : p.block = i
    · subst hbi; exact absurd (hb hi) hF
    · rw [Below.heap_setCell _ _ _ _ (fun e => hbi e.symm)]; exact h.block i hi hF⟩

/-- Nothing that was there has turned. -/
abbrev Nothing : Nat → Prop := fun _ => False

theorem Only.below {w w' : World} {B : Nat} (h : Only (fun k => B ≤ k) w w') (hB : B ≤ w.heap.size) : Below B w w' :=
  ⟨h.os, h.tape, h.output, h.size, fun k hk => h.block k (by omega) (by omega)⟩

theorem Only.of_below {w w' : World} (h : Below w.heap.size w w') : Only Nothing w w' := ⟨h.os, h.tape, h.output, h.size, fun k hk _ => h.block k hk⟩

theorem Only.to_below {w w' : World} (h : Only Nothing w w') : Below w.heap.size w w' := ⟨h.os, h.tape, h.output, h.size, fun k hk => h.block k hk (fun f => f)⟩

theorem Only.cell {F : Nat → Prop} {w w' : World} (h : Only F w w') (b i : Nat) (hb : b < w.heap.size) (hF : ¬ F b) : w'.cell? ⟨b, i, none⟩ = w.cell? ⟨b, i, none⟩ :=
  World.cell?_of_block (w := w) (h.block b hb hF)

theorem Only.frozen {F : Nat → Prop} {w w' : World} (h : Only F w w') (b i : Nat) (hb : b < w.heap.size) (hF : ¬ F b) : w'.frozen? ⟨b, i, none⟩ = w.frozen? ⟨b, i, none⟩ :=
  World.frozen?_of_block (w := w) (h.block b hb hF)

/-- Of a call that turned nothing: each old cell and mark reads as it did. -/
theorem reads_below {w w' : World} (h : Below w.heap.size w w') :
    (∀ b o, b < w.heap.size → w'.cell? ⟨b, o, none⟩ = w.cell? ⟨b, o, none⟩) ∧ (∀ b o, b < w.heap.size → w'.frozen? ⟨b, o, none⟩ = w.frozen? ⟨b, o, none⟩) :=
  ⟨fun b o hb => h.cell (p := ⟨b, o, none⟩) hb, fun b o hb => h.frozen (p := ⟨b, o, none⟩) hb⟩

theorem alloc_heap_new (w : World) (o : Obj) (k : Nat) (hk : k = w.heap.size) : (w.alloc o).heap[k]? = some o := by
  subst hk
  show (w.heap.push o)[w.heap.size]? = _
  simp

theorem alloc_heap_old (w : World) (o : Obj) (k : Nat) (hk : k < w.heap.size) : (w.alloc o).heap[k]? = w.heap[k]? := Below.heap_alloc w o k hk

theorem below_putB {B : Nat} {a w : World} (h : Below B a w) {b : Nat} (o : Obj) (hb : B ≤ b) : Below B a (putB w b o) :=
  ⟨h.os, h.tape, h.output, by rw [putB_size]; exact h.size, fun k hk => by rw [putB_other _ (by omega)]; exact h.block k hk⟩

theorem str_beq (a b : ByteArray) : (a.toList == b.toList) = decide (a = b) := by
  rw [ByteArray.toList_eq, ByteArray.toList_eq]
  by_cases h : a = b
  · simp [h]
  · have : a.data.toList ≠ b.data.toList := fun e => h (ByteArray.ext (Array.toList_inj.1 e))
    rw [beq_eq_false_iff_ne.2 this, decide_eq_false h]

theorem str_eq {a b : ByteArray} (h : (a.toList == b.toList) = true) : a = b := by rw [str_beq] at h; exact of_decide_eq_true h
theorem str_ne {a b : ByteArray} (h : (a.toList == b.toList) = false) : a ≠ b := by rw [str_beq] at h; exact of_decide_eq_false h

/-- What was there when w was is as it was. -/
abbrev Old (w x : World) : Prop := Below w.heap.size w x
theorem old_refl (w : World) : Old w w := Below.refl _ _
theorem old_alloc {w x : World} (h : Old w x) (o : Obj) : Old w (x.alloc o) := h.alloc h.size o
theorem old_drew {w x : World} (h : Old w x) : Old w x.drew := h.drew
theorem old_put {w x : World} (h : Old w x) {b : Nat} (o : Obj) (hb : w.heap.size ≤ b) : Old w (putB x b o) := below_putB h o hb
theorem old_then {w x y : World} (h : Old w x) (hb : Old x y) : Old w y := h.trans (hb.mono h.size)
theorem keep_old {w x : World} {b : Nat} {o : Obj} (h : Old w x) (hb : w.heap[b]? = some o) : x.heap[b]? = some o := by
  rw [h.block b (lt_of_block hb)]; exact hb
theorem new_block (w : World) (o : Obj) : (w.alloc o).heap[w.heap.size]? = some o := alloc_heap_new _ _ _ rfl
/-- Three facts on a block: its cells, its marks, its number. -/
theorem of_block {w : World} {b : Nat} {C : Array Value} {t : TypeId} (h : w.heap[b]? = some (.cells C t)) :
    (∀ i, w.cell? ⟨b, i, none⟩ = C[i]?) ∧ (∀ i, w.frozen? ⟨b, i, none⟩ = false) ∧ b < w.heap.size := ⟨cell_of h, frozen_of h, lt_of_block h⟩

/-- Blocks of cells, known whole. -/
def Has (w : World) : List (Nat × Array Value × TypeId) → Prop
  | [] => True
  | x :: l => w.heap[x.1]? = some (.cells x.2.1 x.2.2) ∧ Has w l
/-- All that was there as it was, and these blocks. -/
def Holds (w0 : World) (l : List (Nat × Array Value × TypeId)) (w : World) : Prop := Old w0 w ∧ Has w l
theorem has_of {w x : World} : ∀ {l : List (Nat × Array Value × TypeId)}, (∀ (b : Nat) (o : Obj), w.heap[b]? = some o → x.heap[b]? = some o) → Has w l → Has x l
  | [], _, _ => trivial
  | _ :: _, h, hl => ⟨h _ _ hl.1, has_of h hl.2⟩
theorem has_old {w x : World} {l : List (Nat × Array Value × TypeId)} (h : Old w x) (hl : Has w l) : Has x l := has_of (fun _ _ hb => keep_old h hb) hl
theorem has_alloc {w : World} {l : List (Nat × Array Value × TypeId)} (o : Obj) (hl : Has w l) : Has (w.alloc o) l := has_old (old_alloc (old_refl w) o) hl
theorem has_new {w : World} {l : List (Nat × Array Value × TypeId)} (C : Array Value) (t : TypeId) (hl : Has w l) : Has (w.alloc (.cells C t)) ((w.heap.size, C, t) :: l) := ⟨new_block _ _, has_alloc _ hl⟩
theorem holds_drew {w0 w : World} {l : List (Nat × Array Value × TypeId)} (h : Holds w0 l w) : Holds w0 l w.drew := ⟨old_drew h.1, has_of (w := w) (x := w.drew) (fun _ _ hb => hb) h.2⟩
theorem holds_old {w0 w x : World} {l : List (Nat × Array Value × TypeId)} (h : Holds w0 l w) (hb : Old w x) : Holds w0 l x := ⟨old_then h.1 hb, has_old hb h.2⟩
theorem holds_new {w0 w : World} {l : List (Nat × Array Value × TypeId)} (C : Array Value) (t : TypeId) (h : Holds w0 l w) : Holds w0 ((w.heap.size, C, t) :: l) (w.alloc (.cells C t)) := ⟨old_alloc h.1 _, has_new C t h.2⟩
theorem holds_nil (w : World) : Holds w [] w := ⟨old_refl w, trivial⟩

/-- The cells of a block, all of them. -/
theorem cells_old {W x : World} (h : Old W x) {b : Nat} {C : Array Value} (hC : ∀ i, W.cell? ⟨b, i, none⟩ = C[i]?) (h0 : C[0]?.isSome = true) : ∀ i, x.cell? ⟨b, i, none⟩ = C[i]? := by
  intro i
  rw [← hC i]
  refine Below.cell (p := ⟨b, i, none⟩) h ?_
  show b < W.heap.size
  rcases Nat.lt_or_ge b W.heap.size with h' | h'
  · exact h'
  · rw [← hC 0] at h0
    simp [World.cell?, Array.getElem?_eq_none h'] at h0
theorem held2_old {W x : World} (h : Old W x) {b1 b2 : Nat} {C1 C2 : Array Value} (hS : (∀ i, W.cell? ⟨b1, i, none⟩ = C1[i]?) ∧ (∀ i, W.cell? ⟨b2, i, none⟩ = C2[i]?))
    (h1 : C1[0]?.isSome = true) (h2 : C2[0]?.isSome = true) : (∀ i, x.cell? ⟨b1, i, none⟩ = C1[i]?) ∧ (∀ i, x.cell? ⟨b2, i, none⟩ = C2[i]?) :=
  ⟨cells_old h hS.1 h1, cells_old h hS.2 h2⟩
theorem held3_old {W x : World} (h : Old W x) {b1 b2 b3 : Nat} {C1 C2 C3 : Array Value}
    (hS : (∀ i, W.cell? ⟨b1, i, none⟩ = C1[i]?) ∧ (∀ i, W.cell? ⟨b2, i, none⟩ = C2[i]?) ∧ (∀ i, W.cell? ⟨b3, i, none⟩ = C3[i]?))
    (h1 : C1[0]?.isSome = true) (h2 : C2[0]?.isSome = true) (h3 : C3[0]?.isSome = true) :
    (∀ i, x.cell? ⟨b1, i, none⟩ = C1[i]?) ∧ (∀ i, x.cell? ⟨b2, i, none⟩ = C2[i]?) ∧ (∀ i, x.cell? ⟨b3, i, none⟩ = C3[i]?) :=
  ⟨cells_old h hS.1 h1, held2_old h hS.2 h2 h3⟩
theorem held4_old {W x : World} (h : Old W x) {b1 b2 b3 b4 : Nat} {C1 C2 C3 C4 : Array Value}
    (hS : (∀ i, W.cell? ⟨b1, i, none⟩ = C1[i]?) ∧ (∀ i, W.cell? ⟨b2, i, none⟩ = C2[i]?) ∧ (∀ i, W.cell? ⟨b3, i, none⟩ = C3[i]?) ∧ (∀ i, W.cell? ⟨b4, i, none⟩ = C4[i]?))
    (h1 : C1[0]?.isSome = true) (h2 : C2[0]?.isSome = true) (h3 : C3[0]?.isSome = true) (h4 : C4[0]?.isSome = true) :
    (∀ i, x.cell? ⟨b1, i, none⟩ = C1[i]?) ∧ (∀ i, x.cell? ⟨b2, i, none⟩ = C2[i]?) ∧ (∀ i, x.cell? ⟨b3, i, none⟩ = C3[i]?) ∧ (∀ i, x.cell? ⟨b4, i, none⟩ = C4[i]?) :=
  ⟨cells_old h hS.1 h1, held3_old h hS.2 h2 h3 h4⟩
theorem held5_old {W x : World} (h : Old W x) {b1 b2 b3 b4 b5 : Nat} {C1 C2 C3 C4 C5 : Array Value}
    (hS : (∀ i, W.cell? ⟨b1, i, none⟩ = C1[i]?) ∧ (∀ i, W.cell? ⟨b2, i, none⟩ = C2[i]?) ∧ (∀ i, W.cell? ⟨b3, i, none⟩ = C3[i]?) ∧ (∀ i, W.cell? ⟨b4, i, none⟩ = C4[i]?) ∧ (∀ i, W.cell? ⟨b5, i, none⟩ = C5[i]?))
    (h1 : C1[0]?.isSome = true) (h2 : C2[0]?.isSome = true) (h3 : C3[0]?.isSome = true) (h4 : C4[0]?.isSome = true) (h5 : C5[0]?.isSome = true) :
    (∀ i, x.cell? ⟨b1, i, none⟩ = C1[i]?) ∧ (∀ i, x.cell? ⟨b2, i, none⟩ = C2[i]?) ∧ (∀ i, x.cell? ⟨b3, i, none⟩ = C3[i]?) ∧ (∀ i, x.cell? ⟨b4, i, none⟩ = C4[i]?) ∧ (∀ i, x.cell? ⟨b5, i, none⟩ = C5[i]?) :=
  ⟨cells_old h hS.1 h1, held4_old h hS.2 h2 h3 h4 h5⟩

/-- A call behind what is made already. -/
theorem below_then {B : Nat} {w x y : World} (h : Below B w x) (hb : Below x.heap.size x y) (hB : B ≤ w.heap.size) : Below B w y :=
  h.trans (hb.mono (Nat.le_trans hB h.size))

theorem keep_below {w w' : World} {b : Nat} {o : Obj} (h : Below w.heap.size w w') (hb : w.heap[b]? = some o) : w'.heap[b]? = some o := by
  rw [h.block b (lt_of_block hb)]; exact hb

theorem keep_only {F : Nat → Prop} {w w' : World} {b : Nat} {o : Obj} (h : Only F w w') (hF : ¬ F b) (hb : w.heap[b]? = some o) : w'.heap[b]? = some o := by
  rw [h.block b (lt_of_block hb) hF]; exact hb

theorem keep_alloc {w : World} {b : Nat} {o : Obj} (o' : Obj) (hb : w.heap[b]? = some o) : (w.alloc o').heap[b]? = some o := by
  rw [alloc_heap_old _ _ _ (lt_of_block hb)]; exact hb

end Go.Proofs.Ytfiofjalpaeohaa
