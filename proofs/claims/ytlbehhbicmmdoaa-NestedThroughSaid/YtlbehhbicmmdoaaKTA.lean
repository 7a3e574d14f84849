/- Texts on the way to the statement NestedThrough, several in one file: each part says what it is. -/
import Derived.Test.YtlbehhbicmmdoaaProg
import Derived.Test.YtlbehhbicmmdoaaRows
import Derived.WalkKit
import Derived.WalkSpells
import Derived.WalkLawsBesides
import Derived.Handy
import Derived.Lib.Hide
import Derived.Lib.SlBytesConst
import Derived.Deep.RegionHeld3
import Derived.BigQuiet
import Derived.Deep.QuietTactic
import Derived.Deep.DeepCutAuto
import Derived.Maps.OwnOps
import Derived.ProofKit
import Derived.OpenShut
import Derived.Lib.SmallJoins
import Derived.Laws.Bits64b
import Derived.Deep.Slices
import Derived.Deep.SlicePairs
import Derived.Deep.Fields
import Derived.Laws.OwnMore
import Derived.Laws.AppendOwnNone
import Derived.Laws.IdiomStrings
import Derived.ChangeSlices
namespace Go.Proofs.Ytlbehhbicmmdoaa
set_option linter.unusedVariables false
set_option linter.unusedSimpArgs false
open Go.RowKit
/-- A call that returns v and leaves all that was there as it was. -/
def RetB (w : World) (v : Value) (e : Ending) (w' : World) : Prop := e = .returned v ∧ Below w.heap.size w w'
theorem cell_mark_at {w : World} (c : Array Value) (t : TypeId) (fr : Nat × Nat) (n i : Nat) (hn : n = w.heap.size) : (w.alloc (.cells c t fr)).cell? ⟨n, i, none⟩ = c[i]? := by
  subst hn
  exact World.cell?_alloc_mark w c t fr i
theorem frozen_mark_at {w : World} (c : Array Value) (t : TypeId) (lo hi n i : Nat) (hn : n = w.heap.size) :
    (w.alloc (.cells c t (lo, hi))).frozen? ⟨n, i, none⟩ = (decide (lo ≤ i) && decide (i < hi)) := by
  subst hn
  exact World.frozen?_alloc_mark w c t lo hi i
theorem setCell_mark_at {w : World} (c : Array Value) (t : TypeId) (fr : Nat × Nat) (n i : Nat) (v : Value) (hn : n = w.heap.size) :
    (w.alloc (.cells c t fr)).setCell ⟨n, i, none⟩ v = w.alloc (.cells (c.setIfInBounds i v) t fr) := by
  subst hn
  unfold World.setCell World.alloc
  congr 1
  apply Array.ext_getElem?
  intro k
  simp only [Array.getElem?_modify, Array.getElem?_push]
  by_cases hk : k = w.heap.size
  · subst hk
    simp
  · simp [hk]
    omega
/-! Structs held against each other, field by field. -/
section
variable {P : Program} {w : World} {d : Nat} {xs ys : Array Value} {f : Field} {fs : List Field} {a b : Value} {r s : Bool}
theorem same_nil : (Op.eqFields d xs ys []).run P w = .ok true w := by simp [Op.eqFields, Sem.run_pure]
theorem same_cons (hn : (f.name == "_") = false) (ha : (part f.type xs f.offset).run P w = .ok a w) (hb : (part f.type ys f.offset).run P w = .ok b w)
    (he : (Op.equalIn d f.type a b).run P w = .ok r w) (hr : (Op.eqFields d xs ys fs).run P w = .ok s w) : (Op.eqFields d xs ys (f :: fs)).run P w = .ok (r && s) w := by
  rw [Op.eqFields, if_pos (show f.name ≠ "_" by simpa using hn)]
  simp only [Sem.run_bind, ha, Result.andThen_ok, hb, he]
  cases r with
  | false => simp [Sem.run_pure]
  | true => simpa using hr
theorem same_struct {t : TypeId} {fa : Array Field} (hu : P.underlying t = some (.struct fa)) (hp : P.stoodInHeld t = false) (h : (Op.eqFields d xs ys fa.toList).run P w = .ok r w) :
    (Op.equalIn (d + 1) t (.agg xs) (.agg ys)).run P w = .ok r w := by
  have hf : P.fieldsOf t = fa := by simp [Program.fieldsOf, hu]
  rw [run_equalIn_struct (P := P) w d t xs ys (by rw [hf]; exact hu) hp, hf]
  exact h
end
/-! Blocks known whole. -/
/-- The world with another block in b's place. -/
def putB (w : World) (b : Nat) (o : Obj) : World := { w with heap := w.heap.setIfInBounds b o }
theorem cell_of {w : World} {b : Nat} {C : Array Value} {t : TypeId} {fr : Nat × Nat} (h : w.heap[b]? = some (.cells C t fr)) (i : Nat) : w.cell? ⟨b, i, none⟩ = C[i]? := by
  simp [World.cell?, h]
theorem frozen_of {w : World} {b : Nat} {C : Array Value} {t : TypeId} (h : w.heap[b]? = some (.cells C t)) (i : Nat) : w.frozen? ⟨b, i, none⟩ = false := by
  simp [World.frozen?, h]
theorem modify_eq_set (a : Array Obj) (b : Nat) (f : Obj → Obj) (o : Obj) (h : a[b]? = some o) : a.modify b f = a.setIfInBounds b (f o) := by
  apply Array.ext_getElem?
  intro k
  simp only [Array.getElem?_modify, Array.getElem?_setIfInBounds]
  by_cases hk : b = k
  · subst hk
    have hb : b < a.size := by
      rcases Nat.lt_or_ge b a.size with h' | h'
      · exact h'
      · simp [Array.getElem?_eq_none h'] at h
    have e : a[b] = o := by simpa [Array.getElem?_eq_getElem hb] using h
    simp [hb, e]
  · simp [hk]
theorem set_of {w : World} {b : Nat} {C : Array Value} {t : TypeId} {fr : Nat × Nat} (h : w.heap[b]? = some (.cells C t fr)) (i : Nat) (v : Value) :
    w.setCell ⟨b, i, none⟩ v = putB w b (.cells (C.setIfInBounds i v) t fr) := by
  unfold World.setCell putB
  rw [modify_eq_set _ _ _ _ h]
  simp
theorem lt_of_block {w : World} {b : Nat} {o : Obj} (h : w.heap[b]? = some o) : b < w.heap.size := by
  rcases Nat.lt_or_ge b w.heap.size with h' | h'
  · exact h'
  · simp [Array.getElem?_eq_none h'] at h
theorem putB_size (w : World) (b : Nat) (o : Obj) : (putB w b o).heap.size = w.heap.size := by simp [putB]
theorem putB_same {w : World} {b : Nat} (o : Obj) (hb : b < w.heap.size) : (putB w b o).heap[b]? = some o := by simp [putB, hb]
theorem putB_other {w : World} {b k : Nat} (o : Obj) (hk : b ≠ k) : (putB w b o).heap[k]? = w.heap[k]? := by simp [putB, Array.getElem?_setIfInBounds, hk]
theorem putB_putB (w : World) (b : Nat) (o o' : Obj) : putB (putB w b o) b o' = putB w b o' := by simp [putB]
theorem putB_set_same {w : World} {b : Nat} (C : Array Value) (t : TypeId) (fr : Nat × Nat) (i : Nat) (v : Value) (hb : b < w.heap.size) :
    (putB w b (.cells C t fr)).setCell ⟨b, i, none⟩ v = putB w b (.cells (C.setIfInBounds i v) t fr) := by
  rw [set_of (putB_same _ hb), putB_putB]
/-- What was there, but for the blocks of F, is as it was. -/
structure Only (F : Nat → Prop) (w w' : World) : Prop where
  os : w'.os = w.os
  tape : w'.tape = w.tape
  output : w'.output = w.output
  size : w.heap.size ≤ w'.heap.size
  block : ∀ k, k < w.heap.size → ¬ F k → w'.heap[k]? = w.heap[k]?
theorem Only.refl (F : Nat → Prop) (w : World) : Only F w w := ⟨rfl, rfl, rfl, Nat.le_refl _, fun _ _ _ => rfl⟩
theorem Only.trans {F : Nat → Prop} {a b c : World} (h : Only F a b) (k : Only F b c) : Only F a c :=
  ⟨k.os.trans h.os, k.tape.trans h.tape, k.output.trans h.output, Nat.le_trans h.size k.size, fun i hi hF => (k.block i (Nat.lt_of_lt_of_le hi h.size) hF).trans (h.block i hi hF)⟩
/-- A step that turns old blocks of F, or what was made since. -/
theorem Only.step {F G : Nat → Prop} {a b c : World} (h : Only F a b) (k : Only G b c) (hG : ∀ i, i < a.heap.size → G i → F i) : Only F a c :=
  ⟨k.os.trans h.os, k.tape.trans h.tape, k.output.trans h.output, Nat.le_trans h.size k.size,
    fun i hi hF => (k.block i (Nat.lt_of_lt_of_le hi h.size) (fun g => hF (hG i hi g))).trans (h.block i hi hF)⟩
theorem Only.mono {F G : Nat → Prop} {w w' : World} (h : Only F w w') (hG : ∀ i, i < w.heap.size → F i → G i) : Only G w w' :=
  ⟨h.os, h.tape, h.output, h.size, fun i hi hF => h.block i hi (fun f => hF (hG i hi f))⟩
theorem Only.drew {F : Nat → Prop} {a w : World} (h : Only F a w) : Only F a w.drew := ⟨h.os, h.tape, h.output, h.size, h.block⟩
theorem Only.alloc {F : Nat → Prop} {a w : World} (h : Only F a w) (o : Obj) : Only F a (w.alloc o) :=
  ⟨h.os, h.tape, h.output, by have := h.size; simp; omega, fun i hi hF => by
    rw [Below.heap_alloc _ _ _ (Nat.lt_of_lt_of_le hi h.size)]; exact h.block i hi hF⟩
theorem Only.putB {F : Nat → Prop} {a w : World} (h : Only F a w) {b : Nat} (o : Obj) (hb : b < a.heap.size → F b) : Only F a (putB w b o) :=
  ⟨h.os, h.tape, h.output, by rw [putB_size]; exact h.size, fun i hi hF => by
    by_cases hbi : b = i
    · subst hbi; exact absurd (hb hi) hF
    · rw [putB_other _ hbi]; exact h.block i hi hF⟩
theorem Only.setCell {F : Nat → Prop} {a w : World} (h : Only F a w) (p : Addr) (v : Value) (hb : p.block < a.heap.size → F p.block) : Only F a (w.setCell p v) :=
  ⟨h.os, h.tape, h.output, by have := h.size; simpa [World.setCell] using this, fun i hi hF => by
    by_cases hbi : p.block = i
    · subst hbi; exact absurd (hb hi) hF
    · rw [Below.heap_setCell _ _ _ _ (fun e => hbi e.symm)]; exact h.block i hi hF⟩
/-- Nothing that was there has turned. -/
abbrev Nothing : Nat → Prop := fun _ => False
theorem Only.below {w w' : World} {B : Nat} (h : Only (fun k => B ≤ k) w w') (hB : B ≤ w.heap.size) : Below B w w' :=
  ⟨h.os, h.tape, h.output, h.size, fun k hk => h.block k (by omega) (by omega)⟩
theorem Only.of_below {w w' : World} (h : Below w.heap.size w w') : Only Nothing w w' := ⟨h.os, h.tape, h.output, h.size, fun k hk _ => h.block k hk⟩
theorem Only.to_below {w w' : World} (h : Only Nothing w w') : Below w.heap.size w w' := ⟨h.os, h.tape, h.output, h.size, fun k hk => h.block k hk (fun f => f)⟩
theorem Only.cell {F : Nat → Prop} {w w' : World} (h : Only F w w') (b i : Nat) (hb : b < w.heap.size) (hF : ¬ F b) : w'.cell? ⟨b, i, none⟩ = w.cell? ⟨b, i, none⟩ :=
  World.cell?_of_block (w := w) (h.block b hb hF)
theorem Only.frozen {F : Nat → Prop} {w w' : World} (h : Only F w w') (b i : Nat) (hb : b < w.heap.size) (hF : ¬ F b) : w'.frozen? ⟨b, i, none⟩ = w.frozen? ⟨b, i, none⟩ :=
  World.frozen?_of_block (w := w) (h.block b hb hF)
theorem alloc_heap_new (w : World) (o : Obj) (k : Nat) (hk : k = w.heap.size) : (w.alloc o).heap[k]? = some o := by
  subst hk
  show (w.heap.push o)[w.heap.size]? = _
  simp
theorem alloc_heap_old (w : World) (o : Obj) (k : Nat) (hk : k < w.heap.size) : (w.alloc o).heap[k]? = w.heap[k]? := Below.heap_alloc w o k hk
theorem below_putB {B : Nat} {a w : World} (h : Below B a w) {b : Nat} (o : Obj) (hb : B ≤ b) : Below B a (putB w b o) :=
  ⟨h.os, h.tape, h.output, by rw [putB_size]; exact h.size, fun k hk => by rw [putB_other _ (by omega)]; exact h.block k hk⟩
/-- What was there when w was is as it was. -/
abbrev Old (w x : World) : Prop := Below w.heap.size w x
theorem old_refl (w : World) : Old w w := Below.refl _ _
theorem old_alloc {w x : World} (h : Old w x) (o : Obj) : Old w (x.alloc o) := h.alloc h.size o
theorem old_drew {w x : World} (h : Old w x) : Old w x.drew := h.drew
theorem old_put {w x : World} (h : Old w x) {b : Nat} (o : Obj) (hb : w.heap.size ≤ b) : Old w (putB x b o) := below_putB h o hb
theorem old_then {w x y : World} (h : Old w x) (hb : Old x y) : Old w y := h.trans (hb.mono h.size)
theorem keep_old {w x : World} {b : Nat} {o : Obj} (h : Old w x) (hb : w.heap[b]? = some o) : x.heap[b]? = some o := by
  rw [h.block b (lt_of_block hb)]; exact hb
theorem new_block (w : World) (o : Obj) : (w.alloc o).heap[w.heap.size]? = some o := alloc_heap_new _ _ _ rfl
/-- Three facts on a block: its cells, its marks, its number. -/
theorem of_block {w : World} {b : Nat} {C : Array Value} {t : TypeId} (h : w.heap[b]? = some (.cells C t)) :
    (∀ i, w.cell? ⟨b, i, none⟩ = C[i]?) ∧ (∀ i, w.frozen? ⟨b, i, none⟩ = false) ∧ b < w.heap.size := ⟨cell_of h, frozen_of h, lt_of_block h⟩
/-- Blocks of cells, known whole. -/
def Has (w : World) : List (Nat × Array Value × TypeId) → Prop
  | [] => True
  | x :: l => w.heap[x.1]? = some (.cells x.2.1 x.2.2) ∧ Has w l
/-- All that was there as it was, and these blocks. -/
def Holds (w0 : World) (l : List (Nat × Array Value × TypeId)) (w : World) : Prop := Old w0 w ∧ Has w l
theorem has_of {w x : World} : ∀ {l : List (Nat × Array Value × TypeId)}, (∀ (b : Nat) (o : Obj), w.heap[b]? = some o → x.heap[b]? = some o) → Has w l → Has x l
  | [], _, _ => trivial
  | _ :: _, h, hl => ⟨h _ _ hl.1, has_of h hl.2⟩
theorem has_old {w x : World} {l : List (Nat × Array Value × TypeId)} (h : Old w x) (hl : Has w l) : Has x l := has_of (fun _ _ hb => keep_old h hb) hl
theorem has_alloc {w : World} {l : List (Nat × Array Value × TypeId)} (o : Obj) (hl : Has w l) : Has (w.alloc o) l := has_old (old_alloc (old_refl w) o) hl
theorem has_new {w : World} {l : List (Nat × Array Value × TypeId)} (C : Array Value) (t : TypeId) (hl : Has w l) : Has (w.alloc (.cells C t)) ((w.heap.size, C, t) :: l) := ⟨new_block _ _, has_alloc _ hl⟩
theorem holds_drew {w0 w : World} {l : List (Nat × Array Value × TypeId)} (h : Holds w0 l w) : Holds w0 l w.drew := ⟨old_drew h.1, has_of (w := w) (x := w.drew) (fun _ _ hb => hb) h.2⟩
theorem holds_old {w0 w x : World} {l : List (Nat × Array Value × TypeId)} (h : Holds w0 l w) (hb : Old w x) : Holds w0 l x := ⟨old_then h.1 hb, has_old hb h.2⟩
theorem holds_new {w0 w : World} {l : List (Nat × Array Value × TypeId)} (C : Array Value) (t : TypeId) (h : Holds w0 l w) : Holds w0 ((w.heap.size, C, t) :: l) (w.alloc (.cells C t)) := ⟨old_alloc h.1 _, has_new C t h.2⟩
theorem holds_nil (w : World) : Holds w [] w := ⟨old_refl w, trivial⟩
theorem keep_only {F : Nat → Prop} {w w' : World} {b : Nat} {o : Obj} (h : Only F w w') (hF : ¬ F b) (hb : w.heap[b]? = some o) : w'.heap[b]? = some o := by
  rw [h.block b (lt_of_block hb) hF]; exact hb
end Go.Proofs.Ytlbehhbicmmdoaa
namespace Go.Proofs.Ytlbehhbicmmdoaa
set_option linter.unusedVariables false
set_option linter.unusedSimpArgs false
open Go.ChangeShapes Go.WideShapes Go.ChangeAt Go.RowKit
theorem own : ownKnob Try.prog.godebug = none := by kernel_rfl
theorem laidOut : laidOutB Try.prog = true := by kernel_rfl
section
variable {H : Type} {enc : TypeId × Value → H} {P : Program}
theorem trodAll_below (hl : laidOutB P = true) {W W' : World} (hb : Below W.heap.size W W') : ∀ {ts : List TypeId} {vs : List Value} {ds : List (DataW H)} {ps : List MemPlace},
    (∀ t ∈ ts, P.readableRec t = true ∧ t < P.types.size) → DataW.TrodAll enc P W 0 (fun _ => true) true ts vs ds ps → (∀ x ∈ ps, x.block < W.heap.size) →
    DataW.TrodAll enc P W' 0 (fun b => decide (b < W.heap.size)) true ts vs ds ps
  | [], vs, ds, ps, _, h, _ => by
    obtain ⟨rfl, rfl, rfl⟩ := trodAll_nil h
    exact trodAll_mk0
  | t :: ts, vs, ds, ps, hr, h, hlt => by
    obtain ⟨v, vs', d, ds', p, q, rfl, rfl, rfl, h0, hs⟩ := trodAll_cons h
    refine trodAll_cons_mk (Below.trod hl (hr t List.mem_cons_self).1 (hr t List.mem_cons_self).2 h0 hb fun x hx => hlt x (List.mem_append_left _ hx)) ?_
    exact trodAll_below hl hb (fun t' ht => hr t' (List.mem_cons_of_mem _ ht)) hs fun x hx => hlt x (List.mem_append_right _ hx)
/-- True was told, and below the heap's old size nothing has turned: that is all that a law's row asks. -/
theorem post_true {f : Func} {s : ChangeSpec} {apart fresh handsOn : Bool} {W W' : World} {args : Array Value} {ds : List (DataW H)} {before : List MemPlace} {tb : TypeId}
    (hl : laidOutB P = true) (hr : ∀ t ∈ f.params.toList, P.readableRec t = true ∧ t < P.types.size) (hv : s.vars = [])
    (hW : DataW.Whole enc P f.params.toList s.vars apart W args.toList ds [] before) (hf : f.resultTypes = #[tb]) (hu : P.underlying tb = some .bool)
    (hs : s.fn H (ds ++ []) = { results := [.lit (.bool true)], args := ds }) (hb : Below W.heap.size W W') :
    s.post enc P f apart fresh handsOn false W args (.bool true) W' := by
  have hW0 := hW
  obtain ⟨p, q, hA, hV, hpq, _, _⟩ := hW0
  rw [hv] at hV
  have hq : q = [] := hV
  subst hq
  rw [List.append_nil] at hpq
  subst hpq
  refine ⟨ds, [], before, [], before, [], hW, ?_, ?_, ?_, hb.frame _, fun h => by cases h⟩
  · rw [hs, hf]
    exact trodAll_mk1 (shut_bool hu true)
  · rw [hs]
    exact trodAll_below hl hb hr hA fun x hx => hW.lt x hx
  · rw [hs, hv]
    rfl
end
end Go.Proofs.Ytlbehhbicmmdoaa
namespace Go.Proofs.Ytlbehhbicmmdoaa
set_option linter.unusedVariables false
set_option linter.unusedSimpArgs false
open Go.RowKit
theorem two64 : (2 : Nat) ^ 64 = 18446744073709551616 := rfl
/-- The bits of a field. -/
def maskN (low n : Nat) : Nat := (2 ^ n - 1) * 2 ^ low
theorem maskN_bit (low n i : Nat) : (maskN low n).testBit i = (decide (low ≤ i) && decide (i < low + n)) := by
  unfold maskN
  rw [Nat.testBit_mul_two_pow, Nat.testBit_two_pow_sub_one]
  by_cases h : low ≤ i
  · simp [h]; omega
  · simp [h]
theorem maskN_lt (low n : Nat) (h : low + n ≤ 64) : maskN low n < 18446744073709551616 := by
  rw [← two64]
  refine Nat.lt_pow_two_of_testBit _ fun i hi => ?_
  rw [maskN_bit]
  simp; omega
theorem maskN_pos (low n : Nat) (h : 1 ≤ n) : 0 < maskN low n := by
  unfold maskN
  exact Nat.mul_pos (Nat.sub_pos_of_lt (Nat.one_lt_two_pow (by omega))) (Nat.two_pow_pos _)
/-- A field's number. -/
def fieldN (w low n : Nat) : Nat := w / 2 ^ low % 2 ^ n
theorem fieldN_bit (w low n i : Nat) : (fieldN w low n).testBit i = (decide (i < n) && w.testBit (low + i)) := by
  unfold fieldN
  rw [Nat.testBit_mod_two_pow, Nat.testBit_div_two_pow]
  rw [Nat.add_comm]
theorem fieldN_and (w low n : Nat) : (w &&& maskN low n) / 2 ^ low = fieldN w low n := by
  refine Nat.eq_of_testBit_eq fun i => ?_
  rw [Nat.testBit_div_two_pow, Nat.testBit_and, maskN_bit, fieldN_bit, Nat.add_comm]
  by_cases h : i < n <;> cases w.testBit (low + i) <;> simp [h] <;> omega
end Go.Proofs.Ytlbehhbicmmdoaa
namespace Go.Proofs.Ytlbehhbicmmdoaa
set_option linter.unusedVariables false
set_option linter.unusedSimpArgs false
open Go.RowKit
section
variable {P : Program} {ops : Array Oper} {S : World → Prop}
/-- The end of one operation. -/
def Fin (S : World → Prop) (a' : Act) (e : Exit) (a'' : Act) (w' : World) : Prop := e = .normal ∧ a'' = a' ∧ S w'
/-- This one world. -/
def Is (W w : World) : Prop := w = W
/-- What comes behind the last operation. -/
def Later (S : World → Prop) (Q : Exit → Act → World → Prop) (a : Act) : Prop := ∀ w, S w → Q .normal a w
/-- In every world of S this operation comes to the frame a', and the world behind it is one of S. -/
def Gives (P : Program) (ops : Array Oper) (S : World → Prop) (o : Oper) (a a' : Act) : Prop :=
  ∀ w, S w → wpList P ops (Fin S a') [o] a w
/-- The operations one by one, in the order of the text. -/
def Walked (P : Program) (ops : Array Oper) (S : World → Prop) (Q : Act → Prop) : List Oper → Act → Prop
  | [], a => Q a
  | o :: r, a => ∃ a', Gives P ops S o a a' ∧ a'.defers = a.defers ∧ Walked P ops S Q r a'
/-- Two frames agree on what an operation looks at. -/
def Agree (ops : Array Oper) (o : Oper) (a b : Act) : Prop := b.tmps.size = a.tmps.size ∧ ∀ t, t ∈ o.looksAt ops → b.tmps[t]? = a.tmps[t]?
theorem agree_eval {o : Oper} {a b : Act} (h : Agree ops o a b) (hs : ∀ cs c, o.op ≠ .select cs c) : execOp b.eval o = execOp a.eval o := by
  refine execOp_congr o hs fun x hx => ?_
  cases x with
  | tmp t =>
    have ht : t ∈ o.looksAt ops := List.mem_append_left _ (List.mem_filterMap.2 ⟨.tmp t, by simpa using hx, rfl⟩)
    have := h.2 t ht
    simp [Act.eval, this]
  | _ => rfl
theorem agree_wanted {o : Oper} {a b : Act} (h : Agree ops o a b) : Region.wanted o (yielded ops b.tmps) = Region.wanted o (yielded ops a.tmps) := by
  unfold Region.wanted
  cases hg : o.guard with
  | none => rfl
  | some gw =>
    obtain ⟨g, want⟩ := gw
    have hy : yielded ops b.tmps g = yielded ops a.tmps g := by
      unfold yielded
      cases ht : (ops[g]?).bind (·.dst) with
      | none => rfl
      | some t =>
        have := h.2 t (by simp [Oper.looksAt, hg, ht])
        simp [this]
    simp only [hy]
theorem put_same {a b : Act} {dst : Option Tmp} {v u : Value} (hsz : b.tmps.size = a.tmps.size) (h : a.put dst v = a.put dst u) : b.put dst v = b.put dst u := by
  cases dst with
  | none => rfl
  | some d =>
    by_cases hd : d < a.tmps.size
    · have h1 := congrArg (fun x : Act => x.tmps[d]?) h
      simp [Act.put, hd] at h1
      rw [h1]
    · have hd' : ¬ d < b.tmps.size := by rw [hsz]; exact hd
      simp [Act.put, Array.setIfInBounds, hd']
/-- What an operation gives at one frame it gives at every frame that agrees on what it looks at. -/
theorem gives_val {o : Oper} {a a' : Act} (h : Gives P ops S o a a') (hd : a'.defers = a.defers) (hs : ∀ cs c, o.op ≠ .select cs c) {w0 : World} (h0 : S w0) :
    ∃ v, a' = a.put o.dst v ∧ ∀ (b : Act) (w : World) (K : Act → World → Prop) (Q : Exit → Act → World → Prop), Agree ops o a b → S w → (∀ w', S w' → K (b.put o.dst v) w') →
      (if Region.wanted o (yielded ops b.tmps) then o.wp P b w K Q ∨ (o.asks P b w ∧ LetsOut Q) else K (b.put o.dst undef) w) := by
  by_cases hw : Region.wanted o (yielded ops a.tmps) = true
  · -- what it comes to in a world of S
    have key : ∀ w, S w → o.wp P a w (fun a'' w' => a'' = a' ∧ S w') (fun _ _ _ => False) := by
      intro w hS
      have h1 := h w hS
      unfold wpList at h1
      rw [if_pos hw] at h1
      rcases h1 with h1 | ⟨_, a1, w1, h1, _⟩
      · unfold Oper.wp at h1 ⊢
        generalize (execOp a.eval o).run P w = r at h1 ⊢
        cases r with
        | ok n w' =>
          cases n with
          | value v => exact h1.2
          | skip => exact h1.2
          | defer d => exact h1.2
          | enter f args =>
            simp only [Oper.upon] at h1 ⊢
            refine Calls.mono h1 fun e w'' he => ?_
            cases e with
            | returned v => exact he.2
            | panicked c => exact absurd he.1 (by simp)
            | outgrown => obtain ⟨_, _, h2, _⟩ := he; exact absurd h2 (by simp)
          | row row args =>
            simp only [Oper.upon] at h1 ⊢
            exact Rows.mono h1 fun v w'' he => he.2
          | _ => exact (h1 : False).elim
        | halt x w' =>
          cases x <;> simp only [Oper.upon] at h1 ⊢ <;> first | exact h1 | exact absurd h1.1 (by simp)
      · exact absurd h1 (by simp)
    have nodefer : ∀ d, ({ a with defers := d :: a.defers } : Act).put o.dst undef ≠ a' := by
      intro d e
      have h1 := congrArg Act.defers e
      rw [hd] at h1
      have h2 : (({ a with defers := d :: a.defers } : Act).put o.dst undef).defers = d :: a.defers := by cases o.dst <;> rfl
      rw [h2] at h1
      have := congrArg List.length h1
      simp at this
    -- the value
    have hv : ∃ v, a' = a.put o.dst v := by
      have k0 := key w0 h0
      unfold Oper.wp at k0
      generalize (execOp a.eval o).run P w0 = r at k0
      cases r with
      | ok n w' =>
        cases n with
        | value v => exact ⟨v, k0.1.symm⟩
        | skip => exact ⟨undef, k0.1.symm⟩
        | defer d => exact absurd k0.1 (nodefer d)
        | enter f args =>
          simp only [Oper.upon] at k0
          obtain ⟨e, w'', fr, hr, _⟩ := k0 []
          cases e with
          | returned v => exact ⟨v, hr.1.symm⟩
          | panicked c => exact hr.elim
          | outgrown => obtain ⟨_, _, h2⟩ := hr; exact h2.elim
        | row row args =>
          simp only [Oper.upon] at k0
          obtain ⟨v, w'', hr, _⟩ := k0 default []
          exact ⟨v, hr.1.symm⟩
        | _ => exact (k0 : False).elim
      | halt x w' => cases x <;> simp only [Oper.upon] at k0
    obtain ⟨v, hv⟩ := hv
    refine ⟨v, hv, fun b w K Q hab hS hK => ?_⟩
    rw [agree_wanted hab, if_pos hw]
    refine .inl ?_
    have k := key w hS
    unfold Oper.wp at k ⊢
    rw [agree_eval hab hs]
    have same : ∀ u, a.put o.dst u = a' → b.put o.dst u = b.put o.dst v := fun u hu => put_same hab.1 (hu.trans hv)
    generalize (execOp a.eval o).run P w = r at k ⊢
    cases r with
    | ok n w' =>
      cases n with
      | value u => show K _ _; rw [same u k.1]; exact hK _ k.2
      | skip => show K _ _; rw [same undef k.1]; exact hK _ k.2
      | defer d => exact absurd k.1 (nodefer d)
      | enter f args =>
        simp only [Oper.upon] at k ⊢
        refine Calls.mono k fun e w'' he => ?_
        cases e with
        | returned u => show K _ _; rw [same u he.1]; exact hK _ he.2
        | panicked c => exact he.elim
        | outgrown => obtain ⟨_, _, h2⟩ := he; exact h2.elim
      | row row args =>
        simp only [Oper.upon] at k ⊢
        refine Rows.mono k fun u w'' he => ?_
        rw [same u he.1]; exact hK _ he.2
      | _ => exact (k : False).elim
    | halt x w' => cases x <;> simp only [Oper.upon] at k
  · have hw' : Region.wanted o (yielded ops a.tmps) = false := by simpa using hw
    refine ⟨undef, ?_, fun b w K Q hab hS hK => ?_⟩
    · have h1 := h w0 h0
      unfold wpList at h1
      rw [if_neg hw] at h1
      exact h1.2.1.symm
    · rw [agree_wanted hab, if_neg hw]
      exact hK w hS
end
/-! What comes ahead of what. -/
theorem inner_bit (acc : Array Nat) (x : Nat) : ∀ (es : List Edge) (s0 : Nat),
    (es.foldl (fun s e => if Region.binds .any e then s ||| 2 ^ e.on ||| acc.getD e.on 0 else s) s0).testBit x = true →
    s0.testBit x = true ∨ ∃ e ∈ es, Region.binds .any e = true ∧ (e.on = x ∨ (acc.getD e.on 0).testBit x = true) := by
  intro es
  induction es with
  | nil => intro s0 h; exact .inl h
  | cons e es ih =>
    intro s0 h
    rw [List.foldl_cons] at h
    rcases ih _ h with h1 | ⟨e', he', hb, hx⟩
    · split at h1
      · rename_i hb
        rw [Nat.testBit_or, Nat.testBit_or, Bool.or_eq_true, Bool.or_eq_true] at h1
        rcases h1 with (h1 | h1) | h1
        · exact .inl h1
        · rw [Nat.testBit_two_pow] at h1
          exact .inr ⟨e, List.mem_cons_self, hb, .inl (of_decide_eq_true h1)⟩
        · exact .inr ⟨e, List.mem_cons_self, hb, .inr h1⟩
      · exact .inl h1
    · exact .inr ⟨e', List.mem_cons_of_mem _ he', hb, hx⟩
/-- One more mask. -/
def maskStep (acc : Array Nat) (o : Oper) : Array Nat :=
  acc.push (o.after.foldl (fun s e => if Region.binds .any e then s ||| 2 ^ e.on ||| acc.getD e.on 0 else s) 0)
theorem masks_eq (ops : Array Oper) : Region.before ops = ops.toList.foldl maskStep #[] := by
  unfold Region.before
  rw [← Array.foldl_toList]
  rfl
theorem masks_fold : ∀ (l : List Oper) (acc : Array Nat),
    (∀ i, i < acc.size → (l.foldl maskStep acc).getD i 0 = acc.getD i 0) ∧ (l.foldl maskStep acc).size = acc.size + l.length ∧
    ∀ j o, l[j]? = some o → ∃ acc' : Array Nat, acc'.size = acc.size + j ∧ (∀ i, i < acc'.size → acc'.getD i 0 = (l.foldl maskStep acc).getD i 0) ∧
      (l.foldl maskStep acc).getD (acc.size + j) 0 = o.after.foldl (fun s e => if Region.binds .any e then s ||| 2 ^ e.on ||| acc'.getD e.on 0 else s) 0 := by
  intro l
  induction l with
  | nil => intro acc; exact ⟨fun _ _ => rfl, by simp, fun j o h => by simp at h⟩
  | cons o l ih =>
    intro acc
    obtain ⟨h1, h2, h3⟩ := ih (maskStep acc o)
    have hsz : (maskStep acc o).size = acc.size + 1 := by simp [maskStep]
    have hold : ∀ i, i < acc.size → (maskStep acc o).getD i 0 = acc.getD i 0 := fun i hi => by
      simp [maskStep, Array.getElem?_push, Nat.ne_of_lt hi]
    have hnew : (maskStep acc o).getD acc.size 0 = o.after.foldl (fun s e => if Region.binds .any e then s ||| 2 ^ e.on ||| acc.getD e.on 0 else s) 0 := by
      simp [maskStep]
    rw [List.foldl_cons]
    refine ⟨fun i hi => (h1 i (by omega)).trans (hold i hi), by rw [h2, hsz, List.length_cons]; omega, fun j o' hj => ?_⟩
    cases j with
    | zero =>
      simp at hj
      subst hj
      exact ⟨acc, rfl, fun i hi => ((h1 i (by omega)).trans (hold i hi)).symm, by rw [Nat.add_zero, h1 _ (by omega), hnew]⟩
    | succ j =>
      rw [List.getElem?_cons_succ] at hj
      obtain ⟨acc', a1, a2, a3⟩ := h3 j o' hj
      exact ⟨acc', by omega, a2, by rw [show acc.size + (j + 1) = (maskStep acc o).size + j by omega]; exact a3⟩
theorem mask_bit {ops : Array Oper} {x y : Nat} {o : Oper} (ho : ops[y]? = some o) (h : ((Region.before ops).getD y 0).testBit x = true) :
    ∃ e ∈ o.after, Region.binds .any e = true ∧ (e.on = x ∨ (e.on < y ∧ ((Region.before ops).getD e.on 0).testBit x = true)) := by
  obtain ⟨_, _, h3⟩ := masks_fold ops.toList #[]
  obtain ⟨acc', a1, a2, a3⟩ := h3 y o (by simpa using ho)
  rw [masks_eq] at h ⊢
  simp only [Array.size_empty, Nat.zero_add] at a1 a3
  rw [a3, ← Array.foldl_toList] at h
  rcases inner_bit acc' x _ _ h with h1 | ⟨e, he, hb, hx⟩
  · simp at h1
  · refine ⟨e, by simpa using he, hb, ?_⟩
    rcases hx with hx | hx
    · exact .inl hx
    · rcases Nat.lt_or_ge e.on acc'.size with hlt | hge
      · exact .inr ⟨by omega, by rw [← a2 _ hlt]; exact hx⟩
      · rw [show acc'.getD e.on 0 = 0 by simp [Array.getElem?_eq_none hge]] at hx
        simp at hx
/-- All that an operation waits for has come up. -/
def AllMet (ops : Array Oper) (listed : Array Bool) (y : Nat) : Prop := ∀ o, ops[y]? = some o → ∀ e ∈ o.after, Region.binds .any e = true → listed.getD e.on false = true
theorem met_bit {ops : Array Oper} {listed : Array Bool} (hc : ∀ y, listed.getD y false = true → AllMet ops listed y) (x : Nat) : ∀ (n y : Nat), y < n → y < ops.size → AllMet ops listed y →
    ((Region.before ops).getD y 0).testBit x = true → listed.getD x false = true := by
  intro n
  induction n with
  | zero => intro y h; omega
  | succ n ih =>
    intro y hy hs hm hb
    obtain ⟨e, he, hbind, hx⟩ := mask_bit (Array.getElem?_eq_getElem hs) hb
    have hl := hm _ (Array.getElem?_eq_getElem hs) e he hbind
    rcases hx with rfl | ⟨hlt, hx⟩
    · exact hl
    · exact ih e.on (by omega) (by omega) (hc _ hl) hx
/-- May the operations be walked in the order of the text? Each slot is written once, and who reads it comes ahead of or behind its writer in every order. -/
def seqOk (ops : Array Oper) : Bool :=
  (List.range ops.size).all fun j => match ops[j]? with
    | none => true
    | some o => (match o.op with | .select .. => false | _ => true) && o.after.all (fun e => !Region.binds .any e || decide (e.on < j)) &&
      (List.range ops.size).all fun i => i == j || match (ops[i]?).bind (·.dst) with
        | none => true
        | some t => o.dst != some t && (!(o.looksAt ops).contains t || (if i < j then ((Region.before ops).getD j 0).testBit i else ((Region.before ops).getD i 0).testBit j))
theorem seqOk_spec {ops : Array Oper} (h : seqOk ops = true) {j : Nat} {o : Oper} (ho : ops[j]? = some o) :
    (∀ cs c, o.op ≠ .select cs c) ∧ (∀ e ∈ o.after, Region.binds .any e = true → e.on < j) ∧
    ∀ i o', ops[i]? = some o' → i ≠ j → ∀ t, o'.dst = some t → o.dst ≠ some t ∧
      (t ∈ o.looksAt ops → (i < j ∧ ((Region.before ops).getD j 0).testBit i = true) ∨ (j < i ∧ ((Region.before ops).getD i 0).testBit j = true)) := by
  have hj : j < ops.size := (Array.getElem?_eq_some_iff.1 ho).1
  have h1 := (List.all_eq_true.1 h) j (List.mem_range.2 hj)
  simp only [ho, Bool.and_eq_true] at h1
  obtain ⟨⟨hs, he⟩, hi⟩ := h1
  refine ⟨fun cs c e => by rw [e] at hs; simp at hs, fun e hm hb => ?_, fun i o' ho' hne t ht => ?_⟩
  · have := (Array.all_eq_true_iff_forall_mem.1 he) e hm
    simpa [hb] using this
  · have hi' : i < ops.size := (Array.getElem?_eq_some_iff.1 ho').1
    have h2 := (List.all_eq_true.1 hi) i (List.mem_range.2 hi')
    simp only [ho', Option.bind_some, ht, Bool.or_eq_true, beq_iff_eq, hne, false_or, Bool.and_eq_true, bne_iff_ne, ne_eq] at h2
    refine ⟨h2.1, fun hm => ?_⟩
    rcases h2.2 with h3 | h3
    · simp [hm] at h3
    · split at h3
      · exact .inl ⟨by assumption, h3⟩
      · exact .inr ⟨by omega, h3⟩
theorem count_lt {p q : Nat → Bool} (h : ∀ k, q k = true → p k = true) {j : Nat} (hp : p j = true) (hq : q j = false) : ∀ {l : List Nat}, j ∈ l → (l.filter q).length < (l.filter p).length := by
  have hle : ∀ l : List Nat, (l.filter q).length ≤ (l.filter p).length := by
    intro l
    induction l with
    | nil => simp
    | cons x l ih =>
      by_cases hx : q x = true
      · simp [hx, h x hx]; exact ih
      · by_cases hy : p x = true
        · simp [hx, hy]; omega
        · simp [hx, hy]; exact ih
  intro l
  induction l with
  | nil => intro hj; simp at hj
  | cons x l ih =>
    intro hj
    by_cases hxj : x = j
    · subst hxj
      have := hle l
      simp [hp, hq]; omega
    · have hj' : j ∈ l := by simpa [Ne.symm hxj] using hj
      have := ih hj'
      by_cases hx : q x = true
      · simp [hx, h x hx]; exact this
      · by_cases hy : p x = true
        · simp [hx, hy]; omega
        · simp [hx, hy]; exact this
section
variable {P : Program} {ops : Array Oper} {S : World → Prop} {Q : Exit → Act → World → Prop}
theorem walked_chain {Qf : Act → Prop} : ∀ (l : List Oper) (a : Act), Walked P ops S Qf l a →
    ∃ A : Nat → Act, A 0 = a ∧ (∀ k o, l[k]? = some o → Gives P ops S o (A k) (A (k + 1)) ∧ (A (k + 1)).defers = (A k).defers) ∧ Qf (A l.length) := by
  intro l
  induction l with
  | nil => intro a h; exact ⟨fun _ => a, rfl, fun k o hk => by simp at hk, h⟩
  | cons o l ih =>
    intro a h
    obtain ⟨a', hg, hd, hr⟩ := h
    obtain ⟨A, h0, h1, h2⟩ := ih a' hr
    refine ⟨fun k => match k with | 0 => a | k + 1 => A k, rfl, fun k o' hk => ?_, h2⟩
    cases k with
    | zero =>
      simp at hk
      subst hk
      exact ⟨show Gives P ops S o a (A 0) by rw [h0]; exact hg, show (A 0).defers = a.defers by rw [h0]; exact hd⟩
    | succ k => exact h1 k o' (by simpa using hk)
/-- The frame while the operations come up in some order: what has come up holds its value, all else is as it was. -/
structure Midway (ops : Array Oper) (a z : Act) (listed : Array Bool) (b : Act) : Prop where
  size : b.tmps.size = a.tmps.size
  defers : b.defers = a.defers
  len : listed.size = ops.size
  closed : ∀ y, listed.getD y false = true → AllMet ops listed y
  done : ∀ k o t, ops[k]? = some o → listed.getD k false = true → o.dst = some t → b.tmps[t]? = z.tmps[t]?
  left : ∀ t, (∀ k o, ops[k]? = some o → listed.getD k false = true → o.dst ≠ some t) → b.tmps[t]? = a.tmps[t]?
theorem act_ext {a b : Act} (h : a.tmps = b.tmps) (hd : a.defers = b.defers) : a = b := by
  cases a; cases b; simp_all
theorem put_size (a : Act) (d : Option Tmp) (v : Value) : (a.put d v).tmps.size = a.tmps.size := by cases d <;> simp [Act.put]
theorem put_defs (a : Act) (d : Option Tmp) (v : Value) : (a.put d v).defers = a.defers := by cases d <;> simp [Act.put]
theorem put_ne {a : Act} {d : Option Tmp} {v : Value} {t : Tmp} (h : d ≠ some t) : (a.put d v).tmps[t]? = a.tmps[t]? := by
  cases d with
  | none => rfl
  | some d => simp [Act.put, Array.getElem?_setIfInBounds_ne (show d ≠ t from fun e => h (by rw [e]))]
theorem put_at {a b : Act} {v : Value} {t : Tmp} (h : a.tmps.size = b.tmps.size) : (a.put (some t) v).tmps[t]? = (b.put (some t) v).tmps[t]? := by
  simp [Act.put, Array.getElem?_setIfInBounds, h]
/-- **A statement whose order is open: one walk, in the order of the text, is enough.** -/
theorem wp_region_walked {id : Nat} {a : Act} {w : World} (hm : P.follows .mixedOrders = true) (hok : seqOk ops = true) (hS : S w.drew)
    (h : Walked P ops S (Later S Q) ops.toList a) : (Code.region id ops true).wp P Q a w := by
  obtain ⟨A, hA0, hA, hQ⟩ := walked_chain _ _ h
  have hA' : ∀ k o, ops[k]? = some o → ∃ v, A (k + 1) = (A k).put o.dst v ∧ ∀ (b : Act) (w : World) (K : Act → World → Prop) (Q : Exit → Act → World → Prop), Agree ops o (A k) b → S w →
      (∀ w', S w' → K (b.put o.dst v) w') → (if Region.wanted o (yielded ops b.tmps) then o.wp P b w K Q ∨ (o.asks P b w ∧ LetsOut Q) else K (b.put o.dst undef) w) := fun k o ho => by
    obtain ⟨g, d⟩ := hA k o (by simpa using ho)
    exact gives_val g d (seqOk_spec hok ho).1 hS
  have hlen : ops.toList.length = ops.size := by simp
  rw [hlen] at hQ
  have asz : ∀ k, k ≤ ops.size → (A k).tmps.size = a.tmps.size ∧ (A k).defers = a.defers := by
    intro k
    induction k with
    | zero => intro _; rw [hA0]; exact ⟨rfl, rfl⟩
    | succ k ih =>
      intro hk
      obtain ⟨v, hv, _⟩ := hA' k _ (Array.getElem?_eq_getElem (show k < ops.size by omega))
      obtain ⟨i1, i2⟩ := ih (by omega)
      rw [hv, put_size, put_defs]; exact ⟨i1, i2⟩
  -- between k and m nothing writes t
  have far : ∀ k t m, k ≤ m → m ≤ ops.size → (∀ i o, k ≤ i → i < m → ops[i]? = some o → o.dst ≠ some t) → (A m).tmps[t]? = (A k).tmps[t]? := by
    intro k t m
    induction m with
    | zero => intro h1 _ _; rw [show k = 0 by omega]
    | succ m ih =>
      intro h1 h2 hno
      by_cases hkm : k = m + 1
      · rw [hkm]
      · obtain ⟨v, hv, _⟩ := hA' m _ (Array.getElem?_eq_getElem (show m < ops.size by omega))
        rw [hv, put_ne (hno m _ (by omega) (by omega) (Array.getElem?_eq_getElem (show m < ops.size by omega)))]
        exact ih (by omega) (by omega) (fun i o hi hi' ho => hno i o hi (by omega) ho)
  have unlike : ∀ (i j : Nat) (oi oj : Oper) (t : Tmp), ops[i]? = some oi → ops[j]? = some oj → oi.dst = some t → oj.dst = some t → i = j := by
    intro i j oi oj t hi hj ti tj
    by_cases e : i = j
    · exact e
    · exact absurd tj (((seqOk_spec hok hj).2.2 i oi hi e t ti).1)
  have lt_of : ∀ (listed : Array Bool) k, listed.getD k false = true → listed.size = ops.size → k < ops.size := by
    intro listed k hk hl
    rcases Nat.lt_or_ge k listed.size with h' | h'
    · omega
    · simp [Array.getElem?_eq_none h'] at hk
  -- what comes up next gives what it gives in the order of the text
  have main : ∀ (fuel : Nat) (listed : Array Bool) (b : Act) (w : World), ((List.range ops.size).filter (fun k => !listed.getD k true)).length ≤ fuel →
      Midway ops a (A ops.size) listed b → S w → wpAny P .any ops Q fuel listed b w := by
    intro fuel
    induction fuel with
    | zero =>
      intro listed b w hf hM hw
      have hall : ∀ k, k < ops.size → listed.getD k false = true := by
        intro k hk
        have hnil : (List.range ops.size).filter (fun k => !listed.getD k true) = [] := List.length_eq_zero_iff.1 (by omega)
        have := (List.filter_eq_nil_iff.1 hnil) k (List.mem_range.2 hk)
        have hkl : k < listed.size := by rw [hM.len]; exact hk
        simpa [hkl] using this
      have hfin : b = A ops.size := by
        refine act_ext (Array.ext_getElem? fun t => ?_) (by rw [hM.defers, (asz _ (Nat.le_refl _)).2])
        by_cases hx : ∃ (k : Nat) (o : Oper), ops[k]? = some o ∧ o.dst = some t
        · obtain ⟨k, o, ho, ht⟩ := hx
          exact hM.done k o t ho (hall k (Array.getElem?_eq_some_iff.1 ho).1) ht
        · rw [hM.left t (fun k o ho _ ht => hx ⟨k, o, ho, ht⟩), far 0 t ops.size (by omega) (Nat.le_refl _) (fun i o _ _ ho ht => hx ⟨i, o, ho, ht⟩), hA0]
      refine ⟨?_, by rw [hfin]; exact hQ w hw⟩
      refine List.eq_nil_iff_forall_not_mem.2 fun j hj => ?_
      obtain ⟨hjun, o, ho, _⟩ := mem_ready.1 hj
      have hjl : j < listed.size := by rw [hM.len]; exact (Array.getElem?_eq_some_iff.1 ho).1
      have := hall j (Array.getElem?_eq_some_iff.1 ho).1
      simp [hjl] at hjun this
      rw [this] at hjun; cases hjun
    | succ fuel ih =>
      intro listed b w hf hM hw
      refine ⟨fun hnil => ?_, fun j hj => ?_⟩
      · -- nothing is left: all have come up
        have hall : ∀ n k, k < n → k < ops.size → listed.getD k false = true := by
          intro n
          induction n with
          | zero => intro k hk; omega
          | succ n ihn =>
            intro k hk hs
            by_cases hl : listed.getD k false = true
            · exact hl
            · exfalso
              have hkl : k < listed.size := by rw [hM.len]; exact hs
              have hmem : k ∈ Region.ready .any ops listed := mem_ready.2 ⟨by simpa [hkl] using hl, _, Array.getElem?_eq_getElem hs, fun e he hb => by
                have hlt := (seqOk_spec hok (Array.getElem?_eq_getElem hs)).2.1 e he hb
                exact ihn e.on (by omega) (by omega)⟩
              rw [hnil] at hmem
              cases hmem
        have hfin : b = A ops.size := by
          refine act_ext (Array.ext_getElem? fun t => ?_) (by rw [hM.defers, (asz _ (Nat.le_refl _)).2])
          by_cases hx : ∃ (k : Nat) (o : Oper), ops[k]? = some o ∧ o.dst = some t
          · obtain ⟨k, o, ho, ht⟩ := hx
            exact hM.done k o t ho (hall _ k (Nat.lt_succ_self k) (Array.getElem?_eq_some_iff.1 ho).1) ht
          · rw [hM.left t (fun k o ho _ ht => hx ⟨k, o, ho, ht⟩), far 0 t ops.size (by omega) (Nat.le_refl _) (fun i o _ _ ho ht => hx ⟨i, o, ho, ht⟩), hA0]
        rw [hfin]; exact hQ w hw
      · obtain ⟨hjun, o, ho, hedges⟩ := mem_ready.1 hj
        have hjs : j < ops.size := (Array.getElem?_eq_some_iff.1 ho).1
        have hjl : j < listed.size := by rw [hM.len]; exact hjs
        have hjun' : listed.getD j false = false := by simpa [hjl] using hjun
        have hmet : AllMet ops listed j := fun o' ho' e he hb => by
          rw [ho] at ho'
          cases ho'
          exact hedges e he hb
        obtain ⟨v, hv, step⟩ := hA' j o ho
        have hag : Agree ops o (A j) b := by
          refine ⟨by rw [hM.size, (asz j (by omega)).1], fun t ht => ?_⟩
          by_cases hx : ∃ (i : Nat) (oi : Oper), ops[i]? = some oi ∧ oi.dst = some t
          · obtain ⟨i, oi, hi, hti⟩ := hx
            by_cases hij : i = j
            · rw [hM.left t (fun k ok hk hlk htk => by
                have : k = i := unlike k i ok oi t hk hi htk hti
                rw [this, hij, hjun'] at hlk
                cases hlk), far 0 t j (by omega) (by omega) (fun k ok _ hk hok' htk => by
                have : k = i := unlike k i ok oi t hok' hi htk hti
                omega), hA0]
            · rcases ((seqOk_spec hok ho).2.2 i oi hi hij t hti).2 ht with ⟨hlt, hbit⟩ | ⟨hlt, hbit⟩
              · have hli := met_bit hM.closed i (j + 1) j (by omega) hjs hmet hbit
                rw [hM.done i oi t hi hli hti]
                exact far j t ops.size (by omega) (Nat.le_refl _) (fun k ok hk _ hok' htk => by
                  have : k = i := unlike k i ok oi t hok' hi htk hti
                  omega)
              · have hun : listed.getD i false ≠ true := fun hli => by
                  have his : i < ops.size := (Array.getElem?_eq_some_iff.1 hi).1
                  have := met_bit hM.closed j (i + 1) i (by omega) his (hM.closed i hli) hbit
                  rw [hjun'] at this
                  cases this
                rw [hM.left t (fun k ok hk hlk htk => by
                  have : k = i := unlike k i ok oi t hk hi htk hti
                  rw [this] at hlk
                  exact hun hlk), far 0 t j (by omega) (by omega) (fun k ok _ hk hok' htk => by
                  have : k = i := unlike k i ok oi t hok' hi htk hti
                  omega), hA0]
          · rw [hM.left t (fun k ok hk _ htk => hx ⟨k, ok, hk, htk⟩), far 0 t j (by omega) (by omega) (fun k ok _ _ hk htk => hx ⟨k, ok, hk, htk⟩), hA0]
        have hM' : Midway ops a (A ops.size) (listed.setIfInBounds j true) (b.put o.dst v) := by
          refine ⟨by rw [put_size, hM.size], by rw [put_defs, hM.defers], by rw [Array.size_setIfInBounds, hM.len], fun y hy => ?_, fun k ok t hk hlk htk => ?_, fun t hno => ?_⟩
          · intro oy hoy e he hb
            by_cases hyj : j = y
            · subst hyj
              exact getD_set_true (hmet oy hoy e he hb)
            · rw [getD_set_ne false hyj] at hy
              exact getD_set_true (hM.closed y hy oy hoy e he hb)
          · by_cases hkj : j = k
            · subst hkj
              rw [ho] at hk
              cases hk
              rw [htk, put_at (b := A j) (by rw [hM.size, (asz j (by omega)).1]), ← htk, ← hv]
              exact (far (j + 1) t ops.size (by omega) (Nat.le_refl _) (fun i oi hi _ hoi hti => by
                have : i = j := unlike i j oi o t hoi ho hti htk
                omega)).symm
            · rw [getD_set_ne false hkj] at hlk
              rw [put_ne (fun e => hkj (unlike j k o ok t ho hk e htk))]
              exact hM.done k ok t hk hlk htk
          · have hjt : o.dst ≠ some t := hno j o ho (by simp [hjl])
            rw [put_ne hjt]
            refine hM.left t (fun k ok hk hlk => hno k ok hk ?_)
            exact getD_set_true hlk
        unfold wpOp
        simp only [ho]
        refine step b w _ Q hag hw (fun w' hw' => ih _ _ w' ?_ hM' hw')
        have := count_lt (p := fun k => !listed.getD k true) (q := fun k => !(listed.setIfInBounds j true).getD k true) (fun k hk => by
          by_cases hkj : j = k
          · subst hkj; simp [hjun]
          · rw [getD_set_ne true hkj] at hk; exact hk) (j := j) (by simp [hjun]) (by simp [hjl]) (List.mem_range.2 hjs)
        omega
  refine wp_region_any hm (main ops.size _ a w.drew ?_ ?_ hS)
  · exact Nat.le_trans (List.length_filter_le _ _) (by simp)
  · refine ⟨rfl, rfl, by simp, fun y hy => ?_, fun k o t ho hk _ => ?_, fun t _ => rfl⟩
    · simp [Array.getElem?_replicate] at hy
      split at hy <;> simp at hy
    · simp [Array.getElem?_replicate] at hk
      split at hk <;> simp at hk
/-! The last operations of a statement, each behind all that stand ahead of it in the text: they come in the order of the text. -/
/-- From number m on each operation waits for all ahead of it. -/
def tailOk (ops : Array Oper) (m : Nat) : Bool := (List.range ops.size).all fun j => decide (j < m) || (List.range j).all fun i => ((Region.before ops).getD j 0).testBit i
theorem tailOk_spec {m : Nat} (h : tailOk ops m = true) {j i : Nat} (hj : j < ops.size) (hm : m ≤ j) (hi : i < j) : ((Region.before ops).getD j 0).testBit i = true := by
  have h1 := (List.all_eq_true.1 h) j (List.mem_range.2 hj)
  rw [Bool.or_eq_true] at h1
  rcases h1 with h1 | h1
  · have := of_decide_eq_true h1; omega
  · exact (List.all_eq_true.1 h1) i (List.mem_range.2 hi)
/-- Just the first k have come up. -/
def Upto (ops : Array Oper) (k : Nat) (listed : Array Bool) : Prop := listed.size = ops.size ∧ ∀ i, i < ops.size → (listed.getD i false = true ↔ i < k)
theorem forced {m : Nat} (hok : seqOk ops = true) (ht : tailOk ops m = true) : ∀ (d k fuel : Nat) (listed : Array Bool) (b : Act) (w : World), ops.size - k = d → d ≤ fuel → m ≤ k → k ≤ ops.size → Upto ops k listed →
    (∀ y, listed.getD y false = true → AllMet ops listed y) → wpList P ops Q (ops.toList.drop k) b w → wpAny P .any ops Q fuel listed b w := by
  intro d
  induction d with
  | zero =>
    intro k fuel listed b w hd hf hm hk hu hc h
    have hke : k = ops.size := by omega
    subst hke
    rw [List.drop_of_length_le (by simp)] at h
    have hnil : Region.ready .any ops listed = [] := by
      refine List.eq_nil_iff_forall_not_mem.2 fun j hj => ?_
      obtain ⟨hjun, o, ho, _⟩ := mem_ready.1 hj
      have hjs : j < ops.size := (Array.getElem?_eq_some_iff.1 ho).1
      have hjl : j < listed.size := by rw [hu.1]; exact hjs
      have := (hu.2 j hjs).2 hjs
      simp [hjl] at hjun this
      rw [this] at hjun; cases hjun
    cases fuel with
    | zero => exact ⟨hnil, h⟩
    | succ f => exact ⟨fun _ => h, fun i hi => by rw [hnil] at hi; cases hi⟩
  | succ d ih =>
    intro k fuel listed b w hd hf hm hk hu hc h
    have hks : k < ops.size := by omega
    have hkl : k < listed.size := by rw [hu.1]; exact hks
    cases fuel with
    | zero => omega
    | succ f =>
      have hkun : listed.getD k false ≠ true := fun e => by have := (hu.2 k hks).1 e; omega
      have hkr : k ∈ Region.ready .any ops listed := mem_ready.2 ⟨by simpa [hkl] using hkun, _, Array.getElem?_eq_getElem hks, fun e he hb => by
        have hlt := (seqOk_spec hok (Array.getElem?_eq_getElem hks)).2.1 e he hb
        exact (hu.2 e.on (by omega)).2 (by omega)⟩
      refine ⟨fun hnil => (by rw [hnil] at hkr; cases hkr), fun j hj => ?_⟩
      obtain ⟨hjun, o, ho, hedges⟩ := mem_ready.1 hj
      have hjs : j < ops.size := (Array.getElem?_eq_some_iff.1 ho).1
      have hjl : j < listed.size := by rw [hu.1]; exact hjs
      have hmet : AllMet ops listed j := fun o' ho' e he hb => by
        rw [ho] at ho'
        cases ho'
        exact hedges e he hb
      have hjk : j = k := by
        have h1 : ¬ j < k := fun hlt => by
          have := (hu.2 j hjs).2 hlt
          simp [hjl] at hjun this
          rw [this] at hjun; cases hjun
        by_cases h2 : k < j
        · have := met_bit hc k (j + 1) j (by omega) hjs hmet (tailOk_spec ht hjs (by omega) h2)
          exact absurd this hkun
        · omega
      subst hjk
      have hdrop : ops.toList.drop j = o :: ops.toList.drop (j + 1) := by
        have hl : j < ops.toList.length := by simpa using hjs
        rw [List.drop_eq_getElem_cons hl]
        congr 1
        have := (Array.getElem?_eq_some_iff.1 ho).2
        simpa using this
      rw [hdrop] at h
      have hu' : Upto ops (j + 1) (listed.setIfInBounds j true) := by
        refine ⟨by rw [Array.size_setIfInBounds, hu.1], fun i hi => ?_⟩
        by_cases hij : j = i
        · subst hij; simp [hjl]
        · rw [getD_set_ne false hij, hu.2 i hi]; omega
      have hc' : ∀ y, (listed.setIfInBounds j true).getD y false = true → AllMet ops (listed.setIfInBounds j true) y := fun y hy => by
        intro oy hoy e he hb
        by_cases hyj : j = y
        · subst hyj; exact getD_set_true (hmet oy hoy e he hb)
        · rw [getD_set_ne false hyj] at hy
          exact getD_set_true (hc y hy oy hoy e he hb)
      unfold wpOp
      simp only [ho]
      unfold wpList at h
      split at h
      · rename_i hw
        rw [if_pos hw]
        exact h.imp (Oper.wp_mono fun a' w' h' => ih (j + 1) f _ a' w' (by omega) (by omega) (by omega) (by omega) hu' hc' h') id
      · rename_i hw
        rw [if_neg hw]
        exact ih (j + 1) f _ _ w (by omega) (by omega) (by omega) (by omega) hu' hc' h
/-- **A statement whose order is open, and which ends in operations that wait for all ahead of them (a store, an append): one walk, in the order of the text, is enough.** -/
theorem wp_region_tail (m : Nat) {id : Nat} {a : Act} {w : World} (hm : P.follows .mixedOrders = true) (hok : seqOk ops = true) (ht : tailOk ops m = true) (hms : m ≤ ops.size) (hS : S w.drew)
    (h : Walked P ops S (fun a' => ∀ w', S w' → wpList P ops Q (ops.toList.drop m) a' w') (ops.toList.take m) a) : (Code.region id ops true).wp P Q a w := by
  obtain ⟨A, hA0, hA, hQ⟩ := walked_chain _ _ h
  have hA' : ∀ k o, k < m → ops[k]? = some o → ∃ v, A (k + 1) = (A k).put o.dst v ∧ ∀ (b : Act) (w : World) (K : Act → World → Prop) (Q : Exit → Act → World → Prop), Agree ops o (A k) b → S w →
      (∀ w', S w' → K (b.put o.dst v) w') → (if Region.wanted o (yielded ops b.tmps) then o.wp P b w K Q ∨ (o.asks P b w ∧ LetsOut Q) else K (b.put o.dst undef) w) := fun k o hk ho => by
    obtain ⟨g, d⟩ := hA k o (by rw [List.getElem?_take, if_pos hk]; simpa using ho)
    exact gives_val g d (seqOk_spec hok ho).1 hS
  have hlen : (ops.toList.take m).length = m := by simp [Nat.min_eq_left hms]
  rw [hlen] at hQ
  have asz : ∀ k, k ≤ m → (A k).tmps.size = a.tmps.size ∧ (A k).defers = a.defers := by
    intro k
    induction k with
    | zero => intro _; rw [hA0]; exact ⟨rfl, rfl⟩
    | succ k ih =>
      intro hk
      obtain ⟨v, hv, _⟩ := hA' k _ (by omega) (Array.getElem?_eq_getElem (show k < ops.size by omega))
      obtain ⟨i1, i2⟩ := ih (by omega)
      rw [hv, put_size, put_defs]; exact ⟨i1, i2⟩
  have far : ∀ k t n, k ≤ n → n ≤ m → (∀ i o, k ≤ i → i < n → ops[i]? = some o → o.dst ≠ some t) → (A n).tmps[t]? = (A k).tmps[t]? := by
    intro k t n
    induction n with
    | zero => intro h1 _ _; rw [show k = 0 by omega]
    | succ n ih =>
      intro h1 h2 hno
      by_cases hkm : k = n + 1
      · rw [hkm]
      · obtain ⟨v, hv, _⟩ := hA' n _ (by omega) (Array.getElem?_eq_getElem (show n < ops.size by omega))
        rw [hv, put_ne (hno n _ (by omega) (by omega) (Array.getElem?_eq_getElem (show n < ops.size by omega)))]
        exact ih (by omega) (by omega) (fun i o hi hi' ho => hno i o hi (by omega) ho)
  have unlike : ∀ (i j : Nat) (oi oj : Oper) (t : Tmp), ops[i]? = some oi → ops[j]? = some oj → oi.dst = some t → oj.dst = some t → i = j := by
    intro i j oi oj t hi hj ti tj
    by_cases e : i = j
    · exact e
    · exact absurd tj (((seqOk_spec hok hj).2.2 i oi hi e t ti).1)
  have main : ∀ (fuel : Nat) (listed : Array Bool) (b : Act) (w : World), ((List.range m).filter (fun k => !listed.getD k true)).length + (ops.size - m) ≤ fuel →
      Midway ops a (A m) listed b → (∀ k, listed.getD k false = true → k < m) → S w → wpAny P .any ops Q fuel listed b w := by
    intro fuel
    induction fuel with
    | zero =>
      intro listed b w hf hM hin hw
      have hall : ∀ k, k < m → listed.getD k false = true := by
        intro k hk
        have hnil : (List.range m).filter (fun k => !listed.getD k true) = [] := List.length_eq_zero_iff.1 (by omega)
        have := (List.filter_eq_nil_iff.1 hnil) k (List.mem_range.2 hk)
        have hkl : k < listed.size := by rw [hM.len]; omega
        simpa [hkl] using this
      have hfin : b = A m := by
        refine act_ext (Array.ext_getElem? fun t => ?_) (by rw [hM.defers, (asz _ (Nat.le_refl _)).2])
        by_cases hx : ∃ (k : Nat) (o : Oper), k < m ∧ ops[k]? = some o ∧ o.dst = some t
        · obtain ⟨k, o, hk, ho, ht⟩ := hx
          exact hM.done k o t ho (hall k hk) ht
        · rw [hM.left t (fun k o ho hl ht => hx ⟨k, o, hin k hl, ho, ht⟩), far 0 t m (by omega) (Nat.le_refl _) (fun i o _ hi ho ht => hx ⟨i, o, hi, ho, ht⟩), hA0]
      rw [hfin]
      exact forced hok ht (ops.size - m) m 0 listed _ w rfl (by omega) (Nat.le_refl _) hms ⟨hM.len, fun i _ => ⟨fun e => hin i e, fun e => hall i e⟩⟩ hM.closed (hQ w hw)
    | succ fuel ih =>
      intro listed b w hf hM hin hw
      by_cases hall : ∀ k, k < m → listed.getD k false = true
      · have hfin : b = A m := by
          refine act_ext (Array.ext_getElem? fun t => ?_) (by rw [hM.defers, (asz _ (Nat.le_refl _)).2])
          by_cases hx : ∃ (k : Nat) (o : Oper), k < m ∧ ops[k]? = some o ∧ o.dst = some t
          · obtain ⟨k, o, hk, ho, ht⟩ := hx
            exact hM.done k o t ho (hall k hk) ht
          · rw [hM.left t (fun k o ho hl ht => hx ⟨k, o, hin k hl, ho, ht⟩), far 0 t m (by omega) (Nat.le_refl _) (fun i o _ hi ho ht => hx ⟨i, o, hi, ho, ht⟩), hA0]
        rw [hfin]
        exact forced hok ht (ops.size - m) m (fuel + 1) listed _ w rfl (by omega) (Nat.le_refl _) hms ⟨hM.len, fun i _ => ⟨fun e => hin i e, fun e => hall i e⟩⟩ hM.closed (hQ w hw)
      · refine ⟨fun hnil => absurd ?_ hall, fun j hj => ?_⟩
        · -- nothing may come up: then all has
          have hall' : ∀ n k, k < n → k < m → listed.getD k false = true := by
            intro n
            induction n with
            | zero => intro k hk; omega
            | succ n ihn =>
              intro k hk hs
              by_cases hl : listed.getD k false = true
              · exact hl
              · exfalso
                have hks : k < ops.size := by omega
                have hkl : k < listed.size := by rw [hM.len]; exact hks
                have hmem : k ∈ Region.ready .any ops listed := mem_ready.2 ⟨by simpa [hkl] using hl, _, Array.getElem?_eq_getElem hks, fun e he hb => by
                  have hlt := (seqOk_spec hok (Array.getElem?_eq_getElem hks)).2.1 e he hb
                  exact ihn e.on (by omega) (by omega)⟩
                rw [hnil] at hmem
                cases hmem
          exact fun k hk => hall' _ k (Nat.lt_succ_self k) hk
        · obtain ⟨hjun, o, ho, hedges⟩ := mem_ready.1 hj
          have hjs : j < ops.size := (Array.getElem?_eq_some_iff.1 ho).1
          have hjl : j < listed.size := by rw [hM.len]; exact hjs
          have hjun' : listed.getD j false = false := by simpa [hjl] using hjun
          have hmet : AllMet ops listed j := fun o' ho' e he hb => by
            rw [ho] at ho'
            cases ho'
            exact hedges e he hb
          have hjm : j < m := by
            refine Nat.lt_of_not_le fun hle => hall fun k hk => ?_
            exact met_bit hM.closed k (j + 1) j (by omega) hjs hmet (tailOk_spec ht hjs hle (by omega))
          obtain ⟨v, hv, step⟩ := hA' j o hjm ho
          have hag : Agree ops o (A j) b := by
            refine ⟨by rw [hM.size, (asz j (by omega)).1], fun t ht => ?_⟩
            by_cases hx : ∃ (i : Nat) (oi : Oper), ops[i]? = some oi ∧ oi.dst = some t
            · obtain ⟨i, oi, hi, hti⟩ := hx
              by_cases hij : i = j
              · rw [hM.left t (fun k ok hk hlk htk => by
                  have : k = i := unlike k i ok oi t hk hi htk hti
                  rw [this, hij, hjun'] at hlk
                  cases hlk), far 0 t j (by omega) (by omega) (fun k ok _ hk hok' htk => by
                  have : k = i := unlike k i ok oi t hok' hi htk hti
                  omega), hA0]
              · rcases ((seqOk_spec hok ho).2.2 i oi hi hij t hti).2 ht with ⟨hlt, hbit⟩ | ⟨hlt, hbit⟩
                · have hli := met_bit hM.closed i (j + 1) j (by omega) hjs hmet hbit
                  rw [hM.done i oi t hi hli hti]
                  exact far j t m (by omega) (Nat.le_refl _) (fun k ok hk _ hok' htk => by
                    have : k = i := unlike k i ok oi t hok' hi htk hti
                    omega)
                · have hun : listed.getD i false ≠ true := fun hli => by
                    have his : i < ops.size := (Array.getElem?_eq_some_iff.1 hi).1
                    have := met_bit hM.closed j (i + 1) i (by omega) his (hM.closed i hli) hbit
                    rw [hjun'] at this
                    cases this
                  rw [hM.left t (fun k ok hk hlk htk => by
                    have : k = i := unlike k i ok oi t hk hi htk hti
                    rw [this] at hlk
                    exact hun hlk), far 0 t j (by omega) (by omega) (fun k ok _ hk hok' htk => by
                    have : k = i := unlike k i ok oi t hok' hi htk hti
                    omega), hA0]
            · rw [hM.left t (fun k ok hk _ htk => hx ⟨k, ok, hk, htk⟩), far 0 t j (by omega) (by omega) (fun k ok _ _ hk htk => hx ⟨k, ok, hk, htk⟩), hA0]
          have hM' : Midway ops a (A m) (listed.setIfInBounds j true) (b.put o.dst v) := by
            refine ⟨by rw [put_size, hM.size], by rw [put_defs, hM.defers], by rw [Array.size_setIfInBounds, hM.len], fun y hy => ?_, fun k ok t hk hlk htk => ?_, fun t hno => ?_⟩
            · intro oy hoy e he hb
              by_cases hyj : j = y
              · subst hyj
                exact getD_set_true (hmet oy hoy e he hb)
              · rw [getD_set_ne false hyj] at hy
                exact getD_set_true (hM.closed y hy oy hoy e he hb)
            · by_cases hkj : j = k
              · subst hkj
                rw [ho] at hk
                cases hk
                rw [htk, put_at (b := A j) (by rw [hM.size, (asz j (by omega)).1]), ← htk, ← hv]
                exact (far (j + 1) t m (by omega) (Nat.le_refl _) (fun i oi hi _ hoi hti => by
                  have : i = j := unlike i j oi o t hoi ho hti htk
                  omega)).symm
              · rw [getD_set_ne false hkj] at hlk
                rw [put_ne (fun e => hkj (unlike j k o ok t ho hk e htk))]
                exact hM.done k ok t hk hlk htk
            · have hjt : o.dst ≠ some t := hno j o ho (by simp [hjl])
              rw [put_ne hjt]
              refine hM.left t (fun k ok hk hlk => hno k ok hk ?_)
              exact getD_set_true hlk
          unfold wpOp
          simp only [ho]
          refine step b w _ Q hag hw (fun w' hw' => ih _ _ w' ?_ hM' (fun k hk => ?_) hw')
          · have := count_lt (p := fun k => !listed.getD k true) (q := fun k => !(listed.setIfInBounds j true).getD k true) (fun k hk => by
              by_cases hkj : j = k
              · subst hkj; simp [hjun]
              · rw [getD_set_ne true hkj] at hk; exact hk) (j := j) (by simp [hjun]) (by simp [hjl]) (List.mem_range.2 hjm)
            omega
          · by_cases hkj : j = k
            · omega
            · rw [getD_set_ne false hkj] at hk
              exact hin k hk
  refine wp_region_any hm (main ops.size _ a w.drew ?_ ?_ ?_ hS)
  · have := List.length_filter_le (fun k => !(Array.replicate ops.size false).getD k true) (List.range m)
    simp only [List.length_range] at this
    omega
  · refine ⟨rfl, rfl, by simp, fun y hy => ?_, fun k o t ho hk _ => ?_, fun t _ => rfl⟩
    · simp [Array.getElem?_replicate] at hy
      split at hy <;> simp at hy
    · simp [Array.getElem?_replicate] at hk
      split at hk <;> simp at hk
  · intro k hk
    simp [Array.getElem?_replicate] at hk
    split at hk <;> simp at hk
/-- An operation whose guard is not decided: its value, or none. -/
theorem gives_guard {o : Oper} {a : Act} {v : Value} (x : Bool) (hw : Region.wanted o (yielded ops a.tmps) = x) (h : x = true → Gives P ops S { o with guard := none } a (a.put o.dst v)) :
    Gives P ops S o a (a.put o.dst (bif x then v else undef)) := by
  intro w hS
  unfold wpList
  cases x with
  | true =>
    rw [if_pos hw]
    have h1 := h rfl w hS
    unfold wpList at h1
    rw [if_pos (by simp [Region.wanted])] at h1
    exact h1
  | false =>
    rw [if_neg (by rw [hw]; simp)]
    exact ⟨rfl, rfl, hS⟩
theorem wanted_yes {o : Oper} {a : Act} {j : Nat} {t : Tmp} {b : Bool} (hg : o.guard = some (j, true)) (ht : (ops[j]?).bind (·.dst) = some t) (hb : a.tmps[t]? = some (.bool b)) :
    Region.wanted o (yielded ops a.tmps) = b := by simp [Region.wanted, hg, yielded, ht, hb]
theorem wanted_no {o : Oper} {a : Act} {j : Nat} {t : Tmp} {b : Bool} (hg : o.guard = some (j, false)) (ht : (ops[j]?).bind (·.dst) = some t) (hb : a.tmps[t]? = some (.bool b)) :
    Region.wanted o (yielded ops a.tmps) = !b := by cases b <;> simp [Region.wanted, hg, yielded, ht, hb]
theorem wanted_yes2 {o : Oper} {a : Act} {j : Nat} {t : Tmp} {b g : Bool} (hg : o.guard = some (j, true)) (ht : (ops[j]?).bind (·.dst) = some t) (hb : a.tmps[t]? = some (bif g then .bool b else undef)) :
    Region.wanted o (yielded ops a.tmps) = (g && b) := by cases g <;> simp [Region.wanted, hg, yielded, ht, hb, undef]
theorem wanted_no2 {o : Oper} {a : Act} {j : Nat} {t : Tmp} {b g : Bool} (hg : o.guard = some (j, false)) (ht : (ops[j]?).bind (·.dst) = some t) (hb : a.tmps[t]? = some (bif g then .bool b else undef)) :
    Region.wanted o (yielded ops a.tmps) = (g && !b) := by cases g <;> cases b <;> simp [Region.wanted, hg, yielded, ht, hb, undef]
/-- '&&' and '||' whose left side is not decided. -/
theorem gives_and {o : Oper} {a : Act} {t u : Tmp} {p q : Bool} (ho : o.op = .pick (.tmp t) (.tmp u) (.const (.bool false))) (hg : o.guard = none) (ht : a.tmps[t]? = some (.bool p))
    (hu : a.tmps[u]? = some (bif p then .bool q else undef)) : Gives P ops S o a (a.put o.dst (.bool (p && q))) := by
  intro w hS
  unfold wpList
  rw [if_pos (by simp [Region.wanted, hg])]
  refine .inl ?_
  unfold Oper.wp
  have hr : (execOp a.eval o).run P w = .ok (.value (.bool (p && q))) w := by
    unfold execOp
    rw [ho]
    cases p <;> simp [Act.eval, ht, hu, asBool]
  rw [hr]
  exact ⟨rfl, rfl, hS⟩
theorem gives_or {o : Oper} {a : Act} {t u : Tmp} {p q : Bool} (ho : o.op = .pick (.tmp t) (.const (.bool true)) (.tmp u)) (hg : o.guard = none) (ht : a.tmps[t]? = some (.bool p))
    (hu : a.tmps[u]? = some (bif !p then .bool q else undef)) : Gives P ops S o a (a.put o.dst (.bool (p || q))) := by
  intro w hS
  unfold wpList
  rw [if_pos (by simp [Region.wanted, hg])]
  refine .inl ?_
  unfold Oper.wp
  have hr : (execOp a.eval o).run P w = .ok (.value (.bool (p || q))) w := by
    unfold execOp
    rw [ho]
    cases p <;> simp [Act.eval, ht, hu, asBool]
  rw [hr]
  exact ⟨rfl, rfl, hS⟩
theorem walked_cons {Qf : Act → Prop} {o : Oper} {r : List Oper} {a a' : Act} (hg : Gives P ops S o a a') (hd : a'.defers = a.defers) (hr : Walked P ops S Qf r a') : Walked P ops S Qf (o :: r) a := ⟨a', hg, hd, hr⟩
theorem walked_nil {Qf : Act → Prop} {a : Act} (h : Qf a) : Walked P ops S Qf [] a := h
end
end Go.Proofs.Ytlbehhbicmmdoaa
namespace Go.Proofs.Ytlbehhbicmmdoaa
set_option linter.unusedVariables false
set_option linter.unusedSimpArgs false
open Go.RowKit
theorem mask_value (low n : Nat) (h1 : 1 ≤ n) (h2 : low + n ≤ 64) : IntKind.u64.wrap (IntKind.u64.wrap (IntKind.u64.wrap (2 ^ n) - 1) * 2 ^ low) = (maskN low n : Nat) := by
  have hlt := maskN_lt low n h2
  by_cases hn : n = 64
  · subst hn
    obtain rfl : low = 0 := by omega
    rfl
  · have hP : (2 : Nat) ^ n < 18446744073709551616 := by
      rw [← two64]; exact Nat.pow_lt_pow_right (by decide) (by omega)
    have hP0 : 0 < (2 : Nat) ^ n := Nat.two_pow_pos n
    rw [show ((2 : Int) ^ n) = ((2 ^ n : Nat) : Int) by push_cast; rfl, show ((2 : Int) ^ low) = ((2 ^ low : Nat) : Int) by push_cast; rfl]
    rw [show IntKind.u64.wrap ((2 ^ n : Nat) : Int) = ((2 ^ n : Nat) : Int) by rw [IntKind.wrap_u64]; omega]
    rw [show IntKind.u64.wrap (((2 ^ n : Nat) : Int) - 1) = ((2 ^ n - 1 : Nat) : Int) by rw [IntKind.wrap_u64]; omega]
    rw [← Int.natCast_mul, show (2 ^ n - 1) * 2 ^ low = maskN low n from rfl, IntKind.wrap_u64]
    omega
set_option maxHeartbeats 1000000 in
theorem mask_yes (li ni : Int) (low n : Nat) (hl : li = low) (hn : ni = n) (w : World) (h1 : 1 ≤ n) (h2 : low + n ≤ 64) : Calls Try.prog 79 #[.int .i64 li, .int .i64 ni] w (RetB w (.int .u64 (maskN low n : Nat))) := by
  subst hl hn
  go_enter Try.func79, Try.ntmps79
  go_wp2
  go_ret
  refine ⟨?_, old_refl _⟩
  rw [← mask_value low n h1 h2]
  rfl
set_option maxHeartbeats 1000000 in
theorem field_yes (xi li ni : Int) (x low n : Nat) (hx : xi = x) (hl : li = low) (hn : ni = n) (w : World) (hxl : x < 18446744073709551616) (h1 : 1 ≤ n) (h2 : low + n ≤ 64) :
    Calls Try.prog 70 #[.int .u64 xi, .int .i64 li, .int .i64 ni] w (RetB w (.int .u64 (fieldN x low n : Nat))) := by
  subst hx hl hn
  have hand := bits_and_u64_nat x (maskN low n) hxl (maskN_lt low n h2)
  have hm := maskN_pos low n h1
  have hmb : (((maskN low n : Nat) : Int) != 0) = true := by rw [bne_iff_ne]; omega
  have hv : ((x &&& maskN low n : Nat) : Int) / 2 ^ low = ((fieldN x low n : Nat) : Int) := by rw [← fieldN_and]; push_cast; rfl
  go_enter Try.func70, Try.ntmps70
  go_wp2_with fail
  (with_reducible refine (mask_yes low n low n rfl rfl _ h1 h2).mono ?_)
  rintro e w1 ⟨rfl, hb1⟩
  generalize hmm : maskN low n = m at *
  go_wp2
  go_ret
  refine ⟨?_, hb1⟩
  rw [← hv]
  rfl
end Go.Proofs.Ytlbehhbicmmdoaa
namespace Go.Proofs.Ytlbehhbicmmdoaa
set_option linter.unusedVariables false
set_option linter.unusedSimpArgs false
open Go.RowKit
/-- How many bytes an entry of a level has. -/
def spanN (l : Nat) : Nat := if l = 0 then 549755813888 else if l = 1 then 1073741824 else if l = 2 then 2097152 else 4096
theorem spanN_pow (l : Nat) (h : l ≤ 3) : spanN l = 2 ^ (12 + 9 * (3 - l)) := by
  obtain rfl | rfl | rfl | rfl : l = 0 ∨ l = 1 ∨ l = 2 ∨ l = 3 := by omega
  all_goals rfl
theorem span_no (li : Int) (w : World) (h : ¬ (0 ≤ li ∧ li ≤ 3)) : Calls Try.prog 53 #[.int .i64 li] w (RetB w (.int .u64 0)) := by
  by_cases h1 : li < 0
  · clear h
    go_enter Try.func53, Try.ntmps53
    go_wp2
    go_ret
    exact ⟨rfl, old_refl _⟩
  · have h2 : 4 ≤ li := by omega
    clear h
    go_enter Try.func53, Try.ntmps53
    go_wp2
    go_ret
    exact ⟨rfl, old_refl _⟩
theorem span_yes (li : Int) (l : Nat) (hl : li = l) (w : World) (h : l ≤ 3) : Calls Try.prog 53 #[.int .i64 li] w (RetB w (.int .u64 (spanN l : Nat))) := by
  subst hl
  obtain rfl | rfl | rfl | rfl : l = 0 ∨ l = 1 ∨ l = 2 ∨ l = 3 := by omega
  all_goals
    go_enter Try.func53, Try.ntmps53
    go_wp2
    go_ret
    exact ⟨rfl, old_refl _⟩
theorem span_next (j : Nat) (h : j ≤ 3) (h0 : 0 < j) : IntKind.u64.wrap (((spanN j : Nat) : Int) * 512) = (spanN (j - 1) : Nat) := by
  obtain rfl | rfl | rfl : j = 1 ∨ j = 2 ∨ j = 3 := by omega
  all_goals rfl
set_option maxHeartbeats 1000000 in
theorem refSpan_yes (li : Int) (l : Nat) (hl : li = l) (w : World) (h : l ≤ 3) : Calls Try.prog 52 #[.int .i64 li] w (RetB w (.int .u64 (spanN l : Nat))) := by
  subst hl
  go_enter Try.func52, Try.ntmps52
  go_wp2
  go_loopw [3, 4] (fun s i wr => ∃ j : Nat, i = .int .i64 j ∧ l ≤ j ∧ j ≤ 3 ∧ s = .int .u64 (spanN j : Nat) ∧ Old w wr) (fun _ i _ => (intOf i).toNat)
  case atStart => exact ⟨3, rfl, h, by omega, rfl, old_refl _⟩
  case round =>
    obtain ⟨j, rfl, hj, hj3, rfl, hO⟩ := hrel
    by_cases hjl : j = l
    · subst hjl
      go_wp2
      go_ret
      exact ⟨rfl, hO⟩
    · have hnx := span_next j hj3 (by omega)
      go_wp2
      go_roundw
      case rel => exact ⟨j - 1, by rw [Int.natCast_sub (by omega)]; rfl, by omega, by omega, by first | rfl | rw [← hnx], hO⟩
      case measure => (simp [intOf]) <;> omega
/-- An address' index of a level. -/
def indexN (x l : Nat) : Nat := fieldN x (12 + 9 * (3 - l)) 9
theorem indexN_lt (x l : Nat) : indexN x l < 512 := Nat.mod_lt _ (by decide)
theorem indexN_div (x l : Nat) (h : l ≤ 3) : x / spanN l % 512 = indexN x l := by rw [spanN_pow l h]; rfl
theorem index_yes (xi li : Int) (x l : Nat) (hx : xi = x) (hl : li = l) (w : World) (hxl : x < 18446744073709551616) (h : l ≤ 3) :
    Calls Try.prog 46 #[.int .u64 xi, .int .i64 li] w (RetB w (.int .i64 (indexN x l : Nat))) := by
  subst hx hl
  have hlt := indexN_lt x l
  have hf : fieldN x (12 + 9 * (3 - l)) 9 = indexN x l := rfl
  go_enter Try.func46, Try.ntmps46
  go_wp2_with fail
  (with_reducible refine (field_yes x _ 9 x (12 + 9 * (3 - l)) 9 rfl (by omega) rfl _ hxl (by omega) (by omega)).mono ?_)
  rw [hf]
  rintro e w1 ⟨rfl, hb1⟩
  go_wp2
  go_ret
  exact ⟨rfl, hb1⟩
end Go.Proofs.Ytlbehhbicmmdoaa
namespace Go.Proofs.Ytlbehhbicmmdoaa
set_option linter.unusedVariables false
set_option linter.unusedSimpArgs false
open Go.RowKit
/-- A jump to a label, else Q. -/
def toLabel (R : Nat → Act → World → Prop) (Q : Exit → Act → World → Prop) : Exit → Act → World → Prop
  | .goto l, a, w => R l a w
  | e, a, w => Q e a w
theorem wp_scope_labels {P : Program} {c : Code} {a : Act} {w : World} {Q : Exit → Act → World → Prop} (J : Nat → Nat → Act → World → Prop)
    (first : c.wp P (toLabel (fun l a w => ∃ k, J l k a w) Q) a w)
    (pass : ∀ l k a w, J l k a w → ∃ rest, findLabel c l = some rest ∧ rest.wp P (toLabel (fun l' a' w' => ∃ j, j < k ∧ J l' j a' w') Q) a w) : (Code.scope c).wp P Q a w := by
  intro b k cs
  have key : ∀ n l a w, J l n a w → ∃ rest, findLabel c l = some rest ∧ ∃ e a' w', Q e a' w' ∧ Arrives P (lone (b.at a (.code rest :: .inScope c :: k)) cs w) b k cs e a' w' := by
    intro n
    induction n using Nat.strongRecOn with
    | _ n ih =>
      intro l a w hJ
      obtain ⟨rest, hf, hw⟩ := pass l n a w hJ
      refine ⟨rest, hf, ?_⟩
      obtain ⟨e, a₁, w₁, hq, harr⟩ := hw b (.inScope c :: k) cs
      cases e with
      | normal => exact ⟨.normal, a₁, w₁, hq, Steps.trans harr (.one step_inScope)⟩
      | exit id => exact ⟨.exit id, a₁, w₁, hq, fun k' hk => harr k' (by simp [exitTo, hk])⟩
      | goto l' =>
        obtain ⟨j, hlt, hJ'⟩ := hq
        obtain ⟨rest', hf', e₂, a₂, w₂, hq₂, harr₂⟩ := ih j hlt l' a₁ w₁ hJ'
        have hg : gotoIn l' (.inScope c :: k) = some (.code rest' :: .inScope c :: k) := by simp [gotoIn, hf']
        exact ⟨e₂, a₂, w₂, hq₂, .of_steps (harr _ hg) harr₂⟩
      | ret => exact ⟨_, a₁, w₁, hq, harr⟩
      | panic ch => exact ⟨_, a₁, w₁, hq, harr⟩
      | outgrown => exact ⟨_, a₁, w₁, hq, harr⟩
  obtain ⟨e, a₁, w₁, hq, harr⟩ := first b (.inScope c :: k) cs
  cases e with
  | normal => exact ⟨.normal, a₁, w₁, hq, .head step_scope (Steps.trans harr (.one step_inScope))⟩
  | exit id => exact ⟨.exit id, a₁, w₁, hq, fun k' hk => .head step_scope (harr k' (by simp [exitTo, hk]))⟩
  | goto l' =>
    obtain ⟨n, hJ'⟩ := hq
    obtain ⟨rest', hf', e₂, a₂, w₂, hq₂, harr₂⟩ := key n l' a₁ w₁ hJ'
    have hg : gotoIn l' (.inScope c :: k) = some (.code rest' :: .inScope c :: k) := by simp [gotoIn, hf']
    exact ⟨e₂, a₂, w₂, hq₂, .of_steps (.head step_scope (harr _ hg)) harr₂⟩
  | ret => exact ⟨_, a₁, w₁, hq, .of_steps (.one step_scope) harr⟩
  | panic ch => exact ⟨_, a₁, w₁, hq, .of_steps (.one step_scope) harr⟩
  | outgrown => exact ⟨_, a₁, w₁, hq, .of_steps (.one step_scope) harr⟩
theorem toLabel_mono {R R' : Nat → Act → World → Prop} {Q : Exit → Act → World → Prop} (h : ∀ l a w, R l a w → R' l a w) (e : Exit) (a : Act) (w : World) (hq : toLabel R Q e a w) : toLabel R' Q e a w := by
  cases e <;> first | exact h _ _ _ hq | exact hq
/-- One label: what stands behind it is walked once, for the jumps and for the way that comes to it from above. -/
theorem wp_scope_once {P : Program} {c : Code} {a : Act} {w : World} {Q : Exit → Act → World → Prop} (l : Nat) (J : Nat → Act → World → Prop) (rest : Code) (hf : findLabel c l = some (Code.skip.seq rest))
    (pass : ∀ k a w, J k a w → rest.wp P (toLabel (fun l' a' w' => l' = l ∧ ∃ j, j < k ∧ J j a' w') Q) a w)
    (first : (∀ k a w, J k a w → rest.wp P (toLabel (fun l' a' w' => ∃ j, l' = l ∧ J j a' w') Q) a w) → c.wp P (toLabel (fun l' a w => ∃ k, l' = l ∧ J k a w) Q) a w) : (Code.scope c).wp P Q a w := by
  refine wp_scope_labels (fun l' k a w => l' = l ∧ J k a w) (first fun k a w h => ?_) ?_
  · exact wp_mono (pass k a w h) (fun e a w => toLabel_mono (fun l' a w ⟨hl, j, _, hj⟩ => ⟨j, hl, hj⟩) e a w)
  · rintro l' k a w ⟨rfl, h⟩
    exact ⟨_, hf, wp_seq (wp_skip (wp_mono (pass k a w h) (fun e a w => toLabel_mono (fun l' a w ⟨hl, j, hlt, hj⟩ => ⟨j, hlt, hl, hj⟩) e a w)))⟩
end Go.Proofs.Ytlbehhbicmmdoaa
namespace Go.Proofs.Ytlbehhbicmmdoaa
set_option linter.unusedVariables false
set_option linter.unusedSimpArgs false
open Go.RowKit
/-- The frame of 'sized' at its labels. -/
def SizedFrame (s j : Int) (a : Act) : Prop := ∃ u1 u4 u5 u6 u7 u8 u9 u10 u11 u12 u13 : Value, a = { tmps := #[.int .i64 s, u1, .bool false, .int .i64 j, u4, u5, u6, u7, u8, u9, u10, u11, u12, u13], defers := [] }
def SizedJ (s : Int) (W : World) (l k : Nat) (a : Act) (w : World) : Prop :=
  Old W w ∧ ((l = 0 ∧ k = 0 ∧ (s = 1 ∨ s = 2 ∨ s = 4 ∨ s = 8) ∧ ∃ j, SizedFrame s j a) ∨
    (l = 1 ∧ k = 3 ∧ s ≠ 1 ∧ SizedFrame s 1 a) ∨ (l = 1 ∧ k = 2 ∧ s ≠ 1 ∧ s ≠ 2 ∧ SizedFrame s 2 a) ∨ (l = 1 ∧ k = 1 ∧ s ≠ 1 ∧ s ≠ 2 ∧ s ≠ 4 ∧ SizedFrame s 3 a))
set_option maxHeartbeats 1000000 in
theorem sized_calls (s : Int) (w : World) : Calls Try.prog 82 #[.int .i64 s] w (RetB w (.bool (decide (s = 1 ∨ s = 2 ∨ s = 4 ∨ s = 8)))) := by
  go_enter Try.func82, Try.ntmps82
  go_wp2
  refine wp_scope_labels (SizedJ s w) ?_ ?_
  · by_cases h : s = 1
    · go_wp2
      go_step3
      go_wp2
      go_step3
      exact ⟨0, old_refl _, .inl ⟨rfl, rfl, .inl h, _, _, _, _, _, _, _, _, _, _, _, _, rfl⟩⟩
    · go_wp2
      go_step3
      go_wp2
      go_step3
      exact ⟨3, old_refl _, .inr (.inl ⟨rfl, rfl, h, _, _, _, _, _, _, _, _, _, _, _, rfl⟩)⟩
  · rintro l k a x ⟨hO, ⟨rfl, rfl, hs, j, hf⟩ | ⟨rfl, rfl, h1, hf⟩ | ⟨rfl, rfl, h1, h2, hf⟩ | ⟨rfl, rfl, h1, h2, h4, hf⟩⟩
    · obtain ⟨u1, u4, u5, u6, u7, u8, u9, u10, u11, u12, u13, rfl⟩ := hf
      refine ⟨_, rfl, ?_⟩
      have hd : decide (s = 1 ∨ s = 2 ∨ s = 4 ∨ s = 8) = true := decide_eq_true hs
      rw [hd]
      clear hd hs
      go_wp2
      go_ret
      exact ⟨rfl, hO⟩
    · obtain ⟨u1, u4, u5, u6, u7, u8, u9, u10, u11, u12, u13, rfl⟩ := hf
      refine ⟨_, rfl, ?_⟩
      by_cases h : s = 2
      · go_wp2
        go_step3
        exact ⟨0, by omega, hO, .inl ⟨rfl, rfl, .inr (.inl h), _, _, _, _, _, _, _, _, _, _, _, _, rfl⟩⟩
      · go_wp2
        go_step3
        exact ⟨2, by omega, hO, .inr (.inr (.inl ⟨rfl, rfl, h1, h, _, _, _, _, _, _, _, _, _, _, _, rfl⟩))⟩
    · obtain ⟨u1, u4, u5, u6, u7, u8, u9, u10, u11, u12, u13, rfl⟩ := hf
      refine ⟨_, rfl, ?_⟩
      by_cases h : s = 4
      · go_wp2
        go_step3
        exact ⟨0, by omega, hO, .inl ⟨rfl, rfl, .inr (.inr (.inl h)), _, _, _, _, _, _, _, _, _, _, _, _, rfl⟩⟩
      · go_wp2
        go_step3
        exact ⟨1, by omega, hO, .inr (.inr (.inr ⟨rfl, rfl, h1, h2, h, _, _, _, _, _, _, _, _, _, _, _, rfl⟩))⟩
    · obtain ⟨u1, u4, u5, u6, u7, u8, u9, u10, u11, u12, u13, rfl⟩ := hf
      refine ⟨_, rfl, ?_⟩
      by_cases h : s = 8
      · go_wp2
        go_step3
        exact ⟨0, by omega, hO, .inl ⟨rfl, rfl, .inr (.inr (.inr h)), _, _, _, _, _, _, _, _, _, _, _, _, rfl⟩⟩
      · have hd : decide (s = 1 ∨ s = 2 ∨ s = 4 ∨ s = 8) = false := decide_eq_false (by omega)
        rw [hd]
        clear hd
        go_wp2
        go_ret
        exact ⟨rfl, hO⟩
/-- Why no number stands there (0: one does), among n bytes. -/
def checkN (n : Nat) (p s : Int) : Int := if ¬ (s = 1 ∨ s = 2 ∨ s = 4 ∨ s = 8) then 1 else if p % s ≠ 0 then 3 else if p < 0 ∨ (n : Int) < p + s then 2 else 0
theorem checkN_arg {n : Nat} {p s : Int} (h : ¬ (s = 1 ∨ s = 2 ∨ s = 4 ∨ s = 8)) : checkN n p s = 1 := by unfold checkN; rw [if_pos h]
theorem checkN_align {n : Nat} {p s : Int} (h : s = 1 ∨ s = 2 ∨ s = 4 ∨ s = 8) (h2 : p % s ≠ 0) : checkN n p s = 3 := by unfold checkN; rw [if_neg (not_not_intro h), if_pos h2]
theorem checkN_range {n : Nat} {p s : Int} (h : s = 1 ∨ s = 2 ∨ s = 4 ∨ s = 8) (h2 : p % s = 0) (h3 : p < 0 ∨ (n : Int) < p + s) : checkN n p s = 2 := by unfold checkN; rw [if_neg (not_not_intro h), if_neg (not_not_intro h2), if_pos h3]
theorem checkN_ok {n : Nat} {p s : Int} (h : s = 1 ∨ s = 2 ∨ s = 4 ∨ s = 8) (h2 : p % s = 0) (h3 : ¬ (p < 0 ∨ (n : Int) < p + s)) : checkN n p s = 0 := by unfold checkN; rw [if_neg (not_not_intro h), if_neg (not_not_intro h2), if_neg h3]
theorem tmod_zero (p s : Int) : p.tmod s = 0 ↔ p % s = 0 := by
  rw [← Int.dvd_iff_tmod_eq_zero, Int.dvd_iff_emod_eq_zero]
set_option maxHeartbeats 2000000 in
theorem check_calls (ad : Option Addr) (n c : Nat) (p s : Int) (w : World) (hn : n ≤ maxLen) : Calls Try.prog 78 #[.slice ad n c, .int .i64 p, .int .i64 s] w (RetB w (.int .i64 (checkN n p s))) := by
  by_cases hs : s = 1 ∨ s = 2 ∨ s = 4 ∨ s = 8
  · have hd : decide (s = 1 ∨ s = 2 ∨ s = 4 ∨ s = 8) = true := decide_eq_true hs
    have hs0 : s ≠ 0 := by omega
    have hn63 : n ≤ 9223372036854775807 := hn
    by_cases h2 : p % s = 0
    · have h2t := (tmod_zero p s).2 h2
      by_cases h3 : p < 0 ∨ (n : Int) < p + s
      · rw [checkN_range hs h2 h3]
        by_cases h4 : p < 0
        · clear h3
          have HS := Lib.hid hs
          clear hs h2
          go_enter Try.func78, Try.ntmps78
          go_wp2_with fail
          (with_reducible refine (sized_calls s _).mono ?_)
          rw [hd]
          rintro e w1 ⟨rfl, hb1⟩
          go_wp2
          go_ret
          exact ⟨rfl, hb1⟩
        · by_cases h5 : (n : Int) < s
          · clear h3
            have HS := Lib.hid hs
            clear hs h2
            go_enter Try.func78, Try.ntmps78
            go_wp2_with fail
            (with_reducible refine (sized_calls s _).mono ?_)
            rw [hd]
            rintro e w1 ⟨rfl, hb1⟩
            go_wp2
            go_ret
            exact ⟨rfl, hb1⟩
          · have h6 : (n : Int) - s < p := by omega
            have h7 : 1 ≤ s ∧ s ≤ 8 := by omega
            clear h3
            have HS := Lib.hid hs
            clear hs h2
            go_enter Try.func78, Try.ntmps78
            go_wp2_with fail
            (with_reducible refine (sized_calls s _).mono ?_)
            rw [hd]
            rintro e w1 ⟨rfl, hb1⟩
            go_wp2
            go_ret
            exact ⟨rfl, hb1⟩
      · rw [checkN_ok hs h2 h3]
        have h4 : 0 ≤ p := by omega
        have h5 : s ≤ (n : Int) := by omega
        have h6 : p ≤ (n : Int) - s := by omega
        have h7 : 1 ≤ s ∧ s ≤ 8 := by omega
        clear h3
        have HS := Lib.hid hs
        clear hs h2
        go_enter Try.func78, Try.ntmps78
        go_wp2_with fail
        (with_reducible refine (sized_calls s _).mono ?_)
        rw [hd]
        rintro e w1 ⟨rfl, hb1⟩
        go_wp2
        go_ret
        exact ⟨rfl, hb1⟩
    · rw [checkN_align hs h2]
      have h2t : (p.tmod s != 0) = true := by rw [bne_iff_ne, ne_eq, tmod_zero]; exact h2
      have HS := Lib.hid hs
      clear hs h2
      go_enter Try.func78, Try.ntmps78
      go_wp2_with fail
      (with_reducible refine (sized_calls s _).mono ?_)
      rw [hd]
      rintro e w1 ⟨rfl, hb1⟩
      go_wp2
      go_ret
      exact ⟨rfl, hb1⟩
  · have hd : decide (s = 1 ∨ s = 2 ∨ s = 4 ∨ s = 8) = false := decide_eq_false hs
    rw [checkN_arg hs]
    clear hs
    go_enter Try.func78, Try.ntmps78
    go_wp2_with fail
    (with_reducible refine (sized_calls s _).mono ?_)
    rw [hd]
    rintro e w1 ⟨rfl, hb1⟩
    go_wp2
    go_ret
    exact ⟨rfl, hb1⟩
end Go.Proofs.Ytlbehhbicmmdoaa
namespace Go.Proofs.Ytlbehhbicmmdoaa
set_option linter.unusedVariables false
set_option linter.unusedSimpArgs false
open Go.RowKit
end Go.Proofs.Ytlbehhbicmmdoaa
namespace Go.Proofs.Ytlbehhbicmmdoaa
set_option linter.unusedVariables false
set_option linter.unusedSimpArgs false
open Go.ChangeShapes Go.WideShapes Go.Deep Go.RowKit Go.Joins
theorem add_eq (a : Addr) (n : Nat) (h : a.spot = none) : a.add n = ⟨a.block, a.off + n, none⟩ := by
  obtain ⟨b, o, s⟩ := a
  simp at h
  subst h
  unfold Addr.add
  split <;> simp_all
section
variable {H : Type} {enc : TypeId × Value → H} {P : Program} {w : World}
end
end Go.Proofs.Ytlbehhbicmmdoaa
namespace Go.Proofs.Ytlbehhbicmmdoaa
set_option linter.unusedVariables false
set_option linter.unusedSimpArgs false
open Go.RowKit
/-- A slice of bytes reads as l. -/
def Bytes (w : World) (ad : Option Addr) (c : Nat) (l : List Nat) : Prop :=
  l.length ≤ c ∧ c ≤ maxLen ∧ (ad = none → c = 0) ∧ ∀ (k x : Nat), l[k]? = some x → x < 256 ∧ ∃ bb off, ad = some ⟨bb, off, none⟩ ∧ bb < w.heap.size ∧ w.cell? ⟨bb, off + k, none⟩ = some (.int .u8 x)
theorem bytes_old {w x : World} {ad : Option Addr} {c : Nat} {l : List Nat} (h : Bytes w ad c l) (ho : Old w x) : Bytes x ad c l := by
  refine ⟨h.1, h.2.1, h.2.2.1, fun k y hy => ?_⟩
  obtain ⟨a, bb, off, rfl, hb, hc⟩ := h.2.2.2 k y hy
  exact ⟨a, bb, off, rfl, Nat.lt_of_lt_of_le hb ho.size, by rw [ho.cell hb]; exact hc⟩
theorem bytes_at {w : World} {ad : Option Addr} {c : Nat} {l : List Nat} (h : Bytes w ad c l) (k : Nat) (hk : k < l.length) :
    ∃ (x bb off : Nat), l[k]? = some x ∧ x < 256 ∧ ad = some ⟨bb, off, none⟩ ∧ bb < w.heap.size ∧ w.cell? ⟨bb, off + k, none⟩ = some (.int .u8 x) := by
  obtain ⟨a, bb, off, rfl, hb, hc⟩ := h.2.2.2 k _ (List.getElem?_eq_getElem hk)
  exact ⟨_, bb, off, List.getElem?_eq_getElem hk, a, rfl, hb, hc⟩
theorem bytes_some {w : World} {ad : Option Addr} {c : Nat} {l : List Nat} (h : Bytes w ad c l) (hl : 0 < l.length) : ∃ bb off, ad = some ⟨bb, off, none⟩ ∧ ∀ k x : Nat, l[k]? = some x → x < 256 ∧ w.cell? ⟨bb, off + k, none⟩ = some (.int .u8 x) := by
  obtain ⟨x, bb, off, _, _, rfl, _, _⟩ := bytes_at h 0 hl
  refine ⟨bb, off, rfl, fun k y hy => ?_⟩
  obtain ⟨a, bb', off', e, _, hc⟩ := h.2.2.2 k y hy
  cases e
  exact ⟨a, hc⟩
theorem bytes_lt {w : World} {ad : Option Addr} {c : Nat} {l : List Nat} (h : Bytes w ad c l) : ∀ x ∈ l, x < 256 := by
  intro x hx
  obtain ⟨k, hk⟩ := List.mem_iff_getElem?.1 hx
  exact (h.2.2.2 k x hk).1
def vb (x : Nat) : Value := .int .u8 x
theorem vb_one (l : List Nat) : ∀ u ∈ l.map vb, u.oneCell' = true := by
  intro u hu
  obtain ⟨x, _, rfl⟩ := List.mem_map.1 hu
  rfl
theorem u8_info : (Try.prog.info? 5).map (fun i => (i.zero, i.size, i.bytes)) = some (some (.int .u8 0), 1, 1) := by kernel_rfl
/-- A row of bytes at block g, from block B on. -/
def Row (w : World) (B g cap : Nat) (l : List Nat) : Prop :=
  w.ownsRow B 5 1 (.slice (some ⟨g, 0, none⟩) l.length cap) l.length (l.map vb) ∧ ∀ x ∈ l, x < 256
section
variable {w w' : World} {B g cap : Nat} {l : List Nat}
theorem row_parts (h : Row w B g cap l) : B ≤ g ∧ g < w.heap.size ∧ l.length ≤ cap ∧ cap ≤ maxLen := by
  rcases h.1.2 with ⟨h', _⟩ | ⟨g', cap', cur, h', hb, hg, hnc, hcm, _⟩
  · simp at h'
  · simp only [Value.slice.injEq, Option.some.injEq, Addr.mk.injEq, and_true, true_and] at h'
    obtain ⟨rfl, rfl⟩ := h'
    exact ⟨hb, lt_of_block hg, hnc, hcm⟩
theorem row_cell (h : Row w B g cap l) {k x : Nat} (hx : l[k]? = some x) : w.cell? ⟨g, k, none⟩ = some (.int .u8 x) := by
  have hk := (List.getElem?_eq_some_iff.1 hx).1
  rw [h.1.cellAt k (by omega), List.getElem?_map, hx]; rfl
theorem row_frozen (h : Row w B g cap l) (k : Nat) : w.frozen? ⟨g, k, none⟩ = false := h.1.frozenAt k
theorem row_set (h : Row w B g cap l) (k x : Nat) (hx : x < 256) : Row (w.setCell ⟨g, k, none⟩ (.int .u8 x)) B g cap (l.set k x) := by
  have := (h.1.stored k (vb x)).1
  refine ⟨?_, fun y hy => ?_⟩
  · rw [List.length_set, List.map_set]; exact this
  · rcases List.mem_or_eq_of_mem_set hy with h1 | rfl
    · exact h.2 y h1
    · exact hx
theorem old_set {w0 : World} (h : Old w0 w) (hg : w0.heap.size ≤ g) (k : Nat) (v : Value) : Old w0 (w.setCell ⟨g, k, none⟩ v) :=
  Only.to_below (((Only.of_below h).setCell ⟨g, k, none⟩ v (fun hlt => absurd hlt (by show ¬ g < _; omega))))
theorem row_bytes (h : Row w B g cap l) : Bytes w (some ⟨g, 0, none⟩) cap l := by
  obtain ⟨a, b, c, d⟩ := row_parts h
  exact ⟨c, d, fun e => (by cases e), fun k x hx => ⟨h.2 x (List.mem_of_getElem? hx), g, 0, rfl, b, by rw [Nat.zero_add]; exact row_cell h hx⟩⟩
theorem row_only {F : Nat → Prop} (h : Row w B g cap l) (ho : Only F w w') (hF : ¬ F g) : Row w' B g cap l := by
  refine ⟨⟨h.1.1, ?_⟩, h.2⟩
  rcases h.1.2 with h' | ⟨g', cap', cur, h', hb, hg, rest⟩
  · exact .inl h'
  · simp only [Value.slice.injEq, Option.some.injEq, Addr.mk.injEq, and_true, true_and] at h'
    obtain ⟨rfl, rfl⟩ := h'
    exact .inr ⟨g, cap, cur, rfl, hb, keep_only ho hF hg, rest⟩
/-- A row out of what append leaves. -/
theorem row_of {v : Value} {n : Nat} (h : w.ownsRow B 5 1 v n (l.map vb)) (hn : n = l.length) (h0 : 0 < n) (hl : ∀ x ∈ l, x < 256) : ∃ g cap, v = .slice (some ⟨g, 0, none⟩) l.length cap ∧ Row w B g cap l := by
  subst hn
  rcases h.2 with ⟨_, h'⟩ | ⟨g', cap', cur, rfl, _⟩
  · omega
  · exact ⟨g', cap', rfl, h, hl⟩
theorem old_grown {w0 : World} {row : Option Nat} (h : Old w0 w) (hg : w.grownBy w' row) (hr : ∀ g, row = some g → w0.heap.size ≤ g) : Old w0 w' :=
  ⟨hg.os.trans h.os, hg.tape.trans h.tape, hg.output.trans h.output, Nat.le_trans h.size hg.size, fun k hk =>
    (hg.block k (Nat.lt_of_lt_of_le hk h.size) (fun e => by have := hr k e.symm; omega)).trans (h.block k hk)⟩
end
theorem bytes_news {w : World} {bb off c : Nat} {l : List Nat} (h : Bytes w (some ⟨bb, off, none⟩) c l) : ∀ (j : Nat) (u : Value), (l.map vb)[j]? = some u → w.cell? ((⟨bb, off, none⟩ : Addr).add j) = some u := by
  intro j u hu
  rw [List.getElem?_map] at hu
  obtain ⟨x, hx, rfl⟩ := Option.map_eq_some_iff.1 hu
  obtain ⟨_, bb', off', e, _, hc⟩ := h.2.2.2 j x hx
  cases e
  by_cases h0 : j = 0
  · subst h0; exact hc
  · rw [show (⟨bb, off, none⟩ : Addr).add j = ⟨bb, off + j, none⟩ by simp [Addr.add, h0]]
    exact hc
theorem bytes_news2 {w : World} {a : Addr} {c : Nat} {l : List Nat} (h : Bytes w (some a) c l) : ∀ (j : Nat) (u : Value), (l.map vb)[j]? = some u → w.cell? (a.add j) = some u := by
  intro j u hu
  rw [List.getElem?_map] at hu
  obtain ⟨x, hx, rfl⟩ := Option.map_eq_some_iff.1 hu
  obtain ⟨_, bb, off, e, _, hc⟩ := h.2.2.2 j x hx
  cases e
  rw [add_eq _ _ rfl]
  exact hc
section
open Go.ChangeShapes Go.WideShapes Go.Deep Go.RowKit Go.Joins
variable {H : Type} {enc : TypeId × Value → H} {P : Program} {w : World}
end
end Go.Proofs.Ytlbehhbicmmdoaa
namespace Go.Proofs.Ytlbehhbicmmdoaa
set_option linter.unusedVariables false
set_option linter.unusedSimpArgs false
open Go.RowKit
/-- The number that k bytes make, the lowest first. -/
def getN (l : List Nat) (p : Nat) : Nat → Nat
  | 0 => 0
  | k + 1 => getN l p k + l.getD (p + k) 0 * 2 ^ (8 * k)
theorem getN_lt {l : List Nat} (hl : ∀ x ∈ l, x < 256) (p k : Nat) : getN l p k < 2 ^ (8 * k) := by
  induction k with
  | zero => simp [getN]
  | succ k ih =>
    have hx : l.getD (p + k) 0 < 256 := by
      rw [List.getD_eq_getElem?_getD]
      cases e : l[p + k]? with
      | none => simp
      | some x => exact hl x (List.mem_of_getElem? e)
    have e : (2 : Nat) ^ (8 * (k + 1)) = 256 * 2 ^ (8 * k) := by rw [show 8 * (k + 1) = 8 + 8 * k by omega, Nat.pow_add]
    show getN l p k + l.getD (p + k) 0 * 2 ^ (8 * k) < _
    rw [e]
    calc getN l p k + l.getD (p + k) 0 * 2 ^ (8 * k) < 2 ^ (8 * k) + l.getD (p + k) 0 * 2 ^ (8 * k) := by omega
      _ = (l.getD (p + k) 0 + 1) * 2 ^ (8 * k) := by rw [Nat.add_mul, Nat.one_mul, Nat.add_comm]
      _ ≤ 256 * 2 ^ (8 * k) := Nat.mul_le_mul_right _ (by omega)
/-- One byte more. -/
theorem get_step {l : List Nat} (hl : ∀ x ∈ l, x < 256) {p k x : Nat} (hx : l[p + k]? = some x) (hk : k < 8) :
    bits .or .u64 ((getN l p k : Nat) : Int) (IntKind.u64.wrap ((x : Int) * 2 ^ (8 * k))) = (getN l p (k + 1) : Nat) := by
  have h0 : getN l p (k + 1) = getN l p k + x * 2 ^ (8 * k) := by
    show getN l p k + l.getD (p + k) 0 * 2 ^ (8 * k) = _
    rw [List.getD_eq_getElem?_getD, hx]; rfl
  have h1 := getN_lt hl p k
  have h2 := getN_lt hl p (k + 1)
  have h3 : (2 : Nat) ^ (8 * (k + 1)) ≤ 18446744073709551616 := by rw [← two64]; exact Nat.pow_le_pow_right (by decide) (by omega)
  have h4 : IntKind.u64.wrap ((x : Int) * 2 ^ (8 * k)) = ((x * 2 ^ (8 * k) : Nat) : Int) := by
    rw [show (x : Int) * 2 ^ (8 * k) = ((x * 2 ^ (8 * k) : Nat) : Int) by rw [Int.natCast_mul, Int.natCast_pow]; rfl, IntKind.wrap_u64]
    omega
  rw [h4, bits_or_u64_nat _ _ (by omega) (by omega), h0]
  have h5 := Nat.two_pow_add_eq_or_of_lt h1 x
  rw [Nat.or_comm, Nat.mul_comm x, ← h5, Nat.add_comm]
set_option maxHeartbeats 2000000 in
theorem get_fail (ad : Option Addr) (n c : Nat) (p s : Int) (w : World) (hn : n ≤ maxLen) (e : Int) (he : checkN n p s = e) (h0 : e ≠ 0) : Calls Try.prog 76 #[.slice ad n c, .int .i64 p, .int .i64 s] w (RetB w (.tuple #[.int .u64 0, .int .i64 e])) := by
  have hb : (e != 0) = true := bne_iff_ne.2 h0
  go_enter Try.func76, Try.ntmps76
  go_wp2_with fail
  (with_reducible refine (check_calls ad n c p s _ hn).mono ?_)
  rw [he]
  rintro e w1 ⟨rfl, hb1⟩
  go_wp2
  go_ret2
  exact ⟨rfl, hb1⟩
set_option maxHeartbeats 2000000 in
theorem get_ok (ad : Option Addr) (l : List Nat) (c : Nat) (pi si : Int) (p s : Nat) (hp : pi = p) (hs : si = s) (w : World) (hB : Bytes w ad c l) (h0 : checkN l.length p s = 0) (hps : p + s ≤ l.length) (hs1 : 1 ≤ s) (hs8 : s ≤ 8) :
    Calls Try.prog 76 #[.slice ad l.length c, .int .i64 pi, .int .i64 si] w (RetB w (.tuple #[.int .u64 (getN l p s : Nat), .int .i64 0])) := by
  subst hp hs
  have hn : l.length ≤ maxLen := Nat.le_trans hB.1 hB.2.1
  have hn63 : l.length ≤ 9223372036854775807 := hn
  obtain ⟨bb, off, rfl, hcells⟩ := bytes_some hB (by omega)
  go_enter Try.func76, Try.ntmps76
  go_wp2_with fail
  (with_reducible refine (check_calls _ _ c p s _ hn).mono ?_)
  rw [h0]
  rintro e w1 ⟨rfl, hb1⟩
  have hB1 := bytes_old hB hb1
  clear hB h0
  go_wp2
  go_loopw [9, 19] (fun v i wr => ∃ k : Nat, i = .int .i64 k ∧ k ≤ s ∧ v = .int .u64 (getN l p k : Nat) ∧ Old w wr ∧ Old w1 wr) (fun _ i _ => (9 - intOf i).toNat)
  case atStart => exact ⟨0, rfl, by omega, rfl, hb1, old_refl _⟩
  case round =>
    clear hb1
    obtain ⟨k, rfl, hk, rfl, hO, hO1⟩ := hrel
    by_cases hks : k < s
    · obtain ⟨x, bb', off', hx, hx256, e, hbl, hc⟩ := bytes_at (bytes_old hB1 hO1) (p + k) (by omega)
      cases e
      have hst := get_step (bytes_lt hB1) hx (by omega)
      have HB := Lib.hid hB1
      have HC := Lib.hid hcells
      clear hB1 hcells hx
      go_wp2
      go_roundw
      case rel => exact ⟨k + 1, by go_num, by omega, rfl, hO, hO1⟩
      case measure => (simp [intOf]) <;> omega
    · have hks' : k = s := by omega
      subst hks'
      clear hB1 hcells
      go_wp2
      go_ret2
      exact ⟨rfl, hO⟩
end Go.Proofs.Ytlbehhbicmmdoaa
namespace Go.Proofs.Ytlbehhbicmmdoaa
set_option linter.unusedVariables false
set_option linter.unusedSimpArgs false
open Go.RowKit
/-- Bytes with a number put in. -/
def putL (l : List Nat) (p v : Nat) : Nat → List Nat
  | 0 => l
  | k + 1 => (putL l p v k).set (p + k) (v / 2 ^ (8 * k) % 256)
theorem putL_length (l : List Nat) (p v k : Nat) : (putL l p v k).length = l.length := by
  induction k with
  | zero => rfl
  | succ k ih => rw [putL, List.length_set, ih]
theorem byte_shift (v k : Nat) : IntKind.u8.wrap ((v : Int) / 2 ^ (8 * k)) = ((v / 2 ^ (8 * k) % 256 : Nat) : Int) := by
  rw [show (v : Int) / 2 ^ (8 * k) = ((v / 2 ^ (8 * k) : Nat) : Int) by rw [Int.natCast_ediv, Int.natCast_pow]; rfl, IntKind.wrap_u8]
  omega
/-- A new row of bytes was told. -/
def RetRow (w : World) (e0 : Value) (l : List Nat) (e : Ending) (w' : World) : Prop :=
  ∃ g cap, e = .returned (.tuple #[.slice (some ⟨g, 0, none⟩) l.length cap, e0]) ∧ Row w' w.heap.size g cap l ∧ Old w w'
set_option maxHeartbeats 2000000 in
theorem put_ok (ad : Option Addr) (l : List Nat) (c : Nat) (pi si vi : Int) (p s v : Nat) (hp : pi = p) (hs : si = s) (hv : vi = v) (w : World) (hB : Bytes w ad c l) (h0 : checkN l.length p s = 0) (hps : p + s ≤ l.length) (hs1 : 1 ≤ s) (hs8 : s ≤ 8) (hbig : l.length ≤ 1000000) :
    Calls Try.prog 64 #[.slice ad l.length c, .int .i64 pi, .int .i64 si, .int .u64 vi] w (RetRow w (.int .i64 0) (putL l p v s)) := by
  subst hp hs hv
  have hn : l.length ≤ maxLen := Nat.le_trans hB.1 hB.2.1
  have hn63 : l.length ≤ 9223372036854775807 := hn
  obtain ⟨bb, off, rfl, hcells⟩ := bytes_some hB (by omega)
  clear hcells
  obtain ⟨i0, hi, hz0, hz1, hz2⟩ := info_parts u8_info
  go_enter Try.func64, Try.ntmps64
  go_wp2_with fail
  (with_reducible refine (check_calls _ _ c p s _ hn).mono ?_)
  rw [h0]
  rintro e w1 ⟨rfl, hb1⟩
  have hB1 := bytes_old hB hb1
  clear hB h0
  go_wp2_with (at_builtin; refine wpList_append_own _ rfl _ _ 87 rfl w.heap.size 5 i0 (.int .u8 0) 1 1 Try.underlying87 hi hz0 hz1 hz2 rfl (by decide) _ _ [] rfl (World.ownsRow_nil _ _ _ _) ⟨bb, off, none⟩ l.length c (l.map vb) rfl (by simp) (bytes_news hB1) (vb_one l) (by omega) (by omega) hb1.size ?_; intro v' w2 hown hgrow h9; clear h9)
  simp only [Nat.zero_add, List.nil_append] at hown
  obtain ⟨g, cap, rfl, hrow⟩ := row_of hown rfl (by omega) (bytes_lt hB1)
  have hO2 := old_grown hb1 hgrow (fun g e => by cases e)
  clear hown hgrow hB1 hb1
  go_loopw [12, 23] (fun _ i wr => ∃ k : Nat, i = .int .i64 k ∧ k ≤ s ∧ Row wr w.heap.size g cap (putL l p v k) ∧ Old w wr) (fun _ i _ => (9 - intOf i).toNat)
  case atStart => exact ⟨0, rfl, by omega, hrow, hO2⟩
  case round =>
    clear hrow hO2
    obtain ⟨k, rfl, hk, hrow, hO⟩ := hrel
    by_cases hks : k < s
    · have hbyte := byte_shift v k
      have hb256 : v / 2 ^ (8 * k) % 256 < 256 := Nat.mod_lt _ (by decide)
      have hstep : putL l p v (k + 1) = (putL l p v k).set (p + k) (v / 2 ^ (8 * k) % 256) := rfl
      generalize v / 2 ^ (8 * k) % 256 = b at *
      have hlen := putL_length l p v k
      obtain ⟨x, hx⟩ : ∃ x, (putL l p v k)[p + k]? = some x := ⟨_, List.getElem?_eq_getElem (by omega)⟩
      have ck := row_cell hrow hx
      have fk := row_frozen hrow (p + k)
      have hnew := row_set hrow (p + k) b hb256
      have hold := old_set hO (row_parts hrow).1 (p + k) (.int .u8 b)
      rw [← hstep] at hnew
      generalize hW : wr.setCell ⟨g, p + k, none⟩ (.int .u8 b) = W at *
      have HN := Lib.hid hnew
      clear hnew hrow hx hstep
      go_wp2
      go_roundw
      case rel => exact ⟨k + 1, by go_num, by omega, HN.out, hold⟩
      case measure => (simp [intOf]) <;> omega
    · obtain rfl : k = s := by omega
      have HN := Lib.hid hrow
      clear hrow
      go_wp2
      go_ret2
      exact ⟨g, cap, by rw [putL_length]; rfl, HN.out, hO⟩
end Go.Proofs.Ytlbehhbicmmdoaa
namespace Go.Proofs.Ytlbehhbicmmdoaa
set_option linter.unusedVariables false
set_option linter.unusedSimpArgs false
open Go.RowKit
end Go.Proofs.Ytlbehhbicmmdoaa
namespace Go.Proofs.Ytlbehhbicmmdoaa
set_option linter.unusedVariables false
set_option linter.unusedSimpArgs false
open Go.RowKit
theorem i64_mask3 (n : Int) : bits .and .i64 n 3 = n % 4 := by
  have h0 : (BitVec.ofInt 64 3).toNat = 2 ^ 2 - 1 := by decide
  have key : (BitVec.ofInt 64 n &&& BitVec.ofInt 64 3).toNat = (n % ((2 ^ 64 : Nat) : Int)).toNat % 2 ^ 2 := by
    rw [BitVec.toNat_and, BitVec.toNat_ofInt, h0, Nat.and_two_pow_sub_one_eq_mod]
  show IntKind.i64.wrap ((BitVec.ofInt 64 n &&& BitVec.ofInt 64 3).toNat : Nat) = n % 4
  rw [key, IntKind.wrap_i64]
  omega
theorem i64_mask7 (n : Int) : bits .and .i64 n 7 = n % 8 := by
  have h0 : (BitVec.ofInt 64 7).toNat = 2 ^ 3 - 1 := by decide
  have key : (BitVec.ofInt 64 n &&& BitVec.ofInt 64 7).toNat = (n % ((2 ^ 64 : Nat) : Int)).toNat % 2 ^ 3 := by
    rw [BitVec.toNat_and, BitVec.toNat_ofInt, h0, Nat.and_two_pow_sub_one_eq_mod]
  show IntKind.i64.wrap ((BitVec.ofInt 64 n &&& BitVec.ofInt 64 7).toNat : Nat) = n % 8
  rw [key, IntKind.wrap_i64]
  omega
end Go.Proofs.Ytlbehhbicmmdoaa
namespace Go.Proofs.Ytlbehhbicmmdoaa
set_option linter.unusedVariables false
set_option linter.unusedSimpArgs false
open Go.RowKit
theorem wf_u64 {x : Int} (h : (Lit.int .u64 x).wf = true) : ∃ n : Nat, x = n ∧ n < 18446744073709551616 := by
  simp only [Lit.wf, Bool.and_eq_true, decide_eq_true_eq] at h
  have e1 : IntKind.u64.min = 0 := rfl
  have e2 : IntKind.u64.max = 18446744073709551615 := rfl
  rw [e1, e2] at h
  exact ⟨x.toNat, by omega, by omega⟩
end Go.Proofs.Ytlbehhbicmmdoaa
namespace Go.Proofs.Ytlbehhbicmmdoaa
set_option linter.unusedVariables false
set_option linter.unusedSimpArgs false
open Go.RowKit
/-- The first address beyond. -/
def topN (st : Int) : Nat := if st = 1 then 1099511627776 else if st = 2 then 4294967296 else 0
def Place (st lv : Int) : Prop := (st = 1 ∨ st = 2) ∧ 0 ≤ lv ∧ lv ≤ 3
instance (st lv : Int) : Decidable (Place st lv) := by unfold Place; infer_instance
/-- A bit of a word. -/
def flagN (b : Bool) (i : Nat) : Nat := bif b then 2 ^ i else 0
theorem topN_le (st : Int) : topN st ≤ 1099511627776 := by
  unfold topN; split
  · decide
  split <;> decide
theorem top_calls (st : Int) (w : World) : Calls Try.prog 45 #[.int .i64 st] w (RetB w (.int .u64 (topN st : Nat))) := by
  by_cases h1 : st = 1
  · subst h1
    go_enter Try.func45, Try.ntmps45
    go_wp2
    go_ret
    exact ⟨rfl, old_refl _⟩
  by_cases h2 : st = 2
  · subst h2
    go_enter Try.func45, Try.ntmps45
    go_wp2
    go_ret
    exact ⟨rfl, old_refl _⟩
  have ht : topN st = 0 := by unfold topN; rw [if_neg h1, if_neg h2]
  rw [ht]
  go_enter Try.func45, Try.ntmps45
  go_wp2
  go_ret
  exact ⟨rfl, old_refl _⟩
theorem refTop_calls (st : Int) (w : World) : Calls Try.prog 51 #[.int .i64 st] w (RetB w (.int .u64 (topN st : Nat))) := by
  by_cases h1 : st = 1
  · subst h1
    go_enter Try.func51, Try.ntmps51
    go_wp2
    go_ret
    exact ⟨rfl, old_refl _⟩
  by_cases h2 : st = 2
  · subst h2
    go_enter Try.func51, Try.ntmps51
    go_wp2
    go_ret
    exact ⟨rfl, old_refl _⟩
  have ht : topN st = 0 := by unfold topN; rw [if_neg h1, if_neg h2]
  rw [ht]
  go_enter Try.func51, Try.ntmps51
  go_wp2
  go_ret
  exact ⟨rfl, old_refl _⟩
theorem place_calls (st lv : Int) (p : Bool) (hp : decide (Place st lv) = p) (w : World) : Calls Try.prog 71 #[.int .i64 st, .int .i64 lv] w (RetB w (.bool p)) := by
  subst hp
  have ht := top_calls st
  by_cases h1 : topN st = 0
  · have hd : decide (Place st lv) = false := decide_eq_false (by
      unfold topN at h1
      rintro ⟨rfl | rfl, _⟩ <;> simp at h1)
    rw [h1] at ht
    rw [hd]
    clear hd h1
    go_enter Try.func71, Try.ntmps71
    go_wp2_with fail
    refine (ht _).mono ?_
    rintro e w1 ⟨rfl, hb1⟩
    go_wp2
    go_ret
    exact ⟨rfl, hb1⟩
  · have hs : st = 1 ∨ st = 2 := by
      unfold topN at h1
      by_cases a : st = 1
      · exact .inl a
      by_cases b : st = 2
      · exact .inr b
      rw [if_neg a, if_neg b] at h1
      exact absurd rfl h1
    have hn : (((topN st : Nat) : Int) != 0) = true := bne_iff_ne.2 (by omega)
    have hd : decide (Place st lv) = (decide (0 ≤ lv) && decide (lv ≤ 3)) := by unfold Place; simp [hs]
    rw [hd]
    generalize ((topN st : Nat) : Int) = T at *
    clear hd h1 hs
    by_cases h2 : 0 ≤ lv
    · rw [decide_eq_true h2, Bool.true_and]
      go_enter Try.func71, Try.ntmps71
      go_wp2_with fail
      refine (ht _).mono ?_
      rintro e w1 ⟨rfl, hb1⟩
      go_wp2
      go_ret
      exact ⟨rfl, hb1⟩
    · rw [decide_eq_false h2]
      go_enter Try.func71, Try.ntmps71
      go_wp2_with fail
      refine (ht _).mono ?_
      rintro e w1 ⟨rfl, hb1⟩
      go_wp2
      go_ret
      exact ⟨rfl, hb1⟩
theorem flag_calls (b : Bool) (ii : Int) (i : Nat) (hii : ii = i) (hi : i = 1 ∨ i = 6 ∨ i = 7 ∨ i = 8) (w : World) : Calls Try.prog 80 #[.bool b, .int .i64 ii] w (RetB w (.int .u64 (flagN b i : Nat))) := by
  subst hii
  rcases hi with rfl | rfl | rfl | rfl <;> cases b
  all_goals
    go_enter Try.func80, Try.ntmps80
    go_wp2
    go_ret
    exact ⟨rfl, old_refl _⟩
theorem refBit_calls (b : Bool) (ii : Int) (i : Nat) (hii : ii = i) (hi : i = 1 ∨ i = 6 ∨ i = 7 ∨ i = 8) (w : World) : Calls Try.prog 69 #[.bool b, .int .i64 ii] w (RetB w (.int .u64 (flagN b i : Nat))) := by
  subst hii
  rcases hi with rfl | rfl | rfl | rfl <;> cases b
  all_goals
    go_enter Try.func69, Try.ntmps69
    go_wp2
    go_ret
    exact ⟨rfl, old_refl _⟩
end Go.Proofs.Ytlbehhbicmmdoaa
namespace Go.Proofs.Ytlbehhbicmmdoaa
set_option linter.unusedVariables false
set_option linter.unusedSimpArgs false
open Go.RowKit
def checkC (st lv k : Int) (a : Nat) (r wr x : Bool) (s : Int) : Int :=
  if ¬ Place st lv ∨ k < 0 ∨ 3 < k ∨ s < 0 ∨ 15 < s then 1
  else if (k = 1 ∧ lv = 3) ∨ (k = 2 ∧ (lv = 0 ∨ lv = 3)) ∨ (k = 3 ∧ lv ≠ 3) then 4
  else if (k ≤ 1 ∧ (r || wr || x) = true) ∨ (wr && !r) = true ∨ (k = 0 ∧ (a ≠ 0 ∨ s ≠ 0)) then 4
  else if topN st ≤ a then 2
  else if a % 4096 ≠ 0 ∨ (k = 2 ∧ a % spanN lv.toNat ≠ 0) then 3
  else 0
theorem checkC_arg {st lv k : Int} {a : Nat} {r wr x : Bool} {s : Int} (h : ¬ Place st lv ∨ k < 0 ∨ 3 < k ∨ s < 0 ∨ 15 < s) : checkC st lv k a r wr x s = 1 := by
  unfold checkC; rw [if_pos h]
theorem checkC_kind {st lv k : Int} {a : Nat} {r wr x : Bool} {s : Int} (h : ¬ (¬ Place st lv ∨ k < 0 ∨ 3 < k ∨ s < 0 ∨ 15 < s))
    (h2 : (k = 1 ∧ lv = 3) ∨ (k = 2 ∧ (lv = 0 ∨ lv = 3)) ∨ (k = 3 ∧ lv ≠ 3)) : checkC st lv k a r wr x s = 4 := by
  unfold checkC; rw [if_neg h, if_pos h2]
theorem checkC_form {st lv k : Int} {a : Nat} {r wr x : Bool} {s : Int} (h : ¬ (¬ Place st lv ∨ k < 0 ∨ 3 < k ∨ s < 0 ∨ 15 < s))
    (h2 : ¬ ((k = 1 ∧ lv = 3) ∨ (k = 2 ∧ (lv = 0 ∨ lv = 3)) ∨ (k = 3 ∧ lv ≠ 3))) (h3 : (k ≤ 1 ∧ (r || wr || x) = true) ∨ (wr && !r) = true ∨ (k = 0 ∧ (a ≠ 0 ∨ s ≠ 0))) : checkC st lv k a r wr x s = 4 := by
  unfold checkC; rw [if_neg h, if_neg h2, if_pos h3]
theorem checkC_range {st lv k : Int} {a : Nat} {r wr x : Bool} {s : Int} (h : ¬ (¬ Place st lv ∨ k < 0 ∨ 3 < k ∨ s < 0 ∨ 15 < s))
    (h2 : ¬ ((k = 1 ∧ lv = 3) ∨ (k = 2 ∧ (lv = 0 ∨ lv = 3)) ∨ (k = 3 ∧ lv ≠ 3))) (h3 : ¬ ((k ≤ 1 ∧ (r || wr || x) = true) ∨ (wr && !r) = true ∨ (k = 0 ∧ (a ≠ 0 ∨ s ≠ 0))))
    (h4 : topN st ≤ a) : checkC st lv k a r wr x s = 2 := by
  unfold checkC; rw [if_neg h, if_neg h2, if_neg h3, if_pos h4]
theorem checkC_align {st lv k : Int} {a : Nat} {r wr x : Bool} {s : Int} (h : ¬ (¬ Place st lv ∨ k < 0 ∨ 3 < k ∨ s < 0 ∨ 15 < s))
    (h2 : ¬ ((k = 1 ∧ lv = 3) ∨ (k = 2 ∧ (lv = 0 ∨ lv = 3)) ∨ (k = 3 ∧ lv ≠ 3))) (h3 : ¬ ((k ≤ 1 ∧ (r || wr || x) = true) ∨ (wr && !r) = true ∨ (k = 0 ∧ (a ≠ 0 ∨ s ≠ 0))))
    (h4 : ¬ topN st ≤ a) (h5 : a % 4096 ≠ 0 ∨ (k = 2 ∧ a % spanN lv.toNat ≠ 0)) : checkC st lv k a r wr x s = 3 := by
  unfold checkC; rw [if_neg h, if_neg h2, if_neg h3, if_neg h4, if_pos h5]
theorem checkC_ok {st lv k : Int} {a : Nat} {r wr x : Bool} {s : Int} (h : ¬ (¬ Place st lv ∨ k < 0 ∨ 3 < k ∨ s < 0 ∨ 15 < s))
    (h2 : ¬ ((k = 1 ∧ lv = 3) ∨ (k = 2 ∧ (lv = 0 ∨ lv = 3)) ∨ (k = 3 ∧ lv ≠ 3))) (h3 : ¬ ((k ≤ 1 ∧ (r || wr || x) = true) ∨ (wr && !r) = true ∨ (k = 0 ∧ (a ≠ 0 ∨ s ≠ 0))))
    (h4 : ¬ topN st ≤ a) (h5 : ¬ (a % 4096 ≠ 0 ∨ (k = 2 ∧ a % spanN lv.toNat ≠ 0))) : checkC st lv k a r wr x s = 0 := by
  unfold checkC; rw [if_neg h, if_neg h2, if_neg h3, if_neg h4, if_neg h5]
end Go.Proofs.Ytlbehhbicmmdoaa
namespace Go.Proofs.Ytlbehhbicmmdoaa
set_option linter.unusedVariables false
set_option linter.unusedSimpArgs false
open Go.RowKit
/-- A permission that is none. -/
theorem eq_permD (x0 x1 x2 y0 y1 y2 : Bool) (w : World) :
    (Op.equalIn 10000 46 (.agg #[.bool x0, .bool x1, .bool x2]) (.agg #[.bool y0, .bool y1, .bool y2])).run Try.prog w = .ok (x0 == y0 && (x1 == y1 && (x2 == y2 && true))) w := by
  refine same_struct (d := 9999) Try.underlying46 (by kernel_rfl) ?_
  refine same_cons (by rfl) (by go_simp; rfl) (by go_simp; rfl) (by go_simp) ?_
  refine same_cons (by rfl) (by go_simp; rfl) (by go_simp; rfl) (by go_simp) ?_
  refine same_cons (by rfl) (by go_simp; rfl) (by go_simp; rfl) (by go_simp) ?_
  exact same_nil
theorem eq_none (r wr x : Bool) (w : World) :
    (Op.equalIn 10000 46 (.agg #[.bool r, .bool wr, .bool x]) (.agg #[.bool false, .bool false, .bool false])).run Try.prog w = .ok (!(r || wr || x)) w := by
  rw [eq_permD]
  cases r <;> cases wr <;> cases x <;> rfl
/-- The frame at the label. -/
def CheckFrame (v : Int) (a : Act) : Prop := ∀ Q : Act → Prop, (∀ u0 u1 u2 u3 u4 u5 u7 u8 u9 u10 u11 u12 u13 u14 u15 u16 u17 u18 u19 u20 u21 u22 u23 u24 u25 u26 u27 u28 u29 u30 u31 u32 u33 u34 u35 u36 u37 u38 u39 u40 u41 u42 u43 u44 u45 u46 u47 u48 u49 u50 u51 u52 u53 u54 u55 u56 u57 u58 u59 u60 u61 u62 u63 u64 u65 u66 u67 u68 u69 u70 u71 u72 u73 u74 u75 u76 u77 u78 u79 u80 u81 u82 u83 u84 u85 u86 u87 u88 u89 u90 u91 u92 u93 u94 u95 u96 u97 u98 u99 u100 u101 u102 u103 u104 u105 u106 u107 u108 u109 u110 u111 u112 u113 u114 u115 u116 u117 : Value, Q { tmps := #[u0, u1, u2, u3, u4, u5, .int .i64 v, u7, u8, u9, u10, u11, u12, u13, u14, u15, u16, u17, u18, u19, u20, u21, u22, u23, u24, u25, u26, u27, u28, u29, u30, u31, u32, u33, u34, u35, u36, u37, u38, u39, u40, u41, u42, u43, u44, u45, u46, u47, u48, u49, u50, u51, u52, u53, u54, u55, u56, u57, u58, u59, u60, u61, u62, u63, u64, u65, u66, u67, u68, u69, u70, u71, u72, u73, u74, u75, u76, u77, u78, u79, u80, u81, u82, u83, u84, u85, u86, u87, u88, u89, u90, u91, u92, u93, u94, u95, u96, u97, u98, u99, u100, u101, u102, u103, u104, u105, u106, u107, u108, u109, u110, u111, u112, u113, u114, u115, u116, u117], defers := [] }) → Q a
abbrev DescL (w : World) (k : Int) (a : Nat) (r wr x : Bool) (s : Int) : List (Nat × Array Value × TypeId) := [(w.heap.size + 1, #[.bool r, .bool wr, .bool x], 46), (w.heap.size, #[.int .i64 k, .int .u64 (a : Nat), .bool r, .bool wr, .bool x, .int .i64 s], 48)]
def argB (P : Bool) (k s : Int) : Bool := !P || decide (k < 0) || decide (3 < k) || decide (s < 0) || decide (15 < s)
def kindB (lv k : Int) : Bool := decide (k = 1) && decide (lv = 3) || decide (k = 2) && (decide (lv = 0) || decide (lv = 3)) || decide (k = 3) && !decide (lv = 3)
def formB (k : Int) (a : Nat) (r wr x : Bool) (s : Int) : Bool := decide (k ≤ 1) && (r || wr || x) || wr && !r || decide (k = 0) && (!decide (a = 0) || !decide (s = 0))
theorem argB_eq {st lv k s : Int} {P : Bool} (h : decide (Place st lv) = P) : decide (¬ Place st lv ∨ k < 0 ∨ 3 < k ∨ s < 0 ∨ 15 < s) = argB P k s := by
  subst h; simp [argB, Bool.or_assoc]
theorem kindB_eq (lv k : Int) : decide ((k = 1 ∧ lv = 3) ∨ (k = 2 ∧ (lv = 0 ∨ lv = 3)) ∨ (k = 3 ∧ lv ≠ 3)) = kindB lv k := by
  simp [kindB, Bool.or_assoc]
theorem formB_eq (k : Int) (a : Nat) (r wr x : Bool) (s : Int) : decide ((k ≤ 1 ∧ (r || wr || x) = true) ∨ (wr && !r) = true ∨ (k = 0 ∧ (a ≠ 0 ∨ s ≠ 0))) = formB k a r wr x s := by
  unfold formB; simp only [Bool.decide_or, Bool.decide_and, Bool.decide_eq_true, ne_eq, decide_not, Bool.or_assoc]
set_option maxHeartbeats 8000000 in
set_option maxRecDepth 100000 in
theorem descCheck_calls (st lv k : Int) (a : Nat) (r wr x : Bool) (s : Int) (w : World) :
    Calls Try.prog 74 #[.int .i64 st, .int .i64 lv, .agg #[.int .i64 k, .int .u64 (a : Nat), .bool r, .bool wr, .bool x, .int .i64 s]] w (RetB w (.int .i64 (checkC st lv k a r wr x s))) := by
  generalize hv : checkC st lv k a r wr x s = v
  have HV := Lib.hid hv
  clear hv
  obtain ⟨P, hP⟩ : ∃ P, decide (Place st lv) = P := ⟨_, rfl⟩
  have hpl := place_calls st lv P hP
  go_enter Try.func74, Try.ntmps74
  go_wp2
  refine wp_scope_labels (fun lb k a x => lb = 0 ∧ k = 0 ∧ Old w x ∧ CheckFrame v a) ?_ ?_
  · go_upto_region 3 with (fail)
    have hH := holds_new #[.bool r, .bool wr, .bool x] 46 (holds_new #[.int .i64 k, .int .u64 (a : Nat), .bool r, .bool wr, .bool x, .int .i64 s] 48 (holds_nil w))
    simp only [World.size_alloc] at hH
    generalize (w.alloc (.cells #[.int .i64 k, .int .u64 (a : Nat), .bool r, .bool wr, .bool x, .int .i64 s] 48)).alloc (.cells #[.bool r, .bool wr, .bool x] 46) = W at *
    go_cut [33] (fun s33 wx => s33 = .bool (argB P k s) ∧ Holds w (DescL w k a r wr x s) wx)
    case first =>
      go_wp2_with fail
      refine (hpl _).mono ?_
      rintro e w1 ⟨rfl, hb1⟩
      have hH := holds_old hH hb1
      obtain ⟨s0, s1, s2, _⟩ := id hH
      obtain ⟨k1, f1, z1⟩ := of_block s1
      obtain ⟨k2, f2, z2⟩ := of_block s2
      cases P
      · go_wp2
        go_meet
        case rel => exact ⟨rfl, hH⟩
      · go_wp2
        all_goals go_meet
        all_goals exact ⟨by simp_all [argB], hH⟩
    case rest =>
    obtain ⟨rfl, hH⟩ := hcut
    have hAe := argB_eq (k := k) (s := s) hP
    cases hA : argB P k s
    case true =>
      obtain rfl : v = 1 := by rw [← HV.out]; exact checkC_arg (by rw [hA] at hAe; exact of_decide_eq_true hAe)
      go_wp2_with fail
      go_step3
      exact ⟨0, rfl, rfl, hH.1, fun _ hq => hq _ _ _ _ _ _ _ _ _ _ _ _ _ _ _ _ _ _ _ _ _ _ _ _ _ _ _ _ _ _ _ _ _ _ _ _ _ _ _ _ _ _ _ _ _ _ _ _ _ _ _ _ _ _ _ _ _ _ _ _ _ _ _ _ _ _ _ _ _ _ _ _ _ _ _ _ _ _ _ _ _ _ _ _ _ _ _ _ _ _ _ _ _ _ _ _ _ _ _ _ _ _ _ _ _ _ _ _ _ _ _ _ _ _ _ _ _⟩
    case false =>
    rw [hA] at hAe
    have hA := of_decide_eq_false hAe
    clear hAe hpl
    go_upto_region 5 with (fail)
    go_cut [62] (fun s62 wx => s62 = .bool (kindB lv k) ∧ Holds w (DescL w k a r wr x s) wx)
    case first =>
      obtain ⟨s0, s1, s2, _⟩ := id hH
      obtain ⟨k1, f1, z1⟩ := of_block s1
      obtain ⟨k2, f2, z2⟩ := of_block s2
      have HA := Lib.hid hA
      clear hA hP
      go_wp2
      all_goals subst_vars
      all_goals go_meet
      all_goals exact ⟨by simp_all [kindB] <;> rfl, hH⟩
    case rest =>
    obtain ⟨rfl, hH⟩ := hcut
    have hBe := kindB_eq lv k
    cases hB : kindB lv k
    case true =>
      obtain rfl : v = 4 := by rw [← HV.out]; exact checkC_kind hA (by rw [hB] at hBe; exact of_decide_eq_true hBe)
      go_wp2_with fail
      go_step3
      exact ⟨0, rfl, rfl, hH.1, fun _ hq => hq _ _ _ _ _ _ _ _ _ _ _ _ _ _ _ _ _ _ _ _ _ _ _ _ _ _ _ _ _ _ _ _ _ _ _ _ _ _ _ _ _ _ _ _ _ _ _ _ _ _ _ _ _ _ _ _ _ _ _ _ _ _ _ _ _ _ _ _ _ _ _ _ _ _ _ _ _ _ _ _ _ _ _ _ _ _ _ _ _ _ _ _ _ _ _ _ _ _ _ _ _ _ _ _ _ _ _ _ _ _ _ _ _ _ _ _ _⟩
    case false =>
    rw [hB] at hBe
    have hB := of_decide_eq_false hBe
    clear hBe
    go_upto_region 6 with (fail)
    go_cut [2, 94] (fun s2 s94 wx => s94 = .bool (formB k a r wr x s) ∧ Holds w (DescL w k a r wr x s) wx)
    case first =>
      obtain ⟨s0, s1, s2, _⟩ := id hH
      obtain ⟨k1, f1, z1⟩ := of_block s1
      obtain ⟨k2, f2, z2⟩ := of_block s2
      have HA := Lib.hid hA
      have HB := Lib.hid hB
      clear hA hB hP
      have hN := eq_none r wr x
      have hF : formB k a r wr x s = (decide (k ≤ 1) && (r || wr || x) || wr && !r || decide (k = 0) && (!decide (a = 0) || !decide (s = 0))) := rfl
      generalize (r || wr || x) = E at *
      have HF := Lib.hid hF
      clear hF
      cases E
      · go_wp2
        all_goals subst_vars
        all_goals go_meet
        all_goals exact ⟨by rw [HF.out]; simp_all <;> rfl, hH⟩
      · go_wp2
        all_goals subst_vars
        all_goals go_meet
        all_goals exact ⟨by rw [HF.out]; simp_all <;> rfl, hH⟩
    case rest =>
    obtain ⟨rfl, hH⟩ := hcut
    have hCe := formB_eq k a r wr x s
    cases hC : formB k a r wr x s
    case true =>
      obtain rfl : v = 4 := by rw [← HV.out]; exact checkC_form hA hB (by rw [hC] at hCe; exact of_decide_eq_true hCe)
      go_wp2_with fail
      go_step3
      exact ⟨0, rfl, rfl, hH.1, fun _ hq => hq _ _ _ _ _ _ _ _ _ _ _ _ _ _ _ _ _ _ _ _ _ _ _ _ _ _ _ _ _ _ _ _ _ _ _ _ _ _ _ _ _ _ _ _ _ _ _ _ _ _ _ _ _ _ _ _ _ _ _ _ _ _ _ _ _ _ _ _ _ _ _ _ _ _ _ _ _ _ _ _ _ _ _ _ _ _ _ _ _ _ _ _ _ _ _ _ _ _ _ _ _ _ _ _ _ _ _ _ _ _ _ _ _ _ _ _ _⟩
    case false =>
    rw [hC] at hCe
    have hC := of_decide_eq_false hCe
    clear hCe
    go_upto_region 8 with (fail)
    have hTop := top_calls st
    have hl3 : lv = ((lv.toNat : Nat) : Int) ∧ lv.toNat ≤ 3 := by
      by_cases hp : Place st lv
      · obtain ⟨_, h1, h2⟩ := hp
        omega
      · exact absurd (.inl hp) hA
    have hSp := fun x => span_yes lv lv.toNat hl3.1 x hl3.2
    have hs0 : (((spanN lv.toNat : Nat) : Int) == 0) = false := by
      have : 0 < spanN lv.toNat := by rw [spanN_pow _ hl3.2]; exact Nat.two_pow_pos _
      rw [beq_eq_false_iff_ne]; omega
    generalize hsp : ((spanN lv.toNat : Nat) : Int) = SP at hSp hs0
    have HSP := Lib.hid hsp
    have hsn : ¬ SP = 0 := by simpa using hs0
    clear hsp hs0
    have HA := Lib.hid hA
    have HB := Lib.hid hB
    have HC := Lib.hid hC
    have HL := Lib.hid hl3
    clear hA hB hC hP hl3
    refine wp_region_walked (S := Holds w (DescL w k a r wr x s)) (by kernel_rfl) (by kernel_rfl) (holds_drew hH) ?_
    repeat (apply walked_cons; (first | exact gives_and rfl rfl rfl rfl | exact gives_or rfl rfl rfl rfl | (focus (intro wS hS; obtain ⟨s0, s1, s2, _⟩ := id hS; obtain ⟨k1, f1, z1⟩ := of_block s1; obtain ⟨k2, f2, z2⟩ := of_block s2; go_wp2_with ((go_at_call 45; (with_reducible refine (hTop _).mono ?_); rintro e w9 ⟨rfl, hb9⟩)); (first | exact ⟨rfl, rfl, hS⟩ | exact ⟨rfl, rfl, holds_old hS hb9⟩); done)) | (focus (apply gives_guard; (focus (first | exact wanted_yes rfl rfl rfl | exact wanted_no rfl rfl rfl | exact wanted_yes2 rfl rfl rfl | exact wanted_no2 rfl rfl rfl)); (focus (intro hx9; (try simp only [Bool.not_eq_true', Bool.and_eq_true, Bool.not_not] at hx9); (try obtain ⟨hx9, hy9⟩ := hx9); (try subst hy9); (try subst hx9); (first | exact gives_and rfl rfl rfl rfl | exact gives_or rfl rfl rfl rfl | (intro wS hS; obtain ⟨s0, s1, s2, _⟩ := id hS; obtain ⟨k1, f1, z1⟩ := of_block s1; obtain ⟨k2, f2, z2⟩ := of_block s2; go_wp2_with ((go_at_call 45; (with_reducible refine (hTop _).mono ?_); rintro e w9 ⟨rfl, hb9⟩)); (first | exact ⟨rfl, rfl, hS⟩ | exact ⟨rfl, rfl, holds_old hS hb9⟩); done))))))); rfl; (try simp only [Act.put, List.setIfInBounds_toArray, List.set_cons_succ, List.set_cons_zero]))
    apply walked_nil
    intro wS hH
    obtain ⟨s0, s1, s2, _⟩ := id hH
    obtain ⟨k1, f1, z1⟩ := of_block s1
    obtain ⟨k2, f2, z2⟩ := of_block s2
    go_wp2
    · have hD : topN st ≤ a := by assumption
      obtain rfl : v = 2 := by rw [← HV.out]; exact checkC_range HA.out HB.out HC.out hD
      go_step3
      exact ⟨0, rfl, rfl, hH.1, fun _ hq => hq _ _ _ _ _ _ _ _ _ _ _ _ _ _ _ _ _ _ _ _ _ _ _ _ _ _ _ _ _ _ _ _ _ _ _ _ _ _ _ _ _ _ _ _ _ _ _ _ _ _ _ _ _ _ _ _ _ _ _ _ _ _ _ _ _ _ _ _ _ _ _ _ _ _ _ _ _ _ _ _ _ _ _ _ _ _ _ _ _ _ _ _ _ _ _ _ _ _ _ _ _ _ _ _ _ _ _ _ _ _ _ _ _ _ _ _ _⟩
    have hD : ¬ topN st ≤ a := by assumption
    refine wp_region_walked (S := Holds w (DescL w k a r wr x s)) (by kernel_rfl) (by kernel_rfl) (holds_drew hH) ?_
    iterate 5 (apply walked_cons; (first | exact gives_and rfl rfl rfl rfl | exact gives_or rfl rfl rfl rfl | (focus (intro wS hS; obtain ⟨s0, s1, s2, _⟩ := id hS; obtain ⟨k1, f1, z1⟩ := of_block s1; obtain ⟨k2, f2, z2⟩ := of_block s2; go_wp2_with (fail); (first | exact ⟨rfl, rfl, hS⟩ | exact ⟨rfl, rfl, holds_old hS hb9⟩); done)) | (focus (apply gives_guard; (focus (first | exact wanted_yes rfl rfl rfl | exact wanted_no rfl rfl rfl | exact wanted_yes2 rfl rfl rfl | exact wanted_no2 rfl rfl rfl)); (focus (intro hx9; (try simp only [Bool.not_eq_true', Bool.and_eq_true, Bool.not_not] at hx9); (try obtain ⟨hx9, hy9⟩ := hx9); (try subst hy9); (try subst hx9); (first | exact gives_and rfl rfl rfl rfl | exact gives_or rfl rfl rfl rfl | (intro wS hS; obtain ⟨s0, s1, s2, _⟩ := id hS; obtain ⟨k1, f1, z1⟩ := of_block s1; obtain ⟨k2, f2, z2⟩ := of_block s2; go_wp2_with (fail); (first | exact ⟨rfl, rfl, hS⟩ | exact ⟨rfl, rfl, holds_old hS hb9⟩); done))))))); rfl; (try simp only [Act.put, List.setIfInBounds_toArray, List.set_cons_succ, List.set_cons_zero]))
    generalize hB1 : ((a : Int) % 4096 != 0) = B1
    cases B1
    case true =>
      have hE : a % 4096 ≠ 0 := by
        have := bne_iff_ne.1 hB1
        omega
      have HE := Lib.hid hE
      clear hB1 hE
      repeat (apply walked_cons; (first | exact gives_and rfl rfl rfl rfl | exact gives_or rfl rfl rfl rfl | (focus (intro wS hS; obtain ⟨s0, s1, s2, _⟩ := id hS; obtain ⟨k1, f1, z1⟩ := of_block s1; obtain ⟨k2, f2, z2⟩ := of_block s2; go_wp2_with (fail); (first | exact ⟨rfl, rfl, hS⟩ | exact ⟨rfl, rfl, holds_old hS hb9⟩); done)) | (focus (apply gives_guard; (focus (first | exact wanted_yes rfl rfl rfl | exact wanted_no rfl rfl rfl | exact wanted_yes2 rfl rfl rfl | exact wanted_no2 rfl rfl rfl)); (focus (intro hx9; (try simp only [Bool.not_eq_true', Bool.and_eq_true, Bool.not_not] at hx9); (try obtain ⟨hx9, hy9⟩ := hx9); (try subst hy9); (try subst hx9); (first | exact gives_and rfl rfl rfl rfl | exact gives_or rfl rfl rfl rfl | (intro wS hS; obtain ⟨s0, s1, s2, _⟩ := id hS; obtain ⟨k1, f1, z1⟩ := of_block s1; obtain ⟨k2, f2, z2⟩ := of_block s2; go_wp2_with (fail); (first | exact ⟨rfl, rfl, hS⟩ | exact ⟨rfl, rfl, holds_old hS hb9⟩); done))))))); rfl; (try simp only [Act.put, List.setIfInBounds_toArray, List.set_cons_succ, List.set_cons_zero]))
      apply walked_nil
      intro wS hH
      obtain ⟨s0, s1, s2, _⟩ := id hH
      obtain ⟨k1, f1, z1⟩ := of_block s1
      obtain ⟨k2, f2, z2⟩ := of_block s2
      obtain rfl : v = 3 := by rw [← HV.out]; exact checkC_align HA.out HB.out HC.out hD (.inl HE.out)
      go_wp2_with fail
      go_step3
      exact ⟨0, rfl, rfl, hH.1, fun _ hq => hq _ _ _ _ _ _ _ _ _ _ _ _ _ _ _ _ _ _ _ _ _ _ _ _ _ _ _ _ _ _ _ _ _ _ _ _ _ _ _ _ _ _ _ _ _ _ _ _ _ _ _ _ _ _ _ _ _ _ _ _ _ _ _ _ _ _ _ _ _ _ _ _ _ _ _ _ _ _ _ _ _ _ _ _ _ _ _ _ _ _ _ _ _ _ _ _ _ _ _ _ _ _ _ _ _ _ _ _ _ _ _ _ _ _ _ _ _⟩
    case false =>
      have hE : a % 4096 = 0 := by
        have : (a : Int) % 4096 = 0 := by simpa using hB1
        omega
      have HE := Lib.hid hE
      clear hB1 hE
      iterate 4 (apply walked_cons; (first | exact gives_and rfl rfl rfl rfl | exact gives_or rfl rfl rfl rfl | (focus (intro wS hS; obtain ⟨s0, s1, s2, _⟩ := id hS; obtain ⟨k1, f1, z1⟩ := of_block s1; obtain ⟨k2, f2, z2⟩ := of_block s2; go_wp2_with (fail); (first | exact ⟨rfl, rfl, hS⟩ | exact ⟨rfl, rfl, holds_old hS hb9⟩); done)) | (focus (apply gives_guard; (focus (first | exact wanted_yes rfl rfl rfl | exact wanted_no rfl rfl rfl | exact wanted_yes2 rfl rfl rfl | exact wanted_no2 rfl rfl rfl)); (focus (intro hx9; (try simp only [Bool.not_eq_true', Bool.and_eq_true, Bool.not_not] at hx9); (try obtain ⟨hx9, hy9⟩ := hx9); (try subst hy9); (try subst hx9); (first | exact gives_and rfl rfl rfl rfl | exact gives_or rfl rfl rfl rfl | (intro wS hS; obtain ⟨s0, s1, s2, _⟩ := id hS; obtain ⟨k1, f1, z1⟩ := of_block s1; obtain ⟨k2, f2, z2⟩ := of_block s2; go_wp2_with (fail); (first | exact ⟨rfl, rfl, hS⟩ | exact ⟨rfl, rfl, holds_old hS hb9⟩); done))))))); rfl; (try simp only [Act.put, List.setIfInBounds_toArray, List.set_cons_succ, List.set_cons_zero]))
      generalize hB2 : decide (k = 2) = B2
      cases B2
      case false =>
        have HK := Lib.hid (of_decide_eq_false hB2)
        clear hB2
        repeat (apply walked_cons; (first | exact gives_and rfl rfl rfl rfl | exact gives_or rfl rfl rfl rfl | (focus (intro wS hS; obtain ⟨s0, s1, s2, _⟩ := id hS; obtain ⟨k1, f1, z1⟩ := of_block s1; obtain ⟨k2, f2, z2⟩ := of_block s2; go_wp2_with (fail); (first | exact ⟨rfl, rfl, hS⟩ | exact ⟨rfl, rfl, holds_old hS hb9⟩); done)) | (focus (apply gives_guard; (focus (first | exact wanted_yes rfl rfl rfl | exact wanted_no rfl rfl rfl | exact wanted_yes2 rfl rfl rfl | exact wanted_no2 rfl rfl rfl)); (focus (intro hx9; (try simp only [Bool.not_eq_true', Bool.and_eq_true, Bool.not_not] at hx9); (try obtain ⟨hx9, hy9⟩ := hx9); (try subst hy9); (try subst hx9); (first | exact gives_and rfl rfl rfl rfl | exact gives_or rfl rfl rfl rfl | (intro wS hS; obtain ⟨s0, s1, s2, _⟩ := id hS; obtain ⟨k1, f1, z1⟩ := of_block s1; obtain ⟨k2, f2, z2⟩ := of_block s2; go_wp2_with (fail); (first | exact ⟨rfl, rfl, hS⟩ | exact ⟨rfl, rfl, holds_old hS hb9⟩); done))))))); rfl; (try simp only [Act.put, List.setIfInBounds_toArray, List.set_cons_succ, List.set_cons_zero]))
        apply walked_nil
        intro wS hH
        obtain ⟨s0, s1, s2, _⟩ := id hH
        obtain ⟨k1, f1, z1⟩ := of_block s1
        obtain ⟨k2, f2, z2⟩ := of_block s2
        obtain rfl : v = 0 := by rw [← HV.out]; exact checkC_ok HA.out HB.out HC.out hD (by have := HK.out; have := HE.out; omega)
        go_wp2_with fail
        go_step3
        go_wp2
        simp only [toLabel]
        go_ret
        exact ⟨rfl, hH.1⟩
      case true =>
        have HK := Lib.hid (of_decide_eq_true hB2)
        clear hB2
        iterate 6 (apply walked_cons; (first | exact gives_and rfl rfl rfl rfl | exact gives_or rfl rfl rfl rfl | (focus (intro wS hS; obtain ⟨s0, s1, s2, _⟩ := id hS; obtain ⟨k1, f1, z1⟩ := of_block s1; obtain ⟨k2, f2, z2⟩ := of_block s2; go_wp2_with ((go_at_call 53; (with_reducible refine (hSp _).mono ?_); rintro e w9 ⟨rfl, hb9⟩)); (first | exact ⟨rfl, rfl, hS⟩ | exact ⟨rfl, rfl, holds_old hS hb9⟩); done)) | (focus (apply gives_guard; (focus (first | exact wanted_yes rfl rfl rfl | exact wanted_no rfl rfl rfl | exact wanted_yes2 rfl rfl rfl | exact wanted_no2 rfl rfl rfl)); (focus (intro hx9; (try simp only [Bool.not_eq_true', Bool.and_eq_true, Bool.not_not] at hx9); (try obtain ⟨hx9, hy9⟩ := hx9); (try subst hy9); (try subst hx9); (first | exact gives_and rfl rfl rfl rfl | exact gives_or rfl rfl rfl rfl | (intro wS hS; obtain ⟨s0, s1, s2, _⟩ := id hS; obtain ⟨k1, f1, z1⟩ := of_block s1; obtain ⟨k2, f2, z2⟩ := of_block s2; go_wp2_with ((go_at_call 53; (with_reducible refine (hSp _).mono ?_); rintro e w9 ⟨rfl, hb9⟩)); (first | exact ⟨rfl, rfl, hS⟩ | exact ⟨rfl, rfl, holds_old hS hb9⟩); done))))))); rfl; (try simp only [Act.put, List.setIfInBounds_toArray, List.set_cons_succ, List.set_cons_zero]))
        generalize hB3 : ((a : Int) % SP != 0) = B3
        cases B3
        case true =>
          have HF := Lib.hid (bne_iff_ne.1 hB3)
          clear hB3
          repeat (apply walked_cons; (first | exact gives_and rfl rfl rfl rfl | exact gives_or rfl rfl rfl rfl | (focus (intro wS hS; obtain ⟨s0, s1, s2, _⟩ := id hS; obtain ⟨k1, f1, z1⟩ := of_block s1; obtain ⟨k2, f2, z2⟩ := of_block s2; go_wp2_with (fail); (first | exact ⟨rfl, rfl, hS⟩ | exact ⟨rfl, rfl, holds_old hS hb9⟩); done)) | (focus (apply gives_guard; (focus (first | exact wanted_yes rfl rfl rfl | exact wanted_no rfl rfl rfl | exact wanted_yes2 rfl rfl rfl | exact wanted_no2 rfl rfl rfl)); (focus (intro hx9; (try simp only [Bool.not_eq_true', Bool.and_eq_true, Bool.not_not] at hx9); (try obtain ⟨hx9, hy9⟩ := hx9); (try subst hy9); (try subst hx9); (first | exact gives_and rfl rfl rfl rfl | exact gives_or rfl rfl rfl rfl | (intro wS hS; obtain ⟨s0, s1, s2, _⟩ := id hS; obtain ⟨k1, f1, z1⟩ := of_block s1; obtain ⟨k2, f2, z2⟩ := of_block s2; go_wp2_with (fail); (first | exact ⟨rfl, rfl, hS⟩ | exact ⟨rfl, rfl, holds_old hS hb9⟩); done))))))); rfl; (try simp only [Act.put, List.setIfInBounds_toArray, List.set_cons_succ, List.set_cons_zero]))
          apply walked_nil
          intro wS hH
          obtain ⟨s0, s1, s2, _⟩ := id hH
          obtain ⟨k1, f1, z1⟩ := of_block s1
          obtain ⟨k2, f2, z2⟩ := of_block s2
          obtain rfl : v = 3 := by
            rw [← HV.out]
            refine checkC_align HA.out HB.out HC.out hD (.inr ⟨HK.out, ?_⟩)
            have h1 := HF.out
            rw [← HSP.out] at h1
            omega
          go_wp2_with fail
          go_step3
          exact ⟨0, rfl, rfl, hH.1, fun _ hq => hq _ _ _ _ _ _ _ _ _ _ _ _ _ _ _ _ _ _ _ _ _ _ _ _ _ _ _ _ _ _ _ _ _ _ _ _ _ _ _ _ _ _ _ _ _ _ _ _ _ _ _ _ _ _ _ _ _ _ _ _ _ _ _ _ _ _ _ _ _ _ _ _ _ _ _ _ _ _ _ _ _ _ _ _ _ _ _ _ _ _ _ _ _ _ _ _ _ _ _ _ _ _ _ _ _ _ _ _ _ _ _ _ _ _ _ _ _⟩
        case false =>
          have HF := Lib.hid (show (a : Int) % SP = 0 by simpa using hB3)
          clear hB3
          repeat (apply walked_cons; (first | exact gives_and rfl rfl rfl rfl | exact gives_or rfl rfl rfl rfl | (focus (intro wS hS; obtain ⟨s0, s1, s2, _⟩ := id hS; obtain ⟨k1, f1, z1⟩ := of_block s1; obtain ⟨k2, f2, z2⟩ := of_block s2; go_wp2_with (fail); (first | exact ⟨rfl, rfl, hS⟩ | exact ⟨rfl, rfl, holds_old hS hb9⟩); done)) | (focus (apply gives_guard; (focus (first | exact wanted_yes rfl rfl rfl | exact wanted_no rfl rfl rfl | exact wanted_yes2 rfl rfl rfl | exact wanted_no2 rfl rfl rfl)); (focus (intro hx9; (try simp only [Bool.not_eq_true', Bool.and_eq_true, Bool.not_not] at hx9); (try obtain ⟨hx9, hy9⟩ := hx9); (try subst hy9); (try subst hx9); (first | exact gives_and rfl rfl rfl rfl | exact gives_or rfl rfl rfl rfl | (intro wS hS; obtain ⟨s0, s1, s2, _⟩ := id hS; obtain ⟨k1, f1, z1⟩ := of_block s1; obtain ⟨k2, f2, z2⟩ := of_block s2; go_wp2_with (fail); (first | exact ⟨rfl, rfl, hS⟩ | exact ⟨rfl, rfl, holds_old hS hb9⟩); done))))))); rfl; (try simp only [Act.put, List.setIfInBounds_toArray, List.set_cons_succ, List.set_cons_zero]))
          apply walked_nil
          intro wS hH
          obtain ⟨s0, s1, s2, _⟩ := id hH
          obtain ⟨k1, f1, z1⟩ := of_block s1
          obtain ⟨k2, f2, z2⟩ := of_block s2
          obtain rfl : v = 0 := by
            rw [← HV.out]
            refine checkC_ok HA.out HB.out HC.out hD ?_
            have h1 := HF.out
            rw [← HSP.out] at h1
            have := HE.out
            rintro (h | ⟨_, h⟩)
            · exact h this
            · omega
          go_wp2_with fail
          go_step3
          go_wp2
          simp only [toLabel]
          go_ret
          exact ⟨rfl, hH.1⟩
  · rintro l9 k9 b9 x9 ⟨rfl, rfl, hO, hfr⟩
    refine ⟨_, rfl, ?_⟩
    clear hpl HV hP
    refine hfr (fun b => Code.wp _ _ _ b x9) ?_
    intro u0 u1 u2 u3 u4 u5 u7 u8 u9 u10 u11 u12 u13 u14 u15 u16 u17 u18 u19 u20 u21 u22 u23 u24 u25 u26 u27 u28 u29 u30 u31 u32 u33 u34 u35 u36 u37 u38 u39 u40 u41 u42 u43 u44 u45 u46 u47 u48 u49 u50 u51 u52 u53 u54 u55 u56 u57 u58 u59 u60 u61 u62 u63 u64 u65 u66 u67 u68 u69 u70 u71 u72 u73 u74 u75 u76 u77 u78 u79 u80 u81 u82 u83 u84 u85 u86 u87 u88 u89 u90 u91 u92 u93 u94 u95 u96 u97 u98 u99 u100 u101 u102 u103 u104 u105 u106 u107 u108 u109 u110 u111 u112 u113 u114 u115 u116 u117
    go_wp2
    simp only [toLabel]
    go_ret
    exact ⟨rfl, hO⟩
end Go.Proofs.Ytlbehhbicmmdoaa
