/- Texts on the way to the statement NestedThrough, several in one file: each part says what it is. -/
import Derived.Test.YtlbehhbicmmdoaaKTA
import Derived.Test.YtlbehhbicmmdoaaKTB
import Derived.MapKept
import Derived.WideLaws
import Derived.Carry
import Derived.Deep.CutBlock
import Derived.Deep.AppendLies
import Derived.Laws.Rows
import Derived.Laws.Tables
/- A map from whole numbers: a block that reads as a function and a count. No function of the program stands here. -/
namespace Go.Proofs.Ytlbehhbicmmdoaa
set_option linter.unusedVariables false
set_option linter.unusedSimpArgs false
open Go.RowKit Go.MapKept
/-- The first with a key, and its place. -/
def seekL : List (Int × Value) → Int → Nat → Option (Nat × Value)
  | [], _, _ => none
  | x :: l, k, i => if k = x.1 then some (i, x.2) else seekL l k (i + 1)
def assocL (l : List (Int × Value)) (k : Int) : Option Value := (seekL l k 0).map (·.2)
theorem seekL_shift : ∀ (l : List (Int × Value)) (k : Int) (i : Nat), seekL l k (i + 1) = (seekL l k i).map fun x => (x.1 + 1, x.2)
  | [], k, i => rfl
  | x :: l, k, i => by
    unfold seekL
    split
    · rfl
    · exact seekL_shift l k (i + 1)
theorem assocL_cons (x : Int × Value) (l : List (Int × Value)) (k : Int) : assocL (x :: l) k = if k = x.1 then some x.2 else assocL l k := by
  unfold assocL
  rw [seekL]
  split
  · rfl
  · rw [seekL_shift]
    cases seekL l k 0 <;> rfl
/-- The entries of an array, as pairs. -/
def Entries (es : List MapEntry) (l : List (Int × Value)) : Prop := es.map (fun e => (e.key, e.val)) = l.map (fun x => (Value.int .i64 x.1, x.2))
theorem find_now : ∀ (es : List MapEntry) (l : List (Int × Value)) (k : Int) (i : Nat), Entries es l → Instr.findNow (.int .i64) (.int .i64 k) es i = some (seekL l k i)
  | [], [], k, i, _ => rfl
  | [], x :: l, k, i, h => by simp [Entries] at h
  | e :: es, [], k, i, h => by simp [Entries] at h
  | e :: es, x :: l, k, i, h => by
    obtain ⟨h1, h2⟩ : ((e.key, e.val) = (Value.int .i64 x.1, x.2)) ∧ Entries es l := by
      unfold Entries at h
      simp only [List.map_cons, List.cons.injEq] at h
      exact h
    have hk : e.key = .int .i64 x.1 := (Prod.mk.inj h1).1
    have hv : e.val = x.2 := (Prod.mk.inj h1).2
    unfold Instr.findNow seekL
    rw [hk]
    by_cases hkx : k = x.1
    · have hb : (k == x.1) = true := beq_iff_eq.2 hkx
      simp [Instr.sameNow, hkx, hv]
    · have hb : (k == x.1) = false := beq_eq_false_iff_ne.2 hkx
      simp only [Instr.sameNow, if_true, hb, if_neg hkx]
      exact find_now es l k (i + 1) h2
/-- Block m is a map that reads as f, of n keys. -/
def IsMap (w : World) (m : Nat) (f : Int → Option Value) (n : Nat) : Prop :=
  ∃ es clock l, w.heap[m]? = some (.map es clock) ∧ Entries es.toList l ∧ (l.map Prod.fst).Nodup ∧ l.length = n ∧ ∀ k, f k = assocL l k
theorem isMap_old {w x : World} {m n : Nat} {f : Int → Option Value} (h : IsMap w m f n) (ho : Old w x) : IsMap x m f n := by
  obtain ⟨es, clock, l, hb, r⟩ := h
  exact ⟨es, clock, l, keep_old ho hb, r⟩
theorem isMap_only {F : Nat → Prop} {w x : World} {m n : Nat} {f : Int → Option Value} (h : IsMap w m f n) (ho : Only F w x) (hF : ¬ F m) : IsMap x m f n := by
  obtain ⟨es, clock, l, hb, r⟩ := h
  exact ⟨es, clock, l, keep_only ho hF hb, r⟩
theorem isMap_lt {w : World} {m n : Nat} {f : Int → Option Value} (h : IsMap w m f n) : m < w.heap.size := by
  obtain ⟨es, clock, l, hb, r⟩ := h
  exact lt_of_block hb
theorem isMap_made (w : World) : IsMap (w.alloc (.map #[] 0)) w.heap.size (fun _ => none) 0 := ⟨#[], 0, [], new_block w _, rfl, List.nodup_nil, rfl, fun _ => rfl⟩
section
variable {P : Program} {t k e : TypeId} {w : World} {m n : Nat} {f : Int → Option Value}
theorem map_seek (hk : P.underlying k = some (.int .i64)) {es : Array MapEntry} {l : List (Int × Value)} (he : Entries es.toList l) (x : Int) :
    (Instr.findKey k (.int .i64 x) es.toList).run P w = .ok (seekL l x 0) w := run_findKey hk (find_now _ _ _ _ he)
theorem map_lookup (ht : P.underlying t = some (.map k e)) (hk : P.underlying k = some (.int .i64)) (h : IsMap w m f n) {x : Int} {v : Value} (hx : f x = some v) :
    (Instr.lookup t (.map (some m)) (.int .i64 x) true).run P w = .ok (.tuple #[v, .bool true]) w := by
  obtain ⟨es, clock, l, hb, he, _, _, hf⟩ := h
  rw [hf, assocL] at hx
  obtain ⟨y, hy, rfl⟩ := Option.map_eq_some_iff.1 hx
  have h1 := Go.MapKept.run_getObj_map (P := P) hb
  have h2 := run_checkKey (P := P) (w := w) (k := .int .i64 x) hk (by first | trivial | exact ⟨_, rfl⟩ | simp [IsKey]) es.isEmpty 9999
  have h3 := map_seek (w := w) hk he x
  rw [hy] at h3
  simp [Instr.lookup, Sem.run_bind, run_underlying ht, Result.andThen, h1, h2, h3]
theorem map_miss (ht : P.underlying t = some (.map k e)) (hk : P.underlying k = some (.int .i64)) {z : Value} (hz : (zeroValue e).run P w = .ok z w) (h : IsMap w m f n) {x : Int} (hx : f x = none) :
    (Instr.lookup t (.map (some m)) (.int .i64 x) true).run P w = .ok (.tuple #[z, .bool false]) w := by
  obtain ⟨es, clock, l, hb, he, _, _, hf⟩ := h
  rw [hf, assocL] at hx
  have hy : seekL l x 0 = none := Option.map_eq_none_iff.1 hx
  have h1 := Go.MapKept.run_getObj_map (P := P) hb
  have h2 := run_checkKey (P := P) (w := w) (k := .int .i64 x) hk (by first | trivial | exact ⟨_, rfl⟩ | simp [IsKey]) es.isEmpty 9999
  have h3 := map_seek (w := w) hk he x
  rw [hy] at h3
  simp [Instr.lookup, Sem.run_bind, run_underlying ht, Result.andThen, h1, h2, h3, hz]
/-- Another value at a key. -/
def updF (f : Int → Option Value) (x : Int) (v : Option Value) : Int → Option Value := fun y => if y = x then v else f y
theorem seek_some : ∀ {l : List (Int × Value)} {x : Int} {i : Nat} {y : Nat × Value}, seekL l x i = some y → ∃ a b, l = a ++ (x, y.2) :: b ∧ y.1 = i + a.length ∧ x ∉ a.map Prod.fst
  | [], x, i, y, h => by cases h
  | z :: l, x, i, y, h => by
    unfold seekL at h
    split at h
    · rename_i hx
      obtain rfl := Option.some.inj h
      exact ⟨[], l, by rw [hx]; rfl, by simp, by simp⟩
    · rename_i hx
      obtain ⟨a, b, rfl, h2, h3⟩ := seek_some h
      refine ⟨z :: a, b, rfl, by simp; omega, ?_⟩
      simp only [List.map_cons, List.mem_cons, not_or]
      exact ⟨hx, h3⟩
theorem assocL_append : ∀ (a b : List (Int × Value)) (k : Int), assocL (a ++ b) k = (assocL a k).or (assocL b k)
  | [], b, k => rfl
  | z :: a, b, k => by
    rw [List.cons_append, assocL_cons, assocL_cons, assocL_append a b k]
    split <;> rfl
theorem assocL_none : ∀ {a : List (Int × Value)} {k : Int}, k ∉ a.map Prod.fst → assocL a k = none
  | [], k, _ => rfl
  | z :: a, k, h => by
    simp only [List.map_cons, List.mem_cons, not_or] at h
    rw [assocL_cons, if_neg h.1, assocL_none h.2]
theorem assocL_mem : ∀ {a : List (Int × Value)} {k : Int}, assocL a k = none → k ∉ a.map Prod.fst
  | [], k, _ => by simp
  | z :: a, k, h => by
    rw [assocL_cons] at h
    split at h
    · cases h
    · rename_i hk
      simp only [List.map_cons, List.mem_cons, not_or]
      exact ⟨hk, assocL_mem h⟩
theorem entries_split {es : List MapEntry} {a b : List (Int × Value)} {y : Int × Value} (h : Entries es (a ++ y :: b)) :
    ∃ ea ee eb, es = ea ++ ee :: eb ∧ Entries ea a ∧ ee.key = .int .i64 y.1 ∧ ee.val = y.2 ∧ Entries eb b := by
  unfold Entries at h
  rw [List.map_append, List.map_cons] at h
  obtain ⟨ea, er, rfl, h1, h2⟩ := List.map_eq_append_iff.1 h
  obtain ⟨ee, eb, rfl, h3, h4⟩ := List.map_eq_cons_iff.1 h2
  exact ⟨ea, ee, eb, rfl, h1, (Prod.mk.inj h3).1, (Prod.mk.inj h3).2, h4⟩
theorem entries_join {ea eb : List MapEntry} {ee : MapEntry} {a b : List (Int × Value)} {y : Int × Value} (h1 : Entries ea a) (h2 : ee.key = .int .i64 y.1) (h3 : ee.val = y.2) (h4 : Entries eb b) : Entries (ea ++ ee :: eb) (a ++ y :: b) := by
  unfold Entries at *
  rw [List.map_append, List.map_cons, List.map_append, List.map_cons, h1, h4, h2, h3]
theorem entries_length {es : List MapEntry} {l : List (Int × Value)} (h : Entries es l) : es.length = l.length := by
  have := congrArg List.length h
  simpa using this
theorem modify_at {α : Type} (f : α → α) (x : α) (b : List α) : ∀ a : List α, (a ++ x :: b).modify a.length f = a ++ f x :: b
  | [] => by simp
  | z :: a => by
    have := modify_at f x b a
    simp [this]
theorem erase_at {α : Type} (x : α) (b : List α) : ∀ a : List α, (a ++ x :: b).eraseIdx a.length = a ++ b
  | [] => by simp
  | z :: a => by
    have := erase_at x b a
    simpa using this
/-- What a store or a delete leaves: block m is another map, all else is as it was. -/
theorem map_put (ht : P.underlying t = some (.map k e)) (hk : P.underlying k = some (.int .i64)) (h : IsMap w m f n) (x : Int) (v : Value) :
    ∃ w', (Instr.mapUpdate t (.map (some m)) (.int .i64 x) v).run P w = .ok () w' ∧ IsMap w' m (updF f x (some v)) (if (f x).isSome then n else n + 1) ∧ Only (fun j => j = m) w w' := by
  obtain ⟨es, clock, l, hb, he, hnd, hn, hf⟩ := h
  have h1 := Go.MapKept.run_getObj_map (P := P) hb
  have h2 := run_checkKey (P := P) (w := w) (k := .int .i64 x) hk (by first | trivial | exact ⟨_, rfl⟩ | simp [IsKey]) false 9999
  have h3 := map_seek (w := w) hk he x
  cases hs : seekL l x 0 with
  | none =>
    rw [hs] at h3
    have hfx : assocL l x = none := by rw [assocL, hs]; rfl
    refine ⟨putB w m (.map (es.push { key := .int .i64 x, val := v, born := clock }) (clock + 1)), ?_, ⟨_, _, l ++ [(x, v)], putB_same _ (lt_of_block hb), ?_, ?_, ?_, fun y => ?_⟩, (Only.refl _ w).putB _ fun _ => rfl⟩
    · have h4 := Go.MapKept.run_setObj_map (P := P) (.map (es.push { key := .int .i64 x, val := v, born := clock }) (clock + 1)) hb
      simp [Instr.mapUpdate, Sem.run_bind, run_underlying ht, Result.andThen, h1, h2, h3, h4]
      rfl
    · rw [Array.toList_push]
      exact entries_join (b := []) (eb := []) he rfl rfl rfl
    · rw [List.map_append, List.nodup_append]
      refine ⟨hnd, by simp, fun a ha b hb' => ?_⟩
      simp at hb'
      subst hb'
      intro hab
      subst hab
      exact assocL_mem hfx ha
    · rw [hf, hfx, List.length_append, hn]
      rfl
    · unfold updF
      rw [assocL_append, ← hf y, assocL_cons]
      by_cases hy : y = x
      · subst hy
        rw [if_pos rfl, hf, hfx, if_pos rfl]; rfl
      · rw [if_neg hy, if_neg hy]
        cases f y <;> rfl
  | some q =>
    rw [hs] at h3
    obtain ⟨a, b, rfl, hq, hna⟩ := seek_some hs
    obtain ⟨ea, ee, eb, hes, e1, e2, e3, e4⟩ := entries_split he
    have hfx : assocL (a ++ (x, q.2) :: b) x = some q.2 := by rw [assocL_append, assocL_none hna, assocL_cons, if_pos rfl]; rfl
    have hql : q.1 = ea.length := by rw [hq, entries_length e1]; omega
    have hget : es[q.1]? = some ee := by
      rw [← Array.getElem?_toList, hes, hql, List.getElem?_append_right (Nat.le_refl _)]
      simp
    have hmod : (es.modify q.1 fun z => { z with key := .int .i64 x, val := v }).toList = ea ++ { ee with key := .int .i64 x, val := v } :: eb := by
      rw [Array.toList_modify, hes, hql]
      exact modify_at _ _ _ _
    have hstay : (Instr.keyThatStays (.int .i64 x) (.int .i64 x)).run P w = .ok (.int .i64 x) w := by
      unfold Instr.keyThatStays
      rw [if_pos (by simp [Instr.sameBits])]
      rfl
    refine ⟨putB w m (.map (es.modify q.1 fun z => { z with key := .int .i64 x, val := v }) clock), ?_, ⟨_, _, a ++ (x, v) :: b, putB_same _ (lt_of_block hb), ?_, ?_, ?_, fun y => ?_⟩, (Only.refl _ w).putB _ fun _ => rfl⟩
    · have h4 := Go.MapKept.run_setObj_map (P := P) (.map (es.modify q.1 fun z => { z with key := .int .i64 x, val := v }) clock) hb
      simp [Instr.mapUpdate, Sem.run_bind, run_underlying ht, Result.andThen, h1, h2, h3, hget, e2, hstay, h4]
      rfl
    · rw [hmod]
      exact entries_join e1 rfl rfl e4
    · simpa using hnd
    · rw [hf, hfx]
      simpa using hn
    · unfold updF
      rw [hf y, assocL_append, assocL_append, assocL_cons, assocL_cons]
      by_cases hy : y = x
      · subst hy
        rw [if_pos rfl, if_pos rfl, assocL_none hna]; rfl
      · rw [if_neg hy, if_neg hy, if_neg hy]
theorem map_del (ht : P.underlying t = some (.map k e)) (hk : P.underlying k = some (.int .i64)) (h : IsMap w m f n) (x : Int) (v : Value) (hx : f x = some v) :
    ∃ w', (∀ t2 ty : TypeId, (Builtin.delete_ #[t, t2] ty #[.map (some m), .int .i64 x]).run P w = .ok (.tuple #[]) w') ∧ IsMap w' m (updF f x none) (n - 1) ∧ 1 ≤ n ∧ Only (fun j => j = m) w w' := by
  obtain ⟨es, clock, l, hb, he, hnd, hn, hf⟩ := h
  have h1 := Go.MapKept.run_getObj_map (P := P) hb
  have h2 := run_checkKey (P := P) (w := w) (k := .int .i64 x) hk (by first | trivial | exact ⟨_, rfl⟩ | simp [IsKey]) es.isEmpty 9999
  have h3 := map_seek (w := w) hk he x
  cases hs : seekL l x 0 with
  | none =>
    have hfx : assocL l x = none := by rw [assocL, hs]; rfl
    rw [hf, hfx] at hx
    cases hx
  | some q =>
    rw [hs] at h3
    obtain ⟨a, b, rfl, hq, hna⟩ := seek_some hs
    obtain ⟨ea, ee, eb, hes, e1, e2, e3, e4⟩ := entries_split he
    have hql : q.1 = ea.length := by rw [hq, entries_length e1]; omega
    have hnb : x ∉ b.map Prod.fst := by
      have := hnd
      rw [List.map_append, List.map_cons, List.nodup_append] at this
      exact (List.nodup_cons.1 this.2.1).1
    refine ⟨putB w m (.map (es.eraseIdxIfInBounds q.1) clock), fun t2 ty => ?_, ⟨_, _, a ++ b, putB_same _ (lt_of_block hb), ?_, ?_, ?_, fun y => ?_⟩, ?_, (Only.refl _ w).putB _ fun _ => rfl⟩
    · have h4 := Go.MapKept.run_setObj_map (P := P) (.map (es.eraseIdxIfInBounds q.1) clock) hb
      simp [Builtin.delete_, Sem.run_bind, run_underlying ht, Result.andThen, h1, h2, h3, h4]
      rfl
    · have : (es.eraseIdxIfInBounds q.1).toList = ea ++ eb := by
        rw [Array.toList_eraseIdxIfInBounds, hes, hql]
        exact erase_at _ _ _
      rw [this]
      unfold Entries at *
      rw [List.map_append, List.map_append, e1, e4]
    · rw [List.map_append, List.map_cons] at hnd
      rw [List.map_append]
      exact (hnd.sublist (List.Sublist.append_left (List.sublist_cons_self _ _) _))
    · simp at hn ⊢
      omega
    · unfold updF
      rw [hf y, assocL_append, assocL_append, assocL_cons]
      by_cases hy : y = x
      · subst hy
        rw [if_pos rfl, assocL_none hna, assocL_none hnb]; rfl
      · rw [if_neg hy, if_neg hy]
    · simp at hn
      omega
end
end Go.Proofs.Ytlbehhbicmmdoaa
/- Contracts of the package disk. -/
namespace Go.Proofs.Ytlbehhbicmmdoaa
set_option linter.unusedVariables false
set_option linter.unusedSimpArgs false
open Go.RowKit
/-- Another page at a slot. -/
def updP (pg : Int → Option (List Nat)) (k : Int) (v : Option (List Nat)) : Int → Option (List Nat) := fun y => if y = k then v else pg y
/-- A page's slice. -/
def PageIs (w : World) (X : Nat → Prop) (p m : Nat) (v : Value) (l : List Nat) : Prop :=
  ∃ g c, v = .slice (some ⟨g, 0, none⟩) 4096 c ∧ l.length = 4096 ∧ Row w 0 g c l ∧ ¬ X g ∧ g ≠ p ∧ g ≠ m
section
variable {w x : World} {X Y : Nat → Prop} {p m slots : Nat} {pg : Int → Option (List Nat)} {F : List Bool} {v : Value} {l : List Nat}
theorem page_only {G : Nat → Prop} (h : PageIs w X p m v l) (ho : Only G w x) (hG : ∀ b, ¬ X b → b ≠ p → b ≠ m → ¬ G b) : PageIs x X p m v l := by
  obtain ⟨g, c, rfl, h1, h2, h3, h4, h5⟩ := h
  exact ⟨g, c, rfl, h1, row_only h2 ho (hG g h3 h4 h5), h3, h4, h5⟩
end
end Go.Proofs.Ytlbehhbicmmdoaa
/- Contracts of the package disk: what turns it. -/
namespace Go.Proofs.Ytlbehhbicmmdoaa
set_option linter.unusedVariables false
set_option linter.unusedSimpArgs false
open Go.RowKit
section
variable {w : World} {X : Nat → Prop} {p m slots : Nat} {pg : Int → Option (List Nat)} {F F' : List Bool} {f : Int → Option Value} {fv fv' : Value}
end
end Go.Proofs.Ytlbehhbicmmdoaa
/- Contracts of the package disk: New, Fail, Give. -/
namespace Go.Proofs.Ytlbehhbicmmdoaa
set_option linter.unusedVariables false
set_option linter.unusedSimpArgs false
open Go.RowKit
end Go.Proofs.Ytlbehhbicmmdoaa
/- Contracts of the package disk: Give, Read, Write. -/
namespace Go.Proofs.Ytlbehhbicmmdoaa
set_option linter.unusedVariables false
set_option linter.unusedSimpArgs false
open Go.RowKit
theorem zero_bytes (w : World) : (zeroValue 87).run Try.prog w = .ok (.slice none 0 0) w := by kernel_rfl
section
variable {w w' : World} {X : Nat → Prop} {p m slots : Nat} {pg pg' : Int → Option (List Nat)} {F F' : List Bool} {f f' : Int → Option Value} {fv fv' : Value}
end
end Go.Proofs.Ytlbehhbicmmdoaa
/- Contracts of the package disk: Read, Write. -/
namespace Go.Proofs.Ytlbehhbicmmdoaa
set_option linter.unusedVariables false
set_option linter.unusedSimpArgs false
open Go.RowKit
end Go.Proofs.Ytlbehhbicmmdoaa
/- Contracts of the package disk: Write. -/
namespace Go.Proofs.Ytlbehhbicmmdoaa
set_option linter.unusedVariables false
set_option linter.unusedSimpArgs false
open Go.RowKit
end Go.Proofs.Ytlbehhbicmmdoaa
/- Contracts of the package disk: Take. -/
namespace Go.Proofs.Ytlbehhbicmmdoaa
set_option linter.unusedVariables false
set_option linter.unusedSimpArgs false
open Go.RowKit
def zeros4096 : List Nat := List.replicate 4096 0
theorem zeros4096_length : zeros4096.length = 4096 := List.length_replicate
/-- A new page, all 0. -/
theorem make_page (w : World) : ∃ w', (Instr.makeSlice 87 (.int .i64 4096) (.int .i64 4096)).run Try.prog w = .ok (.slice (some ⟨w.heap.size, 0, none⟩) 4096 4096) w' ∧ Row w' w.heap.size w.heap.size 4096 zeros4096 ∧ Old w w' := by
  obtain ⟨i0, hi, hz0, hz1, hz2⟩ := info_parts u8_info
  obtain ⟨w', hrun, hown, hg⟩ := run_make_full (P := Try.prog) w w.heap.size 87 5 i0 (.int .u8 0) 1 Try.underlying87 hi hz0 hz1 .i64 .i64 4096 (by omega) (by unfold maxLen; omega) (Nat.le_refl _)
  refine ⟨w', hrun, ⟨?_, ?_⟩, old_grown (old_refl w) hg (fun g e => by cases e)⟩
  · have e : (madeCells (Value.int .u8 0).cells (4096 * 1)).toList = zeros4096.map vb := by
      rw [show (Value.int .u8 0).cells = #[.int .u8 0] from rfl, toList_madeCells_one]
      unfold zeros4096
      rw [List.map_replicate]
      rfl
    rw [zeros4096_length, ← e]
    exact hown
  · intro x hx
    have := List.eq_of_mem_replicate hx
    omega
end Go.Proofs.Ytlbehhbicmmdoaa
/- Contracts of the package phys: the memory, what it holds, has, Frames, Ops, page, place, New. -/
namespace Go.Proofs.Ytlbehhbicmmdoaa
set_option linter.unusedVariables false
set_option linter.unusedSimpArgs false
open Go.RowKit Go.MapKept
section
variable {P : Program} {t k e : TypeId} {w : World} {m n : Nat} {f : Int → Option Value}
theorem map_del_none (ht : P.underlying t = some (.map k e)) (hk : P.underlying k = some (.int .i64)) (h : IsMap w m f n) (x : Int) (hx : f x = none) :
    ∀ t2 ty : TypeId, (Builtin.delete_ #[t, t2] ty #[.map (some m), .int .i64 x]).run P w = .ok (.tuple #[]) w := by
  obtain ⟨es, clock, l, hb, he, hnd, hn, hf⟩ := h
  rw [hf, assocL] at hx
  have hy : seekL l x 0 = none := Option.map_eq_none_iff.1 hx
  have h1 := Go.MapKept.run_getObj_map (P := P) hb
  have h2 := run_checkKey (P := P) (w := w) (k := .int .i64 x) hk (by first | trivial | exact ⟨_, rfl⟩ | simp [IsKey]) es.isEmpty 9999
  have h3 := map_seek (w := w) hk he x
  rw [hy] at h3
  intro t2 ty
  have h4 := Go.MapKept.run_setObj_map (P := P) (.map es clock) hb
  have hid : putB w m (.map es clock) = w := by
    unfold putB
    have : w.heap.setIfInBounds m (.map es clock) = w.heap := by
      apply Array.ext_getElem?
      intro i
      rw [Array.getElem?_setIfInBounds]
      by_cases hi : m = i
      · subst hi
        rw [if_pos rfl, hb, if_pos (lt_of_block hb)]
      · rw [if_neg hi]
    rw [this]
  simp [Builtin.delete_, Sem.run_bind, run_underlying ht, Result.andThen, h1, h2, h3, h4]
  exact hid
end
/-- The cells of a memory. -/
def memCells (frames m ops : Nat) : Array Value := #[.int .i64 frames, .map (some m), .int .i64 ops]
/-- Block p holds a memory; X: blocks that are not its own. -/
def IsMem (w : World) (X : Nat → Prop) (p frames : Nat) (pg : Int → Option (List Nat)) (ops : Nat) : Prop :=
  ∃ m f n, w.heap[p]? = some (.cells (memCells frames m ops) 122) ∧ ¬ X p ∧ IsMap w m f n ∧ ¬ X m ∧ m ≠ p ∧ (1 ≤ frames ∧ frames ≤ 1048576) ∧
    (∀ k, pg k = none → f k = none) ∧ (∀ k l, pg k = some l → ∃ v, f k = some v ∧ PageIs w X p m v l)
/-- A frame's bytes. -/
def pageOf (pg : Int → Option (List Nat)) (k : Int) : List Nat := (pg k).getD zeros4096
section
variable {w x : World} {X Y : Nat → Prop} {p frames ops : Nat} {pg : Int → Option (List Nat)}
/-- Others' blocks were turned. -/
theorem mem_only {G : Nat → Prop} (h : IsMem w X p frames pg ops) (ho : Only G w x) (hG : ∀ b, ¬ X b → ¬ G b) : IsMem x X p frames pg ops := by
  obtain ⟨m, f, n, h1, h2, h3, h4, h5, h6, h7, h8⟩ := h
  refine ⟨m, f, n, keep_only ho (hG p h2) h1, h2, isMap_only h3 ho (hG m h4), h4, h5, h6, h7, fun k l hk => ?_⟩
  obtain ⟨v, a, b⟩ := h8 k l hk
  exact ⟨v, a, page_only b ho fun b hb _ _ => hG b hb⟩
theorem mem_old (h : IsMem w X p frames pg ops) (ho : Old w x) : IsMem x X p frames pg ops := mem_only h (Only.of_below ho) fun _ _ f => f
/-- More blocks that are not the memory's own. -/
theorem mem_more (h : IsMem w X p frames pg ops) (hY : ∀ b, Y b → X b ∨ w.heap.size ≤ b) : IsMem w Y p frames pg ops := by
  obtain ⟨m, f, n, h1, h2, h3, h4, h5, h6, h7, h8⟩ := h
  have key : ∀ b, ¬ X b → b < w.heap.size → ¬ Y b := fun b hb hl hy => (hY b hy).elim hb (by omega)
  refine ⟨m, f, n, h1, key p h2 (lt_of_block h1), h3, key m h4 (isMap_lt h3), h5, h6, h7, fun k l hk => ?_⟩
  obtain ⟨v, a, g, c, rfl, b1, b2, b3, b4, b5⟩ := h8 k l hk
  exact ⟨_, a, g, c, rfl, b1, b2, key g b3 (row_parts b2).2.1, b4, b5⟩
theorem pageOf_length (h : IsMem w X p frames pg ops) (k : Int) : (pageOf pg k).length = 4096 := by
  unfold pageOf
  cases hk : pg k with
  | none => exact zeros4096_length
  | some l =>
    obtain ⟨m, f, n, h1, h2, h3, h4, h5, h6, h7, h8⟩ := h
    obtain ⟨v, _, g, c, _, hl, _⟩ := h8 k l hk
    exact hl
/-- Another count of reads and writes. -/
theorem mem_ops (h : IsMem w X p frames pg ops) (o2 : Nat) : ∃ C, w.heap[p]? = some (.cells C 122) ∧ C[2]? = some (.int .i64 ops) ∧ IsMem (putB w p (.cells (C.setIfInBounds 2 (.int .i64 o2)) 122)) X p frames pg o2 ∧ Only (fun b => ¬ X b) w (putB w p (.cells (C.setIfInBounds 2 (.int .i64 o2)) 122)) := by
  obtain ⟨m, f, n, h1, h2, h3, h4, h5, h6, h7, h8⟩ := h
  have hp := lt_of_block h1
  have ho : Only (fun b => b = p) w (putB w p (.cells (memCells frames m o2) 122)) := (Only.refl _ _).putB _ (fun _ => rfl)
  refine ⟨_, h1, rfl, ⟨m, f, n, putB_same _ hp, h2, isMap_only h3 ho (fun e => h5 e), h4, h5, h6, h7, fun k l hk => ?_⟩, ho.mono fun b _ e => by rw [e]; exact h2⟩
  obtain ⟨v, a, b⟩ := h8 k l hk
  exact ⟨v, a, page_only b ho fun b _ hp _ e => hp e⟩
/-- A page laid. -/
theorem mem_page (h : IsMem w X p frames pg ops) (k : Int) (l : List Nat) (B g c : Nat) (hr : Row w B g c l) (hl : l.length = 4096) (hg : ¬ X g) (hgp : g ≠ p) (hgm : ∀ m, w.cell? ⟨p, 1, none⟩ = some (.map (some m)) → g ≠ m) :
    ∃ m, w.cell? ⟨p, 1, none⟩ = some (.map (some m)) ∧ ∃ w', (Instr.mapUpdate 120 (.map (some m)) (.int .i64 k) (.slice (some ⟨g, 0, none⟩) 4096 c)).run Try.prog w = .ok () w' ∧ IsMem w' X p frames (updP pg k (some l)) ops ∧ Only (fun b => ¬ X b) w w' := by
  obtain ⟨m, f, n, h1, h2, h3, h4, h5, h6, h7, h8⟩ := h
  have c1 : w.cell? ⟨p, 1, none⟩ = some (.map (some m)) := by rw [cell_of h1]; rfl
  obtain ⟨w', hput, hmap, ho⟩ := map_put (P := Try.prog) (t := 120) Try.underlying120 Try.underlying3 h3 k (.slice (some ⟨g, 0, none⟩) 4096 c)
  refine ⟨m, c1, w', hput, ⟨m, _, _, keep_only ho (fun e => h5 e.symm) h1, h2, hmap, h4, h5, h6, fun j hj => ?_, fun j lj hj => ?_⟩, ho.mono fun b _ e => by rw [e]; exact h4⟩
  · unfold updP at hj
    unfold updF
    by_cases e : j = k
    · rw [if_pos e] at hj; cases hj
    · rw [if_neg e] at hj ⊢; exact h7 j hj
  · unfold updP at hj
    unfold updF
    by_cases e : j = k
    · rw [if_pos e] at hj ⊢
      obtain rfl := Option.some.inj hj
      have hr0 : Row w 0 g c l := by
        refine ⟨⟨hr.1.1, ?_⟩, hr.2⟩
        rcases hr.1.2 with h' | ⟨g', cap', cur, h', hb, rest⟩
        · exact .inl h'
        · exact .inr ⟨g', cap', cur, h', Nat.zero_le _, rest⟩
      exact ⟨_, rfl, g, c, rfl, hl, row_only hr0 ho (fun e => hgm m c1 e), hg, hgp, hgm m c1⟩
    · rw [if_neg e] at hj ⊢
      obtain ⟨v, a, b⟩ := h8 j lj hj
      exact ⟨v, a, page_only b ho fun b _ _ hm e => hm e⟩
/-- A page taken away. -/
theorem mem_zero (h : IsMem w X p frames pg ops) (k : Int) :
    ∃ m, w.cell? ⟨p, 1, none⟩ = some (.map (some m)) ∧ ∃ w', (∀ ty : TypeId, (Builtin.delete_ #[120, 3] ty #[.map (some m), .int .i64 k]).run Try.prog w = .ok (.tuple #[]) w') ∧ IsMem w' X p frames (updP pg k none) ops ∧ Only (fun b => ¬ X b) w w' := by
  obtain ⟨m, f, n, h1, h2, h3, h4, h5, h6, h7, h8⟩ := h
  have c1 : w.cell? ⟨p, 1, none⟩ = some (.map (some m)) := by rw [cell_of h1]; rfl
  cases hk : pg k with
  | none =>
    have hdel := map_del_none (P := Try.prog) (t := 120) Try.underlying120 Try.underlying3 h3 k (h7 k hk)
    have e : updP pg k none = pg := by
      funext j
      unfold updP
      by_cases hj : j = k
      · rw [if_pos hj, hj, hk]
      · rw [if_neg hj]
    rw [e]
    exact ⟨m, c1, w, fun ty => hdel 3 ty, ⟨m, f, n, h1, h2, h3, h4, h5, h6, h7, h8⟩, Only.refl _ _⟩
  | some l =>
    obtain ⟨v, hv, hpg⟩ := h8 k l hk
    obtain ⟨w', hdel, hmap, -, ho⟩ := map_del (P := Try.prog) (t := 120) Try.underlying120 Try.underlying3 h3 k v hv
    refine ⟨m, c1, w', fun ty => hdel 3 ty, ⟨m, _, _, keep_only ho (fun e => h5 e.symm) h1, h2, hmap, h4, h5, h6, fun j hj => ?_, fun j lj hj => ?_⟩, ho.mono fun b _ e => by rw [e]; exact h4⟩
    · unfold updP at hj
      unfold updF
      by_cases e : j = k
      · rw [if_pos e]
      · rw [if_neg e] at hj ⊢; exact h7 j hj
    · unfold updP at hj
      unfold updF
      by_cases e : j = k
      · rw [if_pos e] at hj; cases hj
      · rw [if_neg e] at hj ⊢
        obtain ⟨v, a, b⟩ := h8 j lj hj
        exact ⟨v, a, page_only b ho fun b _ _ hm e => hm e⟩
end
/-- What a method of the memory leaves. -/
def RetMem (w : World) (X : Nat → Prop) (p frames : Nat) (v : Value) (pg : Int → Option (List Nat)) (ops : Nat) (e : Ending) (w' : World) : Prop :=
  e = .returned v ∧ IsMem w' X p frames pg ops ∧ Only (fun b => ¬ X b) w w'
theorem physNew_calls (n : Nat) (w : World) (h1 : 1 ≤ n) (h2 : n ≤ 1048576) : Calls Try.prog 54 #[.int .i64 n] w (fun e w' =>
    e = .returned (.tuple #[.pointer (some ⟨w.heap.size + 1, 0, none⟩), .int .i64 0]) ∧ Old w w' ∧ w'.heap.size = w.heap.size + 2 ∧ ∀ X : Nat → Prop, (∀ b, X b → b < w.heap.size) → IsMem w' X (w.heap.size + 1) n (fun _ => none) 0) := by
  have i1 : (1 : Int) ≤ n := by omega
  have i2 : (n : Int) ≤ 1048576 := by omega
  have hmm := @run_makeMap Try.prog
  go_enter Try.func54, Try.ntmps54
  go_wp2
  go_ret2
  refine ⟨?_, old_alloc (old_alloc (old_refl w) _) _, by simp, fun X hX => ⟨w.heap.size, fun _ => none, 0, ?_, fun f => by have := hX _ f; omega, isMap_old (isMap_made w) (old_alloc (old_refl _) _), fun f => by have := hX _ f; omega, by omega, ⟨h1, h2⟩, fun _ _ => rfl, fun k l hk => by cases hk⟩⟩
  · first | rfl | simp
  · exact alloc_heap_new _ _ _ (by simp)
section
variable {X : Nat → Prop} {p frames ops : Nat} {pg : Int → Option (List Nat)} {w : World}
def hasB (frames : Nat) (k : Int) : Bool := decide (0 ≤ k) && decide (k < frames)
theorem has_calls (h : IsMem w X p frames pg ops) (k : Int) : Calls Try.prog 66 #[.pointer (some ⟨p, 0, none⟩), .int .i64 k] w (RetB w (.bool (hasB frames k))) := by
  obtain ⟨m, f, n, h1, h2, h3, h4, h5, h6, h7, h8⟩ := h
  have c0 : w.cell? ⟨p, 0, none⟩ = some (.int .i64 frames) := by rw [cell_of h1]; rfl
  clear h1 h2 h3 h4 h5 h6 h7 h8
  by_cases k0 : 0 ≤ k
  · by_cases k1 : k < frames
    · have e : hasB frames k = true := by unfold hasB; simp [k0, k1]
      rw [e]
      clear e
      go_enter Try.func66, Try.ntmps66
      go_wp2
      go_ret
      exact ⟨rfl, old_refl _⟩
    · have e : hasB frames k = false := by unfold hasB; simp [k1]
      rw [e]
      clear e
      go_enter Try.func66, Try.ntmps66
      go_wp2
      go_ret
      exact ⟨rfl, old_refl _⟩
  · have e : hasB frames k = false := by unfold hasB; simp [k0]
    rw [e]
    clear e
    go_enter Try.func66, Try.ntmps66
    go_wp2
    go_ret
    exact ⟨rfl, old_refl _⟩
/-- page tells a frame's bytes: its own block, or a new one. -/
theorem page_calls (h : IsMem w X p frames pg ops) (k : Int) : Calls Try.prog 65 #[.pointer (some ⟨p, 0, none⟩), .int .i64 k] w (fun e w' => ∃ g c, e = .returned (.slice (some ⟨g, 0, none⟩) 4096 c) ∧ Row w' 0 g c (pageOf pg k) ∧ Old w w') := by
  have hl := pageOf_length h k
  obtain ⟨m, f, n, h1, h2, h3, h4, h5, h6, h7, h8⟩ := h
  have c1 : w.cell? ⟨p, 1, none⟩ = some (.map (some m)) := by rw [cell_of h1]; rfl
  cases hk : pg k with
  | none =>
    have hlk := map_miss (P := Try.prog) (t := 120) Try.underlying120 Try.underlying3 (zero_bytes w) h3 (h7 k hk)
    obtain ⟨w2, hmk, hrow, hO⟩ := make_page w
    have hp0 : pageOf pg k = zeros4096 := by unfold pageOf; rw [hk]; rfl
    rw [hp0]
    have hr0 : Row w2 0 w.heap.size 4096 zeros4096 := by
      refine ⟨⟨hrow.1.1, ?_⟩, hrow.2⟩
      rcases hrow.1.2 with h' | ⟨g', cap', cur, h', hb, rest⟩
      · exact .inl h'
      · exact .inr ⟨g', cap', cur, h', Nat.zero_le _, rest⟩
    have HR := Lib.hid (And.intro hr0 hO)
    clear h1 h2 h3 h4 h5 h6 h7 h8 hl hk hrow hO hr0 hp0
    go_enter Try.func65, Try.ntmps65
    go_wp2
    go_ret
    exact ⟨_, _, rfl, HR.out.1, HR.out.2⟩
  | some l =>
    obtain ⟨v, hv, g, c, rfl, b1, b2, b3, b4, b5⟩ := h8 k l hk
    have hlk := map_lookup (P := Try.prog) (t := 120) Try.underlying120 Try.underlying3 h3 hv
    have hp0 : pageOf pg k = l := by unfold pageOf; rw [hk]; rfl
    rw [hp0]
    have HR := Lib.hid b2
    clear h1 h2 h3 h4 h5 h6 h7 h8 hl hk hv b1 b2 b3 b4 b5 hp0
    go_enter Try.func65, Try.ntmps65
    go_wp2
    go_ret
    exact ⟨_, _, rfl, HR.out, old_refl _⟩
end
end Go.Proofs.Ytlbehhbicmmdoaa
/- Contracts of the package phys: place, Read, Write. -/
namespace Go.Proofs.Ytlbehhbicmmdoaa
set_option linter.unusedVariables false
set_option linter.unusedSimpArgs false
open Go.RowKit
/-- Why a word may not be. -/
def placeE (frames : Nat) (addr : Nat) (s : Int) : Int := if checkN 4096 ((addr % 4096 : Nat) : Int) s ≠ 0 then checkN 4096 ((addr % 4096 : Nat) : Int) s else if frames ≤ addr / 4096 then 2 else 0
section
variable {X : Nat → Prop} {p frames ops : Nat} {pg : Int → Option (List Nat)} {w : World}
theorem mplace_calls (h : IsMem w X p frames pg ops) (addr : Nat) (ha : addr < 18446744073709551616) (s : Int) :
    Calls Try.prog 63 #[.pointer (some ⟨p, 0, none⟩), .int .u64 (addr : Nat), .int .i64 s] w
      (RetB w (.tuple (if placeE frames addr s = 0 then #[.int .i64 (addr / 4096 : Nat), .int .i64 (addr % 4096 : Nat), .int .i64 0] else #[.int .i64 0, .int .i64 0, .int .i64 (placeE frames addr s)]))) := by
  obtain ⟨w1, hmk, hrow, hO⟩ := make_page w
  obtain ⟨m, f, n, h1, h2, h3, h4, h5, h6, h7, h8⟩ := h
  have c0 : w.cell? ⟨p, 0, none⟩ = some (.int .i64 frames) := by rw [cell_of h1]; rfl
  have hB := row_bytes hrow
  have hp := lt_of_block h1
  have e1 : ((addr : Int) % 4096) = ((addr % 4096 : Nat) : Int) := by omega
  have e2 : ((addr : Int) / 4096) = ((addr / 4096 : Nat) : Int) := by omega
  have hfr : IntKind.u64.wrap (frames : Int) = frames := IntWalk.u64_in _ (by omega)
  have hlo : addr % 4096 < 4096 := Nat.mod_lt _ (by decide)
  have hhi : addr / 4096 ≤ 9007199254740992 := by omega
  generalize hA : addr % 4096 = at_ at *
  generalize hF : addr / 4096 = fr at *
  have HA := Lib.hid (And.intro hA hF)
  have hPE : placeE frames addr s = if checkN 4096 (at_ : Int) s ≠ 0 then checkN 4096 (at_ : Int) s else if frames ≤ fr then 2 else 0 := by unfold placeE; rw [hA, hF]
  rw [hPE]
  clear hPE
  by_cases hc : checkN 4096 (at_ : Int) s = 0
  case neg =>
    have e : (if checkN 4096 (at_ : Int) s ≠ 0 then checkN 4096 (at_ : Int) s else if frames ≤ fr then 2 else 0) = checkN 4096 (at_ : Int) s := if_pos hc
    rw [e, if_neg hc]
    clear e
    have hget := fun x => get_fail (some ⟨w.heap.size, 0, none⟩) 4096 4096 (at_ : Int) s x (by decide) _ rfl hc
    generalize checkN 4096 (at_ : Int) s = E at *
    have hb : (E != 0) = true := by simp [hc]
    have HO := Lib.hid hO
    clear h1 h2 h3 h4 h5 h6 h7 h8 hA hF hB hrow hO hc c0
    go_enter Try.func63, Try.ntmps63
    go_wp2_with fail
    (with_reducible refine (hget _).mono ?_)
    rintro e w2 ⟨rfl, hb2⟩
    go_wp2
    go_ret3
    exact ⟨rfl, old_then HO.out hb2⟩
  case pos =>
  have e : (if checkN 4096 (at_ : Int) s ≠ 0 then checkN 4096 (at_ : Int) s else if frames ≤ fr then (2 : Int) else 0) = if frames ≤ fr then 2 else 0 := if_neg (by simp [hc])
  rw [e]
  clear e
  have hs : 1 ≤ s ∧ s ≤ 8 ∧ (at_ : Int) + s ≤ 4096 := by
    unfold checkN at hc
    split at hc
    · cases hc
    split at hc
    · cases hc
    split at hc
    · cases hc
    rename_i g1 g2 g3
    have g1' := Classical.not_not.1 g1
    omega
  obtain ⟨sn, rfl⟩ : ∃ sn : Nat, s = sn := ⟨s.toNat, by omega⟩
  have hz := zeros4096_length
  have hget := fun x (hBx : Bytes x (some ⟨w.heap.size, 0, none⟩) 4096 zeros4096) => get_ok (some ⟨w.heap.size, 0, none⟩) zeros4096 4096 (at_ : Int) (sn : Int) at_ sn rfl rfl x hBx (by rw [hz]; exact hc) (by omega) (by omega) (by omega)
  rw [hz] at hget
  have hg1 := hget w1 hB
  generalize getN zeros4096 at_ sn = gv at *
  have HO := Lib.hid hO
  have H1 := Lib.hid h1
  have hold : ∀ y, Old w1 y → y.cell? ⟨p, 0, none⟩ = some (.int .i64 frames) := fun y hy => by rw [cell_of (keep_old hy (keep_old hO h1))]; rfl
  have HC := Lib.hid hold
  have hcast : IntKind.i64.wrap (fr : Int) = fr := IntWalk.i64_in _ (by omega)
  by_cases hr : frames ≤ fr
  · have e : (if frames ≤ fr then (2 : Int) else 0) = 2 := if_pos hr
    rw [e, if_neg (by decide)]
    clear e
    clear h1 h2 h3 h4 h5 h6 h7 h8 hA hF hB hrow hO hc c0 hz hget hold
    go_enter Try.func63, Try.ntmps63
    go_wp2_with fail
    (with_reducible refine hg1.mono ?_)
    rintro e w2 ⟨rfl, hb2⟩
    have c0 := HC.out _ hb2
    go_wp2
    go_ret3
    exact ⟨rfl, old_then HO.out hb2⟩
  · have e : (if frames ≤ fr then (2 : Int) else 0) = 0 := if_neg hr
    rw [e, if_pos rfl]
    clear e
    clear h1 h2 h3 h4 h5 h6 h7 h8 hA hF hB hrow hO hc c0 hz hget hold
    go_enter Try.func63, Try.ntmps63
    go_wp2_with fail
    (with_reducible refine hg1.mono ?_)
    rintro e w2 ⟨rfl, hb2⟩
    have c0 := HC.out _ hb2
    go_wp2
    go_ret3
    exact ⟨rfl, old_then HO.out hb2⟩
end
end Go.Proofs.Ytlbehhbicmmdoaa
/- Contracts of the package phys: Read, Write; bytes.Clone, bytes.Equal. -/
namespace Go.Proofs.Ytlbehhbicmmdoaa
set_option linter.unusedVariables false
set_option linter.unusedSimpArgs false
open Go.RowKit
theorem placeE_zero {frames addr : Nat} {s : Int} (h : placeE frames addr s = 0) : checkN 4096 ((addr % 4096 : Nat) : Int) s = 0 ∧ addr / 4096 < frames ∧ 1 ≤ s ∧ s ≤ 8 ∧ ((addr % 4096 : Nat) : Int) + s ≤ 4096 := by
  have hc : checkN 4096 ((addr % 4096 : Nat) : Int) s = 0 := by
    unfold placeE at h
    split at h
    · rename_i h1; exact absurd h h1
    · rename_i h1; exact Classical.not_not.1 h1
  have hf : addr / 4096 < frames := by
    unfold placeE at h
    rw [if_neg (fun g => g hc)] at h
    split at h
    · cases h
    · omega
  refine ⟨hc, hf, ?_⟩
  unfold checkN at hc
  split at hc
  · cases hc
  split at hc
  · cases hc
  split at hc
  · cases hc
  rename_i g1 g2 g3
  have g1' := Classical.not_not.1 g1
  omega
section
variable {X : Nat → Prop} {p frames ops : Nat} {pg : Int → Option (List Nat)} {w : World}
theorem read_fail2 (h : IsMem w X p frames pg ops) (addr : Nat) (ha : addr < 18446744073709551616) (s : Int) (he : placeE frames addr s ≠ 0) :
    Calls Try.prog 60 #[.pointer (some ⟨p, 0, none⟩), .int .u64 (addr : Nat), .int .i64 s] w (RetB w (.tuple #[.int .u64 0, .int .i64 (placeE frames addr s)])) := by
  have hp := mplace_calls h addr ha s
  rw [if_neg he] at hp
  generalize placeE frames addr s = E at *
  have hb : (E != 0) = true := by simp [he]
  clear he h
  go_enter Try.func60, Try.ntmps60
  go_wp2_with fail
  (with_reducible refine hp.mono ?_)
  rintro e w1 ⟨rfl, hb1⟩
  go_wp2
  go_ret2
  exact ⟨rfl, hb1⟩
/-- What a frame's number is. -/
def wordOf (pg : Int → Option (List Nat)) (addr : Nat) (s : Int) : Nat := getN (pageOf pg ((addr / 4096 : Nat) : Int)) (addr % 4096) s.toNat
set_option maxHeartbeats 1000000 in
theorem read_ok2 (h : IsMem w X p frames pg ops) (addr : Nat) (ha : addr < 18446744073709551616) (s : Int) (he : placeE frames addr s = 0) (ho : ops < 4611686018427387904) :
    Calls Try.prog 60 #[.pointer (some ⟨p, 0, none⟩), .int .u64 (addr : Nat), .int .i64 s] w (RetMem w X p frames (.tuple #[.int .u64 (wordOf pg addr s : Nat), .int .i64 0]) pg (ops + 1)) := by
  have hp := mplace_calls h addr ha s
  rw [if_pos he] at hp
  obtain ⟨hc, hf, hs1, hs8, hle⟩ := placeE_zero he
  obtain ⟨sn, rfl⟩ : ∃ sn : Nat, s = sn := ⟨s.toNat, by omega⟩
  have hl := fun k => pageOf_length h k
  have H := Lib.hid h
  have hv : wordOf pg addr (sn : Int) = getN (pageOf pg ((addr / 4096 : Nat) : Int)) (addr % 4096) sn := rfl
  rw [hv]
  clear hv
  generalize addr / 4096 = fr at *
  generalize addr % 4096 = at_ at *
  have hget := fun x c g (hBx : Bytes x (some ⟨g, 0, none⟩) c (pageOf pg (fr : Int))) => get_ok (some ⟨g, 0, none⟩) (pageOf pg (fr : Int)) c (at_ : Int) (sn : Int) at_ sn rfl rfl x hBx (by rw [hl]; exact hc) (by rw [hl]; omega) (by omega) (by omega)
  simp only [hl] at hget
  have HG := Lib.hid hget
  clear h he hc hf hle hl hget
  go_enter Try.func60, Try.ntmps60
  go_wp2_with fail
  (with_reducible refine hp.mono ?_)
  rintro e w1 ⟨rfl, hb1⟩
  obtain ⟨C, hC1, hC2, hm, hOn⟩ := mem_ops (mem_old H.out hb1) (ops + 1)
  have hcell : w1.cell? ⟨p, 2, none⟩ = some (.int .i64 ops) := by rw [cell_of hC1]; exact hC2
  have hfr := frozen_of hC1 2
  have hset : w1.setCell ⟨p, 2, none⟩ (.int .i64 ((ops : Int) + 1)) = putB w1 p (.cells (C.setIfInBounds 2 (.int .i64 ((ops + 1 : Nat) : Int))) 122) := by rw [set_of hC1]; rfl
  generalize putB w1 p (.cells (C.setIfInBounds 2 (.int .i64 ((ops + 1 : Nat) : Int))) 122) = W at *
  have hO1 : Only (fun b => ¬ X b) w W := ((Only.of_below hb1).mono fun b _ f => f.elim).trans hOn
  have hpg := page_calls hm (fr : Int)
  have HM := Lib.hid (And.intro hm hO1)
  clear hC1 hC2 hm hOn hO1 hb1 hp
  go_wp2_with fail
  (with_reducible refine hpg.mono ?_)
  rintro e w2 ⟨g, c, rfl, hrow, hO2⟩
  have hg1 := HG.out w2 c g (row_bytes hrow)
  have HM2 := Lib.hid (And.intro (mem_old HM.out.1 hO2) (HM.out.2.trans ((Only.of_below hO2).mono fun b _ f => f.elim)))
  clear hpg hrow hO2
  go_wp2_with fail
  (with_reducible refine hg1.mono ?_)
  rintro e w3 ⟨rfl, hO3⟩
  have HM3 := Lib.hid (And.intro (mem_old HM2.out.1 hO3) (HM2.out.2.trans ((Only.of_below hO3).mono fun b _ f => f.elim)))
  clear hg1 hO3
  go_wp2
  go_ret2
  exact ⟨rfl, HM3.out.1, HM3.out.2⟩
/-- A frame with another number. -/
def wroteOf (pg : Int → Option (List Nat)) (addr : Nat) (s : Int) (v : Nat) : List Nat := putL (pageOf pg ((addr / 4096 : Nat) : Int)) (addr % 4096) v s.toNat
set_option maxHeartbeats 1000000 in
theorem write_ok2 (h : IsMem w X p frames pg ops) (hX : ∀ b, X b → b < w.heap.size) (addr : Nat) (ha : addr < 18446744073709551616) (s : Int) (v : Nat) (he : placeE frames addr s = 0) (ho : ops < 4611686018427387904) :
    Calls Try.prog 38 #[.pointer (some ⟨p, 0, none⟩), .int .u64 (addr : Nat), .int .i64 s, .int .u64 (v : Nat)] w (RetMem w X p frames (.int .i64 0) (updP pg ((addr / 4096 : Nat) : Int) (some (wroteOf pg addr s v))) (ops + 1)) := by
  have hp := mplace_calls h addr ha s
  rw [if_pos he] at hp
  obtain ⟨hc, hf, hs1, hs8, hle⟩ := placeE_zero he
  obtain ⟨sn, rfl⟩ : ∃ sn : Nat, s = sn := ⟨s.toNat, by omega⟩
  have hl := fun k => pageOf_length h k
  have H := Lib.hid h
  have hv : wroteOf pg addr (sn : Int) v = putL (pageOf pg ((addr / 4096 : Nat) : Int)) (addr % 4096) v sn := rfl
  rw [hv]
  clear hv
  generalize addr / 4096 = fr at *
  generalize addr % 4096 = at_ at *
  have hput := fun x c g (hBx : Bytes x (some ⟨g, 0, none⟩) c (pageOf pg (fr : Int))) => put_ok (some ⟨g, 0, none⟩) (pageOf pg (fr : Int)) c (at_ : Int) (sn : Int) (v : Int) at_ sn v rfl rfl rfl x hBx (by rw [hl]; exact hc) (by rw [hl]; omega) (by omega) (by omega) (by rw [hl]; decide)
  simp only [hl] at hput
  have hll := putL_length (pageOf pg (fr : Int)) at_ v sn
  rw [hl] at hll
  have HG := Lib.hid hput
  have HLL := Lib.hid hll
  clear h he hc hf hle hl hput hll
  go_enter Try.func38, Try.ntmps38
  go_wp2_with fail
  (with_reducible refine hp.mono ?_)
  rintro e w1 ⟨rfl, hb1⟩
  obtain ⟨C, hC1, hC2, hm, hOn⟩ := mem_ops (mem_old H.out hb1) (ops + 1)
  have hcell : w1.cell? ⟨p, 2, none⟩ = some (.int .i64 ops) := by rw [cell_of hC1]; exact hC2
  have hfr := frozen_of hC1 2
  have hset : w1.setCell ⟨p, 2, none⟩ (.int .i64 ((ops : Int) + 1)) = putB w1 p (.cells (C.setIfInBounds 2 (.int .i64 ((ops + 1 : Nat) : Int))) 122) := by rw [set_of hC1]; rfl
  generalize putB w1 p (.cells (C.setIfInBounds 2 (.int .i64 ((ops + 1 : Nat) : Int))) 122) = W at *
  have hO1 : Only (fun b => ¬ X b) w W := ((Only.of_below hb1).mono fun b _ f => f.elim).trans hOn
  have hpg := page_calls hm (fr : Int)
  have HM := Lib.hid (And.intro hm hO1)
  clear hC1 hC2 hm hOn hO1 hb1 hp
  go_wp2_with fail
  (with_reducible refine hpg.mono ?_)
  rintro e w2 ⟨g, c, rfl, hrow, hO2⟩
  have hg1 := HG.out w2 c g (row_bytes hrow)
  have HM2 := Lib.hid (And.intro (mem_old HM.out.1 hO2) (HM.out.2.trans ((Only.of_below hO2).mono fun b _ f => f.elim)))
  clear hpg hrow hO2
  go_wp2_with fail
  (with_reducible refine hg1.mono ?_)
  rintro e w3 ⟨g2, c2, rfl, hrow2, hO3⟩
  have hm3 := mem_old HM2.out.1 hO3
  have hOn3 : Only (fun b => ¬ X b) w w3 := HM2.out.2.trans ((Only.of_below hO3).mono fun b _ f => f.elim)
  have hge := (row_parts hrow2).1
  have hsz := HM2.out.2.size
  have hpm : ∀ m, w3.cell? ⟨p, 1, none⟩ = some (.map (some m)) → g2 ≠ m ∧ g2 ≠ p := by
    intro m hcm
    obtain ⟨m', f', n', k1, k2, k3, k4, k5, k6, k7, k8⟩ := HM2.out.1
    have c1 : w3.cell? ⟨p, 1, none⟩ = some (.map (some m')) := by rw [cell_of (keep_old hO3 k1)]; rfl
    rw [c1] at hcm
    have hmm : m' = m := by simpa using hcm
    subst hmm
    have e1 := isMap_lt k3
    have e2 := lt_of_block k1
    omega
  have hgp : g2 ≠ p := by
    obtain ⟨m', f', n', k1, k2, k3, k4, k5, k6, k7, k8⟩ := hm3
    exact (hpm m' (by rw [cell_of k1]; rfl)).2
  obtain ⟨m, c1, W4, hput, hm4, hO4⟩ := mem_page hm3 (fr : Int) _ _ g2 c2 hrow2 HLL.out (fun f => by have := hX _ f; omega) hgp (fun m hm => (hpm m hm).1)
  rw [HLL.out]
  have HF := Lib.hid (And.intro hm4 (hOn3.trans hO4))
  clear hg1 hO3 hm3 hOn3 hge hsz hpm hgp hm4 hO4 hrow2
  go_wp2
  go_ret
  exact ⟨rfl, HF.out.1, HF.out.2⟩
end
theorem eq_nil_bytes (a : Addr) (n c : Nat) (w : World) : (binOp .eql 87 (.slice (some a) n c) (.slice none 0 0)).run Try.prog w = .ok (.bool false) w := by kernel_rfl
set_option maxRecDepth 100000 in
theorem clone_fix (a : Addr) (l : List Nat) (c : Nat) (w : World) (hl : Bytes w (some a) c l) (h0 : 0 < l.length) (hbig : l.length ≤ 1000000) :
    ∃ g cap w2, Row w2 w.heap.size g cap l ∧ Old w w2 ∧ Calls Try.prog 67 #[.slice (some a) l.length c] w (fun e y => e = .returned (.slice (some ⟨g, 0, none⟩) l.length cap) ∧ w2 = y) := by
  obtain ⟨v, w2, hrun, hown, hO, -⟩ := copy_run 87 w (some a) c l hl hbig
  obtain ⟨g, cap, rfl, hrow⟩ := row_of hown rfl h0 (bytes_lt hl)
  refine ⟨g, cap, w2, hrow, hO, ?_⟩
  have hn := eq_nil_bytes a l.length c
  clear hl hown hrow hO
  go_enter Try.func67, Try.ntmps67
  go_wp2_with (at_builtin; refine wpList_append_run rfl _ _ 87 rfl _ _ rfl rfl _ _ hrun ?_; clear hrun)
  go_ret
  exact ⟨rfl, rfl⟩
theorem clone_calls (a : Addr) (l : List Nat) (c : Nat) (w : World) (hl : Bytes w (some a) c l) (h0 : 0 < l.length) (hbig : l.length ≤ 1000000) :
    Calls Try.prog 67 #[.slice (some a) l.length c] w (fun e w' => ∃ g cap, e = .returned (.slice (some ⟨g, 0, none⟩) l.length cap) ∧ Row w' w.heap.size g cap l ∧ Old w w') := by
  obtain ⟨g, cap, w2, h1, h2, h3⟩ := clone_fix a l c w hl h0 hbig
  exact h3.mono fun e y ⟨he, hy⟩ => by subst hy; exact ⟨g, cap, he, h1, h2⟩
end Go.Proofs.Ytlbehhbicmmdoaa
/- What was put is got, part by part: plain. -/
namespace Go.Proofs.Ytlbehhbicmmdoaa
set_option linter.unusedVariables false
set_option linter.unusedSimpArgs false
open Go.RowKit
theorem putL_at (l : List Nat) (p v : Nat) : ∀ (k i : Nat), (putL l p v k)[i]? = if p ≤ i ∧ i < p + k ∧ i < l.length then some (v / 2 ^ (8 * (i - p)) % 256) else l[i]?
  | 0, i => by rw [putL, if_neg (by omega)]
  | k + 1, i => by
    rw [putL, List.getElem?_set, putL_length]
    by_cases h : p + k = i
    · subst h
      by_cases hl : p + k < l.length
      · rw [if_pos rfl, if_pos hl, if_pos ⟨by omega, by omega, hl⟩, Nat.add_sub_cancel_left]
      · rw [if_pos rfl, if_neg hl, if_neg (by omega), List.getElem?_eq_none (by omega)]
    · rw [if_neg h, putL_at l p v k i]
      by_cases h2 : p ≤ i ∧ i < p + k ∧ i < l.length
      · rw [if_pos h2, if_pos ⟨h2.1, by omega, h2.2.2⟩]
      · rw [if_neg h2, if_neg (by omega)]
theorem get_put_part (l : List Nat) (p v i s : Nat) (h8 : i + s ≤ 8) (h : p + 8 ≤ l.length) : getN (putL l p v 8) (p + i) s = v / 2 ^ (8 * i) % 2 ^ (8 * s) := by
  have key : ∀ k, k ≤ s → getN (putL l p v 8) (p + i) k = v / 2 ^ (8 * i) % 2 ^ (8 * k) := by
    intro k
    induction k with
    | zero => intro _; simp [getN, Nat.mod_one]
    | succ k ih =>
      intro hk
      rw [getN, ih (by omega), List.getD_eq_getElem?_getD, putL_at, if_pos ⟨by omega, by omega, by omega⟩, Option.getD_some, show p + i + k - p = i + k by omega]
      rw [show 8 * (i + k) = 8 * i + 8 * k by omega, Nat.pow_add, ← Nat.div_div_eq_div_mul, show 8 * (k + 1) = 8 * k + 8 by omega, Nat.pow_add, Nat.mod_mul]
      rw [Nat.mul_comm (2 ^ (8 * k))]
  exact key s (Nat.le_refl _)
end Go.Proofs.Ytlbehhbicmmdoaa
/- A memory by its words: contracts of phys.New, Read and Write of eight bytes. -/
namespace Go.Proofs.Ytlbehhbicmmdoaa
set_option linter.unusedVariables false
set_option linter.unusedSimpArgs false
open Go.RowKit
/-- Is there a word? -/
def okM (frames a : Nat) : Bool := decide (a % 8 = 0 ∧ a / 4096 < frames)
theorem okM_place {frames a : Nat} : placeE frames a 8 = 0 ↔ okM frames a = true := by
  unfold okM
  rw [decide_eq_true_iff]
  constructor
  · intro h
    obtain ⟨h1, h2, _, _, _⟩ := placeE_zero h
    refine ⟨?_, h2⟩
    unfold checkN at h1
    split at h1
    · cases h1
    split at h1
    · cases h1
    · rename_i _ g; have g' := Classical.not_not.1 g; omega
  · rintro ⟨h1, h2⟩
    have hc : checkN 4096 ((a % 4096 : Nat) : Int) 8 = 0 := checkN_ok (.inr (.inr (.inr rfl))) (by omega) (by omega)
    unfold placeE
    rw [if_neg (not_not_intro hc), if_neg (by omega)]
/-- A word; 0 where there is none. -/
def rawM (frames : Nat) (wd : Nat → Nat) (a : Nat) : Nat := if okM frames a then wd a else 0
theorem rawM_yes {frames : Nat} {wd : Nat → Nat} {a : Nat} (h : okM frames a = true) : rawM frames wd a = wd a := if_pos h
def updW (wd : Nat → Nat) (a v : Nat) : Nat → Nat := fun b => if b = a then v else wd b
theorem getN_ext (l m : List Nat) (p k : Nat) (h : ∀ i, i < k → l.getD (p + i) 0 = m.getD (p + i) 0) : getN l p k = getN m p k := by
  induction k with
  | zero => rfl
  | succ k ih => rw [getN, getN, ih (fun i hi => h i (by omega)), h k (by omega)]
theorem getN_nought (p k : Nat) : getN zeros4096 p k = 0 := by
  induction k with
  | zero => rfl
  | succ k ih =>
    rw [getN, ih, List.getD_eq_getElem?_getD]
    cases hx : (zeros4096)[p + k]? with
    | none => simp
    | some x =>
      have : x = 0 := List.eq_of_mem_replicate (List.mem_of_getElem? hx)
      simp [this]
/-- Block p holds a memory of these words. -/
def IsMemW (w : World) (X : Nat → Prop) (p frames : Nat) (wd : Nat → Nat) (N : Nat) : Prop :=
  ∃ pg ops, ops ≤ N ∧ IsMem w X p frames pg ops ∧ ∀ a, okM frames a = true → wordOf pg a 8 = wd a
section
variable {w x : World} {X Y : Nat → Prop} {p frames N M : Nat} {wd : Nat → Nat}
theorem memW_only {G : Nat → Prop} (h : IsMemW w X p frames wd N) (ho : Only G w x) (hG : ∀ b, ¬ X b → ¬ G b) : IsMemW x X p frames wd N := by
  obtain ⟨pg, ops, h1, h2, h3⟩ := h
  exact ⟨pg, ops, h1, mem_only h2 ho hG, h3⟩
theorem memW_old (h : IsMemW w X p frames wd N) (ho : Old w x) : IsMemW x X p frames wd N := memW_only h (Only.of_below ho) fun _ _ f => f
theorem memW_more (h : IsMemW w X p frames wd N) (hY : ∀ b, Y b → X b ∨ w.heap.size ≤ b) : IsMemW w Y p frames wd N := by
  obtain ⟨pg, ops, h1, h2, h3⟩ := h
  exact ⟨pg, ops, h1, mem_more h2 hY, h3⟩
theorem memW_le (h : IsMemW w X p frames wd N) (hM : N ≤ M) : IsMemW w X p frames wd M := by
  obtain ⟨pg, ops, h1, h2, h3⟩ := h
  exact ⟨pg, ops, by omega, h2, h3⟩
theorem rawM_lt (h : IsMemW w X p frames wd N) (a : Nat) : rawM frames wd a < 18446744073709551616 := by
  unfold rawM
  split
  · rename_i hok
    obtain ⟨pg, ops, h1, h2, h3⟩ := h
    rw [← h3 a hok]
    unfold wordOf pageOf
    refine Nat.lt_of_lt_of_le (getN_lt ?_ _ _) (by decide)
    cases hk : pg ((a / 4096 : Nat) : Int) with
    | none => intro y hy; have : y = 0 := List.eq_of_mem_replicate hy; omega
    | some l =>
      obtain ⟨m, f, n, _, _, _, _, _, _, _, h8⟩ := h2
      obtain ⟨v, _, g, c, _, _, hr, _⟩ := h8 _ l hk
      exact hr.2
  · decide
theorem memW_read (h : IsMemW w X p frames wd N) (hN : N < 4000000000) (a : Nat) (ha : a < 18446744073709551616) (hok : okM frames a = true) :
    Calls Try.prog 60 #[.pointer (some ⟨p, 0, none⟩), .int .u64 (a : Nat), .int .i64 8] w (fun e y => e = .returned (.tuple #[.int .u64 (wd a : Nat), .int .i64 0]) ∧ IsMemW y X p frames wd (N + 1) ∧ Only (fun b => ¬ X b) w y) := by
  obtain ⟨pg, ops, h1, h2, h3⟩ := h
  have := read_ok2 h2 a ha 8 (okM_place.2 hok) (by omega)
  rw [h3 a hok] at this
  exact this.mono fun e y ⟨he, hm, ho⟩ => ⟨he, ⟨pg, ops + 1, by omega, hm, h3⟩, ho⟩
theorem memW_readE (h : IsMemW w X p frames wd N) (a : Nat) (ha : a < 18446744073709551616) (hok : okM frames a = false) :
    ∃ E : Int, E ≠ 0 ∧ Calls Try.prog 60 #[.pointer (some ⟨p, 0, none⟩), .int .u64 (a : Nat), .int .i64 8] w (RetB w (.tuple #[.int .u64 0, .int .i64 E])) := by
  obtain ⟨pg, ops, h1, h2, h3⟩ := h
  have hp : placeE frames a 8 ≠ 0 := fun e => by rw [okM_place] at e; rw [hok] at e; cases e
  exact ⟨_, hp, read_fail2 h2 a ha 8 hp⟩
theorem word_wrote {pg : Int → Option (List Nat)} (hl : ∀ k, (pageOf pg k).length = 4096) (a b v : Nat) (ha : a % 8 = 0) (hb : b % 8 = 0) (hv : v < 18446744073709551616) :
    wordOf (updP pg ((a / 4096 : Nat) : Int) (some (wroteOf pg a 8 v))) b 8 = if b = a then v else wordOf pg b 8 := by
  have h64 : (2 : Nat) ^ (8 * 8) = 18446744073709551616 := by decide
  have h8 : Int.toNat 8 = 8 := rfl
  unfold wordOf
  rw [h8]
  by_cases hf : b / 4096 = a / 4096
  · have hp : pageOf (updP pg ((a / 4096 : Nat) : Int) (some (wroteOf pg a 8 v))) ((b / 4096 : Nat) : Int) = putL (pageOf pg ((a / 4096 : Nat) : Int)) (a % 4096) v 8 := by
      have e : updP pg ((a / 4096 : Nat) : Int) (some (wroteOf pg a 8 v)) ((b / 4096 : Nat) : Int) = some (wroteOf pg a 8 v) := by
        unfold updP; rw [hf, if_pos rfl]
      show (updP pg ((a / 4096 : Nat) : Int) (some (wroteOf pg a 8 v)) ((b / 4096 : Nat) : Int)).getD zeros4096 = _
      rw [e]; rfl
    rw [hp]
    have hlen := hl ((a / 4096 : Nat) : Int)
    by_cases he : b = a
    · subst he
      rw [if_pos rfl]
      have := get_put_part (pageOf pg ((b / 4096 : Nat) : Int)) (b % 4096) v 0 8 (by omega) (by omega)
      rw [Nat.add_zero, Nat.mul_zero, Nat.pow_zero, Nat.div_one, h64, Nat.mod_eq_of_lt hv] at this
      exact this
    · rw [if_neg he, hf]
      refine getN_ext _ _ _ _ fun i hi => ?_
      rw [List.getD_eq_getElem?_getD, List.getD_eq_getElem?_getD, putL_at, if_neg (by omega)]
  · have hp : pageOf (updP pg ((a / 4096 : Nat) : Int) (some (wroteOf pg a 8 v))) ((b / 4096 : Nat) : Int) = pageOf pg ((b / 4096 : Nat) : Int) := by
      unfold pageOf updP; rw [if_neg (by omega)]
    rw [hp, if_neg (fun e => hf (by rw [e]))]
theorem memW_write (h : IsMemW w X p frames wd N) (hX : ∀ b, X b → b < w.heap.size) (hN : N < 4000000000) (a v : Nat) (ha : a < 18446744073709551616) (hv : v < 18446744073709551616) (hok : okM frames a = true) :
    Calls Try.prog 38 #[.pointer (some ⟨p, 0, none⟩), .int .u64 (a : Nat), .int .i64 8, .int .u64 (v : Nat)] w (fun e y => e = .returned (.int .i64 0) ∧ IsMemW y X p frames (updW wd a v) (N + 1) ∧ Only (fun b => ¬ X b) w y) := by
  obtain ⟨pg, ops, h1, h2, h3⟩ := h
  refine (write_ok2 h2 hX a ha 8 v (okM_place.2 hok) (by omega)).mono fun e y ⟨he, hm, ho⟩ => ⟨he, ⟨_, ops + 1, by omega, hm, fun b hb => ?_⟩, ho⟩
  have hok' := of_decide_eq_true hok
  have hb' := of_decide_eq_true hb
  rw [word_wrote (fun k => pageOf_length h2 k) a b v hok'.1 hb'.1 hv]
  unfold updW
  split
  · rfl
  · exact h3 b hb
theorem memW_new (n : Nat) (w : World) (h1 : 1 ≤ n) (h2 : n ≤ 1048576) : Calls Try.prog 54 #[.int .i64 n] w (fun e w' =>
    e = .returned (.tuple #[.pointer (some ⟨w.heap.size + 1, 0, none⟩), .int .i64 0]) ∧ Old w w' ∧ w'.heap.size = w.heap.size + 2 ∧ ∀ X : Nat → Prop, (∀ b, X b → b < w.heap.size) → IsMemW w' X (w.heap.size + 1) n (fun _ => 0) 0) :=
  (physNew_calls n w h1 h2).mono fun e y ⟨he, ho, hs, hm⟩ => ⟨he, ho, hs, fun X hX => ⟨_, 0, Nat.le_refl 0, hm X hX, fun a _ => getN_nought _ _⟩⟩
end
end Go.Proofs.Ytlbehhbicmmdoaa
namespace Go.Proofs.Ytlbehhbicmmdoaa
set_option linter.unusedVariables false
set_option linter.unusedSimpArgs false
open Go.RowKit
/-- The slots that the mask names are told anew. -/
def mergeL (f : Nat → Value) : List Bool → Nat → List Value → List Value
  | true :: m, k, _ :: l => f k :: mergeL f m (k + 1) l
  | false :: m, k, v :: l => v :: mergeL f m (k + 1) l
  | [], _, l => l
  | _ :: _, _, [] => []
def mergeA (m : List Bool) (f : Nat → Value) (a : Act) : Act := ⟨(mergeL f m 0 a.tmps.toList).toArray, a.defers⟩
def slotL : List Value → Nat → Value
  | [], _ => undef
  | v :: _, 0 => v
  | _ :: l, k + 1 => slotL l k
def slotF (a : Act) (k : Nat) : Value := slotL a.tmps.toList k
theorem mergeL_self (L : List Value) : ∀ (m : List Bool) (k : Nat) (l : List Value), (∀ i, slotL L (k + i) = slotL l i) → mergeL (slotL L) m k l = l
  | true :: m, k, v :: l, h => by
    unfold mergeL
    rw [mergeL_self L m (k + 1) l (fun i => by rw [show k + 1 + i = k + (i + 1) by omega, h]; rfl)]
    have := h 0
    rw [Nat.add_zero] at this
    rw [this]; rfl
  | false :: m, k, v :: l, h => by
    unfold mergeL
    rw [mergeL_self L m (k + 1) l (fun i => by rw [show k + 1 + i = k + (i + 1) by omega, h]; rfl)]
  | [], k, l, h => by cases l <;> rfl
  | true :: m, k, [], h => rfl
  | false :: m, k, [], h => rfl
theorem mergeA_self (m : List Bool) (a : Act) : mergeA m (slotF a) a = a := by
  unfold mergeA slotF
  rw [mergeL_self a.tmps.toList m 0 a.tmps.toList (fun i => by rw [Nat.zero_add])]
section
variable {P : Program}
theorem wp_cutF {s : Code} {K : Act → World → Prop} {Q' : Exit → Act → World → Prop} {a : Act} {w : World} (m : List Bool) (R : (Nat → Value) → World → Prop)
    (rest : ∀ f w', R f w' → K (mergeA m f a) w')
    (first : ∀ (J K' : Act → World → Prop), (∀ a' w', a' = mergeA m (slotF a') a → R (slotF a') w' → J a' w') → (∀ a' w', Met J a' w' → K' a' w') → s.wp P (Exit.then K' Q') a w) : s.wp P (Exit.then K Q') a w := by
  refine wp_cut (fun a' w' => a' = mergeA m (slotF a') a ∧ R (slotF a') w') (fun a' w' h => ?_) (fun J K' h1 h2 => first J K' (fun a' w' e r => h1 a' w' ⟨e, r⟩) h2)
  rw [h.1]
  exact rest _ _ h.2
theorem wp_loopF {c : Code} {Q : Exit → Act → World → Prop} {a : Act} {w : World} (m : List Bool) (R : (Nat → Value) → World → Prop) (mu : (Nat → Value) → Nat)
    (start : R (slotF a) w)
    (round : ∀ f w', R f w' → ∀ (J K' : Act → World → Prop), (∀ a' w'', a' = mergeA m (slotF a') a → R (slotF a') w'' → mu (slotF a') < mu f → J a' w'') → (∀ a' w'', Met J a' w'' → K' a' w'') → c.wp P (Exit.then K' Q) (mergeA m f a) w') : (Code.loop c).wp P Q a w := by
  refine wp_loop (fun a' w' => ∃ f, a' = mergeA m f a ∧ R f w' ∧ mu f = mu (slotF a')) (fun a' _ => mu (slotF a')) ⟨slotF a, (mergeA_self m a).symm, start, rfl⟩ ?_
  rintro a' w' ⟨f, rfl, hR, hmu⟩
  refine wp_mono (round f w' hR (fun a'' w'' => ∃ g, (a'' = mergeA m g a ∧ R g w'' ∧ mu g = mu (slotF a'')) ∧ mu (slotF a'') < mu f) _ (fun a'' w'' e r lt => ⟨_, ⟨e, r, rfl⟩, lt⟩) (fun _ _ h => h)) ?_
  intro e a1 w1 hq
  cases e with
  | normal =>
    obtain ⟨g, h, lt⟩ := hq
    exact ⟨⟨g, h⟩, by rw [← hmu]; exact lt⟩
  | exit id => exact hq
  | goto l => exact hq
  | ret => exact hq
  | panic ch => exact hq
  | outgrown => exact hq
end
end Go.Proofs.Ytlbehhbicmmdoaa
/- What a walk's steps are like: plain. No function of the program stands here. -/
namespace Go.Proofs.Ytlbehhbicmmdoaa
set_option linter.unusedVariables false
set_option linter.unusedSimpArgs false
open Go.RowKit
/-- Each step's word stands in the table that the one ahead told. -/
def Way (addr : Nat) : Nat → Nat → List St → Prop
  | _, _, [] => True
  | lv, root, s :: l => s.lv = lv ∧ s.at_ = atN root addr lv ∧ (l ≠ [] → s.d.k = 1) ∧ s.d.a < 18446744073709551616 ∧ Way addr (lv + 1) s.d.a l
/-- The table of a step. -/
def tabN (root : Nat) (l : List St) (i : Nat) : Nat := match i with | 0 => root | i + 1 => match l[i]? with | some s => s.d.a | none => 0
theorem way_at {addr : Nat} : ∀ {l : List St} {lv root i : Nat} {s : St}, Way addr lv root l → l[i]? = some s →
    s.lv = lv + i ∧ s.at_ = atN (tabN root l i) addr (lv + i) ∧ (i + 1 < l.length → s.d.k = 1) ∧ s.d.a < 18446744073709551616
  | [], lv, root, i, s, _, h => by simp at h
  | t :: l, lv, root, 0, s, hw, h => by
    simp at h; subst h
    obtain ⟨h1, h2, h3, h4, _⟩ := hw
    refine ⟨h1, h2, fun hl => h3 ?_, h4⟩
    rintro rfl
    simp at hl
  | t :: l, lv, root, i + 1, s, hw, h => by
    obtain ⟨h1, h2, h3, h4, h5⟩ := hw
    have h' : l[i]? = some s := by simpa using h
    obtain ⟨g1, g2, g3, g4⟩ := way_at h5 h'
    refine ⟨by omega, ?_, fun hl => g3 (by simp at hl; omega), g4⟩
    rw [g2, show lv + 1 + i = lv + (i + 1) by omega]
    congr 1
    cases i with
    | zero => rfl
    | succ i => rfl
theorem decD_bad {st lv : Int} {x : Nat} (h : decE st lv x ≠ 0) : (decD st lv x).k = 0 := by
  unfold decD; rw [if_neg (by simp [h])]
/-- What is so of every walk from level lv on. -/
structure WalkOk (addr n lv root : Nat) (r : List St × Int) : Prop where
  way : Way addr lv root r.1
  len : r.1.length ≤ n
  stop : r.2 = -1 → r.1.length + 1 ≤ n
  some_ : r.2 ≠ -1 → 1 ≤ r.1.length
  leaf : ∀ s, r.1.getLast? = some s → (r.2 = 0 ↔ s.d.k = 2 ∨ s.d.k = 3)
theorem walkOk_one {addr n lv root : Nat} {s : St} {kd : Int} (hn : 1 ≤ n) (h1 : s.lv = lv) (h2 : s.at_ = atN root addr lv) (h3 : s.d.a < 18446744073709551616) (h4 : kd ≠ -1) (h5 : kd = 0 ↔ s.d.k = 2 ∨ s.d.k = 3) : WalkOk addr n lv root ([s], kd) :=
  { way := ⟨h1, h2, fun h => absurd rfl h, h3, trivial⟩
    len := hn
    stop := fun h => absurd h h4
    some_ := fun _ => Nat.le_refl _
    leaf := fun s' hs => by simp at hs; subst hs; exact h5 }
theorem walk_ok (raw : Nat → Nat) (ok : Nat → Bool) (st : Int) (addr : Nat) : ∀ (n lv root : Nat), n + lv = 4 → 1 ≤ n → WalkOk addr n lv root (walkN raw ok st addr n lv root) := by
  intro n
  induction n with
  | zero => intro lv root _ h; omega
  | succ n ih =>
    intro lv root hl _
    have ha := decD_a st lv (raw (atN root addr lv))
    cases hok : ok (atN root addr lv) with
    | false =>
      rw [walkN_no hok]
      exact { way := trivial, len := Nat.zero_le _, stop := fun _ => by simp, some_ := fun h => absurd rfl h, leaf := fun s h => by simp at h }
    | true =>
      by_cases h2 : decE st lv (raw (atN root addr lv)) = 2
      · rw [walkN_range hok h2]
        have hb := decD_bad (x := raw (atN root addr lv)) (st := st) (lv := lv) (by rw [h2]; decide)
        exact walkOk_one (by omega) rfl rfl ha (by decide) (by simp [hb])
      by_cases h0 : decE st lv (raw (atN root addr lv)) = 0
      case neg =>
        rw [walkN_form hok h2 h0]
        have hb := decD_bad (x := raw (atN root addr lv)) (st := st) (lv := lv) h0
        exact walkOk_one (by omega) rfl rfl ha (by decide) (by simp [hb])
      case pos =>
      by_cases k0 : (decD st lv (raw (atN root addr lv))).k = 0
      · rw [walkN_none hok h0 k0]
        exact walkOk_one (by omega) rfl rfl ha (by decide) (by simp [k0])
      by_cases k1 : (decD st lv (raw (atN root addr lv))).k = 1
      case neg =>
        rw [walkN_leaf hok h0 k0 k1]
        have hk := decD_kind st lv (raw (atN root addr lv))
        refine walkOk_one (by omega) rfl rfl ha (by decide) ⟨fun _ => ?_, fun _ => rfl⟩
        show (decD st lv (raw (atN root addr lv))).k = 2 ∨ (decD st lv (raw (atN root addr lv))).k = 3
        omega
      case pos =>
      have hn : 1 ≤ n := by
        by_cases h3 : lv = 3
        · exact absurd k1 (by rw [h3]; exact decD_last st _)
        · omega
      have hi := ih (lv + 1) (decD st lv (raw (atN root addr lv))).a (by omega) hn
      rw [walkN_table hok h0 k1]
      generalize walkN raw ok st addr n (lv + 1) (decD st lv (raw (atN root addr lv))).a = r at *
      obtain ⟨L, kd⟩ := r
      obtain ⟨i1, i2, i3, i4, i5⟩ := hi
      simp only at i1 i2 i3 i4 i5
      refine { way := ⟨rfl, rfl, fun _ => k1, ha, i1⟩, len := by simp only [List.length_cons]; omega, stop := fun h => by simp only [List.length_cons]; have := i3 h; omega, some_ := fun _ => by simp, leaf := fun s hs => ?_ }
      cases L with
      | nil =>
        simp at hs
        subst hs
        have : kd = -1 := Classical.byContradiction fun h => by have := i4 h; simp at this
        simp only [this, k1]
        decide
      | cons t L => exact i5 s (by rw [List.getLast?_cons_cons] at hs; exact hs)
end Go.Proofs.Ytlbehhbicmmdoaa
/- The contracts of walk.Out and of the document's Out. -/
namespace Go.Proofs.Ytlbehhbicmmdoaa
set_option linter.unusedVariables false
set_option linter.unusedSimpArgs false
open Go.RowKit
def spanO (lv : Int) : Nat := if 0 ≤ lv ∧ lv ≤ 3 then spanN lv.toNat else 1
/-- Where an address comes to by a step. -/
def outN (addr : Nat) (lv k : Int) (a : Nat) : Nat := if k = 2 ∨ k = 3 then (a + addr % spanO lv) % 18446744073709551616 else 0
theorem spanO_pos (lv : Int) : 1 ≤ spanO lv ∧ spanO lv ≤ 549755813888 := by
  unfold spanO
  split
  · unfold spanN
    repeat' split
    all_goals omega
  · omega
theorem span_any (lv : Int) (w : World) : Calls Try.prog 53 #[.int .i64 lv] w (RetB w (.int .u64 (if 0 ≤ lv ∧ lv ≤ 3 then (spanO lv : Nat) else 0 : Nat))) := by
  by_cases h : 0 ≤ lv ∧ lv ≤ 3
  · rw [if_pos h]
    unfold spanO
    rw [if_pos h]
    exact span_yes lv lv.toNat (by omega) w (by omega)
  · rw [if_neg h]
    exact span_no lv w h
theorem out_wrap (a addr s : Nat) : IntKind.u64.wrap ((a : Int) + (addr : Int) % (s : Int)) = (((a + addr % s) % 18446744073709551616 : Nat) : Int) := by
  rw [IntKind.wrap_u64, ← Int.natCast_emod]; generalize addr % s = m; omega
set_option maxHeartbeats 2000000 in
theorem out_calls (addr : Nat) (haddr : addr < 18446744073709551616) (lv : Int) (at_ raw : Int) (k : Int) (a : Nat) (ha : a < 18446744073709551616) (r wr x : Bool) (s : Int) (w : World) :
    Calls Try.prog 24 #[.int .u64 (addr : Nat), .agg #[.int .i64 lv, .int .u64 at_, .int .u64 raw, .int .i64 k, .int .u64 (a : Nat), .bool r, .bool wr, .bool x, .int .i64 s]] w (RetB w (.int .u64 (outN addr lv k a : Nat))) := by
  have hO := old_alloc (old_refl w) (.cells #[.int .i64 lv, .int .u64 at_, .int .u64 raw, .int .i64 k, .int .u64 (a : Nat), .bool r, .bool wr, .bool x, .int .i64 s] 52)
  have hb := new_block w (.cells #[.int .i64 lv, .int .u64 at_, .int .u64 raw, .int .i64 k, .int .u64 (a : Nat), .bool r, .bool wr, .bool x, .int .i64 s] 52)
  by_cases hk : k = 2 ∨ k = 3
  case neg =>
    have e : outN addr lv k a = 0 := if_neg hk
    rw [e]
    have b2 : (k != 2) = true := by rw [bne_iff_ne]; omega
    have b3 : (k != 3) = true := by rw [bne_iff_ne]; omega
    clear e hk
    go_enter Try.func24, Try.ntmps24
    go_upto_region 1 with (fail)
    generalize w.alloc (.cells #[.int .i64 lv, .int .u64 at_, .int .u64 raw, .int .i64 k, .int .u64 (a : Nat), .bool r, .bool wr, .bool x, .int .i64 s] 52) = W at *
    generalize w.heap.size = b at *
    obtain ⟨q1, q2, q3⟩ := of_block hb
    have HO := Lib.hid hO
    clear hO hb
    go_wp2
    go_ret
    exact ⟨rfl, HO.out⟩
  case pos =>
  have e : outN addr lv k a = (a + addr % spanO lv) % 18446744073709551616 := if_pos hk
  rw [e, ← out_wrap]
  obtain ⟨hs1, hs2⟩ := spanO_pos lv
  have hsp := fun x => span_any lv x
  obtain ⟨T, hT⟩ : ∃ T : Nat, (if 0 ≤ lv ∧ lv ≤ 3 then (spanO lv : Nat) else 0 : Nat) = T := ⟨_, rfl⟩
  rw [hT] at hsp
  have hTs : (1 ≤ T ∧ T = spanO lv) ∨ (T = 0 ∧ spanO lv = 1) := by
    by_cases h : 0 ≤ lv ∧ lv ≤ 3
    · rw [if_pos h] at hT; exact .inl ⟨by omega, hT.symm⟩
    · rw [if_neg h] at hT; exact .inr ⟨hT.symm, by unfold spanO; rw [if_neg h]⟩
  generalize spanO lv = SP at *
  have HT := Lib.hid hTs
  have hk' : (k != 2) = false ∨ ((k != 2) = true ∧ (k != 3) = false) := by
    rcases hk with h | h
    · exact .inl (by simp [h])
    · exact .inr (by simp [h])
  have HK := Lib.hid hk'
  have HSP := Lib.hid hs1
  clear e hT hTs hk hk' hs1 hs2
  go_enter Try.func24, Try.ntmps24
  go_upto_region 1 with (fail)
  generalize w.alloc (.cells #[.int .i64 lv, .int .u64 at_, .int .u64 raw, .int .i64 k, .int .u64 (a : Nat), .bool r, .bool wr, .bool x, .int .i64 s] 52) = W at *
  generalize w.heap.size = b at *
  obtain ⟨q1, q2, q3⟩ := of_block hb
  have HO := Lib.hid hO
  have HB := Lib.hid hb
  clear hO hb
  rcases HK.out with b2 | ⟨b2, b3⟩
  all_goals
    go_wp2_with fail
    refine (hsp _).mono ?_
    rintro e w1 ⟨rfl, hb1⟩
    have HO2 := Lib.hid (old_then HO.out hb1)
    obtain ⟨q1, q2, q3⟩ := of_block (keep_old hb1 HB.out)
    rcases HT.out with ⟨h1, rfl⟩ | ⟨rfl, h1⟩
    · by_cases h9 : T = 1
      · subst h9
        go_wp2_with fail
        refine wp_region_walked (S := Is w1.drew) (by kernel_rfl) (by kernel_rfl) rfl ?_
        repeat (apply walked_cons; (first | exact gives_and rfl rfl rfl rfl | exact gives_or rfl rfl rfl rfl | (focus (intro wS hS; cases hS; go_wp2; exact ⟨rfl, rfl, rfl⟩; done)) | (focus (apply gives_guard; (focus (first | exact wanted_yes rfl rfl rfl | exact wanted_no rfl rfl rfl | exact wanted_yes2 rfl rfl rfl | exact wanted_no2 rfl rfl rfl)); (focus (intro hx9; (try simp only [Bool.not_eq_true', Bool.and_eq_true, Bool.not_not] at hx9); (try obtain ⟨hx9, hy9⟩ := hx9); (try subst hy9); (try subst hx9); (first | exact gives_and rfl rfl rfl rfl | exact gives_or rfl rfl rfl rfl | (intro wS hS; cases hS; go_wp2; exact ⟨rfl, rfl, rfl⟩; done))))))); rfl; (try simp only [Act.put, List.setIfInBounds_toArray, List.set_cons_succ, List.set_cons_zero]))
        apply walked_nil
        intro wS hS
        cases hS
        go_wp2
        go_ret
        exact ⟨by simp [IntWalk.u64_in (a : Int) (by omega)], old_drew HO2.out⟩
      have i1 : (1 : Int) < (T : Int) := by omega
      have i2 : ¬ (T : Int) = 0 := by omega
      clear h1 h9
      go_wp2_with fail
      refine wp_region_walked (S := Is w1.drew) (by kernel_rfl) (by kernel_rfl) rfl ?_
      repeat (apply walked_cons; (first | exact gives_and rfl rfl rfl rfl | exact gives_or rfl rfl rfl rfl | (focus (intro wS hS; cases hS; go_wp2; exact ⟨rfl, rfl, rfl⟩; done)) | (focus (apply gives_guard; (focus (first | exact wanted_yes rfl rfl rfl | exact wanted_no rfl rfl rfl | exact wanted_yes2 rfl rfl rfl | exact wanted_no2 rfl rfl rfl)); (focus (intro hx9; (try simp only [Bool.not_eq_true', Bool.and_eq_true, Bool.not_not] at hx9); (try obtain ⟨hx9, hy9⟩ := hx9); (try subst hy9); (try subst hx9); (first | exact gives_and rfl rfl rfl rfl | exact gives_or rfl rfl rfl rfl | (intro wS hS; cases hS; go_wp2; exact ⟨rfl, rfl, rfl⟩; done))))))); rfl; (try simp only [Act.put, List.setIfInBounds_toArray, List.set_cons_succ, List.set_cons_zero]))
      apply walked_nil
      intro wS hS
      cases hS
      go_wp2
      go_ret
      exact ⟨rfl, old_drew HO2.out⟩
    · subst h1
      go_wp2_with fail
      refine wp_region_walked (S := Is w1.drew) (by kernel_rfl) (by kernel_rfl) rfl ?_
      repeat (apply walked_cons; (first | exact gives_and rfl rfl rfl rfl | exact gives_or rfl rfl rfl rfl | (focus (intro wS hS; cases hS; go_wp2; exact ⟨rfl, rfl, rfl⟩; done)) | (focus (apply gives_guard; (focus (first | exact wanted_yes rfl rfl rfl | exact wanted_no rfl rfl rfl | exact wanted_yes2 rfl rfl rfl | exact wanted_no2 rfl rfl rfl)); (focus (intro hx9; (try simp only [Bool.not_eq_true', Bool.and_eq_true, Bool.not_not] at hx9); (try obtain ⟨hx9, hy9⟩ := hx9); (try subst hy9); (try subst hx9); (first | exact gives_and rfl rfl rfl rfl | exact gives_or rfl rfl rfl rfl | (intro wS hS; cases hS; go_wp2; exact ⟨rfl, rfl, rfl⟩; done))))))); rfl; (try simp only [Act.put, List.setIfInBounds_toArray, List.set_cons_succ, List.set_cons_zero]))
      apply walked_nil
      intro wS hS
      cases hS
      go_wp2
      go_ret
      exact ⟨by simp [IntWalk.u64_in (a : Int) (by omega)], old_drew HO2.out⟩
end Go.Proofs.Ytlbehhbicmmdoaa
/- Contracts of the package perm: what each of its functions returns. -/
namespace Go.Proofs.Ytlbehhbicmmdoaa
set_option linter.unusedVariables false
set_option linter.unusedSimpArgs false
open Go.RowKit
attribute [local go_sem] cell_mark_at frozen_mark_at setCell_mark_at
/-- What a permission allows. -/
def allowsB (a0 a1 a2 : Bool) (k : Int) : Bool := if k = 1 then a0 else if k = 2 then a1 else if k = 3 then a2 else false
set_option maxHeartbeats 400000 in
theorem allows_calls (a0 a1 a2 : Bool) (k : Int) (w : World) :
    Calls Try.prog 58 #[.agg #[.bool a0, .bool a1, .bool a2], .int .i64 k] w (RetB w (.bool (allowsB a0 a1 a2 k))) := by
  by_cases h1 : k = 1
  · subst h1
    go_enter Try.func58, Try.ntmps58
    go_wp2
    go_returns
    exact ⟨by simp [allowsB], by go_grown⟩
  by_cases h2 : k = 2
  · subst h2
    go_enter Try.func58, Try.ntmps58
    go_wp2
    go_returns
    exact ⟨by simp [allowsB], by go_grown⟩
  by_cases h3 : k = 3
  · subst h3
    go_enter Try.func58, Try.ntmps58
    go_wp2
    go_returns
    exact ⟨by simp [allowsB], by go_grown⟩
  have e1 : (k == 1) = false := beq_eq_false_iff_ne.2 h1
  have e2 : (k == 2) = false := beq_eq_false_iff_ne.2 h2
  have e3 : (k == 3) = false := beq_eq_false_iff_ne.2 h3
  have H1 := Lib.hid h1; have H2 := Lib.hid h2; have H3 := Lib.hid h3
  clear h1 h2 h3
  go_enter Try.func58, Try.ntmps58
  go_wp2
  go_returns
  exact ⟨by unfold allowsB; rw [if_neg H1.out, if_neg H2.out, if_neg H3.out]; rfl, by go_grown⟩
end Go.Proofs.Ytlbehhbicmmdoaa
/- The contract of walk.Walk: any function that tells words, and minds which. -/
namespace Go.Proofs.Ytlbehhbicmmdoaa
set_option linter.unusedVariables false
set_option linter.unusedSimpArgs false
open Go.RowKit
/-- The addresses that a walk asks for, from a table of level lv on. -/
def askN (raw : Nat → Nat) (ok : Nat → Bool) (st : Int) (addr : Nat) : Nat → Nat → Nat → List Nat
  | 0, _, _ => []
  | n + 1, lv, root =>
    let at_ := atN root addr lv
    if ok at_ = true ∧ decE st lv (raw at_) = 0 ∧ (decD st lv (raw at_)).k = 1 then at_ :: askN raw ok st addr n (lv + 1) (decD st lv (raw at_)).a else [at_]
section
variable {raw : Nat → Nat} {ok : Nat → Bool} {st : Int} {addr n lv root : Nat}
theorem askN_end (h : ¬ (ok (atN root addr lv) = true ∧ decE st lv (raw (atN root addr lv)) = 0 ∧ (decD st lv (raw (atN root addr lv))).k = 1)) : askN raw ok st addr (n + 1) lv root = [atN root addr lv] := by
  unfold askN; exact if_neg h
theorem askN_on (h : ok (atN root addr lv) = true) (h0 : decE st lv (raw (atN root addr lv)) = 0) (h1 : (decD st lv (raw (atN root addr lv))).k = 1) : askN raw ok st addr (n + 1) lv root = atN root addr lv :: askN raw ok st addr n (lv + 1) (decD st lv (raw (atN root addr lv))).a := by
  conv => lhs; unfold askN
  exact if_pos ⟨h, h0, h1⟩
end
/-- What a function that is handed to Walk tells: it turns its own blocks G alone; S l: it was asked for l. -/
structure ReaderA (f : FuncId) (caps : Array Value) (G : Nat → Prop) (S : List Nat → World → Prop) (raw : Nat → Nat) (ok : Nat → Bool) (B : Nat) : Prop where
  own : ∀ b, G b → b < B
  fn : ∀ args x, (callFunc f args).run Try.prog x = .ok (.enter f args) x
  word : ∀ a, raw a < 18446744073709551616
  keep : ∀ k x y, S k x → Only (fun b => B ≤ b) x y → S k y
  call : ∀ (k : List Nat) (a : Nat) (x : World), k.length < 4 → (∀ b ∈ k, ok b = true) → a < 18446744073709551616 → S k x → Calls Try.prog f (#[.int .u64 (a : Nat)] ++ caps) x (fun e y => e = .returned (.tuple #[.int .u64 (raw a : Nat), .bool (ok a)]) ∧ S (k ++ [a]) y ∧ Only G x y)
def RetWalkA (w0 : World) (G : Nat → Prop) (S : List Nat → World → Prop) (r : List St × Int) (Z : List Nat) (e : Ending) (w : World) : Prop :=
  ∃ v, e = .returned (.tuple #[v, .int .i64 r.2]) ∧ w.ownsRow w0.heap.size 52 9 v r.1.length (stCells r.1) ∧ S Z w ∧ Only G w0 w
/-- What holds at the label, with k more passes to come behind this one. -/
def WalkJA (w0 : World) (st : Int) (addr : Nat) (f : FuncId) (caps : Array Value) (G : Nat → Prop) (S : List Nat → World → Prop) (raw : Nat → Nat) (ok : Nat → Bool) (r : List St × Int) (Z : List Nat) (k : Nat) (a : Act) (w : World) : Prop :=
  ∃ (lv root : Nat) (v : Value) (l : List St) (al : List Nat), k + lv = 3 ∧ root < 18446744073709551616 ∧ (S al w ∧ al.length = lv ∧ (∀ b ∈ al, ok b = true) ∧ Z = al ++ askN raw ok st addr (k + 1) lv root) ∧ w.ownsRow w0.heap.size 52 9 v lv (stCells l) ∧ l.length = lv ∧ Only G w0 w ∧
    r = (l ++ (walkN raw ok st addr (k + 1) lv root).1, (walkN raw ok st addr (k + 1) lv root).2) ∧ WalkFrame st root addr f caps v lv a
theorem ret_walkA {w0 w : World} {G : Nat → Prop} {S : List Nat → World → Prop} {r : List St × Int} {L : List St} {kd : Int} {n : Nat} {m Z : List Nat} {v : Value} (hr : r = (L, kd)) (hn : n = L.length) (hm : Z = m) (ho : w.ownsRow w0.heap.size 52 9 v n (stCells L)) (hS : S m w) (hO : Only G w0 w) :
    RetWalkA w0 G S r Z (.returned (.tuple #[v, .int .i64 kd])) w := by
  subst hr hn hm
  exact ⟨v, rfl, ho, hS, hO⟩
set_option maxHeartbeats 8000000 in
set_option maxRecDepth 100000 in
theorem walkA_calls (st : Int) (hst : st = 1 ∨ st = 2) (root addr : Nat) (hroot : root < 18446744073709551616) (haddr : addr < 18446744073709551616) (f : FuncId) (caps : Array Value) (G : Nat → Prop) (S : List Nat → World → Prop) (raw : Nat → Nat) (ok : Nat → Bool) (w : World)
    (hR : ReaderA f caps G S raw ok w.heap.size) (h0 : S [] w) :
    Calls Try.prog 15 #[.int .i64 st, .int .u64 (root : Nat), .int .u64 (addr : Nat), .func (.func f) #[] caps] w (RetWalkA w G S (walkN raw ok st addr 4 0 root) (askN raw ok st addr 4 0 root)) := by
  have ht := top_x st
  have ht0 : ((topN st : Nat) : Int) ≠ 0 := by unfold topN; rcases hst with h | h <;> subst h <;> decide
  generalize ((topN st : Nat) : Int) = T at *
  have hb : (T == 0) = false := by simp [ht0]
  have hn := func_nil f caps
  have HST := Lib.hid hst
  have HR := Lib.hid hR
  have HG := Lib.hid hR.own
  obtain ⟨i0, hi, hz0, hz1, hz2⟩ := info_parts step_info
  generalize hr : walkN raw ok st addr 4 0 root = r
  generalize hz : askN raw ok st addr 4 0 root = Z
  have HZ := Lib.hid hz
  have HH := Lib.hid hr
  have HS0 := Lib.hid h0
  clear hst ht0 hR hr h0 hz
  go_enter Try.func15, Try.ntmps15
  go_wp2
  refine wp_scope_once 0 (WalkJA w st addr f caps G S raw ok r Z) _ rfl ?pass ?first
  case first =>
    intro hp
    go_wp2_with fail
    refine (ht _).mono ?_
    rintro e w1 ⟨rfl, rfl⟩
    clear ht
    go_wp2
    go_step3
    rename_i K9 hK9
    exact hK9 _ _ (hp 3 _ _ ⟨0, root, _, [], [], rfl, hroot, ⟨HS0.out, rfl, (fun b hb => by simp at hb), HZ.out.symm⟩, own_nil, rfl, Only.refl _ _, HH.out.symm, fun _ hq => hq _ _ _ _ _ _ _ _ _ _ _ _ _ _ _ _ _ _ _ _ _ _ _ _ _ _ _ _ _ _ _ _ _ _ _ _ _ _ _ _ _ _ _ _ _ _ _ _ _ _ _ _ _ _ _ _ _ _ _ _ _ _ _ _ _ _ _ _⟩)
  case pass =>
    rintro k a x ⟨lv, rt, v, l, al, hk, hrt, ⟨hS, hasl, haso, hzz⟩, hown, hl, hO, hr, hfr⟩
    refine hfr (fun a => Code.wp _ _ _ a _) ?_
    intro u4 u5 u6 u7 u9 u11 u12 u13 u14 u15 u16 u17 u18 u19 u20 u21 u22 u23 u24 u25 u26 u27 u28 u29 u30 u31 u32 u33 u34 u35 u36 u37 u38 u39 u40 u41 u42 u43 u44 u45 u46 u47 u48 u49 u50 u51 u52 u53 u54 u55 u56 u57 u58 u59 u60 u61 u62 u63 u64 u65 u66 u67 u68 u69 u70 u71 u72 u73
    have hid := index_yes addr lv addr lv rfl rfl
    have hrd := HR.out.call
    have hlv : lv ≤ 3 := by omega
    have hat := atN_wrap rt addr lv
    have hat64 := atN_lt rt addr lv
    have hixl := indexN_lt addr lv
    have hwv : ∀ (n m : Nat), walkN raw ok st addr (k + 1) lv rt = walkN raw ok st addr (k + 1) lv rt := fun _ _ => rfl
    clear hwv
    generalize hA : atN rt addr lv = A at *
    generalize hix : indexN addr lv = ix at *
    have hi1 : IntKind.u64.wrap (ix : Int) = ix := IntWalk.u64_in _ (by omega)
    have hi2 : IntKind.u64.wrap (8 * (ix : Int)) = 8 * ix := IntWalk.u64_in _ (by omega)
    have HA := Lib.hid hA
    have HIX := Lib.hid hix
    have HO := Lib.hid hO
    have HOwn := Lib.hid hown
    have HRk := Lib.hid hr
    have HAS := Lib.hid (And.intro hasl (And.intro haso hzz))
    have HL := Lib.hid hl
    have HSk := Lib.hid hS
    have HI := Lib.hid hid
    have HRD := Lib.hid hrd
    clear hA hix hO hown hr hl hS hfr hid hrd hasl haso hzz
    go_wp2_with fail
    refine (HI.out _ haddr hlv).mono ?_
    rintro e w1 ⟨rfl, hO1⟩
    have hS1 := HR.out.keep _ _ _ HSk.out ((Only.of_below hO1).mono fun b _ f => f.elim)
    have hown1 := own_old HOwn.out hO1
    have hOn1 := HO.out.trans ((Only.of_below hO1).mono fun b _ f => f.elim)
    have H1 := Lib.hid (And.intro hS1 (And.intro hown1 hOn1))
    clear hS1 hown1 hOn1 hO1
    have hfn := HR.out.fn
    go_wp2_with fail
    refine (HRD.out al A _ (by have := HAS.out.1; omega) HAS.out.2.1 hat64 H1.out.1).mono ?_
    rintro e w2 ⟨rfl, hS2, hG2⟩
    have hown2 := own_only H1.out.2.1 hG2 (fun b hb f => by have := HG.out b f; omega)
    have hO2 := H1.out.2.2.trans hG2
    have H2 := Lib.hid (And.intro hS2 (And.intro hown2 hO2))
    have hraw := HR.out.word A
    generalize hX : raw A = X at *
    have HX := Lib.hid hX
    clear hS2 hG2 hown2 hO2 H1 hfn hX hi1 hi2 hat hat64 hixl
    cases hok : ok A
    case false =>
      have HF : Hid (r = (l, -1)) := Lib.hid (by rw [HRk.out, walkN_no (by rw [HA.out]; exact hok), List.append_nil])
      have HZ0 : Hid (Z = al ++ [A]) := Lib.hid (by rw [HAS.out.2.2, askN_end (by rw [HA.out, hok]; simp), HA.out])
      clear hok
      go_wp2
      simp only [toLabel]
      go_ret2
      exact ret_walkA HF.out HL.out.symm HZ0.out H2.out.2.1 H2.out.1 H2.out.2.2
    case true =>
    have hok' : ok (atN rt addr lv) = true := by rw [HA.out]; exact hok
    have hdec := decode_calls st lv X w2 hraw
    rw [decD_v] at hdec
    have hda := decD_a st lv X
    have hdl := decD_last st X
    generalize hd : decD st lv X = d at *
    generalize hE : decE st lv X = E at *
    obtain ⟨dk, da, dr, dw, dx, ds⟩ := d
    change Calls _ _ _ _ (RetB w2 (.tuple #[.agg #[.int .i64 dk, .int .u64 (da : Nat), .bool dr, .bool dw, .bool dx, .int .i64 ds], .int .i64 E])) at hdec
    have e1 : decD st lv (raw (atN rt addr lv)) = ⟨dk, da, dr, dw, dx, ds⟩ := by rw [HA.out, HX.out]; exact hd
    have e2 : decE st lv (raw (atN rt addr lv)) = E := by rw [HA.out, HX.out]; exact hE
    have e3 : raw (atN rt addr lv) = X := by rw [HA.out]; exact HX.out
    have HD3 : Hid (lv = 3 → dk ≠ 1) := Lib.hid (by
      intro e
      rw [e] at hd
      have := hdl
      rw [show ((3 : Nat) : Int) = 3 from rfl] at hd
      rw [hd] at this
      exact this)
    have P0 : Hid (E = 2 → r = (l ++ [⟨lv, A, X, ⟨dk, da, dr, dw, dx, ds⟩⟩], 3)) := Lib.hid fun h => by rw [HRk.out, walkN_range hok' (by rw [e2]; exact h), e1, e3, HA.out]
    have P1 : Hid (E ≠ 2 → E ≠ 0 → r = (l ++ [⟨lv, A, X, ⟨dk, da, dr, dw, dx, ds⟩⟩], 4)) := Lib.hid fun h h' => by rw [HRk.out, walkN_form hok' (by rw [e2]; exact h) (by rw [e2]; exact h'), e1, e3, HA.out]
    have P2 : Hid (E = 0 → dk = 0 → r = (l ++ [⟨lv, A, X, ⟨dk, da, dr, dw, dx, ds⟩⟩], 1)) := Lib.hid fun h h' => by rw [HRk.out, walkN_none hok' (by rw [e2]; exact h) (by rw [e1]; exact h'), e1, e3, HA.out]
    have P3 : Hid (E = 0 → dk ≠ 0 → dk ≠ 1 → r = (l ++ [⟨lv, A, X, ⟨dk, da, dr, dw, dx, ds⟩⟩], 0)) := Lib.hid fun h h' h'' => by rw [HRk.out, walkN_leaf hok' (by rw [e2]; exact h) (by rw [e1]; exact h') (by rw [e1]; exact h''), e1, e3, HA.out]
    have P4 : Hid (E = 0 → dk = 1 → r = ((l ++ [⟨lv, A, X, ⟨dk, da, dr, dw, dx, ds⟩⟩]) ++ (walkN raw ok st addr k (lv + 1) da).1, (walkN raw ok st addr k (lv + 1) da).2)) := Lib.hid fun h h' => by rw [HRk.out, walkN_table hok' (by rw [e2]; exact h) (by rw [e1]; exact h'), e1, e3, HA.out]; simp
    have Z0 : Hid (¬ (E = 0 ∧ dk = 1) → Z = al ++ [A]) := Lib.hid fun h => by rw [HAS.out.2.2, askN_end (by rw [e1, e2]; exact fun h' => h h'.2), HA.out]
    have Z1 : Hid (E = 0 → dk = 1 → Z = (al ++ [A]) ++ askN raw ok st addr k (lv + 1) da) := Lib.hid fun h h' => by rw [HAS.out.2.2, askN_on hok' (by rw [e2]; exact h) (by rw [e1]; exact h'), e1, HA.out]; simp
    have Z2 : Hid ((al ++ [A]).length = lv + 1 ∧ ∀ b ∈ al ++ [A], ok b = true) := Lib.hid ⟨by rw [List.length_append, HAS.out.1]; rfl, fun b hb => by
      rcases List.mem_append.1 hb with h | h
      · exact HAS.out.2.1 b h
      · rw [List.mem_singleton.1 h]; exact hok⟩
    have HDA := Lib.hid hda
    clear hok hok' hd hE hda hdl e1 e2 e3 hraw HX HRk HA HIX
    go_wp2_with fail
    refine hdec.mono ?_
    rintro e w3 ⟨rfl, hO3⟩
    have hS3 := HR.out.keep _ _ _ H2.out.1 ((Only.of_below hO3).mono fun b _ f => f.elim)
    have hown3 := own_old H2.out.2.1 hO3
    have hOn3 := H2.out.2.2.trans ((Only.of_below hO3).mono fun b _ f => f.elim)
    obtain ⟨v', w5, hrun, hown5, hS5, hO5, hb5⟩ := walk_append w w3 _ G (fun _ y => S (al ++ [A]) y) v lv (lv + 1) l ⟨lv, A, X, ⟨dk, da, dr, dw, dx, ds⟩⟩ w3.heap.size (.cells #[.int .i64 dk, .int .u64 (da : Nat), .bool dr, .bool dw, .bool dx, .int .i64 ds] 48) hlv HL.out (fun _ => HR.out.keep (al ++ [A])) hown3 hS3 hOn3 HR.out.own rfl rfl
    clear hO3 hS3 hown3 hOn3 hdec H2
    have h4 := new_block w3 (.cells #[.int .i64 dk, .int .u64 (da : Nat), .bool dr, .bool dw, .bool dx, .int .i64 ds] 48)
    go_upto_region 11 with (fail)
    generalize w3.alloc (.cells #[.int .i64 dk, .int .u64 (da : Nat), .bool dr, .bool dw, .bool dx, .int .i64 ds] 48) = W4 at *
    generalize w3.heap.size = bd at *
    obtain ⟨q1, q2, q3⟩ := of_block h4
    obtain ⟨p1, p2, p3⟩ := of_block hb5
    have H5 := Lib.hid (And.intro hown5 (And.intro hS5 hO5))
    have HLS : Hid (lv + 1 = (l ++ [(⟨lv, A, X, ⟨dk, da, dr, dw, dx, ds⟩⟩ : St)]).length) := Lib.hid (by rw [List.length_append, HL.out]; rfl)
    clear h4 hb5 hown5 hS5 hO5
    go_upto_region 12 with (at_builtin; refine wpList_append_run rfl _ _ 29 rfl _ _ rfl rfl _ _ hrun ?_; clear hrun)
    clear q1 q2 q3
    by_cases hE2 : E = 2
    · have HF := Lib.hid (P0.out hE2)
      have HZ0 := Lib.hid (Z0.out (by omega))
      subst hE2
      clear P0 P1 P2 P3 P4 Z0 Z1
      go_wp2
      simp only [toLabel]
      go_ret2
      exact ret_walkA HF.out HLS.out HZ0.out H5.out.1 H5.out.2.1 H5.out.2.2
    have b2 : (E == 2) = false := by simp [hE2]
    by_cases hE0 : E = 0
    case neg =>
      have b0 : (E != 0) = true := by simp [hE0]
      have HF := Lib.hid (P1.out hE2 hE0)
      have HZ0 := Lib.hid (Z0.out (by omega))
      clear P0 P1 P2 P3 P4 Z0 Z1 hE2 hE0
      go_wp2
      simp only [toLabel]
      go_ret2
      exact ret_walkA HF.out HLS.out HZ0.out H5.out.1 H5.out.2.1 H5.out.2.2
    case pos =>
    clear hE2 b2
    by_cases hk0 : dk = 0
    · have HF := Lib.hid (P2.out hE0 hk0)
      have HZ0 := Lib.hid (Z0.out (by omega))
      have b0 : (dk == 0) = true := by simp [hk0]
      subst hE0
      clear P0 P1 P2 P3 P4 Z0 Z1 hk0
      go_wp2
      simp only [toLabel]
      go_ret2
      exact ret_walkA HF.out HLS.out HZ0.out H5.out.1 H5.out.2.1 H5.out.2.2
    have b0 : (dk == 0) = false := by simp [hk0]
    by_cases hk1 : dk = 1
    · have HF := Lib.hid (P4.out hE0 hk1)
      have HZ0 := Lib.hid (Z1.out hE0 hk1)
      have HN : Hid (¬ lv = 3) := Lib.hid (fun e => HD3.out e hk1)
      have b1 : (dk == 1) = true := by simp [hk1]
      subst hE0
      clear P0 P1 P2 P3 P4 Z0 Z1 hk0 hk1
      go_wp2
      go_step3
      have hlt : lv < 3 := by
        have := HN.out
        omega
      refine ⟨rfl, k - 1, by omega, lv + 1, da, v', _, al ++ [A], by omega, HDA.out, ⟨H5.out.2.1, Z2.out.1, Z2.out.2, by rw [show k - 1 + 1 = k by omega]; exact HZ0.out⟩, H5.out.1, HLS.out.symm, H5.out.2.2, ?_, fun _ hq => hq _ _ _ _ _ _ _ _ _ _ _ _ _ _ _ _ _ _ _ _ _ _ _ _ _ _ _ _ _ _ _ _ _ _ _ _ _ _ _ _ _ _ _ _ _ _ _ _ _ _ _ _ _ _ _ _ _ _ _ _ _ _ _ _ _ _ _ _⟩
      rw [show k - 1 + 1 = k by omega]
      exact HF.out
    · have HF := Lib.hid (P3.out hE0 hk0 hk1)
      have HZ0 := Lib.hid (Z0.out (by omega))
      have b1 : (dk == 1) = false := by simp [hk1]
      subst hE0
      clear P0 P1 P2 P3 P4 Z0 Z1 hk0 hk1
      go_wp2
      simp only [toLabel]
      go_ret2
      exact ret_walkA HF.out HLS.out HZ0.out H5.out.1 H5.out.2.1 H5.out.2.2
end Go.Proofs.Ytlbehhbicmmdoaa
/- The contract of walk.Walk: any function that tells words, and minds which. -/
namespace Go.Proofs.Ytlbehhbicmmdoaa
set_option linter.unusedVariables false
set_option linter.unusedSimpArgs false
open Go.RowKit
/-- The frame at the label. -/
def WalkFrameB (st : Int) (root addr : Nat) (f : FuncId) (bnd : Value) (v : Value) (lv : Nat) (a : Act) : Prop := ∀ Q : Act → Prop, (∀ u4 u5 u6 u7 u9 u11 u12 u13 u14 u15 u16 u17 u18 u19 u20 u21 u22 u23 u24 u25 u26 u27 u28 u29 u30 u31 u32 u33 u34 u35 u36 u37 u38 u39 u40 u41 u42 u43 u44 u45 u46 u47 u48 u49 u50 u51 u52 u53 u54 u55 u56 u57 u58 u59 u60 u61 u62 u63 u64 u65 u66 u67 u68 u69 u70 u71 u72 u73 : Value, Q { tmps := #[.int .i64 st, .int .u64 (root : Nat), .int .u64 (addr : Nat), .func (.func f) #[bnd] #[], u4, u5, u6, u7, v, u9, .int .i64 (lv : Nat), u11, u12, u13, u14, u15, u16, u17, u18, u19, u20, u21, u22, u23, u24, u25, u26, u27, u28, u29, u30, u31, u32, u33, u34, u35, u36, u37, u38, u39, u40, u41, u42, u43, u44, u45, u46, u47, u48, u49, u50, u51, u52, u53, u54, u55, u56, u57, u58, u59, u60, u61, u62, u63, u64, u65, u66, u67, u68, u69, u70, u71, u72, u73], defers := [] }) → Q a
theorem func_nilB (f : FuncId) (bnd : Value) (w : World) : (binOp .eql 34 (.func (.func f) #[bnd] #[]) .nilFunc).run Try.prog w = .ok (.bool false) w := by kernel_rfl
/-- What a function that is handed to Walk tells: it turns its own blocks G alone; S l: it was asked for l. -/
structure ReaderB (f : FuncId) (bnd : Value) (G : Nat → Prop) (S : List Nat → World → Prop) (raw : Nat → Nat) (ok : Nat → Bool) (B : Nat) : Prop where
  own : ∀ b, G b → b < B
  fn : ∀ args x, (callFunc f args).run Try.prog x = .ok (.enter f args) x
  word : ∀ a, raw a < 18446744073709551616
  keep : ∀ k x y, S k x → Only (fun b => B ≤ b) x y → S k y
  call : ∀ (k : List Nat) (a : Nat) (x : World), k.length < 4 → (∀ b ∈ k, ok b = true) → a < 18446744073709551616 → S k x → Calls Try.prog f (#[bnd, .int .u64 (a : Nat)]) x (fun e y => e = .returned (.tuple #[.int .u64 (raw a : Nat), .bool (ok a)]) ∧ S (k ++ [a]) y ∧ Only G x y)
/-- What holds at the label, with k more passes to come behind this one. -/
def WalkJB (w0 : World) (st : Int) (addr : Nat) (f : FuncId) (bnd : Value) (G : Nat → Prop) (S : List Nat → World → Prop) (raw : Nat → Nat) (ok : Nat → Bool) (r : List St × Int) (Z : List Nat) (k : Nat) (a : Act) (w : World) : Prop :=
  ∃ (lv root : Nat) (v : Value) (l : List St) (al : List Nat), k + lv = 3 ∧ root < 18446744073709551616 ∧ (S al w ∧ al.length = lv ∧ (∀ b ∈ al, ok b = true) ∧ Z = al ++ askN raw ok st addr (k + 1) lv root) ∧ w.ownsRow w0.heap.size 52 9 v lv (stCells l) ∧ l.length = lv ∧ Only G w0 w ∧
    r = (l ++ (walkN raw ok st addr (k + 1) lv root).1, (walkN raw ok st addr (k + 1) lv root).2) ∧ WalkFrameB st root addr f bnd v lv a
set_option maxHeartbeats 8000000 in
set_option maxRecDepth 100000 in
theorem walkB_calls (st : Int) (hst : st = 1 ∨ st = 2) (root addr : Nat) (hroot : root < 18446744073709551616) (haddr : addr < 18446744073709551616) (f : FuncId) (bnd : Value) (G : Nat → Prop) (S : List Nat → World → Prop) (raw : Nat → Nat) (ok : Nat → Bool) (w : World)
    (hR : ReaderB f bnd G S raw ok w.heap.size) (h0 : S [] w) :
    Calls Try.prog 15 #[.int .i64 st, .int .u64 (root : Nat), .int .u64 (addr : Nat), .func (.func f) #[bnd] #[]] w (RetWalkA w G S (walkN raw ok st addr 4 0 root) (askN raw ok st addr 4 0 root)) := by
  have ht := top_x st
  have ht0 : ((topN st : Nat) : Int) ≠ 0 := by unfold topN; rcases hst with h | h <;> subst h <;> decide
  generalize ((topN st : Nat) : Int) = T at *
  have hb : (T == 0) = false := by simp [ht0]
  have hn := func_nilB f bnd
  have HST := Lib.hid hst
  have HR := Lib.hid hR
  have HG := Lib.hid hR.own
  obtain ⟨i0, hi, hz0, hz1, hz2⟩ := info_parts step_info
  generalize hr : walkN raw ok st addr 4 0 root = r
  generalize hz : askN raw ok st addr 4 0 root = Z
  have HZ := Lib.hid hz
  have HH := Lib.hid hr
  have HS0 := Lib.hid h0
  clear hst ht0 hR hr h0 hz
  go_enter Try.func15, Try.ntmps15
  go_wp2
  refine wp_scope_once 0 (WalkJB w st addr f bnd G S raw ok r Z) _ rfl ?pass ?first
  case first =>
    intro hp
    go_wp2_with fail
    refine (ht _).mono ?_
    rintro e w1 ⟨rfl, rfl⟩
    clear ht
    go_wp2
    go_step3
    rename_i K9 hK9
    exact hK9 _ _ (hp 3 _ _ ⟨0, root, _, [], [], rfl, hroot, ⟨HS0.out, rfl, (fun b hb => by simp at hb), HZ.out.symm⟩, own_nil, rfl, Only.refl _ _, HH.out.symm, fun _ hq => hq _ _ _ _ _ _ _ _ _ _ _ _ _ _ _ _ _ _ _ _ _ _ _ _ _ _ _ _ _ _ _ _ _ _ _ _ _ _ _ _ _ _ _ _ _ _ _ _ _ _ _ _ _ _ _ _ _ _ _ _ _ _ _ _ _ _ _ _⟩)
  case pass =>
    rintro k a x ⟨lv, rt, v, l, al, hk, hrt, ⟨hS, hasl, haso, hzz⟩, hown, hl, hO, hr, hfr⟩
    refine hfr (fun a => Code.wp _ _ _ a _) ?_
    intro u4 u5 u6 u7 u9 u11 u12 u13 u14 u15 u16 u17 u18 u19 u20 u21 u22 u23 u24 u25 u26 u27 u28 u29 u30 u31 u32 u33 u34 u35 u36 u37 u38 u39 u40 u41 u42 u43 u44 u45 u46 u47 u48 u49 u50 u51 u52 u53 u54 u55 u56 u57 u58 u59 u60 u61 u62 u63 u64 u65 u66 u67 u68 u69 u70 u71 u72 u73
    have hid := index_yes addr lv addr lv rfl rfl
    have hrd := HR.out.call
    have hlv : lv ≤ 3 := by omega
    have hat := atN_wrap rt addr lv
    have hat64 := atN_lt rt addr lv
    have hixl := indexN_lt addr lv
    have hwv : ∀ (n m : Nat), walkN raw ok st addr (k + 1) lv rt = walkN raw ok st addr (k + 1) lv rt := fun _ _ => rfl
    clear hwv
    generalize hA : atN rt addr lv = A at *
    generalize hix : indexN addr lv = ix at *
    have hi1 : IntKind.u64.wrap (ix : Int) = ix := IntWalk.u64_in _ (by omega)
    have hi2 : IntKind.u64.wrap (8 * (ix : Int)) = 8 * ix := IntWalk.u64_in _ (by omega)
    have HA := Lib.hid hA
    have HIX := Lib.hid hix
    have HO := Lib.hid hO
    have HOwn := Lib.hid hown
    have HRk := Lib.hid hr
    have HAS := Lib.hid (And.intro hasl (And.intro haso hzz))
    have HL := Lib.hid hl
    have HSk := Lib.hid hS
    have HI := Lib.hid hid
    have HRD := Lib.hid hrd
    clear hA hix hO hown hr hl hS hfr hid hrd hasl haso hzz
    go_wp2_with fail
    refine (HI.out _ haddr hlv).mono ?_
    rintro e w1 ⟨rfl, hO1⟩
    have hS1 := HR.out.keep _ _ _ HSk.out ((Only.of_below hO1).mono fun b _ f => f.elim)
    have hown1 := own_old HOwn.out hO1
    have hOn1 := HO.out.trans ((Only.of_below hO1).mono fun b _ f => f.elim)
    have H1 := Lib.hid (And.intro hS1 (And.intro hown1 hOn1))
    clear hS1 hown1 hOn1 hO1
    have hfn := HR.out.fn
    go_wp2_with fail
    refine (HRD.out al A _ (by have := HAS.out.1; omega) HAS.out.2.1 hat64 H1.out.1).mono ?_
    rintro e w2 ⟨rfl, hS2, hG2⟩
    have hown2 := own_only H1.out.2.1 hG2 (fun b hb f => by have := HG.out b f; omega)
    have hO2 := H1.out.2.2.trans hG2
    have H2 := Lib.hid (And.intro hS2 (And.intro hown2 hO2))
    have hraw := HR.out.word A
    generalize hX : raw A = X at *
    have HX := Lib.hid hX
    clear hS2 hG2 hown2 hO2 H1 hfn hX hi1 hi2 hat hat64 hixl
    cases hok : ok A
    case false =>
      have HF : Hid (r = (l, -1)) := Lib.hid (by rw [HRk.out, walkN_no (by rw [HA.out]; exact hok), List.append_nil])
      have HZ0 : Hid (Z = al ++ [A]) := Lib.hid (by rw [HAS.out.2.2, askN_end (by rw [HA.out, hok]; simp), HA.out])
      clear hok
      go_wp2
      simp only [toLabel]
      go_ret2
      exact ret_walkA HF.out HL.out.symm HZ0.out H2.out.2.1 H2.out.1 H2.out.2.2
    case true =>
    have hok' : ok (atN rt addr lv) = true := by rw [HA.out]; exact hok
    have hdec := decode_calls st lv X w2 hraw
    rw [decD_v] at hdec
    have hda := decD_a st lv X
    have hdl := decD_last st X
    generalize hd : decD st lv X = d at *
    generalize hE : decE st lv X = E at *
    obtain ⟨dk, da, dr, dw, dx, ds⟩ := d
    change Calls _ _ _ _ (RetB w2 (.tuple #[.agg #[.int .i64 dk, .int .u64 (da : Nat), .bool dr, .bool dw, .bool dx, .int .i64 ds], .int .i64 E])) at hdec
    have e1 : decD st lv (raw (atN rt addr lv)) = ⟨dk, da, dr, dw, dx, ds⟩ := by rw [HA.out, HX.out]; exact hd
    have e2 : decE st lv (raw (atN rt addr lv)) = E := by rw [HA.out, HX.out]; exact hE
    have e3 : raw (atN rt addr lv) = X := by rw [HA.out]; exact HX.out
    have HD3 : Hid (lv = 3 → dk ≠ 1) := Lib.hid (by
      intro e
      rw [e] at hd
      have := hdl
      rw [show ((3 : Nat) : Int) = 3 from rfl] at hd
      rw [hd] at this
      exact this)
    have P0 : Hid (E = 2 → r = (l ++ [⟨lv, A, X, ⟨dk, da, dr, dw, dx, ds⟩⟩], 3)) := Lib.hid fun h => by rw [HRk.out, walkN_range hok' (by rw [e2]; exact h), e1, e3, HA.out]
    have P1 : Hid (E ≠ 2 → E ≠ 0 → r = (l ++ [⟨lv, A, X, ⟨dk, da, dr, dw, dx, ds⟩⟩], 4)) := Lib.hid fun h h' => by rw [HRk.out, walkN_form hok' (by rw [e2]; exact h) (by rw [e2]; exact h'), e1, e3, HA.out]
    have P2 : Hid (E = 0 → dk = 0 → r = (l ++ [⟨lv, A, X, ⟨dk, da, dr, dw, dx, ds⟩⟩], 1)) := Lib.hid fun h h' => by rw [HRk.out, walkN_none hok' (by rw [e2]; exact h) (by rw [e1]; exact h'), e1, e3, HA.out]
    have P3 : Hid (E = 0 → dk ≠ 0 → dk ≠ 1 → r = (l ++ [⟨lv, A, X, ⟨dk, da, dr, dw, dx, ds⟩⟩], 0)) := Lib.hid fun h h' h'' => by rw [HRk.out, walkN_leaf hok' (by rw [e2]; exact h) (by rw [e1]; exact h') (by rw [e1]; exact h''), e1, e3, HA.out]
    have P4 : Hid (E = 0 → dk = 1 → r = ((l ++ [⟨lv, A, X, ⟨dk, da, dr, dw, dx, ds⟩⟩]) ++ (walkN raw ok st addr k (lv + 1) da).1, (walkN raw ok st addr k (lv + 1) da).2)) := Lib.hid fun h h' => by rw [HRk.out, walkN_table hok' (by rw [e2]; exact h) (by rw [e1]; exact h'), e1, e3, HA.out]; simp
    have Z0 : Hid (¬ (E = 0 ∧ dk = 1) → Z = al ++ [A]) := Lib.hid fun h => by rw [HAS.out.2.2, askN_end (by rw [e1, e2]; exact fun h' => h h'.2), HA.out]
    have Z1 : Hid (E = 0 → dk = 1 → Z = (al ++ [A]) ++ askN raw ok st addr k (lv + 1) da) := Lib.hid fun h h' => by rw [HAS.out.2.2, askN_on hok' (by rw [e2]; exact h) (by rw [e1]; exact h'), e1, HA.out]; simp
    have Z2 : Hid ((al ++ [A]).length = lv + 1 ∧ ∀ b ∈ al ++ [A], ok b = true) := Lib.hid ⟨by rw [List.length_append, HAS.out.1]; rfl, fun b hb => by
      rcases List.mem_append.1 hb with h | h
      · exact HAS.out.2.1 b h
      · rw [List.mem_singleton.1 h]; exact hok⟩
    have HDA := Lib.hid hda
    clear hok hok' hd hE hda hdl e1 e2 e3 hraw HX HRk HA HIX
    go_wp2_with fail
    refine hdec.mono ?_
    rintro e w3 ⟨rfl, hO3⟩
    have hS3 := HR.out.keep _ _ _ H2.out.1 ((Only.of_below hO3).mono fun b _ f => f.elim)
    have hown3 := own_old H2.out.2.1 hO3
    have hOn3 := H2.out.2.2.trans ((Only.of_below hO3).mono fun b _ f => f.elim)
    obtain ⟨v', w5, hrun, hown5, hS5, hO5, hb5⟩ := walk_append w w3 _ G (fun _ y => S (al ++ [A]) y) v lv (lv + 1) l ⟨lv, A, X, ⟨dk, da, dr, dw, dx, ds⟩⟩ w3.heap.size (.cells #[.int .i64 dk, .int .u64 (da : Nat), .bool dr, .bool dw, .bool dx, .int .i64 ds] 48) hlv HL.out (fun _ => HR.out.keep (al ++ [A])) hown3 hS3 hOn3 HR.out.own rfl rfl
    clear hO3 hS3 hown3 hOn3 hdec H2
    have h4 := new_block w3 (.cells #[.int .i64 dk, .int .u64 (da : Nat), .bool dr, .bool dw, .bool dx, .int .i64 ds] 48)
    go_upto_region 11 with (fail)
    generalize w3.alloc (.cells #[.int .i64 dk, .int .u64 (da : Nat), .bool dr, .bool dw, .bool dx, .int .i64 ds] 48) = W4 at *
    generalize w3.heap.size = bd at *
    obtain ⟨q1, q2, q3⟩ := of_block h4
    obtain ⟨p1, p2, p3⟩ := of_block hb5
    have H5 := Lib.hid (And.intro hown5 (And.intro hS5 hO5))
    have HLS : Hid (lv + 1 = (l ++ [(⟨lv, A, X, ⟨dk, da, dr, dw, dx, ds⟩⟩ : St)]).length) := Lib.hid (by rw [List.length_append, HL.out]; rfl)
    clear h4 hb5 hown5 hS5 hO5
    go_upto_region 12 with (at_builtin; refine wpList_append_run rfl _ _ 29 rfl _ _ rfl rfl _ _ hrun ?_; clear hrun)
    clear q1 q2 q3
    by_cases hE2 : E = 2
    · have HF := Lib.hid (P0.out hE2)
      have HZ0 := Lib.hid (Z0.out (by omega))
      subst hE2
      clear P0 P1 P2 P3 P4 Z0 Z1
      go_wp2
      simp only [toLabel]
      go_ret2
      exact ret_walkA HF.out HLS.out HZ0.out H5.out.1 H5.out.2.1 H5.out.2.2
    have b2 : (E == 2) = false := by simp [hE2]
    by_cases hE0 : E = 0
    case neg =>
      have b0 : (E != 0) = true := by simp [hE0]
      have HF := Lib.hid (P1.out hE2 hE0)
      have HZ0 := Lib.hid (Z0.out (by omega))
      clear P0 P1 P2 P3 P4 Z0 Z1 hE2 hE0
      go_wp2
      simp only [toLabel]
      go_ret2
      exact ret_walkA HF.out HLS.out HZ0.out H5.out.1 H5.out.2.1 H5.out.2.2
    case pos =>
    clear hE2 b2
    by_cases hk0 : dk = 0
    · have HF := Lib.hid (P2.out hE0 hk0)
      have HZ0 := Lib.hid (Z0.out (by omega))
      have b0 : (dk == 0) = true := by simp [hk0]
      subst hE0
      clear P0 P1 P2 P3 P4 Z0 Z1 hk0
      go_wp2
      simp only [toLabel]
      go_ret2
      exact ret_walkA HF.out HLS.out HZ0.out H5.out.1 H5.out.2.1 H5.out.2.2
    have b0 : (dk == 0) = false := by simp [hk0]
    by_cases hk1 : dk = 1
    · have HF := Lib.hid (P4.out hE0 hk1)
      have HZ0 := Lib.hid (Z1.out hE0 hk1)
      have HN : Hid (¬ lv = 3) := Lib.hid (fun e => HD3.out e hk1)
      have b1 : (dk == 1) = true := by simp [hk1]
      subst hE0
      clear P0 P1 P2 P3 P4 Z0 Z1 hk0 hk1
      go_wp2
      go_step3
      have hlt : lv < 3 := by
        have := HN.out
        omega
      refine ⟨rfl, k - 1, by omega, lv + 1, da, v', _, al ++ [A], by omega, HDA.out, ⟨H5.out.2.1, Z2.out.1, Z2.out.2, by rw [show k - 1 + 1 = k by omega]; exact HZ0.out⟩, H5.out.1, HLS.out.symm, H5.out.2.2, ?_, fun _ hq => hq _ _ _ _ _ _ _ _ _ _ _ _ _ _ _ _ _ _ _ _ _ _ _ _ _ _ _ _ _ _ _ _ _ _ _ _ _ _ _ _ _ _ _ _ _ _ _ _ _ _ _ _ _ _ _ _ _ _ _ _ _ _ _ _ _ _ _ _⟩
      rw [show k - 1 + 1 = k by omega]
      exact HF.out
    · have HF := Lib.hid (P3.out hE0 hk0 hk1)
      have HZ0 := Lib.hid (Z0.out (by omega))
      have b1 : (dk == 1) = false := by simp [hk1]
      subst hE0
      clear P0 P1 P2 P3 P4 Z0 Z1 hk0 hk1
      go_wp2
      simp only [toLabel]
      go_ret2
      exact ret_walkA HF.out HLS.out HZ0.out H5.out.1 H5.out.2.1 H5.out.2.2
end Go.Proofs.Ytlbehhbicmmdoaa
/- Both stages, plain: no function of the program stands here. -/
namespace Go.Proofs.Ytlbehhbicmmdoaa
set_option linter.unusedVariables false
set_option linter.unusedSimpArgs false
open Go.RowKit
/-- Where an access comes to. -/
structure O8 where
  fr : Nat
  ip : Nat
  r1 : Bool
  w1 : Bool
  x1 : Bool
  r2 : Bool
  w2 : Bool
  x2 : Bool
def O8.cells (o : O8) : Array Value := #[.int .i64 (o.fr : Nat), .int .u64 (o.ip : Nat), .bool o.r1, .bool o.w1, .bool o.x1, .bool o.r2, .bool o.w2, .bool o.x2]
/-- A fault. -/
structure F5 where
  st : Int
  k : Int
  lv : Int
  ad : Nat
  store : Bool
def F5.cells (f : F5) : Array Value := #[.int .i64 f.st, .int .i64 f.k, .int .i64 f.lv, .int .u64 (f.ad : Nat), .bool f.store]
def O0 : O8 := ⟨0, 0, false, false, false, false, false, false⟩
def F0 : F5 := ⟨0, 0, 0, 0, false⟩
/-- The last step; a step of noughts where there is none. -/
def lastN (l : List St) : St := (l.getLast?).getD ⟨0, 0, 0, ⟨0, 0, false, false, false, 0⟩⟩
/-- The second stage alone, by a memory's words. -/
def secondN (raw : Nat → Nat) (ok : Nat → Bool) (two ipa : Nat) (access : Int) : O8 × F5 × Nat :=
  let r := walkN raw ok 2 ipa 4 0 two
  let s := lastN r.1
  if 1099511627776 ≤ ipa then (O0, ⟨2, 3, -1, ipa, decide (access = 2)⟩, 0)
  else if r.2 = -1 then (O0, ⟨2, 4, -1, ipa, decide (access = 2)⟩, r.1.length)
  else if r.2 ≠ 0 then (O0, ⟨2, r.2, -1, ipa, decide (access = 2)⟩, r.1.length)
  else if allowsB s.d.r s.d.w s.d.x access = false then (O0, ⟨2, 2, -1, ipa, decide (access = 2)⟩, r.1.length)
  else (⟨outN ipa s.lv s.d.k s.d.a / 4096, ipa / 4096, true, true, true, s.d.r, s.d.w, s.d.x⟩, F0, r.1.length)
/-- The first stage's words, through the second. -/
def ok1N (raw : Nat → Nat) (ok : Nat → Bool) (two a : Nat) : Bool := decide ((secondN raw ok two a 1).2.1.k = 0) && ok ((secondN raw ok two a 1).1.fr * 4096 + a % 4096)
def raw1N (raw : Nat → Nat) (ok : Nat → Bool) (two a : Nat) : Nat := if ok1N raw ok two a then raw ((secondN raw ok two a 1).1.fr * 4096 + a % 4096) else 0
/-- How many words it takes to read them. -/
def costN (raw : Nat → Nat) (ok : Nat → Bool) (two a : Nat) : Nat := (secondN raw ok two a 1).2.2 + if ok1N raw ok two a then 1 else 0
def costsN (raw : Nat → Nat) (ok : Nat → Bool) (two : Nat) (l : List Nat) : Nat := (l.map (costN raw ok two)).sum
/-- The fault of a word that is not read. -/
def faultN (raw : Nat → Nat) (ok : Nat → Bool) (two a : Nat) (lv : Int) (store : Bool) : F5 :=
  if (secondN raw ok two a 1).2.1.k = 0 then ⟨2, 4, lv, a, store⟩ else ⟨(secondN raw ok two a 1).2.1.st, (secondN raw ok two a 1).2.1.k, lv, (secondN raw ok two a 1).2.1.ad, store⟩
/-- What the reader keeps behind these. -/
def keptN (raw : Nat → Nat) (ok : Nat → Bool) (two : Nat) (store : Bool) (l : List Nat) : F5 :=
  match l.getLast? with
  | none => F0
  | some a => if ok1N raw ok two a then F0 else faultN raw ok two a ((l.length : Int) - 1) store
def levelN (raw : Nat → Nat) (ok : Nat → Bool) (two : Nat) (l : List Nat) : Nat := (l.filter (ok1N raw ok two)).length
/-- Both stages. -/
def nestN (raw : Nat → Nat) (ok : Nat → Bool) (two : Nat) (on : Bool) (root va : Nat) (access : Int) : O8 × F5 × Nat :=
  let r := walkN (raw1N raw ok two) (ok1N raw ok two) 1 va 4 0 root
  let l := askN (raw1N raw ok two) (ok1N raw ok two) 1 va 4 0 root
  let s := lastN r.1
  let q := secondN raw ok two (outN va s.lv s.d.k s.d.a) access
  if 281474976710656 ≤ va then (O0, ⟨1, 3, -1, va, decide (access = 2)⟩, 0)
  else if on = false then secondN raw ok two va access
  else if root % 4096 ≠ 0 ∨ 1099511627776 ≤ root then (O0, ⟨1, 4, -1, va, decide (access = 2)⟩, 0)
  else if r.2 = -1 then (O0, keptN raw ok two (decide (access = 2)) l, costsN raw ok two l)
  else if r.2 ≠ 0 then (O0, ⟨1, r.2, s.lv, va, decide (access = 2)⟩, costsN raw ok two l)
  else if allowsB s.d.r s.d.w s.d.x access = false then (O0, ⟨1, 2, s.lv, va, decide (access = 2)⟩, costsN raw ok two l)
  else (if q.2.1.k = 0 then { q.1 with r1 := s.d.r, w1 := s.d.w, x1 := s.d.x } else q.1, q.2.1, costsN raw ok two l + q.2.2)
end Go.Proofs.Ytlbehhbicmmdoaa
/- What is so of both stages, whatever the words are: plain. No function of the program stands here. -/
namespace Go.Proofs.Ytlbehhbicmmdoaa
set_option linter.unusedVariables false
set_option linter.unusedSimpArgs false
open Go.RowKit
section
variable {raw : Nat → Nat} {ok : Nat → Bool} {st : Int} {addr : Nat}
theorem ask_length : ∀ (n lv root : Nat), (askN raw ok st addr n lv root).length ≤ n := by
  intro n
  induction n with
  | zero => intro lv root; exact Nat.le_refl 0
  | succ n ih =>
    intro lv root
    by_cases h : ok (atN root addr lv) = true ∧ decE st lv (raw (atN root addr lv)) = 0 ∧ (decD st lv (raw (atN root addr lv))).k = 1
    · rw [askN_on h.1 h.2.1 h.2.2]
      have := ih (lv + 1) (decD st lv (raw (atN root addr lv))).a
      simp only [List.length_cons]
      omega
    · rw [askN_end h]; simp
/-- What a walk can come to. -/
theorem walk_kinds : ∀ (n lv root : Nat), (walkN raw ok st addr n lv root).2 = -1 ∨ (walkN raw ok st addr n lv root).2 = 0 ∨ (walkN raw ok st addr n lv root).2 = 1 ∨ (walkN raw ok st addr n lv root).2 = 3 ∨ (walkN raw ok st addr n lv root).2 = 4 := by
  intro n
  induction n with
  | zero => intro lv root; exact .inr (.inl rfl)
  | succ n ih =>
    intro lv root
    cases hok : ok (atN root addr lv) with
    | false => rw [walkN_no hok]; exact .inl rfl
    | true =>
      by_cases h2 : decE st lv (raw (atN root addr lv)) = 2
      · rw [walkN_range hok h2]; exact .inr (.inr (.inr (.inl rfl)))
      by_cases h0 : decE st lv (raw (atN root addr lv)) = 0
      case neg => rw [walkN_form hok h2 h0]; exact .inr (.inr (.inr (.inr rfl)))
      by_cases k0 : (decD st lv (raw (atN root addr lv))).k = 0
      · rw [walkN_none hok h0 k0]; exact .inr (.inr (.inl rfl))
      by_cases k1 : (decD st lv (raw (atN root addr lv))).k = 1
      case neg => rw [walkN_leaf hok h0 k0 k1]; exact .inr (.inl rfl)
      rw [walkN_table hok h0 k1]
      exact ih _ _
end
section
variable {raw : Nat → Nat} {ok : Nat → Bool} {two : Nat}
/-- A fault, or none. -/
structure SecondOk (q : O8 × F5 × Nat) (two ipa : Nat) (access : Int) : Prop where
  n4 : q.2.2 ≤ 4
  yes : q.2.1.k = 0 → q.2.1 = F0 ∧ allowsB q.1.r2 q.1.w2 q.1.x2 access = true ∧ q.1.r1 = true ∧ q.1.w1 = true ∧ q.1.x1 = true
  no : q.2.1.k ≠ 0 → q.1 = O0 ∧ q.2.1.st = 2 ∧ q.2.1.lv = -1 ∧ q.2.1.ad = ipa ∧ q.2.1.store = decide (access = 2)
theorem second_ok (two ipa : Nat) (access : Int) : SecondOk (secondN raw ok two ipa access) two ipa access := by
  have hw := walk_ok raw ok 2 ipa 4 0 two rfl (by decide)
  have hk := walk_kinds (raw := raw) (ok := ok) (st := 2) (addr := ipa) 4 0 two
  unfold secondN
  generalize walkN raw ok 2 ipa 4 0 two = r at *
  dsimp only
  have hl := hw.len
  generalize lastN r.1 = s
  split
  · exact ⟨by simp, fun h => absurd h (by simp [F0]), fun _ => ⟨rfl, rfl, rfl, rfl, rfl⟩⟩
  split
  · exact ⟨hl, fun h => absurd h (by simp [F0]), fun _ => ⟨rfl, rfl, rfl, rfl, rfl⟩⟩
  split
  · rename_i _ _ h; exact ⟨hl, fun h' => absurd h' h, fun _ => ⟨rfl, rfl, rfl, rfl, rfl⟩⟩
  split
  · exact ⟨hl, fun h => absurd h (by simp [F0]), fun _ => ⟨rfl, rfl, rfl, rfl, rfl⟩⟩
  · rename_i h; exact ⟨hl, fun _ => ⟨rfl, by simpa using h, rfl, rfl, rfl⟩, fun h' => absurd rfl h'⟩
theorem cost_le (a : Nat) : costN raw ok two a ≤ 5 := by
  unfold costN
  have := (second_ok (raw := raw) (ok := ok) two a 1).n4
  split <;> omega
theorem costs_le (l : List Nat) : costsN raw ok two l ≤ 5 * l.length := by
  unfold costsN
  induction l with
  | nil => simp
  | cons a l ih =>
    have := cost_le (raw := raw) (ok := ok) (two := two) a
    simp only [List.map_cons, List.sum_cons, List.length_cons]
    omega
theorem last_mem {l : List St} (h : 1 ≤ l.length) : ∃ s, l.getLast? = some s ∧ lastN l = s ∧ l[l.length - 1]? = some s := by
  cases l with
  | nil => simp at h
  | cons a l =>
    refine ⟨(a :: l).getLast (by simp), List.getLast?_eq_some_getLast _, ?_, ?_⟩
    · unfold lastN; rw [List.getLast?_eq_some_getLast (by simp)]; rfl
    · rw [← List.getLast?_eq_getElem?, List.getLast?_eq_some_getLast]
end
end Go.Proofs.Ytlbehhbicmmdoaa
/- What one access is told says what another is told: plain. No function of the program stands here. -/
namespace Go.Proofs.Ytlbehhbicmmdoaa
set_option linter.unusedVariables false
set_option linter.unusedSimpArgs false
open Go.RowKit
section
variable {raw : Nat → Nat} {ok : Nat → Bool} {two : Nat}
end
end Go.Proofs.Ytlbehhbicmmdoaa
/- Layer 14: Allows of the document. -/
namespace Go.Proofs.Ytlbehhbicmmdoaa
set_option linter.unusedVariables false
set_option linter.unusedSimpArgs false
open Go.RowKit
end Go.Proofs.Ytlbehhbicmmdoaa
/- The second stage's reader: a memory's words, counted. -/
namespace Go.Proofs.Ytlbehhbicmmdoaa
set_option linter.unusedVariables false
set_option linter.unusedSimpArgs false
open Go.RowKit
/-- A memory, the variable that names it, and how many words were there. -/
def SecS (X : Nat → Prop) (mb wb p frames : Nat) (wd : Nat → Nat) (N B : Nat) (l : List Nat) (x : World) : Prop :=
  IsMemW x X p frames wd (N + l.length) ∧ x.heap[mb]? = some (.cells #[.pointer (some ⟨p, 0, none⟩)] 61) ∧ x.heap[wb]? = some (.cells #[.int .i64 ((l.filter (okM frames)).length : Nat)] 3) ∧ X mb ∧ X wb ∧ mb ≠ wb ∧ mb < B ∧ wb < B ∧ ∀ b, ¬ X b → b < B
section
variable {X : Nat → Prop} {mb wb p frames N B : Nat} {wd : Nat → Nat} {l : List Nat} {x y : World}
theorem secS_only (h : SecS X mb wb p frames wd N B l x) (ho : Only (fun b => B ≤ b) x y) : SecS X mb wb p frames wd N B l y := by
  obtain ⟨h1, h2, h3, h4, h5, h6, h7, h8, h9⟩ := h
  exact ⟨memW_only h1 ho (fun b hb e => by have := h9 b hb; omega), keep_only ho (fun e => by omega) h2, keep_only ho (fun e => by omega) h3, h4, h5, h6, h7, h8, h9⟩
theorem filter_snoc_yes {f : Nat → Bool} {a : Nat} (h : f a = true) : ((l ++ [a]).filter f).length = (l.filter f).length + 1 := by
  rw [List.filter_append, List.length_append]; simp [h]
theorem filter_snoc_no {f : Nat → Bool} {a : Nat} (h : f a = false) : ((l ++ [a]).filter f).length = (l.filter f).length := by
  rw [List.filter_append, List.length_append]; simp [h]
set_option maxHeartbeats 4000000 in
set_option maxRecDepth 100000 in
theorem sec1_calls (a : Nat) (hl : l.length < 4) (hN : N < 3999999990) (ha : a < 18446744073709551616) (hS : SecS X mb wb p frames wd N B l x) :
    Calls Try.prog 59 (#[.int .u64 (a : Nat)] ++ #[.pointer (some ⟨mb, 0, none⟩), .pointer (some ⟨wb, 0, none⟩)]) x (fun e y => e = .returned (.tuple #[.int .u64 (rawM frames wd a : Nat), .bool (okM frames a)]) ∧ SecS X mb wb p frames wd N B (l ++ [a]) y ∧ Only (fun b => ¬ X b ∨ b = wb) x y) := by
  show Calls _ _ #[.int .u64 (a : Nat), .pointer (some ⟨mb, 0, none⟩), .pointer (some ⟨wb, 0, none⟩)] x _
  obtain ⟨h1, h2, h3, h4, h5, h6, h7, h8, h9⟩ := hS
  cases hok : okM frames a with
  | true =>
    have hr := memW_read h1 (by omega) a ha hok
    have hv : rawM frames wd a = wd a := rawM_yes hok
    rw [hv]
    have hflt := filter_snoc_yes (l := l) hok
    have hll : (l ++ [a]).length = l.length + 1 := by rw [List.length_append]; rfl
    have hle := List.length_filter_le (okM frames) l
    generalize (l.filter (okM frames)).length = j at *
    generalize wd a = V at *
    have j4 : (j : Int) < 4 := by omega
    obtain ⟨k1, q1, z1⟩ := of_block h2
    have H := Lib.hid (And.intro h2 (And.intro h3 (And.intro h4 (And.intro h5 (And.intro h6 (And.intro h7 (And.intro h8 h9)))))))
    have HF := Lib.hid (And.intro hflt hll)
    clear h1 h2 h3 h4 h5 h6 h7 h8 h9 hok hv hflt hll hle hl hN ha
    go_enter Try.func59, Try.ntmps59
    go_wp2_with fail
    (with_reducible refine hr.mono ?_)
    rintro e y1 ⟨rfl, hm, ho⟩
    obtain ⟨h2, h3, h4, h5, h6, h7, h8, h9⟩ := H.out
    have h2' := keep_only ho (fun f => f h4) h2
    have h3' := keep_only ho (fun f => f h5) h3
    obtain ⟨k2, q2, z2⟩ := of_block h3'
    have hset : y1.setCell ⟨wb, 0, none⟩ (.int .i64 ((j : Int) + 1)) = putB y1 wb (.cells #[.int .i64 ((j + 1 : Nat) : Int)] 3) := by rw [set_of h3']; rfl
    have ho2 : Only (fun b => b = wb) y1 (putB y1 wb (.cells #[.int .i64 ((j + 1 : Nat) : Int)] 3)) := (Only.refl _ _).putB _ (fun _ => rfl)
    have h3'' := putB_same (.cells #[.int .i64 ((j + 1 : Nat) : Int)] 3) (lt_of_block h3')
    have h2'' := keep_only ho2 (fun e => h6 e) h2'
    have hm2 := memW_only hm ho2 (fun b hb e => by subst e; exact hb h5)
    have ho3 : Only (fun b => ¬ X b ∨ b = wb) x (putB y1 wb (.cells #[.int .i64 ((j + 1 : Nat) : Int)] 3)) := (ho.mono fun b _ f => .inl f).trans (ho2.mono fun b _ f => .inr f)
    generalize putB y1 wb (.cells #[.int .i64 ((j + 1 : Nat) : Int)] 3) = Y at *
    have HE := Lib.hid (And.intro hm2 (And.intro h2'' (And.intro h3'' ho3)))
    clear hr hm ho h2 h3 h4 h5 h6 h7 h8 h9 h2' h3' h2'' h3'' hm2 ho2 ho3 k1 q1 z1
    go_wp2
    go_ret2
    obtain ⟨h2, h3, h4, h5, h6, h7, h8, h9⟩ := H.out
    obtain ⟨a1, a2, a3, a4⟩ := HE.out
    refine ⟨rfl, ⟨?_, a2, ?_, h4, h5, h6, h7, h8, h9⟩, a4⟩
    · rw [HF.out.2]; exact memW_le a1 (by omega)
    · rw [HF.out.1]; exact a3
  | false =>
    obtain ⟨E, hE, hr⟩ := memW_readE h1 a ha hok
    have hv : rawM frames wd a = 0 := if_neg (by rw [hok]; simp)
    rw [hv]
    have hb : (E != 0) = true := by simp [hE]
    have hflt := filter_snoc_no (l := l) hok
    have hll : (l ++ [a]).length = l.length + 1 := by rw [List.length_append]; rfl
    obtain ⟨k1, q1, z1⟩ := of_block h2
    have H := Lib.hid (And.intro h1 (And.intro h2 (And.intro h3 (And.intro h4 (And.intro h5 (And.intro h6 (And.intro h7 (And.intro h8 h9))))))))
    have HF := Lib.hid (And.intro hflt hll)
    clear h1 h2 h3 h4 h5 h6 h7 h8 h9 hok hv hflt hll hl hN ha hE
    go_enter Try.func59, Try.ntmps59
    go_wp2_with fail
    (with_reducible refine hr.mono ?_)
    rintro e y1 ⟨rfl, ho⟩
    have HO := Lib.hid ho
    clear hr ho k1 q1 z1
    go_wp2
    go_ret2
    obtain ⟨h1, h2, h3, h4, h5, h6, h7, h8, h9⟩ := H.out
    refine ⟨rfl, ⟨?_, keep_old HO.out h2, ?_, h4, h5, h6, h7, h8, h9⟩, (Only.of_below HO.out).mono fun b _ f => f.elim⟩
    · rw [HF.out.2]; exact memW_le (memW_old h1 HO.out) (by omega)
    · rw [HF.out.1]; exact keep_old HO.out h3
theorem fn_sec (args : Array Value) (x : World) : (callFunc 59 args).run Try.prog x = .ok (.enter 59 args) x := by kernel_rfl
theorem sec_reader (hN : N < 3999999990) (h0 : SecS X mb wb p frames wd N B [] x) (hraw : ∀ a, rawM frames wd a < 18446744073709551616) : ReaderA 59 #[.pointer (some ⟨mb, 0, none⟩), .pointer (some ⟨wb, 0, none⟩)] (fun b => ¬ X b ∨ b = wb) (SecS X mb wb p frames wd N B) (rawM frames wd) (okM frames) B :=
  { own := fun b h => by
      obtain ⟨_, _, _, _, _, _, _, h8, h9⟩ := h0
      rcases h with h | h
      · exact h9 b h
      · rw [h]; exact h8
    fn := fn_sec
    word := hraw
    keep := fun k x y h ho => secS_only h ho
    call := fun k a x hk _ ha hS => sec1_calls a hk hN ha hS }
end
/-- The words that were there. -/
theorem ask_filter {raw : Nat → Nat} {ok : Nat → Bool} {st : Int} {addr : Nat} : ∀ (n lv root : Nat), ((askN raw ok st addr n lv root).filter ok).length = (walkN raw ok st addr n lv root).1.length := by
  intro n
  induction n with
  | zero => intro lv root; rfl
  | succ n ih =>
    intro lv root
    cases hok : ok (atN root addr lv) with
    | false => rw [askN_end (by rw [hok]; simp), walkN_no hok]; simp [hok]
    | true =>
      by_cases h2 : decE st lv (raw (atN root addr lv)) = 2
      · rw [askN_end (by rw [h2]; simp), walkN_range hok h2]; simp [hok]
      by_cases h0 : decE st lv (raw (atN root addr lv)) = 0
      case neg => rw [askN_end (by simp [h0]), walkN_form hok h2 h0]; simp [hok]
      by_cases k0 : (decD st lv (raw (atN root addr lv))).k = 0
      · rw [askN_end (by simp [k0]), walkN_none hok h0 k0]; simp [hok]
      by_cases k1 : (decD st lv (raw (atN root addr lv))).k = 1
      case neg => rw [askN_end (by simp [k1]), walkN_leaf hok h0 k0 k1]; simp [hok]
      rw [askN_on hok h0 k1, walkN_table hok h0 k1, List.filter_cons_of_pos hok, List.length_cons, ih]
      rfl
end Go.Proofs.Ytlbehhbicmmdoaa
namespace Go.Proofs.Ytlbehhbicmmdoaa
set_option linter.unusedVariables false
set_option linter.unusedSimpArgs false
open Go.RowKit
section
variable {P : Program} {ops : Array Oper} {Q : Exit → Act → World → Prop}
end
end Go.Proofs.Ytlbehhbicmmdoaa
namespace Go.Proofs.Ytlbehhbicmmdoaa
set_option linter.unusedVariables false
set_option linter.unusedSimpArgs false
open Go.RowKit
section
variable {x0 x : World} {B wb at_ X : Nat} {v1 v2 : Value} {A W : List Nat} {l : Array Bool} {g3 g4 g8 g9 : Value}
end
section
variable {P : Program} {ops : Array Oper} {Q : Exit → Act → World → Prop}
end
end Go.Proofs.Ytlbehhbicmmdoaa
namespace Go.Proofs.Ytlbehhbicmmdoaa
set_option linter.unusedVariables false
set_option linter.unusedSimpArgs false
open Go.RowKit
section
variable {P : Program} {w : World}
theorem run_storeVar_at (g o : Nat) (t ty : TypeId) (old : Array Value) (cells : List Value) (hg : w.heap[g]? = some (.cells old t)) (hi : (P.info? ty).map (·.size) = some cells.length)
    (ho : o + cells.length ≤ old.size) (h1 : ∀ v ∈ cells, v.oneCell' = true) :
    (storeVar ty ⟨g, o, none⟩ (.agg cells.toArray)).run P w = .ok () (putB w g (.cells (old.toList.take o ++ cells ++ old.toList.drop (o + cells.length)).toArray t)) := by
  have := run_storeCells_at (P := P) g o t cells 0 old w hg (by omega) h1
  rw [Nat.add_zero] at this
  have hp : w.setRow g (old.toList.take o ++ cells ++ old.toList.drop (o + cells.length)).toArray = putB w g (.cells (old.toList.take o ++ cells ++ old.toList.drop (o + cells.length)).toArray t) := by
    unfold World.setRow putB
    rw [modify_eq_set _ _ _ _ hg]
  rw [hp] at this
  cases hq : P.info? ty with
  | none => simp [hq] at hi
  | some i =>
    have hs : cells.length = i.size := by simp [hq] at hi; omega
    simp [storeVar, sizeOf, typeInfo, hq, Value.cells, hs] at this ⊢
    exact this
theorem wpList_store_at {ops : Array Oper} {rest : List Oper} {o : Oper} {a : Act} {Q : Exit → Act → World → Prop} (hgd : o.guard = none) (ty : TypeId) (x y : Operand) (ho : o.op = .store ty x y)
    (g off : Nat) (cells : List Value) (hx : a.eval x = .pointer (some ⟨g, off, none⟩)) (hy : a.eval y = .agg cells.toArray)
    (t : TypeId) (old : Array Value) (hg : w.heap[g]? = some (.cells old t)) (hi : (P.info? ty).map (·.size) = some cells.length)
    (hold : off + cells.length ≤ old.size) (h1 : ∀ v ∈ cells, v.oneCell' = true)
    (h : wpList P ops Q rest (a.put o.dst undef) (putB w g (.cells (old.toList.take off ++ cells ++ old.toList.drop (off + cells.length)).toArray t))) : wpList P ops Q (o :: rest) a w := by
  refine wpList_plain hgd fun K hK => ?_
  unfold Oper.wp execOp
  simp only [ho, hx, hy, Instr.storeAt, Instr.sureAddr, Sem.run_bind, Sem.run_pure, Result.andThen_ok, run_storeVar_at g off t ty old cells hg hi hold h1]
  exact hK _ _ h
theorem run_loadVar_at (g o : Nat) (ty : TypeId) (cells : List Value) (d : TypeDesc) (hc : ∀ (c : Nat) (v : Value), cells[c]? = some v → w.cell? ⟨g, o + c, none⟩ = some v)
    (hu : P.underlying ty = some d) (hd : (match d with | .struct _ | .array _ _ => true | _ => false) = true) (hi : (P.info? ty).map (·.size) = some cells.length) :
    (loadVar ty ⟨g, o, none⟩).run P w = .ok (.agg cells.toArray) w := by
  have hl : (loadCells ⟨g, o, none⟩ cells.length).run P w = .ok cells.toArray w :=
    run_loadCells_list (P := P) w ⟨g, o, none⟩ cells (fun j v hv => by
      rw [add_eq _ _ rfl]
      exact hc j v hv)
  cases hq : P.info? ty with
  | none => simp [hq] at hi
  | some i =>
    have hs : i.size = cells.length := by simpa [hq] using hi
    have hagg : (isAgg ty).run P w = .ok true w := by
      unfold isAgg
      rw [Sem.run_bind, run_underlying hu w]
      cases d <;> simp_all
    simp [loadVar, Sem.run_bind, hagg, sizeOf, typeInfo, hq, hs, hl]
theorem wpList_load_at {ops : Array Oper} {rest : List Oper} {o : Oper} {a : Act} {Q : Exit → Act → World → Prop} (hgd : o.guard = none) (ty : TypeId) (x : Operand) (ho : o.op = .load ty x)
    (g off : Nat) (hx : a.eval x = .pointer (some ⟨g, off, none⟩)) (cells : List Value) (d : TypeDesc) (hc : ∀ (c : Nat) (v : Value), cells[c]? = some v → w.cell? ⟨g, off + c, none⟩ = some v)
    (hu : P.underlying ty = some d) (hd : (match d with | .struct _ | .array _ _ => true | _ => false) = true) (hi : (P.info? ty).map (·.size) = some cells.length)
    (h : wpList P ops Q rest (a.put o.dst (.agg cells.toArray)) w) : wpList P ops Q (o :: rest) a w := by
  refine wpList_plain hgd fun K hK => ?_
  unfold Oper.wp execOp
  simp only [ho, hx, Instr.loadAt, Instr.sureAddr, Sem.run_bind, Sem.run_pure, Result.andThen_ok, run_loadVar_at g off ty cells d hc hu hd hi]
  exact hK _ _ h
end
section
variable {α : Type} {f : α → List Value} {k : Nat}
end
end Go.Proofs.Ytlbehhbicmmdoaa
