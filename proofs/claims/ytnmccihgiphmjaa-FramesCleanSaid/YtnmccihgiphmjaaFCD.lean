/- Texts on the way to the statement FramesClean, several in one file: each part says what it is. -/
import Derived.Test.YtnmccihgiphmjaaFCA
import Derived.Test.YtnmccihgiphmjaaFCB
import Derived.Test.YtnmccihgiphmjaaFCC
import Derived.MapKept
import Derived.WideLaws
import Derived.Carry
import Derived.Laws.OwnMore
import Derived.ArgAppend
import Derived.LaidEqlPtr
import Derived.Deep.OwnRows
import Derived.ChangeSlices
/- A map from whole numbers: a block that reads as a function and a count. No function of the program stands here. -/
namespace Go.Proofs.Ytnmccihgiphmjaa
set_option linter.unusedVariables false
set_option linter.unusedSimpArgs false
open Go.RowKit Go.MapKept
/-- The first with a key, and its place. -/
def seekL : List (Int × Value) → Int → Nat → Option (Nat × Value)
  | [], _, _ => none
  | x :: l, k, i => if k = x.1 then some (i, x.2) else seekL l k (i + 1)
def assocL (l : List (Int × Value)) (k : Int) : Option Value := (seekL l k 0).map (·.2)
theorem seekL_shift : ∀ (l : List (Int × Value)) (k : Int) (i : Nat), seekL l k (i + 1) = (seekL l k i).map fun x => (x.1 + 1, x.2)
  | [], k, i => rfl
  | x :: l, k, i => by
    unfold seekL
    split
    · rfl
    · exact seekL_shift l k (i + 1)
theorem assocL_cons (x : Int × Value) (l : List (Int × Value)) (k : Int) : assocL (x :: l) k = if k = x.1 then some x.2 else assocL l k := by
  unfold assocL
  rw [seekL]
  split
  · rfl
  · rw [seekL_shift]
    cases seekL l k 0 <;> rfl
/-- The entries of an array, as pairs. -/
def Entries (es : List MapEntry) (l : List (Int × Value)) : Prop := es.map (fun e => (e.key, e.val)) = l.map (fun x => (Value.int .i64 x.1, x.2))
theorem find_now : ∀ (es : List MapEntry) (l : List (Int × Value)) (k : Int) (i : Nat), Entries es l → Instr.findNow (.int .i64) (.int .i64 k) es i = some (seekL l k i)
  | [], [], k, i, _ => rfl
  | [], x :: l, k, i, h => by simp [Entries] at h
  | e :: es, [], k, i, h => by simp [Entries] at h
  | e :: es, x :: l, k, i, h => by
    obtain ⟨h1, h2⟩ : ((e.key, e.val) = (Value.int .i64 x.1, x.2)) ∧ Entries es l := by
      unfold Entries at h
      simp only [List.map_cons, List.cons.injEq] at h
      exact h
    have hk : e.key = .int .i64 x.1 := (Prod.mk.inj h1).1
    have hv : e.val = x.2 := (Prod.mk.inj h1).2
    unfold Instr.findNow seekL
    rw [hk]
    by_cases hkx : k = x.1
    · have hb : (k == x.1) = true := beq_iff_eq.2 hkx
      simp [Instr.sameNow, hkx, hv]
    · have hb : (k == x.1) = false := beq_eq_false_iff_ne.2 hkx
      simp only [Instr.sameNow, if_true, hb, if_neg hkx]
      exact find_now es l k (i + 1) h2
/-- Block m is a map that reads as f, of n keys. -/
def IsMap (w : World) (m : Nat) (f : Int → Option Value) (n : Nat) : Prop :=
  ∃ es clock l, w.heap[m]? = some (.map es clock) ∧ Entries es.toList l ∧ (l.map Prod.fst).Nodup ∧ l.length = n ∧ ∀ k, f k = assocL l k
theorem isMap_old {w x : World} {m n : Nat} {f : Int → Option Value} (h : IsMap w m f n) (ho : Old w x) : IsMap x m f n := by
  obtain ⟨es, clock, l, hb, r⟩ := h
  exact ⟨es, clock, l, keep_old ho hb, r⟩
theorem isMap_only {F : Nat → Prop} {w x : World} {m n : Nat} {f : Int → Option Value} (h : IsMap w m f n) (ho : Only F w x) (hF : ¬ F m) : IsMap x m f n := by
  obtain ⟨es, clock, l, hb, r⟩ := h
  exact ⟨es, clock, l, keep_only ho hF hb, r⟩
theorem isMap_lt {w : World} {m n : Nat} {f : Int → Option Value} (h : IsMap w m f n) : m < w.heap.size := by
  obtain ⟨es, clock, l, hb, r⟩ := h
  exact lt_of_block hb
theorem isMap_made (w : World) : IsMap (w.alloc (.map #[] 0)) w.heap.size (fun _ => none) 0 := ⟨#[], 0, [], new_block w _, rfl, List.nodup_nil, rfl, fun _ => rfl⟩
section
variable {P : Program} {t k e : TypeId} {w : World} {m n : Nat} {f : Int → Option Value}
theorem map_seek (hk : P.underlying k = some (.int .i64)) {es : Array MapEntry} {l : List (Int × Value)} (he : Entries es.toList l) (x : Int) :
    (Instr.findKey k (.int .i64 x) es.toList).run P w = .ok (seekL l x 0) w := run_findKey hk (find_now _ _ _ _ he)
theorem map_lookup (ht : P.underlying t = some (.map k e)) (hk : P.underlying k = some (.int .i64)) (h : IsMap w m f n) {x : Int} {v : Value} (hx : f x = some v) :
    (Instr.lookup t (.map (some m)) (.int .i64 x) true).run P w = .ok (.tuple #[v, .bool true]) w := by
  obtain ⟨es, clock, l, hb, he, _, _, hf⟩ := h
  rw [hf, assocL] at hx
  obtain ⟨y, hy, rfl⟩ := Option.map_eq_some_iff.1 hx
  have h1 := Go.MapKept.run_getObj_map (P := P) hb
  have h2 := run_checkKey (P := P) (w := w) (k := .int .i64 x) hk (by first | trivial | exact ⟨_, rfl⟩ | simp [IsKey]) es.isEmpty 9999
  have h3 := map_seek (w := w) hk he x
  rw [hy] at h3
  simp [Instr.lookup, Sem.run_bind, run_underlying ht, Result.andThen, h1, h2, h3]
theorem map_miss (ht : P.underlying t = some (.map k e)) (hk : P.underlying k = some (.int .i64)) {z : Value} (hz : (zeroValue e).run P w = .ok z w) (h : IsMap w m f n) {x : Int} (hx : f x = none) :
    (Instr.lookup t (.map (some m)) (.int .i64 x) true).run P w = .ok (.tuple #[z, .bool false]) w := by
  obtain ⟨es, clock, l, hb, he, _, _, hf⟩ := h
  rw [hf, assocL] at hx
  have hy : seekL l x 0 = none := Option.map_eq_none_iff.1 hx
  have h1 := Go.MapKept.run_getObj_map (P := P) hb
  have h2 := run_checkKey (P := P) (w := w) (k := .int .i64 x) hk (by first | trivial | exact ⟨_, rfl⟩ | simp [IsKey]) es.isEmpty 9999
  have h3 := map_seek (w := w) hk he x
  rw [hy] at h3
  simp [Instr.lookup, Sem.run_bind, run_underlying ht, Result.andThen, h1, h2, h3, hz]
/-- Another value at a key. -/
def updF (f : Int → Option Value) (x : Int) (v : Option Value) : Int → Option Value := fun y => if y = x then v else f y
theorem seek_some : ∀ {l : List (Int × Value)} {x : Int} {i : Nat} {y : Nat × Value}, seekL l x i = some y → ∃ a b, l = a ++ (x, y.2) :: b ∧ y.1 = i + a.length ∧ x ∉ a.map Prod.fst
  | [], x, i, y, h => by cases h
  | z :: l, x, i, y, h => by
    unfold seekL at h
    split at h
    · rename_i hx
      obtain rfl := Option.some.inj h
      exact ⟨[], l, by rw [hx]; rfl, by simp, by simp⟩
    · rename_i hx
      obtain ⟨a, b, rfl, h2, h3⟩ := seek_some h
      refine ⟨z :: a, b, rfl, by simp; omega, ?_⟩
      simp only [List.map_cons, List.mem_cons, not_or]
      exact ⟨hx, h3⟩
theorem assocL_append : ∀ (a b : List (Int × Value)) (k : Int), assocL (a ++ b) k = (assocL a k).or (assocL b k)
  | [], b, k => rfl
  | z :: a, b, k => by
    rw [List.cons_append, assocL_cons, assocL_cons, assocL_append a b k]
    split <;> rfl
theorem assocL_none : ∀ {a : List (Int × Value)} {k : Int}, k ∉ a.map Prod.fst → assocL a k = none
  | [], k, _ => rfl
  | z :: a, k, h => by
    simp only [List.map_cons, List.mem_cons, not_or] at h
    rw [assocL_cons, if_neg h.1, assocL_none h.2]
theorem assocL_mem : ∀ {a : List (Int × Value)} {k : Int}, assocL a k = none → k ∉ a.map Prod.fst
  | [], k, _ => by simp
  | z :: a, k, h => by
    rw [assocL_cons] at h
    split at h
    · cases h
    · rename_i hk
      simp only [List.map_cons, List.mem_cons, not_or]
      exact ⟨hk, assocL_mem h⟩
theorem entries_split {es : List MapEntry} {a b : List (Int × Value)} {y : Int × Value} (h : Entries es (a ++ y :: b)) :
    ∃ ea ee eb, es = ea ++ ee :: eb ∧ Entries ea a ∧ ee.key = .int .i64 y.1 ∧ ee.val = y.2 ∧ Entries eb b := by
  unfold Entries at h
  rw [List.map_append, List.map_cons] at h
  obtain ⟨ea, er, rfl, h1, h2⟩ := List.map_eq_append_iff.1 h
  obtain ⟨ee, eb, rfl, h3, h4⟩ := List.map_eq_cons_iff.1 h2
  exact ⟨ea, ee, eb, rfl, h1, (Prod.mk.inj h3).1, (Prod.mk.inj h3).2, h4⟩
theorem entries_join {ea eb : List MapEntry} {ee : MapEntry} {a b : List (Int × Value)} {y : Int × Value} (h1 : Entries ea a) (h2 : ee.key = .int .i64 y.1) (h3 : ee.val = y.2) (h4 : Entries eb b) : Entries (ea ++ ee :: eb) (a ++ y :: b) := by
  unfold Entries at *
  rw [List.map_append, List.map_cons, List.map_append, List.map_cons, h1, h4, h2, h3]
theorem entries_length {es : List MapEntry} {l : List (Int × Value)} (h : Entries es l) : es.length = l.length := by
  have := congrArg List.length h
  simpa using this
theorem modify_at {α : Type} (f : α → α) (x : α) (b : List α) : ∀ a : List α, (a ++ x :: b).modify a.length f = a ++ f x :: b
  | [] => by simp
  | z :: a => by
    have := modify_at f x b a
    simp [this]
theorem erase_at {α : Type} (x : α) (b : List α) : ∀ a : List α, (a ++ x :: b).eraseIdx a.length = a ++ b
  | [] => by simp
  | z :: a => by
    have := erase_at x b a
    simpa using this
/-- What a store or a delete leaves: block m is another map, all else is as it was. -/
theorem map_put (ht : P.underlying t = some (.map k e)) (hk : P.underlying k = some (.int .i64)) (h : IsMap w m f n) (x : Int) (v : Value) :
    ∃ w', (Instr.mapUpdate t (.map (some m)) (.int .i64 x) v).run P w = .ok () w' ∧ IsMap w' m (updF f x (some v)) (if (f x).isSome then n else n + 1) ∧ Only (fun j => j = m) w w' := by
  obtain ⟨es, clock, l, hb, he, hnd, hn, hf⟩ := h
  have h1 := Go.MapKept.run_getObj_map (P := P) hb
  have h2 := run_checkKey (P := P) (w := w) (k := .int .i64 x) hk (by first | trivial | exact ⟨_, rfl⟩ | simp [IsKey]) false 9999
  have h3 := map_seek (w := w) hk he x
  cases hs : seekL l x 0 with
  | none =>
    rw [hs] at h3
    have hfx : assocL l x = none := by rw [assocL, hs]; rfl
    refine ⟨putB w m (.map (es.push { key := .int .i64 x, val := v, born := clock }) (clock + 1)), ?_, ⟨_, _, l ++ [(x, v)], putB_same _ (lt_of_block hb), ?_, ?_, ?_, fun y => ?_⟩, (Only.refl _ w).putB _ fun _ => rfl⟩
    · have h4 := Go.MapKept.run_setObj_map (P := P) (.map (es.push { key := .int .i64 x, val := v, born := clock }) (clock + 1)) hb
      simp [Instr.mapUpdate, Sem.run_bind, run_underlying ht, Result.andThen, h1, h2, h3, h4]
      rfl
    · rw [Array.toList_push]
      exact entries_join (b := []) (eb := []) he rfl rfl rfl
    · rw [List.map_append, List.nodup_append]
      refine ⟨hnd, by simp, fun a ha b hb' => ?_⟩
      simp at hb'
      subst hb'
      intro hab
      subst hab
      exact assocL_mem hfx ha
    · rw [hf, hfx, List.length_append, hn]
      rfl
    · unfold updF
      rw [assocL_append, ← hf y, assocL_cons]
      by_cases hy : y = x
      · subst hy
        rw [if_pos rfl, hf, hfx, if_pos rfl]; rfl
      · rw [if_neg hy, if_neg hy]
        cases f y <;> rfl
  | some q =>
    rw [hs] at h3
    obtain ⟨a, b, rfl, hq, hna⟩ := seek_some hs
    obtain ⟨ea, ee, eb, hes, e1, e2, e3, e4⟩ := entries_split he
    have hfx : assocL (a ++ (x, q.2) :: b) x = some q.2 := by rw [assocL_append, assocL_none hna, assocL_cons, if_pos rfl]; rfl
    have hql : q.1 = ea.length := by rw [hq, entries_length e1]; omega
    have hget : es[q.1]? = some ee := by
      rw [← Array.getElem?_toList, hes, hql, List.getElem?_append_right (Nat.le_refl _)]
      simp
    have hmod : (es.modify q.1 fun z => { z with key := .int .i64 x, val := v }).toList = ea ++ { ee with key := .int .i64 x, val := v } :: eb := by
      rw [Array.toList_modify, hes, hql]
      exact modify_at _ _ _ _
    have hstay : (Instr.keyThatStays (.int .i64 x) (.int .i64 x)).run P w = .ok (.int .i64 x) w := by
      unfold Instr.keyThatStays
      rw [if_pos (by simp [Instr.sameBits])]
      rfl
    refine ⟨putB w m (.map (es.modify q.1 fun z => { z with key := .int .i64 x, val := v }) clock), ?_, ⟨_, _, a ++ (x, v) :: b, putB_same _ (lt_of_block hb), ?_, ?_, ?_, fun y => ?_⟩, (Only.refl _ w).putB _ fun _ => rfl⟩
    · have h4 := Go.MapKept.run_setObj_map (P := P) (.map (es.modify q.1 fun z => { z with key := .int .i64 x, val := v }) clock) hb
      simp [Instr.mapUpdate, Sem.run_bind, run_underlying ht, Result.andThen, h1, h2, h3, hget, e2, hstay, h4]
      rfl
    · rw [hmod]
      exact entries_join e1 rfl rfl e4
    · simpa using hnd
    · rw [hf, hfx]
      simpa using hn
    · unfold updF
      rw [hf y, assocL_append, assocL_append, assocL_cons, assocL_cons]
      by_cases hy : y = x
      · subst hy
        rw [if_pos rfl, if_pos rfl, assocL_none hna]; rfl
      · rw [if_neg hy, if_neg hy, if_neg hy]
theorem map_del (ht : P.underlying t = some (.map k e)) (hk : P.underlying k = some (.int .i64)) (h : IsMap w m f n) (x : Int) (v : Value) (hx : f x = some v) :
    ∃ w', (∀ t2 ty : TypeId, (Builtin.delete_ #[t, t2] ty #[.map (some m), .int .i64 x]).run P w = .ok (.tuple #[]) w') ∧ IsMap w' m (updF f x none) (n - 1) ∧ 1 ≤ n ∧ Only (fun j => j = m) w w' := by
  obtain ⟨es, clock, l, hb, he, hnd, hn, hf⟩ := h
  have h1 := Go.MapKept.run_getObj_map (P := P) hb
  have h2 := run_checkKey (P := P) (w := w) (k := .int .i64 x) hk (by first | trivial | exact ⟨_, rfl⟩ | simp [IsKey]) es.isEmpty 9999
  have h3 := map_seek (w := w) hk he x
  cases hs : seekL l x 0 with
  | none =>
    have hfx : assocL l x = none := by rw [assocL, hs]; rfl
    rw [hf, hfx] at hx
    cases hx
  | some q =>
    rw [hs] at h3
    obtain ⟨a, b, rfl, hq, hna⟩ := seek_some hs
    obtain ⟨ea, ee, eb, hes, e1, e2, e3, e4⟩ := entries_split he
    have hql : q.1 = ea.length := by rw [hq, entries_length e1]; omega
    have hnb : x ∉ b.map Prod.fst := by
      have := hnd
      rw [List.map_append, List.map_cons, List.nodup_append] at this
      exact (List.nodup_cons.1 this.2.1).1
    refine ⟨putB w m (.map (es.eraseIdxIfInBounds q.1) clock), fun t2 ty => ?_, ⟨_, _, a ++ b, putB_same _ (lt_of_block hb), ?_, ?_, ?_, fun y => ?_⟩, ?_, (Only.refl _ w).putB _ fun _ => rfl⟩
    · have h4 := Go.MapKept.run_setObj_map (P := P) (.map (es.eraseIdxIfInBounds q.1) clock) hb
      simp [Builtin.delete_, Sem.run_bind, run_underlying ht, Result.andThen, h1, h2, h3, h4]
      rfl
    · have : (es.eraseIdxIfInBounds q.1).toList = ea ++ eb := by
        rw [Array.toList_eraseIdxIfInBounds, hes, hql]
        exact erase_at _ _ _
      rw [this]
      unfold Entries at *
      rw [List.map_append, List.map_append, e1, e4]
    · rw [List.map_append, List.map_cons] at hnd
      rw [List.map_append]
      exact (hnd.sublist (List.Sublist.append_left (List.sublist_cons_self _ _) _))
    · simp at hn ⊢
      omega
    · unfold updF
      rw [hf y, assocL_append, assocL_append, assocL_cons]
      by_cases hy : y = x
      · subst hy
        rw [if_pos rfl, assocL_none hna, assocL_none hnb]; rfl
      · rw [if_neg hy, if_neg hy]
    · simp at hn
      omega
end
end Go.Proofs.Ytnmccihgiphmjaa
/- Contracts of the package disk. -/
namespace Go.Proofs.Ytnmccihgiphmjaa
set_option linter.unusedVariables false
set_option linter.unusedSimpArgs false
open Go.RowKit
/-- Another page at a slot. -/
def updP (pg : Int → Option (List Nat)) (k : Int) (v : Option (List Nat)) : Int → Option (List Nat) := fun y => if y = k then v else pg y
/-- A page's slice. -/
def PageIs (w : World) (X : Nat → Prop) (p m : Nat) (v : Value) (l : List Nat) : Prop :=
  ∃ g c, v = .slice (some ⟨g, 0, none⟩) 4096 c ∧ l.length = 4096 ∧ Row w 0 g c l ∧ ¬ X g ∧ g ≠ p ∧ g ≠ m
section
variable {w x : World} {X Y : Nat → Prop} {p m slots : Nat} {pg : Int → Option (List Nat)} {F : List Bool} {v : Value} {l : List Nat}
theorem page_only {G : Nat → Prop} (h : PageIs w X p m v l) (ho : Only G w x) (hG : ∀ b, ¬ X b → b ≠ p → b ≠ m → ¬ G b) : PageIs x X p m v l := by
  obtain ⟨g, c, rfl, h1, h2, h3, h4, h5⟩ := h
  exact ⟨g, c, rfl, h1, row_only h2 ho (hG g h3 h4 h5), h3, h4, h5⟩
end
end Go.Proofs.Ytnmccihgiphmjaa
/- Contracts of the package disk: what turns it. -/
namespace Go.Proofs.Ytnmccihgiphmjaa
set_option linter.unusedVariables false
set_option linter.unusedSimpArgs false
open Go.RowKit
section
variable {w : World} {X : Nat → Prop} {p m slots : Nat} {pg : Int → Option (List Nat)} {F F' : List Bool} {f : Int → Option Value} {fv fv' : Value}
end
end Go.Proofs.Ytnmccihgiphmjaa
/- Contracts of the package disk: New, Fail, Give. -/
namespace Go.Proofs.Ytnmccihgiphmjaa
set_option linter.unusedVariables false
set_option linter.unusedSimpArgs false
open Go.RowKit
/-- A slice of truths reads as l. -/
def Bools (w : World) (ad : Option Addr) (c : Nat) (l : List Bool) : Prop :=
  l.length ≤ c ∧ c ≤ maxLen ∧ (ad = none → c = 0) ∧ ∀ (k : Nat) (x : Bool), l[k]? = some x → ∃ bb off, ad = some ⟨bb, off, none⟩ ∧ bb < w.heap.size ∧ w.cell? ⟨bb, off + k, none⟩ = some (.bool x)
end Go.Proofs.Ytnmccihgiphmjaa
/- Contracts of the package disk: Give, Read, Write. -/
namespace Go.Proofs.Ytnmccihgiphmjaa
set_option linter.unusedVariables false
set_option linter.unusedSimpArgs false
open Go.RowKit
theorem zero_bytes (w : World) : (zeroValue 84).run Try.prog w = .ok (.slice none 0 0) w := by kernel_rfl
section
variable {w w' : World} {X : Nat → Prop} {p m slots : Nat} {pg pg' : Int → Option (List Nat)} {F F' : List Bool} {f f' : Int → Option Value} {fv fv' : Value}
end
end Go.Proofs.Ytnmccihgiphmjaa
/- Contracts of the package disk: Read, Write. -/
namespace Go.Proofs.Ytnmccihgiphmjaa
set_option linter.unusedVariables false
set_option linter.unusedSimpArgs false
open Go.RowKit
end Go.Proofs.Ytnmccihgiphmjaa
/- Contracts of the package disk: Write. -/
namespace Go.Proofs.Ytnmccihgiphmjaa
set_option linter.unusedVariables false
set_option linter.unusedSimpArgs false
open Go.RowKit
end Go.Proofs.Ytnmccihgiphmjaa
/- Contracts of the package disk: Take. -/
namespace Go.Proofs.Ytnmccihgiphmjaa
set_option linter.unusedVariables false
set_option linter.unusedSimpArgs false
open Go.RowKit
def zeros4096 : List Nat := List.replicate 4096 0
theorem zeros4096_length : zeros4096.length = 4096 := List.length_replicate
/-- A new page, all 0. -/
theorem make_page (w : World) : ∃ w', (Instr.makeSlice 84 (.int .i64 4096) (.int .i64 4096)).run Try.prog w = .ok (.slice (some ⟨w.heap.size, 0, none⟩) 4096 4096) w' ∧ Row w' w.heap.size w.heap.size 4096 zeros4096 ∧ Old w w' := by
  obtain ⟨i0, hi, hz0, hz1, hz2⟩ := info_parts u8_info
  obtain ⟨w', hrun, hown, hg⟩ := run_make_full (P := Try.prog) w w.heap.size 84 5 i0 (.int .u8 0) 1 Try.underlying84 hi hz0 hz1 .i64 .i64 4096 (by omega) (by unfold maxLen; omega) (Nat.le_refl _)
  refine ⟨w', hrun, ⟨?_, ?_⟩, old_grown (old_refl w) hg (fun g e => by cases e)⟩
  · have e : (madeCells (Value.int .u8 0).cells (4096 * 1)).toList = zeros4096.map vb := by
      rw [show (Value.int .u8 0).cells = #[.int .u8 0] from rfl, toList_madeCells_one]
      unfold zeros4096
      rw [List.map_replicate]
      rfl
    rw [zeros4096_length, ← e]
    exact hown
  · intro x hx
    have := List.eq_of_mem_replicate hx
    omega
end Go.Proofs.Ytnmccihgiphmjaa
/- Contracts of the package phys: the memory, what it holds, has, Frames, Ops, page, place, New. -/
namespace Go.Proofs.Ytnmccihgiphmjaa
set_option linter.unusedVariables false
set_option linter.unusedSimpArgs false
open Go.RowKit Go.MapKept
section
variable {P : Program} {t k e : TypeId} {w : World} {m n : Nat} {f : Int → Option Value}
theorem map_get (ht : P.underlying t = some (.map k e)) (hk : P.underlying k = some (.int .i64)) (h : IsMap w m f n) {x : Int} {v : Value} (hx : f x = some v) :
    (Instr.lookup t (.map (some m)) (.int .i64 x) false).run P w = .ok v w := by
  obtain ⟨es, clock, l, hb, he, _, _, hf⟩ := h
  rw [hf, assocL] at hx
  obtain ⟨y, hy, rfl⟩ := Option.map_eq_some_iff.1 hx
  have h1 := Go.MapKept.run_getObj_map (P := P) hb
  have h2 := run_checkKey (P := P) (w := w) (k := .int .i64 x) hk (by first | trivial | exact ⟨_, rfl⟩ | simp [IsKey]) es.isEmpty 9999
  have h3 := map_seek (w := w) hk he x
  rw [hy] at h3
  simp [Instr.lookup, Sem.run_bind, run_underlying ht, Result.andThen, h1, h2, h3]
theorem map_get_none (ht : P.underlying t = some (.map k e)) (hk : P.underlying k = some (.int .i64)) {z : Value} (hz : (zeroValue e).run P w = .ok z w) (h : IsMap w m f n) {x : Int} (hx : f x = none) :
    (Instr.lookup t (.map (some m)) (.int .i64 x) false).run P w = .ok z w := by
  obtain ⟨es, clock, l, hb, he, _, _, hf⟩ := h
  rw [hf, assocL] at hx
  have hy : seekL l x 0 = none := Option.map_eq_none_iff.1 hx
  have h1 := Go.MapKept.run_getObj_map (P := P) hb
  have h2 := run_checkKey (P := P) (w := w) (k := .int .i64 x) hk (by first | trivial | exact ⟨_, rfl⟩ | simp [IsKey]) es.isEmpty 9999
  have h3 := map_seek (w := w) hk he x
  rw [hy] at h3
  simp [Instr.lookup, Sem.run_bind, run_underlying ht, Result.andThen, h1, h2, h3, hz]
theorem map_del_none (ht : P.underlying t = some (.map k e)) (hk : P.underlying k = some (.int .i64)) (h : IsMap w m f n) (x : Int) (hx : f x = none) :
    ∀ t2 ty : TypeId, (Builtin.delete_ #[t, t2] ty #[.map (some m), .int .i64 x]).run P w = .ok (.tuple #[]) w := by
  obtain ⟨es, clock, l, hb, he, hnd, hn, hf⟩ := h
  rw [hf, assocL] at hx
  have hy : seekL l x 0 = none := Option.map_eq_none_iff.1 hx
  have h1 := Go.MapKept.run_getObj_map (P := P) hb
  have h2 := run_checkKey (P := P) (w := w) (k := .int .i64 x) hk (by first | trivial | exact ⟨_, rfl⟩ | simp [IsKey]) es.isEmpty 9999
  have h3 := map_seek (w := w) hk he x
  rw [hy] at h3
  intro t2 ty
  have h4 := Go.MapKept.run_setObj_map (P := P) (.map es clock) hb
  have hid : putB w m (.map es clock) = w := by
    unfold putB
    have : w.heap.setIfInBounds m (.map es clock) = w.heap := by
      apply Array.ext_getElem?
      intro i
      rw [Array.getElem?_setIfInBounds]
      by_cases hi : m = i
      · subst hi
        rw [if_pos rfl, hb, if_pos (lt_of_block hb)]
      · rw [if_neg hi]
    rw [this]
  simp [Builtin.delete_, Sem.run_bind, run_underlying ht, Result.andThen, h1, h2, h3, h4]
  exact hid
end
/-- The cells of a memory. -/
def memCells (frames m ops : Nat) : Array Value := #[.int .i64 frames, .map (some m), .int .i64 ops]
/-- Block p holds a memory; X: blocks that are not its own. -/
def IsMem (w : World) (X : Nat → Prop) (p frames : Nat) (pg : Int → Option (List Nat)) (ops : Nat) : Prop :=
  ∃ m f n, w.heap[p]? = some (.cells (memCells frames m ops) 58) ∧ ¬ X p ∧ IsMap w m f n ∧ ¬ X m ∧ m ≠ p ∧ (1 ≤ frames ∧ frames ≤ 1048576) ∧
    (∀ k, pg k = none → f k = none) ∧ (∀ k l, pg k = some l → ∃ v, f k = some v ∧ PageIs w X p m v l)
/-- A frame's bytes. -/
def pageOf (pg : Int → Option (List Nat)) (k : Int) : List Nat := (pg k).getD zeros4096
section
variable {w x : World} {X Y : Nat → Prop} {p frames ops : Nat} {pg : Int → Option (List Nat)}
/-- Others' blocks were turned. -/
theorem mem_only {G : Nat → Prop} (h : IsMem w X p frames pg ops) (ho : Only G w x) (hG : ∀ b, ¬ X b → ¬ G b) : IsMem x X p frames pg ops := by
  obtain ⟨m, f, n, h1, h2, h3, h4, h5, h6, h7, h8⟩ := h
  refine ⟨m, f, n, keep_only ho (hG p h2) h1, h2, isMap_only h3 ho (hG m h4), h4, h5, h6, h7, fun k l hk => ?_⟩
  obtain ⟨v, a, b⟩ := h8 k l hk
  exact ⟨v, a, page_only b ho fun b hb _ _ => hG b hb⟩
theorem mem_old (h : IsMem w X p frames pg ops) (ho : Old w x) : IsMem x X p frames pg ops := mem_only h (Only.of_below ho) fun _ _ f => f
/-- More blocks that are not the memory's own. -/
theorem mem_more (h : IsMem w X p frames pg ops) (hY : ∀ b, Y b → X b ∨ w.heap.size ≤ b) : IsMem w Y p frames pg ops := by
  obtain ⟨m, f, n, h1, h2, h3, h4, h5, h6, h7, h8⟩ := h
  have key : ∀ b, ¬ X b → b < w.heap.size → ¬ Y b := fun b hb hl hy => (hY b hy).elim hb (by omega)
  refine ⟨m, f, n, h1, key p h2 (lt_of_block h1), h3, key m h4 (isMap_lt h3), h5, h6, h7, fun k l hk => ?_⟩
  obtain ⟨v, a, g, c, rfl, b1, b2, b3, b4, b5⟩ := h8 k l hk
  exact ⟨_, a, g, c, rfl, b1, b2, key g b3 (row_parts b2).2.1, b4, b5⟩
theorem pageOf_length (h : IsMem w X p frames pg ops) (k : Int) : (pageOf pg k).length = 4096 := by
  unfold pageOf
  cases hk : pg k with
  | none => exact zeros4096_length
  | some l =>
    obtain ⟨m, f, n, h1, h2, h3, h4, h5, h6, h7, h8⟩ := h
    obtain ⟨v, _, g, c, _, hl, _⟩ := h8 k l hk
    exact hl
/-- Another count of reads and writes. -/
theorem mem_ops (h : IsMem w X p frames pg ops) (o2 : Nat) : ∃ C, w.heap[p]? = some (.cells C 58) ∧ C[2]? = some (.int .i64 ops) ∧ IsMem (putB w p (.cells (C.setIfInBounds 2 (.int .i64 o2)) 58)) X p frames pg o2 ∧ Only (fun b => ¬ X b) w (putB w p (.cells (C.setIfInBounds 2 (.int .i64 o2)) 58)) := by
  obtain ⟨m, f, n, h1, h2, h3, h4, h5, h6, h7, h8⟩ := h
  have hp := lt_of_block h1
  have ho : Only (fun b => b = p) w (putB w p (.cells (memCells frames m o2) 58)) := (Only.refl _ _).putB _ (fun _ => rfl)
  refine ⟨_, h1, rfl, ⟨m, f, n, putB_same _ hp, h2, isMap_only h3 ho (fun e => h5 e), h4, h5, h6, h7, fun k l hk => ?_⟩, ho.mono fun b _ e => by rw [e]; exact h2⟩
  obtain ⟨v, a, b⟩ := h8 k l hk
  exact ⟨v, a, page_only b ho fun b _ hp _ e => hp e⟩
/-- A page laid. -/
theorem mem_page (h : IsMem w X p frames pg ops) (k : Int) (l : List Nat) (B g c : Nat) (hr : Row w B g c l) (hl : l.length = 4096) (hg : ¬ X g) (hgp : g ≠ p) (hgm : ∀ m, w.cell? ⟨p, 1, none⟩ = some (.map (some m)) → g ≠ m) :
    ∃ m, w.cell? ⟨p, 1, none⟩ = some (.map (some m)) ∧ ∃ w', (Instr.mapUpdate 56 (.map (some m)) (.int .i64 k) (.slice (some ⟨g, 0, none⟩) 4096 c)).run Try.prog w = .ok () w' ∧ IsMem w' X p frames (updP pg k (some l)) ops ∧ Only (fun b => ¬ X b) w w' := by
  obtain ⟨m, f, n, h1, h2, h3, h4, h5, h6, h7, h8⟩ := h
  have c1 : w.cell? ⟨p, 1, none⟩ = some (.map (some m)) := by rw [cell_of h1]; rfl
  obtain ⟨w', hput, hmap, ho⟩ := map_put (P := Try.prog) (t := 56) Try.underlying56 Try.underlying3 h3 k (.slice (some ⟨g, 0, none⟩) 4096 c)
  refine ⟨m, c1, w', hput, ⟨m, _, _, keep_only ho (fun e => h5 e.symm) h1, h2, hmap, h4, h5, h6, fun j hj => ?_, fun j lj hj => ?_⟩, ho.mono fun b _ e => by rw [e]; exact h4⟩
  · unfold updP at hj
    unfold updF
    by_cases e : j = k
    · rw [if_pos e] at hj; cases hj
    · rw [if_neg e] at hj ⊢; exact h7 j hj
  · unfold updP at hj
    unfold updF
    by_cases e : j = k
    · rw [if_pos e] at hj ⊢
      obtain rfl := Option.some.inj hj
      have hr0 : Row w 0 g c l := by
        refine ⟨⟨hr.1.1, ?_⟩, hr.2⟩
        rcases hr.1.2 with h' | ⟨g', cap', cur, h', hb, rest⟩
        · exact .inl h'
        · exact .inr ⟨g', cap', cur, h', Nat.zero_le _, rest⟩
      exact ⟨_, rfl, g, c, rfl, hl, row_only hr0 ho (fun e => hgm m c1 e), hg, hgp, hgm m c1⟩
    · rw [if_neg e] at hj ⊢
      obtain ⟨v, a, b⟩ := h8 j lj hj
      exact ⟨v, a, page_only b ho fun b _ _ hm e => hm e⟩
/-- A page taken away. -/
theorem mem_zero (h : IsMem w X p frames pg ops) (k : Int) :
    ∃ m, w.cell? ⟨p, 1, none⟩ = some (.map (some m)) ∧ ∃ w', (∀ ty : TypeId, (Builtin.delete_ #[56, 3] ty #[.map (some m), .int .i64 k]).run Try.prog w = .ok (.tuple #[]) w') ∧ IsMem w' X p frames (updP pg k none) ops ∧ Only (fun b => ¬ X b) w w' := by
  obtain ⟨m, f, n, h1, h2, h3, h4, h5, h6, h7, h8⟩ := h
  have c1 : w.cell? ⟨p, 1, none⟩ = some (.map (some m)) := by rw [cell_of h1]; rfl
  cases hk : pg k with
  | none =>
    have hdel := map_del_none (P := Try.prog) (t := 56) Try.underlying56 Try.underlying3 h3 k (h7 k hk)
    have e : updP pg k none = pg := by
      funext j
      unfold updP
      by_cases hj : j = k
      · rw [if_pos hj, hj, hk]
      · rw [if_neg hj]
    rw [e]
    exact ⟨m, c1, w, fun ty => hdel 3 ty, ⟨m, f, n, h1, h2, h3, h4, h5, h6, h7, h8⟩, Only.refl _ _⟩
  | some l =>
    obtain ⟨v, hv, hpg⟩ := h8 k l hk
    obtain ⟨w', hdel, hmap, -, ho⟩ := map_del (P := Try.prog) (t := 56) Try.underlying56 Try.underlying3 h3 k v hv
    refine ⟨m, c1, w', fun ty => hdel 3 ty, ⟨m, _, _, keep_only ho (fun e => h5 e.symm) h1, h2, hmap, h4, h5, h6, fun j hj => ?_, fun j lj hj => ?_⟩, ho.mono fun b _ e => by rw [e]; exact h4⟩
    · unfold updP at hj
      unfold updF
      by_cases e : j = k
      · rw [if_pos e]
      · rw [if_neg e] at hj ⊢; exact h7 j hj
    · unfold updP at hj
      unfold updF
      by_cases e : j = k
      · rw [if_pos e] at hj; cases hj
      · rw [if_neg e] at hj ⊢
        obtain ⟨v, a, b⟩ := h8 j lj hj
        exact ⟨v, a, page_only b ho fun b _ _ hm e => hm e⟩
end
/-- What a method of the memory leaves. -/
def RetMem (w : World) (X : Nat → Prop) (p frames : Nat) (v : Value) (pg : Int → Option (List Nat)) (ops : Nat) (e : Ending) (w' : World) : Prop :=
  e = .returned v ∧ IsMem w' X p frames pg ops ∧ Only (fun b => ¬ X b) w w'
theorem physNew_calls (n : Nat) (w : World) (h1 : 1 ≤ n) (h2 : n ≤ 1048576) : Calls Try.prog 7 #[.int .i64 n] w (fun e w' =>
    e = .returned (.tuple #[.pointer (some ⟨w.heap.size + 1, 0, none⟩), .int .i64 0]) ∧ Old w w' ∧ w'.heap.size = w.heap.size + 2 ∧ ∀ X : Nat → Prop, (∀ b, X b → b < w.heap.size) → IsMem w' X (w.heap.size + 1) n (fun _ => none) 0) := by
  have i1 : (1 : Int) ≤ n := by omega
  have i2 : (n : Int) ≤ 1048576 := by omega
  have hmm := @run_makeMap Try.prog
  go_enter Try.func7, Try.ntmps7
  go_wp2
  go_ret2
  refine ⟨?_, old_alloc (old_alloc (old_refl w) _) _, by simp, fun X hX => ⟨w.heap.size, fun _ => none, 0, ?_, fun f => by have := hX _ f; omega, isMap_old (isMap_made w) (old_alloc (old_refl _) _), fun f => by have := hX _ f; omega, by omega, ⟨h1, h2⟩, fun _ _ => rfl, fun k l hk => by cases hk⟩⟩
  · first | rfl | simp
  · exact alloc_heap_new _ _ _ (by simp)
section
variable {X : Nat → Prop} {p frames ops : Nat} {pg : Int → Option (List Nat)} {w : World}
theorem frames_calls (h : IsMem w X p frames pg ops) : Calls Try.prog 30 #[.pointer (some ⟨p, 0, none⟩)] w (RetB w (.int .i64 frames)) := by
  obtain ⟨m, f, n, h1, h2, h3, h4, h5, h6, h7, h8⟩ := h
  have c0 : w.cell? ⟨p, 0, none⟩ = some (.int .i64 frames) := by rw [cell_of h1]; rfl
  clear h1 h2 h3 h4 h5 h6 h7 h8
  go_enter Try.func30, Try.ntmps30
  go_wp2
  go_ret
  exact ⟨rfl, old_refl _⟩
def hasB (frames : Nat) (k : Int) : Bool := decide (0 ≤ k) && decide (k < frames)
theorem has_calls (h : IsMem w X p frames pg ops) (k : Int) : Calls Try.prog 47 #[.pointer (some ⟨p, 0, none⟩), .int .i64 k] w (RetB w (.bool (hasB frames k))) := by
  obtain ⟨m, f, n, h1, h2, h3, h4, h5, h6, h7, h8⟩ := h
  have c0 : w.cell? ⟨p, 0, none⟩ = some (.int .i64 frames) := by rw [cell_of h1]; rfl
  clear h1 h2 h3 h4 h5 h6 h7 h8
  by_cases k0 : 0 ≤ k
  · by_cases k1 : k < frames
    · have e : hasB frames k = true := by unfold hasB; simp [k0, k1]
      rw [e]
      clear e
      go_enter Try.func47, Try.ntmps47
      go_wp2
      go_ret
      exact ⟨rfl, old_refl _⟩
    · have e : hasB frames k = false := by unfold hasB; simp [k1]
      rw [e]
      clear e
      go_enter Try.func47, Try.ntmps47
      go_wp2
      go_ret
      exact ⟨rfl, old_refl _⟩
  · have e : hasB frames k = false := by unfold hasB; simp [k0]
    rw [e]
    clear e
    go_enter Try.func47, Try.ntmps47
    go_wp2
    go_ret
    exact ⟨rfl, old_refl _⟩
/-- page tells a frame's bytes: its own block, or a new one. -/
theorem page_calls (h : IsMem w X p frames pg ops) (k : Int) : Calls Try.prog 43 #[.pointer (some ⟨p, 0, none⟩), .int .i64 k] w (fun e w' => ∃ g c, e = .returned (.slice (some ⟨g, 0, none⟩) 4096 c) ∧ Row w' 0 g c (pageOf pg k) ∧ Old w w') := by
  have hl := pageOf_length h k
  obtain ⟨m, f, n, h1, h2, h3, h4, h5, h6, h7, h8⟩ := h
  have c1 : w.cell? ⟨p, 1, none⟩ = some (.map (some m)) := by rw [cell_of h1]; rfl
  cases hk : pg k with
  | none =>
    have hlk := map_miss (P := Try.prog) (t := 56) Try.underlying56 Try.underlying3 (zero_bytes w) h3 (h7 k hk)
    obtain ⟨w2, hmk, hrow, hO⟩ := make_page w
    have hp0 : pageOf pg k = zeros4096 := by unfold pageOf; rw [hk]; rfl
    rw [hp0]
    have hr0 : Row w2 0 w.heap.size 4096 zeros4096 := by
      refine ⟨⟨hrow.1.1, ?_⟩, hrow.2⟩
      rcases hrow.1.2 with h' | ⟨g', cap', cur, h', hb, rest⟩
      · exact .inl h'
      · exact .inr ⟨g', cap', cur, h', Nat.zero_le _, rest⟩
    have HR := Lib.hid (And.intro hr0 hO)
    clear h1 h2 h3 h4 h5 h6 h7 h8 hl hk hrow hO hr0 hp0
    go_enter Try.func43, Try.ntmps43
    go_wp2
    go_ret
    exact ⟨_, _, rfl, HR.out.1, HR.out.2⟩
  | some l =>
    obtain ⟨v, hv, g, c, rfl, b1, b2, b3, b4, b5⟩ := h8 k l hk
    have hlk := map_lookup (P := Try.prog) (t := 56) Try.underlying56 Try.underlying3 h3 hv
    have hp0 : pageOf pg k = l := by unfold pageOf; rw [hk]; rfl
    rw [hp0]
    have HR := Lib.hid b2
    clear h1 h2 h3 h4 h5 h6 h7 h8 hl hk hv b1 b2 b3 b4 b5 hp0
    go_enter Try.func43, Try.ntmps43
    go_wp2
    go_ret
    exact ⟨_, _, rfl, HR.out, old_refl _⟩
end
end Go.Proofs.Ytnmccihgiphmjaa
/- Contracts of the package phys: place, Read, Write. -/
namespace Go.Proofs.Ytnmccihgiphmjaa
set_option linter.unusedVariables false
set_option linter.unusedSimpArgs false
open Go.RowKit
/-- Why a word may not be. -/
def placeE (frames : Nat) (addr : Nat) (s : Int) : Int := if checkN 4096 ((addr % 4096 : Nat) : Int) s ≠ 0 then checkN 4096 ((addr % 4096 : Nat) : Int) s else if frames ≤ addr / 4096 then 2 else 0
section
variable {X : Nat → Prop} {p frames ops : Nat} {pg : Int → Option (List Nat)} {w : World}
theorem mplace_calls (h : IsMem w X p frames pg ops) (addr : Nat) (ha : addr < 18446744073709551616) (s : Int) :
    Calls Try.prog 41 #[.pointer (some ⟨p, 0, none⟩), .int .u64 (addr : Nat), .int .i64 s] w
      (RetB w (.tuple (if placeE frames addr s = 0 then #[.int .i64 (addr / 4096 : Nat), .int .i64 (addr % 4096 : Nat), .int .i64 0] else #[.int .i64 0, .int .i64 0, .int .i64 (placeE frames addr s)]))) := by
  obtain ⟨w1, hmk, hrow, hO⟩ := make_page w
  obtain ⟨m, f, n, h1, h2, h3, h4, h5, h6, h7, h8⟩ := h
  have c0 : w.cell? ⟨p, 0, none⟩ = some (.int .i64 frames) := by rw [cell_of h1]; rfl
  have hB := row_bytes hrow
  have hp := lt_of_block h1
  have e1 : ((addr : Int) % 4096) = ((addr % 4096 : Nat) : Int) := by omega
  have e2 : ((addr : Int) / 4096) = ((addr / 4096 : Nat) : Int) := by omega
  have hfr : IntKind.u64.wrap (frames : Int) = frames := IntWalk.u64_in _ (by omega)
  have hlo : addr % 4096 < 4096 := Nat.mod_lt _ (by decide)
  have hhi : addr / 4096 ≤ 9007199254740992 := by omega
  generalize hA : addr % 4096 = at_ at *
  generalize hF : addr / 4096 = fr at *
  have HA := Lib.hid (And.intro hA hF)
  have hPE : placeE frames addr s = if checkN 4096 (at_ : Int) s ≠ 0 then checkN 4096 (at_ : Int) s else if frames ≤ fr then 2 else 0 := by unfold placeE; rw [hA, hF]
  rw [hPE]
  clear hPE
  by_cases hc : checkN 4096 (at_ : Int) s = 0
  case neg =>
    have e : (if checkN 4096 (at_ : Int) s ≠ 0 then checkN 4096 (at_ : Int) s else if frames ≤ fr then 2 else 0) = checkN 4096 (at_ : Int) s := if_pos hc
    rw [e, if_neg hc]
    clear e
    have hget := fun x => get_fail (some ⟨w.heap.size, 0, none⟩) 4096 4096 (at_ : Int) s x (by decide) _ rfl hc
    generalize checkN 4096 (at_ : Int) s = E at *
    have hb : (E != 0) = true := by simp [hc]
    have HO := Lib.hid hO
    clear h1 h2 h3 h4 h5 h6 h7 h8 hA hF hB hrow hO hc c0
    go_enter Try.func41, Try.ntmps41
    go_wp2_with fail
    (with_reducible refine (hget _).mono ?_)
    rintro e w2 ⟨rfl, hb2⟩
    go_wp2
    go_ret3
    exact ⟨rfl, old_then HO.out hb2⟩
  case pos =>
  have e : (if checkN 4096 (at_ : Int) s ≠ 0 then checkN 4096 (at_ : Int) s else if frames ≤ fr then (2 : Int) else 0) = if frames ≤ fr then 2 else 0 := if_neg (by simp [hc])
  rw [e]
  clear e
  have hs : 1 ≤ s ∧ s ≤ 8 ∧ (at_ : Int) + s ≤ 4096 := by
    unfold checkN at hc
    split at hc
    · cases hc
    split at hc
    · cases hc
    split at hc
    · cases hc
    rename_i g1 g2 g3
    have g1' := Classical.not_not.1 g1
    omega
  obtain ⟨sn, rfl⟩ : ∃ sn : Nat, s = sn := ⟨s.toNat, by omega⟩
  have hz := zeros4096_length
  have hget := fun x (hBx : Bytes x (some ⟨w.heap.size, 0, none⟩) 4096 zeros4096) => get_ok (some ⟨w.heap.size, 0, none⟩) zeros4096 4096 (at_ : Int) (sn : Int) at_ sn rfl rfl x hBx (by rw [hz]; exact hc) (by omega) (by omega) (by omega)
  rw [hz] at hget
  have hg1 := hget w1 hB
  generalize getN zeros4096 at_ sn = gv at *
  have HO := Lib.hid hO
  have H1 := Lib.hid h1
  have hold : ∀ y, Old w1 y → y.cell? ⟨p, 0, none⟩ = some (.int .i64 frames) := fun y hy => by rw [cell_of (keep_old hy (keep_old hO h1))]; rfl
  have HC := Lib.hid hold
  have hcast : IntKind.i64.wrap (fr : Int) = fr := IntWalk.i64_in _ (by omega)
  by_cases hr : frames ≤ fr
  · have e : (if frames ≤ fr then (2 : Int) else 0) = 2 := if_pos hr
    rw [e, if_neg (by decide)]
    clear e
    clear h1 h2 h3 h4 h5 h6 h7 h8 hA hF hB hrow hO hc c0 hz hget hold
    go_enter Try.func41, Try.ntmps41
    go_wp2_with fail
    (with_reducible refine hg1.mono ?_)
    rintro e w2 ⟨rfl, hb2⟩
    have c0 := HC.out _ hb2
    go_wp2
    go_ret3
    exact ⟨rfl, old_then HO.out hb2⟩
  · have e : (if frames ≤ fr then (2 : Int) else 0) = 0 := if_neg hr
    rw [e, if_pos rfl]
    clear e
    clear h1 h2 h3 h4 h5 h6 h7 h8 hA hF hB hrow hO hc c0 hz hget hold
    go_enter Try.func41, Try.ntmps41
    go_wp2_with fail
    (with_reducible refine hg1.mono ?_)
    rintro e w2 ⟨rfl, hb2⟩
    have c0 := HC.out _ hb2
    go_wp2
    go_ret3
    exact ⟨rfl, old_then HO.out hb2⟩
end
end Go.Proofs.Ytnmccihgiphmjaa
/- Contracts of the package phys: Read, Write; bytes.Clone, bytes.Equal. -/
namespace Go.Proofs.Ytnmccihgiphmjaa
set_option linter.unusedVariables false
set_option linter.unusedSimpArgs false
open Go.RowKit
theorem placeE_zero {frames addr : Nat} {s : Int} (h : placeE frames addr s = 0) : checkN 4096 ((addr % 4096 : Nat) : Int) s = 0 ∧ addr / 4096 < frames ∧ 1 ≤ s ∧ s ≤ 8 ∧ ((addr % 4096 : Nat) : Int) + s ≤ 4096 := by
  have hc : checkN 4096 ((addr % 4096 : Nat) : Int) s = 0 := by
    unfold placeE at h
    split at h
    · rename_i h1; exact absurd h h1
    · rename_i h1; exact Classical.not_not.1 h1
  have hf : addr / 4096 < frames := by
    unfold placeE at h
    rw [if_neg (fun g => g hc)] at h
    split at h
    · cases h
    · omega
  refine ⟨hc, hf, ?_⟩
  unfold checkN at hc
  split at hc
  · cases hc
  split at hc
  · cases hc
  split at hc
  · cases hc
  rename_i g1 g2 g3
  have g1' := Classical.not_not.1 g1
  omega
section
variable {X : Nat → Prop} {p frames ops : Nat} {pg : Int → Option (List Nat)} {w : World}
/-- A frame with another number. -/
def wroteOf (pg : Int → Option (List Nat)) (addr : Nat) (s : Int) (v : Nat) : List Nat := putL (pageOf pg ((addr / 4096 : Nat) : Int)) (addr % 4096) v s.toNat
set_option maxHeartbeats 1000000 in
theorem write_ok2 (h : IsMem w X p frames pg ops) (hX : ∀ b, X b → b < w.heap.size) (addr : Nat) (ha : addr < 18446744073709551616) (s : Int) (v : Nat) (he : placeE frames addr s = 0) (ho : ops < 4611686018427387904) :
    Calls Try.prog 24 #[.pointer (some ⟨p, 0, none⟩), .int .u64 (addr : Nat), .int .i64 s, .int .u64 (v : Nat)] w (RetMem w X p frames (.int .i64 0) (updP pg ((addr / 4096 : Nat) : Int) (some (wroteOf pg addr s v))) (ops + 1)) := by
  have hp := mplace_calls h addr ha s
  rw [if_pos he] at hp
  obtain ⟨hc, hf, hs1, hs8, hle⟩ := placeE_zero he
  obtain ⟨sn, rfl⟩ : ∃ sn : Nat, s = sn := ⟨s.toNat, by omega⟩
  have hl := fun k => pageOf_length h k
  have H := Lib.hid h
  have hv : wroteOf pg addr (sn : Int) v = putL (pageOf pg ((addr / 4096 : Nat) : Int)) (addr % 4096) v sn := rfl
  rw [hv]
  clear hv
  generalize addr / 4096 = fr at *
  generalize addr % 4096 = at_ at *
  have hput := fun x c g (hBx : Bytes x (some ⟨g, 0, none⟩) c (pageOf pg (fr : Int))) => put_ok (some ⟨g, 0, none⟩) (pageOf pg (fr : Int)) c (at_ : Int) (sn : Int) (v : Int) at_ sn v rfl rfl rfl x hBx (by rw [hl]; exact hc) (by rw [hl]; omega) (by omega) (by omega) (by rw [hl]; decide)
  simp only [hl] at hput
  have hll := putL_length (pageOf pg (fr : Int)) at_ v sn
  rw [hl] at hll
  have HG := Lib.hid hput
  have HLL := Lib.hid hll
  clear h he hc hf hle hl hput hll
  go_enter Try.func24, Try.ntmps24
  go_wp2_with fail
  (with_reducible refine hp.mono ?_)
  rintro e w1 ⟨rfl, hb1⟩
  obtain ⟨C, hC1, hC2, hm, hOn⟩ := mem_ops (mem_old H.out hb1) (ops + 1)
  have hcell : w1.cell? ⟨p, 2, none⟩ = some (.int .i64 ops) := by rw [cell_of hC1]; exact hC2
  have hfr := frozen_of hC1 2
  have hset : w1.setCell ⟨p, 2, none⟩ (.int .i64 ((ops : Int) + 1)) = putB w1 p (.cells (C.setIfInBounds 2 (.int .i64 ((ops + 1 : Nat) : Int))) 58) := by rw [set_of hC1]; rfl
  generalize putB w1 p (.cells (C.setIfInBounds 2 (.int .i64 ((ops + 1 : Nat) : Int))) 58) = W at *
  have hO1 : Only (fun b => ¬ X b) w W := ((Only.of_below hb1).mono fun b _ f => f.elim).trans hOn
  have hpg := page_calls hm (fr : Int)
  have HM := Lib.hid (And.intro hm hO1)
  clear hC1 hC2 hm hOn hO1 hb1 hp
  go_wp2_with fail
  (with_reducible refine hpg.mono ?_)
  rintro e w2 ⟨g, c, rfl, hrow, hO2⟩
  have hg1 := HG.out w2 c g (row_bytes hrow)
  have HM2 := Lib.hid (And.intro (mem_old HM.out.1 hO2) (HM.out.2.trans ((Only.of_below hO2).mono fun b _ f => f.elim)))
  clear hpg hrow hO2
  go_wp2_with fail
  (with_reducible refine hg1.mono ?_)
  rintro e w3 ⟨g2, c2, rfl, hrow2, hO3⟩
  have hm3 := mem_old HM2.out.1 hO3
  have hOn3 : Only (fun b => ¬ X b) w w3 := HM2.out.2.trans ((Only.of_below hO3).mono fun b _ f => f.elim)
  have hge := (row_parts hrow2).1
  have hsz := HM2.out.2.size
  have hpm : ∀ m, w3.cell? ⟨p, 1, none⟩ = some (.map (some m)) → g2 ≠ m ∧ g2 ≠ p := by
    intro m hcm
    obtain ⟨m', f', n', k1, k2, k3, k4, k5, k6, k7, k8⟩ := HM2.out.1
    have c1 : w3.cell? ⟨p, 1, none⟩ = some (.map (some m')) := by rw [cell_of (keep_old hO3 k1)]; rfl
    rw [c1] at hcm
    have hmm : m' = m := by simpa using hcm
    subst hmm
    have e1 := isMap_lt k3
    have e2 := lt_of_block k1
    omega
  have hgp : g2 ≠ p := by
    obtain ⟨m', f', n', k1, k2, k3, k4, k5, k6, k7, k8⟩ := hm3
    exact (hpm m' (by rw [cell_of k1]; rfl)).2
  obtain ⟨m, c1, W4, hput, hm4, hO4⟩ := mem_page hm3 (fr : Int) _ _ g2 c2 hrow2 HLL.out (fun f => by have := hX _ f; omega) hgp (fun m hm => (hpm m hm).1)
  rw [HLL.out]
  have HF := Lib.hid (And.intro hm4 (hOn3.trans hO4))
  clear hg1 hO3 hm3 hOn3 hge hsz hpm hgp hm4 hO4 hrow2
  go_wp2
  go_ret
  exact ⟨rfl, HF.out.1, HF.out.2⟩
end
end Go.Proofs.Ytnmccihgiphmjaa
/- What was put is got, part by part: plain. -/
namespace Go.Proofs.Ytnmccihgiphmjaa
set_option linter.unusedVariables false
set_option linter.unusedSimpArgs false
open Go.RowKit
theorem putL_at (l : List Nat) (p v : Nat) : ∀ (k i : Nat), (putL l p v k)[i]? = if p ≤ i ∧ i < p + k ∧ i < l.length then some (v / 2 ^ (8 * (i - p)) % 256) else l[i]?
  | 0, i => by rw [putL, if_neg (by omega)]
  | k + 1, i => by
    rw [putL, List.getElem?_set, putL_length]
    by_cases h : p + k = i
    · subst h
      by_cases hl : p + k < l.length
      · rw [if_pos rfl, if_pos hl, if_pos ⟨by omega, by omega, hl⟩, Nat.add_sub_cancel_left]
      · rw [if_pos rfl, if_neg hl, if_neg (by omega), List.getElem?_eq_none (by omega)]
    · rw [if_neg h, putL_at l p v k i]
      by_cases h2 : p ≤ i ∧ i < p + k ∧ i < l.length
      · rw [if_pos h2, if_pos ⟨h2.1, by omega, h2.2.2⟩]
      · rw [if_neg h2, if_neg (by omega)]
end Go.Proofs.Ytnmccihgiphmjaa
/- A memory by its words: contracts of phys.New, Read and Write of eight bytes. -/
namespace Go.Proofs.Ytnmccihgiphmjaa
set_option linter.unusedVariables false
set_option linter.unusedSimpArgs false
open Go.RowKit
section
variable {w x : World} {X Y : Nat → Prop} {p frames N M : Nat} {wd : Nat → Nat}
end
end Go.Proofs.Ytnmccihgiphmjaa
namespace Go.Proofs.Ytnmccihgiphmjaa
set_option linter.unusedVariables false
set_option linter.unusedSimpArgs false
open Go.RowKit
section
variable {w x y : World} {q c n ops : Nat} {ad : Option Addr} {L : List (Nat × Nat)}
/-- Why a word may not be: the same answer as the program's. -/
theorem placeE_five {n addr : Nat} {s : Int} : placeE n addr s = if ¬ (s = 1 ∨ s = 2 ∨ s = 4 ∨ s = 8) then 1 else if (addr : Int) % s ≠ 0 then 3 else if n * 4096 ≤ addr then 2 else 0 := by
  by_cases hs : s = 1 ∨ s = 2 ∨ s = 4 ∨ s = 8
  · rw [if_neg (not_not_intro hs)]
    have e1 : ((addr % 4096 : Nat) : Int) % s = (addr : Int) % s := by rcases hs with rfl | rfl | rfl | rfl <;> omega
    by_cases h2 : (addr : Int) % s ≠ 0
    · rw [if_pos h2]
      unfold placeE
      rw [checkN_align hs (by rw [e1]; exact h2)]; rfl
    · rw [if_neg h2]
      have h2' := Classical.not_not.1 h2
      have e2 : checkN 4096 ((addr % 4096 : Nat) : Int) s = 0 := checkN_ok hs (by rw [e1]; exact h2') (by rcases hs with rfl | rfl | rfl | rfl <;> omega)
      unfold placeE
      rw [e2, if_neg (by simp)]
      by_cases h3 : n * 4096 ≤ addr
      · rw [if_pos h3, if_pos (by omega)]
      · rw [if_neg h3, if_neg (by omega)]
  · rw [if_pos hs]
    unfold placeE
    rw [checkN_arg hs]; rfl
end
end Go.Proofs.Ytnmccihgiphmjaa
namespace Go.Proofs.Ytnmccihgiphmjaa
set_option linter.unusedVariables false
set_option linter.unusedSimpArgs false
open Go.RowKit
section
variable {w x y : World} {q c n ops : Nat} {ad : Option Addr} {L : List (Nat × Nat)}
end
end Go.Proofs.Ytnmccihgiphmjaa
namespace Go.Proofs.Ytnmccihgiphmjaa
set_option linter.unusedVariables false
set_option linter.unusedSimpArgs false
open Go.RowKit
end Go.Proofs.Ytnmccihgiphmjaa
namespace Go.Proofs.Ytnmccihgiphmjaa
set_option linter.unusedVariables false
set_option linter.unusedSimpArgs false
open Go.RowKit
section
variable {w x y : World} {q c n ops : Nat} {ad : Option Addr} {L : List (Nat × Nat)}
end
end Go.Proofs.Ytnmccihgiphmjaa
namespace Go.Proofs.Ytnmccihgiphmjaa
set_option linter.unusedVariables false
set_option linter.unusedSimpArgs false
open Go.RowKit
section
variable {w x y : World} {q c n ops : Nat} {ad : Option Addr} {L : List (Nat × Nat)}
end
end Go.Proofs.Ytnmccihgiphmjaa
namespace Go.Proofs.Ytnmccihgiphmjaa
set_option linter.unusedVariables false
set_option linter.unusedSimpArgs false
open Go.RowKit
section
variable {w x y : World} {q c n ops : Nat} {ad : Option Addr} {L : List (Nat × Nat)}
end
end Go.Proofs.Ytnmccihgiphmjaa
namespace Go.Proofs.Ytnmccihgiphmjaa
set_option linter.unusedVariables false
set_option linter.unusedSimpArgs false
open Go.RowKit
section
variable {P : Program} {ops : Array Oper} {Q : Exit → Act → World → Prop}
section
variable {S : (Nat → Value) → Array Bool → World → Prop}
end
end
end Go.Proofs.Ytnmccihgiphmjaa
namespace Go.Proofs.Ytnmccihgiphmjaa
set_option linter.unusedVariables false
set_option linter.unusedSimpArgs false
open Go.RowKit
section
variable {P : Program} {ops : Array Oper} {S : (Nat → Value) → Array Bool → World → Prop}
end
end Go.Proofs.Ytnmccihgiphmjaa
namespace Go.Proofs.Ytnmccihgiphmjaa
set_option linter.unusedVariables false
set_option linter.unusedSimpArgs false
open Go.RowKit
section
variable {X : Nat → Prop} {p frames ops : Nat} {pg : Int → Option (List Nat)} {w : World}
theorem zero_ok2 (h : IsMem w X p frames pg ops) (k : Int) (hk : hasB frames k = true) : Calls Try.prog 35 #[.pointer (some ⟨p, 0, none⟩), .int .i64 k] w (RetMem w X p frames (.int .i64 0) (updP pg k none) ops) := by
  have hh := has_calls h k
  rw [hk] at hh
  have H := Lib.hid h
  clear h hk
  go_enter Try.func35, Try.ntmps35
  go_wp2_with fail
  (with_reducible refine hh.mono ?_)
  rintro e w1 ⟨rfl, hb1⟩
  obtain ⟨m, c1, w2, hdel, hm2, hO2⟩ := mem_zero (mem_old H.out hb1) k
  have HF := Lib.hid (And.intro hm2 (((Only.of_below hb1).mono fun b _ f => f.elim).trans hO2 : Only (fun b => ¬ X b) w w2))
  clear hm2 hO2 hb1 hh
  go_wp2
  go_ret
  exact ⟨rfl, HF.out.1, HF.out.2⟩
/-- Is each byte 0? -/
def allZero (l : List Nat) : Bool := l.all (· == 0)
set_option maxRecDepth 100000 in
set_option maxHeartbeats 1000000 in
theorem clear_calls (h : IsMem w X p frames pg ops) (k : Int) : Calls Try.prog 28 #[.pointer (some ⟨p, 0, none⟩), .int .i64 k] w (RetB w (.bool (hasB frames k && allZero (pageOf pg k)))) := by
  have hh := has_calls h k
  have hl := pageOf_length h k
  cases hk : hasB frames k with
  | false =>
    rw [hk] at hh
    rw [Bool.false_and]
    clear h hk hl
    go_enter Try.func28, Try.ntmps28
    go_wp2_with fail
    (with_reducible refine hh.mono ?_)
    rintro e w1 ⟨rfl, hb1⟩
    go_wp2
    go_ret
    exact ⟨rfl, hb1⟩
  | true =>
    rw [hk] at hh
    rw [Bool.true_and]
    have H := Lib.hid h
    cases hp : pg k with
    | none =>
      have e : allZero (pageOf pg k) = true := by
        unfold pageOf allZero
        rw [hp]
        refine List.all_eq_true.2 (fun x hx => ?_)
        have : x = 0 := List.eq_of_mem_replicate hx
        rw [this]
        rfl
      rw [e]
      have HP := Lib.hid hp
      clear h hk hl e hp
      go_enter Try.func28, Try.ntmps28
      go_wp2_with fail
      (with_reducible refine hh.mono ?_)
      rintro e w1 ⟨rfl, hb1⟩
      obtain ⟨m, f, n, k1, k2, k3, k4, k5, k6, k7, k8⟩ := mem_old H.out hb1
      have c1 : w1.cell? ⟨p, 1, none⟩ = some (.map (some m)) := by rw [cell_of k1]; rfl
      have hlk := map_get_none (P := Try.prog) (t := 56) Try.underlying56 Try.underlying3 (zero_bytes w1) k3 (k7 k HP.out)
      clear k1 k2 k3 k4 k5 k6 k7 k8
      go_wp2
      go_loop [18] (fun i => i = .int .i64 0) (fun _ => 0)
      case atStart => rfl
      case round =>
      obtain rfl := hrel
      go_wp2
      go_ret
      exact ⟨rfl, hb1⟩
    | some l =>
      have hpl : pageOf pg k = l := by unfold pageOf; rw [hp]; rfl
      rw [hpl] at hl ⊢
      have HP := Lib.hid hp
      have HL := Lib.hid hl
      obtain ⟨B, hB⟩ : ∃ B, allZero l = B := ⟨_, rfl⟩
      rw [hB]
      have HB := Lib.hid hB
      clear h hk hl hp hpl hB
      go_enter Try.func28, Try.ntmps28
      go_wp2_with fail
      (with_reducible refine hh.mono ?_)
      rintro e w1 ⟨rfl, hb1⟩
      obtain ⟨m, f, n, k1, k2, k3, k4, k5, k6, k7, k8⟩ := mem_old H.out hb1
      obtain ⟨v, hv, g, c, rfl, b1, b2, b3, b4, b5⟩ := k8 k l HP.out
      have c1 : w1.cell? ⟨p, 1, none⟩ = some (.map (some m)) := by rw [cell_of k1]; rfl
      have hlk := map_get (P := Try.prog) (t := 56) Try.underlying56 Try.underlying3 k3 hv
      have HRow := Lib.hid b2
      clear k1 k2 k3 k4 k5 k6 k7 k8 hv b1 b2 b3 b4 b5
      go_wp2
      go_loop [18] (fun i => ∃ j : Nat, j ≤ 4096 ∧ i = .int .i64 j ∧ ∀ q : Nat, q < j → l[q]? = some 0) (fun i => (4096 - intOf i).toNat)
      case atStart => exact ⟨0, by omega, rfl, fun q hq => absurd hq (Nat.not_lt_zero _)⟩
      case round =>
      obtain ⟨j, hj, rfl, hz⟩ := hrel
      have HZ := Lib.hid hz
      clear hz
      by_cases hj2 : j < 4096
      · obtain ⟨x, hx⟩ : ∃ x, l[j]? = some x := ⟨_, List.getElem?_eq_getElem (by rw [HL.out]; exact hj2)⟩
        have cx := row_cell HRow.out hx
        have HX := Lib.hid hx
        clear hx
        by_cases hx0 : x = 0
        · subst hx0
          go_wp2
          go_round
          case rel => exact ⟨j + 1, by omega, by go_num, fun q hq => by
            by_cases e : q = j
            · rw [e]; exact HX.out
            · exact HZ.out q (by omega)⟩
          case measure => (simp [intOf]) <;> omega
        · have hb : ((x : Int) != 0) = true := by rw [bne_iff_ne]; omega
          have hB2 : B = false := by
            rw [← HB.out]
            unfold allZero
            rw [Bool.eq_false_iff]
            intro f
            have := List.all_eq_true.1 f x (List.mem_of_getElem? HX.out)
            simp at this
            exact hx0 this
          subst hB2
          clear hx0
          go_wp2
          go_ret
          exact ⟨rfl, hb1⟩
      · obtain rfl : j = 4096 := by omega
        have hB2 : B = true := by
          rw [← HB.out]
          unfold allZero
          rw [List.all_eq_true]
          intro x hx
          obtain ⟨q, hq⟩ := List.mem_iff_getElem?.1 hx
          have hq2 : q < 4096 := by
            have := (List.getElem?_eq_some_iff.1 hq).1
            rw [HL.out] at this
            exact this
          have := HZ.out q hq2
          rw [hq] at this
          simp at this
          simp [this]
        subst hB2
        go_wp2
        go_ret
        exact ⟨rfl, hb1⟩
end
end Go.Proofs.Ytnmccihgiphmjaa
namespace Go.Proofs.Ytnmccihgiphmjaa
set_option linter.unusedVariables false
set_option linter.unusedSimpArgs false
open Go.RowKit
section
variable {w x : World} {L : List (Nat × Nat)} {i : Nat} {v : Nat → Value} {l : Array Bool}
end
end Go.Proofs.Ytnmccihgiphmjaa
namespace Go.Proofs.Ytnmccihgiphmjaa
set_option linter.unusedVariables false
set_option linter.unusedSimpArgs false
open Go.RowKit
section
variable {w x y : World} {q c n ops : Nat} {ad : Option Addr} {L : List (Nat × Nat)}
end
end Go.Proofs.Ytnmccihgiphmjaa
namespace Go.Proofs.Ytnmccihgiphmjaa
set_option linter.unusedVariables false
set_option linter.unusedSimpArgs false
open Go.RowKit
section
variable {w x y : World} {X : Nat → Prop} {q n ops lim : Nat} {wd : Nat → Nat}
end
end Go.Proofs.Ytnmccihgiphmjaa
namespace Go.Proofs.Ytnmccihgiphmjaa
set_option linter.unusedVariables false
set_option linter.unusedSimpArgs false
open Go.RowKit
section
variable {w : World} {X : Nat → Prop} {q n ops lim : Nat} {wd : Nat → Nat}
end
end Go.Proofs.Ytnmccihgiphmjaa
namespace Go.Proofs.Ytnmccihgiphmjaa
set_option linter.unusedVariables false
set_option linter.unusedSimpArgs false
open Go.RowKit
section
variable {w : World} {X : Nat → Prop} {q n ops lim : Nat} {wd : Nat → Nat}
end
end Go.Proofs.Ytnmccihgiphmjaa
namespace Go.Proofs.Ytnmccihgiphmjaa
set_option linter.unusedVariables false
set_option linter.unusedSimpArgs false
open Go.RowKit
section
variable {w : World} {X : Nat → Prop} {q n ops lim c : Nat} {ad : Option Addr} {L : List (Nat × Nat)} {wd : Nat → Nat}
end
end Go.Proofs.Ytnmccihgiphmjaa
namespace Go.Proofs.Ytnmccihgiphmjaa
set_option linter.unusedVariables false
set_option linter.unusedSimpArgs false
open Go.RowKit
section
variable {w : World} {X : Nat → Prop} {q n ops lim c : Nat} {ad : Option Addr} {L : List (Nat × Nat)} {wd : Nat → Nat}
end
end Go.Proofs.Ytnmccihgiphmjaa
namespace Go.Proofs.Ytnmccihgiphmjaa
set_option linter.unusedVariables false
set_option linter.unusedSimpArgs false
open Go.RowKit
section
variable {w : World} {X : Nat → Prop} {q n ops lim : Nat} {wd : Nat → Nat}
end
end Go.Proofs.Ytnmccihgiphmjaa
namespace Go.Proofs.Ytnmccihgiphmjaa
set_option linter.unusedVariables false
set_option linter.unusedSimpArgs false
open Go.RowKit
/-- The program's memory. -/
def MemA (p n : Nat) (pg : Int → Option (List Nat)) (ops : Nat) : Asn := fun O w => IsMem w (fun b => ¬ O b) p n pg ops ∧ ∀ b, O b → b < w.heap.size
section
variable {w x y : World} {X Y O : Nat → Prop} {p q n ops lim : Nat} {pg : Int → Option (List Nat)} {wd : Nat → Nat}
theorem loc_mem (p n : Nat) (pg : Int → Option (List Nat)) (ops : Nat) : Loc (MemA p n pg ops) :=
  ⟨fun h hb => h.2 _ hb, fun h ho hG => ⟨mem_only h.1 ho (fun b hb => hG b (Classical.not_not.1 hb)), fun b hb => Nat.lt_of_lt_of_le (h.2 b hb) ho.size⟩⟩
/-- The bounded set of the blocks that are others'. -/
abbrev Oth (O : Nat → Prop) (w : World) : Nat → Prop := fun b => b < w.heap.size ∧ ¬ O b
abbrev Own (O : Nat → Prop) (w y : World) : Nat → Prop := fun b => b < y.heap.size ∧ (O b ∨ w.heap.size ≤ b)
theorem mem_oth (h : MemA p n pg ops O w) : IsMem w (Oth O w) p n pg ops := mem_more h.1 fun b hb => .inl hb.2
theorem own_out {b : Nat} (h : ¬ Own O w y b) : Oth O w b ∨ y.heap.size ≤ b := by
  by_cases hb : b < y.heap.size
  · by_cases ho : O b
    · exact absurd ⟨hb, .inl ho⟩ h
    · by_cases hw : w.heap.size ≤ b
      · exact absurd ⟨hb, .inr hw⟩ h
      · exact .inl ⟨by omega, ho⟩
  · exact .inr (by omega)
theorem turn_mem_at {f : FuncId} {args : Array Value} {v : Value} {pg1 : Int → Option (List Nat)} {ops1 : Nat}
    (h : ∀ X, IsMem w X p n pg ops → (∀ b, X b → b < w.heap.size) → Calls Try.prog f args w (RetMem w X p n v pg1 ops1)) (hA : MemA p n pg ops O w) :
    Calls Try.prog f args w (fun e y => e = .returned v ∧ ∃ O', MemA p n pg1 ops1 O' y ∧ (∀ b, O' b → O b ∨ w.heap.size ≤ b) ∧ Only O w y) := by
  refine (h (Oth O w) (mem_oth hA) (fun b hb => hb.1)).mono ?_
  rintro e y ⟨rfl, h1, h2⟩
  exact ⟨rfl, Own O w y, ⟨mem_more h1 fun b hb => own_out hb, fun b hb => hb.1⟩, fun b hb => hb.2, h2.mono fun b hb hn => by
    by_cases ho : O b
    · exact ho
    · exact absurd ⟨hb, ho⟩ hn⟩
theorem turn_mem {f : FuncId} {args : Array Value} {v : Value} {pg1 : Int → Option (List Nat)} {ops1 : Nat}
    (h : ∀ w X, IsMem w X p n pg ops → (∀ b, X b → b < w.heap.size) → Calls Try.prog f args w (RetMem w X p n v pg1 ops1)) : Turns Try.prog f args (MemA p n pg ops) v (MemA p n pg1 ops1) :=
  fun _ w hA => turn_mem_at (h w) hA
/-! The bytes behind each step. -/
end
end Go.Proofs.Ytnmccihgiphmjaa
namespace Go.Proofs.Ytnmccihgiphmjaa
set_option linter.unusedVariables false
set_option linter.unusedSimpArgs false
open Go.RowKit
/-- A buddy by the set of its free frames. -/
def BudT (b first en : Nat) (S : Nat → Bool) : Asn := BudA b first en (cntS S en) (runsF S en)
theorem loc_budT (b first en : Nat) (S : Nat → Bool) : Loc (BudT b first en S) := loc_bud ..
/-- A map of counts. -/
def cntF (C : Int → Nat) : Int → Option Value := fun k => if C k = 0 then none else some (.int .i64 (C k : Nat))
def CntA (m : Nat) (C : Int → Nat) : Asn := fun O w => (∀ b, O b ↔ b = m) ∧ ∃ n, IsMap w m (cntF C) n
theorem loc_cnt (m : Nat) (C : Int → Nat) : Loc (CntA m C) :=
  ⟨fun ⟨h1, n, h2⟩ hb => by rw [(h1 _).1 hb]; exact isMap_lt h2, fun ⟨h1, n, h2⟩ ho hG => ⟨h1, n, isMap_only h2 ho (hG m ((h1 m).2 rfl))⟩⟩
/-- The struct's cells. -/
def frCells (p pool bt bp m : Nat) : Array Value := #[.pointer (some ⟨p, 0, none⟩), .int .i64 (pool : Nat), .pointer (some ⟨bt, 0, none⟩), .pointer (some ⟨bp, 0, none⟩), .map (some m)]
/-- All that the frames hold. -/
def frL (fr p bt bp m n pool : Nat) (pg : Int → Option (List Nat)) (ops : Nat) (St Sp : Nat → Bool) (C : Int → Nat) : List Asn :=
  [Pts fr (frCells p pool bt bp m) 65, MemA p n pg ops, BudT bt 0 pool St, BudT bp pool n Sp, CntA m C]
theorem locs_fr {fr p bt bp m n pool : Nat} {pg : Int → Option (List Nat)} {ops : Nat} {St Sp : Nat → Bool} {C : Int → Nat} : Locs (frL fr p bt bp m n pool pg ops St Sp C) :=
  locs_cons (loc_pts ..) (locs_cons (loc_mem ..) (locs_cons (loc_budT ..) (locs_cons (loc_budT ..) (locs_cons (loc_cnt ..) locs_nil))))
section
variable {w x y : World} {O : Nat → Prop} {m : Nat} {C : Int → Nat}
theorem cnt_lookup (h : CntA m C O w) (k : Int) : (Instr.lookup 63 (.map (some m)) (.int .i64 k) false).run Try.prog w = .ok (.int .i64 (C k : Nat)) w := by
  obtain ⟨-, n, h2⟩ := h
  by_cases hk : C k = 0
  · have h3 : cntF C k = none := if_pos hk
    rw [hk]
    exact map_get_none (P := Try.prog) (t := 63) (z := .int .i64 0) Try.underlying63 Try.underlying3 (by kernel_rfl) h2 h3
  · have h3 : cntF C k = some (.int .i64 (C k : Nat)) := if_neg hk
    exact map_get (P := Try.prog) (t := 63) Try.underlying63 Try.underlying3 h2 h3
end
end Go.Proofs.Ytnmccihgiphmjaa
namespace Go.Proofs.Ytnmccihgiphmjaa
set_option linter.unusedVariables false
set_option linter.unusedSimpArgs false
open Go.RowKit
def updC (C : Int → Nat) (k : Int) (v : Nat) : Int → Nat := fun j => if j = k then v else C j
theorem cntF_upd (C : Int → Nat) (k : Int) (v : Nat) : cntF (updC C k v) = updF (cntF C) k (if v = 0 then none else some (.int .i64 (v : Nat))) := by
  funext j
  unfold cntF updC updF
  by_cases h : j = k
  · simp only [if_pos h]
  · simp only [if_neg h]
section
variable {w x y : World} {O : Nat → Prop} {m : Nat} {C : Int → Nat}
theorem cnt_put (h : CntA m C O w) (k : Int) (v : Nat) (hv : v ≠ 0) : ∃ w', (Instr.mapUpdate 63 (.map (some m)) (.int .i64 k) (.int .i64 (v : Nat))).run Try.prog w = .ok () w' ∧ CntA m (updC C k v) O w' ∧ Only O w w' := by
  obtain ⟨h1, n, h2⟩ := h
  obtain ⟨w', p1, p2, p3⟩ := map_put (P := Try.prog) (t := 63) Try.underlying63 Try.underlying3 h2 k (.int .i64 (v : Nat))
  obtain ⟨n2, hn2⟩ : ∃ n2, IsMap w' m (updF (cntF C) k (some (.int .i64 (v : Nat)))) n2 := ⟨_, p2⟩
  exact ⟨w', p1, ⟨h1, n2, by rw [cntF_upd, if_neg hv]; exact hn2⟩, p3.mono fun b _ e => by rw [e]; exact (h1 m).2 rfl⟩
theorem cnt_del (h : CntA m C O w) (k : Int) (hk : C k ≠ 0) : ∃ w', (∀ t2 ty : TypeId, (Builtin.delete_ #[63, t2] ty #[.map (some m), .int .i64 k]).run Try.prog w = .ok (.tuple #[]) w') ∧ CntA m (updC C k 0) O w' ∧ Only O w w' := by
  obtain ⟨h1, n, h2⟩ := h
  obtain ⟨w', p1, p2, p3, p4⟩ := map_del (P := Try.prog) (t := 63) Try.underlying63 Try.underlying3 h2 k (.int .i64 (C k : Nat)) (if_neg hk)
  obtain ⟨n2, hn2⟩ : ∃ n2, IsMap w' m (updF (cntF C) k none) n2 := ⟨_, p2⟩
  exact ⟨w', p1, ⟨h1, n2, by rw [cntF_upd, if_pos rfl]; exact hn2⟩, p4.mono fun b _ e => by rw [e]; exact (h1 m).2 rfl⟩
end
section
variable {w x y : World} {O : Nat → Prop} {fr p bt bp m n pool ops : Nat} {pg : Int → Option (List Nat)} {St Sp : Nat → Bool} {C : Int → Nat}
theorem fr_cells (E : Ev w O (frL fr p bt bp m n pool pg ops St Sp C) x) : x.cell? ⟨fr, 0, none⟩ = some (.pointer (some ⟨p, 0, none⟩)) ∧ x.cell? ⟨fr, 1, none⟩ = some (.int .i64 (pool : Nat)) ∧ x.cell? ⟨fr, 2, none⟩ = some (.pointer (some ⟨bt, 0, none⟩)) ∧ x.cell? ⟨fr, 3, none⟩ = some (.pointer (some ⟨bp, 0, none⟩)) ∧ x.cell? ⟨fr, 4, none⟩ = some (.map (some m)) := by
  have k1 := cell_of (ev_pts E (i := 0) rfl)
  exact ⟨k1 0, k1 1, k1 2, k1 3, k1 4⟩
set_option maxHeartbeats 4000000 in
set_option maxRecDepth 100000 in
theorem frCount_calls (h : SepL (frL fr p bt bp m n pool pg ops St Sp C) O w) (k : Int) : Calls Try.prog 16 #[.pointer (some ⟨fr, 0, none⟩), .int .i64 k] w (RetB w (.int .i64 (C k : Nat))) := by
  have E := ev_start locs_fr h
  obtain ⟨c0, c1, c2, c3, c4⟩ := fr_cells E
  obtain ⟨Om, hm⟩ := ev_get E (i := 4) rfl
  have hlk := cnt_lookup hm k
  clear h E hm
  go_enter Try.func16, Try.ntmps16
  go_wp2
  go_ret
  exact ⟨rfl, old_refl _⟩
set_option maxHeartbeats 4000000 in
set_option maxRecDepth 100000 in
theorem frRef_none (h : SepL (frL fr p bt bp m n pool pg ops St Sp C) O w) (k : Int) (hk : C k = 0 ∨ C k = 1073741824) : Calls Try.prog 14 #[.pointer (some ⟨fr, 0, none⟩), .int .i64 k] w (RetB w (.tuple #[.int .i64 0, .int .i64 20])) := by
  have E := ev_start locs_fr h
  obtain ⟨c0, c1, c2, c3, c4⟩ := fr_cells E
  obtain ⟨Om, hm⟩ := ev_get E (i := 4) rfl
  have hlk := cnt_lookup hm k
  rcases hk with hk | hk
  · rw [hk] at hlk
    clear h E hm hk
    go_enter Try.func14, Try.ntmps14
    go_wp2
    go_ret2
    exact ⟨rfl, old_refl _⟩
  · rw [hk] at hlk
    clear h E hm hk
    go_enter Try.func14, Try.ntmps14
    go_wp2
    go_ret2
    exact ⟨rfl, old_refl _⟩
set_option maxHeartbeats 4000000 in
set_option maxRecDepth 100000 in
theorem frRef_calls (k : Int) (hk : C k ≠ 0) (hk2 : C k < 1073741824) : Turns Try.prog 14 #[.pointer (some ⟨fr, 0, none⟩), .int .i64 k] (SepL (frL fr p bt bp m n pool pg ops St Sp C)) (.tuple #[.int .i64 ((C k + 1 : Nat) : Int), .int .i64 0]) (SepL (frL fr p bt bp m n pool pg ops St Sp (updC C k (C k + 1)))) := by
  intro O w h
  have E := ev_start locs_fr h
  obtain ⟨c0, c1, c2, c3, c4⟩ := fr_cells E
  obtain ⟨Om, hm, ht⟩ := ev_turn E (i := 4) rfl
  have hlk := cnt_lookup hm k
  obtain ⟨w2, hput, hm2, ho2⟩ := cnt_put hm k (C k + 1) (by omega)
  have E2 : Ev w O (frL fr p bt bp m n pool pg ops St Sp (updC C k (C k + 1))) w2 := ht _ Om w2 (loc_cnt ..) hm2 (fun b hb => .inl hb) ho2
  obtain ⟨d0, d1, d2, d3, d4⟩ := fr_cells E2
  have hlk2 := cnt_lookup hm2 k
  have e2 : updC C k (C k + 1) k = C k + 1 := if_pos rfl
  rw [e2] at hlk2
  have HE := Lib.hid E2
  generalize C k = c at *
  have hc0 : ((c : Int) == 0) = false := by rw [beq_eq_false_iff_ne]; omega
  have hc1 : ((c : Int) == 1073741824) = false := by rw [beq_eq_false_iff_ne]; omega
  have hcb : (c : Int) < 1073741824 := by omega
  have hput' : (Instr.mapUpdate 63 (.map (some m)) (.int .i64 k) (.int .i64 ((c : Int) + 1))).run Try.prog w = .ok () w2 := hput
  clear h E hm ht hm2 ho2 E2 hk hk2 e2 hput
  go_enter Try.func14, Try.ntmps14
  go_wp2
  go_ret2
  exact ev_end (by simp) HE.out
set_option maxHeartbeats 4000000 in
set_option maxRecDepth 100000 in
theorem frDrop_none (h : SepL (frL fr p bt bp m n pool pg ops St Sp C) O w) (k : Int) (hk : C k = 0) : Calls Try.prog 15 #[.pointer (some ⟨fr, 0, none⟩), .int .i64 k] w (RetB w (.tuple #[.int .i64 0, .int .i64 20])) := by
  have E := ev_start locs_fr h
  obtain ⟨c0, c1, c2, c3, c4⟩ := fr_cells E
  obtain ⟨Om, hm⟩ := ev_get E (i := 4) rfl
  have hlk := cnt_lookup hm k
  rw [hk] at hlk
  clear h E hm hk
  go_enter Try.func15, Try.ntmps15
  go_wp2
  go_ret2
  exact ⟨rfl, old_refl _⟩
set_option maxHeartbeats 4000000 in
set_option maxRecDepth 100000 in
theorem frDrop_less (k : Int) (hk : 2 ≤ C k) (hk2 : C k ≤ 1073741824) : Turns Try.prog 15 #[.pointer (some ⟨fr, 0, none⟩), .int .i64 k] (SepL (frL fr p bt bp m n pool pg ops St Sp C)) (.tuple #[.int .i64 ((C k - 1 : Nat) : Int), .int .i64 0]) (SepL (frL fr p bt bp m n pool pg ops St Sp (updC C k (C k - 1)))) := by
  intro O w h
  have E := ev_start locs_fr h
  obtain ⟨c0, c1, c2, c3, c4⟩ := fr_cells E
  obtain ⟨Om, hm, ht⟩ := ev_turn E (i := 4) rfl
  have hlk := cnt_lookup hm k
  obtain ⟨w2, hput, hm2, ho2⟩ := cnt_put hm k (C k - 1) (by omega)
  have E2 : Ev w O (frL fr p bt bp m n pool pg ops St Sp (updC C k (C k - 1))) w2 := ht _ Om w2 (loc_cnt ..) hm2 (fun b hb => .inl hb) ho2
  have HE := Lib.hid E2
  obtain ⟨c, hc⟩ : ∃ c, C k = c + 2 := ⟨C k - 2, by omega⟩
  rw [hc] at hlk hput hk2 ⊢
  rw [hc] at HE
  have hc0 : (((c + 2 : Nat) : Int) == 0) = false := by rw [beq_eq_false_iff_ne]; omega
  have hc1 : (((c + 2 : Nat) : Int) == 1) = false := by rw [beq_eq_false_iff_ne]; omega
  have hcb : ((c + 2 : Nat) : Int) ≤ 1073741824 := by omega
  have hd1 : ((c + 2 - 1 : Nat) : Int) = ((c + 2 : Nat) : Int) - 1 := by omega
  rw [hd1] at hput ⊢
  generalize c + 2 = d at *
  clear h E hm ht hm2 ho2 E2 hk hk2 hc hd1
  go_enter Try.func15, Try.ntmps15
  go_wp2
  go_ret2
  exact ev_end rfl HE.out
end
end Go.Proofs.Ytnmccihgiphmjaa
namespace Go.Proofs.Ytnmccihgiphmjaa
set_option linter.unusedVariables false
set_option linter.unusedSimpArgs false
open Go.RowKit
theorem hasB_lt {n f : Nat} (h : f < n) : hasB n (f : Int) = true := by unfold hasB; simp; omega
section
variable {w x y : World} {O : Nat → Prop} {fr p bt bp m n pool ops b first en : Nat} {pg : Int → Option (List Nat)} {S St Sp : Nat → Bool} {C : Int → Nat}
theorem turn_give (f : Nat) (hS : ∀ x, S x = true → first ≤ x ∧ x < en) (hf : first ≤ f ∧ f < en) (hno : S f = false) :
    Turns Try.prog 36 #[.pointer (some ⟨b, 0, none⟩), .int .i64 (f : Nat), .int .i64 0] (BudT b first en S) (.int .i64 0) (BudT b first en (moreS S f 1)) := by
  intro O w h
  refine (budGive_calls h hS f hf hno).mono ?_
  rintro e y ⟨rfl, O', h1, h2, h3⟩
  exact ⟨rfl, O', h1, h2, h3⟩
set_option maxHeartbeats 4000000 in
set_option maxRecDepth 100000 in
theorem frDrop_p (f : Nat) (hf : pool ≤ f ∧ f < n) (hpn : pool ≤ n) (hk : C (f : Int) = 1) (hS : ∀ x, Sp x = true → pool ≤ x ∧ x < n) (hno : Sp f = false) :
    Turns Try.prog 15 #[.pointer (some ⟨fr, 0, none⟩), .int .i64 (f : Nat)] (SepL (frL fr p bt bp m n pool pg ops St Sp C)) (.tuple #[.int .i64 0, .int .i64 0]) (SepL (frL fr p bt bp m n pool (updP pg (f : Int) none) ops St (moreS Sp f 1) (updC C (f : Int) 0))) := by
  intro O w h
  have E := ev_start locs_fr h
  obtain ⟨c0, c1, c2, c3, c4⟩ := fr_cells E
  obtain ⟨Om, hm, ht⟩ := ev_turn E (i := 4) rfl
  have hlk := cnt_lookup hm (f : Int)
  rw [hk] at hlk
  obtain ⟨w2, hdel, hm2, ho2⟩ := cnt_del hm (f : Int) (by rw [hk]; decide)
  have E2 : Ev w O (frL fr p bt bp m n pool pg ops St Sp (updC C (f : Int) 0)) w2 := ht _ Om w2 (loc_cnt ..) hm2 (fun b hb => .inl hb) ho2
  obtain ⟨d0, d1, d2, d3, d4⟩ := fr_cells E2
  have hz := ev_call (turn_mem fun w X h _ => zero_ok2 h (f : Int) (hasB_lt (by omega))) (loc_mem ..) E2 (i := 1) rfl
  have hg := fun y (hy : Ev w O (frL fr p bt bp m n pool (updP pg (f : Int) none) ops St Sp (updC C (f : Int) 0)) y) => ev_call (turn_give f hS (by omega) hno) (loc_budT ..) hy (i := 3) rfl
  have HG := Lib.hid hg
  have e1 : ¬ (f : Int) < pool := by omega
  have e1n : decide (f < pool) = false := decide_eq_false (by omega)
  have hpb : (pool : Int) ≤ 1048576 := by
    obtain ⟨Ob, hb⟩ := ev_get E2 (i := 3) rfl
    have := budS_bnd hb; omega
  clear h E hm ht hm2 ho2 E2 hk hg hS hno hf hpn
  go_enter Try.func15, Try.ntmps15
  go_wp2_with fail
  (with_reducible refine hz.mono ?_)
  rintro e y1 ⟨rfl, E3⟩
  have hc := HG.out y1 E3
  clear hz c0 c1 c2 c3 c4 d0 d1 d2 d3 d4 hlk hdel HG
  obtain ⟨c0, c1, c2, c3, c4⟩ := fr_cells E3
  clear E3
  go_wp2_with fail
  (with_reducible refine hc.mono ?_)
  rintro e y2 ⟨rfl, E4⟩
  have HE := Lib.hid E4
  clear hc E4 c0 c1 c2 c3 c4
  go_wp2
  go_ret2
  exact ev_end rfl HE.out
set_option maxHeartbeats 4000000 in
set_option maxRecDepth 100000 in
theorem frFree_calls (h : SepL (frL fr p bt bp m n pool pg ops St Sp C) O w) : Calls Try.prog 11 #[.pointer (some ⟨fr, 0, none⟩)] w (RetB w (.tuple #[.int .i64 (cntS Sp n : Nat), .int .i64 (cntS St pool : Nat)])) := by
  have E := ev_start locs_fr h
  have E0 := ev_then E (old_drew (old_refl w))
  have H0 := Lib.hid E0
  have H1 := Lib.hid (fun y (hy : Old w.drew y) => by
    obtain ⟨O1, h1⟩ := ev_get (ev_then E0 hy) (i := 3) rfl
    obtain ⟨ad, cp, hB⟩ := h1
    exact budFree_calls hB : ∀ y, Old w.drew y → Calls Try.prog 33 #[.pointer (some ⟨bp, 0, none⟩)] y (RetB y (.int .i64 (cntS Sp n : Nat))))
  have H2 := Lib.hid (fun y (hy : Old w.drew y) => by
    obtain ⟨O1, h1⟩ := ev_get (ev_then E0 hy) (i := 2) rfl
    obtain ⟨ad, cp, hB⟩ := h1
    exact budFree_calls hB : ∀ y, Old w.drew y → Calls Try.prog 33 #[.pointer (some ⟨bt, 0, none⟩)] y (RetB y (.int .i64 (cntS St pool : Nat))))
  clear h E E0
  generalize cntS Sp n = a at *
  generalize cntS St pool = b at *
  go_enter Try.func11, Try.ntmps11
  go_wp2_with fail
  refine wp_region_walked (S := Old w.drew) (by kernel_rfl) (by kernel_rfl) (old_refl _) ?_
  apply walked_cons
  · intro wS hS
    have HS := Lib.hid hS
    obtain ⟨c0, c1, c2, c3, c4⟩ := fr_cells (ev_then H0.out hS)
    clear hS
    go_wp2
    exact ⟨rfl, rfl, HS.out⟩
  · rfl
  (try simp only [Act.put, List.setIfInBounds_toArray, List.set_cons_succ, List.set_cons_zero])
  apply walked_cons
  · intro wS hS
    have HS := Lib.hid hS
    obtain ⟨c0, c1, c2, c3, c4⟩ := fr_cells (ev_then H0.out hS)
    clear hS
    go_wp2
    exact ⟨rfl, rfl, HS.out⟩
  · rfl
  (try simp only [Act.put, List.setIfInBounds_toArray, List.set_cons_succ, List.set_cons_zero])
  apply walked_cons
  · intro wS hS
    have HS := Lib.hid hS
    obtain ⟨c0, c1, c2, c3, c4⟩ := fr_cells (ev_then H0.out hS)
    clear hS
    go_wp2
    exact ⟨rfl, rfl, HS.out⟩
  · rfl
  (try simp only [Act.put, List.setIfInBounds_toArray, List.set_cons_succ, List.set_cons_zero])
  apply walked_cons
  · intro wS hS
    have HS := Lib.hid hS
    obtain ⟨c0, c1, c2, c3, c4⟩ := fr_cells (ev_then H0.out hS)
    clear hS
    go_wp2
    exact ⟨rfl, rfl, HS.out⟩
  · rfl
  (try simp only [Act.put, List.setIfInBounds_toArray, List.set_cons_succ, List.set_cons_zero])
  apply walked_cons
  · intro wS hS
    have hc := H1.out wS hS
    have HS := Lib.hid hS
    clear hS
    go_wp2_with fail
    (with_reducible refine hc.mono ?_)
    rintro e y9 ⟨rfl, hY⟩
    have HY := Lib.hid (old_then HS.out hY)
    clear hc hY HS
    go_wp2
    exact ⟨rfl, rfl, HY.out⟩
  · rfl
  (try simp only [Act.put, List.setIfInBounds_toArray, List.set_cons_succ, List.set_cons_zero])
  apply walked_cons
  · intro wS hS
    have HS := Lib.hid hS
    obtain ⟨c0, c1, c2, c3, c4⟩ := fr_cells (ev_then H0.out hS)
    clear hS
    go_wp2
    exact ⟨rfl, rfl, HS.out⟩
  · rfl
  (try simp only [Act.put, List.setIfInBounds_toArray, List.set_cons_succ, List.set_cons_zero])
  apply walked_cons
  · intro wS hS
    have HS := Lib.hid hS
    obtain ⟨c0, c1, c2, c3, c4⟩ := fr_cells (ev_then H0.out hS)
    clear hS
    go_wp2
    exact ⟨rfl, rfl, HS.out⟩
  · rfl
  (try simp only [Act.put, List.setIfInBounds_toArray, List.set_cons_succ, List.set_cons_zero])
  apply walked_cons
  · intro wS hS
    have HS := Lib.hid hS
    obtain ⟨c0, c1, c2, c3, c4⟩ := fr_cells (ev_then H0.out hS)
    clear hS
    go_wp2
    exact ⟨rfl, rfl, HS.out⟩
  · rfl
  (try simp only [Act.put, List.setIfInBounds_toArray, List.set_cons_succ, List.set_cons_zero])
  apply walked_cons
  · intro wS hS
    have HS := Lib.hid hS
    obtain ⟨c0, c1, c2, c3, c4⟩ := fr_cells (ev_then H0.out hS)
    clear hS
    go_wp2
    exact ⟨rfl, rfl, HS.out⟩
  · rfl
  (try simp only [Act.put, List.setIfInBounds_toArray, List.set_cons_succ, List.set_cons_zero])
  apply walked_cons
  · intro wS hS
    have hc := H2.out wS hS
    have HS := Lib.hid hS
    clear hS
    go_wp2_with fail
    (with_reducible refine hc.mono ?_)
    rintro e y9 ⟨rfl, hY⟩
    have HY := Lib.hid (old_then HS.out hY)
    clear hc hY HS
    go_wp2
    exact ⟨rfl, rfl, HY.out⟩
  · rfl
  (try simp only [Act.put, List.setIfInBounds_toArray, List.set_cons_succ, List.set_cons_zero])
  apply walked_cons
  · intro wS hS
    have HS := Lib.hid hS
    obtain ⟨c0, c1, c2, c3, c4⟩ := fr_cells (ev_then H0.out hS)
    clear hS
    go_wp2
    exact ⟨rfl, rfl, HS.out⟩
  · rfl
  (try simp only [Act.put, List.setIfInBounds_toArray, List.set_cons_succ, List.set_cons_zero])
  apply walked_cons
  · intro wS hS
    have HS := Lib.hid hS
    obtain ⟨c0, c1, c2, c3, c4⟩ := fr_cells (ev_then H0.out hS)
    clear hS
    go_wp2
    exact ⟨rfl, rfl, HS.out⟩
  · rfl
  (try simp only [Act.put, List.setIfInBounds_toArray, List.set_cons_succ, List.set_cons_zero])
  apply walked_nil
  intro wS hS
  have HS := Lib.hid hS
  clear hS H0 H1 H2
  go_wp2
  go_ret2
  exact ⟨rfl, old_then (old_drew (old_refl w)) HS.out⟩
end
end Go.Proofs.Ytnmccihgiphmjaa
namespace Go.Proofs.Ytnmccihgiphmjaa
set_option linter.unusedVariables false
set_option linter.unusedSimpArgs false
open Go.RowKit
/-- Frames from f on without bytes. -/
def pgZ (pg : Int → Option (List Nat)) (f j : Nat) : Int → Option (List Nat) := fun k => if (f : Int) ≤ k ∧ k < (f : Int) + (j : Int) then none else pg k
def cntZ (C : Int → Nat) (f j : Nat) : Int → Nat := fun k => if (f : Int) ≤ k ∧ k < (f : Int) + (j : Int) then 1 else C k
theorem pgZ_zero (pg : Int → Option (List Nat)) (f : Nat) : pgZ pg f 0 = pg := by funext k; unfold pgZ; rw [if_neg (by omega)]
theorem cntZ_zero (C : Int → Nat) (f : Nat) : cntZ C f 0 = C := by funext k; unfold cntZ; rw [if_neg (by omega)]
theorem pgZ_step (pg : Int → Option (List Nat)) (f j : Nat) : updP (pgZ pg f j) ((f + j : Nat) : Int) none = pgZ pg f (j + 1) := by
  funext k
  unfold updP pgZ
  by_cases h : k = ((f + j : Nat) : Int)
  · rw [if_pos h, if_pos (by omega)]
  · rw [if_neg h]
    by_cases h2 : (f : Int) ≤ k ∧ k < (f : Int) + (j : Int)
    · rw [if_pos h2, if_pos (by omega)]
    · rw [if_neg h2, if_neg (by omega)]
theorem cntZ_step (C : Int → Nat) (f j : Nat) : updC (cntZ C f j) ((f + j : Nat) : Int) 1 = cntZ C f (j + 1) := by
  funext k
  unfold updC cntZ
  by_cases h : k = ((f + j : Nat) : Int)
  · rw [if_pos h, if_pos (by omega)]
  · rw [if_neg h]
    by_cases h2 : (f : Int) ≤ k ∧ k < (f : Int) + (j : Int)
    · rw [if_pos h2, if_pos (by omega)]
    · rw [if_neg h2, if_neg (by omega)]
section
variable {w x y : World} {O : Nat → Prop} {fr p bt bp m n pool ops b first en : Nat} {pg : Int → Option (List Nat)} {S St Sp : Nat → Bool} {C : Int → Nat}
theorem turn_take (hS : ∀ x, S x = true → first ≤ x ∧ x < en) (order : Nat) (ho : order ≤ 9) {k f : Nat} (hf : Finds S en order k f) :
    Turns Try.prog 49 #[.pointer (some ⟨b, 0, none⟩), .int .i64 (order : Nat)] (BudT b first en S) (.tuple #[.int .i64 (f : Nat), .int .i64 0]) (BudT b first en (lessS S f (2 ^ order))) := by
  intro O w h
  refine (budTake_calls h hS order ho hf).mono ?_
  rintro e y ⟨rfl, O', h1, h2, h3⟩
  exact ⟨rfl, O', h1, h2, h3⟩
set_option maxHeartbeats 4000000 in
set_option maxRecDepth 100000 in
theorem budTake_none (h : BudT b first en S O w) (order : Nat) (ho : order ≤ 9) (hf : ∀ k, order ≤ k → k ≤ 9 → runsL S en k = []) :
    Calls Try.prog 49 #[.pointer (some ⟨b, 0, none⟩), .int .i64 (order : Nat)] w (RetB w (.tuple #[.int .i64 0, .int .i64 10])) := by
  obtain ⟨ad, cp, hW⟩ := h
  have HW := Lib.hid hW
  have HF := Lib.hid (And.intro hf ho)
  have o0 : ¬ (order : Int) < 0 := by omega
  have o9 : (order : Int) ≤ 9 := by omega
  clear hW hf ho
  go_enter Try.func49, Try.ntmps49
  go_wp2
  refine wp_scope_labels (fun _ _ _ _ => False) ?_ (fun _ _ _ _ h => h.elim)
  go_wp2
  refine wp_loopF [false, false, false, false, false, false, true, false, false, false, false, false, false, false, false, true, true, true, true, true, true, true, true, true, true, true, true, true, true] (fun f2 wx => ∃ i : Nat, order ≤ i ∧ i ≤ 10 ∧ f2 6 = .int .i64 (i : Nat) ∧ w = wx) (fun f2 => 10 - (intOf (f2 6)).toNat) ?start1 ?round1
  case start1 => exact ⟨order, Nat.le_refl _, by have := HF.out.2; omega, rfl, rfl⟩
  case round1 =>
    intro f2 wr hrel J2 K2 hJ2 hM2
    dsimp only [mergeA, mergeL, Nat.reduceAdd]
    obtain ⟨i, hi1, hi2, h6, rfl⟩ := hrel
    rw [h6]
    have H6 := Lib.hid h6
    clear h6
    by_cases hi10 : i = 10
    · subst hi10
      clear hi1 hi2
      go_wp2
      try simp only [toLabel]
      go_ret2
      exact ⟨rfl, old_refl _⟩
    · have hlt : i < 10 := by omega
      have hlti : (i : Int) < 10 := by omega
      have hcell := bud_cell HW.out hlt
      rw [show runsF S en i = [] from HF.out.1 i hi1 (by omega), List.length_nil] at hcell
      have HI := Lib.hid (And.intro hi1 hlt)
      clear hi1 hi2 hi10 hlt
      go_wp2
      refine Met.intro (hJ2 _ _ (by kernel_rfl) ?_ ?_)
      · exact ⟨i + 1, by have := HI.out; omega, HI.out.2, by show Value.int .i64 ((i : Int) + 1) = _; simp, rfl⟩
      · have := HI.out.2
        rw [H6.out]; show 10 - (intOf (Value.int .i64 ((i : Int) + 1))).toNat < 10 - (intOf (Value.int .i64 (i : Int))).toNat
        simp [intOf]; omega
set_option maxHeartbeats 4000000 in
set_option maxRecDepth 100000 in
theorem frTake_t (hpn : pool ≤ n) (hS : ∀ x, St x = true → 0 ≤ x ∧ x < pool) (order : Nat) (ho : order ≤ 9) {k f : Nat} (hf : Finds St pool order k f) (err : Int) :
    Turns Try.prog 32 #[.pointer (some ⟨fr, 0, none⟩), .pointer (some ⟨bt, 0, none⟩), .int .i64 (order : Nat), .int .i64 err] (SepL (frL fr p bt bp m n pool pg ops St Sp C)) (.tuple #[.int .i64 (f : Nat), .int .i64 0]) (SepL (frL fr p bt bp m n pool (pgZ pg f (2 ^ order)) ops (lessS St f (2 ^ order)) Sp (cntZ C f (2 ^ order)))) := by
  intro O w h
  have E := ev_start locs_fr h
  have hc := ev_call (turn_take hS order ho hf) (loc_budT ..) E (i := 2) rfl
  have hfit := hf.fits (fun x hx => (hS x hx).2) hf.le
  have hpb : n ≤ 1048576 := by obtain ⟨Ob, hb⟩ := ev_get E (i := 3) rfl; exact (budS_bnd hb).2
  obtain ⟨T, hT, hw2, hT1, hT2⟩ := pow_ten (show order < 10 by omega)
  rw [hT] at hc hfit ⊢
  obtain ⟨S9, hS9⟩ : ∃ S9, lessS St f T = S9 := ⟨_, rfl⟩
  rw [hS9] at hc ⊢
  have HF := Lib.hid (show f + T ≤ n by omega)
  have o9 : (order : Int) ≤ 9 := by omega
  have ff : (f : Int) ≤ 1048576 := by omega
  have tt : (T : Int) ≤ 512 := by omega
  clear h E hS hf hfit hpn hS9 hpb ho
  go_enter Try.func32, Try.ntmps32
  go_wp2_with fail
  (with_reducible refine hc.mono ?_)
  rintro e y1 ⟨rfl, E1⟩
  have HE1 : Hid (Ev w O (frL fr p bt bp m n pool (pgZ pg f 0) ops S9 Sp (cntZ C f 0)) y1) := Lib.hid (by rw [pgZ_zero, cntZ_zero]; exact E1)
  clear hc E1
  go_wp2
  rw [hw2]
  refine wp_loopF [false, false, false, false, false, false, false, false, false, false, false, false, true, false, false, false, false, false, false, false, false, false, false, false, true, true, true, true, true, true, true, true, true, true, true, true, true, true, true, true, true, true, true] (fun f2 wx => ∃ j : Nat, j ≤ T ∧ f2 24 = .int .i64 (j : Nat) ∧ Ev w O (frL fr p bt bp m n pool (pgZ pg f j) ops S9 Sp (cntZ C f j)) wx) (fun f2 => T - (intOf (f2 24)).toNat) ?start1 ?round1
  case start1 => exact ⟨0, Nat.zero_le _, rfl, HE1.out⟩
  case round1 =>
    clear HE1
    intro f2 wr hrel J2 K2 hJ2 hM2
    dsimp only [mergeA, mergeL, Nat.reduceAdd]
    obtain ⟨j, hj, h24, hE⟩ := hrel
    rw [h24]
    have H24 := Lib.hid h24
    clear h24
    by_cases hjT : j = T
    · subst hjT
      have HE := Lib.hid hE
      clear hE hj
      go_wp2
      go_ret2
      exact ev_end rfl HE.out
    · have hlt : j < T := by omega
      have hlti : (j : Int) < T := by omega
      have hz := ev_call (turn_mem fun w X h _ => zero_ok2 h ((f + j : Nat) : Int) (hasB_lt (by have := HF.out; omega))) (loc_mem ..) hE (i := 1) rfl
      have hz' : Calls Try.prog 35 #[.pointer (some ⟨p, 0, none⟩), .int .i64 ((f : Int) + (j : Int))] wr (fun e y => e = .returned (.int .i64 0) ∧ Ev w O (frL fr p bt bp m n pool (pgZ pg f (j + 1)) ops S9 Sp (cntZ C f j)) y) := by
        have := hz
        rw [pgZ_step, Int.natCast_add] at this
        exact this
      obtain ⟨c0, c1, c2, c3, c4⟩ := fr_cells hE
      have HJ := Lib.hid hlt
      clear hE hz hj hjT hlt
      go_wp2_with fail
      (with_reducible refine hz'.mono ?_)
      rintro e y2 ⟨rfl, E2⟩
      clear hz' c0 c1 c2 c3 c4
      obtain ⟨c0, c1, c2, c3, c4⟩ := fr_cells E2
      obtain ⟨Om, hm, ht⟩ := ev_turn E2 (i := 4) rfl
      obtain ⟨w3, hput, hm2, ho2⟩ := cnt_put hm ((f + j : Nat) : Int) 1 (by decide)
      have E3 : Ev w O (frL fr p bt bp m n pool (pgZ pg f (j + 1)) ops S9 Sp (cntZ C f (j + 1))) w3 := by
        rw [← cntZ_step]
        exact ht _ Om w3 (loc_cnt ..) hm2 (fun b hb => .inl hb) ho2
      have hput' : (Instr.mapUpdate 63 (.map (some m)) (.int .i64 ((f : Int) + (j : Int))) (.int .i64 1)).run Try.prog y2 = .ok () w3 := by rw [Int.natCast_add] at hput; exact hput
      have HE3 := Lib.hid E3
      clear E2 hm ht hput hm2 ho2 E3
      go_wp2
      refine Met.intro (hJ2 _ _ (by kernel_rfl) ?_ ?_)
      · exact ⟨j + 1, HJ.out, by show Value.int .i64 ((j : Int) + 1) = _; simp, HE3.out⟩
      · have := HJ.out
        rw [H24.out]; show T - (intOf (Value.int .i64 ((j : Int) + 1))).toNat < T - (intOf (Value.int .i64 (j : Int))).toNat
        simp [intOf]; omega
set_option maxHeartbeats 4000000 in
set_option maxRecDepth 100000 in
theorem frTake_t_none (h : SepL (frL fr p bt bp m n pool pg ops St Sp C) O w) (order : Nat) (ho : order ≤ 9) (hf : ∀ k, order ≤ k → k ≤ 9 → runsL St pool k = []) (err : Int) :
    Calls Try.prog 32 #[.pointer (some ⟨fr, 0, none⟩), .pointer (some ⟨bt, 0, none⟩), .int .i64 (order : Nat), .int .i64 err] w (RetB w (.tuple #[.int .i64 0, .int .i64 err])) := by
  have E := ev_start locs_fr h
  obtain ⟨Ob, hb⟩ := ev_get E (i := 2) rfl
  have hc := budTake_none hb order ho hf
  clear h E hb hf ho
  go_enter Try.func32, Try.ntmps32
  go_wp2_with fail
  (with_reducible refine hc.mono ?_)
  rintro e y1 ⟨rfl, ho1⟩
  go_wp2
  go_ret2
  exact ⟨rfl, ho1⟩
set_option maxHeartbeats 4000000 in
set_option maxRecDepth 100000 in
theorem frTake_p (hpn : pool ≤ n) (hS : ∀ x, Sp x = true → pool ≤ x ∧ x < n) (order : Nat) (ho : order ≤ 9) {k f : Nat} (hf : Finds Sp n order k f) (err : Int) :
    Turns Try.prog 32 #[.pointer (some ⟨fr, 0, none⟩), .pointer (some ⟨bp, 0, none⟩), .int .i64 (order : Nat), .int .i64 err] (SepL (frL fr p bt bp m n pool pg ops St Sp C)) (.tuple #[.int .i64 (f : Nat), .int .i64 0]) (SepL (frL fr p bt bp m n pool (pgZ pg f (2 ^ order)) ops St (lessS Sp f (2 ^ order)) (cntZ C f (2 ^ order)))) := by
  intro O w h
  have E := ev_start locs_fr h
  have hc := ev_call (turn_take hS order ho hf) (loc_budT ..) E (i := 3) rfl
  have hfit := hf.fits (fun x hx => (hS x hx).2) hf.le
  have hpb : n ≤ 1048576 := by obtain ⟨Ob, hb⟩ := ev_get E (i := 3) rfl; exact (budS_bnd hb).2
  obtain ⟨T, hT, hw2, hT1, hT2⟩ := pow_ten (show order < 10 by omega)
  rw [hT] at hc hfit ⊢
  obtain ⟨S9, hS9⟩ : ∃ S9, lessS Sp f T = S9 := ⟨_, rfl⟩
  rw [hS9] at hc ⊢
  have HF := Lib.hid (show f + T ≤ n by omega)
  have o9 : (order : Int) ≤ 9 := by omega
  have ff : (f : Int) ≤ 1048576 := by omega
  have tt : (T : Int) ≤ 512 := by omega
  clear h E hS hf hfit hpn hS9 hpb ho
  go_enter Try.func32, Try.ntmps32
  go_wp2_with fail
  (with_reducible refine hc.mono ?_)
  rintro e y1 ⟨rfl, E1⟩
  have HE1 : Hid (Ev w O (frL fr p bt bp m n pool (pgZ pg f 0) ops St S9 (cntZ C f 0)) y1) := Lib.hid (by rw [pgZ_zero, cntZ_zero]; exact E1)
  clear hc E1
  go_wp2
  rw [hw2]
  refine wp_loopF [false, false, false, false, false, false, false, false, false, false, false, false, true, false, false, false, false, false, false, false, false, false, false, false, true, true, true, true, true, true, true, true, true, true, true, true, true, true, true, true, true, true, true] (fun f2 wx => ∃ j : Nat, j ≤ T ∧ f2 24 = .int .i64 (j : Nat) ∧ Ev w O (frL fr p bt bp m n pool (pgZ pg f j) ops St S9 (cntZ C f j)) wx) (fun f2 => T - (intOf (f2 24)).toNat) ?start1 ?round1
  case start1 => exact ⟨0, Nat.zero_le _, rfl, HE1.out⟩
  case round1 =>
    clear HE1
    intro f2 wr hrel J2 K2 hJ2 hM2
    dsimp only [mergeA, mergeL, Nat.reduceAdd]
    obtain ⟨j, hj, h24, hE⟩ := hrel
    rw [h24]
    have H24 := Lib.hid h24
    clear h24
    by_cases hjT : j = T
    · subst hjT
      have HE := Lib.hid hE
      clear hE hj
      go_wp2
      go_ret2
      exact ev_end rfl HE.out
    · have hlt : j < T := by omega
      have hlti : (j : Int) < T := by omega
      have hz := ev_call (turn_mem fun w X h _ => zero_ok2 h ((f + j : Nat) : Int) (hasB_lt (by have := HF.out; omega))) (loc_mem ..) hE (i := 1) rfl
      have hz' : Calls Try.prog 35 #[.pointer (some ⟨p, 0, none⟩), .int .i64 ((f : Int) + (j : Int))] wr (fun e y => e = .returned (.int .i64 0) ∧ Ev w O (frL fr p bt bp m n pool (pgZ pg f (j + 1)) ops St S9 (cntZ C f j)) y) := by
        have := hz
        rw [pgZ_step, Int.natCast_add] at this
        exact this
      obtain ⟨c0, c1, c2, c3, c4⟩ := fr_cells hE
      have HJ := Lib.hid hlt
      clear hE hz hj hjT hlt
      go_wp2_with fail
      (with_reducible refine hz'.mono ?_)
      rintro e y2 ⟨rfl, E2⟩
      clear hz' c0 c1 c2 c3 c4
      obtain ⟨c0, c1, c2, c3, c4⟩ := fr_cells E2
      obtain ⟨Om, hm, ht⟩ := ev_turn E2 (i := 4) rfl
      obtain ⟨w3, hput, hm2, ho2⟩ := cnt_put hm ((f + j : Nat) : Int) 1 (by decide)
      have E3 : Ev w O (frL fr p bt bp m n pool (pgZ pg f (j + 1)) ops St S9 (cntZ C f (j + 1))) w3 := by
        rw [← cntZ_step]
        exact ht _ Om w3 (loc_cnt ..) hm2 (fun b hb => .inl hb) ho2
      have hput' : (Instr.mapUpdate 63 (.map (some m)) (.int .i64 ((f : Int) + (j : Int))) (.int .i64 1)).run Try.prog y2 = .ok () w3 := by rw [Int.natCast_add] at hput; exact hput
      have HE3 := Lib.hid E3
      clear E2 hm ht hput hm2 ho2 E3
      go_wp2
      refine Met.intro (hJ2 _ _ (by kernel_rfl) ?_ ?_)
      · exact ⟨j + 1, HJ.out, by show Value.int .i64 ((j : Int) + 1) = _; simp, HE3.out⟩
      · have := HJ.out
        rw [H24.out]; show T - (intOf (Value.int .i64 ((j : Int) + 1))).toNat < T - (intOf (Value.int .i64 (j : Int))).toNat
        simp [intOf]; omega
set_option maxHeartbeats 4000000 in
set_option maxRecDepth 100000 in
theorem frTake_p_none (h : SepL (frL fr p bt bp m n pool pg ops St Sp C) O w) (order : Nat) (ho : order ≤ 9) (hf : ∀ k, order ≤ k → k ≤ 9 → runsL Sp n k = []) (err : Int) :
    Calls Try.prog 32 #[.pointer (some ⟨fr, 0, none⟩), .pointer (some ⟨bp, 0, none⟩), .int .i64 (order : Nat), .int .i64 err] w (RetB w (.tuple #[.int .i64 0, .int .i64 err])) := by
  have E := ev_start locs_fr h
  obtain ⟨Ob, hb⟩ := ev_get E (i := 3) rfl
  have hc := budTake_none hb order ho hf
  clear h E hb hf ho
  go_enter Try.func32, Try.ntmps32
  go_wp2_with fail
  (with_reducible refine hc.mono ?_)
  rintro e y1 ⟨rfl, ho1⟩
  go_wp2
  go_ret2
  exact ⟨rfl, ho1⟩
end
end Go.Proofs.Ytnmccihgiphmjaa
namespace Go.Proofs.Ytnmccihgiphmjaa
set_option linter.unusedVariables false
set_option linter.unusedSimpArgs false
open Go.RowKit
section
variable {w x y : World} {O : Nat → Prop} {fr p bt bp m n pool ops b first en : Nat} {pg : Int → Option (List Nat)} {S St Sp : Nat → Bool} {C : Int → Nat}
set_option maxHeartbeats 4000000 in
theorem frTable (hpn : pool ≤ n) (hS : ∀ x, St x = true → 0 ≤ x ∧ x < pool) {k f : Nat} (hf : Finds St pool 0 k f) :
    Turns Try.prog 9 #[.pointer (some ⟨fr, 0, none⟩)] (SepL (frL fr p bt bp m n pool pg ops St Sp C)) (.tuple #[.int .i64 (f : Nat), .int .i64 0]) (SepL (frL fr p bt bp m n pool (pgZ pg f 1) ops (lessS St f 1) Sp (cntZ C f 1))) := by
  intro O w h
  obtain ⟨c0, c1, c2, c3, c4⟩ := fr_cells (ev_start locs_fr h)
  have hc : Calls Try.prog 32 #[.pointer (some ⟨fr, 0, none⟩), .pointer (some ⟨bt, 0, none⟩), .int .i64 0, .int .i64 11] w _ := frTake_t (n := n) (pool := pool) hpn hS 0 (by decide) hf 11 O w h
  rw [show (2 : Nat) ^ 0 = 1 from rfl] at hc
  clear h hpn hS hf
  go_enter Try.func9, Try.ntmps9
  go_wp2_with fail
  (with_reducible refine hc.mono ?_)
  rintro e y1 ⟨rfl, E1⟩
  have HE := Lib.hid E1
  clear hc E1 c0 c1 c2 c3 c4
  go_wp2
  go_ret2
  exact ⟨rfl, HE.out⟩
set_option maxHeartbeats 4000000 in
theorem frTable_none (h : SepL (frL fr p bt bp m n pool pg ops St Sp C) O w) (hf : ∀ k, 0 ≤ k → k ≤ 9 → runsL St pool k = []) :
    Calls Try.prog 9 #[.pointer (some ⟨fr, 0, none⟩)] w (RetB w (.tuple #[.int .i64 0, .int .i64 11])) := by
  obtain ⟨c0, c1, c2, c3, c4⟩ := fr_cells (ev_start locs_fr h)
  have hc : Calls Try.prog 32 #[.pointer (some ⟨fr, 0, none⟩), .pointer (some ⟨bt, 0, none⟩), .int .i64 0, .int .i64 11] w _ := frTake_t_none (n := n) (pool := pool) h 0 (by decide) hf 11
  clear h hf
  go_enter Try.func9, Try.ntmps9
  go_wp2_with fail
  (with_reducible refine hc.mono ?_)
  rintro e y1 ⟨rfl, E1⟩
  clear hc c0 c1 c2 c3 c4
  go_wp2
  go_ret2
  exact ⟨rfl, E1⟩
set_option maxHeartbeats 4000000 in
theorem frPage (hpn : pool ≤ n) (hS : ∀ x, Sp x = true → pool ≤ x ∧ x < n) {k f : Nat} (hf : Finds Sp n 0 k f) :
    Turns Try.prog 10 #[.pointer (some ⟨fr, 0, none⟩)] (SepL (frL fr p bt bp m n pool pg ops St Sp C)) (.tuple #[.int .i64 (f : Nat), .int .i64 0]) (SepL (frL fr p bt bp m n pool (pgZ pg f 1) ops St (lessS Sp f 1) (cntZ C f 1))) := by
  intro O w h
  obtain ⟨c0, c1, c2, c3, c4⟩ := fr_cells (ev_start locs_fr h)
  have hc : Calls Try.prog 32 #[.pointer (some ⟨fr, 0, none⟩), .pointer (some ⟨bp, 0, none⟩), .int .i64 0, .int .i64 10] w _ := frTake_p (n := n) (pool := pool) hpn hS 0 (by decide) hf 10 O w h
  rw [show (2 : Nat) ^ 0 = 1 from rfl] at hc
  clear h hpn hS hf
  go_enter Try.func10, Try.ntmps10
  go_wp2_with fail
  (with_reducible refine hc.mono ?_)
  rintro e y1 ⟨rfl, E1⟩
  have HE := Lib.hid E1
  clear hc E1 c0 c1 c2 c3 c4
  go_wp2
  go_ret2
  exact ⟨rfl, HE.out⟩
set_option maxHeartbeats 4000000 in
theorem frPage_none (h : SepL (frL fr p bt bp m n pool pg ops St Sp C) O w) (hf : ∀ k, 0 ≤ k → k ≤ 9 → runsL Sp n k = []) :
    Calls Try.prog 10 #[.pointer (some ⟨fr, 0, none⟩)] w (RetB w (.tuple #[.int .i64 0, .int .i64 10])) := by
  obtain ⟨c0, c1, c2, c3, c4⟩ := fr_cells (ev_start locs_fr h)
  have hc : Calls Try.prog 32 #[.pointer (some ⟨fr, 0, none⟩), .pointer (some ⟨bp, 0, none⟩), .int .i64 0, .int .i64 10] w _ := frTake_p_none (n := n) (pool := pool) h 0 (by decide) hf 10
  clear h hf
  go_enter Try.func10, Try.ntmps10
  go_wp2_with fail
  (with_reducible refine hc.mono ?_)
  rintro e y1 ⟨rfl, E1⟩
  clear hc c0 c1 c2 c3 c4
  go_wp2
  go_ret2
  exact ⟨rfl, E1⟩
set_option maxHeartbeats 4000000 in
theorem frBlock_none (h : SepL (frL fr p bt bp m n pool pg ops St Sp C) O w) (hf : ∀ k, 9 ≤ k → k ≤ 9 → runsL Sp n k = []) :
    Calls Try.prog 13 #[.pointer (some ⟨fr, 0, none⟩)] w (RetB w (.tuple #[.int .i64 0, .int .i64 10])) := by
  obtain ⟨c0, c1, c2, c3, c4⟩ := fr_cells (ev_start locs_fr h)
  have hc : Calls Try.prog 32 #[.pointer (some ⟨fr, 0, none⟩), .pointer (some ⟨bp, 0, none⟩), .int .i64 9, .int .i64 10] w _ := frTake_p_none (n := n) (pool := pool) h 9 (by decide) hf 10
  clear h hf
  go_enter Try.func13, Try.ntmps13
  go_wp2_with fail
  (with_reducible refine hc.mono ?_)
  rintro e y1 ⟨rfl, E1⟩
  clear hc c0 c1 c2 c3 c4
  go_wp2
  go_ret2
  exact ⟨rfl, E1⟩
theorem sep_perm {l m : List Asn} (h : l.Perm m) : ∀ O w, SepL l O w → SepL m O w := by
  induction h with
  | nil => exact fun O w h => h
  | cons A _ ih => exact fun O w h => sep_under ih h
  | swap A B l => exact fun O w h => sep_swap h
  | trans _ _ i1 i2 => exact fun O w h => i2 O w (i1 O w h)
theorem sep_join : ∀ {l m : List Asn} {O1 O2 : Nat → Prop} {w : World}, SepL l O1 w → SepL m O2 w → (∀ b, O1 b → ¬ O2 b) → SepL (l ++ m) (fun b => O1 b ∨ O2 b) w
  | [], m, O1, O2, w, h1, h2, _ => by
    have e : (fun b => O1 b ∨ O2 b) = O2 := funext fun b => propext ⟨fun h => h.elim (fun h => (h1 b h).elim) id, .inr⟩
    rw [e]; exact h2
  | A :: l, m, O1, O2, w, ⟨P1, P2, q1, q2, q3, q4⟩, h2, h3 => by
    refine ⟨P1, fun b => P2 b ∨ O2 b, q1, sep_join q2 h2 (fun b hb => h3 b ((q4 b).2 (.inr hb))), fun b hb hb2 => ?_, fun b => ?_⟩
    · rcases hb2 with h | h
      · exact q3 b hb h
      · exact h3 b ((q4 b).2 (.inl hb)) h
    · show O1 b ∨ O2 b ↔ _
      rw [q4 b, or_assoc]
theorem stands_join {l m : List Asn} (h : Stands w l x) (h2 : Stands x m y) : Stands w (m ++ l) y := by
  obtain ⟨a1, a2, O1, a3, a4⟩ := h
  obtain ⟨b1, b2, O2, b3, b4⟩ := h2
  refine ⟨fun A hA => (List.mem_append.1 hA).elim (b1 A) (a1 A), old_then a2 b2, _, sep_join b3 (sep_keep a1 a3 (Only.of_below b2) (fun _ _ f => f)) (fun b hb hb2 => ?_), fun b hb => ?_⟩
  · have := b4 b hb
    have := sep_lt a1 a3 hb2
    omega
  · rcases hb with hb | hb
    · have := b4 b hb
      have := a2.size
      omega
    · exact a4 b hb
/-- Structures as one. -/
theorem stands_one {l : List Asn} (h : Stands w l x) : Stands w [SepL l] x := by
  obtain ⟨a1, a2, O1, a3, a4⟩ := h
  exact ⟨locs_cons (sep_loc a1) locs_nil, a2, O1, ⟨O1, fun _ => False, a3, fun _ f => f, fun _ _ f => f, fun b => ⟨.inl, fun h => h.elim id (fun f => f.elim)⟩⟩, a4⟩
set_option maxHeartbeats 4000000 in
theorem frNew_calls (h : MemA p n pg ops O w) (hp : 1 ≤ pool ∧ pool ≤ 4096 ∧ pool < n) (hn : n ≤ 1048576) :
    Calls Try.prog 8 #[.pointer (some ⟨p, 0, none⟩), .int .i64 (pool : Nat)] w (fun e y => ∃ fr bt bp m, e = .returned (.tuple #[.pointer (some ⟨fr, 0, none⟩), .int .i64 0]) ∧
      Stands w [Pts fr (frCells p pool bt bp m) 65, CntA m (fun _ => 0), BudT bp pool n (allS pool n), BudT bt 0 pool (allS 0 pool)] y) := by
  have H := Lib.hid h
  have hf := frames_calls h.1
  have HN1 := Lib.hid (fun y : World => budNew_calls y 0 pool (by omega) (by omega))
  have HN2 := Lib.hid (fun y : World => budNew_calls y pool (n - pool) (by omega) (by omega))
  have HP := Lib.hid hp
  have i1 : (1 : Int) ≤ pool := by omega
  have i2 : (pool : Int) ≤ 4096 := by omega
  have i3 : (pool : Int) < n := by omega
  have i4 : (n : Int) ≤ 1048576 := by omega
  have HC1 := Lib.hid (show cntS (allS 0 pool) pool = pool by rw [cntS_all (by omega) (by omega)]; omega)
  have HC2 := Lib.hid (show cntS (allS pool n) n = n - pool by rw [cntS_all (by omega) (by omega)])
  have hmm := @run_makeMap Try.prog
  clear h hp hn
  go_enter Try.func8, Try.ntmps8
  go_wp2_with fail
  (with_reducible refine hf.mono ?_)
  rintro e y1 ⟨rfl, ho1⟩
  have hc1 : Calls Try.prog 31 #[.int .i64 0, .int .i64 (pool : Nat)] y1 _ := HN1.out y1
  have hS1 : Hid (Stands w [] y1) := Lib.hid (stands_then (stands_nil w) ho1)
  have HM1 : Hid (MemA p n pg ops O y1) := Lib.hid ((loc_mem ..).keep H.out (Only.of_below ho1) (fun _ _ f => f))
  clear hf ho1 HN1 H
  go_wp2_with fail
  (with_reducible refine hc1.mono ?_)
  rintro e y2 ⟨rfl, ho2, O2, hb2, hO2⟩
  rw [Nat.zero_add] at hb2
  obtain ⟨bt, hbt⟩ : ∃ bt, y1.heap.size = bt := ⟨_, rfl⟩
  rw [hbt] at hb2 ⊢
  have hb2' : BudT bt 0 pool (allS 0 pool) O2 y2 := by unfold BudT; rw [HC1.out]; exact hb2
  have hS2 : Hid (Stands w [BudT bt 0 pool (allS 0 pool)] y2) := Lib.hid (stands_new hS1.out ho2 (loc_budT ..) hb2' hO2)
  have hM2 : MemA p n pg ops O y2 := (loc_mem ..).keep HM1.out (Only.of_below ho2) (fun _ _ f => f)
  have hf2 := frames_calls hM2.1
  clear hc1 hb2 hb2' hO2 ho2 hS1 HM1 hM2 hbt
  go_wp2_with fail
  (with_reducible refine hf2.mono ?_)
  rintro e y3 ⟨rfl, ho3⟩
  have hc3 := HN2.out y3
  rw [Int.ofNat_sub (show pool ≤ n by have := HP.out; omega)] at hc3
  have hS3 : Hid (Stands w [BudT bt 0 pool (allS 0 pool)] y3) := Lib.hid (stands_then hS2.out ho3)
  clear hf2 ho3 HN2 hS2
  go_wp2_with fail
  (with_reducible refine hc3.mono ?_)
  rintro e y4 ⟨rfl, ho4, O4, hb4, hO4⟩
  obtain ⟨bp, hbp⟩ : ∃ bp, y3.heap.size = bp := ⟨_, rfl⟩
  rw [show pool + (n - pool) = n by have := HP.out; omega, hbp] at hb4
  rw [hbp]
  have hb4' : BudT bp pool n (allS pool n) O4 y4 := by unfold BudT; rw [HC2.out]; exact hb4
  have hS4 : Hid (Stands w [BudT bp pool n (allS pool n), BudT bt 0 pool (allS 0 pool)] y4) := Lib.hid (stands_new hS3.out ho4 (loc_budT ..) hb4' hO4)
  clear hc3 hb4 hb4' hO4 ho4 hS3 hbp
  go_wp2
  go_ret2
  have hS5 : Stands w [CntA y4.heap.size (fun _ => 0), BudT bp pool n (allS pool n), BudT bt 0 pool (allS 0 pool)] (y4.alloc (.map #[] 0)) :=
    stands_new hS4.out (old_alloc (old_refl _) _) (loc_cnt ..) (O1 := fun b => b = y4.heap.size) ⟨fun _ => Iff.rfl, 0, by
      have e : cntF (fun _ => 0) = (fun _ => none) := funext fun _ => if_pos rfl
      rw [e]; exact isMap_made y4⟩ (fun b hb => by omega)
  exact ⟨_, bt, bp, y4.heap.size, by first | rfl | simp, stands_pts hS5 _ _⟩
theorem frNew_stands (h : Stands w [MemA p n pg ops] x) (hp : 1 ≤ pool ∧ pool ≤ 4096 ∧ pool < n) (hn : n ≤ 1048576) :
    Calls Try.prog 8 #[.pointer (some ⟨p, 0, none⟩), .int .i64 (pool : Nat)] x (fun e y => ∃ fr bt bp m, e = .returned (.tuple #[.pointer (some ⟨fr, 0, none⟩), .int .i64 0]) ∧
      Stands w [SepL (frL fr p bt bp m n pool pg ops (allS 0 pool) (allS pool n) (fun _ => 0))] y) := by
  obtain ⟨O1, h1, -⟩ := stands_get h (i := 0) rfl
  refine (frNew_calls h1 hp hn).mono ?_
  rintro e y ⟨fr, bt, bp, m, rfl, hS⟩
  have hj := stands_join h hS
  refine ⟨fr, bt, bp, m, rfl, stands_one (stands_perm (fun A hA => ?_) (sep_perm ?_) hj)⟩
  · unfold frL at hA
    simp only [List.cons_append, List.nil_append, List.mem_cons, List.not_mem_nil, or_false] at hA ⊢
    rcases hA with h | h | h | h | h
    · exact .inl h
    · exact .inr (.inr (.inr (.inr h)))
    · exact .inr (.inr (.inr (.inl h)))
    · exact .inr (.inr (.inl h))
    · exact .inr (.inl h)
  · unfold frL
    show [_, CntA m _, BudT bp pool n _, BudT bt 0 pool _, MemA p n pg ops].Perm _
    refine .cons _ ?_
    exact List.reverse_perm [MemA p n pg ops, BudT bt 0 pool (allS 0 pool), BudT bp pool n (allS pool n), CntA m (fun _ => 0)]
end
end Go.Proofs.Ytnmccihgiphmjaa
namespace Go.Proofs.Ytnmccihgiphmjaa
set_option linter.unusedVariables false
set_option linter.unusedSimpArgs false
open Go.RowKit
section
variable {w x y : World} {O : Nat → Prop} {fr p bt bp m n pool ops b first en : Nat} {pg : Int → Option (List Nat)} {S St Sp : Nat → Bool} {C : Int → Nat}
theorem ptr_same (p : Nat) (w : World) : (binOp .eql 23 (.pointer (some ⟨p, 0, none⟩)) (.pointer (some ⟨p, 0, none⟩))).run Try.prog w = .ok (.bool true) w := by
  obtain ⟨j, hj⟩ : ∃ j, Try.prog.info? 58 = some j := Option.isSome_iff_exists.1 (by kernel_rfl)
  exact run_eql_ptr_same w _ Try.underlying23 hj
theorem fr_turn {P : Program} {f : FuncId} {args : Array Value} {A B : Asn} {v : Value} {E : List Asn} (ht : Turns P f args A v B) (hB : Loc B) (h : Stands w (A :: E) x) : Calls P f args x (fun e y => e = .returned v ∧ Stands w (B :: E) y) :=
  turns_stands ht hB h (i := 0) rfl
theorem fr_quiet {P : Program} {f : FuncId} {args : Array Value} {A : Asn} {v : Value} {E : List Asn} (hc : ∀ O y, A O y → Calls P f args y (RetB y v)) (h : Stands w (A :: E) x) : Calls P f args x (fun e y => e = .returned v ∧ Stands w (A :: E) y) := by
  obtain ⟨O1, h1, -⟩ := stands_get h (i := 0) rfl
  exact quiet_stands h (hc O1 x h1)
theorem frNew_nil (w : World) (k : Int) : Calls Try.prog 8 #[.pointer none, .int .i64 k] w (RetB w (.tuple #[.pointer none, .int .i64 1])) := by
  go_enter Try.func8, Try.ntmps8
  go_wp2
  go_ret2
  exact ⟨rfl, old_refl _⟩
theorem frMem_calls (h : SepL (frL fr p bt bp m n pool pg ops St Sp C) O w) : Calls Try.prog 34 #[.pointer (some ⟨fr, 0, none⟩)] w (RetB w (.pointer (some ⟨p, 0, none⟩))) := by
  obtain ⟨c0, c1, c2, c3, c4⟩ := fr_cells (ev_start locs_fr h)
  clear h
  go_enter Try.func34, Try.ntmps34
  go_wp2
  go_ret
  exact ⟨rfl, old_refl _⟩
theorem physNew_stands (n : Nat) (w : World) (h1 : 1 ≤ n) (h2 : n ≤ 1048576) : Calls Try.prog 7 #[.int .i64 n] w (fun e y => ∃ p, e = .returned (.tuple #[.pointer (some ⟨p, 0, none⟩), .int .i64 0]) ∧ Stands w [MemA p n (fun _ => none) 0] y) := by
  refine (physNew_calls n w h1 h2).mono ?_
  rintro e x ⟨rfl, hO, hs, hm⟩
  exact ⟨_, rfl, stands_new (stands_nil w) hO (loc_mem ..) (O1 := fun b => w.heap.size ≤ b ∧ b < x.heap.size)
    ⟨mem_more (hm (fun b => b < w.heap.size) fun b hb => hb) (fun b hb => by
      by_cases h : b < w.heap.size
      · exact .inl h
      · exact .inr (Nat.le_of_not_lt fun hl => hb ⟨by omega, hl⟩)), fun b hb => hb.2⟩ (fun b hb => hb.1)⟩
/-- Where each free frame's half is free too, a frame is found at the head of a pair. -/
theorem finds_pair {M k f : Nat} (h : Finds S M 0 k f) (hb : ∀ x, S x = true → S (budN x) = true) : 1 ≤ k := by
  obtain ⟨q, h1, h2, h3⟩ := h.run
  rcases Nat.eq_zero_or_pos k with rfl | hk
  · have e : ∀ z, z / 2 ^ 0 = z := fun z => by simp
    have hq : S q = true := h3.1 q (e q)
    rcases h3.2 with h | h
    · cases h
    · exact absurd (allIn_halves.2 ⟨h3.1, fun z hz => by rw [e] at hz; rw [hz]; exact hb q hq⟩) h
  · exact hk
theorem told_t0 : ∃ k, Finds (allS 0 2) 2 0 k 0 := by
  rcases finds_or (allS 0 2) 2 0 with ⟨k, f, h⟩ | h
  · have h1 := finds_pair h (fun x hx => by rw [allS_iff] at *; unfold budN; split <;> omega)
    have h2 := h.al h1
    have h3 := allS_iff.1 (h.free (Nat.zero_le _) f (Nat.le_refl _) (by simp))
    obtain rfl : f = 0 := by omega
    exact ⟨k, h⟩
  · have := (none_iff (fun x hx => (allS_iff.1 hx).2)).1 h
    rw [cntS_all (by decide) (by decide)] at this
    omega
theorem told_t1 : ∃ k, Finds (lessS (allS 0 2) 0 1) 2 0 k 1 := by
  have hl : ∀ x, lessS (allS 0 2) 0 1 x = true ↔ x = 1 := fun x => by rw [lessS_iff, allS_iff]; omega
  rcases finds_or (lessS (allS 0 2) 0 1) 2 0 with ⟨k, f, h⟩ | h
  · obtain rfl : f = 1 := (hl f).1 (h.free (Nat.zero_le _) f (Nat.le_refl _) (by simp))
    exact ⟨k, h⟩
  · have := cntS_zero.1 ((none_iff (fun x hx => by rw [hl] at hx; omega)).1 h) 1 (by omega)
    rw [(hl 1).2 rfl] at this
    cases this
theorem told_t2 : ∀ k, 0 ≤ k → k ≤ 9 → runsL (lessS (lessS (allS 0 2) 0 1) 1 1) 2 k = [] := by
  have hl : ∀ x, ¬ lessS (lessS (allS 0 2) 0 1) 1 1 x = true := fun x => by rw [lessS_iff, lessS_iff, allS_iff]; omega
  exact (none_iff (fun x hx => (hl x hx).elim)).2 (cntS_zero.2 fun x hx => Bool.eq_false_iff.2 (hl x))
theorem told_p0 : ∃ k, Finds (allS 2 6) 6 0 k 2 := by
  have hr : Run (allS 2 6) 1 1 := ⟨allIn_all.2 (by decide), .inr (fun h => by have := allIn_all.1 h; omega)⟩
  have hm : 2 ∈ runsL (allS 2 6) 6 1 := mem_runsL.2 ⟨1, by decide, hr, rfl⟩
  rcases finds_or (allS 2 6) 6 0 with ⟨k, f, h⟩ | h
  · have h1 := finds_pair h (fun x hx => by rw [allS_iff] at *; unfold budN; split <;> omega)
    have hk : k = 1 := by
      rcases Nat.lt_or_ge 1 k with h' | h'
      · have := h.least 1 (by omega) h'
        rw [this] at hm; cases hm
      · omega
    subst hk
    obtain ⟨t, ht⟩ := h.head
    have hs := runsL_sorted (allS 2 6) 6 1
    rw [ht] at hm hs
    have h3 := allS_iff.1 (h.free (Nat.zero_le _) f (Nat.le_refl _) (by simp))
    obtain rfl : f = 2 := by
      rcases List.mem_cons.1 hm with e | e
      · exact e.symm
      · have := (List.pairwise_cons.1 hs).1 2 e; omega
    exact ⟨1, h⟩
  · have := (none_iff (fun x hx => (allS_iff.1 hx).2)).1 h
    rw [cntS_all (by decide) (by decide)] at this
    omega
theorem told_p1 : ∀ k, 9 ≤ k → k ≤ 9 → runsL (lessS (allS 2 6) 2 1) 6 k = [] := by
  intro k h1 h2
  obtain rfl : k = 9 := by omega
  refine List.eq_nil_iff_forall_not_mem.2 (fun f hf => ?_)
  obtain ⟨q, -, hr, -⟩ := mem_runsL.1 hf
  have e : ∀ x, x / 2 ^ 9 = q → _ := fun x hx => hr.1 x hx
  have h3 := allS_iff.1 (lessS_iff.1 (e (q * 512 + 7) (by omega))).1
  omega
set_option maxHeartbeats 8000000 in
set_option maxRecDepth 100000 in
theorem framesTold_calls (w : World) : Calls Try.prog 12 #[] w (RetB w (.bool true)) := by
  have hc : Calls Try.prog 7 #[.int .i64 6] w _ := physNew_stands 6 w (by decide) (by decide)
  go_enter Try.func12, Try.ntmps12
  go_wp2_with fail
  (with_reducible refine hc.mono ?_)
  rintro e y1 ⟨p, rfl, h1⟩
  have hc1 := frNew_nil y1 1
  have H1 := Lib.hid h1
  clear hc h1
  go_wp2_with fail
  (with_reducible refine hc1.mono ?_)
  rintro e y2 ⟨rfl, ho⟩
  have hc2 : Calls Try.prog 8 #[.pointer (some ⟨p, 0, none⟩), .int .i64 2] y2 _ := frNew_stands (pool := 2) (stands_then H1.out ho) (by decide) (by decide)
  clear hc1 H1 ho
  go_wp2_with fail
  (with_reducible refine hc2.mono ?_)
  rintro e y3 ⟨fr, bt, bp, m, rfl, h3⟩
  obtain ⟨k0, f0⟩ := told_t0
  have hc3 : Calls Try.prog 9 #[.pointer (some ⟨fr, 0, none⟩)] y3 _ := fr_turn (frTable (by decide) (fun x hx => allS_iff.1 hx) f0) (sep_loc locs_fr) h3
  clear hc2 h3 f0 k0
  go_wp2_with fail
  (with_reducible refine hc3.mono ?_)
  rintro e y4 ⟨rfl, h4⟩
  obtain ⟨k1, f1⟩ := told_t1
  have hc4 : Calls Try.prog 9 #[.pointer (some ⟨fr, 0, none⟩)] y4 _ := fr_turn (frTable (by decide) (fun x hx => allS_iff.1 (lessS_iff.1 hx).1) f1) (sep_loc locs_fr) h4
  clear hc3 h4 f1 k1
  go_wp2_with fail
  (with_reducible refine hc4.mono ?_)
  rintro e y5 ⟨rfl, h5⟩
  have hc5 : Calls Try.prog 9 #[.pointer (some ⟨fr, 0, none⟩)] y5 _ := fr_quiet (fun O y h => frTable_none h told_t2) h5
  clear hc4 h5
  go_wp2_with fail
  (with_reducible refine hc5.mono ?_)
  rintro e y6 ⟨rfl, h6⟩
  obtain ⟨k2, f2⟩ := told_p0
  have hc6 : Calls Try.prog 10 #[.pointer (some ⟨fr, 0, none⟩)] y6 _ := fr_turn (frPage (by decide) (fun x hx => allS_iff.1 hx) f2) (sep_loc locs_fr) h6
  clear hc5 h6 f2 k2
  go_wp2_with fail
  (with_reducible refine hc6.mono ?_)
  rintro e y7 ⟨rfl, h7⟩
  have hc7 : Calls Try.prog 14 #[.pointer (some ⟨fr, 0, none⟩), .int .i64 2] y7 _ := fr_turn (frRef_calls (2 : Int) (by decide) (by decide)) (sep_loc locs_fr) h7
  rw [show cntZ (cntZ (cntZ (fun _ => 0) 0 1) 1 1) 2 1 2 = 1 from by decide] at hc7
  clear hc6 h7
  go_wp2_with fail
  (with_reducible refine hc7.mono ?_)
  rintro e y8 ⟨rfl, h8⟩
  have hc8 : Calls Try.prog 11 #[.pointer (some ⟨fr, 0, none⟩)] y8 _ := fr_quiet (fun O y h => frFree_calls h) h8
  rw [show cntS (lessS (allS 2 6) 2 1) 6 = 3 from by decide, show cntS (lessS (lessS (allS 0 2) 0 1) 1 1) 2 = 0 from by decide] at hc8
  clear hc7 h8
  go_wp2_with fail
  (with_reducible refine hc8.mono ?_)
  rintro e y9 ⟨rfl, h9⟩
  have hc9 : Calls Try.prog 13 #[.pointer (some ⟨fr, 0, none⟩)] y9 _ := fr_quiet (fun O y h => frBlock_none h told_p1) h9
  clear hc8 h9
  go_wp2_with fail
  (with_reducible refine hc9.mono ?_)
  rintro e z1 ⟨rfl, g1⟩
  have hd1 : Calls Try.prog 16 #[.pointer (some ⟨fr, 0, none⟩), .int .i64 2] z1 _ := fr_quiet (fun O y h => frCount_calls h 2) g1
  rw [show updC (cntZ (cntZ (cntZ (fun _ => 0) 0 1) 1 1) 2 1) 2 (1 + 1) 2 = 2 from by decide] at hd1
  clear hc9 g1
  go_wp2_with fail
  (with_reducible refine hd1.mono ?_)
  rintro e z2 ⟨rfl, g2⟩
  have hd2 : Calls Try.prog 16 #[.pointer (some ⟨fr, 0, none⟩), .int .i64 9] z2 _ := fr_quiet (fun O y h => frCount_calls h 9) g2
  rw [show updC (cntZ (cntZ (cntZ (fun _ => 0) 0 1) 1 1) 2 1) 2 (1 + 1) 9 = 0 from by decide] at hd2
  clear hd1 g2
  go_wp2_with fail
  (with_reducible refine hd2.mono ?_)
  rintro e z3 ⟨rfl, g3⟩
  have hd3 : Calls Try.prog 34 #[.pointer (some ⟨fr, 0, none⟩)] z3 _ := fr_quiet (fun O y h => frMem_calls h) g3
  clear hd2 g3
  go_wp2_with fail
  (with_reducible refine hd3.mono ?_)
  rintro e z4 ⟨rfl, g4⟩
  have HO := Lib.hid (stands_old g4)
  have hpp := ptr_same p z4
  clear hd3 g4
  go_wp2
  go_ret
  exact ⟨rfl, HO.out⟩
end
end Go.Proofs.Ytnmccihgiphmjaa
namespace Go.Proofs.Ytnmccihgiphmjaa
set_option linter.unusedVariables false
set_option linter.unusedSimpArgs false
open Go.RowKit
def irow (l : List Int) : Array Value := (l.map (.int .i64)).toArray
theorem irow_get (l : List Int) (i : Nat) : (irow l)[i]? = (l[i]?).map (.int .i64) := by simp [irow]
theorem irow_set (l : List Int) (i : Nat) (v : Int) : (irow l).setIfInBounds i (.int .i64 v) = irow (l.set i v) := by simp [irow, List.setIfInBounds_toArray, List.map_set]
theorem irow_info : (Try.prog.info? 3).map (fun i => (i.zero, i.size, i.bytes)) = some (some (.int .i64 0), 1, 8) := by kernel_rfl
theorem irow_made (n : Nat) : madeCells #[.int .i64 0] n = irow (List.replicate n 0) := by
  apply Array.ext
  · rw [size_madeCells]; simp [irow]
  · intro i h1 h2
    simp [madeCells, irow, Nat.mod_one]
theorem irow_make (n : Nat) (h : n ≤ 1000) (w : World) : (Instr.makeSlice 54 (.int .i64 (n : Int)) (.int .i64 (n : Int))).run Try.prog w = .ok (.slice (some ⟨w.heap.size, 0, none⟩) n n) (w.alloc (.cells (irow (List.replicate n 0)) 3)) := by
  rw [← irow_made]
  exact run_make_row' 54 3 (.int .i64 0) 8 Try.underlying54 irow_info rfl .i64 .i64 n (by omega) (by omega) w
end Go.Proofs.Ytnmccihgiphmjaa
namespace Go.Proofs.Ytnmccihgiphmjaa
set_option linter.unusedVariables false
set_option linter.unusedSimpArgs false
open Go.RowKit
section
variable {w x y : World} {O : Nat → Prop} {fr p bt bp m g n pool ops u i : Nat} {pg : Int → Option (List Nat)} {S St Sp : Nat → Bool} {C : Int → Nat} {cs : List Int} {k : Int}
/-- A turn of one structure among others. -/
theorem turns_in {P : Program} {f : FuncId} {args : Array Value} {A B : Asn} {v : Value} {l : List Asn} {i : Nat} (ht : Turns P f args A v B) (hB : Loc B) (hl : Locs l) (hi : l[i]? = some A) : Turns P f args (SepL l) v (SepL (l.set i B)) :=
  fun _ _ h => (ev_call ht hB (ev_start hl h) hi).mono (fun _ _ h => ev_end h.1 h.2)
/-- The memory that the frames lie in: a number is written. -/
theorem frWrite (addr : Nat) (ha : addr < 18446744073709551616) (s : Int) (v : Nat) (he : placeE n addr s = 0) (ho : ops < 4611686018427387904) :
    Turns Try.prog 24 #[.pointer (some ⟨p, 0, none⟩), .int .u64 (addr : Nat), .int .i64 s, .int .u64 (v : Nat)] (SepL (frL fr p bt bp m n pool pg ops St Sp C)) (.int .i64 0)
      (SepL (frL fr p bt bp m n pool (updP pg ((addr / 4096 : Nat) : Int) (some (wroteOf pg addr s v))) (ops + 1) St Sp C)) :=
  turns_in (i := 1) (turn_mem fun _ _ h hX => write_ok2 h hX addr ha s v he ho) (loc_mem ..) locs_fr rfl
theorem frClear (h : SepL (frL fr p bt bp m n pool pg ops St Sp C) O w) (k : Int) : Calls Try.prog 28 #[.pointer (some ⟨p, 0, none⟩), .int .i64 k] w (RetB w (.bool (hasB n k && allZero (pageOf pg k)))) := by
  obtain ⟨O1, h1, -⟩ := sep_get (i := 1) (A := MemA p n pg ops) rfl h
  exact clear_calls h1.1 k
theorem zeros_all : allZero zeros4096 = true := List.all_eq_true.2 (fun x hx => by
  obtain rfl : x = 0 := List.eq_of_mem_replicate hx
  rfl)
theorem and4088 (a : Int) : ∃ d : Nat, bits .and .i64 a 4088 = (d : Int) ∧ d ≤ 4088 ∧ d % 8 = 0 := by
  refine ⟨(BitVec.ofInt 64 a).toNat &&& 4088, ?_, Nat.and_le_right, ?_⟩
  · have hle : (BitVec.ofInt 64 a).toNat &&& 4088 ≤ 4088 := Nat.and_le_right
    have key : (BitVec.ofInt 64 a &&& BitVec.ofInt 64 4088).toNat = (BitVec.ofInt 64 a).toNat &&& 4088 := by
      rw [BitVec.toNat_and]; rfl
    show IntKind.i64.wrap ((BitVec.ofInt 64 a &&& BitVec.ofInt 64 4088).toNat : Nat) = _
    rw [key, IntKind.wrap_i64]
    omega
  · have := Nat.and_mod_two_pow (a := (BitVec.ofInt 64 a).toNat) (b := 4088) (n := 3)
    simpa using this
/-- Frames and a list of counts. -/
def FS (w : World) (fr p bt bp m g n : Nat) (pg : Int → Option (List Nat)) (ops : Nat) (Sp : Nat → Bool) (C : Int → Nat) (cs : List Int) (x : World) : Prop :=
  Stands w [SepL (frL fr p bt bp m n 2 pg ops (allS 0 2) Sp C), Pts g (irow cs) 3] x
/-- The list tells the counts; the free frames are those without one; and just these are 0 all over. -/
structure Good (n u i : Nat) (cs : List Int) (pg : Int → Option (List Nat)) (ops : Nat) (Sp : Nat → Bool) (C : Int → Nat) : Prop where
  n4 : 4 ≤ n
  sp : ∀ x : Nat, Sp x = true ↔ 2 ≤ x ∧ x < n ∧ C (x : Int) = 0
  cnt : cntS Sp n = u
  len : cs.length = n
  val : ∀ x : Nat, x < n → cs[x]? = some ((C (x : Int) : Nat) : Int)
  few : ∀ x : Int, C x ≤ i
  ops : ops ≤ i
  clean : ∀ x : Nat, 2 ≤ x → x < n → allZero (pageOf pg (x : Int)) = decide (C (x : Int) = 0)
theorem fs_old (h : FS w fr p bt bp m g n pg ops Sp C cs x) : Old w x := stands_old h
theorem fs_then (h : FS w fr p bt bp m g n pg ops Sp C cs x) (ho : Old x y) : FS w fr p bt bp m g n pg ops Sp C cs y := stands_then h ho
theorem fs_heap (h : FS w fr p bt bp m g n pg ops Sp C cs x) : x.heap[g]? = some (.cells (irow cs) 3) := pts_get h (i := 1) rfl
theorem fs_cell (h : FS w fr p bt bp m g n pg ops Sp C cs x) {j : Nat} {b : Int} (hb : cs[j]? = some b) : x.cell? ⟨g, j, none⟩ = some (.int .i64 b) := by rw [cell_of (fs_heap h), irow_get, hb]; rfl
theorem fs_frozen (h : FS w fr p bt bp m g n pg ops Sp C cs x) (j : Nat) : x.frozen? ⟨g, j, none⟩ = false := frozen_of (fs_heap h) _
theorem fs_set (h : FS w fr p bt bp m g n pg ops Sp C cs x) (j : Nat) (v : Int) : FS w fr p bt bp m g n pg ops Sp C (cs.set j v) (x.setCell ⟨g, j, none⟩ (.int .i64 v)) := by
  have := pts_put h (i := 1) rfl j (.int .i64 v)
  rw [irow_set] at this
  exact this
theorem good_more (h : Good n u i cs pg ops Sp C) : Good n u (i + 1) cs pg ops Sp C := ⟨h.n4, h.sp, h.cnt, h.len, h.val, fun x => by have := h.few x; omega, by have := h.ops; omega, h.clean⟩
theorem good_in (h : Good n u i cs pg ops Sp C) : ∀ x, Sp x = true → 2 ≤ x ∧ x < n := fun x hx => by have := (h.sp x).1 hx; omega
theorem fs_free (hG : Good n u i cs pg ops Sp C) (h : FS w fr p bt bp m g n pg ops Sp C cs x) : Calls Try.prog 11 #[.pointer (some ⟨fr, 0, none⟩)] x (fun e y => e = .returned (.tuple #[.int .i64 (u : Nat), .int .i64 2]) ∧ FS w fr p bt bp m g n pg ops Sp C cs y) := by
  refine (fr_quiet (fun O y h => frFree_calls h) h).mono ?_
  rintro e y ⟨rfl, hy⟩
  rw [hG.cnt, cntS_all (by decide) (by decide)]
  exact ⟨rfl, hy⟩
theorem fs_count (h : FS w fr p bt bp m g n pg ops Sp C cs x) (k : Int) : Calls Try.prog 16 #[.pointer (some ⟨fr, 0, none⟩), .int .i64 k] x (fun e y => e = .returned (.int .i64 (C k : Nat)) ∧ FS w fr p bt bp m g n pg ops Sp C cs y) :=
  fr_quiet (fun O y h => frCount_calls h k) h
theorem fs_clear (h : FS w fr p bt bp m g n pg ops Sp C cs x) (k : Nat) (hk : k < n) : Calls Try.prog 28 #[.pointer (some ⟨p, 0, none⟩), .int .i64 (k : Nat)] x (fun e y => e = .returned (.bool (allZero (pageOf pg (k : Int)))) ∧ FS w fr p bt bp m g n pg ops Sp C cs y) := by
  refine (fr_quiet (fun O y h => frClear h (k : Int)) h).mono ?_
  rintro e y ⟨rfl, hy⟩
  rw [hasB_lt hk, Bool.true_and]
  exact ⟨rfl, hy⟩
theorem fs_page_none (hG : Good n 0 i cs pg ops Sp C) (h : FS w fr p bt bp m g n pg ops Sp C cs x) : Calls Try.prog 10 #[.pointer (some ⟨fr, 0, none⟩)] x (fun e y => e = .returned (.tuple #[.int .i64 0, .int .i64 10]) ∧ FS w fr p bt bp m g n pg ops Sp C cs y) :=
  fr_quiet (fun O y h => frPage_none h ((none_iff (fun x hx => (good_in hG x hx).2)).2 hG.cnt)) h
theorem fs_ref_none (hk : C k = 0) (h : FS w fr p bt bp m g n pg ops Sp C cs x) : Calls Try.prog 14 #[.pointer (some ⟨fr, 0, none⟩), .int .i64 k] x (fun e y => e = .returned (.tuple #[.int .i64 0, .int .i64 20]) ∧ FS w fr p bt bp m g n pg ops Sp C cs y) :=
  fr_quiet (fun O y h => frRef_none h k (.inl hk)) h
theorem fs_drop_none (hk : C k = 0) (h : FS w fr p bt bp m g n pg ops Sp C cs x) : Calls Try.prog 15 #[.pointer (some ⟨fr, 0, none⟩), .int .i64 k] x (fun e y => e = .returned (.tuple #[.int .i64 0, .int .i64 20]) ∧ FS w fr p bt bp m g n pg ops Sp C cs y) :=
  fr_quiet (fun O y h => frDrop_none h k hk) h
theorem fs_ref (hk : C k ≠ 0) (hk2 : C k < 1073741824) (h : FS w fr p bt bp m g n pg ops Sp C cs x) : Calls Try.prog 14 #[.pointer (some ⟨fr, 0, none⟩), .int .i64 k] x (fun e y => e = .returned (.tuple #[.int .i64 ((C k + 1 : Nat) : Int), .int .i64 0]) ∧ FS w fr p bt bp m g n pg ops Sp (updC C k (C k + 1)) cs y) :=
  fr_turn (frRef_calls k hk hk2) (sep_loc locs_fr) h
theorem fs_drop_less (hk : 2 ≤ C k) (hk2 : C k ≤ 1073741824) (h : FS w fr p bt bp m g n pg ops Sp C cs x) : Calls Try.prog 15 #[.pointer (some ⟨fr, 0, none⟩), .int .i64 k] x (fun e y => e = .returned (.tuple #[.int .i64 ((C k - 1 : Nat) : Int), .int .i64 0]) ∧ FS w fr p bt bp m g n pg ops Sp (updC C k (C k - 1)) cs y) :=
  fr_turn (frDrop_less k hk hk2) (sep_loc locs_fr) h
theorem fs_drop_zero (hG : Good n u i cs pg ops Sp C) {k : Nat} (h2 : 2 ≤ k) (hn : k < n) (hk : C (k : Int) = 1) (h : FS w fr p bt bp m g n pg ops Sp C cs x) :
    Calls Try.prog 15 #[.pointer (some ⟨fr, 0, none⟩), .int .i64 (k : Nat)] x (fun e y => e = .returned (.tuple #[.int .i64 0, .int .i64 0]) ∧ FS w fr p bt bp m g n (updP pg (k : Int) none) ops (moreS Sp k 1) (updC C (k : Int) 0) cs y) :=
  fr_turn (frDrop_p (pool := 2) k ⟨h2, hn⟩ (by have := hG.n4; omega) hk (good_in hG) (Bool.eq_false_iff.2 fun h => by have := (hG.sp k).1 h; omega)) (sep_loc locs_fr) h
theorem updC_same (C : Int → Nat) (k : Int) (v : Nat) : updC C k v k = v := by unfold updC; rw [if_pos rfl]
theorem updC_ne (C : Int → Nat) {k j : Int} (v : Nat) (h : j ≠ k) : updC C k v j = C j := by unfold updC; rw [if_neg h]
theorem set_val {C : Int → Nat} {k v : Nat} (hl : cs.length = n) (hv : ∀ x : Nat, x < n → cs[x]? = some ((C (x : Int) : Nat) : Int)) : ∀ x : Nat, x < n → (cs.set k (v : Int))[x]? = some ((updC C (k : Int) v (x : Int) : Nat) : Int) := by
  intro x hx
  by_cases h : x = k
  · subst h
    rw [List.getElem?_set_self (by omega), updC_same]
  · rw [List.getElem?_set_ne (fun e => h e.symm), updC_ne _ _ (by omega), hv x hx]
/-- One count more or less, above nought. -/
theorem good_count (h : Good n u i cs pg ops Sp C) {k v : Nat} (hk : C (k : Int) ≠ 0) (hv : v ≠ 0) (hvi : v ≤ i + 1) : Good n u (i + 1) (cs.set k (v : Int)) pg ops Sp (updC C (k : Int) v) := by
  have he : ∀ x : Nat, (updC C (k : Int) v (x : Int) = 0) = (C (x : Int) = 0) := fun x => propext (by
    by_cases hx : x = k
    · subst hx; rw [updC_same]; exact ⟨fun h => absurd h hv, fun h => absurd h hk⟩
    · rw [updC_ne _ _ (by omega)])
  refine ⟨h.n4, fun x => by rw [h.sp x]; simp only [he], h.cnt, by rw [List.length_set]; exact h.len, set_val h.len h.val, fun x => ?_, by have := h.ops; omega, fun x h1 h2 => by rw [h.clean x h1 h2]; simp only [he]⟩
  by_cases hx : x = k
  · subst hx; rw [updC_same]; exact hvi
  · rw [updC_ne _ _ hx]; have := h.few x; omega
theorem pageOf_same (pg : Int → Option (List Nat)) (k : Int) (o : Option (List Nat)) : pageOf (updP pg k o) k = o.getD zeros4096 := by unfold pageOf updP; rw [if_pos rfl]
theorem pageOf_ne (pg : Int → Option (List Nat)) {k j : Int} (o : Option (List Nat)) (h : j ≠ k) : pageOf (updP pg k o) j = pageOf pg j := by unfold pageOf updP; rw [if_neg h]
/-- The last count goes. -/
theorem good_gone (h : Good n u i cs pg ops Sp C) {k : Nat} (h2 : 2 ≤ k) (hn : k < n) (hk : C (k : Int) = 1) : Good n (u + 1) (i + 1) (cs.set k 0) (updP pg (k : Int) none) ops (moreS Sp k 1) (updC C (k : Int) 0) := by
  have hno : Sp k = false := Bool.eq_false_iff.2 fun h' => by have := (h.sp k).1 h'; omega
  refine ⟨h.n4, fun x => ?_, ?_, by rw [List.length_set]; exact h.len, set_val (v := 0) h.len h.val, fun x => ?_, by have := h.ops; omega, fun x h1 h3 => ?_⟩
  · rw [moreS_iff, h.sp x]
    by_cases hx : x = k
    · subst hx; rw [updC_same]; omega
    · rw [updC_ne _ _ (by omega)]; omega
  · rw [cntS_moreIn (fun x h1 h3 => by rw [show x = k by omega]; exact hno) (by omega), h.cnt]
  · by_cases hx : x = k
    · subst hx; rw [updC_same]; omega
    · rw [updC_ne _ _ hx]; have := h.few x; omega
  · by_cases hx : x = k
    · subst hx; rw [updC_same, pageOf_same]; exact zeros_all
    · rw [updC_ne _ _ (by omega), pageOf_ne _ _ (by omega)]; exact h.clean x h1 h3
theorem cntZ_one (C : Int → Nat) (f : Nat) : cntZ C f 1 = updC C (f : Int) 1 := by rw [← cntZ_step C f 0, cntZ_zero]; rfl
theorem pgZ_one (pg : Int → Option (List Nat)) (f : Nat) : pgZ pg f 1 = updP pg (f : Int) none := by rw [← pgZ_step pg f 0, pgZ_zero]; rfl
/-- A page is told. -/
theorem fs_page (hG : Good n (u + 1) i cs pg ops Sp C) : ∃ f, 2 ≤ f ∧ f < n ∧ cs[f]? = some 0 ∧
    (∀ x, FS w fr p bt bp m g n pg ops Sp C cs x → Calls Try.prog 10 #[.pointer (some ⟨fr, 0, none⟩)] x (fun e y => e = .returned (.tuple #[.int .i64 (f : Nat), .int .i64 0]) ∧ FS w fr p bt bp m g n (updP pg (f : Int) none) ops (lessS Sp f 1) (updC C (f : Int) 1) cs y)) ∧
    ∀ L, allZero L = false → Good n u (i + 1) (cs.set f 1) (updP (updP pg (f : Int) none) (f : Int) (some L)) (ops + 1) (lessS Sp f 1) (updC C (f : Int) 1) := by
  have hin := good_in hG
  rcases finds_or Sp n 0 with ⟨k, f, hf⟩ | h'
  · have hfr := hf.free (Nat.zero_le _)
    have h1 := hfr f (Nat.le_refl _) (by simp)
    obtain ⟨h2, h3, h4⟩ := (hG.sp f).1 h1
    have hcu := cntS_lessIn (S := Sp) (f := f) (n := 1) (M := n) (fun x h1 h2 => hfr x h1 (by simpa using h2)) (by omega)
    refine ⟨f, h2, h3, by rw [hG.val f h3, h4]; rfl, fun x hx => ?_, fun L hL => ⟨hG.n4, fun x => ?_, by have := hG.cnt; omega, by rw [List.length_set]; exact hG.len, set_val (v := 1) hG.len hG.val, fun x => ?_, by have := hG.ops; omega, fun x h5 h6 => ?_⟩⟩
    · have := fr_turn (frPage (pool := 2) (by have := hG.n4; omega) hin hf) (sep_loc locs_fr) hx
      rw [cntZ_one, pgZ_one] at this
      exact this
    · rw [lessS_iff, hG.sp x]
      by_cases hx : x = f
      · subst hx; rw [updC_same]; omega
      · rw [updC_ne _ _ (by omega)]; omega
    · by_cases hx : x = f
      · subst hx; rw [updC_same]; omega
      · rw [updC_ne _ _ hx]; have := hG.few x; omega
    · by_cases hx : x = f
      · subst hx; rw [updC_same, pageOf_same]; exact hL
      · rw [updC_ne _ _ (by omega), pageOf_ne _ _ (by omega), pageOf_ne _ _ (by omega)]; exact hG.clean x h5 h6
  · have := (none_iff (fun x hx => (hin x hx).2)).1 h'
    rw [hG.cnt] at this; omega
/-- And written: 99 at a place of it. -/
theorem fs_write {f d : Nat} (hf : f < n) (hn : n ≤ 1048576) (hd : d ≤ 4088) (hd8 : d % 8 = 0) (ho : ops < 4611686018427387904) : ∃ L, allZero L = false ∧
    ∀ x, FS w fr p bt bp m g n (updP pg (f : Int) none) ops Sp C cs x → Calls Try.prog 24 #[.pointer (some ⟨p, 0, none⟩), .int .u64 ((f * 4096 + d : Nat) : Int), .int .i64 8, .int .u64 99] x
      (fun e y => e = .returned (.int .i64 0) ∧ FS w fr p bt bp m g n (updP (updP pg (f : Int) none) (f : Int) (some L)) (ops + 1) Sp C cs y) := by
  have e1 : (f * 4096 + d) / 4096 = f := by omega
  have e2 : (f * 4096 + d) % 4096 = d := by omega
  have hpl : placeE n (f * 4096 + d) 8 = 0 := by
    rw [placeE_five, if_neg (by decide), if_neg (by omega), if_neg (by omega)]
  refine ⟨putL zeros4096 d 99 8, ?_, fun x hx => ?_⟩
  · cases ha : allZero (putL zeros4096 d 99 8) with
    | false => rfl
    | true =>
      have h := putL_at zeros4096 d 99 8 d
      rw [if_pos ⟨Nat.le_refl _, by omega, by rw [show zeros4096.length = 4096 from List.length_replicate]; omega⟩] at h
      have := List.all_eq_true.1 ha _ (List.mem_of_getElem? h)
      simp at this
  · have ht := fr_turn (frWrite (pool := 2) (St := allS 0 2) (fr := fr) (bt := bt) (bp := bp) (m := m) (p := p) (n := n) (pg := updP pg (f : Int) none) (Sp := Sp) (C := C) (f * 4096 + d) (by omega) 8 99 hpl ho) (sep_loc locs_fr) hx
    unfold wroteOf at ht
    rw [e1, e2, pageOf_same] at ht
    exact ht
end
end Go.Proofs.Ytnmccihgiphmjaa
namespace Go.Proofs.Ytnmccihgiphmjaa
set_option linter.unusedVariables false
set_option linter.unusedSimpArgs false
open Go.RowKit
end Go.Proofs.Ytnmccihgiphmjaa
namespace Go.Proofs.Ytnmccihgiphmjaa
set_option linter.unusedVariables false
set_option linter.unusedSimpArgs false
open Go.RowKit
theorem i64_mask3 (n : Int) : bits .and .i64 n 3 = n % 4 := by
  have h0 : (BitVec.ofInt 64 3).toNat = 2 ^ 2 - 1 := by decide
  have key : (BitVec.ofInt 64 n &&& BitVec.ofInt 64 3).toNat = (n % ((2 ^ 64 : Nat) : Int)).toNat % 2 ^ 2 := by
    rw [BitVec.toNat_and, BitVec.toNat_ofInt, h0, Nat.and_two_pow_sub_one_eq_mod]
  show IntKind.i64.wrap ((BitVec.ofInt 64 n &&& BitVec.ofInt 64 3).toNat : Nat) = n % 4
  rw [key, IntKind.wrap_i64]
  omega
theorem i64_mask63 (n : Int) : bits .and .i64 n 63 = n % 64 := by
  have h0 : (BitVec.ofInt 64 63).toNat = 2 ^ 6 - 1 := by decide
  have key : (BitVec.ofInt 64 n &&& BitVec.ofInt 64 63).toNat = (n % ((2 ^ 64 : Nat) : Int)).toNat % 2 ^ 6 := by
    rw [BitVec.toNat_and, BitVec.toNat_ofInt, h0, Nat.and_two_pow_sub_one_eq_mod]
  show IntKind.i64.wrap ((BitVec.ofInt 64 n &&& BitVec.ofInt 64 63).toNat : Nat) = n % 64
  rw [key, IntKind.wrap_i64]
  omega
end Go.Proofs.Ytnmccihgiphmjaa
namespace Go.Proofs.Ytnmccihgiphmjaa
set_option linter.unusedVariables false
set_option linter.unusedSimpArgs false
open Go.RowKit
section
variable {n p gp gb : Nat} {w x y : World} {P : List Nat} {pg pg' : Int → Option (List Nat)} {F F' on : List Bool}
end
end Go.Proofs.Ytnmccihgiphmjaa
namespace Go.Proofs.Ytnmccihgiphmjaa
set_option linter.unusedVariables false
set_option linter.unusedSimpArgs false
open Go.ChangeShapes Go.WideShapes Go.Deep Go.RowKit Go.Joins
/-- A slice of whole numbers reads as l. -/
def Ints (w : World) (ad : Option Addr) (c : Nat) (l : List Int) : Prop :=
  l.length ≤ c ∧ c ≤ maxLen ∧ (ad = none → c = 0) ∧ ∀ (k : Nat) (x : Int), l[k]? = some x → I64 x ∧ ∃ bb off, ad = some ⟨bb, off, none⟩ ∧ bb < w.heap.size ∧ w.cell? ⟨bb, off + k, none⟩ = some (.int .i64 x)
section
variable {H : Type} {enc : TypeId × Value → H} {P : Program} {w : World}
end
end Go.Proofs.Ytnmccihgiphmjaa
namespace Go.Proofs.Ytnmccihgiphmjaa
set_option linter.unusedVariables false
set_option linter.unusedSimpArgs false
open Go.ChangeShapes Go.WideShapes Go.Deep Go.RowKit Go.Joins
section
variable {H : Type} {enc : TypeId × Value → H} {P : Program} {w : World}
end
end Go.Proofs.Ytnmccihgiphmjaa
namespace Go.Proofs.Ytnmccihgiphmjaa
set_option linter.unusedVariables false
set_option linter.unusedSimpArgs false
open Go.ChangeShapes Go.WideShapes Go.Deep Go.RowKit Go.Joins
section
variable {H : Type} {enc : TypeId × Value → H} {P : Program} {w : World}
/-- A step of the disk's statement, as it was handed in. -/
structure DOp where
  kind : Int
  slot : Int
  aad : Option Addr
  aca : Nat
  at_ : List Int
  bad : Option Addr
  bca : Nat
  bs : List Nat
  fad : Option Addr
  fca : Nat
  fs : List Bool
  other : Bool
/-- Its cells. -/
def DOp.cells (x : DOp) : List Value := [.int .i64 x.kind, .int .i64 x.slot, .slice x.aad x.at_.length x.aca, .slice x.bad x.bs.length x.bca, .slice x.fad x.fs.length x.fca, .bool x.other]
/-- What its slices read as. -/
def DOp.ok (w : World) (x : DOp) : Prop := I64 x.kind ∧ I64 x.slot ∧ Ints w x.aad x.aca x.at_ ∧ Bytes w x.bad x.bca x.bs ∧ Bools w x.fad x.fca x.fs
end
end Go.Proofs.Ytnmccihgiphmjaa
namespace Go.Proofs.Ytnmccihgiphmjaa
set_option linter.unusedVariables false
set_option linter.unusedSimpArgs false
open Go.ChangeShapes Go.WideShapes Go.Deep Go.RowKit Go.Joins
section
variable {H : Type} {enc : TypeId × Value → H} {P : Program} {w : World}
end
end Go.Proofs.Ytnmccihgiphmjaa
