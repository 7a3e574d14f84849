/- A map from whole numbers: a block that reads as a function and a count. No function of the program stands here. -/
import Derived.Test.YtfiofjalpaeohaaBase
import Derived.MapKept
import Derived.WideLaws
namespace Go.Proofs.Ytfiofjalpaeohaa
set_option linter.unusedVariables false
set_option linter.unusedSimpArgs false
open Go.RowKit Go.MapKept

/-- The first with a key, and its place. -/
def seekL : List (Int × Value) → Int → Nat → Option (Nat × Value)
  | [], _, _ => none
  | x :: l, k, i => if k = x.1 then some (i, x.2) else seekL l k (i + 1)

def assocL (l : List (Int × Value)) (k : Int) : Option Value := (seekL l k 0).map (·.2)

theorem seekL_shift : ∀ (l : List (Int × Value)) (k : Int) (i : Nat), seekL l k (i + 1) = (seekL l k i).map fun x => (x.1 + 1, x.2)
  | [], k, i => rfl
  | x :: l, k, i => by
    unfold seekL
    split
    · rfl
    · exact seekL_shift l k (i + 1)
theorem assocL_cons (x : Int × Value) (l : List (Int × Value)) (k : Int) : assocL (x :: l) k = if k = x.1 then some x.2 else assocL l k := by
  unfold assocL
  rw [seekL]
  split
  · rfl
  · rw [seekL_shift]
    cases seekL l k 0 <;> rfl

/-- The entries of an array, as pairs. -/
def Entries (es : List MapEntry) (l : List (Int × Value)) : Prop := es.map (fun e => (e.key, e.val)) = l.map (fun x => (Value.int .i64 x.1, x.2))

theorem find_now : ∀ (es : List MapEntry) (l : List (Int × Value)) (k : Int) (i : Nat), Entries es l → Instr.findNow (.int .i64) (.int .i64 k) es i = some (seekL l k i)
  | [], [], k, i, _ => rfl
  | [], x :: l, k, i, h => by simp [Entries] at h
  | e :: es, [], k, i, h => by simp [Entries] at h
  | e :: es, x :: l, k, i, h => by
    obtain ⟨h1, h2⟩ : ((e.key, e.val) = (Value.int .i64 x.1, x.2)) ∧ Entries es l := by
      unfold Entries at h
      simp only [List.map_cons, List.cons.injEq] at h
      exact h
    have hk : e.key = .int .i64 x.1 := (Prod.mk.inj h1).1
    have hv : e.val = x.2 := (Prod.mk.inj h1).2
    unfold Instr.findNow seekL
    rw [hk]
    by_cases hkx : k = x.1
    · have hb : (k == x.1) = true := beq_iff_eq.2 hkx
      simp [Instr.sameNow, hkx, hv]
    · have hb : (k == x.1) = false := beq_eq_false_iff_ne.2 hkx
      simp only [Instr.sameNow, if_true, hb, if_neg hkx]
      exact find_now es l k (i + 1) h2

/-- Block m is a map that reads as f, of n keys. -/
def IsMap (w : World) (m : Nat) (f : Int → Option Value) (n : Nat) : Prop :=
  ∃ es clock l, w.heap[m]? = some (.map es clock) ∧ Entries es.toList l ∧ (l.map Prod.fst).Nodup ∧ l.length = n ∧ ∀ k, f k = assocL l k

theorem isMap_old {w x : World} {m n : Nat} {f : Int → Option Value} (h : IsMap w m f n) (ho : Old w x) : IsMap x m f n := by
  obtain ⟨es, clock, l, hb, r⟩ := h
  exact ⟨es, clock, l, keep_old ho hb, r⟩
theorem isMap_only {F : Nat → Prop} {w x : World} {m n : Nat} {f : Int → Option Value} (h : IsMap w m f n) (ho : Only F w x) (hF : ¬ F m) : IsMap x m f n := by
  obtain ⟨es, clock, l, hb, r⟩ := h
  exact ⟨es, clock, l, keep_only ho hF hb, r⟩
theorem isMap_lt {w : World} {m n : Nat} {f : Int → Option Value} (h : IsMap w m f n) : m < w.heap.size := by
  obtain ⟨es, clock, l, hb, r⟩ := h
  exact lt_of_block hb
theorem isMap_made (w : World) : IsMap (w.alloc (.map #[] 0)) w.heap.size (fun _ => none) 0 := ⟨#[], 0, [], new_block w _, rfl, List.nodup_nil, rfl, fun _ => rfl⟩

section
variable {P : Program} {t k e : TypeId} {w : World} {m n : Nat} {f : Int → Option Value}

theorem map_seek (hk : P.underlying k = some (.int .i64)) {es : Array MapEntry} {l : List (Int × Value)} (he : Entries es.toList l) (x : Int) :
    (Instr.findKey k (.int .i64 x) es.toList).run P w = .ok (seekL l x 0) w := run_findKey hk (find_now _ _ _ _ he)

theorem map_lookup (ht : P.underlying t = some (.map k e)) (hk : P.underlying k = some (.int .i64)) (h : IsMap w m f n) {x : Int} {v : Value} (hx : f x = some v) :
    (Instr.lookup t (.map (some m)) (.int .i64 x) true).run P w = .ok (.tuple #[v, .bool true]) w := by
  obtain ⟨es, clock, l, hb, he, _, _, hf⟩ := h
  rw [hf, assocL] at hx
  obtain ⟨y, hy, rfl⟩ := Option.map_eq_some_iff.1 hx
  have h1 := Go.MapKept.run_getObj_map (P := P) hb
  have h2 := run_checkKey (P := P) (w := w) (k := .int .i64 x) hk (by first | trivial | exact ⟨_, rfl⟩ | simp [IsKey]) es.isEmpty 9999
  have h3 := map_seek (w := w) hk he x
  rw [hy] at h3
  simp [Instr.lookup, Sem.run_bind, run_underlying ht, Result.andThen, h1, h2, h3]
theorem map_miss (ht : P.underlying t = some (.map k e)) (hk : P.underlying k = some (.int .i64)) {z : Value} (hz : (zeroValue e).run P w = .ok z w) (h : IsMap w m f n) {x : Int} (hx : f x = none) :
    (Instr.lookup t (.map (some m)) (.int .i64 x) true).run P w = .ok (.tuple #[z, .bool false]) w := by
  obtain ⟨es, clock, l, hb, he, _, _, hf⟩ := h
  rw [hf, assocL] at hx
  have hy : seekL l x 0 = none := Option.map_eq_none_iff.1 hx
  have h1 := Go.MapKept.run_getObj_map (P := P) hb
  have h2 := run_checkKey (P := P) (w := w) (k := .int .i64 x) hk (by first | trivial | exact ⟨_, rfl⟩ | simp [IsKey]) es.isEmpty 9999
  have h3 := map_seek (w := w) hk he x
  rw [hy] at h3
  simp [Instr.lookup, Sem.run_bind, run_underlying ht, Result.andThen, h1, h2, h3, hz]

theorem map_len {ty : TypeId} (ht : P.underlying t = some (.map k e)) (h : IsMap w m f n) : (Builtin.len_ #[t] ty #[.map (some m)]).run P w = .ok (.int .i64 n) w := by
  obtain ⟨es, clock, l, hb, he, _, hn, hf⟩ := h
  have hz : es.size = n := by
    have := congrArg List.length he
    simpa [hn] using this
  rw [← hz]
  have h1 := Go.MapKept.run_getObj_map (P := P) hb
  simp [Builtin.len_, Sem.run_bind, run_underlying ht, Result.andThen, h1]
  rfl

/-- Another value at a key. -/
def updF (f : Int → Option Value) (x : Int) (v : Option Value) : Int → Option Value := fun y => if y = x then v else f y

theorem seek_some : ∀ {l : List (Int × Value)} {x : Int} {i : Nat} {y : Nat × Value}, seekL l x i = some y → ∃ a b, l = a ++ (x, y.2) :: b ∧ y.1 = i + a.length ∧ x ∉ a.map Prod.fst
  | [], x, i, y, h => by cases h
  | z :: l, x, i, y, h => by
    unfold seekL at h
    split at h
    · rename_i hx
      obtain rfl := Option.some.inj h
      exact ⟨[], l, by rw [hx]; rfl, by simp, by simp⟩
    · rename_i hx
      obtain ⟨a, b, rfl, h2, h3⟩ := seek_some h
      refine ⟨z :: a, b, rfl, by simp; omega, ?_⟩
      simp only [List.map_cons, List.mem_cons, not_or]
      exact ⟨hx, h3⟩

theorem assocL_append : ∀ (a b : List (Int × Value)) (k : Int), assocL (a ++ b) k = (assocL a k).or (assocL b k)
  | [], b, k => rfl
  | z :: a, b, k => by
    rw [List.cons_append, assocL_cons, assocL_cons, assocL_append a b k]
    split <;> rfl
theorem assocL_none : ∀ {a : List (Int × Value)} {k : Int}, k ∉ a.map Prod.fst → assocL a k = none
  | [], k, _ => rfl
  | z :: a, k, h => by
    simp only [List.map_cons, List.mem_cons, not_or] at h
    rw [assocL_cons, if_neg h.1, assocL_none h.2]
theorem assocL_mem : ∀ {a : List (Int × Value)} {k : Int}, assocL a k = none → k ∉ a.map Prod.fst
  | [], k, _ => by simp
  | z :: a, k, h => by
    rw [assocL_cons] at h
    split at h
    · cases h
    · rename_i hk
      simp only [List.map_cons, List.mem_cons, not_or]
      exact ⟨hk, assocL_mem h⟩

theorem entries_split {es : List MapEntry} {a b : List (Int × Value)} {y : Int × Value} (h : Entries es (a ++ y :: b)) :
    ∃ ea ee eb, es = ea ++ ee :: eb ∧ Entries ea a ∧ ee.key = .int .i64 y.1 ∧ ee.val = y.2 ∧ Entries eb b := by
  unfold Entries at h
  rw [List.map_append, List.map_cons] at h
  obtain ⟨ea, er, rfl, h1, h2⟩ := List.map_eq_append_iff.1 h
  obtain ⟨ee, eb, rfl, h3, h4⟩ := List.map_eq_cons_iff.1 h2
  exact ⟨ea, ee, eb, rfl, h1, (Prod.mk.inj h3).1, (Prod.mk.inj h3).2, h4⟩

theorem entries_join {ea eb : List MapEntry} {ee : MapEntry} {a b : List (Int × Value)} {y : Int × Value} (h1 : Entries ea a) (h2 : ee.key = .int .i64 y.1) (h3 : ee.val = y.2) (h4 : Entries eb b) : Entries (ea ++ ee :: eb) (a ++ y :: b) := by
  unfold Entries at *
  rw [List.map_append, List.map_cons, List.map_append, List.map_cons, h1, h4, h2, h3]
theorem entries_length {es : List MapEntry} {l : List (Int × Value)} (h : Entries es l) : es.length = l.length := by
  have := congrArg List.length h
  simpa using this

theorem modify_at {α : Type} (f : α → α) (x : α) (b : List α) : ∀ a : List α, (a ++ x :: b).modify a.length f = a ++ f x :: b
  | [] => by simp
  | z :: a => by
    have := modify_at f x b a
    simp [this]
theorem erase_at {α : Type} (x : α) (b : List α) : ∀ a : List α, (a ++ x :: b).eraseIdx a.length = a ++ b
  | [] => by simp
  | z :: a => by
    have := erase_at x b a
    simpa using this

/-- What a store or a delete leaves: block m is another map, all else is as it was. -/
theorem map_put (ht : P.underlying t = some (.map k e)) (hk : P.underlying k = some (.int .i64)) (h : IsMap w m f n) (x : Int) (v : Value) :
    ∃ w', (Instr.mapUpdate t (.map (some m)) (.int .i64 x) v).run P w = .ok () w' ∧ IsMap w' m (updF f x (some v)) (if (f x).isSome then n else n + 1) ∧ Only (fun j => j = m) w w' := by
  obtain ⟨es, clock, l, hb, he, hnd, hn, hf⟩ := h
  have h1 := Go.MapKept.run_getObj_map (P := P) hb
  have h2 := run_checkKey (P := P) (w := w) (k := .int .i64 x) hk (by first | trivial | exact ⟨_, rfl⟩ | simp [IsKey]) false 9999
  have h3 := map_seek (w := w) hk he x
  cases hs : seekL l x 0 with
  | none =>
    rw [hs] at h3
    have hfx : assocL l x = none := by rw [assocL, hs]; rfl
    refine ⟨putB w m (.map (es.push { key := .int .i64 x, val := v, born := clock }) (clock + 1)), ?_, ⟨_, _, l ++ [(x, v)], putB_same _ (lt_of_block hb), ?_, ?_, ?_, fun y => ?_⟩, (Only.refl _ w).putB _ fun _ => rfl⟩
    · have h4 := Go.MapKept.run_setObj_map (P := P) (.map (es.push { key := .int .i64 x, val := v, born := clock }) (clock + 1)) hb
      simp [Instr.mapUpdate, Sem.run_bind, run_underlying ht, Result.andThen, h1, h2, h3, h4]
      rfl
    · rw [Array.toList_push]
      exact entries_join (b := []) (eb := []) he rfl rfl rfl
    · rw [List.map_append, List.nodup_append]
      refine ⟨hnd, by simp, fun a ha b hb' => ?_⟩
      simp at hb'
      subst hb'
      intro hab
      subst hab
      exact assocL_mem hfx ha
    · rw [hf, hfx, List.length_append, hn]
      rfl
    · unfold updF
      rw [assocL_append, ← hf y, assocL_cons]
      by_cases hy : y = x
      · subst hy
        rw [if_pos rfl, hf, hfx, if_pos rfl]; rfl
      · rw [if_neg hy, if_neg hy]
        cases f y <;> rfl
  | some q =>
    rw [hs] at h3
    obtain ⟨a, b, rfl, hq, hna⟩ := seek_some hs
    obtain ⟨ea, ee, eb, hes, e1, e2, e3, e4⟩ := entries_split he
    have hfx : assocL (a ++ (x, q.2) :: b) x = some q.2 := by rw [assocL_append, assocL_none hna, assocL_cons, if_pos rfl]; rfl
    have hql : q.1 = ea.length := by rw [hq, entries_length e1]; omega
    have hget : es[q.1]? = some ee := by
      rw [← Array.getElem?_toList, hes, hql, List.getElem?_append_right (Nat.le_refl _)]
      simp
    have hmod : (es.modify q.1 fun z => { z with key := .int .i64 x, val := v }).toList = ea ++ { ee with key := .int .i64 x, val := v } :: eb := by
      rw [Array.toList_modify, hes, hql]
      exact modify_at _ _ _ _
    have hstay : (Instr.keyThatStays (.int .i64 x) (.int .i64 x)).run P w = .ok (.int .i64 x) w := by
      unfold Instr.keyThatStays
      rw [if_pos (by simp [Instr.sameBits])]
      rfl
    refine ⟨putB w m (.map (es.modify q.1 fun z => { z with key := .int .i64 x, val := v }) clock), ?_, ⟨_, _, a ++ (x, v) :: b, putB_same _ (lt_of_block hb), ?_, ?_, ?_, fun y => ?_⟩, (Only.refl _ w).putB _ fun _ => rfl⟩
    · have h4 := Go.MapKept.run_setObj_map (P := P) (.map (es.modify q.1 fun z => { z with key := .int .i64 x, val := v }) clock) hb
      simp [Instr.mapUpdate, Sem.run_bind, run_underlying ht, Result.andThen, h1, h2, h3, hget, e2, hstay, h4]
      rfl
    · rw [hmod]
      exact entries_join e1 rfl rfl e4
    · simpa using hnd
    · rw [hf, hfx]
      simpa using hn
    · unfold updF
      rw [hf y, assocL_append, assocL_append, assocL_cons, assocL_cons]
      by_cases hy : y = x
      · subst hy
        rw [if_pos rfl, if_pos rfl, assocL_none hna]; rfl
      · rw [if_neg hy, if_neg hy, if_neg hy]

theorem map_del (ht : P.underlying t = some (.map k e)) (hk : P.underlying k = some (.int .i64)) (h : IsMap w m f n) (x : Int) (v : Value) (hx : f x = some v) :
    ∃ w', (∀ t2 ty : TypeId, (Builtin.delete_ #[t, t2] ty #[.map (some m), .int .i64 x]).run P w = .ok (.tuple #[]) w') ∧ IsMap w' m (updF f x none) (n - 1) ∧ 1 ≤ n ∧ Only (fun j => j = m) w w' := by
  obtain ⟨es, clock, l, hb, he, hnd, hn, hf⟩ := h
  have h1 := Go.MapKept.run_getObj_map (P := P) hb
  have h2 := run_checkKey (P := P) (w := w) (k := .int .i64 x) hk (by first | trivial | exact ⟨_, rfl⟩ | simp [IsKey]) es.isEmpty 9999
  have h3 := map_seek (w := w) hk he x
  cases hs : seekL l x 0 with
  | none =>
    have hfx : assocL l x = none := by rw [assocL, hs]; rfl
    rw [hf, hfx] at hx
    cases hx
  | some q =>
    rw [hs] at h3
    obtain ⟨a, b, rfl, hq, hna⟩ := seek_some hs
    obtain ⟨ea, ee, eb, hes, e1, e2, e3, e4⟩ := entries_split he
    have hql : q.1 = ea.length := by rw [hq, entries_length e1]; omega
    have hnb : x ∉ b.map Prod.fst := by
      have := hnd
      rw [List.map_append, List.map_cons, List.nodup_append] at this
      exact (List.nodup_cons.1 this.2.1).1
    refine ⟨putB w m (.map (es.eraseIdxIfInBounds q.1) clock), fun t2 ty => ?_, ⟨_, _, a ++ b, putB_same _ (lt_of_block hb), ?_, ?_, ?_, fun y => ?_⟩, ?_, (Only.refl _ w).putB _ fun _ => rfl⟩
    · have h4 := Go.MapKept.run_setObj_map (P := P) (.map (es.eraseIdxIfInBounds q.1) clock) hb
      simp [Builtin.delete_, Sem.run_bind, run_underlying ht, Result.andThen, h1, h2, h3, h4]
      rfl
    · have : (es.eraseIdxIfInBounds q.1).toList = ea ++ eb := by
        rw [Array.toList_eraseIdxIfInBounds, hes, hql]
        exact erase_at _ _ _
      rw [this]
      unfold Entries at *
      rw [List.map_append, List.map_append, e1, e4]
    · rw [List.map_append, List.map_cons] at hnd
      rw [List.map_append]
      exact (hnd.sublist (List.Sublist.append_left (List.sublist_cons_self _ _) _))
    · simp at hn ⊢
      omega
    · unfold updF
      rw [hf y, assocL_append, assocL_append, assocL_cons]
      by_cases hy : y = x
      · subst hy
        rw [if_pos rfl, assocL_none hna, assocL_none hnb]; rfl
      · rw [if_neg hy, if_neg hy]
    · simp at hn
      omega
end
end Go.Proofs.Ytfiofjalpaeohaa
