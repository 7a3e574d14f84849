/- MemAll: several texts in one, for a claim's limit of files: each part says what it is. -/
import Derived.Test.YtfiofjalpaeohaaBase
import Derived.Test.YtfiofjalpaeohaaBytes
import Derived.Test.YtfiofjalpaeohaaStage
import Derived.Test.YtfiofjalpaeohaaGoto
import Derived.Test.YtfiofjalpaeohaaStageW
import Derived.Test.YtfiofjalpaeohaaBitsGet
import Derived.Test.YtfiofjalpaeohaaBitsPut
import Derived.Test.YtfiofjalpaeohaaMark
import Derived.MapKept
import Derived.WideLaws
import Derived.Carry

/- A map from whole numbers: a block that reads as a function and a count. No function of the program stands here. -/
namespace Go.Proofs.Ytfiofjalpaeohaa
set_option linter.unusedVariables false
set_option linter.unusedSimpArgs false
open Go.RowKit Go.MapKept

/-- The first with a key, and its place. -/
def seekL : List (Int × Value) → Int → Nat → Option (Nat × Value)
  | [], _, _ => none
  | x :: l, k, i => if k = x.1 then some (i, x.2) else seekL l k (i + 1)

def assocL (l : List (Int × Value)) (k : Int) : Option Value := (seekL l k 0).map (·.2)

theorem seekL_shift : ∀ (l : List (Int × Value)) (k : Int) (i : Nat), seekL l k (i + 1) = (seekL l k i).map fun x => (x.1 + 1, x.2)
  | [], k, i => rfl
  | x :: l, k, i => by
    unfold seekL
    split
    · rfl
    · exact seekL_shift l k (i + 1)
theorem assocL_cons (x : Int × Value) (l : List (Int × Value)) (k : Int) : assocL (x :: l) k = if k = x.1 then some x.2 else assocL l k := by
  unfold assocL
  rw [seekL]
  split
  · rfl
  · rw [seekL_shift]
    cases seekL l k 0 <;> rfl

/-- The entries of an array, as pairs. -/
def Entries (es : List MapEntry) (l : List (Int × Value)) : Prop := es.map (fun e => (e.key, e.val)) = l.map (fun x => (Value.int .i64 x.1, x.2))

theorem find_now : ∀ (es : List MapEntry) (l : List (Int × Value)) (k : Int) (i : Nat), Entries es l → Instr.findNow (.int .i64) (.int .i64 k) es i = some (seekL l k i)
  | [], [], k, i, _ => rfl
  | [], x :: l, k, i, h => by simp [Entries] at h
  | e :: es, [], k, i, h => by simp [Entries] at h
  | e :: es, x :: l, k, i, h => by
    obtain ⟨h1, h2⟩ : ((e.key, e.val) = (Value.int .i64 x.1, x.2)) ∧ Entries es l := by
      unfold Entries at h
      simp only [List.map_cons, List.cons.injEq] at h
      exact h
    have hk : e.key = .int .i64 x.1 := (Prod.mk.inj h1).1
    have hv : e.val = x.2 := (Prod.mk.inj h1).2
    unfold Instr.findNow seekL
    rw [hk]
    by_cases hkx : k = x.1
    · have hb : (k == x.1) = true := beq_iff_eq.2 hkx
      simp [Instr.sameNow, hkx, hv]
    · have hb : (k == x.1) = false := beq_eq_false_iff_ne.2 hkx
      simp only [Instr.sameNow, if_true, hb, if_neg hkx]
      exact find_now es l k (i + 1) h2

/-- Block m is a map that reads as f, of n keys. -/
def IsMap (w : World) (m : Nat) (f : Int → Option Value) (n : Nat) : Prop :=
  ∃ es clock l, w.heap[m]? = some (.map es clock) ∧ Entries es.toList l ∧ (l.map Prod.fst).Nodup ∧ l.length = n ∧ ∀ k, f k = assocL l k

theorem isMap_old {w x : World} {m n : Nat} {f : Int → Option Value} (h : IsMap w m f n) (ho : Old w x) : IsMap x m f n := by
  obtain ⟨es, clock, l, hb, r⟩ := h
  exact ⟨es, clock, l, keep_old ho hb, r⟩
theorem isMap_only {F : Nat → Prop} {w x : World} {m n : Nat} {f : Int → Option Value} (h : IsMap w m f n) (ho : Only F w x) (hF : ¬ F m) : IsMap x m f n := by
  obtain ⟨es, clock, l, hb, r⟩ := h
  exact ⟨es, clock, l, keep_only ho hF hb, r⟩
theorem isMap_lt {w : World} {m n : Nat} {f : Int → Option Value} (h : IsMap w m f n) : m < w.heap.size := by
  obtain ⟨es, clock, l, hb, r⟩ := h
  exact lt_of_block hb
theorem isMap_made (w : World) : IsMap (w.alloc (.map #[] 0)) w.heap.size (fun _ => none) 0 := ⟨#[], 0, [], new_block w _, rfl, List.nodup_nil, rfl, fun _ => rfl⟩

section
variable {P : Program} {t k e : TypeId} {w : World} {m n : Nat} {f : Int → Option Value}

theorem map_seek (hk : P.underlying k = some (.int .i64)) {es : Array MapEntry} {l : List (Int × Value)} (he : Entries es.toList l) (x : Int) :
    (Instr.findKey k (.int .i64 x) es.toList).run P w = .ok (seekL l x 0) w := run_findKey hk (find_now _ _ _ _ he)

theorem map_lookup (ht : P.underlying t = some (.map k e)) (hk : P.underlying k = some (.int .i64)) (h : IsMap w m f n) {x : Int} {v : Value} (hx : f x = some v) :
    (Instr.lookup t (.map (some m)) (.int .i64 x) true).run P w = .ok (.tuple #[v, .bool true]) w := by
  obtain ⟨es, clock, l, hb, he, _, _, hf⟩ := h
  rw [hf, assocL] at hx
  obtain ⟨y, hy, rfl⟩ := Option.map_eq_some_iff.1 hx
  have h1 := Go.MapKept.run_getObj_map (P := P) hb
  have h2 := run_checkKey (P := P) (w := w) (k := .int .i64 x) hk (by first | trivial | exact ⟨_, rfl⟩ | simp [IsKey]) es.isEmpty 9999
  have h3 := map_seek (w := w) hk he x
  rw [hy] at h3
  simp [Instr.lookup, Sem.run_bind, run_underlying ht, Result.andThen, h1, h2, h3]
theorem map_miss (ht : P.underlying t = some (.map k e)) (hk : P.underlying k = some (.int .i64)) {z : Value} (hz : (zeroValue e).run P w = .ok z w) (h : IsMap w m f n) {x : Int} (hx : f x = none) :
    (Instr.lookup t (.map (some m)) (.int .i64 x) true).run P w = .ok (.tuple #[z, .bool false]) w := by
  obtain ⟨es, clock, l, hb, he, _, _, hf⟩ := h
  rw [hf, assocL] at hx
  have hy : seekL l x 0 = none := Option.map_eq_none_iff.1 hx
  have h1 := Go.MapKept.run_getObj_map (P := P) hb
  have h2 := run_checkKey (P := P) (w := w) (k := .int .i64 x) hk (by first | trivial | exact ⟨_, rfl⟩ | simp [IsKey]) es.isEmpty 9999
  have h3 := map_seek (w := w) hk he x
  rw [hy] at h3
  simp [Instr.lookup, Sem.run_bind, run_underlying ht, Result.andThen, h1, h2, h3, hz]

theorem map_len {ty : TypeId} (ht : P.underlying t = some (.map k e)) (h : IsMap w m f n) : (Builtin.len_ #[t] ty #[.map (some m)]).run P w = .ok (.int .i64 n) w := by
  obtain ⟨es, clock, l, hb, he, _, hn, hf⟩ := h
  have hz : es.size = n := by
    have := congrArg List.length he
    simpa [hn] using this
  rw [← hz]
  have h1 := Go.MapKept.run_getObj_map (P := P) hb
  simp [Builtin.len_, Sem.run_bind, run_underlying ht, Result.andThen, h1]
  rfl

/-- Another value at a key. -/
def updF (f : Int → Option Value) (x : Int) (v : Option Value) : Int → Option Value := fun y => if y = x then v else f y

theorem seek_some : ∀ {l : List (Int × Value)} {x : Int} {i : Nat} {y : Nat × Value}, seekL l x i = some y → ∃ a b, l = a ++ (x, y.2) :: b ∧ y.1 = i + a.length ∧ x ∉ a.map Prod.fst
  | [], x, i, y, h => by cases h
  | z :: l, x, i, y, h => by
    unfold seekL at h
    split at h
    · rename_i hx
      obtain rfl := Option.some.inj h
      exact ⟨[], l, by rw [hx]; rfl, by simp, by simp⟩
    · rename_i hx
      obtain ⟨a, b, rfl, h2, h3⟩ := seek_some h
      refine ⟨z :: a, b, rfl, by simp; omega, ?_⟩
      simp only [List.map_cons, List.mem_cons, not_or]
      exact ⟨hx, h3⟩

theorem assocL_append : ∀ (a b : List (Int × Value)) (k : Int), assocL (a ++ b) k = (assocL a k).or (assocL b k)
  | [], b, k => rfl
  | z :: a, b, k => by
    rw [List.cons_append, assocL_cons, assocL_cons, assocL_append a b k]
    split <;> rfl
theorem assocL_none : ∀ {a : List (Int × Value)} {k : Int}, k ∉ a.map Prod.fst → assocL a k = none
  | [], k, _ => rfl
  | z :: a, k, h => by
    simp only [List.map_cons, List.mem_cons, not_or] at h
    rw [assocL_cons, if_neg h.1, assocL_none h.2]
theorem assocL_mem : ∀ {a : List (Int × Value)} {k : Int}, assocL a k = none → k ∉ a.map Prod.fst
  | [], k, _ => by simp
  | z :: a, k, h => by
    rw [assocL_cons] at h
    split at h
    · cases h
    · rename_i hk
      simp only [List.map_cons, List.mem_cons, not_or]
      exact ⟨hk, assocL_mem h⟩

theorem entries_split {es : List MapEntry} {a b : List (Int × Value)} {y : Int × Value} (h : Entries es (a ++ y :: b)) :
    ∃ ea ee eb, es = ea ++ ee :: eb ∧ Entries ea a ∧ ee.key = .int .i64 y.1 ∧ ee.val = y.2 ∧ Entries eb b := by
  unfold Entries at h
  rw [List.map_append, List.map_cons] at h
  obtain ⟨ea, er, rfl, h1, h2⟩ := List.map_eq_append_iff.1 h
  obtain ⟨ee, eb, rfl, h3, h4⟩ := List.map_eq_cons_iff.1 h2
  exact ⟨ea, ee, eb, rfl, h1, (Prod.mk.inj h3).1, (Prod.mk.inj h3).2, h4⟩

theorem entries_join {ea eb : List MapEntry} {ee : MapEntry} {a b : List (Int × Value)} {y : Int × Value} (h1 : Entries ea a) (h2 : ee.key = .int .i64 y.1) (h3 : ee.val = y.2) (h4 : Entries eb b) : Entries (ea ++ ee :: eb) (a ++ y :: b) := by
  unfold Entries at *
  rw [List.map_append, List.map_cons, List.map_append, List.map_cons, h1, h4, h2, h3]
theorem entries_length {es : List MapEntry} {l : List (Int × Value)} (h : Entries es l) : es.length = l.length := by
  have := congrArg List.length h
  simpa using this

theorem modify_at {α : Type} (f : α → α) (x : α) (b : List α) : ∀ a : List α, (a ++ x :: b).modify a.length f = a ++ f x :: b
  | [] => by simp
  | z :: a => by
    have := modify_at f x b a
    simp [this]
theorem erase_at {α : Type} (x : α) (b : List α) : ∀ a : List α, (a ++ x :: b).eraseIdx a.length = a ++ b
  | [] => by simp
  | z :: a => by
    have := erase_at x b a
    simpa using this

/-- What a store or a delete leaves: block m is another map, all else is as it was. -/
theorem map_put (ht : P.underlying t = some (.map k e)) (hk : P.underlying k = some (.int .i64)) (h : IsMap w m f n) (x : Int) (v : Value) :
    ∃ w', (Instr.mapUpdate t (.map (some m)) (.int .i64 x) v).run P w = .ok () w' ∧ IsMap w' m (updF f x (some v)) (if (f x).isSome then n else n + 1) ∧ Only (fun j => j = m) w w' := by
  obtain ⟨es, clock, l, hb, he, hnd, hn, hf⟩ := h
  have h1 := Go.MapKept.run_getObj_map (P := P) hb
  have h2 := run_checkKey (P := P) (w := w) (k := .int .i64 x) hk (by first | trivial | exact ⟨_, rfl⟩ | simp [IsKey]) false 9999
  have h3 := map_seek (w := w) hk he x
  cases hs : seekL l x 0 with
  | none =>
    rw [hs] at h3
    have hfx : assocL l x = none := by rw [assocL, hs]; rfl
    refine ⟨putB w m (.map (es.push { key := .int .i64 x, val := v, born := clock }) (clock + 1)), ?_, ⟨_, _, l ++ [(x, v)], putB_same _ (lt_of_block hb), ?_, ?_, ?_, fun y => ?_⟩, (Only.refl _ w).putB _ fun _ => rfl⟩
    · have h4 := Go.MapKept.run_setObj_map (P := P) (.map (es.push { key := .int .i64 x, val := v, born := clock }) (clock + 1)) hb
      simp [Instr.mapUpdate, Sem.run_bind, run_underlying ht, Result.andThen, h1, h2, h3, h4]
      rfl
    · rw [Array.toList_push]
      exact entries_join (b := []) (eb := []) he rfl rfl rfl
    · rw [List.map_append, List.nodup_append]
      refine ⟨hnd, by simp, fun a ha b hb' => ?_⟩
      simp at hb'
      subst hb'
      intro hab
      subst hab
      exact assocL_mem hfx ha
    · rw [hf, hfx, List.length_append, hn]
      rfl
    · unfold updF
      rw [assocL_append, ← hf y, assocL_cons]
      by_cases hy : y = x
      · subst hy
        rw [if_pos rfl, hf, hfx, if_pos rfl]; rfl
      · rw [if_neg hy, if_neg hy]
        cases f y <;> rfl
  | some q =>
    rw [hs] at h3
    obtain ⟨a, b, rfl, hq, hna⟩ := seek_some hs
    obtain ⟨ea, ee, eb, hes, e1, e2, e3, e4⟩ := entries_split he
    have hfx : assocL (a ++ (x, q.2) :: b) x = some q.2 := by rw [assocL_append, assocL_none hna, assocL_cons, if_pos rfl]; rfl
    have hql : q.1 = ea.length := by rw [hq, entries_length e1]; omega
    have hget : es[q.1]? = some ee := by
      rw [← Array.getElem?_toList, hes, hql, List.getElem?_append_right (Nat.le_refl _)]
      simp
    have hmod : (es.modify q.1 fun z => { z with key := .int .i64 x, val := v }).toList = ea ++ { ee with key := .int .i64 x, val := v } :: eb := by
      rw [Array.toList_modify, hes, hql]
      exact modify_at _ _ _ _
    have hstay : (Instr.keyThatStays (.int .i64 x) (.int .i64 x)).run P w = .ok (.int .i64 x) w := by
      unfold Instr.keyThatStays
      rw [if_pos (by simp [Instr.sameBits])]
      rfl
    refine ⟨putB w m (.map (es.modify q.1 fun z => { z with key := .int .i64 x, val := v }) clock), ?_, ⟨_, _, a ++ (x, v) :: b, putB_same _ (lt_of_block hb), ?_, ?_, ?_, fun y => ?_⟩, (Only.refl _ w).putB _ fun _ => rfl⟩
    · have h4 := Go.MapKept.run_setObj_map (P := P) (.map (es.modify q.1 fun z => { z with key := .int .i64 x, val := v }) clock) hb
      simp [Instr.mapUpdate, Sem.run_bind, run_underlying ht, Result.andThen, h1, h2, h3, hget, e2, hstay, h4]
      rfl
    · rw [hmod]
      exact entries_join e1 rfl rfl e4
    · simpa using hnd
    · rw [hf, hfx]
      simpa using hn
    · unfold updF
      rw [hf y, assocL_append, assocL_append, assocL_cons, assocL_cons]
      by_cases hy : y = x
      · subst hy
        rw [if_pos rfl, if_pos rfl, assocL_none hna]; rfl
      · rw [if_neg hy, if_neg hy, if_neg hy]

theorem map_del (ht : P.underlying t = some (.map k e)) (hk : P.underlying k = some (.int .i64)) (h : IsMap w m f n) (x : Int) (v : Value) (hx : f x = some v) :
    ∃ w', (∀ t2 ty : TypeId, (Builtin.delete_ #[t, t2] ty #[.map (some m), .int .i64 x]).run P w = .ok (.tuple #[]) w') ∧ IsMap w' m (updF f x none) (n - 1) ∧ 1 ≤ n ∧ Only (fun j => j = m) w w' := by
  obtain ⟨es, clock, l, hb, he, hnd, hn, hf⟩ := h
  have h1 := Go.MapKept.run_getObj_map (P := P) hb
  have h2 := run_checkKey (P := P) (w := w) (k := .int .i64 x) hk (by first | trivial | exact ⟨_, rfl⟩ | simp [IsKey]) es.isEmpty 9999
  have h3 := map_seek (w := w) hk he x
  cases hs : seekL l x 0 with
  | none =>
    have hfx : assocL l x = none := by rw [assocL, hs]; rfl
    rw [hf, hfx] at hx
    cases hx
  | some q =>
    rw [hs] at h3
    obtain ⟨a, b, rfl, hq, hna⟩ := seek_some hs
    obtain ⟨ea, ee, eb, hes, e1, e2, e3, e4⟩ := entries_split he
    have hql : q.1 = ea.length := by rw [hq, entries_length e1]; omega
    have hnb : x ∉ b.map Prod.fst := by
      have := hnd
      rw [List.map_append, List.map_cons, List.nodup_append] at this
      exact (List.nodup_cons.1 this.2.1).1
    refine ⟨putB w m (.map (es.eraseIdxIfInBounds q.1) clock), fun t2 ty => ?_, ⟨_, _, a ++ b, putB_same _ (lt_of_block hb), ?_, ?_, ?_, fun y => ?_⟩, ?_, (Only.refl _ w).putB _ fun _ => rfl⟩
    · have h4 := Go.MapKept.run_setObj_map (P := P) (.map (es.eraseIdxIfInBounds q.1) clock) hb
      simp [Builtin.delete_, Sem.run_bind, run_underlying ht, Result.andThen, h1, h2, h3, h4]
      rfl
    · have : (es.eraseIdxIfInBounds q.1).toList = ea ++ eb := by
        rw [Array.toList_eraseIdxIfInBounds, hes, hql]
        exact erase_at _ _ _
      rw [this]
      unfold Entries at *
      rw [List.map_append, List.map_append, e1, e4]
    · rw [List.map_append, List.map_cons] at hnd
      rw [List.map_append]
      exact (hnd.sublist (List.Sublist.append_left (List.sublist_cons_self _ _) _))
    · simp at hn ⊢
      omega
    · unfold updF
      rw [hf y, assocL_append, assocL_append, assocL_cons]
      by_cases hy : y = x
      · subst hy
        rw [if_pos rfl, assocL_none hna, assocL_none hnb]; rfl
      · rw [if_neg hy, if_neg hy]
    · simp at hn
      omega
end
end Go.Proofs.Ytfiofjalpaeohaa
/- Contracts of the package disk. -/
namespace Go.Proofs.Ytfiofjalpaeohaa
set_option linter.unusedVariables false
set_option linter.unusedSimpArgs false
open Go.RowKit

/-- How many of the first n are there. -/
def cntOf (pg : Int → Option (List Nat)) : Nat → Nat
  | 0 => 0
  | n + 1 => cntOf pg n + if (pg n).isSome then 1 else 0

theorem cnt_le (pg : Int → Option (List Nat)) (n : Nat) : cntOf pg n ≤ n := by
  induction n with
  | zero => exact Nat.le_refl _
  | succ n ih => unfold cntOf; split <;> omega

/-- Another page at a slot. -/
def updP (pg : Int → Option (List Nat)) (k : Int) (v : Option (List Nat)) : Int → Option (List Nat) := fun y => if y = k then v else pg y

theorem cnt_out (pg : Int → Option (List Nat)) (k : Int) (v : Option (List Nat)) (n : Nat) (h : (n : Int) ≤ k) : cntOf (updP pg k v) n = cntOf pg n := by
  induction n with
  | zero => rfl
  | succ n ih =>
    unfold cntOf
    rw [ih (by omega)]
    rw [show updP pg k v (n : Int) = pg (n : Int) by unfold updP; rw [if_neg (by omega)]]

theorem cnt_upd (pg : Int → Option (List Nat)) (k : Nat) (v : Option (List Nat)) (n : Nat) (h : k < n) : cntOf (updP pg k v) n + (if (pg k).isSome then 1 else 0) = cntOf pg n + if v.isSome then 1 else 0 := by
  induction n with
  | zero => omega
  | succ n ih =>
    unfold cntOf
    by_cases hk : k = n
    · subst hk
      rw [cnt_out pg k v k (by omega), show updP pg (k : Int) v (k : Int) = v by unfold updP; rw [if_pos rfl]]
      omega
    · rw [show updP pg k v (n : Int) = pg (n : Int) by unfold updP; rw [if_neg (by omega)]]
      have := ih (by omega)
      omega

theorem cnt_full (pg : Int → Option (List Nat)) (n : Nat) (h : ∀ j : Nat, j < n → (pg j).isSome = true) : cntOf pg n = n := by
  induction n with
  | zero => rfl
  | succ n ih =>
    unfold cntOf
    rw [ih (fun j hj => h j (by omega)), h n (by omega)]
    rfl

/-- The least slot that is free. -/
theorem least_free (pg : Int → Option (List Nat)) (n : Nat) (h : cntOf pg n ≠ n) : ∃ i : Nat, i < n ∧ pg i = none ∧ ∀ j : Nat, j < i → (pg j).isSome = true := by
  induction n with
  | zero => exact absurd rfl h
  | succ n ih =>
    by_cases hc : cntOf pg n = n
    · refine ⟨n, by omega, ?_, fun j hj => ?_⟩
      · unfold cntOf at h
        cases hp : pg n with
        | none => rfl
        | some l => rw [hp, hc] at h; exact absurd rfl h
      · by_cases hj2 : (pg j).isSome = true
        · exact hj2
        · have h1 := cnt_le pg n
          exfalso
          have : ∀ m : Nat, j < m → cntOf pg m < m := by
            intro m hm
            induction m with
            | zero => omega
            | succ m im =>
              unfold cntOf
              by_cases e : j = m
              · subst e
                rw [if_neg hj2]
                have := cnt_le pg j
                omega
              · have := im (by omega)
                split <;> omega
          have := this n hj
          omega
    · obtain ⟨i, h1, h2, h3⟩ := ih hc
      exact ⟨i, by omega, h2, h3⟩

/-- The cells of a disk. -/
def diskCells (slots m : Nat) (fails : Value) : Array Value := #[.int .i64 slots, .map (some m), fails]

/-- A page's slice. -/
def PageIs (w : World) (X : Nat → Prop) (p m : Nat) (v : Value) (l : List Nat) : Prop :=
  ∃ g c, v = .slice (some ⟨g, 0, none⟩) 4096 c ∧ l.length = 4096 ∧ Row w 0 g c l ∧ ¬ X g ∧ g ≠ p ∧ g ≠ m

/-- What is to fail. -/
def FailsIs (w : World) (X : Nat → Prop) (p m : Nat) (v : Value) (F : List Bool) : Prop :=
  ∃ ad c, v = .slice ad F.length c ∧ F.length ≤ c ∧ c ≤ maxLen ∧ ∀ (k : Nat) (x : Bool), F[k]? = some x → ∃ g off, ad = some ⟨g, off, none⟩ ∧ ¬ X g ∧ g ≠ p ∧ g ≠ m ∧ g < w.heap.size ∧ w.cell? ⟨g, off + k, none⟩ = some (.bool x)

/-- Block p holds a disk; X: blocks that are not its own. -/
def IsDisk (w : World) (X : Nat → Prop) (p slots : Nat) (pg : Int → Option (List Nat)) (F : List Bool) : Prop :=
  ∃ m f fv, w.heap[p]? = some (.cells (diskCells slots m fv) 108) ∧ ¬ X p ∧ IsMap w m f (cntOf pg slots) ∧ ¬ X m ∧ m ≠ p ∧ slots ≤ 4096 ∧
    (∀ k : Int, (pg k).isSome = true → 0 ≤ k ∧ k < slots) ∧ (∀ k, pg k = none → f k = none) ∧ (∀ k l, pg k = some l → ∃ v, f k = some v ∧ PageIs w X p m v l) ∧ FailsIs w X p m fv F

section
variable {w x : World} {X Y : Nat → Prop} {p m slots : Nat} {pg : Int → Option (List Nat)} {F : List Bool} {v : Value} {l : List Nat}

theorem page_only {G : Nat → Prop} (h : PageIs w X p m v l) (ho : Only G w x) (hG : ∀ b, ¬ X b → b ≠ p → b ≠ m → ¬ G b) : PageIs x X p m v l := by
  obtain ⟨g, c, rfl, h1, h2, h3, h4, h5⟩ := h
  exact ⟨g, c, rfl, h1, row_only h2 ho (hG g h3 h4 h5), h3, h4, h5⟩
theorem fails_only {G : Nat → Prop} (h : FailsIs w X p m v F) (ho : Only G w x) (hG : ∀ b, ¬ X b → b ≠ p → b ≠ m → ¬ G b) : FailsIs x X p m v F := by
  obtain ⟨ad, c, rfl, h1, h2, h3⟩ := h
  refine ⟨ad, c, rfl, h1, h2, fun k y hy => ?_⟩
  obtain ⟨g, off, e, a1, a2, a3, a4, a5⟩ := h3 k y hy
  exact ⟨g, off, e, a1, a2, a3, Nat.lt_of_lt_of_le a4 ho.size, by rw [ho.cell g _ a4 (hG g a1 a2 a3)]; exact a5⟩

/-- Others' blocks were turned. -/
theorem disk_only {G : Nat → Prop} (h : IsDisk w X p slots pg F) (ho : Only G w x) (hG : ∀ b, ¬ X b → ¬ G b) : IsDisk x X p slots pg F := by
  obtain ⟨m, f, fv, h1, h2, h3, h4, h5, h6, h7, h8, h9, hA⟩ := h
  refine ⟨m, f, fv, keep_only ho (hG p h2) h1, h2, isMap_only h3 ho (hG m h4), h4, h5, h6, h7, h8, fun k l hk => ?_, fails_only hA ho fun b hb _ _ => hG b hb⟩
  obtain ⟨v, a, b⟩ := h9 k l hk
  exact ⟨v, a, page_only b ho fun b hb _ _ => hG b hb⟩
theorem disk_old (h : IsDisk w X p slots pg F) (ho : Old w x) : IsDisk x X p slots pg F := disk_only h (Only.of_below ho) fun _ _ f => f
/-- More blocks that are not the disk's own. -/
theorem disk_more (h : IsDisk w X p slots pg F) (hY : ∀ b, Y b → X b ∨ w.heap.size ≤ b) : IsDisk w Y p slots pg F := by
  obtain ⟨m, f, fv, h1, h2, h3, h4, h5, h6, h7, h8, h9, hA⟩ := h
  have key : ∀ b, ¬ X b → b < w.heap.size → ¬ Y b := fun b hb hl hy => (hY b hy).elim hb (by omega)
  refine ⟨m, f, fv, h1, key p h2 (lt_of_block h1), h3, key m h4 (isMap_lt h3), h5, h6, h7, h8, fun k l hk => ?_, ?_⟩
  · obtain ⟨v, a, g, c, rfl, b1, b2, b3, b4, b5⟩ := h9 k l hk
    exact ⟨_, a, g, c, rfl, b1, b2, key g b3 (row_parts b2).2.1, b4, b5⟩
  · obtain ⟨ad, c, rfl, a1, a2, a3⟩ := hA
    refine ⟨ad, c, rfl, a1, a2, fun k y hy => ?_⟩
    obtain ⟨g, off, e, b1, b2, b3, b4, b5⟩ := a3 k y hy
    exact ⟨g, off, e, key g b1 b4, b2, b3, b4, b5⟩
end

/-- What a method of the disk leaves. -/
def RetDisk (w : World) (X : Nat → Prop) (p slots : Nat) (v : Value) (pg : Int → Option (List Nat)) (F : List Bool) (e : Ending) (w' : World) : Prop :=
  e = .returned v ∧ IsDisk w' X p slots pg F ∧ Only (fun b => ¬ X b) w w'

set_option maxHeartbeats 1000000 in
theorem left_calls (X : Nat → Prop) (p slots : Nat) (pg : Int → Option (List Nat)) (F : List Bool) (w : World) (h : IsDisk w X p slots pg F) :
    Calls Try.prog 27 #[.pointer (some ⟨p, 0, none⟩)] w (RetB w (.int .i64 F.length)) := by
  obtain ⟨m, f, fv, h1, h2, h3, h4, h5, h6, h7, h8, h9, ad, c, rfl, _⟩ := h
  have c2 : w.cell? ⟨p, 2, none⟩ = some (.slice ad F.length c) := by rw [cell_of h1]; rfl
  clear h1 h2 h3 h4 h5 h6 h7 h8 h9
  go_enter Try.func27, Try.ntmps27
  go_wp2
  go_ret
  exact ⟨rfl, old_refl _⟩

set_option maxHeartbeats 1000000 in
theorem free_calls (X : Nat → Prop) (p slots : Nat) (pg : Int → Option (List Nat)) (F : List Bool) (w : World) (h : IsDisk w X p slots pg F) :
    Calls Try.prog 25 #[.pointer (some ⟨p, 0, none⟩)] w (RetB w (.int .i64 (slots - cntOf pg slots : Nat))) := by
  obtain ⟨m, f, fv, h1, h2, h3, h4, h5, h6, h7, h8, h9, hA⟩ := h
  have c0 : w.cell? ⟨p, 0, none⟩ = some (.int .i64 slots) := by rw [cell_of h1]; rfl
  have c1 : w.cell? ⟨p, 1, none⟩ = some (.map (some m)) := by rw [cell_of h1]; rfl
  have hle := cnt_le pg slots
  have hlen := fun ty => map_len (P := Try.prog) (t := 106) (ty := ty) Try.underlying106 (isMap_old h3 (old_drew (old_refl w)))
  have hsub : (slots : Int) - (cntOf pg slots : Nat) = ((slots - cntOf pg slots : Nat) : Int) := by omega
  clear h1 h2 h3 h4 h5 h7 h8 h9 hA
  generalize cntOf pg slots = n at *
  go_enter Try.func25, Try.ntmps25
  go_wp2
  refine wp_region_walked (S := Is w.drew) (by kernel_rfl) (by kernel_rfl) rfl ?_
  repeat (apply walked_cons; (first | exact gives_and rfl rfl rfl rfl | exact gives_or rfl rfl rfl rfl | (focus (intro wS hS; cases hS; go_wp2; exact ⟨rfl, rfl, rfl⟩; done)) | (focus (apply gives_guard; (focus (first | exact wanted_yes rfl rfl rfl | exact wanted_no rfl rfl rfl | exact wanted_yes2 rfl rfl rfl | exact wanted_no2 rfl rfl rfl)); (focus (intro hx9; (try simp only [Bool.not_eq_true', Bool.and_eq_true, Bool.not_not] at hx9); (try obtain ⟨hx9, hy9⟩ := hx9); (try subst hy9); (try subst hx9); (first | exact gives_and rfl rfl rfl rfl | exact gives_or rfl rfl rfl rfl | (intro wS hS; cases hS; go_wp2; exact ⟨rfl, rfl, rfl⟩; done))))))); rfl; (try simp only [Act.put, List.setIfInBounds_toArray, List.set_cons_succ, List.set_cons_zero]))
  apply walked_nil
  intro wS hS
  cases hS
  go_wp2
  go_ret
  refine ⟨?_, old_drew (old_refl _)⟩
  rw [← hsub]
  rfl
end Go.Proofs.Ytfiofjalpaeohaa
/- Contracts of the package disk: what turns it. -/
namespace Go.Proofs.Ytfiofjalpaeohaa
set_option linter.unusedVariables false
set_option linter.unusedSimpArgs false
open Go.RowKit

theorem disk_set2 (slots m : Nat) (v v' : Value) : (diskCells slots m v).setIfInBounds 2 v' = diskCells slots m v' := rfl

section
variable {w : World} {X : Nat → Prop} {p m slots : Nat} {pg : Int → Option (List Nat)} {F F' : List Bool} {f : Int → Option Value} {fv fv' : Value}

/-- The disk's parts, for a walk. -/
theorem disk_fails (h1 : w.heap[p]? = some (.cells (diskCells slots m fv) 108)) (h2 : ¬ X p) (h3 : IsMap w m f (cntOf pg slots)) (h4 : ¬ X m) (h5 : m ≠ p) (h6 : slots ≤ 4096)
    (h7 : ∀ k : Int, (pg k).isSome = true → 0 ≤ k ∧ k < slots) (h8 : ∀ k, pg k = none → f k = none) (h9 : ∀ k l, pg k = some l → ∃ v, f k = some v ∧ PageIs w X p m v l) (hF : FailsIs w X p m fv' F') :
    IsDisk (putB w p (.cells (diskCells slots m fv') 108)) X p slots pg F' ∧ Only (fun b => ¬ X b) w (putB w p (.cells (diskCells slots m fv') 108)) := by
  have ho : Only (fun b => b = p) w (putB w p (.cells (diskCells slots m fv') 108)) := (Only.refl _ w).putB _ fun _ => rfl
  refine ⟨⟨m, f, fv', putB_same _ (lt_of_block h1), h2, isMap_only h3 ho h5, h4, h5, h6, h7, h8, fun k l hk => ?_, fails_only hF ho fun b _ hb _ => hb⟩, ho.mono fun b _ e => by rw [e]; exact h2⟩
  obtain ⟨v, a, b⟩ := h9 k l hk
  exact ⟨v, a, page_only b ho fun b _ hb _ => hb⟩
end

theorem slice_tail (w : World) (ad : Option Addr) (n c : Nat) (h : n + 1 ≤ c) : (Instr.slice 32 (.slice ad (n + 1) c) (some (.int .i64 1)) none none).run Try.prog w = .ok (.slice (if c = 1 then ad else ad.map (·.add 1)) n (c - 1)) w := by
  rw [run_slice_l (P := Try.prog) w 32 ad (n + 1) c (by kernel_rfl) .i64 1 (by omega) (by omega)]
  have hs : (sizeOf (Try.prog.elem 32)).run Try.prog w = .ok 1 w := by kernel_rfl
  rw [hs]
  simp [Result.andThen, sliced]

set_option maxHeartbeats 2000000 in
theorem goes_calls (X : Nat → Prop) (p slots : Nat) (pg : Int → Option (List Nat)) (F : List Bool) (w : World) (h : IsDisk w X p slots pg F) :
    Calls Try.prog 67 #[.pointer (some ⟨p, 0, none⟩)] w (fun e w' => e = .returned (.bool (!F.headD false)) ∧ IsDisk w' X p slots pg F.tail ∧ Only (fun b => b = p) w w') := by
  have H := Lib.hid h
  obtain ⟨m, f, fv, h1, h2, h3, h4, h5, h6, h7, h8, h9, hA⟩ := h
  cases F with
  | nil =>
    obtain ⟨ad, c, rfl, _⟩ := hA
    have c2 : w.cell? ⟨p, 2, none⟩ = some (.slice ad 0 c) := by rw [cell_of h1]; rfl
    clear h1 h2 h3 h4 h5 h6 h7 h8 h9
    go_enter Try.func67, Try.ntmps67
    go_wp2
    go_ret
    exact ⟨rfl, H.out, Only.refl _ _⟩
  | cons x F =>
    obtain ⟨ad, c, rfl, a1, a2, a3⟩ := hA
    have a1' : F.length + 1 ≤ c := a1
    obtain ⟨g, off, rfl, b1, b2, b3, b4, b5⟩ := a3 0 x rfl
    have c2 : w.cell? ⟨p, 2, none⟩ = some (.slice (some ⟨g, off, none⟩) (F.length + 1) c) := by rw [cell_of h1]; rfl
    have f2 : w.frozen? ⟨p, 2, none⟩ = false := frozen_of h1 _
    have cx : w.cell? ⟨g, off, none⟩ = some (.bool x) := b5
    have hsl := fun w => slice_tail w (some ⟨g, off, none⟩) F.length c a1'
    have hF : FailsIs w X p m (.slice (if c = 1 then some ⟨g, off, none⟩ else (some (⟨g, off, none⟩ : Addr)).map (·.add 1)) F.length (c - 1)) F := by
      refine ⟨_, _, rfl, by omega, by omega, fun k y hy => ?_⟩
      have hk := (List.getElem?_eq_some_iff.1 hy).1
      obtain ⟨g', off', e, d1, d2, d3, d4, d5⟩ := a3 (k + 1) y (by simpa using hy)
      cases e
      refine ⟨g, off + 1, by rw [if_neg (by omega)]; simp [Addr.add], d1, d2, d3, d4, ?_⟩
      rw [show off + 1 + k = off + (k + 1) by omega]
      exact d5
    generalize (if c = 1 then some (⟨g, off, none⟩ : Addr) else (some (⟨g, off, none⟩ : Addr)).map (·.add 1)) = ad' at *
    have s2 : w.setCell ⟨p, 2, none⟩ (.slice ad' F.length (c - 1)) = putB w p (.cells (diskCells slots m (.slice ad' F.length (c - 1))) 108) := by rw [set_of h1, disk_set2]
    have hP := Lib.hid ((Only.refl (fun b => b = p) w).putB (b := p) (.cells (diskCells slots m (.slice ad' F.length (c - 1))) 108) fun _ => rfl)
    have hnew := Lib.hid (disk_fails h1 h2 h3 h4 h5 h6 h7 h8 h9 hF)
    generalize putB w p (.cells (diskCells slots m (.slice ad' F.length (c - 1))) 108) = W at *
    clear h1 h2 h3 h4 h5 h6 h7 h8 h9 hF a3 b5 H
    go_enter Try.func67, Try.ntmps67
    go_wp2
    go_ret
    exact ⟨rfl, hnew.out.1, hP.out⟩
end Go.Proofs.Ytfiofjalpaeohaa
/- Contracts of the package disk: New, Fail, Give. -/
namespace Go.Proofs.Ytfiofjalpaeohaa
set_option linter.unusedVariables false
set_option linter.unusedSimpArgs false
open Go.RowKit

theorem cnt_none (n : Nat) : cntOf (fun _ => none) n = 0 := by
  induction n with
  | zero => rfl
  | succ n ih => unfold cntOf; rw [ih]; rfl

theorem diskNew_none (n : Int) (w : World) (h : ¬ (0 ≤ n ∧ n ≤ 4096)) : Calls Try.prog 12 #[.int .i64 n] w (RetB w (.tuple #[.pointer none, .int .i64 1])) := by
  by_cases h1 : n < 0
  · clear h
    go_enter Try.func12, Try.ntmps12
    go_wp2
    go_ret2
    exact ⟨rfl, old_refl _⟩
  · have h2 : 4096 < n := by omega
    clear h
    go_enter Try.func12, Try.ntmps12
    go_wp2
    go_ret2
    exact ⟨rfl, old_refl _⟩

set_option maxHeartbeats 1000000 in
theorem diskNew_calls (n : Nat) (w : World) (hn : n ≤ 4096) : Calls Try.prog 12 #[.int .i64 n] w fun e w' =>
    e = .returned (.tuple #[.pointer (some ⟨w.heap.size + 1, 0, none⟩), .int .i64 0]) ∧ Old w w' ∧ w'.heap.size = w.heap.size + 2 ∧ ∀ X : Nat → Prop, (∀ b, X b → b < w.heap.size) → IsDisk w' X (w.heap.size + 1) n (fun _ => none) [] := by
  have hmm := @run_makeMap Try.prog
  go_enter Try.func12, Try.ntmps12
  go_wp2
  go_ret2
  have hO := old_alloc (old_alloc (old_refl w) (.map #[] 0)) (.cells #[.int .i64 n, .map (some w.heap.size), .slice none 0 0] 108)
  have hs1 : (w.alloc (.map #[] 0)).heap.size = w.heap.size + 1 := Array.size_push _
  refine ⟨rfl, hO, by simp, fun X hX => ⟨w.heap.size, fun _ => none, .slice none 0 0, ?_, fun h => ?_, ?_, fun h => ?_, by omega, hn, (fun k hk => by cases hk), fun _ _ => rfl, (fun k l hk => by cases hk), none, 0, rfl, Nat.le_refl _, Nat.zero_le _, (fun k x hx => by simp at hx)⟩⟩
  · rw [← hs1]; exact new_block _ _
  · have := hX _ h; omega
  · rw [cnt_none]
    exact isMap_old (isMap_made w) (old_alloc (old_refl _) _)
  · have := hX _ h; omega

/-- A slice of truths reads as l. -/
def Bools (w : World) (ad : Option Addr) (c : Nat) (l : List Bool) : Prop :=
  l.length ≤ c ∧ c ≤ maxLen ∧ (ad = none → c = 0) ∧ ∀ (k : Nat) (x : Bool), l[k]? = some x → ∃ bb off, ad = some ⟨bb, off, none⟩ ∧ bb < w.heap.size ∧ w.cell? ⟨bb, off + k, none⟩ = some (.bool x)
theorem bools_old {w x : World} {ad : Option Addr} {c : Nat} {l : List Bool} (h : Bools w ad c l) (ho : Old w x) : Bools x ad c l := by
  refine ⟨h.1, h.2.1, h.2.2.1, fun k y hy => ?_⟩
  obtain ⟨bb, off, rfl, hb, hc⟩ := h.2.2.2 k y hy
  exact ⟨bb, off, rfl, Nat.lt_of_lt_of_le hb ho.size, by rw [ho.cell hb]; exact hc⟩
theorem bools_news {w : World} {a : Addr} {c : Nat} {l : List Bool} (h : Bools w (some a) c l) : ∀ (j : Nat) (u : Value), (l.map Value.bool)[j]? = some u → w.cell? (a.add j) = some u := by
  intro j u hu
  rw [List.getElem?_map] at hu
  obtain ⟨x, hx, rfl⟩ := Option.map_eq_some_iff.1 hu
  obtain ⟨bb, off, e, _, hc⟩ := h.2.2.2 j x hx
  cases e
  rw [add_eq _ _ rfl]
  exact hc
theorem bools_one (l : List Bool) : ∀ u ∈ l.map Value.bool, u.oneCell' = true := by
  intro u hu
  obtain ⟨x, _, rfl⟩ := List.mem_map.1 hu
  rfl
theorem bool_info2 : (Try.prog.info? 4).map (fun i => (i.zero, i.size, i.bytes)) = some (some (.bool false), 1, 1) := by kernel_rfl

theorem fails_own {w : World} {X : Nat → Prop} {p m B n : Nat} {v : Value} {l : List Bool} (h : w.ownsRow B 4 1 v n (l.map Value.bool)) (hX : ∀ b, X b → b < B) (hp : p < B) (hm : m < B) : FailsIs w X p m v l := by
  have hn : n = l.length := by have := h.1; simpa using this.symm
  subst hn
  rcases h.2 with ⟨rfl, h0⟩ | ⟨g, cap, cur, rfl, hb, hg, hnc, hcm, _⟩
  · have hl : l = [] := List.eq_nil_of_length_eq_zero h0
    subst hl
    exact ⟨none, 0, rfl, Nat.le_refl _, Nat.zero_le _, fun k x hx => by simp at hx⟩
  · refine ⟨some ⟨g, 0, none⟩, cap, rfl, hnc, hcm, fun k x hx => ⟨g, 0, rfl, fun hXg => by have := hX g hXg; omega, by omega, by omega, lt_of_block hg, ?_⟩⟩
    have hk := (List.getElem?_eq_some_iff.1 hx).1
    rw [Nat.zero_add, h.cellAt k (by omega), List.getElem?_map, hx]; rfl

set_option maxHeartbeats 2000000 in
set_option maxRecDepth 100000 in
theorem fail_calls (X : Nat → Prop) (p slots : Nat) (pg : Int → Option (List Nat)) (F : List Bool) (ad : Option Addr) (l : List Bool) (c : Nat) (w : World) (h : IsDisk w X p slots pg F) (hX : ∀ b, X b → b < w.heap.size) (hB : Bools w ad c l) (hbig : l.length ≤ 1000000) :
    Calls Try.prog 23 #[.pointer (some ⟨p, 0, none⟩), .slice ad l.length c] w (RetDisk w X p slots (.tuple #[]) pg l) := by
  obtain ⟨m, f, fv, h1, h2, h3, h4, h5, h6, h7, h8, h9, hA⟩ := h
  obtain ⟨i0, hi, hz0, hz1, hz2⟩ := info_parts bool_info2
  have hp := lt_of_block h1
  have hm := isMap_lt h3
  have key : ∀ (v : Value) (w2 : World), w2.ownsRow w.heap.size 4 1 v l.length (l.map Value.bool) → w.grownBy w2 none →
      (∃ ad' c', v = .slice ad' l.length c') ∧ (∃ u, w2.cell? ⟨p, 2, none⟩ = some u) ∧ w2.frozen? ⟨p, 2, none⟩ = false ∧ w2.setCell ⟨p, 2, none⟩ v = putB w2 p (.cells (diskCells slots m v) 108) ∧
      IsDisk (putB w2 p (.cells (diskCells slots m v) 108)) X p slots pg l ∧ Only (fun b => ¬ X b) w (putB w2 p (.cells (diskCells slots m v) 108)) := by
    intro v w2 hown hg
    have hO := old_grown (old_refl w) hg (fun g e => by cases e)
    have k1 := keep_old hO h1
    have hF := fails_own hown hX hp hm
    have := disk_fails k1 h2 (isMap_old h3 hO) h4 h5 h6 h7 h8 (fun k l hk => by
      obtain ⟨v, a, b⟩ := h9 k l hk
      exact ⟨v, a, page_only b (Only.of_below hO) fun _ _ _ _ f => f⟩) hF
    exact ⟨by obtain ⟨ad', c', e, _⟩ := hF; exact ⟨ad', c', e⟩, ⟨_, by rw [cell_of k1]; rfl⟩, frozen_of k1 _, by rw [set_of k1, disk_set2], this.1, ((Only.of_below hO).mono (fun b _ f => f.elim)).trans this.2⟩
  have Key := Lib.hid key
  clear key h1 h2 h3 h4 h5 h6 h7 h8 h9 hA
  rcases ad with _ | a
  · have hl : l = [] := by
      cases l with
      | nil => rfl
      | cons x l => have := hB.1; rw [hB.2.2.1 rfl] at this; simp at this
    have hc := hB.2.2.1 rfl
    subst hl hc
    obtain ⟨-, ⟨u, cu⟩, fu, su, hd, hO⟩ := Key.out (.slice none 0 0) w (World.ownsRow_nil _ _ _ _) ⟨rfl, rfl, rfl, Nat.le_refl _, fun _ _ _ => rfl⟩
    have HD := Lib.hid hd
    generalize putB w p (.cells (diskCells slots m (.slice none 0 0)) 108) = W at *
    clear hd
    go_enter Try.func23, Try.ntmps23
    go_wp2_with (at_builtin; refine wpList_append_own_none _ rfl _ _ 32 rfl w.heap.size 4 i0 1 Try.underlying32 hi _ _ _ rfl (World.ownsRow_nil _ _ _ _) rfl ?_)
    refine bodyPost_end (v := .tuple #[]) (by first | rfl | kernel_rfl) rfl ?_
    exact ⟨rfl, HD.out, hO⟩
  · go_enter Try.func23, Try.ntmps23
    go_wp2_with (at_builtin; refine wpList_append_own _ rfl _ _ 32 rfl w.heap.size 4 i0 (.bool false) 1 1 Try.underlying32 hi hz0 hz1 hz2 rfl (by decide) _ _ [] rfl (World.ownsRow_nil _ _ _ _) a l.length c (l.map Value.bool) rfl (by simp) (bools_news hB) (bools_one l) (by unfold maxLen; omega) (by omega) (Nat.le_refl _) ?_; intro v' w2 hown hgrow h9; clear h9; simp only [Nat.zero_add, List.nil_append] at hown; obtain ⟨⟨ad2, c2, rfl⟩, ⟨u, cu⟩, fu, su, hd, hO⟩ := Key.out v' w2 hown hgrow; have HD := Lib.hid hd; clear hd hown hgrow)
    refine bodyPost_end (v := .tuple #[]) (by first | rfl | kernel_rfl) rfl ?_
    exact ⟨rfl, HD.out, hO⟩
end Go.Proofs.Ytfiofjalpaeohaa
/- Contracts of the package disk: Give, Read, Write. -/
namespace Go.Proofs.Ytfiofjalpaeohaa
set_option linter.unusedVariables false
set_option linter.unusedSimpArgs false
open Go.RowKit

theorem zero_bytes (w : World) : (zeroValue 31).run Try.prog w = .ok (.slice none 0 0) w := by kernel_rfl

section
variable {w w' : World} {X : Nat → Prop} {p m slots : Nat} {pg pg' : Int → Option (List Nat)} {F F' : List Bool} {f f' : Int → Option Value} {fv fv' : Value}

theorem disk_map (h1 : w.heap[p]? = some (.cells (diskCells slots m fv) 108)) (h2 : ¬ X p) (h4 : ¬ X m) (h5 : m ≠ p) (h6 : slots ≤ 4096) (hA : FailsIs w X p m fv F)
    (hm : IsMap w' m f' (cntOf pg' slots)) (ho : Only (fun j => j = m) w w')
    (h7 : ∀ k : Int, (pg' k).isSome = true → 0 ≤ k ∧ k < slots) (h8 : ∀ k, pg' k = none → f' k = none) (h9 : ∀ k l, pg' k = some l → ∃ v, f' k = some v ∧ PageIs w X p m v l) : IsDisk w' X p slots pg' F ∧ Only (fun b => ¬ X b) w w' := by
  refine ⟨⟨m, f', fv, keep_only ho (fun e => h5 e.symm) h1, h2, hm, h4, h5, h6, h7, h8, fun k l hk => ?_, fails_only hA ho fun b _ _ hb => hb⟩, ho.mono fun b _ e => by rw [e]; exact h4⟩
  obtain ⟨v, a, b⟩ := h9 k l hk
  exact ⟨v, a, page_only b ho fun b _ _ hb => hb⟩
end

theorem give_none (X : Nat → Prop) (p slots : Nat) (pg : Int → Option (List Nat)) (F : List Bool) (k : Int) (w : World) (h : IsDisk w X p slots pg F) (hk : pg k = none) :
    Calls Try.prog 16 #[.pointer (some ⟨p, 0, none⟩), .int .i64 k] w (RetDisk w X p slots (.int .i64 23) pg F) := by
  have H := Lib.hid h
  obtain ⟨m, f, fv, h1, h2, h3, h4, h5, h6, h7, h8, h9, hA⟩ := h
  have c1 : w.cell? ⟨p, 1, none⟩ = some (.map (some m)) := by rw [cell_of h1]; rfl
  have hlk := map_miss (P := Try.prog) (t := 106) Try.underlying106 Try.underlying3 (zero_bytes w) h3 (h8 k hk)
  clear h1 h2 h3 h4 h5 h6 h7 h8 h9 hA
  go_enter Try.func16, Try.ntmps16
  go_wp2
  go_ret
  exact ⟨rfl, H.out, Only.refl _ _⟩

set_option maxHeartbeats 1000000 in
theorem give_some (X : Nat → Prop) (p slots : Nat) (pg : Int → Option (List Nat)) (F : List Bool) (k : Int) (l : List Nat) (w : World) (h : IsDisk w X p slots pg F) (hk : pg k = some l) :
    Calls Try.prog 16 #[.pointer (some ⟨p, 0, none⟩), .int .i64 k] w (RetDisk w X p slots (.int .i64 0) (updP pg k none) F) := by
  obtain ⟨m, f, fv, h1, h2, h3, h4, h5, h6, h7, h8, h9, hA⟩ := h
  have c1 : w.cell? ⟨p, 1, none⟩ = some (.map (some m)) := by rw [cell_of h1]; rfl
  obtain ⟨v, hv, hpage⟩ := h9 k l hk
  have hlk := map_lookup (P := Try.prog) (t := 106) Try.underlying106 Try.underlying3 h3 hv
  obtain ⟨w', hdel, hmap, hn1, ho⟩ := map_del (P := Try.prog) (t := 106) Try.underlying106 Try.underlying3 h3 k v hv
  obtain ⟨k0, k1⟩ := h7 k (by rw [hk]; rfl)
  have hcnt : cntOf pg slots - 1 = cntOf (updP pg k none) slots := by
    have := cnt_upd pg k.toNat none slots (by omega)
    rw [show ((k.toNat : Nat) : Int) = k by omega, hk] at this
    simp at this
    omega
  rw [hcnt] at hmap
  have hnew := Lib.hid (disk_map (pg' := updP pg k none) h1 h2 h4 h5 h6 hA hmap ho (fun k' hk' => by
      unfold updP at hk'
      split at hk'
      · cases hk'
      · exact h7 k' hk') (fun k' hk' => by
      unfold updP at hk'
      unfold updF
      split
      · rfl
      · rename_i hne
        rw [if_neg hne] at hk'
        exact h8 k' hk') (fun k' l' hk' => by
      unfold updP at hk'
      unfold updF
      split at hk'
      · cases hk'
      · rename_i hne
        rw [if_neg hne]
        exact h9 k' l' hk'))
  obtain ⟨pp, rfl⟩ : ∃ pp, pp = v := ⟨_, rfl⟩
  obtain ⟨g, c, rfl, -⟩ := hpage
  clear h1 h2 h3 h4 h5 h6 h7 h8 h9 hA hmap ho hcnt hk hv
  go_enter Try.func16, Try.ntmps16
  go_wp2
  go_ret
  exact ⟨rfl, hnew.out.1, hnew.out.2⟩
end Go.Proofs.Ytfiofjalpaeohaa
/- Contracts of the package disk: Read, Write. -/
namespace Go.Proofs.Ytfiofjalpaeohaa
set_option linter.unusedVariables false
set_option linter.unusedSimpArgs false
open Go.RowKit

theorem read_none (X : Nat → Prop) (p slots : Nat) (pg : Int → Option (List Nat)) (F : List Bool) (k : Int) (w : World) (h : IsDisk w X p slots pg F) (hk : pg k = none) :
    Calls Try.prog 21 #[.pointer (some ⟨p, 0, none⟩), .int .i64 k] w (RetDisk w X p slots (.tuple #[.slice none 0 0, .int .i64 23]) pg F) := by
  have H := Lib.hid h
  obtain ⟨m, f, fv, h1, h2, h3, h4, h5, h6, h7, h8, h9, hA⟩ := h
  have c1 : w.cell? ⟨p, 1, none⟩ = some (.map (some m)) := by rw [cell_of h1]; rfl
  have hlk := map_miss (P := Try.prog) (t := 106) Try.underlying106 Try.underlying3 (zero_bytes w) h3 (h8 k hk)
  clear h1 h2 h3 h4 h5 h6 h7 h8 h9 hA
  go_enter Try.func21, Try.ntmps21
  go_wp2
  go_ret2
  exact ⟨rfl, H.out, Only.refl _ _⟩

theorem read_fail (X : Nat → Prop) (p slots : Nat) (pg : Int → Option (List Nat)) (F : List Bool) (k : Int) (l : List Nat) (w : World) (h : IsDisk w X p slots pg F) (hk : pg k = some l) (hF : F.headD false = true) :
    Calls Try.prog 21 #[.pointer (some ⟨p, 0, none⟩), .int .i64 k] w (RetDisk w X p slots (.tuple #[.slice none 0 0, .int .i64 13]) pg F.tail) := by
  have hgo := goes_calls X p slots pg F w h
  rw [hF] at hgo
  obtain ⟨m, f, fv, h1, h2, h3, h4, h5, h6, h7, h8, h9, hA⟩ := h
  have c1 : w.cell? ⟨p, 1, none⟩ = some (.map (some m)) := by rw [cell_of h1]; rfl
  obtain ⟨v, hv, hpage⟩ := h9 k l hk
  have hlk := map_lookup (P := Try.prog) (t := 106) Try.underlying106 Try.underlying3 h3 hv
  obtain ⟨g, c, rfl, -⟩ := hpage
  clear h1 h3 h4 h5 h6 h7 h8 h9 hA hk hv hF
  go_enter Try.func21, Try.ntmps21
  go_wp2_with fail
  (with_reducible refine hgo.mono ?_)
  rintro e w1 ⟨rfl, hd, ho⟩
  have HD := Lib.hid hd
  have HO := Lib.hid ho
  clear hgo hd ho
  go_wp2
  go_ret2
  exact ⟨rfl, HD.out, HO.out.mono fun b _ e => by rw [e]; exact h2⟩

/-- A copy of a page was told. -/
def RetRead (w : World) (X : Nat → Prop) (p slots : Nat) (pg : Int → Option (List Nat)) (F : List Bool) (l : List Nat) (e : Ending) (w' : World) : Prop :=
  ∃ g c, e = .returned (.tuple #[.slice (some ⟨g, 0, none⟩) 4096 c, .int .i64 0]) ∧ Row w' w.heap.size g c l ∧ IsDisk w' X p slots pg F ∧ Only (fun b => ¬ X b) w w' ∧ g < w'.heap.size

set_option maxHeartbeats 2000000 in
set_option maxRecDepth 100000 in
theorem read_ok (X : Nat → Prop) (p slots : Nat) (pg : Int → Option (List Nat)) (F : List Bool) (k : Int) (l : List Nat) (w : World) (h : IsDisk w X p slots pg F) (hk : pg k = some l) (hF : F.headD false = false) :
    Calls Try.prog 21 #[.pointer (some ⟨p, 0, none⟩), .int .i64 k] w (RetRead w X p slots pg F.tail l) := by
  have hgo := goes_calls X p slots pg F w h
  rw [hF] at hgo
  obtain ⟨m, f, fv, h1, h2, h3, h4, h5, h6, h7, h8, h9, hA⟩ := h
  have c1 : w.cell? ⟨p, 1, none⟩ = some (.map (some m)) := by rw [cell_of h1]; rfl
  obtain ⟨v, hv, hpage⟩ := h9 k l hk
  have hlk := map_lookup (P := Try.prog) (t := 106) Try.underlying106 Try.underlying3 h3 hv
  obtain ⟨g, c, rfl, hl, hrow, b1, b2, b3⟩ := hpage
  obtain ⟨i0, hi, hz0, hz1, hz2⟩ := info_parts u8_info
  clear h1 h3 h4 h5 h6 h7 h8 h9 hA hk hv hF
  go_enter Try.func21, Try.ntmps21
  go_wp2_with fail
  (with_reducible refine hgo.mono ?_)
  rintro e w1 ⟨rfl, hd, ho⟩
  have hrow1 := row_only hrow ho b2
  have HD := Lib.hid hd
  have HO := Lib.hid ho
  have hB := row_bytes hrow1
  have hl256 := hrow1.2
  have hws := ho.size
  clear hgo hd ho hrow hrow1
  go_wp2_with (at_builtin; refine wpList_append_own _ rfl _ _ 31 rfl w.heap.size 5 i0 (.int .u8 0) 1 1 Try.underlying31 hi hz0 hz1 hz2 rfl (by decide) _ _ [] rfl (World.ownsRow_nil _ _ _ _) ⟨g, 0, none⟩ 4096 c (l.map vb) rfl (by simp [hl]) (bytes_news2 hB) (vb_one l) (by unfold maxLen; omega) (by omega) hws ?_; intro v' w2 hown hgrow h9; clear h9; simp only [Nat.zero_add, List.nil_append] at hown)
  obtain ⟨g2, c2, hv2, hrow2⟩ := row_of hown hl.symm (by omega) hl256
  rw [hl] at hv2
  subst hv2
  have hO2 := old_grown (old_refl w1) hgrow (fun g e => by cases e)
  go_ret2
  exact ⟨g2, c2, rfl, hrow2, disk_old HD.out hO2, (HO.out.mono fun b _ e => by rw [e]; exact h2).trans ((Only.of_below hO2).mono fun b _ f => f.elim), (row_parts hrow2).2.1⟩
end Go.Proofs.Ytfiofjalpaeohaa
/- Contracts of the package disk: Write. -/
namespace Go.Proofs.Ytfiofjalpaeohaa
set_option linter.unusedVariables false
set_option linter.unusedSimpArgs false
open Go.RowKit

/-- An append whose run is known. -/
theorem wpList_append_at {P : Program} {w : World} {ops : Array Oper} {rest : List Oper} {o : Oper} {a : Act} {Q : Exit → Act → World → Prop} (hgd : o.guard = none) (s x : Operand) (t : TypeId)
    (ho : o.op = .call { callee := .builtin .append, args := #[s, x], argTypes := #[t, t] }) (u v : Value) (hs : a.eval s = u) (hx : a.eval x = v) (v' : Value) (w' : World)
    (hrun : (Builtin.append_ #[t, t] o.type #[u, v]).run P w = .ok v' w') (h : wpList P ops Q rest (a.put o.dst v') w') : wpList P ops Q (o :: rest) a w := by
  refine wpList_plain hgd fun K hK => ?_
  unfold Oper.wp
  simp [execOp, ho, resolve, invoke, builtin, hs, hx, hrun, Result.andThen]
  exact hK _ _ h

theorem write_none (X : Nat → Prop) (p slots : Nat) (pg : Int → Option (List Nat)) (F : List Bool) (k : Int) (ad : Option Addr) (n c : Nat) (w : World) (h : IsDisk w X p slots pg F) (hk : pg k = none) :
    Calls Try.prog 19 #[.pointer (some ⟨p, 0, none⟩), .int .i64 k, .slice ad n c] w (RetDisk w X p slots (.int .i64 23) pg F) := by
  have H := Lib.hid h
  obtain ⟨m, f, fv, h1, h2, h3, h4, h5, h6, h7, h8, h9, hA⟩ := h
  have c1 : w.cell? ⟨p, 1, none⟩ = some (.map (some m)) := by rw [cell_of h1]; rfl
  have hlk := map_miss (P := Try.prog) (t := 106) Try.underlying106 Try.underlying3 (zero_bytes w) h3 (h8 k hk)
  clear h1 h2 h3 h4 h5 h6 h7 h8 h9 hA
  go_enter Try.func19, Try.ntmps19
  go_wp2
  go_ret
  exact ⟨rfl, H.out, Only.refl _ _⟩

theorem write_arg (X : Nat → Prop) (p slots : Nat) (pg : Int → Option (List Nat)) (F : List Bool) (k : Int) (l : List Nat) (ad : Option Addr) (n c : Nat) (w : World) (h : IsDisk w X p slots pg F) (hk : pg k = some l) (hn : n ≠ 4096) (hn63 : n ≤ maxLen) :
    Calls Try.prog 19 #[.pointer (some ⟨p, 0, none⟩), .int .i64 k, .slice ad n c] w (RetDisk w X p slots (.int .i64 1) pg F) := by
  have H := Lib.hid h
  have hnb : ((n : Int) != 4096) = true := by rw [bne_iff_ne]; omega
  obtain ⟨m, f, fv, h1, h2, h3, h4, h5, h6, h7, h8, h9, hA⟩ := h
  have c1 : w.cell? ⟨p, 1, none⟩ = some (.map (some m)) := by rw [cell_of h1]; rfl
  obtain ⟨v, hv, hpage⟩ := h9 k l hk
  have hlk := map_lookup (P := Try.prog) (t := 106) Try.underlying106 Try.underlying3 h3 hv
  obtain ⟨g, c', rfl, -⟩ := hpage
  clear h1 h2 h3 h4 h5 h6 h7 h8 h9 hA hv hk hn
  go_enter Try.func19, Try.ntmps19
  go_wp2
  go_ret
  exact ⟨rfl, H.out, Only.refl _ _⟩

theorem write_fail (X : Nat → Prop) (p slots : Nat) (pg : Int → Option (List Nat)) (F : List Bool) (k : Int) (l : List Nat) (ad : Option Addr) (c : Nat) (w : World) (h : IsDisk w X p slots pg F) (hk : pg k = some l) (hF : F.headD false = true) :
    Calls Try.prog 19 #[.pointer (some ⟨p, 0, none⟩), .int .i64 k, .slice ad 4096 c] w (RetDisk w X p slots (.int .i64 13) pg F.tail) := by
  have hgo := goes_calls X p slots pg F w h
  rw [hF] at hgo
  obtain ⟨m, f, fv, h1, h2, h3, h4, h5, h6, h7, h8, h9, hA⟩ := h
  have c1 : w.cell? ⟨p, 1, none⟩ = some (.map (some m)) := by rw [cell_of h1]; rfl
  obtain ⟨v, hv, hpage⟩ := h9 k l hk
  have hlk := map_lookup (P := Try.prog) (t := 106) Try.underlying106 Try.underlying3 h3 hv
  obtain ⟨g, c', rfl, -⟩ := hpage
  clear h1 h3 h4 h5 h6 h7 h8 h9 hA hk hv hF
  go_enter Try.func19, Try.ntmps19
  go_wp2_with fail
  (with_reducible refine hgo.mono ?_)
  rintro e w1 ⟨rfl, hd, ho⟩
  have HD := Lib.hid hd
  have HO := Lib.hid ho
  clear hgo hd ho
  go_wp2
  go_ret
  exact ⟨rfl, HD.out, HO.out.mono fun b _ e => by rw [e]; exact h2⟩

/-- What is left where a page was put: for a walk. -/
theorem put_page {X : Nat → Prop} {p slots m : Nat} {pg : Int → Option (List Nat)} {F : List Bool} {f : Int → Option Value} {fv : Value} {w1 w2 w3 : World} {k : Int} {g c : Nat} {l : List Nat}
    (h1 : w1.heap[p]? = some (.cells (diskCells slots m fv) 108)) (h2 : ¬ X p) (h3 : IsMap w1 m f (cntOf pg slots)) (h4 : ¬ X m) (h5 : m ≠ p) (h6 : slots ≤ 4096) (h7 : ∀ k : Int, (pg k).isSome = true → 0 ≤ k ∧ k < slots)
    (h8 : ∀ k, pg k = none → f k = none) (h9 : ∀ k l, pg k = some l → ∃ v, f k = some v ∧ PageIs w1 X p m v l) (hA : FailsIs w1 X p m fv F) (hX : ∀ b, X b → b < w1.heap.size)
    (hO : Old w1 w2) (hrow : Row w2 w1.heap.size g c l) (hl : l.length = 4096) (k0 : 0 ≤ k) (k1 : k < slots)
    (hm : IsMap w3 m (updF f k (some (.slice (some ⟨g, 0, none⟩) 4096 c))) (if (f k).isSome then cntOf pg slots else cntOf pg slots + 1)) (ho : Only (fun j => j = m) w2 w3) :
    IsDisk w3 X p slots (updP pg k (some l)) F ∧ Only (fun b => ¬ X b) w1 w3 := by
  have hp := lt_of_block h1
  have hmm := isMap_lt h3
  have hr := row_parts hrow
  have hsome : (f k).isSome = (pg k).isSome := by
    cases hp : pg k with
    | none => rw [h8 k hp]; rfl
    | some l => obtain ⟨v, hv, _⟩ := h9 k l hp; rw [hv]; rfl
  have hcnt : (if (f k).isSome then cntOf pg slots else cntOf pg slots + 1) = cntOf (updP pg k (some l)) slots := by
    have := cnt_upd pg k.toNat (some l) slots (by omega)
    rw [show ((k.toNat : Nat) : Int) = k by omega] at this
    rw [hsome]
    cases hq : (pg k).isSome <;> rw [hq] at this <;> simp at this ⊢ <;> omega
  rw [hcnt] at hm
  have hpage : PageIs w2 X p m (.slice (some ⟨g, 0, none⟩) 4096 c) l := by
    refine ⟨g, c, rfl, hl, ⟨?_, hrow.2⟩, fun hx => ?_, by omega, by omega⟩
    · refine ⟨hrow.1.1, ?_⟩
      rcases hrow.1.2 with h' | ⟨g', cap', cur, h', hb, rest⟩
      · exact .inl h'
      · exact .inr ⟨g', cap', cur, h', Nat.zero_le _, rest⟩
    · have := hX g hx; omega
  have := disk_map (pg' := updP pg k (some l)) (keep_old hO h1) h2 h4 h5 h6 (fails_only hA (Only.of_below hO) fun _ _ _ _ f => f) hm ho (fun k' hk' => by
      unfold updP at hk'
      split at hk'
      · rename_i e; rw [e]; exact ⟨k0, k1⟩
      · exact h7 k' hk') (fun k' hk' => by
      unfold updP at hk'
      unfold updF
      split at hk'
      · cases hk'
      · rename_i hne
        rw [if_neg hne]
        exact h8 k' hk') (fun k' l' hk' => by
      unfold updP at hk'
      unfold updF
      split at hk'
      · rename_i e
        rw [if_pos e]
        obtain rfl := Option.some.inj hk'
        exact ⟨_, rfl, hpage⟩
      · rename_i hne
        rw [if_neg hne]
        obtain ⟨v, a, b⟩ := h9 k' l' hk'
        exact ⟨v, a, page_only b (Only.of_below hO) fun _ _ _ _ f => f⟩)
  exact ⟨this.1, ((Only.of_below hO).mono fun b _ f => f.elim).trans this.2⟩

set_option maxHeartbeats 4000000 in
set_option maxRecDepth 100000 in
theorem write_ok (X : Nat → Prop) (p slots : Nat) (pg : Int → Option (List Nat)) (F : List Bool) (k : Int) (l : List Nat) (P : List Nat) (ad : Option Addr) (c : Nat) (w : World) (h : IsDisk w X p slots pg F) (hX : ∀ b, X b → b < w.heap.size) (hk : pg k = some l) (hF : F.headD false = false) (hB : Bytes w ad c P) (hP : P.length = 4096) (hBp : ∀ bb off, ad = some ⟨bb, off, none⟩ → bb ≠ p) :
    Calls Try.prog 19 #[.pointer (some ⟨p, 0, none⟩), .int .i64 k, .slice ad 4096 c] w (RetDisk w X p slots (.int .i64 0) (updP pg k (some P)) F.tail) := by
  have hgo := goes_calls X p slots pg F w h
  rw [hF] at hgo
  obtain ⟨m, f, fv, h1, h2, h3, h4, h5, h6, h7, h8, h9, hA⟩ := h
  have c1 : w.cell? ⟨p, 1, none⟩ = some (.map (some m)) := by rw [cell_of h1]; rfl
  obtain ⟨v, hv, hpage⟩ := h9 k l hk
  have hlk := map_lookup (P := Try.prog) (t := 106) Try.underlying106 Try.underlying3 h3 hv
  obtain ⟨g, c', rfl, -⟩ := hpage
  have hdom := h7 k (by rw [hk]; rfl)
  obtain ⟨bb, off, rfl, hcells⟩ := bytes_some hB (by omega)
  have hne := hBp bb off rfl
  have hcc := hB.1
  have hcm := hB.2.1
  have hblt : bb < w.heap.size := by
    obtain ⟨x, bb', off', _, _, e, hb, _⟩ := bytes_at hB 0 (by omega)
    cases e; exact hb
  have hP256 := bytes_lt hB
  obtain ⟨i0, hi, hz0, hz1, hz2⟩ := info_parts u8_info
  clear h1 h3 h4 h5 h6 h7 h8 h9 hA hk hv hF hB hBp
  go_enter Try.func19, Try.ntmps19
  go_wp2_with fail
  (with_reducible refine hgo.mono ?_)
  rintro e w1 ⟨rfl, hd, ho⟩
  have hB1 : Bytes w1.drew (some ⟨bb, off, none⟩) c P := by
    refine ⟨hcc, hcm, fun e => (by cases e), fun k x hx => ⟨(hcells k x hx).1, bb, off, rfl, Nat.lt_of_lt_of_le hblt ho.size, ?_⟩⟩
    show w1.cell? _ = _
    rw [ho.cell bb _ hblt hne]
    exact (hcells k x hx).2
  have hX1 : ∀ b, X b → b < w1.drew.heap.size := fun b hb => Nat.lt_of_lt_of_le (hX b hb) ho.size
  have hO0 : Only (fun b => ¬ X b) w w1.drew := (ho.mono fun b _ e => by rw [e]; exact h2).drew
  obtain ⟨m, f, fv, h1, h2, h3, h4, h5, h6, h7, h8, h9, hA⟩ := disk_old hd (old_drew (old_refl w1))
  obtain ⟨v2, w2, hrun, hown, hgrow, -⟩ := run_append_own (P := Try.prog) w1.drew w1.drew.heap.size 31 31 5 i0 (.int .u8 0) 1 1 Try.underlying31 hi hz0 hz1 hz2 rfl (by decide) _ 0 [] (World.ownsRow_nil _ _ _ _) ⟨bb, off, none⟩ 4096 c (P.map vb) (by simp [hP]) (bytes_news2 hB1) (vb_one P) (by unfold maxLen; omega) (by omega) (Nat.le_refl _)
  simp only [Nat.zero_add, List.nil_append] at hown
  obtain ⟨g2, c2, hv2, hrow2⟩ := row_of hown hP.symm (by omega) hP256
  rw [hP] at hv2
  subst hv2
  have hO2 := old_grown (old_refl w1.drew) hgrow (fun g e => by cases e)
  obtain ⟨w3, hput, hmap3, ho3⟩ := map_put (P := Try.prog) (t := 106) Try.underlying106 Try.underlying3 (isMap_old h3 hO2) k (.slice (some ⟨g2, 0, none⟩) 4096 c2)
  have hfin := put_page h1 h2 h3 h4 h5 h6 h7 h8 h9 hA hX1 hO2 hrow2 hP hdom.1 hdom.2 hmap3 ho3
  have cA : w1.drew.cell? ⟨p, 1, none⟩ = some (.map (some m)) := by rw [cell_of h1]; rfl
  have cB : w2.cell? ⟨p, 1, none⟩ = some (.map (some m)) := by rw [cell_of (keep_old hO2 h1)]; rfl
  have HF := Lib.hid hfin
  have HO0 := Lib.hid hO0
  clear hgo hd ho hfin h1 h3 h4 h5 h6 h7 h8 h9 hA hmap3 ho3 hO2 hrow2 hown hgrow hB1 hX1 hcells hP256 hO0 hX
  go_wp2_with fail
  refine wp_region_staged (S := StageS 6 w1.drew w2) 7 (by kernel_rfl) (by kernel_rfl) (by kernel_rfl) (by decide) rfl ?_
  (apply walkedS_cons; (focus (intro l9 wS hz hn hS; have hS9 := stage_other 0 (by decide) hS; have c9 := stage_cell hS cA cB; clear hS; go_wp2; exact ⟨rfl, rfl, hS9⟩)); rfl; (try simp only [Act.put, List.setIfInBounds_toArray, List.set_cons_succ, List.set_cons_zero]))
  (apply walkedS_cons; (focus (intro l9 wS hz hn hS; have hS9 := stage_other 1 (by decide) hS; have c9 := stage_cell hS cA cB; clear hS; go_wp2; exact ⟨rfl, rfl, hS9⟩)); rfl; (try simp only [Act.put, List.setIfInBounds_toArray, List.set_cons_succ, List.set_cons_zero]))
  (apply walkedS_cons; (focus (intro l9 wS hz hn hS; have hS9 := stage_other 2 (by decide) hS; have c9 := stage_cell hS cA cB; clear hS; go_wp2; exact ⟨rfl, rfl, hS9⟩)); rfl; (try simp only [Act.put, List.setIfInBounds_toArray, List.set_cons_succ, List.set_cons_zero]))
  (apply walkedS_cons; (focus (intro l9 wS hz hn hS; have hS9 := stage_other 3 (by decide) hS; have c9 := stage_cell hS cA cB; clear hS; go_wp2; exact ⟨rfl, rfl, hS9⟩)); rfl; (try simp only [Act.put, List.setIfInBounds_toArray, List.set_cons_succ, List.set_cons_zero]))
  (apply walkedS_cons; (focus (intro l9 wS hz hn hS; have hS9 := stage_other 4 (by decide) hS; have c9 := stage_cell hS cA cB; clear hS; go_wp2; exact ⟨rfl, rfl, hS9⟩)); rfl; (try simp only [Act.put, List.setIfInBounds_toArray, List.set_cons_succ, List.set_cons_zero]))
  (apply walkedS_cons; (focus (intro l9 wS hz hn hS; have hS9 := stage_other 5 (by decide) hS; have c9 := stage_cell hS cA cB; clear hS; go_wp2; exact ⟨rfl, rfl, hS9⟩)); rfl; (try simp only [Act.put, List.setIfInBounds_toArray, List.set_cons_succ, List.set_cons_zero]))
  apply walkedS_cons
  · intro l9 wS hz hn hS
    obtain rfl := stage_before hn hS
    clear hS
    go_wp2_with (at_builtin; refine wpList_append_at rfl _ _ 31 rfl _ _ rfl rfl _ _ hrun ?_)
    exact ⟨rfl, rfl, stage_done hz (by decide)⟩
  · rfl
  apply walkedS_nil
  intro l9 wS hz hall hS
  obtain rfl := stage_after (hall 6 (by decide)) hS
  clear hS
  show wpList _ _ _ [_] _ _
  go_wp2
  go_ret
  exact ⟨rfl, HF.out.1, HO0.out.trans HF.out.2⟩
end Go.Proofs.Ytfiofjalpaeohaa
/- Contracts of the package disk: Take. -/
namespace Go.Proofs.Ytfiofjalpaeohaa
set_option linter.unusedVariables false
set_option linter.unusedSimpArgs false
open Go.RowKit

def zeros4096 : List Nat := List.replicate 4096 0
theorem zeros4096_length : zeros4096.length = 4096 := List.length_replicate

/-- A new page, all 0. -/
theorem make_page (w : World) : ∃ w', (Instr.makeSlice 31 (.int .i64 4096) (.int .i64 4096)).run Try.prog w = .ok (.slice (some ⟨w.heap.size, 0, none⟩) 4096 4096) w' ∧ Row w' w.heap.size w.heap.size 4096 zeros4096 ∧ Old w w' := by
  obtain ⟨i0, hi, hz0, hz1, hz2⟩ := info_parts u8_info
  obtain ⟨w', hrun, hown, hg⟩ := run_make_full (P := Try.prog) w w.heap.size 31 5 i0 (.int .u8 0) 1 Try.underlying31 hi hz0 hz1 .i64 .i64 4096 (by omega) (by unfold maxLen; omega) (Nat.le_refl _)
  refine ⟨w', hrun, ⟨?_, ?_⟩, old_grown (old_refl w) hg (fun g e => by cases e)⟩
  · have e : (madeCells (Value.int .u8 0).cells (4096 * 1)).toList = zeros4096.map vb := by
      rw [show (Value.int .u8 0).cells = #[.int .u8 0] from rfl, toList_madeCells_one]
      unfold zeros4096
      rw [List.map_replicate]
      rfl
    rw [zeros4096_length, ← e]
    exact hown
  · intro x hx
    have := List.eq_of_mem_replicate hx
    omega

theorem take_full (X : Nat → Prop) (p slots : Nat) (pg : Int → Option (List Nat)) (F : List Bool) (w : World) (h : IsDisk w X p slots pg F) (hc : cntOf pg slots = slots) :
    Calls Try.prog 14 #[.pointer (some ⟨p, 0, none⟩)] w (RetDisk w X p slots (.tuple #[.int .i64 0, .int .i64 12]) pg F) := by
  have hf := free_calls X p slots pg F w h
  rw [hc, Nat.sub_self] at hf
  have H := Lib.hid h
  clear h hc
  go_enter Try.func14, Try.ntmps14
  go_wp2
  refine wp_scope_labels (fun _ _ _ _ => False) ?_ (fun _ _ _ _ h => h.elim)
  go_wp2_with fail
  (with_reducible refine hf.mono ?_)
  rintro e w1 ⟨rfl, hb⟩
  have HD := Lib.hid (disk_old H.out hb)
  clear hf
  go_wp2
  simp only [toLabel]
  go_ret2
  exact ⟨rfl, HD.out, (Only.of_below hb).mono fun b _ f => f.elim⟩

/-- The frame at the label. -/
def TakeFrame (p : Nat) (j : Int) (a : Act) : Prop := ∃ u1 u2 u3 u5 u6 u7 u8 u9 u10 u11 u12 u13 u14 u15 u16 u17 u18 u19 u20 u21 u22 u23 u24 u25 u26 u27 u28 : Value, a = { tmps := #[.pointer (some ⟨p, 0, none⟩), u1, u2, u3, .int .i64 j, u5, u6, u7, u8, u9, u10, u11, u12, u13, u14, u15, u16, u17, u18, u19, u20, u21, u22, u23, u24, u25, u26, u27, u28], defers := [] }

set_option maxHeartbeats 4000000 in
set_option maxRecDepth 100000 in
theorem take_ok (X : Nat → Prop) (p slots : Nat) (pg : Int → Option (List Nat)) (F : List Bool) (i : Nat) (w : World) (h : IsDisk w X p slots pg F) (hX : ∀ b, X b → b < w.heap.size) (hi : i < slots) (hfree : pg i = none) (hleast : ∀ j : Nat, j < i → (pg j).isSome = true) :
    Calls Try.prog 14 #[.pointer (some ⟨p, 0, none⟩)] w (RetDisk w X p slots (.tuple #[.int .i64 i, .int .i64 0]) (updP pg i (some zeros4096)) F) := by
  have hf := free_calls X p slots pg F w h
  have hcl := cnt_le pg slots
  have hlt : cntOf pg slots < slots := by
    have key : ∀ n : Nat, i < n → cntOf pg n < n := by
      intro n hn
      induction n with
      | zero => omega
      | succ n ih =>
        unfold cntOf
        by_cases e : i = n
        · subst e
          rw [hfree]
          have := cnt_le pg i
          simp
          omega
        · have := ih (by omega)
          split <;> omega
    exact key slots hi
  have hfb : (((slots - cntOf pg slots : Nat) : Int) == 0) = false := by rw [beq_eq_false_iff_ne]; omega
  generalize slots - cntOf pg slots = fr at *
  have H := Lib.hid h
  clear h
  go_enter Try.func14, Try.ntmps14
  go_wp2
  refine wp_scope_labels (fun lb k a x => lb = 0 ∧ Old w x ∧ ∃ j : Nat, j ≤ i ∧ k = i - j ∧ TakeFrame p j a) ?_ ?_
  · go_wp2_with fail
    (with_reducible refine hf.mono ?_)
    rintro e w1 ⟨rfl, hb⟩
    have hO := hb
    clear hf
    go_wp2
    go_step3
    have hd := disk_old H.out hO
    have hX1 : ∀ b, X b → b < w1.drew.heap.size := fun b hbx => Nat.lt_of_lt_of_le (hX b hbx) hO.size
    have hdd := disk_old hd (old_drew (old_refl _))
    by_cases hji : (0 : Nat) < i
    · obtain ⟨l, hl⟩ := Option.isSome_iff_exists.1 (hleast (0 : Nat) hji)
      obtain ⟨m, f, fv, h1, h2, h3, h4, h5, h6, h7, h8, h9, hA⟩ := hd
      have c1 : w1.cell? ⟨p, 1, none⟩ = some (.map (some m)) := by rw [cell_of h1]; rfl
      obtain ⟨v, hv, g, c, rfl, -⟩ := h9 _ l hl
      have hlk := map_lookup (P := Try.prog) (t := 106) Try.underlying106 Try.underlying3 h3 hv
      clear h1 h3 h4 h5 h7 h8 h9 hA hv hl hX1 hdd
      have hlk : (Instr.lookup 106 (.map (some m)) (.int .i64 0) true).run Try.prog w1 = .ok (.tuple #[.slice (some ⟨g, 0, none⟩) 4096 c, .bool true]) w1 := hlk
      go_wp2
      go_step3
      exact ⟨i - 1, rfl, hO, 1, by omega, rfl, _, _, _, _, _, _, _, _, _, _, _, _, _, _, _, _, _, _, _, _, _, _, _, _, _, _, _, rfl⟩
    · obtain rfl : i = 0 := by omega
      clear hdd
      obtain ⟨m, f, fv, h1, h2, h3, h4, h5, h6, h7, h8, h9, hA⟩ := hd
      have c1 : w1.cell? ⟨p, 1, none⟩ = some (.map (some m)) := by rw [cell_of h1]; rfl
      have hlk := map_miss (P := Try.prog) (t := 106) Try.underlying106 Try.underlying3 (zero_bytes w1) h3 (h8 _ hfree)
      have od : Old w1 w1.drew := old_drew (old_refl _)
      replace h1 := keep_old od h1
      replace h3 := isMap_old h3 od
      replace hA := fails_only hA (Only.of_below od) fun _ _ _ _ f => f
      replace h9 : ∀ k l, pg k = some l → ∃ v, f k = some v ∧ PageIs w1.drew X p m v l := fun k l hk => by
        obtain ⟨v, a, b⟩ := h9 k l hk
        exact ⟨v, a, page_only b (Only.of_below od) fun _ _ _ _ f => f⟩
      obtain ⟨w2, hrun, hrow2, hO2⟩ := make_page w1.drew
      obtain ⟨w3, hput, hmap3, ho3⟩ := map_put (P := Try.prog) (t := 106) Try.underlying106 Try.underlying3 (isMap_old h3 hO2) 0 (.slice (some ⟨w1.heap.size, 0, none⟩) 4096 4096)
      have hfin := put_page h1 h2 h3 h4 h5 h6 h7 h8 h9 hA hX1 hO2 hrow2 zeros4096_length (by omega) (by omega) hmap3 ho3
      have cA : w1.drew.cell? ⟨p, 1, none⟩ = some (.map (some m)) := by rw [cell_of h1]; rfl
      have cB : w2.cell? ⟨p, 1, none⟩ = some (.map (some m)) := by rw [cell_of (keep_old hO2 h1)]; rfl
      have HF := Lib.hid hfin
      clear hfin h1 h3 h4 h5 h6 h7 h8 h9 hA hmap3 ho3 hO2 hrow2 hX1 od
      have hlk : (Instr.lookup 106 (.map (some m)) (.int .i64 0) true).run Try.prog w1 = .ok (.tuple #[.slice none 0 0, .bool false]) w1 := hlk
      go_wp2_with fail
      refine wp_region_staged (S := StageS 5 w1.drew w2) 6 (by kernel_rfl) (by kernel_rfl) (by kernel_rfl) (by decide) rfl ?_
      (apply walkedS_cons; (focus (intro l9 wS hz hn hS; have hS9 := stage_other 0 (by decide) hS; have c9 := stage_cell hS cA cB; clear hS; go_wp2; exact ⟨rfl, rfl, hS9⟩)); rfl; (try simp only [Act.put, List.setIfInBounds_toArray, List.set_cons_succ, List.set_cons_zero]))
      (apply walkedS_cons; (focus (intro l9 wS hz hn hS; have hS9 := stage_other 1 (by decide) hS; have c9 := stage_cell hS cA cB; clear hS; go_wp2; exact ⟨rfl, rfl, hS9⟩)); rfl; (try simp only [Act.put, List.setIfInBounds_toArray, List.set_cons_succ, List.set_cons_zero]))
      (apply walkedS_cons; (focus (intro l9 wS hz hn hS; have hS9 := stage_other 2 (by decide) hS; have c9 := stage_cell hS cA cB; clear hS; go_wp2; exact ⟨rfl, rfl, hS9⟩)); rfl; (try simp only [Act.put, List.setIfInBounds_toArray, List.set_cons_succ, List.set_cons_zero]))
      (apply walkedS_cons; (focus (intro l9 wS hz hn hS; have hS9 := stage_other 3 (by decide) hS; have c9 := stage_cell hS cA cB; clear hS; go_wp2; exact ⟨rfl, rfl, hS9⟩)); rfl; (try simp only [Act.put, List.setIfInBounds_toArray, List.set_cons_succ, List.set_cons_zero]))
      (apply walkedS_cons; (focus (intro l9 wS hz hn hS; have hS9 := stage_other 4 (by decide) hS; have c9 := stage_cell hS cA cB; clear hS; go_wp2; exact ⟨rfl, rfl, hS9⟩)); rfl; (try simp only [Act.put, List.setIfInBounds_toArray, List.set_cons_succ, List.set_cons_zero]))
      apply walkedS_cons
      · intro l9 wS hz hn hS
        obtain rfl := stage_before hn hS
        clear hS
        go_wp2
        exact ⟨rfl, rfl, stage_done hz (by decide)⟩
      · rfl
      apply walkedS_nil
      intro l9 wS hz hall hS
      obtain rfl := stage_after (hall 5 (by decide)) hS
      clear hS
      show wpList _ _ _ [_] _ _
      go_wp2
      try simp only [toLabel]
      go_ret2
      exact ⟨rfl, HF.out.1, (((Only.of_below hO).mono fun b _ f => f.elim).drew).trans HF.out.2⟩
  · rintro lb k a x ⟨rfl, hO, j, hj, rfl, hfr⟩
    obtain ⟨u1, u2, u3, u5, u6, u7, u8, u9, u10, u11, u12, u13, u14, u15, u16, u17, u18, u19, u20, u21, u22, u23, u24, u25, u26, u27, u28, rfl⟩ := hfr
    refine ⟨_, rfl, ?_⟩
    clear hf
    have hd := disk_old H.out hO
    have hX1 : ∀ b, X b → b < x.drew.heap.size := fun b hbx => Nat.lt_of_lt_of_le (hX b hbx) hO.size
    have hdd := disk_old hd (old_drew (old_refl _))
    by_cases hji : j < i
    · obtain ⟨l, hl⟩ := Option.isSome_iff_exists.1 (hleast j hji)
      obtain ⟨m, f, fv, h1, h2, h3, h4, h5, h6, h7, h8, h9, hA⟩ := hd
      have c1 : x.cell? ⟨p, 1, none⟩ = some (.map (some m)) := by rw [cell_of h1]; rfl
      obtain ⟨v, hv, g, c, rfl, -⟩ := h9 _ l hl
      have hlk := map_lookup (P := Try.prog) (t := 106) Try.underlying106 Try.underlying3 h3 hv
      clear h1 h3 h4 h5 h7 h8 h9 hA hv hl hX1 hdd
      
      go_wp2
      go_step3
      exact ⟨i - (j + 1), by omega, rfl, hO, j + 1, by omega, rfl, by rw [Int.natCast_add]; exact ⟨_, _, _, _, _, _, _, _, _, _, _, _, _, _, _, _, _, _, _, _, _, _, _, _, _, _, _, rfl⟩⟩
    · obtain rfl : j = i := by omega
      clear hdd
      obtain ⟨m, f, fv, h1, h2, h3, h4, h5, h6, h7, h8, h9, hA⟩ := hd
      have c1 : x.cell? ⟨p, 1, none⟩ = some (.map (some m)) := by rw [cell_of h1]; rfl
      have hlk := map_miss (P := Try.prog) (t := 106) Try.underlying106 Try.underlying3 (zero_bytes x) h3 (h8 _ hfree)
      have od : Old x x.drew := old_drew (old_refl _)
      replace h1 := keep_old od h1
      replace h3 := isMap_old h3 od
      replace hA := fails_only hA (Only.of_below od) fun _ _ _ _ f => f
      replace h9 : ∀ k l, pg k = some l → ∃ v, f k = some v ∧ PageIs x.drew X p m v l := fun k l hk => by
        obtain ⟨v, a, b⟩ := h9 k l hk
        exact ⟨v, a, page_only b (Only.of_below od) fun _ _ _ _ f => f⟩
      obtain ⟨w2, hrun, hrow2, hO2⟩ := make_page x.drew
      obtain ⟨w3, hput, hmap3, ho3⟩ := map_put (P := Try.prog) (t := 106) Try.underlying106 Try.underlying3 (isMap_old h3 hO2) (j : Int) (.slice (some ⟨x.heap.size, 0, none⟩) 4096 4096)
      have hfin := put_page h1 h2 h3 h4 h5 h6 h7 h8 h9 hA hX1 hO2 hrow2 zeros4096_length (by omega) (by omega) hmap3 ho3
      have cA : x.drew.cell? ⟨p, 1, none⟩ = some (.map (some m)) := by rw [cell_of h1]; rfl
      have cB : w2.cell? ⟨p, 1, none⟩ = some (.map (some m)) := by rw [cell_of (keep_old hO2 h1)]; rfl
      have HF := Lib.hid hfin
      clear hfin h1 h3 h4 h5 h6 h7 h8 h9 hA hmap3 ho3 hO2 hrow2 hX1 od
      
      go_wp2_with fail
      refine wp_region_staged (S := StageS 5 x.drew w2) 6 (by kernel_rfl) (by kernel_rfl) (by kernel_rfl) (by decide) rfl ?_
      (apply walkedS_cons; (focus (intro l9 wS hz hn hS; have hS9 := stage_other 0 (by decide) hS; have c9 := stage_cell hS cA cB; clear hS; go_wp2; exact ⟨rfl, rfl, hS9⟩)); rfl; (try simp only [Act.put, List.setIfInBounds_toArray, List.set_cons_succ, List.set_cons_zero]))
      (apply walkedS_cons; (focus (intro l9 wS hz hn hS; have hS9 := stage_other 1 (by decide) hS; have c9 := stage_cell hS cA cB; clear hS; go_wp2; exact ⟨rfl, rfl, hS9⟩)); rfl; (try simp only [Act.put, List.setIfInBounds_toArray, List.set_cons_succ, List.set_cons_zero]))
      (apply walkedS_cons; (focus (intro l9 wS hz hn hS; have hS9 := stage_other 2 (by decide) hS; have c9 := stage_cell hS cA cB; clear hS; go_wp2; exact ⟨rfl, rfl, hS9⟩)); rfl; (try simp only [Act.put, List.setIfInBounds_toArray, List.set_cons_succ, List.set_cons_zero]))
      (apply walkedS_cons; (focus (intro l9 wS hz hn hS; have hS9 := stage_other 3 (by decide) hS; have c9 := stage_cell hS cA cB; clear hS; go_wp2; exact ⟨rfl, rfl, hS9⟩)); rfl; (try simp only [Act.put, List.setIfInBounds_toArray, List.set_cons_succ, List.set_cons_zero]))
      (apply walkedS_cons; (focus (intro l9 wS hz hn hS; have hS9 := stage_other 4 (by decide) hS; have c9 := stage_cell hS cA cB; clear hS; go_wp2; exact ⟨rfl, rfl, hS9⟩)); rfl; (try simp only [Act.put, List.setIfInBounds_toArray, List.set_cons_succ, List.set_cons_zero]))
      apply walkedS_cons
      · intro l9 wS hz hn hS
        obtain rfl := stage_before hn hS
        clear hS
        go_wp2
        exact ⟨rfl, rfl, stage_done hz (by decide)⟩
      · rfl
      apply walkedS_nil
      intro l9 wS hz hall hS
      obtain rfl := stage_after (hall 5 (by decide)) hS
      clear hS
      show wpList _ _ _ [_] _ _
      go_wp2
      try simp only [toLabel]
      go_ret2
      exact ⟨rfl, HF.out.1, (((Only.of_below hO).mono fun b _ f => f.elim).drew).trans HF.out.2⟩
end Go.Proofs.Ytfiofjalpaeohaa
/- Contracts of the package phys: the memory, what it holds, has, Frames, Ops, page, place, New. -/
namespace Go.Proofs.Ytfiofjalpaeohaa
set_option linter.unusedVariables false
set_option linter.unusedSimpArgs false
open Go.RowKit Go.MapKept

section
variable {P : Program} {t k e : TypeId} {w : World} {m n : Nat} {f : Int → Option Value}
theorem map_get (ht : P.underlying t = some (.map k e)) (hk : P.underlying k = some (.int .i64)) (h : IsMap w m f n) {x : Int} {v : Value} (hx : f x = some v) :
    (Instr.lookup t (.map (some m)) (.int .i64 x) false).run P w = .ok v w := by
  obtain ⟨es, clock, l, hb, he, _, _, hf⟩ := h
  rw [hf, assocL] at hx
  obtain ⟨y, hy, rfl⟩ := Option.map_eq_some_iff.1 hx
  have h1 := Go.MapKept.run_getObj_map (P := P) hb
  have h2 := run_checkKey (P := P) (w := w) (k := .int .i64 x) hk (by first | trivial | exact ⟨_, rfl⟩ | simp [IsKey]) es.isEmpty 9999
  have h3 := map_seek (w := w) hk he x
  rw [hy] at h3
  simp [Instr.lookup, Sem.run_bind, run_underlying ht, Result.andThen, h1, h2, h3]
theorem map_get_none (ht : P.underlying t = some (.map k e)) (hk : P.underlying k = some (.int .i64)) {z : Value} (hz : (zeroValue e).run P w = .ok z w) (h : IsMap w m f n) {x : Int} (hx : f x = none) :
    (Instr.lookup t (.map (some m)) (.int .i64 x) false).run P w = .ok z w := by
  obtain ⟨es, clock, l, hb, he, _, _, hf⟩ := h
  rw [hf, assocL] at hx
  have hy : seekL l x 0 = none := Option.map_eq_none_iff.1 hx
  have h1 := Go.MapKept.run_getObj_map (P := P) hb
  have h2 := run_checkKey (P := P) (w := w) (k := .int .i64 x) hk (by first | trivial | exact ⟨_, rfl⟩ | simp [IsKey]) es.isEmpty 9999
  have h3 := map_seek (w := w) hk he x
  rw [hy] at h3
  simp [Instr.lookup, Sem.run_bind, run_underlying ht, Result.andThen, h1, h2, h3, hz]
theorem map_del_none (ht : P.underlying t = some (.map k e)) (hk : P.underlying k = some (.int .i64)) (h : IsMap w m f n) (x : Int) (hx : f x = none) :
    ∀ t2 ty : TypeId, (Builtin.delete_ #[t, t2] ty #[.map (some m), .int .i64 x]).run P w = .ok (.tuple #[]) w := by
  obtain ⟨es, clock, l, hb, he, hnd, hn, hf⟩ := h
  rw [hf, assocL] at hx
  have hy : seekL l x 0 = none := Option.map_eq_none_iff.1 hx
  have h1 := Go.MapKept.run_getObj_map (P := P) hb
  have h2 := run_checkKey (P := P) (w := w) (k := .int .i64 x) hk (by first | trivial | exact ⟨_, rfl⟩ | simp [IsKey]) es.isEmpty 9999
  have h3 := map_seek (w := w) hk he x
  rw [hy] at h3
  intro t2 ty
  have h4 := Go.MapKept.run_setObj_map (P := P) (.map es clock) hb
  have hid : putB w m (.map es clock) = w := by
    unfold putB
    have : w.heap.setIfInBounds m (.map es clock) = w.heap := by
      apply Array.ext_getElem?
      intro i
      rw [Array.getElem?_setIfInBounds]
      by_cases hi : m = i
      · subst hi
        rw [if_pos rfl, hb, if_pos (lt_of_block hb)]
      · rw [if_neg hi]
    rw [this]
  simp [Builtin.delete_, Sem.run_bind, run_underlying ht, Result.andThen, h1, h2, h3, h4]
  exact hid
end

/-- The cells of a memory. -/
def memCells (frames m ops : Nat) : Array Value := #[.int .i64 frames, .map (some m), .int .i64 ops]
/-- Block p holds a memory; X: blocks that are not its own. -/
def IsMem (w : World) (X : Nat → Prop) (p frames : Nat) (pg : Int → Option (List Nat)) (ops : Nat) : Prop :=
  ∃ m f n, w.heap[p]? = some (.cells (memCells frames m ops) 134) ∧ ¬ X p ∧ IsMap w m f n ∧ ¬ X m ∧ m ≠ p ∧ (1 ≤ frames ∧ frames ≤ 1048576) ∧
    (∀ k, pg k = none → f k = none) ∧ (∀ k l, pg k = some l → ∃ v, f k = some v ∧ PageIs w X p m v l)
/-- A frame's bytes. -/
def pageOf (pg : Int → Option (List Nat)) (k : Int) : List Nat := (pg k).getD zeros4096

section
variable {w x : World} {X Y : Nat → Prop} {p frames ops : Nat} {pg : Int → Option (List Nat)}
/-- Others' blocks were turned. -/
theorem mem_only {G : Nat → Prop} (h : IsMem w X p frames pg ops) (ho : Only G w x) (hG : ∀ b, ¬ X b → ¬ G b) : IsMem x X p frames pg ops := by
  obtain ⟨m, f, n, h1, h2, h3, h4, h5, h6, h7, h8⟩ := h
  refine ⟨m, f, n, keep_only ho (hG p h2) h1, h2, isMap_only h3 ho (hG m h4), h4, h5, h6, h7, fun k l hk => ?_⟩
  obtain ⟨v, a, b⟩ := h8 k l hk
  exact ⟨v, a, page_only b ho fun b hb _ _ => hG b hb⟩
theorem mem_old (h : IsMem w X p frames pg ops) (ho : Old w x) : IsMem x X p frames pg ops := mem_only h (Only.of_below ho) fun _ _ f => f
/-- More blocks that are not the memory's own. -/
theorem mem_more (h : IsMem w X p frames pg ops) (hY : ∀ b, Y b → X b ∨ w.heap.size ≤ b) : IsMem w Y p frames pg ops := by
  obtain ⟨m, f, n, h1, h2, h3, h4, h5, h6, h7, h8⟩ := h
  have key : ∀ b, ¬ X b → b < w.heap.size → ¬ Y b := fun b hb hl hy => (hY b hy).elim hb (by omega)
  refine ⟨m, f, n, h1, key p h2 (lt_of_block h1), h3, key m h4 (isMap_lt h3), h5, h6, h7, fun k l hk => ?_⟩
  obtain ⟨v, a, g, c, rfl, b1, b2, b3, b4, b5⟩ := h8 k l hk
  exact ⟨_, a, g, c, rfl, b1, b2, key g b3 (row_parts b2).2.1, b4, b5⟩
theorem pageOf_length (h : IsMem w X p frames pg ops) (k : Int) : (pageOf pg k).length = 4096 := by
  unfold pageOf
  cases hk : pg k with
  | none => exact zeros4096_length
  | some l =>
    obtain ⟨m, f, n, h1, h2, h3, h4, h5, h6, h7, h8⟩ := h
    obtain ⟨v, _, g, c, _, hl, _⟩ := h8 k l hk
    exact hl
/-- Another count of reads and writes. -/
theorem mem_ops (h : IsMem w X p frames pg ops) (o2 : Nat) : ∃ C, w.heap[p]? = some (.cells C 134) ∧ C[2]? = some (.int .i64 ops) ∧ IsMem (putB w p (.cells (C.setIfInBounds 2 (.int .i64 o2)) 134)) X p frames pg o2 ∧ Only (fun b => ¬ X b) w (putB w p (.cells (C.setIfInBounds 2 (.int .i64 o2)) 134)) := by
  obtain ⟨m, f, n, h1, h2, h3, h4, h5, h6, h7, h8⟩ := h
  have hp := lt_of_block h1
  have ho : Only (fun b => b = p) w (putB w p (.cells (memCells frames m o2) 134)) := (Only.refl _ _).putB _ (fun _ => rfl)
  refine ⟨_, h1, rfl, ⟨m, f, n, putB_same _ hp, h2, isMap_only h3 ho (fun e => h5 e), h4, h5, h6, h7, fun k l hk => ?_⟩, ho.mono fun b _ e => by rw [e]; exact h2⟩
  obtain ⟨v, a, b⟩ := h8 k l hk
  exact ⟨v, a, page_only b ho fun b _ hp _ e => hp e⟩
/-- A page laid. -/
theorem mem_page (h : IsMem w X p frames pg ops) (k : Int) (l : List Nat) (B g c : Nat) (hr : Row w B g c l) (hl : l.length = 4096) (hg : ¬ X g) (hgp : g ≠ p) (hgm : ∀ m, w.cell? ⟨p, 1, none⟩ = some (.map (some m)) → g ≠ m) :
    ∃ m, w.cell? ⟨p, 1, none⟩ = some (.map (some m)) ∧ ∃ w', (Instr.mapUpdate 106 (.map (some m)) (.int .i64 k) (.slice (some ⟨g, 0, none⟩) 4096 c)).run Try.prog w = .ok () w' ∧ IsMem w' X p frames (updP pg k (some l)) ops ∧ Only (fun b => ¬ X b) w w' := by
  obtain ⟨m, f, n, h1, h2, h3, h4, h5, h6, h7, h8⟩ := h
  have c1 : w.cell? ⟨p, 1, none⟩ = some (.map (some m)) := by rw [cell_of h1]; rfl
  obtain ⟨w', hput, hmap, ho⟩ := map_put (P := Try.prog) (t := 106) Try.underlying106 Try.underlying3 h3 k (.slice (some ⟨g, 0, none⟩) 4096 c)
  refine ⟨m, c1, w', hput, ⟨m, _, _, keep_only ho (fun e => h5 e.symm) h1, h2, hmap, h4, h5, h6, fun j hj => ?_, fun j lj hj => ?_⟩, ho.mono fun b _ e => by rw [e]; exact h4⟩
  · unfold updP at hj
    unfold updF
    by_cases e : j = k
    · rw [if_pos e] at hj; cases hj
    · rw [if_neg e] at hj ⊢; exact h7 j hj
  · unfold updP at hj
    unfold updF
    by_cases e : j = k
    · rw [if_pos e] at hj ⊢
      obtain rfl := Option.some.inj hj
      have hr0 : Row w 0 g c l := by
        refine ⟨⟨hr.1.1, ?_⟩, hr.2⟩
        rcases hr.1.2 with h' | ⟨g', cap', cur, h', hb, rest⟩
        · exact .inl h'
        · exact .inr ⟨g', cap', cur, h', Nat.zero_le _, rest⟩
      exact ⟨_, rfl, g, c, rfl, hl, row_only hr0 ho (fun e => hgm m c1 e), hg, hgp, hgm m c1⟩
    · rw [if_neg e] at hj ⊢
      obtain ⟨v, a, b⟩ := h8 j lj hj
      exact ⟨v, a, page_only b ho fun b _ _ hm e => hm e⟩
/-- A page taken away. -/
theorem mem_zero (h : IsMem w X p frames pg ops) (k : Int) :
    ∃ m, w.cell? ⟨p, 1, none⟩ = some (.map (some m)) ∧ ∃ w', (∀ ty : TypeId, (Builtin.delete_ #[106, 3] ty #[.map (some m), .int .i64 k]).run Try.prog w = .ok (.tuple #[]) w') ∧ IsMem w' X p frames (updP pg k none) ops ∧ Only (fun b => ¬ X b) w w' := by
  obtain ⟨m, f, n, h1, h2, h3, h4, h5, h6, h7, h8⟩ := h
  have c1 : w.cell? ⟨p, 1, none⟩ = some (.map (some m)) := by rw [cell_of h1]; rfl
  cases hk : pg k with
  | none =>
    have hdel := map_del_none (P := Try.prog) (t := 106) Try.underlying106 Try.underlying3 h3 k (h7 k hk)
    have e : updP pg k none = pg := by
      funext j
      unfold updP
      by_cases hj : j = k
      · rw [if_pos hj, hj, hk]
      · rw [if_neg hj]
    rw [e]
    exact ⟨m, c1, w, fun ty => hdel 3 ty, ⟨m, f, n, h1, h2, h3, h4, h5, h6, h7, h8⟩, Only.refl _ _⟩
  | some l =>
    obtain ⟨v, hv, hpg⟩ := h8 k l hk
    obtain ⟨w', hdel, hmap, -, ho⟩ := map_del (P := Try.prog) (t := 106) Try.underlying106 Try.underlying3 h3 k v hv
    refine ⟨m, c1, w', fun ty => hdel 3 ty, ⟨m, _, _, keep_only ho (fun e => h5 e.symm) h1, h2, hmap, h4, h5, h6, fun j hj => ?_, fun j lj hj => ?_⟩, ho.mono fun b _ e => by rw [e]; exact h4⟩
    · unfold updP at hj
      unfold updF
      by_cases e : j = k
      · rw [if_pos e]
      · rw [if_neg e] at hj ⊢; exact h7 j hj
    · unfold updP at hj
      unfold updF
      by_cases e : j = k
      · rw [if_pos e] at hj; cases hj
      · rw [if_neg e] at hj ⊢
        obtain ⟨v, a, b⟩ := h8 j lj hj
        exact ⟨v, a, page_only b ho fun b _ _ hm e => hm e⟩
end

/-- What a method of the memory leaves. -/
def RetMem (w : World) (X : Nat → Prop) (p frames : Nat) (v : Value) (pg : Int → Option (List Nat)) (ops : Nat) (e : Ending) (w' : World) : Prop :=
  e = .returned v ∧ IsMem w' X p frames pg ops ∧ Only (fun b => ¬ X b) w w'

theorem physNew_none (s : Int) (w : World) (h : ¬ (1 ≤ s ∧ s ≤ 1048576)) : Calls Try.prog 47 #[.int .i64 s] w (RetB w (.tuple #[.pointer none, .int .i64 1])) := by
  by_cases h1 : s < 1
  · clear h
    go_enter Try.func47, Try.ntmps47
    go_wp2
    go_ret2
    exact ⟨rfl, old_refl _⟩
  · have h2 : 1048576 < s := by omega
    clear h
    go_enter Try.func47, Try.ntmps47
    go_wp2
    go_ret2
    exact ⟨rfl, old_refl _⟩
theorem physNew_calls (n : Nat) (w : World) (h1 : 1 ≤ n) (h2 : n ≤ 1048576) : Calls Try.prog 47 #[.int .i64 n] w (fun e w' =>
    e = .returned (.tuple #[.pointer (some ⟨w.heap.size + 1, 0, none⟩), .int .i64 0]) ∧ Old w w' ∧ w'.heap.size = w.heap.size + 2 ∧ ∀ X : Nat → Prop, (∀ b, X b → b < w.heap.size) → IsMem w' X (w.heap.size + 1) n (fun _ => none) 0) := by
  have i1 : (1 : Int) ≤ n := by omega
  have i2 : (n : Int) ≤ 1048576 := by omega
  have hmm := @run_makeMap Try.prog
  go_enter Try.func47, Try.ntmps47
  go_wp2
  go_ret2
  refine ⟨?_, old_alloc (old_alloc (old_refl w) _) _, by simp, fun X hX => ⟨w.heap.size, fun _ => none, 0, ?_, fun f => by have := hX _ f; omega, isMap_old (isMap_made w) (old_alloc (old_refl _) _), fun f => by have := hX _ f; omega, by omega, ⟨h1, h2⟩, fun _ _ => rfl, fun k l hk => by cases hk⟩⟩
  · first | rfl | simp
  · exact alloc_heap_new _ _ _ (by simp)
section
variable {X : Nat → Prop} {p frames ops : Nat} {pg : Int → Option (List Nat)} {w : World}
theorem frames_calls (h : IsMem w X p frames pg ops) : Calls Try.prog 65 #[.pointer (some ⟨p, 0, none⟩)] w (RetB w (.int .i64 frames)) := by
  obtain ⟨m, f, n, h1, h2, h3, h4, h5, h6, h7, h8⟩ := h
  have c0 : w.cell? ⟨p, 0, none⟩ = some (.int .i64 frames) := by rw [cell_of h1]; rfl
  clear h1 h2 h3 h4 h5 h6 h7 h8
  go_enter Try.func65, Try.ntmps65
  go_wp2
  go_ret
  exact ⟨rfl, old_refl _⟩
theorem ops_calls (h : IsMem w X p frames pg ops) : Calls Try.prog 52 #[.pointer (some ⟨p, 0, none⟩)] w (RetB w (.int .i64 ops)) := by
  obtain ⟨m, f, n, h1, h2, h3, h4, h5, h6, h7, h8⟩ := h
  have c2 : w.cell? ⟨p, 2, none⟩ = some (.int .i64 ops) := by rw [cell_of h1]; rfl
  clear h1 h2 h3 h4 h5 h6 h7 h8
  go_enter Try.func52, Try.ntmps52
  go_wp2
  go_ret
  exact ⟨rfl, old_refl _⟩
def hasB (frames : Nat) (k : Int) : Bool := decide (0 ≤ k) && decide (k < frames)
theorem has_calls (h : IsMem w X p frames pg ops) (k : Int) : Calls Try.prog 85 #[.pointer (some ⟨p, 0, none⟩), .int .i64 k] w (RetB w (.bool (hasB frames k))) := by
  obtain ⟨m, f, n, h1, h2, h3, h4, h5, h6, h7, h8⟩ := h
  have c0 : w.cell? ⟨p, 0, none⟩ = some (.int .i64 frames) := by rw [cell_of h1]; rfl
  clear h1 h2 h3 h4 h5 h6 h7 h8
  by_cases k0 : 0 ≤ k
  · by_cases k1 : k < frames
    · have e : hasB frames k = true := by unfold hasB; simp [k0, k1]
      rw [e]
      clear e
      go_enter Try.func85, Try.ntmps85
      go_wp2
      go_ret
      exact ⟨rfl, old_refl _⟩
    · have e : hasB frames k = false := by unfold hasB; simp [k1]
      rw [e]
      clear e
      go_enter Try.func85, Try.ntmps85
      go_wp2
      go_ret
      exact ⟨rfl, old_refl _⟩
  · have e : hasB frames k = false := by unfold hasB; simp [k0]
    rw [e]
    clear e
    go_enter Try.func85, Try.ntmps85
    go_wp2
    go_ret
    exact ⟨rfl, old_refl _⟩
/-- page tells a frame's bytes: its own block, or a new one. -/
theorem page_calls (h : IsMem w X p frames pg ops) (k : Int) : Calls Try.prog 83 #[.pointer (some ⟨p, 0, none⟩), .int .i64 k] w (fun e w' => ∃ g c, e = .returned (.slice (some ⟨g, 0, none⟩) 4096 c) ∧ Row w' 0 g c (pageOf pg k) ∧ Old w w') := by
  have hl := pageOf_length h k
  obtain ⟨m, f, n, h1, h2, h3, h4, h5, h6, h7, h8⟩ := h
  have c1 : w.cell? ⟨p, 1, none⟩ = some (.map (some m)) := by rw [cell_of h1]; rfl
  cases hk : pg k with
  | none =>
    have hlk := map_miss (P := Try.prog) (t := 106) Try.underlying106 Try.underlying3 (zero_bytes w) h3 (h7 k hk)
    obtain ⟨w2, hmk, hrow, hO⟩ := make_page w
    have hp0 : pageOf pg k = zeros4096 := by unfold pageOf; rw [hk]; rfl
    rw [hp0]
    have hr0 : Row w2 0 w.heap.size 4096 zeros4096 := by
      refine ⟨⟨hrow.1.1, ?_⟩, hrow.2⟩
      rcases hrow.1.2 with h' | ⟨g', cap', cur, h', hb, rest⟩
      · exact .inl h'
      · exact .inr ⟨g', cap', cur, h', Nat.zero_le _, rest⟩
    have HR := Lib.hid (And.intro hr0 hO)
    clear h1 h2 h3 h4 h5 h6 h7 h8 hl hk hrow hO hr0 hp0
    go_enter Try.func83, Try.ntmps83
    go_wp2
    go_ret
    exact ⟨_, _, rfl, HR.out.1, HR.out.2⟩
  | some l =>
    obtain ⟨v, hv, g, c, rfl, b1, b2, b3, b4, b5⟩ := h8 k l hk
    have hlk := map_lookup (P := Try.prog) (t := 106) Try.underlying106 Try.underlying3 h3 hv
    have hp0 : pageOf pg k = l := by unfold pageOf; rw [hk]; rfl
    rw [hp0]
    have HR := Lib.hid b2
    clear h1 h2 h3 h4 h5 h6 h7 h8 hl hk hv b1 b2 b3 b4 b5 hp0
    go_enter Try.func83, Try.ntmps83
    go_wp2
    go_ret
    exact ⟨_, _, rfl, HR.out, old_refl _⟩
end
end Go.Proofs.Ytfiofjalpaeohaa
/- Contracts of the package phys: place, Read, Write. -/
namespace Go.Proofs.Ytfiofjalpaeohaa
set_option linter.unusedVariables false
set_option linter.unusedSimpArgs false
open Go.RowKit

/-- Why a word may not be. -/
def placeE (frames : Nat) (addr : Nat) (s : Int) : Int := if checkN 4096 ((addr % 4096 : Nat) : Int) s ≠ 0 then checkN 4096 ((addr % 4096 : Nat) : Int) s else if frames ≤ addr / 4096 then 2 else 0
section
variable {X : Nat → Prop} {p frames ops : Nat} {pg : Int → Option (List Nat)} {w : World}
theorem mplace_calls (h : IsMem w X p frames pg ops) (addr : Nat) (ha : addr < 18446744073709551616) (s : Int) :
    Calls Try.prog 81 #[.pointer (some ⟨p, 0, none⟩), .int .u64 (addr : Nat), .int .i64 s] w
      (RetB w (.tuple (if placeE frames addr s = 0 then #[.int .i64 (addr / 4096 : Nat), .int .i64 (addr % 4096 : Nat), .int .i64 0] else #[.int .i64 0, .int .i64 0, .int .i64 (placeE frames addr s)]))) := by
  obtain ⟨w1, hmk, hrow, hO⟩ := make_page w
  obtain ⟨m, f, n, h1, h2, h3, h4, h5, h6, h7, h8⟩ := h
  have c0 : w.cell? ⟨p, 0, none⟩ = some (.int .i64 frames) := by rw [cell_of h1]; rfl
  have hB := row_bytes hrow
  have hp := lt_of_block h1
  have e1 : ((addr : Int) % 4096) = ((addr % 4096 : Nat) : Int) := by omega
  have e2 : ((addr : Int) / 4096) = ((addr / 4096 : Nat) : Int) := by omega
  have hfr : IntKind.u64.wrap (frames : Int) = frames := IntWalk.u64_in _ (by omega)
  have hlo : addr % 4096 < 4096 := Nat.mod_lt _ (by decide)
  have hhi : addr / 4096 ≤ 9007199254740992 := by omega
  generalize hA : addr % 4096 = at_ at *
  generalize hF : addr / 4096 = fr at *
  have HA := Lib.hid (And.intro hA hF)
  have hPE : placeE frames addr s = if checkN 4096 (at_ : Int) s ≠ 0 then checkN 4096 (at_ : Int) s else if frames ≤ fr then 2 else 0 := by unfold placeE; rw [hA, hF]
  rw [hPE]
  clear hPE
  by_cases hc : checkN 4096 (at_ : Int) s = 0
  case neg =>
    have e : (if checkN 4096 (at_ : Int) s ≠ 0 then checkN 4096 (at_ : Int) s else if frames ≤ fr then 2 else 0) = checkN 4096 (at_ : Int) s := if_pos hc
    rw [e, if_neg hc]
    clear e
    have hget := fun x => get_fail (some ⟨w.heap.size, 0, none⟩) 4096 4096 (at_ : Int) s x (by decide) _ rfl hc
    generalize checkN 4096 (at_ : Int) s = E at *
    have hb : (E != 0) = true := by simp [hc]
    have HO := Lib.hid hO
    clear h1 h2 h3 h4 h5 h6 h7 h8 hA hF hB hrow hO hc c0
    go_enter Try.func81, Try.ntmps81
    go_wp2_with fail
    (with_reducible refine (hget _).mono ?_)
    rintro e w2 ⟨rfl, hb2⟩
    go_wp2
    go_ret3
    exact ⟨rfl, old_then HO.out hb2⟩
  case pos =>
  have e : (if checkN 4096 (at_ : Int) s ≠ 0 then checkN 4096 (at_ : Int) s else if frames ≤ fr then (2 : Int) else 0) = if frames ≤ fr then 2 else 0 := if_neg (by simp [hc])
  rw [e]
  clear e
  have hs : 1 ≤ s ∧ s ≤ 8 ∧ (at_ : Int) + s ≤ 4096 := by
    unfold checkN at hc
    split at hc
    · cases hc
    split at hc
    · cases hc
    split at hc
    · cases hc
    rename_i g1 g2 g3
    have g1' := Classical.not_not.1 g1
    omega
  obtain ⟨sn, rfl⟩ : ∃ sn : Nat, s = sn := ⟨s.toNat, by omega⟩
  have hz := zeros4096_length
  have hget := fun x (hBx : Bytes x (some ⟨w.heap.size, 0, none⟩) 4096 zeros4096) => get_ok (some ⟨w.heap.size, 0, none⟩) zeros4096 4096 (at_ : Int) (sn : Int) at_ sn rfl rfl x hBx (by rw [hz]; exact hc) (by omega) (by omega) (by omega)
  rw [hz] at hget
  have hg1 := hget w1 hB
  generalize getN zeros4096 at_ sn = gv at *
  have HO := Lib.hid hO
  have H1 := Lib.hid h1
  have hold : ∀ y, Old w1 y → y.cell? ⟨p, 0, none⟩ = some (.int .i64 frames) := fun y hy => by rw [cell_of (keep_old hy (keep_old hO h1))]; rfl
  have HC := Lib.hid hold
  have hcast : IntKind.i64.wrap (fr : Int) = fr := IntWalk.i64_in _ (by omega)
  by_cases hr : frames ≤ fr
  · have e : (if frames ≤ fr then (2 : Int) else 0) = 2 := if_pos hr
    rw [e, if_neg (by decide)]
    clear e
    clear h1 h2 h3 h4 h5 h6 h7 h8 hA hF hB hrow hO hc c0 hz hget hold
    go_enter Try.func81, Try.ntmps81
    go_wp2_with fail
    (with_reducible refine hg1.mono ?_)
    rintro e w2 ⟨rfl, hb2⟩
    have c0 := HC.out _ hb2
    go_wp2
    go_ret3
    exact ⟨rfl, old_then HO.out hb2⟩
  · have e : (if frames ≤ fr then (2 : Int) else 0) = 0 := if_neg hr
    rw [e, if_pos rfl]
    clear e
    clear h1 h2 h3 h4 h5 h6 h7 h8 hA hF hB hrow hO hc c0 hz hget hold
    go_enter Try.func81, Try.ntmps81
    go_wp2_with fail
    (with_reducible refine hg1.mono ?_)
    rintro e w2 ⟨rfl, hb2⟩
    have c0 := HC.out _ hb2
    go_wp2
    go_ret3
    exact ⟨rfl, old_then HO.out hb2⟩
end
end Go.Proofs.Ytfiofjalpaeohaa
/- Contracts of the package phys: Read, Write; bytes.Clone, bytes.Equal. -/
namespace Go.Proofs.Ytfiofjalpaeohaa
set_option linter.unusedVariables false
set_option linter.unusedSimpArgs false
open Go.RowKit

theorem placeE_zero {frames addr : Nat} {s : Int} (h : placeE frames addr s = 0) : checkN 4096 ((addr % 4096 : Nat) : Int) s = 0 ∧ addr / 4096 < frames ∧ 1 ≤ s ∧ s ≤ 8 ∧ ((addr % 4096 : Nat) : Int) + s ≤ 4096 := by
  have hc : checkN 4096 ((addr % 4096 : Nat) : Int) s = 0 := by
    unfold placeE at h
    split at h
    · rename_i h1; exact absurd h h1
    · rename_i h1; exact Classical.not_not.1 h1
  have hf : addr / 4096 < frames := by
    unfold placeE at h
    rw [if_neg (fun g => g hc)] at h
    split at h
    · cases h
    · omega
  refine ⟨hc, hf, ?_⟩
  unfold checkN at hc
  split at hc
  · cases hc
  split at hc
  · cases hc
  split at hc
  · cases hc
  rename_i g1 g2 g3
  have g1' := Classical.not_not.1 g1
  omega

section
variable {X : Nat → Prop} {p frames ops : Nat} {pg : Int → Option (List Nat)} {w : World}
theorem read_fail2 (h : IsMem w X p frames pg ops) (addr : Nat) (ha : addr < 18446744073709551616) (s : Int) (he : placeE frames addr s ≠ 0) :
    Calls Try.prog 48 #[.pointer (some ⟨p, 0, none⟩), .int .u64 (addr : Nat), .int .i64 s] w (RetB w (.tuple #[.int .u64 0, .int .i64 (placeE frames addr s)])) := by
  have hp := mplace_calls h addr ha s
  rw [if_neg he] at hp
  generalize placeE frames addr s = E at *
  have hb : (E != 0) = true := by simp [he]
  clear he h
  go_enter Try.func48, Try.ntmps48
  go_wp2_with fail
  (with_reducible refine hp.mono ?_)
  rintro e w1 ⟨rfl, hb1⟩
  go_wp2
  go_ret2
  exact ⟨rfl, hb1⟩
/-- What a frame's number is. -/
def wordOf (pg : Int → Option (List Nat)) (addr : Nat) (s : Int) : Nat := getN (pageOf pg ((addr / 4096 : Nat) : Int)) (addr % 4096) s.toNat
set_option maxHeartbeats 1000000 in
theorem read_ok2 (h : IsMem w X p frames pg ops) (addr : Nat) (ha : addr < 18446744073709551616) (s : Int) (he : placeE frames addr s = 0) (ho : ops < 4611686018427387904) :
    Calls Try.prog 48 #[.pointer (some ⟨p, 0, none⟩), .int .u64 (addr : Nat), .int .i64 s] w (RetMem w X p frames (.tuple #[.int .u64 (wordOf pg addr s : Nat), .int .i64 0]) pg (ops + 1)) := by
  have hp := mplace_calls h addr ha s
  rw [if_pos he] at hp
  obtain ⟨hc, hf, hs1, hs8, hle⟩ := placeE_zero he
  obtain ⟨sn, rfl⟩ : ∃ sn : Nat, s = sn := ⟨s.toNat, by omega⟩
  have hl := fun k => pageOf_length h k
  have H := Lib.hid h
  have hv : wordOf pg addr (sn : Int) = getN (pageOf pg ((addr / 4096 : Nat) : Int)) (addr % 4096) sn := rfl
  rw [hv]
  clear hv
  generalize addr / 4096 = fr at *
  generalize addr % 4096 = at_ at *
  have hget := fun x c g (hBx : Bytes x (some ⟨g, 0, none⟩) c (pageOf pg (fr : Int))) => get_ok (some ⟨g, 0, none⟩) (pageOf pg (fr : Int)) c (at_ : Int) (sn : Int) at_ sn rfl rfl x hBx (by rw [hl]; exact hc) (by rw [hl]; omega) (by omega) (by omega)
  simp only [hl] at hget
  have HG := Lib.hid hget
  clear h he hc hf hle hl hget
  go_enter Try.func48, Try.ntmps48
  go_wp2_with fail
  (with_reducible refine hp.mono ?_)
  rintro e w1 ⟨rfl, hb1⟩
  obtain ⟨C, hC1, hC2, hm, hOn⟩ := mem_ops (mem_old H.out hb1) (ops + 1)
  have hcell : w1.cell? ⟨p, 2, none⟩ = some (.int .i64 ops) := by rw [cell_of hC1]; exact hC2
  have hfr := frozen_of hC1 2
  have hset : w1.setCell ⟨p, 2, none⟩ (.int .i64 ((ops : Int) + 1)) = putB w1 p (.cells (C.setIfInBounds 2 (.int .i64 ((ops + 1 : Nat) : Int))) 134) := by rw [set_of hC1]; rfl
  generalize putB w1 p (.cells (C.setIfInBounds 2 (.int .i64 ((ops + 1 : Nat) : Int))) 134) = W at *
  have hO1 : Only (fun b => ¬ X b) w W := ((Only.of_below hb1).mono fun b _ f => f.elim).trans hOn
  have hpg := page_calls hm (fr : Int)
  have HM := Lib.hid (And.intro hm hO1)
  clear hC1 hC2 hm hOn hO1 hb1 hp
  go_wp2_with fail
  (with_reducible refine hpg.mono ?_)
  rintro e w2 ⟨g, c, rfl, hrow, hO2⟩
  have hg1 := HG.out w2 c g (row_bytes hrow)
  have HM2 := Lib.hid (And.intro (mem_old HM.out.1 hO2) (HM.out.2.trans ((Only.of_below hO2).mono fun b _ f => f.elim)))
  clear hpg hrow hO2
  go_wp2_with fail
  (with_reducible refine hg1.mono ?_)
  rintro e w3 ⟨rfl, hO3⟩
  have HM3 := Lib.hid (And.intro (mem_old HM2.out.1 hO3) (HM2.out.2.trans ((Only.of_below hO3).mono fun b _ f => f.elim)))
  clear hg1 hO3
  go_wp2
  go_ret2
  exact ⟨rfl, HM3.out.1, HM3.out.2⟩
theorem write_fail2 (h : IsMem w X p frames pg ops) (addr : Nat) (ha : addr < 18446744073709551616) (s : Int) (v : Int) (he : placeE frames addr s ≠ 0) :
    Calls Try.prog 49 #[.pointer (some ⟨p, 0, none⟩), .int .u64 (addr : Nat), .int .i64 s, .int .u64 v] w (RetB w (.int .i64 (placeE frames addr s))) := by
  have hp := mplace_calls h addr ha s
  rw [if_neg he] at hp
  generalize placeE frames addr s = E at *
  have hb : (E != 0) = true := by simp [he]
  clear he h
  go_enter Try.func49, Try.ntmps49
  go_wp2_with fail
  (with_reducible refine hp.mono ?_)
  rintro e w1 ⟨rfl, hb1⟩
  go_wp2
  go_ret
  exact ⟨rfl, hb1⟩
/-- A frame with another number. -/
def wroteOf (pg : Int → Option (List Nat)) (addr : Nat) (s : Int) (v : Nat) : List Nat := putL (pageOf pg ((addr / 4096 : Nat) : Int)) (addr % 4096) v s.toNat
set_option maxHeartbeats 1000000 in
theorem write_ok2 (h : IsMem w X p frames pg ops) (hX : ∀ b, X b → b < w.heap.size) (addr : Nat) (ha : addr < 18446744073709551616) (s : Int) (v : Nat) (he : placeE frames addr s = 0) (ho : ops < 4611686018427387904) :
    Calls Try.prog 49 #[.pointer (some ⟨p, 0, none⟩), .int .u64 (addr : Nat), .int .i64 s, .int .u64 (v : Nat)] w (RetMem w X p frames (.int .i64 0) (updP pg ((addr / 4096 : Nat) : Int) (some (wroteOf pg addr s v))) (ops + 1)) := by
  have hp := mplace_calls h addr ha s
  rw [if_pos he] at hp
  obtain ⟨hc, hf, hs1, hs8, hle⟩ := placeE_zero he
  obtain ⟨sn, rfl⟩ : ∃ sn : Nat, s = sn := ⟨s.toNat, by omega⟩
  have hl := fun k => pageOf_length h k
  have H := Lib.hid h
  have hv : wroteOf pg addr (sn : Int) v = putL (pageOf pg ((addr / 4096 : Nat) : Int)) (addr % 4096) v sn := rfl
  rw [hv]
  clear hv
  generalize addr / 4096 = fr at *
  generalize addr % 4096 = at_ at *
  have hput := fun x c g (hBx : Bytes x (some ⟨g, 0, none⟩) c (pageOf pg (fr : Int))) => put_ok (some ⟨g, 0, none⟩) (pageOf pg (fr : Int)) c (at_ : Int) (sn : Int) (v : Int) at_ sn v rfl rfl rfl x hBx (by rw [hl]; exact hc) (by rw [hl]; omega) (by omega) (by omega) (by rw [hl]; decide)
  simp only [hl] at hput
  have hll := putL_length (pageOf pg (fr : Int)) at_ v sn
  rw [hl] at hll
  have HG := Lib.hid hput
  have HLL := Lib.hid hll
  clear h he hc hf hle hl hput hll
  go_enter Try.func49, Try.ntmps49
  go_wp2_with fail
  (with_reducible refine hp.mono ?_)
  rintro e w1 ⟨rfl, hb1⟩
  obtain ⟨C, hC1, hC2, hm, hOn⟩ := mem_ops (mem_old H.out hb1) (ops + 1)
  have hcell : w1.cell? ⟨p, 2, none⟩ = some (.int .i64 ops) := by rw [cell_of hC1]; exact hC2
  have hfr := frozen_of hC1 2
  have hset : w1.setCell ⟨p, 2, none⟩ (.int .i64 ((ops : Int) + 1)) = putB w1 p (.cells (C.setIfInBounds 2 (.int .i64 ((ops + 1 : Nat) : Int))) 134) := by rw [set_of hC1]; rfl
  generalize putB w1 p (.cells (C.setIfInBounds 2 (.int .i64 ((ops + 1 : Nat) : Int))) 134) = W at *
  have hO1 : Only (fun b => ¬ X b) w W := ((Only.of_below hb1).mono fun b _ f => f.elim).trans hOn
  have hpg := page_calls hm (fr : Int)
  have HM := Lib.hid (And.intro hm hO1)
  clear hC1 hC2 hm hOn hO1 hb1 hp
  go_wp2_with fail
  (with_reducible refine hpg.mono ?_)
  rintro e w2 ⟨g, c, rfl, hrow, hO2⟩
  have hg1 := HG.out w2 c g (row_bytes hrow)
  have HM2 := Lib.hid (And.intro (mem_old HM.out.1 hO2) (HM.out.2.trans ((Only.of_below hO2).mono fun b _ f => f.elim)))
  clear hpg hrow hO2
  go_wp2_with fail
  (with_reducible refine hg1.mono ?_)
  rintro e w3 ⟨g2, c2, rfl, hrow2, hO3⟩
  have hm3 := mem_old HM2.out.1 hO3
  have hOn3 : Only (fun b => ¬ X b) w w3 := HM2.out.2.trans ((Only.of_below hO3).mono fun b _ f => f.elim)
  have hge := (row_parts hrow2).1
  have hsz := HM2.out.2.size
  have hpm : ∀ m, w3.cell? ⟨p, 1, none⟩ = some (.map (some m)) → g2 ≠ m ∧ g2 ≠ p := by
    intro m hcm
    obtain ⟨m', f', n', k1, k2, k3, k4, k5, k6, k7, k8⟩ := HM2.out.1
    have c1 : w3.cell? ⟨p, 1, none⟩ = some (.map (some m')) := by rw [cell_of (keep_old hO3 k1)]; rfl
    rw [c1] at hcm
    have hmm : m' = m := by simpa using hcm
    subst hmm
    have e1 := isMap_lt k3
    have e2 := lt_of_block k1
    omega
  have hgp : g2 ≠ p := by
    obtain ⟨m', f', n', k1, k2, k3, k4, k5, k6, k7, k8⟩ := hm3
    exact (hpm m' (by rw [cell_of k1]; rfl)).2
  obtain ⟨m, c1, W4, hput, hm4, hO4⟩ := mem_page hm3 (fr : Int) _ _ g2 c2 hrow2 HLL.out (fun f => by have := hX _ f; omega) hgp (fun m hm => (hpm m hm).1)
  rw [HLL.out]
  have HF := Lib.hid (And.intro hm4 (hOn3.trans hO4))
  clear hg1 hO3 hm3 hOn3 hge hsz hpm hgp hm4 hO4 hrow2
  go_wp2
  go_ret
  exact ⟨rfl, HF.out.1, HF.out.2⟩
end

theorem strOf_inj {l m : List Nat} (hl : ∀ x ∈ l, x < 256) (hm : ∀ x ∈ m, x < 256) (h : strOf l = strOf m) : l = m := by
  have h1 : l.map UInt8.ofNat = m.map UInt8.ofNat := by
    have := congrArg (fun s : ByteArray => s.data.toList) h
    simpa [strOf] using this
  have key : ∀ (l m : List Nat), (∀ x ∈ l, x < 256) → (∀ x ∈ m, x < 256) → l.map UInt8.ofNat = m.map UInt8.ofNat → l = m := by
    intro l
    induction l with
    | nil => intro m _ _ h; cases m with
      | nil => rfl
      | cons y m => simp at h
    | cons x l ih => intro m hl hm h; cases m with
      | nil => simp at h
      | cons y m =>
        simp only [List.map_cons, List.cons.injEq] at h
        have hx := hl x (by simp)
        have hy := hm y (by simp)
        have hxy : x = y := by
          have := congrArg UInt8.toNat h.1
          rw [UInt8.toNat_ofNat', UInt8.toNat_ofNat'] at this
          omega
        rw [hxy, ih m (fun z hz => hl z (by simp [hz])) (fun z hz => hm z (by simp [hz])) h.2]
  exact key l m hl hm h1
theorem equal_calls (a b : Addr) (l m : List Nat) (c d : Nat) (w : World) (hl : Bytes w (some a) c l) (hm : Bytes w (some b) d m) :
    Calls Try.prog 87 #[.slice (some a) l.length c, .slice (some b) m.length d] w (RetB w (.bool (decide (l = m)))) := by
  have h1 := conv_bytes hl
  have h2 := conv_bytes hm
  have e : ((strOf l).toList == (strOf m).toList) = decide (l = m) := by
    rw [str_beq]
    by_cases h : l = m
    · simp [h]
    · rw [decide_eq_false h, decide_eq_false (fun e => h (strOf_inj (bytes_lt hl) (bytes_lt hm) e))]
  generalize decide (l = m) = B at *
  clear hl hm
  go_enter Try.func87, Try.ntmps87
  go_wp2
  go_ret
  exact ⟨rfl, old_refl _⟩
theorem eq_nil_bytes (a : Addr) (n c : Nat) (w : World) : (binOp .eql 31 (.slice (some a) n c) (.slice none 0 0)).run Try.prog w = .ok (.bool false) w := by kernel_rfl
set_option maxRecDepth 100000 in
theorem clone_fix (a : Addr) (l : List Nat) (c : Nat) (w : World) (hl : Bytes w (some a) c l) (h0 : 0 < l.length) (hbig : l.length ≤ 1000000) :
    ∃ g cap w2, Row w2 w.heap.size g cap l ∧ Old w w2 ∧ Calls Try.prog 86 #[.slice (some a) l.length c] w (fun e y => e = .returned (.slice (some ⟨g, 0, none⟩) l.length cap) ∧ w2 = y) := by
  obtain ⟨v, w2, hrun, hown, hO, -⟩ := copy_run 31 w (some a) c l hl hbig
  obtain ⟨g, cap, rfl, hrow⟩ := row_of hown rfl h0 (bytes_lt hl)
  refine ⟨g, cap, w2, hrow, hO, ?_⟩
  have hn := eq_nil_bytes a l.length c
  clear hl hown hrow hO
  go_enter Try.func86, Try.ntmps86
  go_wp2_with (at_builtin; refine wpList_append_run rfl _ _ 31 rfl _ _ rfl rfl _ _ hrun ?_; clear hrun)
  go_ret
  exact ⟨rfl, rfl⟩
theorem clone_calls (a : Addr) (l : List Nat) (c : Nat) (w : World) (hl : Bytes w (some a) c l) (h0 : 0 < l.length) (hbig : l.length ≤ 1000000) :
    Calls Try.prog 86 #[.slice (some a) l.length c] w (fun e w' => ∃ g cap, e = .returned (.slice (some ⟨g, 0, none⟩) l.length cap) ∧ Row w' w.heap.size g cap l ∧ Old w w') := by
  obtain ⟨g, cap, w2, h1, h2, h3⟩ := clone_fix a l c w hl h0 hbig
  exact h3.mono fun e y ⟨he, hy⟩ => by subst hy; exact ⟨g, cap, he, h1, h2⟩
end Go.Proofs.Ytfiofjalpaeohaa
/- What was put is got, part by part: plain. -/
namespace Go.Proofs.Ytfiofjalpaeohaa
set_option linter.unusedVariables false
set_option linter.unusedSimpArgs false
open Go.RowKit

theorem putL_at (l : List Nat) (p v : Nat) : ∀ (k i : Nat), (putL l p v k)[i]? = if p ≤ i ∧ i < p + k ∧ i < l.length then some (v / 2 ^ (8 * (i - p)) % 256) else l[i]?
  | 0, i => by rw [putL, if_neg (by omega)]
  | k + 1, i => by
    rw [putL, List.getElem?_set, putL_length]
    by_cases h : p + k = i
    · subst h
      by_cases hl : p + k < l.length
      · rw [if_pos rfl, if_pos hl, if_pos ⟨by omega, by omega, hl⟩, Nat.add_sub_cancel_left]
      · rw [if_pos rfl, if_neg hl, if_neg (by omega), List.getElem?_eq_none (by omega)]
    · rw [if_neg h, putL_at l p v k i]
      by_cases h2 : p ≤ i ∧ i < p + k ∧ i < l.length
      · rw [if_pos h2, if_pos ⟨h2.1, by omega, h2.2.2⟩]
      · rw [if_neg h2, if_neg (by omega)]
theorem get_put_part (l : List Nat) (p v i s : Nat) (h8 : i + s ≤ 8) (h : p + 8 ≤ l.length) : getN (putL l p v 8) (p + i) s = v / 2 ^ (8 * i) % 2 ^ (8 * s) := by
  have key : ∀ k, k ≤ s → getN (putL l p v 8) (p + i) k = v / 2 ^ (8 * i) % 2 ^ (8 * k) := by
    intro k
    induction k with
    | zero => intro _; simp [getN, Nat.mod_one]
    | succ k ih =>
      intro hk
      rw [getN, ih (by omega), List.getD_eq_getElem?_getD, putL_at, if_pos ⟨by omega, by omega, by omega⟩, Option.getD_some, show p + i + k - p = i + k by omega]
      rw [show 8 * (i + k) = 8 * i + 8 * k by omega, Nat.pow_add, ← Nat.div_div_eq_div_mul, show 8 * (k + 1) = 8 * k + 8 by omega, Nat.pow_add, Nat.mod_mul]
      rw [Nat.mul_comm (2 ^ (8 * k))]
  exact key s (Nat.le_refl _)
theorem put_zero (l : List Nat) (p v : Nat) (hv : v < 2 ^ 64) (hl : ∀ x ∈ l, x = 0) (h : p + 8 ≤ l.length) : (∀ x ∈ putL l p v 8, x = 0) ↔ v = 0 := by
  constructor
  · intro hz
    have h1 := get_put_part l p v 0 8 (by omega) h
    have h2 : ∀ k, getN (putL l p v 8) (p + 0) k = 0 := by
      intro k
      induction k with
      | zero => rfl
      | succ k ih =>
        rw [getN, ih, List.getD_eq_getElem?_getD]
        cases hx : (putL l p v 8)[p + 0 + k]? with
        | none => simp
        | some x => simp [hz x (List.mem_of_getElem? hx)]
    rw [h2] at h1
    simp at h1
    omega
  · rintro rfl x hx
    obtain ⟨i, hi⟩ := List.mem_iff_getElem?.1 hx
    rw [putL_at] at hi
    split at hi
    · simp at hi; exact hi.symm
    · exact hl x (List.mem_of_getElem? hi)
/-- The upper part, and the next one below. -/
theorem or_next (v m s : Nat) (hs : s ≤ m) (h64 : v < 18446744073709551616) : bits .or .u64 ((v / 2 ^ (8 * m) * 2 ^ (8 * s) : Nat) : Int) ((v / 2 ^ (8 * (m - s)) % 2 ^ (8 * s) : Nat) : Int) = ((v / 2 ^ (8 * (m - s)) : Nat) : Int) := by
  have hd : v / 2 ^ (8 * m) = v / 2 ^ (8 * (m - s)) / 2 ^ (8 * s) := by
    rw [Nat.div_div_eq_div_mul, ← Nat.pow_add]
    congr 2
    omega
  have hle : v / 2 ^ (8 * (m - s)) ≤ v := Nat.div_le_self _ _
  rw [hd]
  generalize v / 2 ^ (8 * (m - s)) = y at *
  have hor : y / 2 ^ (8 * s) * 2 ^ (8 * s) ||| y % 2 ^ (8 * s) = y := by
    rw [Nat.mul_comm, ← Nat.two_pow_add_eq_or_of_lt (Nat.mod_lt _ (Nat.two_pow_pos _))]
    exact Nat.div_add_mod y _
  have h1 : y / 2 ^ (8 * s) * 2 ^ (8 * s) ≤ y := Nat.div_mul_le_self _ _
  have h2 : y % 2 ^ (8 * s) ≤ y := Nat.mod_le _ _
  show IntKind.u64.wrap ((BitVec.ofInt 64 _ ||| BitVec.ofInt 64 _).toNat : Int) = _
  rw [BitVec.toNat_or, BitVec.ofInt_natCast, BitVec.ofInt_natCast, BitVec.toNat_ofNat, BitVec.toNat_ofNat, Nat.mod_eq_of_lt (by omega), Nat.mod_eq_of_lt (by omega), hor]
  exact IntWalk.u64_in _ (by omega)
end Go.Proofs.Ytfiofjalpaeohaa
/- A memory by its words: contracts of phys.New, Read and Write of eight bytes. -/
namespace Go.Proofs.Ytfiofjalpaeohaa
set_option linter.unusedVariables false
set_option linter.unusedSimpArgs false
open Go.RowKit

/-- Is there a word? -/
def okM (frames a : Nat) : Bool := decide (a % 8 = 0 ∧ a / 4096 < frames)
theorem okM_place {frames a : Nat} : placeE frames a 8 = 0 ↔ okM frames a = true := by
  unfold okM
  rw [decide_eq_true_iff]
  constructor
  · intro h
    obtain ⟨h1, h2, _, _, _⟩ := placeE_zero h
    refine ⟨?_, h2⟩
    unfold checkN at h1
    split at h1
    · cases h1
    split at h1
    · cases h1
    · rename_i _ g; have g' := Classical.not_not.1 g; omega
  · rintro ⟨h1, h2⟩
    have hc : checkN 4096 ((a % 4096 : Nat) : Int) 8 = 0 := checkN_ok (.inr (.inr (.inr rfl))) (by omega) (by omega)
    unfold placeE
    rw [if_neg (not_not_intro hc), if_neg (by omega)]
/-- A word; 0 where there is none. -/
def rawM (frames : Nat) (wd : Nat → Nat) (a : Nat) : Nat := if okM frames a then wd a else 0
theorem rawM_yes {frames : Nat} {wd : Nat → Nat} {a : Nat} (h : okM frames a = true) : rawM frames wd a = wd a := if_pos h
def updW (wd : Nat → Nat) (a v : Nat) : Nat → Nat := fun b => if b = a then v else wd b
theorem getN_ext (l m : List Nat) (p k : Nat) (h : ∀ i, i < k → l.getD (p + i) 0 = m.getD (p + i) 0) : getN l p k = getN m p k := by
  induction k with
  | zero => rfl
  | succ k ih => rw [getN, getN, ih (fun i hi => h i (by omega)), h k (by omega)]
theorem getN_nought (p k : Nat) : getN zeros4096 p k = 0 := by
  induction k with
  | zero => rfl
  | succ k ih =>
    rw [getN, ih, List.getD_eq_getElem?_getD]
    cases hx : (zeros4096)[p + k]? with
    | none => simp
    | some x =>
      have : x = 0 := List.eq_of_mem_replicate (List.mem_of_getElem? hx)
      simp [this]
/-- Block p holds a memory of these words. -/
def IsMemW (w : World) (X : Nat → Prop) (p frames : Nat) (wd : Nat → Nat) (N : Nat) : Prop :=
  ∃ pg ops, ops ≤ N ∧ IsMem w X p frames pg ops ∧ ∀ a, okM frames a = true → wordOf pg a 8 = wd a
section
variable {w x : World} {X Y : Nat → Prop} {p frames N M : Nat} {wd : Nat → Nat}
theorem memW_only {G : Nat → Prop} (h : IsMemW w X p frames wd N) (ho : Only G w x) (hG : ∀ b, ¬ X b → ¬ G b) : IsMemW x X p frames wd N := by
  obtain ⟨pg, ops, h1, h2, h3⟩ := h
  exact ⟨pg, ops, h1, mem_only h2 ho hG, h3⟩
theorem memW_old (h : IsMemW w X p frames wd N) (ho : Old w x) : IsMemW x X p frames wd N := memW_only h (Only.of_below ho) fun _ _ f => f
theorem memW_more (h : IsMemW w X p frames wd N) (hY : ∀ b, Y b → X b ∨ w.heap.size ≤ b) : IsMemW w Y p frames wd N := by
  obtain ⟨pg, ops, h1, h2, h3⟩ := h
  exact ⟨pg, ops, h1, mem_more h2 hY, h3⟩
theorem memW_le (h : IsMemW w X p frames wd N) (hM : N ≤ M) : IsMemW w X p frames wd M := by
  obtain ⟨pg, ops, h1, h2, h3⟩ := h
  exact ⟨pg, ops, by omega, h2, h3⟩
theorem memW_lt (h : IsMemW w X p frames wd N) : p < w.heap.size ∧ ¬ X p := by
  obtain ⟨pg, ops, h1, ⟨m, f, n, a, b, c⟩, h3⟩ := h
  exact ⟨lt_of_block a, b⟩
theorem rawM_lt (h : IsMemW w X p frames wd N) (a : Nat) : rawM frames wd a < 18446744073709551616 := by
  unfold rawM
  split
  · rename_i hok
    obtain ⟨pg, ops, h1, h2, h3⟩ := h
    rw [← h3 a hok]
    unfold wordOf pageOf
    refine Nat.lt_of_lt_of_le (getN_lt ?_ _ _) (by decide)
    cases hk : pg ((a / 4096 : Nat) : Int) with
    | none => intro y hy; have : y = 0 := List.eq_of_mem_replicate hy; omega
    | some l =>
      obtain ⟨m, f, n, _, _, _, _, _, _, _, h8⟩ := h2
      obtain ⟨v, _, g, c, _, _, hr, _⟩ := h8 _ l hk
      exact hr.2
  · decide
theorem memW_read (h : IsMemW w X p frames wd N) (hN : N < 4000000000) (a : Nat) (ha : a < 18446744073709551616) (hok : okM frames a = true) :
    Calls Try.prog 48 #[.pointer (some ⟨p, 0, none⟩), .int .u64 (a : Nat), .int .i64 8] w (fun e y => e = .returned (.tuple #[.int .u64 (wd a : Nat), .int .i64 0]) ∧ IsMemW y X p frames wd (N + 1) ∧ Only (fun b => ¬ X b) w y) := by
  obtain ⟨pg, ops, h1, h2, h3⟩ := h
  have := read_ok2 h2 a ha 8 (okM_place.2 hok) (by omega)
  rw [h3 a hok] at this
  exact this.mono fun e y ⟨he, hm, ho⟩ => ⟨he, ⟨pg, ops + 1, by omega, hm, h3⟩, ho⟩
theorem memW_readE (h : IsMemW w X p frames wd N) (a : Nat) (ha : a < 18446744073709551616) (hok : okM frames a = false) :
    ∃ E : Int, E ≠ 0 ∧ Calls Try.prog 48 #[.pointer (some ⟨p, 0, none⟩), .int .u64 (a : Nat), .int .i64 8] w (RetB w (.tuple #[.int .u64 0, .int .i64 E])) := by
  obtain ⟨pg, ops, h1, h2, h3⟩ := h
  have hp : placeE frames a 8 ≠ 0 := fun e => by rw [okM_place] at e; rw [hok] at e; cases e
  exact ⟨_, hp, read_fail2 h2 a ha 8 hp⟩
theorem word_wrote {pg : Int → Option (List Nat)} (hl : ∀ k, (pageOf pg k).length = 4096) (a b v : Nat) (ha : a % 8 = 0) (hb : b % 8 = 0) (hv : v < 18446744073709551616) :
    wordOf (updP pg ((a / 4096 : Nat) : Int) (some (wroteOf pg a 8 v))) b 8 = if b = a then v else wordOf pg b 8 := by
  have h64 : (2 : Nat) ^ (8 * 8) = 18446744073709551616 := by decide
  have h8 : Int.toNat 8 = 8 := rfl
  unfold wordOf
  rw [h8]
  by_cases hf : b / 4096 = a / 4096
  · have hp : pageOf (updP pg ((a / 4096 : Nat) : Int) (some (wroteOf pg a 8 v))) ((b / 4096 : Nat) : Int) = putL (pageOf pg ((a / 4096 : Nat) : Int)) (a % 4096) v 8 := by
      have e : updP pg ((a / 4096 : Nat) : Int) (some (wroteOf pg a 8 v)) ((b / 4096 : Nat) : Int) = some (wroteOf pg a 8 v) := by
        unfold updP; rw [hf, if_pos rfl]
      show (updP pg ((a / 4096 : Nat) : Int) (some (wroteOf pg a 8 v)) ((b / 4096 : Nat) : Int)).getD zeros4096 = _
      rw [e]; rfl
    rw [hp]
    have hlen := hl ((a / 4096 : Nat) : Int)
    by_cases he : b = a
    · subst he
      rw [if_pos rfl]
      have := get_put_part (pageOf pg ((b / 4096 : Nat) : Int)) (b % 4096) v 0 8 (by omega) (by omega)
      rw [Nat.add_zero, Nat.mul_zero, Nat.pow_zero, Nat.div_one, h64, Nat.mod_eq_of_lt hv] at this
      exact this
    · rw [if_neg he, hf]
      refine getN_ext _ _ _ _ fun i hi => ?_
      rw [List.getD_eq_getElem?_getD, List.getD_eq_getElem?_getD, putL_at, if_neg (by omega)]
  · have hp : pageOf (updP pg ((a / 4096 : Nat) : Int) (some (wroteOf pg a 8 v))) ((b / 4096 : Nat) : Int) = pageOf pg ((b / 4096 : Nat) : Int) := by
      unfold pageOf updP; rw [if_neg (by omega)]
    rw [hp, if_neg (fun e => hf (by rw [e]))]
theorem memW_write (h : IsMemW w X p frames wd N) (hX : ∀ b, X b → b < w.heap.size) (hN : N < 4000000000) (a v : Nat) (ha : a < 18446744073709551616) (hv : v < 18446744073709551616) (hok : okM frames a = true) :
    Calls Try.prog 49 #[.pointer (some ⟨p, 0, none⟩), .int .u64 (a : Nat), .int .i64 8, .int .u64 (v : Nat)] w (fun e y => e = .returned (.int .i64 0) ∧ IsMemW y X p frames (updW wd a v) (N + 1) ∧ Only (fun b => ¬ X b) w y) := by
  obtain ⟨pg, ops, h1, h2, h3⟩ := h
  refine (write_ok2 h2 hX a ha 8 v (okM_place.2 hok) (by omega)).mono fun e y ⟨he, hm, ho⟩ => ⟨he, ⟨_, ops + 1, by omega, hm, fun b hb => ?_⟩, ho⟩
  have hok' := of_decide_eq_true hok
  have hb' := of_decide_eq_true hb
  rw [word_wrote (fun k => pageOf_length h2 k) a b v hok'.1 hb'.1 hv]
  unfold updW
  split
  · rfl
  · exact h3 b hb
theorem memW_new (n : Nat) (w : World) (h1 : 1 ≤ n) (h2 : n ≤ 1048576) : Calls Try.prog 47 #[.int .i64 n] w (fun e w' =>
    e = .returned (.tuple #[.pointer (some ⟨w.heap.size + 1, 0, none⟩), .int .i64 0]) ∧ Old w w' ∧ w'.heap.size = w.heap.size + 2 ∧ ∀ X : Nat → Prop, (∀ b, X b → b < w.heap.size) → IsMemW w' X (w.heap.size + 1) n (fun _ => 0) 0) :=
  (physNew_calls n w h1 h2).mono fun e y ⟨he, ho, hs, hm⟩ => ⟨he, ho, hs, fun X hX => ⟨_, 0, Nat.le_refl 0, hm X hX, fun a _ => getN_nought _ _⟩⟩
end
end Go.Proofs.Ytfiofjalpaeohaa
