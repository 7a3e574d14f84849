/- Contracts of the package phys: the memory, what it holds, has, Frames, Ops, page, place, New. -/
import Derived.Test.YtfiofjalpaeohaaDisk7
import Derived.Test.YtfiofjalpaeohaaBitsGet
import Derived.Test.YtfiofjalpaeohaaBitsPut
import Derived.Test.YtfiofjalpaeohaaMark
namespace Go.Proofs.Ytfiofjalpaeohaa
set_option linter.unusedVariables false
set_option linter.unusedSimpArgs false
open Go.RowKit Go.MapKept

section
variable {P : Program} {t k e : TypeId} {w : World} {m n : Nat} {f : Int → Option Value}
theorem map_get (ht : P.underlying t = some (.map k e)) (hk : P.underlying k = some (.int .i64)) (h : IsMap w m f n) {x : Int} {v : Value} (hx : f x = some v) :
    (Instr.lookup t (.map (some m)) (.int .i64 x) false).run P w = .ok v w := by
  obtain ⟨es, clock, l, hb, he, _, _, hf⟩ := h
  rw [hf, assocL] at hx
  obtain ⟨y, hy, rfl⟩ := Option.map_eq_some_iff.1 hx
  have h1 := Go.MapKept.run_getObj_map (P := P) hb
  have h2 := run_checkKey (P := P) (w := w) (k := .int .i64 x) hk (by first | trivial | exact ⟨_, rfl⟩ | simp [IsKey]) es.isEmpty 9999
  have h3 := map_seek (w := w) hk he x
  rw [hy] at h3
  simp [Instr.lookup, Sem.run_bind, run_underlying ht, Result.andThen, h1, h2, h3]
theorem map_get_none (ht : P.underlying t = some (.map k e)) (hk : P.underlying k = some (.int .i64)) {z : Value} (hz : (zeroValue e).run P w = .ok z w) (h : IsMap w m f n) {x : Int} (hx : f x = none) :
    (Instr.lookup t (.map (some m)) (.int .i64 x) false).run P w = .ok z w := by
  obtain ⟨es, clock, l, hb, he, _, _, hf⟩ := h
  rw [hf, assocL] at hx
  have hy : seekL l x 0 = none := Option.map_eq_none_iff.1 hx
  have h1 := Go.MapKept.run_getObj_map (P := P) hb
  have h2 := run_checkKey (P := P) (w := w) (k := .int .i64 x) hk (by first | trivial | exact ⟨_, rfl⟩ | simp [IsKey]) es.isEmpty 9999
  have h3 := map_seek (w := w) hk he x
  rw [hy] at h3
  simp [Instr.lookup, Sem.run_bind, run_underlying ht, Result.andThen, h1, h2, h3, hz]
theorem map_del_none (ht : P.underlying t = some (.map k e)) (hk : P.underlying k = some (.int .i64)) (h : IsMap w m f n) (x : Int) (hx : f x = none) :
    ∀ t2 ty : TypeId, (Builtin.delete_ #[t, t2] ty #[.map (some m), .int .i64 x]).run P w = .ok (.tuple #[]) w := by
  obtain ⟨es, clock, l, hb, he, hnd, hn, hf⟩ := h
  rw [hf, assocL] at hx
  have hy : seekL l x 0 = none := Option.map_eq_none_iff.1 hx
  have h1 := Go.MapKept.run_getObj_map (P := P) hb
  have h2 := run_checkKey (P := P) (w := w) (k := .int .i64 x) hk (by first | trivial | exact ⟨_, rfl⟩ | simp [IsKey]) es.isEmpty 9999
  have h3 := map_seek (w := w) hk he x
  rw [hy] at h3
  intro t2 ty
  have h4 := Go.MapKept.run_setObj_map (P := P) (.map es clock) hb
  have hid : putB w m (.map es clock) = w := by
    unfold putB
    have : w.heap.setIfInBounds m (.map es clock) = w.heap := by
      apply Array.ext_getElem?
      intro i
      rw [Array.getElem?_setIfInBounds]
      by_cases hi : m = i
      · subst hi
        rw [if_pos rfl, hb, if_pos (lt_of_block hb)]
      · rw [if_neg hi]
    rw [this]
  simp [Builtin.delete_, Sem.run_bind, run_underlying ht, Result.andThen, h1, h2, h3, h4]
  exact hid
end

/-- The cells of a memory. -/
def memCells (frames m ops : Nat) : Array Value := #[.int .i64 frames, .map (some m), .int .i64 ops]
/-- Block p holds a memory; X: blocks that are not its own. -/
def IsMem (w : World) (X : Nat → Prop) (p frames : Nat) (pg : Int → Option (List Nat)) (ops : Nat) : Prop :=
  ∃ m f n, w.heap[p]? = some (.cells (memCells frames m ops) 134) ∧ ¬ X p ∧ IsMap w m f n ∧ ¬ X m ∧ m ≠ p ∧ (1 ≤ frames ∧ frames ≤ 1048576) ∧
    (∀ k, pg k = none → f k = none) ∧ (∀ k l, pg k = some l → ∃ v, f k = some v ∧ PageIs w X p m v l)
/-- A frame's bytes. -/
def pageOf (pg : Int → Option (List Nat)) (k : Int) : List Nat := (pg k).getD zeros4096

section
variable {w x : World} {X Y : Nat → Prop} {p frames ops : Nat} {pg : Int → Option (List Nat)}
/-- Others' blocks were turned. -/
theorem mem_only {G : Nat → Prop} (h : IsMem w X p frames pg ops) (ho : Only G w x) (hG : ∀ b, ¬ X b → ¬ G b) : IsMem x X p frames pg ops := by
  obtain ⟨m, f, n, h1, h2, h3, h4, h5, h6, h7, h8⟩ := h
  refine ⟨m, f, n, keep_only ho (hG p h2) h1, h2, isMap_only h3 ho (hG m h4), h4, h5, h6, h7, fun k l hk => ?_⟩
  obtain ⟨v, a, b⟩ := h8 k l hk
  exact ⟨v, a, page_only b ho fun b hb _ _ => hG b hb⟩
theorem mem_old (h : IsMem w X p frames pg ops) (ho : Old w x) : IsMem x X p frames pg ops := mem_only h (Only.of_below ho) fun _ _ f => f
/-- More blocks that are not the memory's own. -/
theorem mem_more (h : IsMem w X p frames pg ops) (hY : ∀ b, Y b → X b ∨ w.heap.size ≤ b) : IsMem w Y p frames pg ops := by
  obtain ⟨m, f, n, h1, h2, h3, h4, h5, h6, h7, h8⟩ := h
  have key : ∀ b, ¬ X b → b < w.heap.size → ¬ Y b := fun b hb hl hy => (hY b hy).elim hb (by omega)
  refine ⟨m, f, n, h1, key p h2 (lt_of_block h1), h3, key m h4 (isMap_lt h3), h5, h6, h7, fun k l hk => ?_⟩
  obtain ⟨v, a, g, c, rfl, b1, b2, b3, b4, b5⟩ := h8 k l hk
  exact ⟨_, a, g, c, rfl, b1, b2, key g b3 (row_parts b2).2.1, b4, b5⟩
theorem pageOf_length (h : IsMem w X p frames pg ops) (k : Int) : (pageOf pg k).length = 4096 := by
  unfold pageOf
  cases hk : pg k with
  | none => exact zeros4096_length
  | some l =>
    obtain ⟨m, f, n, h1, h2, h3, h4, h5, h6, h7, h8⟩ := h
    obtain ⟨v, _, g, c, _, hl, _⟩ := h8 k l hk
    exact hl
/-- Another count of reads and writes. -/
theorem mem_ops (h : IsMem w X p frames pg ops) (o2 : Nat) : ∃ C, w.heap[p]? = some (.cells C 134) ∧ C[2]? = some (.int .i64 ops) ∧ IsMem (putB w p (.cells (C.setIfInBounds 2 (.int .i64 o2)) 134)) X p frames pg o2 ∧ Only (fun b => ¬ X b) w (putB w p (.cells (C.setIfInBounds 2 (.int .i64 o2)) 134)) := by
  obtain ⟨m, f, n, h1, h2, h3, h4, h5, h6, h7, h8⟩ := h
  have hp := lt_of_block h1
  have ho : Only (fun b => b = p) w (putB w p (.cells (memCells frames m o2) 134)) := (Only.refl _ _).putB _ (fun _ => rfl)
  refine ⟨_, h1, rfl, ⟨m, f, n, putB_same _ hp, h2, isMap_only h3 ho (fun e => h5 e), h4, h5, h6, h7, fun k l hk => ?_⟩, ho.mono fun b _ e => by rw [e]; exact h2⟩
  obtain ⟨v, a, b⟩ := h8 k l hk
  exact ⟨v, a, page_only b ho fun b _ hp _ e => hp e⟩
/-- A page laid. -/
theorem mem_page (h : IsMem w X p frames pg ops) (k : Int) (l : List Nat) (B g c : Nat) (hr : Row w B g c l) (hl : l.length = 4096) (hg : ¬ X g) (hgp : g ≠ p) (hgm : ∀ m, w.cell? ⟨p, 1, none⟩ = some (.map (some m)) → g ≠ m) :
    ∃ m, w.cell? ⟨p, 1, none⟩ = some (.map (some m)) ∧ ∃ w', (Instr.mapUpdate 106 (.map (some m)) (.int .i64 k) (.slice (some ⟨g, 0, none⟩) 4096 c)).run Try.prog w = .ok () w' ∧ IsMem w' X p frames (updP pg k (some l)) ops ∧ Only (fun b => ¬ X b) w w' := by
  obtain ⟨m, f, n, h1, h2, h3, h4, h5, h6, h7, h8⟩ := h
  have c1 : w.cell? ⟨p, 1, none⟩ = some (.map (some m)) := by rw [cell_of h1]; rfl
  obtain ⟨w', hput, hmap, ho⟩ := map_put (P := Try.prog) (t := 106) Try.underlying106 Try.underlying3 h3 k (.slice (some ⟨g, 0, none⟩) 4096 c)
  refine ⟨m, c1, w', hput, ⟨m, _, _, keep_only ho (fun e => h5 e.symm) h1, h2, hmap, h4, h5, h6, fun j hj => ?_, fun j lj hj => ?_⟩, ho.mono fun b _ e => by rw [e]; exact h4⟩
  · unfold updP at hj
    unfold updF
    by_cases e : j = k
    · rw [if_pos e] at hj; cases hj
    · rw [if_neg e] at hj ⊢; exact h7 j hj
  · unfold updP at hj
    unfold updF
    by_cases e : j = k
    · rw [if_pos e] at hj ⊢
      obtain rfl := Option.some.inj hj
      have hr0 : Row w 0 g c l := by
        refine ⟨⟨hr.1.1, ?_⟩, hr.2⟩
        rcases hr.1.2 with h' | ⟨g', cap', cur, h', hb, rest⟩
        · exact .inl h'
        · exact .inr ⟨g', cap', cur, h', Nat.zero_le _, rest⟩
      exact ⟨_, rfl, g, c, rfl, hl, row_only hr0 ho (fun e => hgm m c1 e), hg, hgp, hgm m c1⟩
    · rw [if_neg e] at hj ⊢
      obtain ⟨v, a, b⟩ := h8 j lj hj
      exact ⟨v, a, page_only b ho fun b _ _ hm e => hm e⟩
/-- A page taken away. -/
theorem mem_zero (h : IsMem w X p frames pg ops) (k : Int) :
    ∃ m, w.cell? ⟨p, 1, none⟩ = some (.map (some m)) ∧ ∃ w', (∀ ty : TypeId, (Builtin.delete_ #[106, 3] ty #[.map (some m), .int .i64 k]).run Try.prog w = .ok (.tuple #[]) w') ∧ IsMem w' X p frames (updP pg k none) ops ∧ Only (fun b => ¬ X b) w w' := by
  obtain ⟨m, f, n, h1, h2, h3, h4, h5, h6, h7, h8⟩ := h
  have c1 : w.cell? ⟨p, 1, none⟩ = some (.map (some m)) := by rw [cell_of h1]; rfl
  cases hk : pg k with
  | none =>
    have hdel := map_del_none (P := Try.prog) (t := 106) Try.underlying106 Try.underlying3 h3 k (h7 k hk)
    have e : updP pg k none = pg := by
      funext j
      unfold updP
      by_cases hj : j = k
      · rw [if_pos hj, hj, hk]
      · rw [if_neg hj]
    rw [e]
    exact ⟨m, c1, w, fun ty => hdel 3 ty, ⟨m, f, n, h1, h2, h3, h4, h5, h6, h7, h8⟩, Only.refl _ _⟩
  | some l =>
    obtain ⟨v, hv, hpg⟩ := h8 k l hk
    obtain ⟨w', hdel, hmap, -, ho⟩ := map_del (P := Try.prog) (t := 106) Try.underlying106 Try.underlying3 h3 k v hv
    refine ⟨m, c1, w', fun ty => hdel 3 ty, ⟨m, _, _, keep_only ho (fun e => h5 e.symm) h1, h2, hmap, h4, h5, h6, fun j hj => ?_, fun j lj hj => ?_⟩, ho.mono fun b _ e => by rw [e]; exact h4⟩
    · unfold updP at hj
      unfold updF
      by_cases e : j = k
      · rw [if_pos e]
      · rw [if_neg e] at hj ⊢; exact h7 j hj
    · unfold updP at hj
      unfold updF
      by_cases e : j = k
      · rw [if_pos e] at hj; cases hj
      · rw [if_neg e] at hj ⊢
        obtain ⟨v, a, b⟩ := h8 j lj hj
        exact ⟨v, a, page_only b ho fun b _ _ hm e => hm e⟩
end

/-- What a method of the memory leaves. -/
def RetMem (w : World) (X : Nat → Prop) (p frames : Nat) (v : Value) (pg : Int → Option (List Nat)) (ops : Nat) (e : Ending) (w' : World) : Prop :=
  e = .returned v ∧ IsMem w' X p frames pg ops ∧ Only (fun b => ¬ X b) w w'

theorem physNew_none (s : Int) (w : World) (h : ¬ (1 ≤ s ∧ s ≤ 1048576)) : Calls Try.prog 47 #[.int .i64 s] w (RetB w (.tuple #[.pointer none, .int .i64 1])) := by
  by_cases h1 : s < 1
  · clear h
    go_enter Try.func47, Try.ntmps47
    go_wp2
    go_ret2
    exact ⟨rfl, old_refl _⟩
  · have h2 : 1048576 < s := by omega
    clear h
    go_enter Try.func47, Try.ntmps47
    go_wp2
    go_ret2
    exact ⟨rfl, old_refl _⟩
theorem physNew_calls (n : Nat) (w : World) (h1 : 1 ≤ n) (h2 : n ≤ 1048576) : Calls Try.prog 47 #[.int .i64 n] w (fun e w' =>
    e = .returned (.tuple #[.pointer (some ⟨w.heap.size + 1, 0, none⟩), .int .i64 0]) ∧ Old w w' ∧ w'.heap.size = w.heap.size + 2 ∧ ∀ X : Nat → Prop, (∀ b, X b → b < w.heap.size) → IsMem w' X (w.heap.size + 1) n (fun _ => none) 0) := by
  have i1 : (1 : Int) ≤ n := by omega
  have i2 : (n : Int) ≤ 1048576 := by omega
  have hmm := @run_makeMap Try.prog
  go_enter Try.func47, Try.ntmps47
  go_wp2
  go_ret2
  refine ⟨?_, old_alloc (old_alloc (old_refl w) _) _, by simp, fun X hX => ⟨w.heap.size, fun _ => none, 0, ?_, fun f => by have := hX _ f; omega, isMap_old (isMap_made w) (old_alloc (old_refl _) _), fun f => by have := hX _ f; omega, by omega, ⟨h1, h2⟩, fun _ _ => rfl, fun k l hk => by cases hk⟩⟩
  · first | rfl | simp
  · exact alloc_heap_new _ _ _ (by simp)
section
variable {X : Nat → Prop} {p frames ops : Nat} {pg : Int → Option (List Nat)} {w : World}
theorem frames_calls (h : IsMem w X p frames pg ops) : Calls Try.prog 65 #[.pointer (some ⟨p, 0, none⟩)] w (RetB w (.int .i64 frames)) := by
  obtain ⟨m, f, n, h1, h2, h3, h4, h5, h6, h7, h8⟩ := h
  have c0 : w.cell? ⟨p, 0, none⟩ = some (.int .i64 frames) := by rw [cell_of h1]; rfl
  clear h1 h2 h3 h4 h5 h6 h7 h8
  go_enter Try.func65, Try.ntmps65
  go_wp2
  go_ret
  exact ⟨rfl, old_refl _⟩
theorem ops_calls (h : IsMem w X p frames pg ops) : Calls Try.prog 52 #[.pointer (some ⟨p, 0, none⟩)] w (RetB w (.int .i64 ops)) := by
  obtain ⟨m, f, n, h1, h2, h3, h4, h5, h6, h7, h8⟩ := h
  have c2 : w.cell? ⟨p, 2, none⟩ = some (.int .i64 ops) := by rw [cell_of h1]; rfl
  clear h1 h2 h3 h4 h5 h6 h7 h8
  go_enter Try.func52, Try.ntmps52
  go_wp2
  go_ret
  exact ⟨rfl, old_refl _⟩
def hasB (frames : Nat) (k : Int) : Bool := decide (0 ≤ k) && decide (k < frames)
theorem has_calls (h : IsMem w X p frames pg ops) (k : Int) : Calls Try.prog 85 #[.pointer (some ⟨p, 0, none⟩), .int .i64 k] w (RetB w (.bool (hasB frames k))) := by
  obtain ⟨m, f, n, h1, h2, h3, h4, h5, h6, h7, h8⟩ := h
  have c0 : w.cell? ⟨p, 0, none⟩ = some (.int .i64 frames) := by rw [cell_of h1]; rfl
  clear h1 h2 h3 h4 h5 h6 h7 h8
  by_cases k0 : 0 ≤ k
  · by_cases k1 : k < frames
    · have e : hasB frames k = true := by unfold hasB; simp [k0, k1]
      rw [e]
      clear e
      go_enter Try.func85, Try.ntmps85
      go_wp2
      go_ret
      exact ⟨rfl, old_refl _⟩
    · have e : hasB frames k = false := by unfold hasB; simp [k1]
      rw [e]
      clear e
      go_enter Try.func85, Try.ntmps85
      go_wp2
      go_ret
      exact ⟨rfl, old_refl _⟩
  · have e : hasB frames k = false := by unfold hasB; simp [k0]
    rw [e]
    clear e
    go_enter Try.func85, Try.ntmps85
    go_wp2
    go_ret
    exact ⟨rfl, old_refl _⟩
/-- page tells a frame's bytes: its own block, or a new one. -/
theorem page_calls (h : IsMem w X p frames pg ops) (k : Int) : Calls Try.prog 83 #[.pointer (some ⟨p, 0, none⟩), .int .i64 k] w (fun e w' => ∃ g c, e = .returned (.slice (some ⟨g, 0, none⟩) 4096 c) ∧ Row w' 0 g c (pageOf pg k) ∧ Old w w') := by
  have hl := pageOf_length h k
  obtain ⟨m, f, n, h1, h2, h3, h4, h5, h6, h7, h8⟩ := h
  have c1 : w.cell? ⟨p, 1, none⟩ = some (.map (some m)) := by rw [cell_of h1]; rfl
  cases hk : pg k with
  | none =>
    have hlk := map_miss (P := Try.prog) (t := 106) Try.underlying106 Try.underlying3 (zero_bytes w) h3 (h7 k hk)
    obtain ⟨w2, hmk, hrow, hO⟩ := make_page w
    have hp0 : pageOf pg k = zeros4096 := by unfold pageOf; rw [hk]; rfl
    rw [hp0]
    have hr0 : Row w2 0 w.heap.size 4096 zeros4096 := by
      refine ⟨⟨hrow.1.1, ?_⟩, hrow.2⟩
      rcases hrow.1.2 with h' | ⟨g', cap', cur, h', hb, rest⟩
      · exact .inl h'
      · exact .inr ⟨g', cap', cur, h', Nat.zero_le _, rest⟩
    have HR := Lib.hid (And.intro hr0 hO)
    clear h1 h2 h3 h4 h5 h6 h7 h8 hl hk hrow hO hr0 hp0
    go_enter Try.func83, Try.ntmps83
    go_wp2
    go_ret
    exact ⟨_, _, rfl, HR.out.1, HR.out.2⟩
  | some l =>
    obtain ⟨v, hv, g, c, rfl, b1, b2, b3, b4, b5⟩ := h8 k l hk
    have hlk := map_lookup (P := Try.prog) (t := 106) Try.underlying106 Try.underlying3 h3 hv
    have hp0 : pageOf pg k = l := by unfold pageOf; rw [hk]; rfl
    rw [hp0]
    have HR := Lib.hid b2
    clear h1 h2 h3 h4 h5 h6 h7 h8 hl hk hv b1 b2 b3 b4 b5 hp0
    go_enter Try.func83, Try.ntmps83
    go_wp2
    go_ret
    exact ⟨_, _, rfl, HR.out, old_refl _⟩
end
end Go.Proofs.Ytfiofjalpaeohaa
