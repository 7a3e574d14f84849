/- The argument []Op of the statements of layers 5 and 6: structs with slices inside. -/
import Derived.Test.YtfiofjalpaeohaaBoolsArg
namespace Go.Proofs.Ytfiofjalpaeohaa
set_option linter.unusedVariables false
set_option linter.unusedSimpArgs false
open Go.ChangeShapes Go.WideShapes Go.Deep Go.RowKit Go.Joins

section
variable {H : Type} {enc : TypeId × Value → H} {P : Program} {w : World}
theorem open_intscell {t e : TypeId} {v : Value} {d : DataW H} {p : List MemPlace} (ht : P.underlying t = some (.slice e)) (he : P.underlying e = some (.int .i64)) (hc : P.cellsOf e = 1)
    (hv : ∃ a n c, v = .slice a n c) (h : DataW.Trod enc P w 0 (fun _ => true) true t v d p) :
    ∃ ad cap l, v = .slice ad l.length cap ∧ Ints w ad cap l := by
  obtain ⟨a0, len0, cap0, rfl⟩ := hv
  obtain ⟨fuel, hf⟩ := h
  rcases Go.ChangeShapes.open_ints ht he hc hf with ⟨hcs, _⟩ | ⟨a, len, cap, zs, hcs, _, hl, hm, hz, _, hcell, hwz⟩
  · simp [Value.cells] at hcs
    obtain ⟨rfl, rfl, rfl⟩ := hcs
    exact ⟨none, 0, [], rfl, Nat.le_refl _, Nat.zero_le _, fun _ => rfl, fun k x hx => by simp at hx⟩
  · simp [Value.cells] at hcs
    obtain ⟨rfl, rfl, rfl⟩ := hcs
    simp only [if_true] at hz
    have hlen : (zs.take len0).length = len0 := by simp; omega
    refine ⟨some a, cap0, zs.take len0, by rw [hlen], by omega, hm, (fun e => by cases e), fun k x hx => ?_⟩
    have hk : k < len0 := by
      have := (List.getElem?_eq_some_iff.1 hx).1
      rwa [hlen] at this
    have hkz : k < zs.length := by omega
    rw [List.getElem?_take, if_pos hk, List.getElem?_eq_getElem hkz] at hx
    have hx' : zs[k] = x := Option.some.inj hx
    have hw := i64_of (hwz _ (List.getElem_mem hkz))
    have hc' := hcell k hkz
    rw [List.getD_eq_getElem?_getD, List.getElem?_eq_getElem hkz] at hc'
    simp only [Option.getD_some] at hc'
    obtain ⟨ab, ao, spot⟩ := a
    have hspot : spot = none := by
      have := (cell_plain (hcell 0 (by omega))).1
      simpa [Addr.add] using this
    subst hspot
    rw [add_eq _ _ rfl] at hc'
    rw [hx'] at hc' hw
    exact ⟨hw, ab, ao, rfl, (cell_plain hc').2, hc'⟩
theorem open_bytescell {t e : TypeId} {v : Value} {d : DataW H} {p : List MemPlace} (ht : P.underlying t = some (.slice e)) (he : P.underlying e = some (.int .u8)) (hc : P.cellsOf e = 1)
    (hv : ∃ a n c, v = .slice a n c) (h : DataW.Trod enc P w 0 (fun _ => true) true t v d p) :
    ∃ ad cap l, v = .slice ad l.length cap ∧ Bytes w ad cap l := by
  obtain ⟨a0, len0, cap0, rfl⟩ := hv
  obtain ⟨fuel, hf⟩ := h
  rcases Go.ChangeShapes.open_ints ht he hc hf with ⟨hcs, _⟩ | ⟨a, len, cap, zs, hcs, _, hl, hm, hz, _, hcell, hwz⟩
  · simp [Value.cells] at hcs
    obtain ⟨rfl, rfl, rfl⟩ := hcs
    exact ⟨none, 0, [], rfl, Nat.le_refl _, Nat.zero_le _, fun _ => rfl, fun k x hx => by simp at hx⟩
  · simp [Value.cells] at hcs
    obtain ⟨rfl, rfl, rfl⟩ := hcs
    simp only [if_true] at hz
    have hlen : ((zs.take len0).map Int.toNat).length = len0 := by simp; omega
    refine ⟨some a, cap0, (zs.take len0).map Int.toNat, by rw [hlen], by omega, hm, (fun e => by cases e), fun k x hx => ?_⟩
    have hk : k < len0 := by
      have := (List.getElem?_eq_some_iff.1 hx).1
      rwa [hlen] at this
    have hkz : k < zs.length := by omega
    rw [List.getElem?_map, List.getElem?_take, if_pos hk, List.getElem?_eq_getElem hkz] at hx
    have hx' : zs[k].toNat = x := Option.some.inj hx
    have hw := wf_u8 (hwz _ (List.getElem_mem hkz))
    have hc' := hcell k hkz
    rw [List.getD_eq_getElem?_getD, List.getElem?_eq_getElem hkz] at hc'
    simp only [Option.getD_some] at hc'
    obtain ⟨ab, ao, spot⟩ := a
    have hspot : spot = none := by
      have := (cell_plain (hcell 0 (by omega))).1
      simpa [Addr.add] using this
    subst hspot
    rw [add_eq _ _ rfl] at hc'
    refine ⟨by omega, ab, ao, rfl, (cell_plain hc').2, ?_⟩
    rw [hc']
    congr 2
    omega
theorem open_boolscell {t e : TypeId} {v : Value} {d : DataW H} {p : List MemPlace} (ht : P.underlying t = some (.slice e)) (he : P.underlying e = some .bool) (hc : P.cellsOf e = 1)
    (hv : ∃ a n c, v = .slice a n c) (h : DataW.Trod enc P w 0 (fun _ => true) true t v d p) :
    ∃ ad cap l, v = .slice ad l.length cap ∧ Bools w ad cap l := by
  obtain ⟨a0, len0, cap0, rfl⟩ := hv
  obtain ⟨fuel, hf⟩ := h
  rcases Go.Deep.open_slice ht hf with ⟨hcs, _⟩ | ⟨a, len, cap, m, n, D, Pl, hcs, _, hl, hm, hmm, _, hi⟩
  · simp [Value.cells] at hcs
    obtain ⟨rfl, rfl, rfl⟩ := hcs
    exact ⟨none, 0, [], rfl, Nat.le_refl _, Nat.zero_le _, fun _ => rfl, fun k x hx => by simp at hx⟩
  · simp [Value.cells] at hcs
    obtain ⟨rfl, rfl, rfl⟩ := hcs
    simp only [if_true] at hmm
    subst hmm
    have hcell : ∀ i, i < m → ∃ y, w.cell? (a.add i) = some (.bool y) := by
      intro i hi'
      obtain ⟨cs', h1, h2⟩ := hi i hi'
      rw [hc, Nat.mul_one] at h1
      obtain ⟨y, q0, _⟩ := DataW.trod_bool he h2
      subst q0
      exact ⟨y, cell_of_cells?_one h1⟩
    have hspot : len0 = 0 ∨ a.spot = none := by
      by_cases h0 : len0 = 0
      · exact .inl h0
      · obtain ⟨y, hy⟩ := hcell 0 (by omega)
        exact .inr (by simpa [Addr.add] using (cell_plain hy).1)
    obtain ⟨l, hll, hq⟩ := list_of (Q := fun i (x : Bool) => ∃ bb off, (some a : Option Addr) = some ⟨bb, off, none⟩ ∧ bb < w.heap.size ∧ w.cell? ⟨bb, off + i, none⟩ = some (.bool x)) len0 (fun i hil => by
      obtain ⟨y, hy⟩ := hcell i (by omega)
      rcases hspot with h0 | hs
      · omega
      · obtain ⟨ab, ao, spot⟩ := a
        simp only at hs
        subst hs
        rw [add_eq _ _ rfl] at hy
        exact ⟨y, ab, ao, rfl, (cell_plain hy).2, hy⟩)
    exact ⟨some a, m, l, by rw [hll], by omega, hm, (fun e => by cases e), fun k x hx => hq k x hx⟩

/-- A step of the disk's statement, as it was handed in. -/
structure DOp where
  kind : Int
  slot : Int
  aad : Option Addr
  aca : Nat
  at_ : List Int
  bad : Option Addr
  bca : Nat
  bs : List Nat
  fad : Option Addr
  fca : Nat
  fs : List Bool
  other : Bool

/-- Its cells. -/
def DOp.cells (x : DOp) : List Value := [.int .i64 x.kind, .int .i64 x.slot, .slice x.aad x.at_.length x.aca, .slice x.bad x.bs.length x.bca, .slice x.fad x.fs.length x.fca, .bool x.other]
/-- What its slices read as. -/
def DOp.ok (w : World) (x : DOp) : Prop := I64 x.kind ∧ I64 x.slot ∧ Ints w x.aad x.aca x.at_ ∧ Bytes w x.bad x.bca x.bs ∧ Bools w x.fad x.fca x.fs
/-- A slice of steps reads as l. -/
def DOps (w : World) (ad : Option Addr) (l : List DOp) : Prop :=
  ∀ (i : Nat) (x : DOp), l[i]? = some x → x.ok w ∧ ∃ b off, ad = some ⟨b, off, none⟩ ∧ b < w.heap.size ∧ ∀ (c : Nat) (v : Value), x.cells[c]? = some v → w.cell? ⟨b, off + i * 6 + c, none⟩ = some v

theorem dop_old {w x : World} {o : DOp} (h : o.ok w) (ho : Old w x) : o.ok x := ⟨h.1, h.2.1, ints_old h.2.2.1 ho, bytes_old h.2.2.2.1 ho, bools_old h.2.2.2.2 ho⟩
theorem dops_old {w x : World} {ad : Option Addr} {l : List DOp} (h : DOps w ad l) (ho : Old w x) : DOps x ad l := by
  intro i y hy
  obtain ⟨h1, b, off, e, hb, hc⟩ := h i y hy
  exact ⟨dop_old h1 ho, b, off, e, Nat.lt_of_lt_of_le hb ho.size, fun c v hv => by rw [ho.cell (p := ⟨b, off + i * 6 + c, none⟩) hb]; exact hc c v hv⟩

theorem open_dops {t e tA tB tF : TypeId} {f0 f1 f2 f3 f4 f5 : Field} {eA eB eF : TypeId} {v : Value} {d : DataW H} {p : List MemPlace} (ht : P.underlying t = some (.slice e)) (he : P.underlying e = some (.struct #[f0, f1, f2, f3, f4, f5])) (ce : P.cellsOf e = 6)
    (o0 : f0.offset = 0) (o1 : f1.offset = 1) (o2 : f2.offset = 2) (o3 : f3.offset = 3) (o4 : f4.offset = 4) (o5 : f5.offset = 5)
    (c0 : P.cellsOf f0.type = 1) (c1 : P.cellsOf f1.type = 1) (c2 : P.cellsOf f2.type = 1) (c3 : P.cellsOf f3.type = 1) (c4 : P.cellsOf f4.type = 1) (c5 : P.cellsOf f5.type = 1)
    (h0 : P.underlying f0.type = some (.int .i64)) (h1 : P.underlying f1.type = some (.int .i64)) (h2 : P.underlying f2.type = some (.slice eA)) (h3 : P.underlying f3.type = some (.slice eB)) (h4 : P.underlying f4.type = some (.slice eF)) (h5 : P.underlying f5.type = some .bool)
    (uA : P.underlying eA = some (.int .i64)) (cA : P.cellsOf eA = 1) (uB : P.underlying eB = some (.int .u8)) (cB : P.cellsOf eB = 1) (uF : P.underlying eF = some .bool) (cF : P.cellsOf eF = 1)
    (hv : ∃ a n c, v = .slice a n c) (h : DataW.Trod enc P w 0 (fun _ => true) true t v d p) :
    ∃ ad cap l, v = .slice ad l.length cap ∧ l.length ≤ maxLen ∧ DOps w ad l := by
  obtain ⟨a0, len0, cap0, rfl⟩ := hv
  obtain ⟨fuel, hf⟩ := h
  rcases Go.Deep.open_slice ht hf with ⟨hcs, _⟩ | ⟨a, len, cap, m, n, D, Pl, hcs, _, hl, hm, hmm, _, hi⟩
  · simp [Value.cells] at hcs
    obtain ⟨rfl, rfl, rfl⟩ := hcs
    exact ⟨none, 0, [], rfl, Nat.zero_le _, fun i x hx => by simp at hx⟩
  · simp [Value.cells] at hcs
    obtain ⟨rfl, rfl, rfl⟩ := hcs
    have hlm : len0 ≤ m := by rw [hmm]; split <;> omega
    have hspot : len0 = 0 ∨ a.spot = none := by
      by_cases hz : len0 = 0
      · exact .inl hz
      · obtain ⟨cs', g1, g2⟩ := hi 0 (by omega)
        rw [ce] at g1
        obtain ⟨_, hlen, hcell⟩ := World.cells?_some g1
        have z0 := hcell 0 (by omega)
        rw [List.getElem?_eq_getElem (show 0 < cs'.length by omega)] at z0
        exact .inr (by simpa [Addr.add] using (cell_plain z0).1)
    obtain ⟨l, hll, hq⟩ := list_of (Q := fun i (x : DOp) => x.ok w ∧ ∃ b off, (some a : Option Addr) = some ⟨b, off, none⟩ ∧ b < w.heap.size ∧ ∀ (c : Nat) (v : Value), x.cells[c]? = some v → w.cell? ⟨b, off + i * 6 + c, none⟩ = some v) len0 (fun i hil => by
      obtain ⟨cs', g1, g2⟩ := hi i (by omega)
      rw [ce] at g1
      obtain ⟨_, hlen, hcell⟩ := World.cells?_some g1
      obtain ⟨xs, k, hk, hxy, _, hxl, hff⟩ := DataW.trod_struct he g2
      match xs, hxl, cs', hlen with
      | [y0, y1, y2, y3, y4, y5], _, [w0, w1, w2, w3, w4, w5], _ =>
        have t0 := hff 0 f0 rfl
        have t1 := hff 1 f1 rfl
        have t2 := hff 2 f2 rfl
        have t3 := hff 3 f3 rfl
        have t4 := hff 4 f4 rfl
        have t5 := hff 5 f5 rfl
        simp only [o0, o1, o2, o3, o4, o5, c0, c1, c2, c3, c4, c5] at t0 t1 t2 t3 t4 t5
        change DataW.trod enc P w 0 _ _ k f0.type [w0] = some y0 at t0
        change DataW.trod enc P w 0 _ _ k f1.type [w1] = some y1 at t1
        change DataW.trod enc P w 0 _ _ k f2.type [w2] = some y2 at t2
        change DataW.trod enc P w 0 _ _ k f3.type [w3] = some y3 at t3
        change DataW.trod enc P w 0 _ _ k f4.type [w4] = some y4 at t4
        change DataW.trod enc P w 0 _ _ k f5.type [w5] = some y5 at t5
        obtain ⟨n0, e0, _, r0⟩ := DataW.trod_int h0 t0
        obtain ⟨n1, e1, _, r1⟩ := DataW.trod_int h1 t1
        obtain ⟨n5, e5, _⟩ := DataW.trod_bool h5 t5
        obtain ⟨a2, l2, k2, e2⟩ := slice_form h2 t2
        obtain ⟨a3, l3, k3, e3⟩ := slice_form h3 t3
        obtain ⟨a4, l4, k4, e4⟩ := slice_form h4 t4
        simp only [List.cons.injEq, and_true] at e0 e1 e2 e3 e4 e5
        subst e0 e1 e2 e3 e4 e5
        obtain ⟨ad2, ca2, L2, q2, I2⟩ := open_intscell h2 uA cA ⟨_, _, _, rfl⟩ (show DataW.Trod enc P w 0 (fun _ => true) true f2.type (.slice a2 l2 k2) y2.1 y2.2 from ⟨k, t2⟩)
        obtain ⟨ad3, ca3, L3, q3, I3⟩ := open_bytescell h3 uB cB ⟨_, _, _, rfl⟩ (show DataW.Trod enc P w 0 (fun _ => true) true f3.type (.slice a3 l3 k3) y3.1 y3.2 from ⟨k, t3⟩)
        obtain ⟨ad4, ca4, L4, q4, I4⟩ := open_boolscell h4 uF cF ⟨_, _, _, rfl⟩ (show DataW.Trod enc P w 0 (fun _ => true) true f4.type (.slice a4 l4 k4) y4.1 y4.2 from ⟨k, t4⟩)
        rw [q2, q3, q4] at hcell
        refine ⟨⟨n0, n1, ad2, ca2, L2, ad3, ca3, L3, ad4, ca4, L4, n5⟩, ⟨i64_of r0, i64_of r1, I2, I3, I4⟩, ?_⟩
        obtain ⟨ab, ao, spot⟩ := a
        have z0 := hcell 0 (by omega)
        rw [add_add] at z0
        have hspot : spot = none := by
          rcases hspot with e | e
          · omega
          · exact e
        subst hspot
        refine ⟨ab, ao, rfl, ?_, fun c v hc => ?_⟩
        · rw [add_eq _ _ rfl] at z0; exact (cell_plain z0).2
        · have hc6 : c < 6 := (List.getElem?_eq_some_iff.1 hc).1
          have zc := hcell c (by omega)
          rw [add_add, add_eq _ _ rfl] at zc
          rw [show ao + i * 6 + c = ao + (i * 6 + c) by omega, zc]
          exact hc)
    exact ⟨some a, cap0, l, by rw [hll], by omega, fun i x hx => hq i x hx⟩
end
end Go.Proofs.Ytfiofjalpaeohaa
