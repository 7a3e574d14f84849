/- Arguments: slices of words, slices of descriptors. -/
import Derived.Test.YtlbehhbicmmdoaaWalkN
import Derived.Test.YtlbehhbicmmdoaaDescArg
import Derived.Test.YtlbehhbicmmdoaaIntsArg
import Derived.Test.YtlbehhbicmmdoaaBytes
namespace Go.Proofs.Ytlbehhbicmmdoaa
set_option linter.unusedVariables false
set_option linter.unusedSimpArgs false
open Go.ChangeShapes Go.WideShapes Go.Deep Go.RowKit Go.Joins

/-- A slice of words reads as l. -/
def Words (w : World) (ad : Option Addr) (c : Nat) (l : List Nat) : Prop :=
  l.length ≤ c ∧ c ≤ maxLen ∧ (ad = none → c = 0) ∧ ∀ (k x : Nat), l[k]? = some x → x < 18446744073709551616 ∧ ∃ bb off, ad = some ⟨bb, off, none⟩ ∧ bb < w.heap.size ∧ w.cell? ⟨bb, off + k, none⟩ = some (.int .u64 x)
theorem words_old {w x : World} {ad : Option Addr} {c : Nat} {l : List Nat} (h : Words w ad c l) (ho : Old w x) : Words x ad c l := by
  refine ⟨h.1, h.2.1, h.2.2.1, fun k y hy => ?_⟩
  obtain ⟨a, bb, off, rfl, hb, hc⟩ := h.2.2.2 k y hy
  exact ⟨a, bb, off, rfl, Nat.lt_of_lt_of_le hb ho.size, by rw [ho.cell hb]; exact hc⟩
theorem words_only {F : Nat → Prop} {w x : World} {ad : Option Addr} {c : Nat} {l : List Nat} (h : Words w ad c l) (ho : Only F w x) (hF : ∀ bb off, ad = some ⟨bb, off, none⟩ → ¬ F bb) : Words x ad c l := by
  refine ⟨h.1, h.2.1, h.2.2.1, fun k y hy => ?_⟩
  obtain ⟨a, bb, off, rfl, hb, hc⟩ := h.2.2.2 k y hy
  exact ⟨a, bb, off, rfl, Nat.lt_of_lt_of_le hb ho.size, by rw [ho.cell bb _ hb (hF bb off rfl)]; exact hc⟩
theorem wf_w64 {x : Int} (h : (Lit.int .u64 x).wf = true) : 0 ≤ x ∧ x < 18446744073709551616 := by
  simp only [Lit.wf, Bool.and_eq_true, decide_eq_true_eq] at h
  have e1 : IntKind.u64.min = 0 := rfl
  have e2 : IntKind.u64.max = 18446744073709551615 := rfl
  rw [e1, e2] at h
  omega

def D6.cells (d : D6) : List Value := [.int .i64 d.k, .int .u64 (d.a : Nat), .bool d.r, .bool d.w, .bool d.x, .int .i64 d.s]
/-- A slice of descriptors reads as l. -/
def Descs (w : World) (ad : Option Addr) (l : List D6) : Prop :=
  ∀ (i : Nat) (d : D6), l[i]? = some d → d.a < 18446744073709551616 ∧ ∃ b off, ad = some ⟨b, off, none⟩ ∧ b < w.heap.size ∧ ∀ (c : Nat) (v : Value), d.cells[c]? = some v → w.cell? ⟨b, off + i * 6 + c, none⟩ = some v
theorem descs_old {w x : World} {ad : Option Addr} {l : List D6} (h : Descs w ad l) (ho : Old w x) : Descs x ad l := by
  intro i y hy
  obtain ⟨h1, b, off, e, hb, hc⟩ := h i y hy
  exact ⟨h1, b, off, e, Nat.lt_of_lt_of_le hb ho.size, fun c v hv => by rw [ho.cell (p := ⟨b, off + i * 6 + c, none⟩) hb]; exact hc c v hv⟩

section
variable {H : Type} {enc : TypeId × Value → H} {P : Program} {w : World}
/-- An argument that is a slice of words. -/
theorem open_words {r : Reach} {b0 : Nat} {t e : TypeId} {v : Value} {d : DataW H} {p : List MemPlace} (ht : P.underlying t = some (.slice e)) (he : P.underlying e = some (.int .u64)) (hc : P.cellsOf e = 1)
    (hv : Value.okWide P w r b0 t v) (h : DataW.Trod enc P w 0 (fun _ => true) true t v d p) :
    ∃ ad cap l, v = .slice ad l.length cap ∧ Words w ad cap l := by
  obtain ⟨a0, len0, cap0, rfl⟩ := okWide_slice ht hv
  obtain ⟨fuel, hf⟩ := h
  rcases Go.ChangeShapes.open_ints ht he hc hf with ⟨hcs, _⟩ | ⟨a, len, cap, zs, hcs, _, hl, hm, hz, _, hcell, hwz⟩
  · simp [Value.cells] at hcs
    obtain ⟨rfl, rfl, rfl⟩ := hcs
    exact ⟨none, 0, [], rfl, Nat.le_refl _, Nat.zero_le _, fun _ => rfl, fun k x hx => by simp at hx⟩
  · simp [Value.cells] at hcs
    obtain ⟨rfl, rfl, rfl⟩ := hcs
    simp only [if_true] at hz
    have hlen : ((zs.take len0).map Int.toNat).length = len0 := by simp; omega
    refine ⟨some a, cap0, (zs.take len0).map Int.toNat, by rw [hlen], by omega, hm, (fun e => by cases e), fun k x hx => ?_⟩
    have hk : k < len0 := by
      have := (List.getElem?_eq_some_iff.1 hx).1
      rwa [hlen] at this
    have hkz : k < zs.length := by omega
    rw [List.getElem?_map, List.getElem?_take, if_pos hk, List.getElem?_eq_getElem hkz] at hx
    have hx' : zs[k].toNat = x := Option.some.inj hx
    have hw := wf_w64 (hwz _ (List.getElem_mem hkz))
    have hc' := hcell k hkz
    rw [List.getD_eq_getElem?_getD, List.getElem?_eq_getElem hkz] at hc'
    simp only [Option.getD_some] at hc'
    obtain ⟨ab, ao, spot⟩ := a
    have hspot : spot = none := by
      have := (cell_plain (hcell 0 (by omega))).1
      simpa [Addr.add] using this
    subst hspot
    rw [add_eq _ _ rfl] at hc'
    refine ⟨by omega, ab, ao, rfl, (cell_plain hc').2, ?_⟩
    rw [hc']
    congr 2
    omega

theorem open_descs {t e : TypeId} {f0 f1 f2 f3 g0 g1 g2 : Field} {v : Value} {d : DataW H} {p : List MemPlace} (ht : P.underlying t = some (.slice e)) (he : P.underlying e = some (.struct #[f0, f1, f2, f3])) (ce : P.cellsOf e = 6)
    (o0 : f0.offset = 0) (o1 : f1.offset = 1) (o2 : f2.offset = 2) (o3 : f3.offset = 5) (c0 : P.cellsOf f0.type = 1) (c1 : P.cellsOf f1.type = 1) (c2 : P.cellsOf f2.type = 3) (c3 : P.cellsOf f3.type = 1)
    (h0 : P.underlying f0.type = some (.int .i64)) (h1 : P.underlying f1.type = some (.int .u64)) (h2 : P.underlying f2.type = some (.struct #[g0, g1, g2])) (h3 : P.underlying f3.type = some (.int .i64))
    (hone : oneCellFields P #[g0, g1, g2] = true) (hb0 : P.underlying g0.type = some .bool) (hb1 : P.underlying g1.type = some .bool) (hb2 : P.underlying g2.type = some .bool)
    (hv : ∃ a n c, v = .slice a n c) (h : DataW.Trod enc P w 0 (fun _ => true) true t v d p) :
    ∃ ad cap l, v = .slice ad l.length cap ∧ l.length ≤ maxLen ∧ Descs w ad l := by
  obtain ⟨a0, len0, cap0, rfl⟩ := hv
  obtain ⟨fuel, hf⟩ := h
  rcases Go.Deep.open_slice ht hf with ⟨hcs, _⟩ | ⟨a, len, cap, m, n, D, Pl, hcs, _, hl, hm, hmm, _, hi⟩
  · simp [Value.cells] at hcs
    obtain ⟨rfl, rfl, rfl⟩ := hcs
    exact ⟨none, 0, [], rfl, Nat.zero_le _, fun i x hx => by simp at hx⟩
  · simp [Value.cells] at hcs
    obtain ⟨rfl, rfl, rfl⟩ := hcs
    have hlm : len0 ≤ m := by rw [hmm]; split <;> omega
    have hspot : len0 = 0 ∨ a.spot = none := by
      by_cases hz : len0 = 0
      · exact .inl hz
      · obtain ⟨cs', g1, g2⟩ := hi 0 (by omega)
        rw [ce] at g1
        obtain ⟨_, hlen, hcell⟩ := World.cells?_some g1
        have z0 := hcell 0 (by omega)
        rw [List.getElem?_eq_getElem (show 0 < cs'.length by omega)] at z0
        exact .inr (by simpa [Addr.add] using (cell_plain z0).1)
    obtain ⟨l, hll, hq⟩ := list_of (Q := fun i (d : D6) => d.a < 18446744073709551616 ∧ ∃ b off, (some a : Option Addr) = some ⟨b, off, none⟩ ∧ b < w.heap.size ∧ ∀ (c : Nat) (v : Value), d.cells[c]? = some v → w.cell? ⟨b, off + i * 6 + c, none⟩ = some v) len0 (fun i hil => by
      obtain ⟨cs', G1, G2⟩ := hi i (by omega)
      rw [ce] at G1
      obtain ⟨_, hlen, hcell⟩ := World.cells?_some G1
      obtain ⟨xs, k, hk, hxy, _, hxl, hff⟩ := DataW.trod_struct he G2
      match xs, hxl, cs', hlen with
      | [y0, y1, y2, y3], _, [w0, w1, w2, w3, w4, w5], _ =>
        have t0 := hff 0 f0 rfl
        have t1 := hff 1 f1 rfl
        have t2 := hff 2 f2 rfl
        have t3 := hff 3 f3 rfl
        simp only [o0, o1, o2, o3, c0, c1, c2, c3] at t0 t1 t2 t3
        change DataW.trod enc P w 0 _ _ k f0.type [w0] = some y0 at t0
        change DataW.trod enc P w 0 _ _ k f1.type [w1] = some y1 at t1
        change DataW.trod enc P w 0 _ _ k f2.type [w2, w3, w4] = some y2 at t2
        change DataW.trod enc P w 0 _ _ k f3.type [w5] = some y3 at t3
        obtain ⟨n0, e0, _, r0⟩ := DataW.trod_int h0 t0
        obtain ⟨n1, e1, _, r1⟩ := DataW.trod_int h1 t1
        obtain ⟨n3, e3, _, r3⟩ := DataW.trod_int h3 t3
        obtain ⟨z0, z1, z2, n', hx', _, u0, u1, u2⟩ := trod_struct3 h2 t2
        obtain ⟨q0, j0⟩ := hone_of hone 0 g0 rfl
        obtain ⟨q1, j1⟩ := hone_of hone 1 g1 rfl
        obtain ⟨q2, j2⟩ := hone_of hone 2 g2 rfl
        simp only [q0, q1, q2, j0, j1, j2] at u0 u1 u2
        change DataW.trod enc P w 0 _ _ n' g0.type [w2] = some z0 at u0
        change DataW.trod enc P w 0 _ _ n' g1.type [w3] = some z1 at u1
        change DataW.trod enc P w 0 _ _ n' g2.type [w4] = some z2 at u2
        obtain ⟨b2, e2, _⟩ := DataW.trod_bool hb0 u0
        obtain ⟨b3, e4, _⟩ := DataW.trod_bool hb1 u1
        obtain ⟨b4, e5, _⟩ := DataW.trod_bool hb2 u2
        simp only [List.cons.injEq, and_true] at e0 e1 e2 e3 e4 e5
        subst e0 e1 e2 e3 e4 e5
        have hr1 := wf_w64 r1
        refine ⟨⟨n0, n1.toNat, b2, b3, b4, n3⟩, by show n1.toNat < _; omega, ?_⟩
        have en : ((n1.toNat : Nat) : Int) = n1 := by omega
        obtain ⟨ab, ao, spot⟩ := a
        have z0 := hcell 0 (by omega)
        rw [add_add] at z0
        have hspot : spot = none := by
          rcases hspot with e | e
          · omega
          · exact e
        subst hspot
        refine ⟨ab, ao, rfl, ?_, fun c v hc => ?_⟩
        · rw [add_eq _ _ rfl] at z0; exact (cell_plain z0).2
        · have hc6 : c < 6 := (List.getElem?_eq_some_iff.1 hc).1
          have zc := hcell c (by omega)
          rw [add_add, add_eq _ _ rfl] at zc
          rw [show ao + i * 6 + c = ao + (i * 6 + c) by omega, zc]
          unfold D6.cells at hc
          simp only [en] at hc
          exact hc)
    exact ⟨some a, cap0, l, by rw [hll], by omega, fun i x hx => hq i x hx⟩
end
end Go.Proofs.Ytlbehhbicmmdoaa
