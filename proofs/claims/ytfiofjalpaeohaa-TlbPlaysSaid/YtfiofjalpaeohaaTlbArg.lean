/- The arguments of the statements of layer 15: a line, a slice of steps. -/
import Derived.Test.YtfiofjalpaeohaaTlb
import Derived.Test.YtfiofjalpaeohaaOpsArg
namespace Go.Proofs.Ytfiofjalpaeohaa
set_option linter.unusedVariables false
set_option linter.unusedSimpArgs false
open Go.ChangeShapes Go.WideShapes Go.Deep Go.RowKit Go.Joins

/-- A line whose numbers are in range. -/
def LnOk (l : Ln) : Prop := I64 l.id ∧ I64 l.asid ∧ l.vp < 18446744073709551616 ∧ l.ip < 18446744073709551616 ∧ I64 l.fr
theorem u64_nat {x : Int} (h : (Lit.int .u64 x).wf = true) : ∃ n : Nat, x = n ∧ n < 18446744073709551616 := by
  simp [Lit.wf, IntKind.min, IntKind.max, IntKind.signed, IntKind.bits] at h
  exact ⟨x.toNat, by omega, by omega⟩
theorem list11 {α : Type} {l : List α} (h : l.length = 11) : ∃ c0 c1 c2 c3 c4 c5 c6 c7 c8 c9 c10, l = [c0, c1, c2, c3, c4, c5, c6, c7, c8, c9, c10] := by
  match l, h with
  | [c0, c1, c2, c3, c4, c5, c6, c7, c8, c9, c10], _ => exact ⟨c0, c1, c2, c3, c4, c5, c6, c7, c8, c9, c10, rfl⟩
section
variable {H : Type} {enc : TypeId × Value → H} {P : Program} {w : World}
theorem perm_of {t : TypeId} {g0 g1 g2 : Field} {spare : Nat → Bool} {held : Bool} {n : Nat} {c0 c1 c2 : Value} {y : DataW H × List MemPlace} (ht : P.underlying t = some (.struct #[g0, g1, g2])) (hone : oneCellFields P #[g0, g1, g2] = true)
    (hb0 : P.underlying g0.type = some .bool) (hb1 : P.underlying g1.type = some .bool) (hb2 : P.underlying g2.type = some .bool) (h : DataW.trod enc P w 0 spare held n t [c0, c1, c2] = some y) : ∃ a b c, c0 = .bool a ∧ c1 = .bool b ∧ c2 = .bool c := by
  obtain ⟨z0, z1, z2, n', hx', _, u0, u1, u2⟩ := trod_struct3 ht h
  obtain ⟨q0, j0⟩ := hone_of hone 0 g0 rfl
  obtain ⟨q1, j1⟩ := hone_of hone 1 g1 rfl
  obtain ⟨q2, j2⟩ := hone_of hone 2 g2 rfl
  simp only [q0, q1, q2, j0, j1, j2] at u0 u1 u2
  change DataW.trod enc P w 0 spare held n' g0.type [c0] = some z0 at u0
  change DataW.trod enc P w 0 spare held n' g1.type [c1] = some z1 at u1
  change DataW.trod enc P w 0 spare held n' g2.type [c2] = some z2 at u2
  obtain ⟨b2, e2, _⟩ := DataW.trod_bool hb0 u0
  obtain ⟨b3, e4, _⟩ := DataW.trod_bool hb1 u1
  obtain ⟨b4, e5, _⟩ := DataW.trod_bool hb2 u2
  simp only [List.cons.injEq, and_true] at e2 e4 e5
  exact ⟨_, _, _, e2, e4, e5⟩
theorem line_of {t : TypeId} {f0 f1 f2 f3 f4 f5 f6 g0 g1 g2 : Field} {spare : Nat → Bool} {held : Bool} {n : Nat} {cs : List Value} {y : DataW H × List MemPlace} (hlen : cs.length = 11)
    (hs : P.underlying t = some (.struct #[f0, f1, f2, f3, f4, f5, f6])) (hC : P.cellsOf t = 11)
    (o0 : f0.offset = 0) (o1 : f1.offset = 1) (o2 : f2.offset = 2) (o3 : f3.offset = 3) (o4 : f4.offset = 4) (o5 : f5.offset = 5) (o6 : f6.offset = 8)
    (k0 : P.cellsOf f0.type = 1) (k1 : P.cellsOf f1.type = 1) (k2 : P.cellsOf f2.type = 1) (k3 : P.cellsOf f3.type = 1) (k4 : P.cellsOf f4.type = 1) (k5 : P.cellsOf f5.type = 3) (k6 : P.cellsOf f6.type = 3)
    (h0 : P.underlying f0.type = some (.int .i64)) (h1 : P.underlying f1.type = some (.int .i64)) (h2 : P.underlying f2.type = some (.int .u64)) (h3 : P.underlying f3.type = some (.int .u64)) (h4 : P.underlying f4.type = some (.int .i64))
    (h5 : P.underlying f5.type = some (.struct #[g0, g1, g2])) (h6 : P.underlying f6.type = some (.struct #[g0, g1, g2]))
    (hone : oneCellFields P #[g0, g1, g2] = true) (hb0 : P.underlying g0.type = some .bool) (hb1 : P.underlying g1.type = some .bool) (hb2 : P.underlying g2.type = some .bool)
    (h : DataW.trod enc P w 0 spare held n t cs = some y) : ∃ l : Ln, cs = l.cells ∧ LnOk l := by
  obtain ⟨c0, c1, c2, c3, c4, c5, c6, c7, c8, c9, c10, rfl⟩ := list11 hlen
  obtain ⟨xs, k, hk, hxy, _, hxl, hff⟩ := DataW.trod_struct hs h
  match xs, hxl with
  | [y0, y1, y2, y3, y4, y5, y6], _ =>
    have t0 := hff 0 f0 rfl
    have t1 := hff 1 f1 rfl
    have t2 := hff 2 f2 rfl
    have t3 := hff 3 f3 rfl
    have t4 := hff 4 f4 rfl
    have t5 := hff 5 f5 rfl
    have t6 := hff 6 f6 rfl
    simp only [o0, o1, o2, o3, o4, o5, o6, k0, k1, k2, k3, k4, k5, k6] at t0 t1 t2 t3 t4 t5 t6
    change DataW.trod enc P w 0 _ _ k f0.type [c0] = some y0 at t0
    change DataW.trod enc P w 0 _ _ k f1.type [c1] = some y1 at t1
    change DataW.trod enc P w 0 _ _ k f2.type [c2] = some y2 at t2
    change DataW.trod enc P w 0 _ _ k f3.type [c3] = some y3 at t3
    change DataW.trod enc P w 0 _ _ k f4.type [c4] = some y4 at t4
    change DataW.trod enc P w 0 _ _ k f5.type [c5, c6, c7] = some y5 at t5
    change DataW.trod enc P w 0 _ _ k f6.type [c8, c9, c10] = some y6 at t6
    obtain ⟨n0, e0, _, r0⟩ := DataW.trod_int h0 t0
    obtain ⟨n1, e1, _, r1⟩ := DataW.trod_int h1 t1
    obtain ⟨n2, e2, _, r2⟩ := DataW.trod_int h2 t2
    obtain ⟨n3, e3, _, r3⟩ := DataW.trod_int h3 t3
    obtain ⟨n4, e4, _, r4⟩ := DataW.trod_int h4 t4
    obtain ⟨a5, a6, a7, e5, e6, e7⟩ := perm_of h5 hone hb0 hb1 hb2 t5
    obtain ⟨a8, a9, a10, e8, e9, e10⟩ := perm_of h6 hone hb0 hb1 hb2 t6
    obtain ⟨v2, z2, s2⟩ := u64_nat r2
    obtain ⟨v3, z3, s3⟩ := u64_nat r3
    simp only [List.cons.injEq, and_true] at e0 e1 e2 e3 e4
    subst z2 z3 e0 e1 e2 e3 e4 e5 e6 e7 e8 e9 e10
    exact ⟨⟨n0, n1, v2, v3, n4, a5, a6, a7, a8, a9, a10⟩, rfl, i64_of r0, i64_of r1, s2, s3, i64_of r4⟩
/-- A line handed in. -/
theorem open_line {r : Reach} {b0 : Nat} {t : TypeId} {f0 f1 f2 f3 f4 f5 f6 g0 g1 g2 : Field} {v : Value} {d : DataW H} {p : List MemPlace} {spare : Nat → Bool} {held : Bool}
    (hs : P.underlying t = some (.struct #[f0, f1, f2, f3, f4, f5, f6])) (hC : P.cellsOf t = 11)
    (o0 : f0.offset = 0) (o1 : f1.offset = 1) (o2 : f2.offset = 2) (o3 : f3.offset = 3) (o4 : f4.offset = 4) (o5 : f5.offset = 5) (o6 : f6.offset = 8)
    (k0 : P.cellsOf f0.type = 1) (k1 : P.cellsOf f1.type = 1) (k2 : P.cellsOf f2.type = 1) (k3 : P.cellsOf f3.type = 1) (k4 : P.cellsOf f4.type = 1) (k5 : P.cellsOf f5.type = 3) (k6 : P.cellsOf f6.type = 3)
    (h0 : P.underlying f0.type = some (.int .i64)) (h1 : P.underlying f1.type = some (.int .i64)) (h2 : P.underlying f2.type = some (.int .u64)) (h3 : P.underlying f3.type = some (.int .u64)) (h4 : P.underlying f4.type = some (.int .i64))
    (h5 : P.underlying f5.type = some (.struct #[g0, g1, g2])) (h6 : P.underlying f6.type = some (.struct #[g0, g1, g2]))
    (hone : oneCellFields P #[g0, g1, g2] = true) (hb0 : P.underlying g0.type = some .bool) (hb1 : P.underlying g1.type = some .bool) (hb2 : P.underlying g2.type = some .bool)
    (hv : Value.okWide P w r b0 t v) (h : DataW.Trod enc P w 0 spare held t v d p) : ∃ l : Ln, v = .agg l.cells.toArray ∧ LnOk l := by
  obtain ⟨cs, rfl, hsz⟩ := okWide_struct hs hv
  obtain ⟨fuel, hf⟩ := h
  obtain ⟨l, hl, ho⟩ := line_of (by rw [show (Value.agg cs).cells.toList = cs.toList from rfl, Array.length_toList, hsz, hC]) hs hC o0 o1 o2 o3 o4 o5 o6 k0 k1 k2 k3 k4 k5 k6 h0 h1 h2 h3 h4 h5 h6 hone hb0 hb1 hb2 hf
  refine ⟨l, ?_, ho⟩
  have e : cs.toList = l.cells := hl
  rw [← e]
/-- A step handed in. -/
structure TOp where
  kind : Int
  st : Int
  way : Int
  l : Ln
def TOp.cells (x : TOp) : List Value := .int .i64 x.kind :: .int .i64 x.st :: .int .i64 x.way :: x.l.cells
def TOp.ok (x : TOp) : Prop := I64 x.kind ∧ I64 x.st ∧ I64 x.way ∧ LnOk x.l
theorem top_len (x : TOp) : x.cells.length = 14 := rfl
/-- A slice of steps reads as l. -/
def TOps (w : World) (ad : Option Addr) (l : List TOp) : Prop :=
  ∀ (i : Nat) (x : TOp), l[i]? = some x → x.ok ∧ ∃ b off, ad = some ⟨b, off, none⟩ ∧ b < w.heap.size ∧ ∀ (c : Nat) (v : Value), x.cells[c]? = some v → w.cell? ⟨b, off + i * 14 + c, none⟩ = some v
theorem tops_old {w x : World} {ad : Option Addr} {l : List TOp} (h : TOps w ad l) (ho : Old w x) : TOps x ad l := by
  intro i y hy
  obtain ⟨h1, b, off, e, hb, hc⟩ := h i y hy
  exact ⟨h1, b, off, e, Nat.lt_of_lt_of_le hb ho.size, fun c v hv => by rw [ho.cell (p := ⟨b, off + i * 14 + c, none⟩) hb]; exact hc c v hv⟩
theorem open_tops {t0 e t : TypeId} {e0 e1 e2 e3 f0 f1 f2 f3 f4 f5 f6 g0 g1 g2 : Field} {v : Value} {d : DataW H} {p : List MemPlace} (ht : P.underlying t0 = some (.slice e)) (he : P.underlying e = some (.struct #[e0, e1, e2, e3])) (ce : P.cellsOf e = 14)
    (q0 : e0.offset = 0) (q1 : e1.offset = 1) (q2 : e2.offset = 2) (q3 : e3.offset = 3) (c0 : P.cellsOf e0.type = 1) (c1 : P.cellsOf e1.type = 1) (c2 : P.cellsOf e2.type = 1) (et : e3.type = t)
    (i0 : P.underlying e0.type = some (.int .i64)) (i1 : P.underlying e1.type = some (.int .i64)) (i2 : P.underlying e2.type = some (.int .i64))
    (hs : P.underlying t = some (.struct #[f0, f1, f2, f3, f4, f5, f6])) (hC : P.cellsOf t = 11)
    (o0 : f0.offset = 0) (o1 : f1.offset = 1) (o2 : f2.offset = 2) (o3 : f3.offset = 3) (o4 : f4.offset = 4) (o5 : f5.offset = 5) (o6 : f6.offset = 8)
    (k0 : P.cellsOf f0.type = 1) (k1 : P.cellsOf f1.type = 1) (k2 : P.cellsOf f2.type = 1) (k3 : P.cellsOf f3.type = 1) (k4 : P.cellsOf f4.type = 1) (k5 : P.cellsOf f5.type = 3) (k6 : P.cellsOf f6.type = 3)
    (h0 : P.underlying f0.type = some (.int .i64)) (h1 : P.underlying f1.type = some (.int .i64)) (h2 : P.underlying f2.type = some (.int .u64)) (h3 : P.underlying f3.type = some (.int .u64)) (h4 : P.underlying f4.type = some (.int .i64))
    (h5 : P.underlying f5.type = some (.struct #[g0, g1, g2])) (h6 : P.underlying f6.type = some (.struct #[g0, g1, g2]))
    (hone : oneCellFields P #[g0, g1, g2] = true) (hb0 : P.underlying g0.type = some .bool) (hb1 : P.underlying g1.type = some .bool) (hb2 : P.underlying g2.type = some .bool)
    (hv : ∃ a n c, v = .slice a n c) (h : DataW.Trod enc P w 0 (fun _ => true) true t0 v d p) :
    ∃ ad cap l, v = .slice ad l.length cap ∧ l.length ≤ maxLen ∧ TOps w ad l := by
  subst et
  obtain ⟨a0, len0, cap0, rfl⟩ := hv
  obtain ⟨fuel, hf⟩ := h
  rcases Go.Deep.open_slice ht hf with ⟨hcs, _⟩ | ⟨a, len, cap, m, n, D, Pl, hcs, _, hl, hm, hmm, _, hi⟩
  · simp [Value.cells] at hcs
    obtain ⟨rfl, rfl, rfl⟩ := hcs
    exact ⟨none, 0, [], rfl, Nat.zero_le _, fun i x hx => by simp at hx⟩
  · simp [Value.cells] at hcs
    obtain ⟨rfl, rfl, rfl⟩ := hcs
    have hlm : len0 ≤ m := by rw [hmm]; split <;> omega
    have hspot : len0 = 0 ∨ a.spot = none := by
      by_cases hz : len0 = 0
      · exact .inl hz
      · obtain ⟨cs', u1, u2⟩ := hi 0 (by omega)
        rw [ce] at u1
        obtain ⟨_, hlen, hcell⟩ := World.cells?_some u1
        have z0 := hcell 0 (by omega)
        rw [List.getElem?_eq_getElem (show 0 < cs'.length by omega)] at z0
        exact .inr (by simpa [Addr.add] using (cell_plain z0).1)
    obtain ⟨l, hll, hq⟩ := list_of (Q := fun i (x : TOp) => x.ok ∧ ∃ b off, (some a : Option Addr) = some ⟨b, off, none⟩ ∧ b < w.heap.size ∧ ∀ (c : Nat) (v : Value), x.cells[c]? = some v → w.cell? ⟨b, off + i * 14 + c, none⟩ = some v) len0 (fun i hil => by
      obtain ⟨cs', u1, u2⟩ := hi i (by omega)
      rw [ce] at u1
      obtain ⟨_, hlen, hcell⟩ := World.cells?_some u1
      obtain ⟨xs, k, hk, hxy, _, hxl, hff⟩ := DataW.trod_struct he u2
      match xs, hxl, cs', hlen with
      | [y0, y1, y2, y3], _, [w0, w1, w2, w3, w4, w5, w6, w7, w8, w9, w10, w11, w12, w13], _ =>
        have t0 := hff 0 e0 rfl
        have t1 := hff 1 e1 rfl
        have t2 := hff 2 e2 rfl
        have t3 := hff 3 e3 rfl
        simp only [q0, q1, q2, q3, c0, c1, c2, hC] at t0 t1 t2 t3
        change DataW.trod enc P w 0 _ _ k e0.type [w0] = some y0 at t0
        change DataW.trod enc P w 0 _ _ k e1.type [w1] = some y1 at t1
        change DataW.trod enc P w 0 _ _ k e2.type [w2] = some y2 at t2
        change DataW.trod enc P w 0 _ _ k e3.type [w3, w4, w5, w6, w7, w8, w9, w10, w11, w12, w13] = some y3 at t3
        obtain ⟨n0, z0, _, r0⟩ := DataW.trod_int i0 t0
        obtain ⟨n1, z1, _, r1⟩ := DataW.trod_int i1 t1
        obtain ⟨n2, z2, _, r2⟩ := DataW.trod_int i2 t2
        obtain ⟨ln, hln, hok⟩ := line_of rfl hs hC o0 o1 o2 o3 o4 o5 o6 k0 k1 k2 k3 k4 k5 k6 h0 h1 h2 h3 h4 h5 h6 hone hb0 hb1 hb2 t3
        simp only [List.cons.injEq, and_true] at z0 z1 z2
        subst z0 z1 z2
        have hcs : [Value.int .i64 n0, .int .i64 n1, .int .i64 n2, w3, w4, w5, w6, w7, w8, w9, w10, w11, w12, w13] = (TOp.mk n0 n1 n2 ln).cells := by
          show _ = Value.int .i64 n0 :: .int .i64 n1 :: .int .i64 n2 :: ln.cells
          rw [← hln]
        rw [hcs] at hcell
        refine ⟨⟨n0, n1, n2, ln⟩, ⟨i64_of r0, i64_of r1, i64_of r2, hok⟩, ?_⟩
        obtain ⟨ab, ao, spot⟩ := a
        have z0 := hcell 0 (by omega)
        rw [add_add] at z0
        have hspot : spot = none := by
          rcases hspot with e | e
          · omega
          · exact e
        subst hspot
        refine ⟨ab, ao, rfl, ?_, fun c v hc => ?_⟩
        · rw [add_eq _ _ rfl] at z0; exact (cell_plain z0).2
        · have hc6 : c < 14 := (List.getElem?_eq_some_iff.1 hc).1
          have zc := hcell c (by omega)
          rw [add_add, add_eq _ _ rfl] at zc
          rw [show ao + i * 14 + c = ao + (i * 14 + c) by omega, zc]
          exact hc)
    exact ⟨some a, cap0, l, by rw [hll], by omega, fun i x hx => hq i x hx⟩
end
end Go.Proofs.Ytfiofjalpaeohaa
