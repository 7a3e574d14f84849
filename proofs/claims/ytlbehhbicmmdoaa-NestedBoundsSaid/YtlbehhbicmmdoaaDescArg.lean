/- A descriptor handed in. -/
import Derived.Test.YtlbehhbicmmdoaaBase
import Derived.Test.YtlbehhbicmmdoaaArgs
import Derived.Lib.SmallJoins
namespace Go.Proofs.Ytlbehhbicmmdoaa
set_option linter.unusedVariables false
set_option linter.unusedSimpArgs false
open Go.ChangeShapes Go.WideShapes Go.Deep Go.RowKit Go.Joins

theorem array6 {α : Type} {cs : Array α} (h : cs.size = 6) : ∃ c0 c1 c2 c3 c4 c5, cs = #[c0, c1, c2, c3, c4, c5] := by
  obtain ⟨l⟩ := cs
  match l, h with
  | [c0, c1, c2, c3, c4, c5], _ => exact ⟨c0, c1, c2, c3, c4, c5, rfl⟩

section
variable {H : Type} {enc : TypeId × Value → H} {P : Program} {w : World}
/-- A struct of an int, a uint64, a struct of three bools and an int. -/
theorem open_desc {r : Reach} {b0 : Nat} {t tp : TypeId} {f0 f1 f2 f3 g0 g1 g2 : Field} {v : Value} {d : DataW H} {p : List MemPlace} {spare : Nat → Bool} {held : Bool}
    (hs : P.underlying t = some (.struct #[f0, f1, f2, f3])) (hC : P.cellsOf t = 6)
    (o0 : f0.offset = 0) (o1 : f1.offset = 1) (o2 : f2.offset = 2) (o3 : f3.offset = 5) (k0 : P.cellsOf f0.type = 1) (k1 : P.cellsOf f1.type = 1) (k2 : P.cellsOf f2.type = 3) (k3 : P.cellsOf f3.type = 1)
    (h0 : P.underlying f0.type = some (.int .i64)) (h1 : P.underlying f1.type = some (.int .u64)) (h2 : P.underlying f2.type = some (.struct #[g0, g1, g2])) (h3 : P.underlying f3.type = some (.int .i64))
    (hone : oneCellFields P #[g0, g1, g2] = true) (hb0 : P.underlying g0.type = some .bool) (hb1 : P.underlying g1.type = some .bool) (hb2 : P.underlying g2.type = some .bool)
    (hv : Value.okWide P w r b0 t v) (h : DataW.Trod enc P w 0 spare held t v d p) :
    ∃ (k : Int) (a : Int) (x y z : Bool) (s : Int), v = .agg #[.int .i64 k, .int .u64 a, .bool x, .bool y, .bool z, .int .i64 s] ∧ (Lit.int .i64 k).wf = true ∧ (Lit.int .u64 a).wf = true ∧ (Lit.int .i64 s).wf = true := by
  obtain ⟨cs, rfl, hsz⟩ := okWide_struct hs hv
  obtain ⟨c0, c1, c2, c3, c4, c5, rfl⟩ := array6 (hsz.trans hC)
  obtain ⟨fuel, hf⟩ := h
  obtain ⟨y0, y1, y2, y3, n, hx, _, t0, t1, t2, t3⟩ := trod_struct4 hs hf
  simp only [Value.cells, o0, o1, o2, o3, k0, k1, k2, k3] at t0 t1 t2 t3
  change DataW.trod enc P w 0 spare held n f0.type [c0] = some y0 at t0
  change DataW.trod enc P w 0 spare held n f1.type [c1] = some y1 at t1
  change DataW.trod enc P w 0 spare held n f2.type [c2, c3, c4] = some y2 at t2
  change DataW.trod enc P w 0 spare held n f3.type [c5] = some y3 at t3
  obtain ⟨m0, e0, _, r0⟩ := DataW.trod_int h0 t0
  obtain ⟨m1, e1, _, r1⟩ := DataW.trod_int h1 t1
  obtain ⟨m3, e3, _, r3⟩ := DataW.trod_int h3 t3
  obtain ⟨z0, z1, z2, n', hx', _, u0, u1, u2⟩ := trod_struct3 h2 t2
  obtain ⟨q0, j0⟩ := hone_of hone 0 g0 rfl
  obtain ⟨q1, j1⟩ := hone_of hone 1 g1 rfl
  obtain ⟨q2, j2⟩ := hone_of hone 2 g2 rfl
  simp only [q0, q1, q2, j0, j1, j2] at u0 u1 u2
  change DataW.trod enc P w 0 spare held n' g0.type [c2] = some z0 at u0
  change DataW.trod enc P w 0 spare held n' g1.type [c3] = some z1 at u1
  change DataW.trod enc P w 0 spare held n' g2.type [c4] = some z2 at u2
  obtain ⟨b2, e2, _⟩ := DataW.trod_bool hb0 u0
  obtain ⟨b3, e4, _⟩ := DataW.trod_bool hb1 u1
  obtain ⟨b4, e5, _⟩ := DataW.trod_bool hb2 u2
  simp only [List.cons.injEq, and_true] at e0 e1 e2 e3 e4 e5
  subst e0 e1 e2 e3 e4 e5
  exact ⟨_, _, _, _, _, _, rfl, r0, r1, r3⟩
end

end Go.Proofs.Ytlbehhbicmmdoaa
