/- The statements of layer 15: lines. -/
import Derived.Test.YtfiofjalpaeohaaTlbList
namespace Go.Proofs.Ytfiofjalpaeohaa
set_option linter.unusedVariables false
set_option linter.unusedSimpArgs false
open Go.RowKit

theorem eq_permL (d : Nat) (x0 x1 x2 y0 y1 y2 : Bool) (w : World) :
    (Op.equalIn (d + 2) 62 (.agg #[.bool x0, .bool x1, .bool x2]) (.agg #[.bool y0, .bool y1, .bool y2])).run Try.prog w = .ok (x0 == y0 && (x1 == y1 && (x2 == y2 && true))) w := by
  refine same_struct (d := d + 1) Try.underlying62 (by kernel_rfl) ?_
  refine same_cons (by rfl) (by go_simp; rfl) (by go_simp; rfl) (by go_simp) ?_
  refine same_cons (by rfl) (by go_simp; rfl) (by go_simp; rfl) (by go_simp) ?_
  refine same_cons (by rfl) (by go_simp; rfl) (by go_simp; rfl) (by go_simp) ?_
  exact same_nil
def lnB (a b : Ln) : Bool := a.id == b.id && (a.asid == b.asid && ((a.vp : Int) == (b.vp : Int) && ((a.ip : Int) == (b.ip : Int) && (a.fr == b.fr && ((a.p0 == b.p0 && (a.p1 == b.p1 && (a.p2 == b.p2 && true))) && ((a.s0 == b.s0 && (a.s1 == b.s1 && (a.s2 == b.s2 && true))) && true))))))
theorem lnB_iff (a b : Ln) : lnB a b = true ↔ a = b := by
  obtain ⟨a1, a2, a3, a4, a5, a6, a7, a8, a9, a10, a11⟩ := a
  obtain ⟨b1, b2, b3, b4, b5, b6, b7, b8, b9, b10, b11⟩ := b
  simp [lnB, Int.natCast_inj, and_assoc]
set_option maxRecDepth 100000 in
theorem eq_line (a b : Ln) (w : World) :
    (Op.equalIn 10000 64 (.agg a.cells.toArray) (.agg b.cells.toArray)).run Try.prog w = .ok (lnB a b) w := by
  obtain ⟨a1, a2, a3, a4, a5, a6, a7, a8, a9, a10, a11⟩ := a
  obtain ⟨b1, b2, b3, b4, b5, b6, b7, b8, b9, b10, b11⟩ := b
  unfold Ln.cells
  refine same_struct (d := 9999) Try.underlying64 (by kernel_rfl) ?_
  refine same_cons (by rfl) (by go_simp; rfl) (by go_simp; rfl) (by go_simp) ?_
  refine same_cons (by rfl) (by go_simp; rfl) (by go_simp; rfl) (by go_simp) ?_
  refine same_cons (by rfl) (by go_simp; rfl) (by go_simp; rfl) (by go_simp) ?_
  refine same_cons (by rfl) (by go_simp; rfl) (by go_simp; rfl) (by go_simp) ?_
  refine same_cons (by rfl) (by go_simp; rfl) (by go_simp; rfl) (by go_simp) ?_
  refine same_cons (a := .agg #[.bool a6, .bool a7, .bool a8]) (b := .agg #[.bool b6, .bool b7, .bool b8]) (by rfl) (by go_simp) (by go_simp) (eq_permL 9997 a6 a7 a8 b6 b7 b8 w) ?_
  refine same_cons (a := .agg #[.bool a9, .bool a10, .bool a11]) (b := .agg #[.bool b9, .bool b10, .bool b11]) (by rfl) (by go_simp) (by go_simp) (eq_permL 9997 a9 a10 a11 b9 b10 b11 w) ?_
  exact same_nil
theorem lns_cell {w : World} {B : Nat} {v : Value} {L : List Ln} (h : OwnLns w B v L) (hn : 0 < L.length) : ∃ g c, v = .slice (some ⟨g, 0, none⟩) L.length c ∧ B ≤ g ∧ g < w.heap.size ∧ L.length ≤ c ∧ c ≤ maxLen ∧
    ∀ (k : Nat) (l : Ln), L[k]? = some l → ∀ x, Old w x → ∀ (c : Nat) (u : Value), l.cells[c]? = some u → x.cell? ⟨g, k * 11 + c, none⟩ = some u := by
  obtain ⟨ad, c, rfl, h1, h2, h3, h4⟩ := own_value h
  obtain ⟨g, rfl⟩ := h4 hn
  obtain ⟨_, h5, h6⟩ := h3 g 0 rfl
  exact ⟨g, c, rfl, h5, h6, h1, h2, fun k l hl x hx cc u hu => own_cell (own_old h hx) rfl _ (flatC_get ln_len L k l cc u hl hu)⟩

end Go.Proofs.Ytfiofjalpaeohaa
