/- The statement PermOrder: for every input the law returns true, and what came in reads behind the call as it read before; no condition. -/
import Derived.Test.YtbnbchclbblbkaaLaw
import Derived.Test.YtbnbchclbblbkaaPermOrder
namespace Go.Proofs.Ytbnbchclbblbkaa
set_option linter.unusedVariables false
set_option linter.unusedSimpArgs false
open Go.ChangeShapes Go.WideShapes Go.ChangeAt Go.RowKit Go.Joins
open Go.WideMaps Go.WideElems
open Go.ChangeMaps (open_string shut_string)

set_option maxRecDepth 100000 in
theorem permOrder_lifted (os : Os) (started : os.Started) (H : Type) (enc : TypeId × Value → H) :
    ReturnsInHanded {} Try.checked os 6 .any (Rows.permOrderSpec.pre6 enc Try.prog Try.f6 Rows.permOrderRow.domain false) (Rows.permOrderSpec.post enc Try.prog Try.f6 false true false false) := by
  refine returnsInHanded_of_change (C := Try.checked) own started (by kernel_rfl) Try.func6
    (ChangeSpec.witness6 (enc := enc) (C := Try.checked) false ⟨#[], #[.agg #[.bool false, .bool false, .bool false], .agg #[.bool false, .bool false, .bool false], .agg #[.bool false, .bool false, .bool false]], []⟩ 8 (by kernel_rfl) (by kernel_rfl) (by kernel_rfl) (by kernel_rfl)) ?_
  intro W base args ds gs before hval0 hW hcnd _
  have hval : ∀ (j : Nat) t v, Try.f6.params[j]? = some t → args[j]? = some v → Value.okWide Try.prog W .any base t v := hval0
  have hW' := hW
  obtain ⟨p, q, hA0, hV, rfl, hfz, hnd⟩ := hW
  have hA : DataW.TrodAll enc Try.prog W 0 (fun _ => true) true Try.f6.params.toList args.toList ds p := hA0
  rw [Try.params6] at hA hval
  obtain ⟨v0, vs0, d0, ds0, p0, q0, hargs, rfl, rfl, h0, r0⟩ := trodAll_cons hA
  obtain ⟨v1, vs1, d1, ds1, p1, q1, rfl, rfl, rfl, h1, r1⟩ := trodAll_cons r0
  obtain ⟨v2, vs2, d2, ds2, p2, q2, rfl, rfl, rfl, h2, r2⟩ := trodAll_cons r1
  obtain ⟨rfl, rfl, rfl⟩ := trodAll_nil r2
  obtain rfl : args = #[v0, v1, v2] := by cases args; simp_all
  obtain ⟨rfl, rfl⟩ := trodVars_none hV
  simp only [List.append_nil] at hW'
  have hend : ∀ e W', RetB W (.bool true) e W' → ∃ v, e = .returned v ∧ Rows.permOrderSpec.post enc Try.prog Try.f6 false true false false W #[v0, v1, v2] v W' := fun e W' h =>
    ⟨_, h.1, post_true laidOut (by rw [Try.params6]; intro t ht; change t ∈ [_, _, _] at ht; simp only [List.mem_cons, List.not_mem_nil, or_false] at ht; rcases ht with rfl | rfl | rfl <;> exact ⟨by kernel_rfl, of_decide_eq_true (by kernel_rfl)⟩) rfl hW' rfl Try.underlying4 rfl h.2⟩
  obtain ⟨c00, c01, c02, y00, y01, y02, m0, rfl, e0, _, g00, g01, g02⟩ := open_agg3 Try.underlying23 (by kernel_rfl) (by kernel_rfl) (hval 0 23 v0 rfl rfl) h0
  obtain ⟨x00, z00, u00⟩ := DataW.trod_bool Try.underlying4 g00
  simp only [List.cons.injEq, and_true] at z00
  subst z00
  obtain ⟨x01, z01, u01⟩ := DataW.trod_bool Try.underlying4 g01
  simp only [List.cons.injEq, and_true] at z01
  subst z01
  obtain ⟨x02, z02, u02⟩ := DataW.trod_bool Try.underlying4 g02
  simp only [List.cons.injEq, and_true] at z02
  subst z02
  obtain ⟨c10, c11, c12, y10, y11, y12, m1, rfl, e1, _, g10, g11, g12⟩ := open_agg3 Try.underlying23 (by kernel_rfl) (by kernel_rfl) (hval 1 23 v1 rfl rfl) h1
  obtain ⟨x10, z10, u10⟩ := DataW.trod_bool Try.underlying4 g10
  simp only [List.cons.injEq, and_true] at z10
  subst z10
  obtain ⟨x11, z11, u11⟩ := DataW.trod_bool Try.underlying4 g11
  simp only [List.cons.injEq, and_true] at z11
  subst z11
  obtain ⟨x12, z12, u12⟩ := DataW.trod_bool Try.underlying4 g12
  simp only [List.cons.injEq, and_true] at z12
  subst z12
  obtain ⟨c20, c21, c22, y20, y21, y22, m2, rfl, e2, _, g20, g21, g22⟩ := open_agg3 Try.underlying23 (by kernel_rfl) (by kernel_rfl) (hval 2 23 v2 rfl rfl) h2
  obtain ⟨x20, z20, u20⟩ := DataW.trod_bool Try.underlying4 g20
  simp only [List.cons.injEq, and_true] at z20
  subst z20
  obtain ⟨x21, z21, u21⟩ := DataW.trod_bool Try.underlying4 g21
  simp only [List.cons.injEq, and_true] at z21
  subst z21
  obtain ⟨x22, z22, u22⟩ := DataW.trod_bool Try.underlying4 g22
  simp only [List.cons.injEq, and_true] at z22
  subst z22
  refine (permOrder_walk x00 x01 x02 x10 x11 x12 x20 x21 x22 W).mono hend

/-- The statement. -/
theorem permOrder_holds : Rows.PermOrderSaid :=
  OpenClaim.holds_of_wide 6 Try.f6 rfl rfl rfl rfl rfl rfl rfl ⟨rfl, rfl, rfl, rfl, rfl⟩ rfl rfl rfl rfl rfl (by kernel_rfl) Try.func6 (by kernel_rfl)
    (of_decide_eq_true (by kernel_rfl)) (by unfold Func.isWrapper; first | (rw [if_pos (by decide +kernel)]; kernel_rfl) | (rw [if_neg (by decide +kernel)]; exact ⟨rfl, rfl⟩))
    (fun os started H enc _ => permOrder_lifted os started H enc)
#print axioms permOrder_holds

end Go.Proofs.Ytbnbchclbblbkaa
