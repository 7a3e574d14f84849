/- The statement PermTexts: for every input the law returns true, and what came in reads behind the call as it read before; no condition. -/
import Derived.Test.YtbnbchclbblbkaaLaw
import Derived.Test.YtbnbchclbblbkaaPermTexts
namespace Go.Proofs.Ytbnbchclbblbkaa
set_option linter.unusedVariables false
set_option linter.unusedSimpArgs false
open Go.ChangeShapes Go.WideShapes Go.ChangeAt Go.RowKit Go.Joins
open Go.WideMaps Go.WideElems
open Go.ChangeMaps (open_string shut_string)

set_option maxRecDepth 100000 in
theorem permTexts_lifted (os : Os) (started : os.Started) (H : Type) (enc : TypeId × Value → H) :
    ReturnsInHanded {} Try.checked os 3 .any (Rows.permTextsSpec.pre6 enc Try.prog Try.f3 Rows.permTextsRow.domain false) (Rows.permTextsSpec.post enc Try.prog Try.f3 false true false false) := by
  refine returnsInHanded_of_change (C := Try.checked) own started (by kernel_rfl) Try.func3
    (ChangeSpec.witness6 (enc := enc) (C := Try.checked) false ⟨#[], #[.agg #[.bool false, .bool false, .bool false], .string ByteArray.empty], []⟩ 8 (by kernel_rfl) (by kernel_rfl) (by kernel_rfl) (by kernel_rfl)) ?_
  intro W base args ds gs before hval0 hW hcnd _
  have hval : ∀ (j : Nat) t v, Try.f3.params[j]? = some t → args[j]? = some v → Value.okWide Try.prog W .any base t v := hval0
  have hW' := hW
  obtain ⟨p, q, hA0, hV, rfl, hfz, hnd⟩ := hW
  have hA : DataW.TrodAll enc Try.prog W 0 (fun _ => true) true Try.f3.params.toList args.toList ds p := hA0
  rw [Try.params3] at hA hval
  obtain ⟨v0, vs0, d0, ds0, p0, q0, hargs, rfl, rfl, h0, r0⟩ := trodAll_cons hA
  obtain ⟨v1, vs1, d1, ds1, p1, q1, rfl, rfl, rfl, h1, r1⟩ := trodAll_cons r0
  obtain ⟨rfl, rfl, rfl⟩ := trodAll_nil r1
  obtain rfl : args = #[v0, v1] := by cases args; simp_all
  obtain ⟨rfl, rfl⟩ := trodVars_none hV
  simp only [List.append_nil] at hW'
  have hend : ∀ e W', RetB W (.bool true) e W' → ∃ v, e = .returned v ∧ Rows.permTextsSpec.post enc Try.prog Try.f3 false true false false W #[v0, v1] v W' := fun e W' h =>
    ⟨_, h.1, post_true laidOut (by rw [Try.params3]; intro t ht; simp at ht; rcases ht with rfl | rfl <;> exact ⟨by kernel_rfl, of_decide_eq_true (by kernel_rfl)⟩) rfl hW' rfl Try.underlying4 rfl h.2⟩
  obtain ⟨c00, c01, c02, y00, y01, y02, m0, rfl, e0, _, g00, g01, g02⟩ := open_agg3 Try.underlying23 (by kernel_rfl) (by kernel_rfl) (hval 0 23 v0 rfl rfl) h0
  obtain ⟨x00, z00, u00⟩ := DataW.trod_bool Try.underlying4 g00
  simp only [List.cons.injEq, and_true] at z00
  subst z00
  obtain ⟨x01, z01, u01⟩ := DataW.trod_bool Try.underlying4 g01
  simp only [List.cons.injEq, and_true] at z01
  subst z01
  obtain ⟨x02, z02, u02⟩ := DataW.trod_bool Try.underlying4 g02
  simp only [List.cons.injEq, and_true] at z02
  subst z02
  obtain ⟨x1, rfl, e1, _, w1⟩ := open_string Try.underlying9 (hval 1 9 v1 rfl rfl) h1
  refine (permTexts_walk x00 x01 x02 x1 w1 W).mono hend

/-- The statement. -/
theorem permTexts_holds : Rows.PermTextsSaid :=
  OpenClaim.holds_of_wide 3 Try.f3 rfl rfl rfl rfl rfl rfl rfl ⟨rfl, rfl, rfl, rfl, rfl⟩ rfl rfl rfl rfl rfl (by kernel_rfl) Try.func3 (by kernel_rfl)
    (of_decide_eq_true (by kernel_rfl)) (by unfold Func.isWrapper; first | (rw [if_pos (by decide +kernel)]; kernel_rfl) | (rw [if_neg (by decide +kernel)]; exact ⟨rfl, rfl⟩))
    (fun os started H enc _ => permTexts_lifted os started H enc)
#print axioms permTexts_holds

end Go.Proofs.Ytbnbchclbblbkaa
