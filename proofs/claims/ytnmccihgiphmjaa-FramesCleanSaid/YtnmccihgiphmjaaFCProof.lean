/- The statement FramesClean: for every input the law returns true, and what came in reads behind the call as it read before; no condition. -/
import Derived.Test.YtnmccihgiphmjaaFCA
import Derived.Test.YtnmccihgiphmjaaFCE
namespace Go.Proofs.Ytnmccihgiphmjaa
set_option linter.unusedVariables false
set_option linter.unusedSimpArgs false
open Go.ChangeShapes Go.WideShapes Go.ChangeAt Go.RowKit Go.Joins
open Go.WideMaps Go.WideElems
open Go.ChangeMaps (open_string shut_string)
set_option maxRecDepth 100000 in
theorem framesClean_lifted (os : Os) (started : os.Started) (H : Type) (enc : TypeId × Value → H) :
    ReturnsInHanded {} Try.checked os 6 .any (Rows.framesCleanSpec.pre6 enc Try.prog Try.f6 Rows.framesCleanRow.domain false) (Rows.framesCleanSpec.post enc Try.prog Try.f6 false true false false) := by
  refine returnsInHanded_of_change (C := Try.checked) own started (by kernel_rfl) Try.func6
    (ChangeSpec.witness6 (enc := enc) (C := Try.checked) false ⟨#[], #[.int .i64 0, .slice none 0 0], []⟩ 8 (by kernel_rfl) (by kernel_rfl) (by kernel_rfl) (by kernel_rfl)) ?_
  intro W base args ds gs before hval0 hW hcnd _
  have hval : ∀ (j : Nat) t v, Try.f6.params[j]? = some t → args[j]? = some v → Value.okWide Try.prog W .any base t v := hval0
  have hW' := hW
  obtain ⟨p, q, hA0, hV, rfl, hfz, hnd⟩ := hW
  have hA : DataW.TrodAll enc Try.prog W 0 (fun _ => true) true Try.f6.params.toList args.toList ds p := hA0
  rw [Try.params6] at hA hval
  obtain ⟨v0, vs0, d0, ds0, p0, q0, hargs, rfl, rfl, h0, r0⟩ := trodAll_cons hA
  obtain ⟨v1, vs1, d1, ds1, p1, q1, rfl, rfl, rfl, h1, r1⟩ := trodAll_cons r0
  obtain ⟨rfl, rfl, rfl⟩ := trodAll_nil r1
  obtain rfl : args = #[v0, v1] := by cases args; simp_all
  obtain ⟨rfl, rfl⟩ := trodVars_none hV
  simp only [List.append_nil] at hW'
  have hend : ∀ e W', RetB W (.bool true) e W' → ∃ v, e = .returned v ∧ Rows.framesCleanSpec.post enc Try.prog Try.f6 false true false false W #[v0, v1] v W' := fun e W' h =>
    ⟨_, h.1, post_true laidOut (by rw [Try.params6]; intro t ht; change t ∈ [_, _] at ht; simp only [List.mem_cons, List.not_mem_nil, or_false] at ht; rcases ht with rfl | rfl <;> exact ⟨by kernel_rfl, of_decide_eq_true (by kernel_rfl)⟩) rfl hW' rfl Try.underlying4 rfl h.2⟩
  obtain ⟨x0, rfl, e0, _, w0⟩ := open_int Try.underlying3 (hval 0 3 v0 rfl rfl) h0
  obtain ⟨x1, c1, l1, rfl, n1, y1⟩ := open_op8s Try.underlying39 Try.underlying47 (by kernel_rfl) rfl rfl rfl (by kernel_rfl) (by kernel_rfl) (by kernel_rfl) Try.underlying3 Try.underlying3 Try.underlying3 (okWide_slice Try.underlying39 (hval 1 39 v1 rfl rfl)) h1
  refine (framesClean_walk x0 w0 x1 l1 c1 W n1 y1).mono hend
/-- The statement. -/
theorem framesClean_holds : Rows.FramesCleanSaid :=
  OpenClaim.holds_of_wide 6 Try.f6 rfl rfl rfl rfl rfl rfl rfl ⟨rfl, rfl, rfl, rfl, rfl⟩ rfl rfl rfl rfl rfl (by kernel_rfl) Try.func6 (by kernel_rfl)
    (of_decide_eq_true (by kernel_rfl)) (by unfold Func.isWrapper; first | (rw [if_pos (by decide +kernel)]; kernel_rfl) | (rw [if_neg (by decide +kernel)]; exact ⟨rfl, rfl⟩))
    (fun os started H enc _ => framesClean_lifted os started H enc)
#print axioms framesClean_holds
end Go.Proofs.Ytnmccihgiphmjaa
