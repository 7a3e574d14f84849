/- A statement whose order is open, by what holds while it is under way: of the operations that have come, the frame and the world. No function of the program stands here. -/
import Derived.Test.YtlbehhbicmmdoaaStage
namespace Go.Proofs.Ytlbehhbicmmdoaa
set_option linter.unusedVariables false
set_option linter.unusedSimpArgs false
open Go.RowKit

/-- Behind an operation: T; else Q. -/
def PostS (T : Act → World → Prop) (Q : Exit → Act → World → Prop) : Exit → Act → World → Prop
  | .normal, a, w => T a w
  | .exit i, a, w => Q (.exit i) a w
  | .goto l, a, w => Q (.goto l) a w
  | .ret, a, w => Q .ret a w
  | .panic c, a, w => Q (.panic c) a w
  | .outgrown, a, w => Q .outgrown a w

section
variable {P : Program} {ops : Array Oper} {Q : Exit → Act → World → Prop}

theorem wpOp_of_list {j : Nat} {o : Oper} {b : Act} {x : World} {T : Act → World → Prop} (ho : ops[j]? = some o) (h : wpList P ops (PostS T Q) [o] b x) : wpOp P ops Q j T b x := by
  unfold wpOp
  simp only [ho]
  unfold wpList at h
  exact h

/-- **What holds while a statement whose order is open is under way.** -/
theorem wp_region_inv {id : Nat} {a : Act} {w : World} (S : Array Bool → Act → World → Prop) (hm : P.follows .mixedOrders = true) (hok : seqOk ops = true) (hS : S (Array.replicate ops.size false) a w.drew)
    (step : ∀ j o, ops[j]? = some o → ∀ l b x, l.size = ops.size → l.getD j false = false → AllMet ops l j → S l b x → wpList P ops (PostS (S (l.setIfInBounds j true)) Q) [o] b x)
    (final : ∀ l b x, l.size = ops.size → (∀ k, k < ops.size → l.getD k false = true) → S l b x → Q .normal b x) : (Code.region id ops true).wp P Q a w := by
  have stuck : ∀ l : Array Bool, l.size = ops.size → Region.ready .any ops l = [] → ∀ k, k < ops.size → l.getD k false = true := by
    intro l hl hnil
    have key : ∀ n k, k < n → k < ops.size → l.getD k false = true := by
      intro n
      induction n with
      | zero => intro k hk; omega
      | succ n ihn =>
        intro k hk hks
        by_cases hlk : l.getD k false = true
        · exact hlk
        · exfalso
          have hkl : k < l.size := by omega
          have hmem : k ∈ Region.ready .any ops l := mem_ready.2 ⟨by simpa [hkl] using hlk, _, Array.getElem?_eq_getElem hks, fun e he hb => by
            have hlt := (seqOk_spec hok (Array.getElem?_eq_getElem hks)).2.1 e he hb
            exact ihn e.on (by omega) (by omega)⟩
          rw [hnil] at hmem
          cases hmem
    exact fun k hk => key (k + 1) k (by omega) hk
  have main : ∀ (fuel : Nat) (l : Array Bool) (b : Act) (x : World), l.size = ops.size → ((List.range ops.size).filter (fun k => !l.getD k true)).length ≤ fuel → S l b x → wpAny P .any ops Q fuel l b x := by
    intro fuel
    induction fuel with
    | zero =>
      intro l b x hl hf hs
      have hall : ∀ k, k < ops.size → l.getD k false = true := by
        intro k hk
        have hnil : (List.range ops.size).filter (fun k => !l.getD k true) = [] := List.length_eq_zero_iff.1 (by omega)
        have := (List.filter_eq_nil_iff.1 hnil) k (List.mem_range.2 hk)
        have hkl : k < l.size := by omega
        simpa [hkl] using this
      refine ⟨?_, final l b x hl hall hs⟩
      by_cases hr : Region.ready .any ops l = []
      · exact hr
      · obtain ⟨j, hj⟩ := List.exists_mem_of_ne_nil _ hr
        obtain ⟨hun, o, ho, _⟩ := mem_ready.1 hj
        have hjs : j < ops.size := (Array.getElem?_eq_some_iff.1 ho).1
        have := hall j hjs
        have hjl : j < l.size := by omega
        simp [hjl] at hun this
        rw [hun] at this
        cases this
    | succ fuel ih =>
      intro l b x hl hf hs
      refine ⟨fun hnil => final l b x hl (stuck l hl hnil) hs, fun j hj => ?_⟩
      obtain ⟨hun, o, ho, hedges⟩ := mem_ready.1 hj
      have hjs : j < ops.size := (Array.getElem?_eq_some_iff.1 ho).1
      have hjl : j < l.size := by omega
      have hun' : l.getD j false = false := by simpa [hjl] using hun
      have hmet : AllMet ops l j := fun o' ho' e he hb => by
        rw [ho] at ho'
        cases ho'
        exact hedges e he hb
      refine wpOp_mono (fun b' x' h' => ih _ b' x' (by rw [Array.size_setIfInBounds, hl]) ?_ h') (wpOp_of_list ho (step j o ho l b x hl hun' hmet hs))
      have := count_lt (p := fun k => !l.getD k true) (q := fun k => !(l.setIfInBounds j true).getD k true) (fun k hk => by
        by_cases hkj : j = k
        · subst hkj; simp [hun]
        · rw [getD_set_ne true hkj] at hk; exact hk) (j := j) (by simp [hun]) (by simp [hjl]) (List.mem_range.2 hjs)
      omega
  refine wp_region_any hm (main ops.size _ a w.drew (by simp) ?_ hS)
  have := List.length_filter_le (fun k => !(Array.replicate ops.size false).getD k true) (List.range ops.size)
  simpa using this
end
end Go.Proofs.Ytlbehhbicmmdoaa
