/- Labels and gotos: a statement with labels, walked by what holds at each label and how often one may still jump. No function of the program stands here. -/
import Derived.Test.YtfiofjalpaeohaaBase
namespace Go.Proofs.Ytfiofjalpaeohaa
set_option linter.unusedVariables false
set_option linter.unusedSimpArgs false
open Go.RowKit

/-- A jump to a label, else Q. -/
def toLabel (R : Nat → Act → World → Prop) (Q : Exit → Act → World → Prop) : Exit → Act → World → Prop
  | .goto l, a, w => R l a w
  | e, a, w => Q e a w

theorem wp_scope_labels {P : Program} {c : Code} {a : Act} {w : World} {Q : Exit → Act → World → Prop} (J : Nat → Nat → Act → World → Prop)
    (first : c.wp P (toLabel (fun l a w => ∃ k, J l k a w) Q) a w)
    (pass : ∀ l k a w, J l k a w → ∃ rest, findLabel c l = some rest ∧ rest.wp P (toLabel (fun l' a' w' => ∃ j, j < k ∧ J l' j a' w') Q) a w) : (Code.scope c).wp P Q a w := by
  intro b k cs
  have key : ∀ n l a w, J l n a w → ∃ rest, findLabel c l = some rest ∧ ∃ e a' w', Q e a' w' ∧ Arrives P (lone (b.at a (.code rest :: .inScope c :: k)) cs w) b k cs e a' w' := by
    intro n
    induction n using Nat.strongRecOn with
    | _ n ih =>
      intro l a w hJ
      obtain ⟨rest, hf, hw⟩ := pass l n a w hJ
      refine ⟨rest, hf, ?_⟩
      obtain ⟨e, a₁, w₁, hq, harr⟩ := hw b (.inScope c :: k) cs
      cases e with
      | normal => exact ⟨.normal, a₁, w₁, hq, Steps.trans harr (.one step_inScope)⟩
      | exit id => exact ⟨.exit id, a₁, w₁, hq, fun k' hk => harr k' (by simp [exitTo, hk])⟩
      | goto l' =>
        obtain ⟨j, hlt, hJ'⟩ := hq
        obtain ⟨rest', hf', e₂, a₂, w₂, hq₂, harr₂⟩ := ih j hlt l' a₁ w₁ hJ'
        have hg : gotoIn l' (.inScope c :: k) = some (.code rest' :: .inScope c :: k) := by simp [gotoIn, hf']
        exact ⟨e₂, a₂, w₂, hq₂, .of_steps (harr _ hg) harr₂⟩
      | ret => exact ⟨_, a₁, w₁, hq, harr⟩
      | panic ch => exact ⟨_, a₁, w₁, hq, harr⟩
      | outgrown => exact ⟨_, a₁, w₁, hq, harr⟩
  obtain ⟨e, a₁, w₁, hq, harr⟩ := first b (.inScope c :: k) cs
  cases e with
  | normal => exact ⟨.normal, a₁, w₁, hq, .head step_scope (Steps.trans harr (.one step_inScope))⟩
  | exit id => exact ⟨.exit id, a₁, w₁, hq, fun k' hk => .head step_scope (harr k' (by simp [exitTo, hk]))⟩
  | goto l' =>
    obtain ⟨n, hJ'⟩ := hq
    obtain ⟨rest', hf', e₂, a₂, w₂, hq₂, harr₂⟩ := key n l' a₁ w₁ hJ'
    have hg : gotoIn l' (.inScope c :: k) = some (.code rest' :: .inScope c :: k) := by simp [gotoIn, hf']
    exact ⟨e₂, a₂, w₂, hq₂, .of_steps (.head step_scope (harr _ hg)) harr₂⟩
  | ret => exact ⟨_, a₁, w₁, hq, .of_steps (.one step_scope) harr⟩
  | panic ch => exact ⟨_, a₁, w₁, hq, .of_steps (.one step_scope) harr⟩
  | outgrown => exact ⟨_, a₁, w₁, hq, .of_steps (.one step_scope) harr⟩

theorem toLabel_mono {R R' : Nat → Act → World → Prop} {Q : Exit → Act → World → Prop} (h : ∀ l a w, R l a w → R' l a w) (e : Exit) (a : Act) (w : World) (hq : toLabel R Q e a w) : toLabel R' Q e a w := by
  cases e <;> first | exact h _ _ _ hq | exact hq
/-- One label: what stands behind it is walked once, for the jumps and for the way that comes to it from above. -/
theorem wp_scope_once {P : Program} {c : Code} {a : Act} {w : World} {Q : Exit → Act → World → Prop} (l : Nat) (J : Nat → Act → World → Prop) (rest : Code) (hf : findLabel c l = some (Code.skip.seq rest))
    (pass : ∀ k a w, J k a w → rest.wp P (toLabel (fun l' a' w' => l' = l ∧ ∃ j, j < k ∧ J j a' w') Q) a w)
    (first : (∀ k a w, J k a w → rest.wp P (toLabel (fun l' a' w' => ∃ j, l' = l ∧ J j a' w') Q) a w) → c.wp P (toLabel (fun l' a w => ∃ k, l' = l ∧ J k a w) Q) a w) : (Code.scope c).wp P Q a w := by
  refine wp_scope_labels (fun l' k a w => l' = l ∧ J k a w) (first fun k a w h => ?_) ?_
  · exact wp_mono (pass k a w h) (fun e a w => toLabel_mono (fun l' a w ⟨hl, j, _, hj⟩ => ⟨j, hl, hj⟩) e a w)
  · rintro l' k a w ⟨rfl, h⟩
    exact ⟨_, hf, wp_seq (wp_skip (wp_mono (pass k a w h) (fun e a w => toLabel_mono (fun l' a w ⟨hl, j, hlt, hj⟩ => ⟨j, hlt, hl, hj⟩) e a w)))⟩
end Go.Proofs.Ytfiofjalpaeohaa
