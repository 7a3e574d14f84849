/- Frames of many slots: a cut and a loop that say which slots are told anew (the kit's own nest an 'exists' for each slot: with 300 slots the kernel needs 10 s for each). No function of the program stands here. -/
import Derived.Test.YtfiofjalpaeohaaSeq
import Derived.Deep.CutBlock
namespace Go.Proofs.Ytfiofjalpaeohaa
set_option linter.unusedVariables false
set_option linter.unusedSimpArgs false
open Go.RowKit

/-- The slots that the mask names are told anew. -/
def mergeL (f : Nat → Value) : List Bool → Nat → List Value → List Value
  | true :: m, k, _ :: l => f k :: mergeL f m (k + 1) l
  | false :: m, k, v :: l => v :: mergeL f m (k + 1) l
  | [], _, l => l
  | _ :: _, _, [] => []
def mergeA (m : List Bool) (f : Nat → Value) (a : Act) : Act := ⟨(mergeL f m 0 a.tmps.toList).toArray, a.defers⟩
def slotL : List Value → Nat → Value
  | [], _ => undef
  | v :: _, 0 => v
  | _ :: l, k + 1 => slotL l k
def slotF (a : Act) (k : Nat) : Value := slotL a.tmps.toList k
theorem mergeL_self (L : List Value) : ∀ (m : List Bool) (k : Nat) (l : List Value), (∀ i, slotL L (k + i) = slotL l i) → mergeL (slotL L) m k l = l
  | true :: m, k, v :: l, h => by
    unfold mergeL
    rw [mergeL_self L m (k + 1) l (fun i => by rw [show k + 1 + i = k + (i + 1) by omega, h]; rfl)]
    have := h 0
    rw [Nat.add_zero] at this
    rw [this]; rfl
  | false :: m, k, v :: l, h => by
    unfold mergeL
    rw [mergeL_self L m (k + 1) l (fun i => by rw [show k + 1 + i = k + (i + 1) by omega, h]; rfl)]
  | [], k, l, h => by cases l <;> rfl
  | true :: m, k, [], h => rfl
  | false :: m, k, [], h => rfl
theorem mergeA_self (m : List Bool) (a : Act) : mergeA m (slotF a) a = a := by
  unfold mergeA slotF
  rw [mergeL_self a.tmps.toList m 0 a.tmps.toList (fun i => by rw [Nat.zero_add])]
section
variable {P : Program}
theorem wp_cutF {s : Code} {K : Act → World → Prop} {Q' : Exit → Act → World → Prop} {a : Act} {w : World} (m : List Bool) (R : (Nat → Value) → World → Prop)
    (rest : ∀ f w', R f w' → K (mergeA m f a) w')
    (first : ∀ (J K' : Act → World → Prop), (∀ a' w', a' = mergeA m (slotF a') a → R (slotF a') w' → J a' w') → (∀ a' w', Met J a' w' → K' a' w') → s.wp P (Exit.then K' Q') a w) : s.wp P (Exit.then K Q') a w := by
  refine wp_cut (fun a' w' => a' = mergeA m (slotF a') a ∧ R (slotF a') w') (fun a' w' h => ?_) (fun J K' h1 h2 => first J K' (fun a' w' e r => h1 a' w' ⟨e, r⟩) h2)
  rw [h.1]
  exact rest _ _ h.2
theorem wp_loopF {c : Code} {Q : Exit → Act → World → Prop} {a : Act} {w : World} (m : List Bool) (R : (Nat → Value) → World → Prop) (mu : (Nat → Value) → Nat)
    (start : R (slotF a) w)
    (round : ∀ f w', R f w' → ∀ (J K' : Act → World → Prop), (∀ a' w'', a' = mergeA m (slotF a') a → R (slotF a') w'' → mu (slotF a') < mu f → J a' w'') → (∀ a' w'', Met J a' w'' → K' a' w'') → c.wp P (Exit.then K' Q) (mergeA m f a) w') : (Code.loop c).wp P Q a w := by
  refine wp_loop (fun a' w' => ∃ f, a' = mergeA m f a ∧ R f w' ∧ mu f = mu (slotF a')) (fun a' _ => mu (slotF a')) ⟨slotF a, (mergeA_self m a).symm, start, rfl⟩ ?_
  rintro a' w' ⟨f, rfl, hR, hmu⟩
  refine wp_mono (round f w' hR (fun a'' w'' => ∃ g, (a'' = mergeA m g a ∧ R g w'' ∧ mu g = mu (slotF a'')) ∧ mu (slotF a'') < mu f) _ (fun a'' w'' e r lt => ⟨_, ⟨e, r, rfl⟩, lt⟩) (fun _ _ h => h)) ?_
  intro e a1 w1 hq
  cases e with
  | normal =>
    obtain ⟨g, h, lt⟩ := hq
    exact ⟨⟨g, h⟩, by rw [← hmu]; exact lt⟩
  | exit id => exact hq
  | goto l => exact hq
  | ret => exact hq
  | panic ch => exact hq
  | outgrown => exact hq
end
end Go.Proofs.Ytfiofjalpaeohaa
