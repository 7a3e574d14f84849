/- Rows that a call has made, of elements of any size: what keeps them, and an append of one element. No function of the program stands here. -/
import Derived.Test.YtfiofjalpaeohaaMark
namespace Go.Proofs.Ytfiofjalpaeohaa
set_option linter.unusedVariables false
set_option linter.unusedSimpArgs false
open Go.RowKit

theorem own_only {F : Nat → Prop} {w w' : World} {B : Nat} {e : TypeId} {s n : Nat} {v : Value} {xs : List Value} (h : w.ownsRow B e s v n xs) (ho : Only F w w') (hF : ∀ b, B ≤ b → ¬ F b) : w'.ownsRow B e s v n xs := by
  refine ⟨h.1, ?_⟩
  rcases h.2 with h' | ⟨g, cap, cur, h', hb, hg, rest⟩
  · exact .inl h'
  · exact .inr ⟨g, cap, cur, h', hb, keep_only ho (hF g hb) hg, rest⟩
theorem own_old {w w' : World} {B : Nat} {e : TypeId} {s n : Nat} {v : Value} {xs : List Value} (h : w.ownsRow B e s v n xs) (ho : Old w w') : w'.ownsRow B e s v n xs :=
  own_only h (Only.of_below ho) (fun _ _ f => f)
theorem news_block (w : World) (l : List Value) (t : TypeId) (b : Nat) (hb : b = w.heap.size) : ∀ (j : Nat) (u : Value), l[j]? = some u → (w.alloc (.cells l.toArray t)).cell? ((⟨b, 0, none⟩ : Addr).add j) = some u := by
  subst hb
  intro j u hu
  rw [add_eq _ _ rfl, cell_of (new_block _ _)]
  simpa using hu
/-- What an append leaves, told by blocks. -/
theorem grown_only {w w' : World} {row : Option Nat} (h : w.grownBy w' row) : Only (fun b => some b = row) w w' :=
  ⟨h.os, h.tape, h.output, h.size, fun k hk hF => h.block k hk (fun e => hF e)⟩
theorem own_nil {w : World} {B : Nat} {e : TypeId} {s : Nat} : w.ownsRow B e s (.slice none 0 0) 0 [] := World.ownsRow_nil _ _ _ _
/-- A row's value. -/
theorem own_value {w : World} {B : Nat} {e : TypeId} {s n : Nat} {v : Value} {xs : List Value} (h : w.ownsRow B e s v n xs) : ∃ ad c, v = .slice ad n c ∧ n ≤ c ∧ c ≤ maxLen ∧ (∀ bb off, ad = some ⟨bb, off, none⟩ → off = 0 ∧ B ≤ bb ∧ bb < w.heap.size) ∧ (0 < n → ∃ g, ad = some ⟨g, 0, none⟩) := by
  rcases h.2 with ⟨rfl, rfl⟩ | ⟨g, cap, cur, rfl, hb, hg, hnc, hcm, _⟩
  · exact ⟨none, 0, rfl, Nat.le_refl _, Nat.zero_le _, (fun _ _ e => by cases e), fun f => absurd f (Nat.lt_irrefl _)⟩
  · exact ⟨some ⟨g, 0, none⟩, cap, rfl, hnc, hcm, (fun _ _ e => by cases e; exact ⟨rfl, hb, lt_of_block hg⟩), fun _ => ⟨g, rfl⟩⟩
/-- A row's cell. -/
theorem own_cell {w : World} {B : Nat} {e : TypeId} {s n c : Nat} {ad : Option Addr} {xs : List Value} (h : w.ownsRow B e s (.slice ad n c) n xs) {g off : Nat} (ha : ad = some ⟨g, off, none⟩) (j : Nat) {u : Value} (hu : xs[j]? = some u) : w.cell? ⟨g, j, none⟩ = some u := by
  rcases h.2 with ⟨e', h0⟩ | ⟨g', cap, cur, e', hb, hg, hnc, hcm, hcs, ht⟩
  · subst ha; cases e'
  · subst ha
    simp only [Value.slice.injEq, Option.some.injEq, Addr.mk.injEq, and_true, true_and] at e'
    obtain ⟨⟨rfl, rfl⟩, rfl⟩ := e'
    have hj : j < n * s := by rw [← h.1]; exact (List.getElem?_eq_some_iff.1 hu).1
    rw [← hu, ← ht, List.getElem?_take, if_pos hj]
    show _ = _
    rw [World.cell?, hg]
    simp
end Go.Proofs.Ytfiofjalpaeohaa
