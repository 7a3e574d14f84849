/- Layer 15, plain: the places of all sets in one list. No program. -/
import Derived.Test.YtfiofjalpaeohaaTlbUse
namespace Go.Proofs.Ytfiofjalpaeohaa
set_option linter.unusedVariables false
set_option linter.unusedSimpArgs false
open Go.RowKit

theorem flat_get {α : Type} (wy : Nat) : ∀ (T : List (List α)), (∀ t ∈ T, t.length = wy) → ∀ (i : Nat) (t : List α) (j : Nat) (q : α), T[i]? = some t → t[j]? = some q → T.flatten[i * wy + j]? = some q
  | [], _, i, t, j, q, h, _ => by simp at h
  | u :: T, hT, 0, t, j, q, h, hq => by
    simp at h; subst h
    rw [List.flatten_cons, Nat.zero_mul, Nat.zero_add, List.getElem?_append_left (List.getElem?_eq_some_iff.1 hq).1]
    exact hq
  | u :: T, hT, i + 1, t, j, q, h, hq => by
    have hu := hT u (List.mem_cons_self ..)
    rw [List.flatten_cons, List.getElem?_append_right (by rw [hu, Nat.add_mul]; omega), hu, show (i + 1) * wy + j - wy = i * wy + j by rw [Nat.add_mul]; omega]
    exact flat_get wy T (fun t ht => hT t (List.mem_cons_of_mem _ ht)) i t j q (by simpa using h) hq

theorem flat_inv {α : Type} (wy : Nat) : ∀ (T : List (List α)), (∀ t ∈ T, t.length = wy) → ∀ (k : Nat) (q : α), T.flatten[k]? = some q → ∃ (i : Nat) (t : List α) (j : Nat), T[i]? = some t ∧ t[j]? = some q ∧ k = i * wy + j
  | [], _, k, q, h => by simp at h
  | u :: T, hT, k, q, h => by
    have hu := hT u (List.mem_cons_self ..)
    rw [List.flatten_cons] at h
    by_cases hk : k < wy
    · rw [List.getElem?_append_left (by rw [hu]; exact hk)] at h
      exact ⟨0, u, k, rfl, h, by omega⟩
    · rw [List.getElem?_append_right (by rw [hu]; omega), hu] at h
      obtain ⟨i, t, j, a, b, c⟩ := flat_inv wy T (fun t ht => hT t (List.mem_cons_of_mem _ ht)) (k - wy) q h
      exact ⟨i + 1, t, j, by simpa using a, b, by rw [Nat.add_mul]; omega⟩

theorem flat_len {α : Type} (wy : Nat) : ∀ (T : List (List α)), (∀ t ∈ T, t.length = wy) → T.flatten.length = T.length * wy
  | [], _ => by simp
  | u :: T, hT => by
    have hu := hT u (List.mem_cons_self ..)
    rw [List.flatten_cons, List.length_append, flat_len wy T (fun t ht => hT t (List.mem_cons_of_mem _ ht)), hu, List.length_cons, Nat.add_mul]; omega

theorem flat_set {α : Type} (wy : Nat) : ∀ (T : List (List α)), (∀ t ∈ T, t.length = wy) → ∀ (i : Nat) (t : List α) (j : Nat) (q : α), T[i]? = some t → j < wy → (T.set i (t.set j q)).flatten = T.flatten.set (i * wy + j) q
  | [], _, i, t, j, q, h, _ => by simp at h
  | u :: T, hT, 0, t, j, q, h, hj => by
    have hu := hT u (List.mem_cons_self ..)
    simp at h; subst h
    rw [List.set_cons_zero, List.flatten_cons, List.flatten_cons, Nat.zero_mul, Nat.zero_add, List.set_append_left _ _ (by rw [hu]; exact hj)]
  | u :: T, hT, i + 1, t, j, q, h, hj => by
    have hu := hT u (List.mem_cons_self ..)
    rw [List.set_cons_succ, List.flatten_cons, List.flatten_cons, List.set_append_right _ _ (by rw [hu, Nat.add_mul]; omega), hu, show (i + 1) * wy + j - wy = i * wy + j by rw [Nat.add_mul]; omega,
      flat_set wy T (fun t ht => hT t (List.mem_cons_of_mem _ ht)) i t j q (by simpa using h) hj]

theorem linesP_append : ∀ (a b : List Pl), linesP (a ++ b) = linesP a ++ linesP b
  | [], b => rfl
  | q :: a, b => by
    simp only [List.cons_append, linesP, linesP_append a b]
    split <;> simp
theorem flat_lines : ∀ (T : List (List Pl)), linesP T.flatten = linesT T
  | [] => rfl
  | t :: T => by rw [List.flatten_cons, linesP_append, flat_lines T]; rfl
theorem cntP_append (B : Ln → Bool) : ∀ (a b : List Pl), cntP B (a ++ b) = cntP B a + cntP B b
  | [], b => by simp [cntP]
  | q :: a, b => by
    have := cntP_append B a b
    simp only [List.cons_append, cntP]
    omega
theorem flat_cnt (B : Ln → Bool) : ∀ (T : List (List Pl)), cntP B T.flatten = cntT B T
  | [] => rfl
  | t :: T => by rw [List.flatten_cons, cntP_append, flat_cnt B T]; rfl
theorem flat_map (B : Ln → Bool) : ∀ (T : List (List Pl)), (T.map (fun t => t.map (loseP B))).flatten = T.flatten.map (loseP B)
  | [] => rfl
  | t :: T => by rw [List.map_cons, List.flatten_cons, List.flatten_cons, List.map_append, flat_map B T]

/-- Each line stands in its set. -/
def Placed (n : Nat) (T : List (List Pl)) : Prop := ∀ (i : Nat) (t : List Pl) (j : Nat) (q : Pl), T[i]? = some t → t[j]? = some q → q.on = true → q.l.vp % n = i

section
variable {n wy : Nat} {T : List (List Pl)} {kid kas : Int} {kvp i0 : Nat} {t : List Pl}
theorem key_vp {l : Ln} (h : keyB l kid kas kvp = true) : l.vp = kvp := by
  simp [keyB] at h
  omega
theorem atP_none {t : List Pl} (i : Nat) (h : ∀ (j : Nat) (q : Pl), t[j]? = some q → (q.on && keyB q.l kid kas kvp) = false) : atP kid kas kvp t i = -1 := by
  rcases atP_cases kid kas kvp t i with ⟨a, _⟩ | ⟨j, q, _, b, c, _⟩
  · exact a
  · rw [h j q b] at c; exact absurd c (by decide)
/-- The place of a key among all is its place in its set. -/
theorem flat_at (hT : ∀ t ∈ T, t.length = wy) (hp : Placed n T) (hi : i0 = kvp % n) (ht : T[i0]? = some t) :
    (atP kid kas kvp T.flatten 0 = -1 ∧ atP kid kas kvp t 0 = -1) ∨ ∃ (j : Nat) (q : Pl), atP kid kas kvp t 0 = (j : Int) ∧ t[j]? = some q ∧ atP kid kas kvp T.flatten 0 = ((i0 * wy + j : Nat) : Int) := by
  have htw := hT t (List.mem_of_getElem? ht)
  rcases atP_cases kid kas kvp T.flatten 0 with ⟨a, b⟩ | ⟨k, q, a, b, c, d⟩
  · refine .inl ⟨a, atP_none 0 fun j q hq => b _ q (flat_get wy T hT i0 t j q ht hq)⟩
  · obtain ⟨i, u, j, e1, e2, e3⟩ := flat_inv wy T hT k q b
    have hon : q.on = true := by simp at c; exact c.1
    have hv : q.l.vp = kvp := key_vp (kid := kid) (kas := kas) (by simp at c; exact c.2)
    have hii : i = i0 := by rw [hi, ← hv]; exact (hp i u j q e1 e2 hon).symm
    subst hii
    have e4 : u = t := by rw [ht] at e1; exact (Option.some.inj e1).symm
    subst e4
    rcases atP_cases kid kas kvp u 0 with ⟨a', b'⟩ | ⟨j', q', a', b', c', d'⟩
    · rw [b' j q e2] at c; exact absurd c (by decide)
    · have h1 : j' ≤ j := by
        rcases Nat.lt_or_ge j j' with h | h
        · rw [d' j q h e2] at c; exact absurd c (by decide)
        · exact h
      have h2 : j ≤ j' := by
        rcases Nat.lt_or_ge j' j with h | h
        · rw [d (i * wy + j') q' (by omega) (flat_get wy T hT i u j' q' e1 b')] at c'; exact absurd c' (by decide)
        · exact h
      have h3 : j' = j := by omega
      subst h3
      exact .inr ⟨j', q', by rw [a']; simp, b', by rw [a, e3]; simp⟩
theorem placed_set (hp : Placed n T) (ht : T[i0]? = some t) (j0 : Nat) (x : Pl) (hx : x.on = true → x.l.vp % n = i0) : Placed n (T.set i0 (t.set j0 x)) := by
  intro i u j q hu hq hon
  rw [List.getElem?_set] at hu
  by_cases hi : i0 = i
  · subst hi
    rw [if_pos rfl] at hu
    split at hu
    · obtain rfl := Option.some.inj hu
      rw [List.getElem?_set] at hq
      by_cases hj : j0 = j
      · subst hj
        rw [if_pos rfl] at hq
        split at hq
        · obtain rfl := Option.some.inj hq; exact hx hon
        · exact absurd hq (by simp)
      · rw [if_neg hj] at hq; exact hp i0 t j q ht hq hon
    · exact absurd hu (by simp)
  · rw [if_neg hi] at hu; exact hp i u j q hu hq hon
theorem placed_lose (hp : Placed n T) (B : Ln → Bool) : Placed n (T.map (fun t => t.map (loseP B))) := by
  intro i u j q hu hq hon
  rw [List.getElem?_map] at hu
  obtain ⟨v, hv, rfl⟩ := Option.map_eq_some_iff.1 hu
  rw [List.getElem?_map] at hq
  obtain ⟨r, hr, rfl⟩ := Option.map_eq_some_iff.1 hq
  unfold loseP at hon ⊢
  split
  · rename_i h; rw [if_pos h] at hon; exact absurd hon (by decide)
  · rename_i h; rw [if_neg h] at hon; exact hp i v j r hv hr hon
theorem placed_new (n wy : Nat) : Placed n (List.replicate n (List.replicate wy pl0)) := by
  intro i t j q ht hq hon
  obtain rfl := List.eq_of_mem_replicate (List.mem_of_getElem? ht)
  obtain rfl := List.eq_of_mem_replicate (List.mem_of_getElem? hq)
  exact absurd hon (by decide)
/-- Where the document lays a line. -/
def fillK (F : List Pl) (t : List Pl) (i0 : Nat) (l : Ln) (way : Int) (wy : Nat) : Int :=
  if atP l.id l.asid l.vp F 0 = -1 then (if freeP t 0 = -1 then (i0 * wy + wayJ way wy : Nat) else (i0 * wy : Nat) + freeP t 0) else atP l.id l.asid l.vp F 0
theorem flat_fill (hT : ∀ t ∈ T, t.length = wy) (hp : Placed n T) (l : Ln) (way : Int) (hi : i0 = l.vp % n) (ht : T[i0]? = some t) : fillK T.flatten t i0 l way wy = ((i0 * wy + fillJ t l way wy : Nat) : Int) := by
  unfold fillK fillJ
  rcases flat_at (kid := l.id) (kas := l.asid) hT hp hi ht with ⟨a, b⟩ | ⟨j, q, a, b, c⟩
  · rw [if_pos a, if_pos b]
    rcases freeP_cases t 0 with ⟨c, _⟩ | ⟨j, q, c, d, _⟩
    · rw [if_pos c, if_pos c]
    · rw [c, if_neg (by omega), if_neg (by omega)]; simp
  · rw [a, c, if_neg (by omega), if_neg (by omega)]; simp
end
end Go.Proofs.Ytfiofjalpaeohaa
