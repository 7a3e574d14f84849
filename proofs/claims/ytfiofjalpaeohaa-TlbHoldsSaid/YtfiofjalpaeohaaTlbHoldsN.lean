/- The statement TlbHolds: its plain part. -/
import Derived.Test.YtfiofjalpaeohaaTlbTold2
import Derived.Test.YtfiofjalpaeohaaTlbFirstN
namespace Go.Proofs.Ytfiofjalpaeohaa
set_option linter.unusedVariables false
set_option linter.unusedSimpArgs false
open Go.RowKit

/-- Two lines of one key. -/
def sameK (a x : Ln) : Bool := a.id == x.id && (a.asid == x.asid && ((a.vp : Int) == (x.vp : Int)))
theorem sameK_iff (a x : Ln) : sameK a x = true ↔ a.id = x.id ∧ a.asid = x.asid ∧ a.vp = x.vp := by
  unfold sameK
  simp only [Bool.and_eq_true, beq_iff_eq]
  constructor
  · rintro ⟨a, b, c⟩; exact ⟨a, b, by omega⟩
  · rintro ⟨a, b, c⟩; exact ⟨a, b, by omega⟩
theorem sameK_comm (a x : Ln) (h : sameK a x = true) : sameK x a = true := by
  rw [sameK_iff] at h ⊢
  exact ⟨h.1.symm, h.2.1.symm, h.2.2.symm⟩
theorem keyB_same (a x : Ln) : keyB a x.id x.asid x.vp = sameK a x := by simp [keyB, sameK]
/-- The last line of a key. -/
def newI (x : Ln) : List Ln → Nat → Int → Int
  | [], _, acc => acc
  | a :: l, j, acc => newI x l (j + 1) (if sameK a x then (j : Int) else acc)
theorem newI_append (x a : Ln) : ∀ (l : List Ln) (j : Nat) (acc : Int), newI x (l ++ [a]) j acc = if sameK a x then ((j + l.length : Nat) : Int) else newI x l j acc
  | [], j, acc => by show newI x [a] j acc = _; unfold newI; rfl
  | b :: l, j, acc => by
    show newI x (b :: (l ++ [a])) j acc = _
    unfold newI
    rw [newI_append x a l (j + 1), List.length_cons, show j + 1 + l.length = j + (l.length + 1) by omega]
theorem newI_take (x a : Ln) (l : List Ln) (k : Nat) (h : l[k]? = some a) : newI x (l.take (k + 1)) 0 (-1) = if sameK a x then (k : Int) else newI x (l.take k) 0 (-1) := by
  have hk : k < l.length := (List.getElem?_eq_some_iff.1 h).1
  rw [List.take_add_one, h]
  show newI x (l.take k ++ [a]) 0 (-1) = _
  rw [newI_append, List.length_take, Nat.min_eq_left (by omega), Nat.zero_add]
structure HoldsT (n : Nat) (T : List (List Pl)) (last : List Ln) : Prop where
  place : ∀ (i : Nat) (t : List Pl) (j : Nat) (q : Pl), T[i]? = some t → t[j]? = some q → q.on = true → q.l.vp % n = i
  uniq : ∀ (i : Nat) (t : List Pl) (j k : Nat) (q r : Pl), T[i]? = some t → t[j]? = some q → t[k]? = some r → q.on = true → r.on = true → sameK q.l r.l = true → j = k
  newest : ∀ (i : Nat) (t : List Pl) (j : Nat) (q : Pl), T[i]? = some t → t[j]? = some q → q.on = true → ∃ k : Nat, newI q.l last 0 (-1) = (k : Int) ∧ last[k]? = some q.l
section
variable {n wy : Nat} {T T' : List (List Pl)} {last : List Ln}
theorem holds_start (n wy : Nat) : HoldsT n (List.replicate n (List.replicate wy pl0)) [] := by
  have off : ∀ (i : Nat) (t : List Pl) (j : Nat) (q : Pl), (List.replicate n (List.replicate wy pl0))[i]? = some t → t[j]? = some q → q.on = true → False := by
    intro i t j q h1 h2 h3
    obtain rfl := (List.mem_replicate.1 (List.mem_of_getElem? h1)).2
    obtain rfl := (List.mem_replicate.1 (List.mem_of_getElem? h2)).2
    cases h3
  exact ⟨fun i t j q a b c => (off i t j q a b c).elim, fun i t j k q r a b c d => (off i t j q a b d).elim, fun i t j q a b c => (off i t j q a b c).elim⟩
/-- Lines lost. -/
theorem holds_sub (h : HoldsT n T last) (hs : ∀ (i : Nat) (t : List Pl) (j : Nat) (q : Pl), T'[i]? = some t → t[j]? = some q → q.on = true → ∃ u, T[i]? = some u ∧ u[j]? = some q) : HoldsT n T' last := by
  refine ⟨fun i t j q a b c => ?_, fun i t j k q r a b c d e f => ?_, fun i t j q a b c => ?_⟩
  · obtain ⟨u, h1, h2⟩ := hs i t j q a b c
    exact h.place i u j q h1 h2 c
  · obtain ⟨u, h1, h2⟩ := hs i t j q a b d
    obtain ⟨u', h3, h4⟩ := hs i t k r a c e
    rw [h1] at h3
    obtain rfl := Option.some.inj h3
    exact h.uniq i u j k q r h1 h2 h4 d e f
  · obtain ⟨u, h1, h2⟩ := hs i t j q a b c
    exact h.newest i u j q h1 h2 c
theorem holds_lose (h : HoldsT n T last) (B : Ln → Bool) : HoldsT n (T.map (fun t => t.map (loseP B))) last := by
  refine holds_sub h fun i t j q a b c => ?_
  rw [List.getElem?_map] at a
  cases hT : T[i]? with
  | none => rw [hT] at a; cases a
  | some u =>
    rw [hT] at a
    obtain rfl := Option.some.inj a
    rw [List.getElem?_map] at b
    cases hu : u[j]? with
    | none => rw [hu] at b; cases b
    | some r =>
      rw [hu] at b
      obtain rfl := Option.some.inj b
      refine ⟨u, rfl, ?_⟩
      rw [hu]
      unfold loseP at c ⊢
      split at c
      · cases c
      · rename_i hno; rw [if_neg hno]
/-- What is lost is gone. -/
theorem gone_lose (B : Ln → Bool) (i : Nat) (t : List Pl) (j : Nat) (q : Pl) (a : (T.map (fun t => t.map (loseP B)))[i]? = some t) (b : t[j]? = some q) (c : q.on = true) : B q.l = false := by
  rw [List.getElem?_map] at a
  cases hT : T[i]? with
  | none => rw [hT] at a; cases a
  | some u =>
    rw [hT] at a
    obtain rfl := Option.some.inj a
    rw [List.getElem?_map] at b
    cases hu : u[j]? with
    | none => rw [hu] at b; cases b
    | some r =>
      rw [hu] at b
      obtain rfl := Option.some.inj b
      unfold loseP at c ⊢
      by_cases hno : (r.on && B r.l) = true
      · rw [if_pos hno] at c; cases c
      · rw [if_neg hno] at c ⊢
        cases hB : B r.l
        · rfl
        · rw [c, hB] at hno; exact absurd rfl hno
theorem holds_evict (h : HoldsT n T last) {i0 : Nat} {t0 : List Pl} (j0 : Nat) (ht : T[i0]? = some t0) : HoldsT n (T.set i0 (t0.set j0 pl0)) last := by
  refine holds_sub h fun i t j q a b c => ?_
  rw [List.getElem?_set] at a
  by_cases hi : i0 = i
  · subst hi
    rw [if_pos rfl] at a
    split at a
    · obtain rfl := Option.some.inj a
      rw [List.getElem?_set] at b
      by_cases hj : j0 = j
      · subst hj
        rw [if_pos rfl] at b
        split at b
        · obtain rfl := Option.some.inj b; cases c
        · cases b
      · rw [if_neg hj] at b
        exact ⟨t0, ht, b⟩
    · cases a
  · rw [if_neg hi] at a
    exact ⟨t, a, b⟩
/-- Where a key's line is, it is laid there. -/
theorem fill_same (h : HoldsT n T last) {i0 : Nat} {t : List Pl} (ht : T[i0]? = some t) (l : Ln) (way : Int) (k : Nat) (r : Pl) (hr : t[k]? = some r) (hon : r.on = true) (hs : sameK r.l l = true) : k = fillJ t l way wy := by
  rcases atP_cases l.id l.asid l.vp t 0 with ⟨a, b⟩ | ⟨j, q, a, b, c⟩
  · have := b k r hr
    rw [hon, keyB_same, hs] at this
    cases this
  · unfold fillJ
    rw [if_neg (by rw [a]; omega), a]
    have c := c.1
    rw [keyB_same, Bool.and_eq_true] at c
    have := h.uniq i0 t j k q r ht b hr c.1 hon (by
      have h1 := (sameK_iff _ _).1 c.2
      have h2 := (sameK_iff _ _).1 hs
      exact (sameK_iff _ _).2 ⟨h1.1.trans h2.1.symm, h1.2.1.trans h2.2.1.symm, h1.2.2.trans h2.2.2.symm⟩)
    omega
theorem holds_fill (h : HoldsT n T last) {i0 : Nat} {t : List Pl} (ht : T[i0]? = some t) (l : Ln) (way : Int) (hi : i0 = l.vp % n) (hJ : fillJ t l way wy < t.length) : HoldsT n (T.set i0 (t.set (fillJ t l way wy) ⟨true, l⟩)) (last ++ [l]) := by
  have hsm := fun k r => fill_same (wy := wy) h ht l way k r
  generalize fillJ t l way wy = J at *
  have hiT : i0 < T.length := (List.getElem?_eq_some_iff.1 ht).1
  -- a place is the new one, or an old one of another key
  have key : ∀ (i : Nat) (u : List Pl) (j : Nat) (q : Pl), (T.set i0 (t.set J ⟨true, l⟩))[i]? = some u → u[j]? = some q → q.on = true →
      (i = i0 ∧ j = J ∧ q = ⟨true, l⟩) ∨ (∃ u', T[i]? = some u' ∧ u'[j]? = some q ∧ sameK l q.l = false ∧ ¬ (i = i0 ∧ j = J)) := by
    intro i u j q a b c
    rw [List.getElem?_set] at a
    by_cases hi' : i0 = i
    · subst hi'
      rw [if_pos rfl, if_pos hiT] at a
      obtain rfl := Option.some.inj a
      rw [List.getElem?_set] at b
      by_cases hj : J = j
      · subst hj
        rw [if_pos rfl, if_pos hJ] at b
        exact .inl ⟨rfl, rfl, (Option.some.inj b).symm⟩
      · rw [if_neg hj] at b
        refine .inr ⟨t, ht, b, ?_, fun e => hj e.2.symm⟩
        cases hs : sameK l q.l
        · rfl
        · exact absurd (hsm j q b c (sameK_comm _ _ hs)).symm hj
    · rw [if_neg hi'] at a
      refine .inr ⟨u, a, b, ?_, fun e => hi' e.1.symm⟩
      cases hs : sameK l q.l
      · rfl
      · have h1 := h.place i u j q a b c
        have h2 := ((sameK_iff _ _).1 hs).2.2
        rw [← h2, ← hi] at h1
        exact absurd h1 hi'
  refine ⟨fun i u j q a b c => ?_, fun i u j k q r a b c d e f => ?_, fun i u j q a b c => ?_⟩
  · rcases key i u j q a b c with ⟨rfl, rfl, rfl⟩ | ⟨u', h1, h2, _⟩
    · exact hi.symm
    · exact h.place i u' j q h1 h2 c
  · rcases key i u j q a b d with ⟨rfl, rfl, rfl⟩ | ⟨u', h1, h2, h3, _⟩
    · rcases key i u k r a c e with ⟨_, rfl, rfl⟩ | ⟨v', g1, g2, g3, _⟩
      · rfl
      · rw [g3] at f; cases f
    · rcases key i u k r a c e with ⟨_, rfl, rfl⟩ | ⟨v', g1, g2, g3, _⟩
      · rw [sameK_comm _ _ f] at h3; cases h3
      · rw [h1] at g1
        obtain rfl := Option.some.inj g1
        exact h.uniq i u' j k q r h1 h2 g2 d e f
  · rcases key i u j q a b c with ⟨rfl, rfl, rfl⟩ | ⟨u', h1, h2, h3, _⟩
    · refine ⟨last.length, ?_, by simp⟩
      rw [newI_append, if_pos ((sameK_iff _ _).2 ⟨rfl, rfl, rfl⟩), Nat.zero_add]
    · obtain ⟨k, k1, k2⟩ := h.newest i u' j q h1 h2 c
      refine ⟨k, ?_, ?_⟩
      · rw [newI_append, if_neg (by rw [h3]; simp), k1]
      · rw [List.getElem?_append_left (List.getElem?_eq_some_iff.1 k2).1, k2]
/-- A line that is there is found. -/
theorem at_of (h : HoldsT n T last) {i : Nat} {t : List Pl} {j : Nat} {q : Pl} (ht : T[i]? = some t) (hq : t[j]? = some q) (hon : q.on = true) : atP q.l.id q.l.asid q.l.vp t 0 = (j : Int) := by
  rcases atP_cases q.l.id q.l.asid q.l.vp t 0 with ⟨a, b⟩ | ⟨k, r, a, b, c⟩
  · have := b j q hq
    rw [hon, keyB_same, (sameK_iff _ _).2 ⟨rfl, rfl, rfl⟩] at this
    cases this
  · have c := c.1
    rw [keyB_same, Bool.and_eq_true] at c
    have := h.uniq i t k j r q ht b hq c.1 hon c.2
    rw [a, this]; congr 1; omega
theorem at_none {t : List Pl} {kid kas : Int} {kvp : Nat} (h : ∀ (j : Nat) (q : Pl), t[j]? = some q → q.on = true → keyB q.l kid kas kvp = false) : atP kid kas kvp t 0 = -1 := by
  rcases atP_cases kid kas kvp t 0 with ⟨a, b⟩ | ⟨k, r, a, b, c⟩
  · exact a
  · have c := c.1
    rw [Bool.and_eq_true] at c
    rw [h k r b c.1] at c
    cases c.2
theorem mem_linesP : ∀ (t : List Pl) (l : Ln), l ∈ linesP t → ∃ (j : Nat) (q : Pl), t[j]? = some q ∧ q.on = true ∧ q.l = l
  | [], l, h => by cases h
  | p :: t, l, h => by
    unfold linesP at h
    by_cases hp : p.on = true
    · rw [if_pos hp] at h
      rcases List.mem_cons.1 h with rfl | h
      · exact ⟨0, p, rfl, hp, rfl⟩
      · obtain ⟨j, q, a, b⟩ := mem_linesP t l h
        exact ⟨j + 1, q, by simpa using a, b⟩
    · rw [if_neg hp] at h
      obtain ⟨j, q, a, b⟩ := mem_linesP t l h
      exact ⟨j + 1, q, by simpa using a, b⟩
theorem mem_linesT : ∀ (T : List (List Pl)) (l : Ln), l ∈ linesT T → ∃ (i : Nat) (t : List Pl) (j : Nat) (q : Pl), T[i]? = some t ∧ t[j]? = some q ∧ q.on = true ∧ q.l = l
  | [], l, h => by cases h
  | t :: T, l, h => by
    unfold linesT at h
    rcases List.mem_append.1 h with h | h
    · obtain ⟨j, q, a, b⟩ := mem_linesP t l h
      exact ⟨0, t, j, q, rfl, a, b⟩
    · obtain ⟨i, u, j, q, a, b⟩ := mem_linesT T l h
      exact ⟨i + 1, u, j, q, by simpa using a, b⟩
/-- How many lines of a set there are. -/
def cntS (n s : Nat) (L : List Ln) : Nat := (L.filter (fun l => l.vp % n == s)).length
theorem cntS_sets (n s wy : Nat) : ∀ (T : List (List Pl)) (o : Nat), (∀ (i : Nat) (t : List Pl) (j : Nat) (q : Pl), T[i]? = some t → t[j]? = some q → q.on = true → q.l.vp % n = o + i) → (∀ t ∈ T, t.length = wy) →
    cntS n s (linesT T) ≤ wy ∧ (s < o → cntS n s (linesT T) = 0)
  | [], o, _, _ => ⟨Nat.zero_le _, fun _ => rfl⟩
  | t :: T, o, h, hw => by
    have ih := cntS_sets n s wy T (o + 1) (fun i u j q a b c => by
      have := h (i + 1) u j q (by simpa using a) b c
      omega) (fun u hu => hw u (List.mem_cons_of_mem _ hu))
    have hP : ∀ l ∈ linesP t, l.vp % n = o := by
      intro l hl
      obtain ⟨j, q, a, b, rfl⟩ := mem_linesP t l hl
      have := h 0 t j q rfl a b
      omega
    have hlen : (linesP t).length ≤ wy := by
      have := linesP_len t
      have := hw t (List.mem_cons_self ..)
      omega
    have e : cntS n s (linesT (t :: T)) = cntS n s (linesP t) + cntS n s (linesT T) := by
      unfold cntS
      rw [show linesT (t :: T) = linesP t ++ linesT T from rfl, List.filter_append, List.length_append]
    by_cases ho : s = o
    · have h1 : cntS n s (linesP t) ≤ wy := by
        unfold cntS
        exact Nat.le_trans (List.length_filter_le _ _) hlen
      have h2 := ih.2 (by omega)
      exact ⟨by omega, fun hlt => by omega⟩
    · have h1 : cntS n s (linesP t) = 0 := by
        unfold cntS
        rw [List.length_eq_zero_iff, List.filter_eq_nil_iff]
        intro l hl
        rw [hP l hl]
        simp
        omega
      exact ⟨by have := ih.1; omega, fun hlt => by have := ih.2 (by omega); omega⟩
theorem cntS_take (n s i : Nat) (L : List Ln) : cntS n s (L.take i) ≤ cntS n s L := by
  unfold cntS
  exact ((List.take_sublist i L).filter _).length_le
/-- The counts so far. -/
def cntsL (n : Nat) (L : List Ln) : List Int := (List.range n).map (fun s => ((cntS n s L : Nat) : Int))
theorem cntsL_len (n : Nat) (L : List Ln) : (cntsL n L).length = n := by simp [cntsL]
theorem cntsL_get (n s : Nat) (L : List Ln) (h : s < n) : (cntsL n L)[s]? = some ((cntS n s L : Nat) : Int) := by
  unfold cntsL
  rw [List.getElem?_map, List.getElem?_range h]
  rfl
theorem cntsL_nil (n : Nat) : cntsL n [] = List.replicate n 0 := by
  apply List.ext_getElem?
  intro k
  by_cases h : k < n
  · rw [cntsL_get n k [] h, List.getElem?_replicate, if_pos h]; rfl
  · rw [List.getElem?_eq_none (by rw [cntsL_len]; omega), List.getElem?_eq_none (by simp; omega)]
theorem cntsL_step (n i : Nat) (L : List Ln) (x : Ln) (hx : L[i]? = some x) (hn : 0 < n) : (cntsL n (L.take i)).set (x.vp % n) (((cntS n (x.vp % n) (L.take i) : Nat) : Int) + 1) = cntsL n (L.take (i + 1)) ∧ cntS n (x.vp % n) (L.take (i + 1)) = cntS n (x.vp % n) (L.take i) + 1 := by
  have e : ∀ s, cntS n s (L.take (i + 1)) = cntS n s (L.take i) + if x.vp % n = s then 1 else 0 := by
    intro s
    unfold cntS
    rw [List.take_add_one, hx, List.filter_append, List.length_append]
    congr 1
    by_cases h : x.vp % n = s
    · simp [h]
    · simp [h]
  refine ⟨?_, by rw [e, if_pos rfl]⟩
  apply List.ext_getElem?
  intro k
  have hs := Nat.mod_lt x.vp hn
  rw [List.getElem?_set]
  by_cases hk : x.vp % n = k
  · rw [if_pos hk, if_pos (by rw [cntsL_len]; omega), cntsL_get n k _ (by omega), e, if_pos hk, hk]
    simp
  · rw [if_neg hk]
    by_cases hkn : k < n
    · rw [cntsL_get n k _ hkn, cntsL_get n k _ hkn, e, if_neg hk, Nat.add_zero]
    · rw [List.getElem?_eq_none (by rw [cntsL_len]; omega), List.getElem?_eq_none (by rw [cntsL_len]; omega)]
/-- All that the last loop looks at of line i. -/
theorem holds_line (h : HoldsT n T last) (hn : 0 < n) (hT : ∀ t ∈ T, t.length = wy) {i : Nat} {x : Ln} (hx : (linesT T)[i]? = some x) :
    (∃ (t : List Pl) (j : Nat) (q : Pl), T[x.vp % n]? = some t ∧ t[j]? = some q ∧ q.l = x ∧ atP x.id x.asid x.vp t 0 = (j : Int)) ∧ cntS n (x.vp % n) ((linesT T).take (i + 1)) ≤ wy ∧ ∃ k : Nat, newI x last 0 (-1) = (k : Int) ∧ last[k]? = some x := by
  obtain ⟨a, t, j, q, h1, h2, h3, rfl⟩ := mem_linesT T x (List.mem_of_getElem? hx)
  have hp := h.place a t j q h1 h2 h3
  refine ⟨⟨t, j, q, by rw [hp]; exact h1, h2, rfl, at_of h h1 h2 h3⟩, ?_, h.newest a t j q h1 h2 h3⟩
  refine Nat.le_trans (cntS_take n _ _ _) (cntS_sets n _ wy T 0 (fun i t j q a b c => ?_) hT).1
  rw [Nat.zero_add]
  exact h.place i t j q a b c
end
end Go.Proofs.Ytfiofjalpaeohaa
