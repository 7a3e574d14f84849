/- The statement VmidPlays: both packages answer alike, call by call. -/
import Derived.Test.YtbnbchclbblbkaaVmidPlays
import Derived.Test.YtbnbchclbblbkaaVmid2
namespace Go.Proofs.Ytbnbchclbblbkaa
set_option linter.unusedVariables false
set_option linter.unusedSimpArgs false
open Go.RowKit

/-- No owner is greater than 255. -/
def Small (own : List Int) : Prop := ∀ (i : Nat) (x : Int), own[i]? = some x → x ≤ 255

theorem small_set {own : List Int} (h : Small own) (i : Nat) (v : Int) (hv : v ≤ 255) : Small (own.set i v) := by
  intro j x hx
  rw [List.getElem?_set] at hx
  split at hx
  · split at hx
    · have := Option.some.inj hx; omega
    · cases hx
  · exact h j x hx
theorem small_zero (n : Nat) : Small (List.replicate n 0) := by
  intro j x hx
  rw [List.getElem?_replicate] at hx
  split at hx
  · have := Option.some.inj hx; omega
  · cases hx

theorem none_small {own : List Int} (h : Small own) (g : Int) (hg : 255 < g) : ∀ j : Nat, own[j]? ≠ some g := by
  intro j e
  have := h j g e
  omega

theorem same_cases {n q : Nat} {of own : List Int} (h : Same n q of own) (g : Nat) (h2 : g ≤ 255) : of[g]? = some 0 ∨ ∃ i : Nat, of[g]? = some ((i : Int) + 1) := by
  obtain ⟨x, hx⟩ : ∃ x, of[g]? = some x := ⟨_, List.getElem?_eq_getElem (by rw [h.1]; omega)⟩
  have := h.2.2.2.2.1 g x hx
  by_cases h0 : x = 0
  · subst h0; exact .inl hx
  · exact .inr ⟨(x - 1).toNat, by rw [hx]; congr 1; omega⟩

theorem both_has {n q : Nat} {t : Int} {of own : List Int} (hS : Same n q of own) (hs : Small own) (g : Int) :
    ∃ (id : Int) (y : Bool), (∀ (x : World) (p : Nat), IsIDs x p n q t of → Calls Try.prog 29 #[.pointer (some ⟨p, 0, none⟩), .int .i64 g] x (RetB x (.tuple #[.int .i64 id, .bool y]))) ∧
      ∀ (x : World) (r a : Nat), IsRef x r a n q t own → Calls Try.prog 30 #[.pointer (some ⟨r, 0, none⟩), .int .i64 g] x (RetB x (.tuple #[.int .i64 id, .bool y])) := by
  by_cases hg : 1 ≤ g ∧ g ≤ 255
  · obtain ⟨k, hk⟩ : ∃ k : Nat, g = k := ⟨g.toNat, by omega⟩
    rcases same_cases hS k (by omega) with hx | ⟨i, hx⟩
    · refine ⟨0, false, fun x p hI => has_int g k hk p _ _ _ _ 0 _ hI (by omega) (by omega) hx, fun x r a hI => refHas_no r a n q t own g x hI (by omega) ?_⟩
      rw [hk]; exact same_none hS (by omega) (by omega) hx
    · refine ⟨(i : Int) + 1, true, fun x p hI => ?_, fun x r a hI => refHas_yes r a n q t own g i x hI (by omega) ?_⟩
      · have := has_int g k hk p _ _ _ _ ((i : Int) + 1) _ hI (by omega) (by omega) hx
        rwa [show ((i : Int) + 1 != 0) = true by rw [bne_iff_ne]; omega] at this
      · rw [hk]; exact same_owns hS (by omega) (by omega) hx
  · refine ⟨0, false, fun x p hI => has_none p g x hg, fun x r a hI => ?_⟩
    by_cases h0 : 0 < g
    · exact refHas_no r a n q t own g x hI h0 (none_small hs g (by omega))
    · exact refHas_nonpos r a n q t own g x hI h0

theorem both_drop {n q : Nat} {t : Int} {of own : List Int} (hS : Same n q of own) (hs : Small own) (g : Int) :
    ∃ (y : Bool) (of' own' : List Int), Same n q of' own' ∧ Small own' ∧
      (∀ (x : World) (p : Nat), IsIDs x p n q t of → Calls Try.prog 27 #[.pointer (some ⟨p, 0, none⟩), .int .i64 g] x (RetIDs x p (.bool y) n q t of')) ∧
      ∀ (x : World) (r a : Nat), IsRef x r a n q t own → Calls Try.prog 28 #[.pointer (some ⟨r, 0, none⟩), .int .i64 g] x (RetRef x r a (.bool y) a n q t own') := by
  by_cases hg : 1 ≤ g ∧ g ≤ 255
  · obtain ⟨k, hk⟩ : ∃ k : Nat, g = k := ⟨g.toNat, by omega⟩
    rcases same_cases hS k (by omega) with hx | ⟨i, hx⟩
    · refine ⟨false, of, own, hS, hs, fun x p hI => ?_, fun x r a hI => refDrop_no r a n q t own g x hI (by omega) ?_⟩
      · have := drop_int g k hk p _ _ _ _ 0 _ hI (by omega) (by omega) hx
        rwa [set_same hx] at this
      · rw [hk]; exact same_none hS (by omega) (by omega) hx
    · refine ⟨true, of.set k 0, own.set i 0, same_drop hS (by omega) (by omega) hx, small_set hs _ _ (by omega), fun x p hI => ?_, fun x r a hI => refDrop_yes r a n q t own g i x hI (by omega) ?_⟩
      · have := drop_int g k hk p _ _ _ _ ((i : Int) + 1) _ hI (by omega) (by omega) hx
        rwa [show ((i : Int) + 1 != 0) = true by rw [bne_iff_ne]; omega] at this
      · rw [hk]; exact same_owns hS (by omega) (by omega) hx
  · refine ⟨false, of, own, hS, hs, fun x p hI => drop_none p n q t of g x hI hg, fun x r a hI => ?_⟩
    by_cases h0 : 0 < g
    · exact refDrop_no r a n q t own g x hI h0 (none_small hs g (by omega))
    · exact refDrop_nonpos r a n q t own g x hI h0

theorem both_get {n q : Nat} {t : Int} {of own : List Int} (hS : Same n q of own) (hs : Small own) (h1 : 1 ≤ n) (h255 : n ≤ 255) (ht0 : 0 ≤ t) (ht : t < 4611686018427387904) (g : Int) :
    ∃ (id : Int) (y : Bool) (e : Int) (q' : Nat) (t' : Int) (of' own' : List Int), Same n q' of' own' ∧ Small own' ∧ t ≤ t' ∧ t' ≤ t + 1 ∧
      (∀ (x : World) (p : Nat), IsIDs x p n q t of → Calls Try.prog 25 #[.pointer (some ⟨p, 0, none⟩), .int .i64 g] x (RetIDs x p (.tuple #[.int .i64 id, .bool y, .int .i64 e]) n q' t' of')) ∧
      ∀ (x : World) (r a : Nat), IsRef x r a n q t own → Calls Try.prog 26 #[.pointer (some ⟨r, 0, none⟩), .int .i64 g] x (fun en x' => ∃ a', RetRef x r a (.tuple #[.int .i64 id, .bool y, .int .i64 e]) a' n q' t' own' en x') := by
  by_cases hg : 1 ≤ g ∧ g ≤ 255
  · obtain ⟨k, hk⟩ : ∃ k : Nat, g = k := ⟨g.toNat, by omega⟩
    rcases same_cases hS k (by omega) with hx | ⟨i, hx⟩
    · have hq := hS.2.2.1
      by_cases hqn : q < n
      · refine ⟨(q : Int) + 1, false, 0, q + 1, t, of.set k ((q : Int) + 1), own.set q k, same_new hS (by omega) (by omega) hx hqn, small_set hs _ _ (by omega), by omega, by omega, fun x p hI => ?_, fun x r a hI => ?_⟩
        · exact get_int g k hk p n q t of x ((q : Int) + 1, false, (q : Int) + 1, t, of.set k ((q : Int) + 1)) hI (by omega) (by omega) (by omega) ht0 ht (.inr (.inl ⟨hx, by omega, by omega, by omega, rfl⟩))
        · have := refGet_new r a n q t own g x hI (by omega) (by omega) (by rw [hk]; exact same_none hS (by omega) (by omega) hx) hqn
          rw [hk] at this ⊢
          exact this.mono fun e w' h => ⟨a, h⟩
      · have hqe : q = n := by omega
        subst hqe
        have hno : ∀ j : Nat, own[j]? ≠ some g := by rw [hk]; exact same_none hS (by omega) (by omega) hx
        refine ⟨0 + 1, true, 0, 0 + 1, t + 1, zeros256.set k (0 + 1), (List.replicate q 0).set 0 k, ?_, small_set (small_zero q) _ _ (by omega), by omega, by omega, fun x p hI => ?_, fun x r a hI => ?_⟩
        · have := same_new (same_first q) (show 1 ≤ k by omega) (by omega) (zeros_get k (by omega)) (by omega)
          exact this
        · exact get_int g k hk p q q t of x (0 + 1, true, 0 + 1, t + 1, zeros256.set k (0 + 1)) hI (by omega) (by omega) (by omega) ht0 ht (.inr (.inr ⟨hx, by omega, by omega, rfl⟩))
        · have := refGet_roll r a q t own g x hI (by omega) (by omega) hno (by omega) ht0 ht
          rw [hk] at this ⊢
          exact this
    · refine ⟨(i : Int) + 1, false, 0, q, t, of, own, hS, hs, by omega, by omega, fun x p hI => ?_, fun x r a hI => ?_⟩
      · exact get_int g k hk p n q t of x ((i : Int) + 1, false, q, t, of) hI (by omega) (by omega) (by omega) ht0 ht (.inl ⟨(i : Int) + 1, by omega, hx, rfl⟩)
      · have := refGet_has r a n q t own g i x hI (by omega) (by omega) (by rw [hk]; exact same_owns hS (by omega) (by omega) hx)
        exact this.mono fun e w' h => ⟨a, h⟩
  · refine ⟨0, false, 1, q, t, of, own, hS, hs, by omega, by omega, fun x p hI => ?_, fun x r a hI => ?_⟩
    · refine (get_none p g x hg).mono fun e w' h => ⟨h.1, ids_old h.2 hI, (Only.of_below h.2).mono (fun i _ h => h.elim)⟩
    · exact (refGet_none r a n q t own g x hI hg).mono fun e w' h => ⟨a, h⟩

/-- Both, the numbers in block p, the document's in r and a. -/
def PlayAt (n p r a : Nat) (w : World) (q : Nat) (t : Int) (of : List Int) (q2 : Nat) (t2 : Int) (own : List Int) (x : World) : Prop :=
  IsIDs x p n q t of ∧ IsRef x r a n q2 t2 own ∧ Old w x ∧ w.heap.size ≤ p ∧ w.heap.size ≤ r ∧ w.heap.size ≤ a ∧ p ≠ r ∧ p ≠ a

section
variable {n p r a : Nat} {w x y : World} {q : Nat} {t : Int} {of : List Int} {q2 : Nat} {t2 : Int} {own : List Int}

theorem play_old (h : PlayAt n p r a w q t of q2 t2 own x) (ho : Old x y) : PlayAt n p r a w q t of q2 t2 own y :=
  ⟨ids_old ho h.1, ref_old ho h.2.1, old_then h.2.2.1 ho, h.2.2.2⟩
theorem play_drew (h : PlayAt n p r a w q t of q2 t2 own x) : PlayAt n p r a w q t of q2 t2 own x.drew := play_old h (old_drew (old_refl _))
/-- The numbers were turned. -/
theorem play_ids {q' : Nat} {t' : Int} {of' : List Int} {v : Value} {e : Ending} (h : PlayAt n p r a w q t of q2 t2 own x) (hR : RetIDs x p v n q' t' of' e y) : PlayAt n p r a w q' t' of' q2 t2 own y := by
  obtain ⟨h1, ⟨h2, h3, h4⟩, h5, h6, h7, h8, h9, hA⟩ := h
  obtain ⟨_, hI, ho⟩ := hR
  exact ⟨hI, ⟨keep_only ho (fun e => h9 e.symm) h2, keep_only ho (fun e => hA e.symm) h3, h4⟩, old_only h5 ho h6, h6, h7, h8, h9, hA⟩
/-- The document's were turned. -/
theorem play_ref {a' q' : Nat} {t' : Int} {own' : List Int} {v : Value} {e : Ending} (h : PlayAt n p r a w q t of q2 t2 own x) (hR : RetRef x r a v a' n q' t' own' e y) : PlayAt n p r a' w q t of q' t' own' y := by
  obtain ⟨h1, h2, h5, h6, h7, h8, h9, hA⟩ := h
  obtain ⟨_, hI, ho, ha⟩ := hR
  have hp := lt_of_block h1.1
  have hw := h5.size
  refine ⟨⟨keep_only ho (by omega) h1.1, h1.2⟩, hI, ?_, h6, h7, by omega, h9, by omega⟩
  exact ⟨ho.os.trans h5.os, ho.tape.trans h5.tape, ho.output.trans h5.output, Nat.le_trans h5.size ho.size, fun k hk => by
    rw [ho.block k (Nat.lt_of_lt_of_le hk h5.size) (by omega)]; exact h5.block k hk⟩
end
end Go.Proofs.Ytbnbchclbblbkaa
