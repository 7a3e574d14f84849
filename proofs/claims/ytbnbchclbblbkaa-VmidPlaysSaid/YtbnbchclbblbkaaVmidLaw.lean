/- The statements of layer 16: what all of them use. -/
import Derived.Test.YtbnbchclbblbkaaVmid
import Derived.Test.YtbnbchclbblbkaaBits
namespace Go.Proofs.Ytbnbchclbblbkaa
set_option linter.unusedVariables false
set_option linter.unusedSimpArgs false
open Go.RowKit

theorem old_only {w x y : World} {p : Nat} (h : Old w x) (ho : Only (fun k => k = p) x y) (hp : w.heap.size ≤ p) : Old w y :=
  ⟨ho.os.trans h.os, ho.tape.trans h.tape, ho.output.trans h.output, Nat.le_trans h.size ho.size, fun k hk => by
    rw [ho.block k (Nat.lt_of_lt_of_le hk h.size) (by omega)]; exact h.block k hk⟩
theorem ids_old {w x : World} {p : Nat} {n given turn : Int} {of : List Int} (h : Old w x) (hI : IsIDs w p n given turn of) : IsIDs x p n given turn of := ⟨keep_old h hI.1, hI.2⟩
theorem ids_new (w : World) (n : Int) : IsIDs (w.alloc (.cells (idsCells n 0 0 zeros256) 95)) w.heap.size n 0 0 zeros256 := ⟨new_block _ _, by unfold zeros256; exact List.length_replicate⟩

/-- The same contracts, the guest a whole number. -/
theorem get_int (gi : Int) (g : Nat) (hgi : gi = g) (p : Nat) (n given turn : Int) (of : List Int) (w : World) (ans : Int × Bool × Int × Int × List Int) (hI : IsIDs w p n given turn of) (h1 : 1 ≤ g) (h2 : g ≤ 255) (hn1 : 1 ≤ n)
    (ht0 : 0 ≤ turn) (ht : turn < 4611686018427387904)
    (hc : (∃ x, x ≠ 0 ∧ of[g]? = some x ∧ ans = (x, false, given, turn, of)) ∨
      (of[g]? = some 0 ∧ 0 ≤ given ∧ given < n ∧ n ≤ 255 ∧ ans = (given + 1, false, given + 1, turn, of.set g (given + 1))) ∨
      (of[g]? = some 0 ∧ n ≤ given ∧ n ≤ 255 ∧ ans = (0 + 1, true, 0 + 1, turn + 1, zeros256.set g (0 + 1)))) :
    Calls Try.prog 25 #[.pointer (some ⟨p, 0, none⟩), .int .i64 gi] w (RetIDs w p (.tuple #[.int .i64 ans.1, .bool ans.2.1, .int .i64 0]) n ans.2.2.1 ans.2.2.2.1 ans.2.2.2.2) := by
  subst hgi
  exact get_calls p n given turn of g w ans hI h1 h2 hn1 ht0 ht hc
theorem has_int (gi : Int) (g : Nat) (hgi : gi = g) (p : Nat) (n given turn : Int) (of : List Int) (x : Int) (w : World) (hI : IsIDs w p n given turn of) (h1 : 1 ≤ g) (h2 : g ≤ 255) (hx : of[g]? = some x) :
    Calls Try.prog 29 #[.pointer (some ⟨p, 0, none⟩), .int .i64 gi] w (RetB w (.tuple #[.int .i64 x, .bool (x != 0)])) := by
  subst hgi
  exact has_calls p n given turn of g x w hI h1 h2 hx
theorem drop_int (gi : Int) (g : Nat) (hgi : gi = g) (p : Nat) (n given turn : Int) (of : List Int) (x : Int) (w : World) (hI : IsIDs w p n given turn of) (h1 : 1 ≤ g) (h2 : g ≤ 255) (hx : of[g]? = some x) :
    Calls Try.prog 27 #[.pointer (some ⟨p, 0, none⟩), .int .i64 gi] w (RetIDs w p (.bool (x != 0)) n given turn (of.set g 0)) := by
  subst hgi
  exact drop_calls p n given turn of g x w hI h1 h2 hx

set_option maxHeartbeats 4000000 in
set_option maxRecDepth 100000 in
theorem vmidTold_calls (w : World) : Calls Try.prog 32 #[] w (RetB w (.bool true)) := by
  go_enter Try.func32, Try.ntmps32
  go_wp2_with fail
  (with_reducible refine (vmidNew_calls 1 _ (by decide) (by decide)).mono ?_)
  rintro e w1 ⟨rfl, hw1⟩
  have hI := ids_new w 1
  have hO : Old w (w.alloc (.cells (idsCells 1 0 0 zeros256) 95)) := old_alloc (old_refl _) _
  rw [← hw1] at hI hO
  clear hw1

  generalize hpp : w.heap.size = p at *
  go_wp2_with fail
  (with_reducible refine (vmidNew_none 256 _ (by omega)).mono ?_)
  rintro e w2 ⟨rfl, hb2⟩
  have hI := ids_old hb2 hI
  have hO := old_then hO hb2
  go_wp2_with fail
  (with_reducible refine (get_int 7 7 rfl p 1 0 0 zeros256 _ (0 + 1, false, 0 + 1, 0, zeros256.set 7 (0 + 1)) hI (by decide) (by decide) (by decide) (by decide) (by decide) (.inr (.inl ⟨zeros_get 7 (by decide), by decide, by decide, by decide, rfl⟩))).mono ?_)
  rintro e w3 ⟨rfl, hI, ho3⟩
  have hO := old_only hO ho3 (by omega)
  go_wp2_with fail
  (with_reducible refine (get_int 8 8 rfl p 1 (0 + 1) 0 (zeros256.set 7 (0 + 1)) _ (0 + 1, true, 0 + 1, 0 + 1, zeros256.set 8 (0 + 1)) hI (by decide) (by decide) (by decide) (by decide) (by decide) (.inr (.inr ⟨by rw [List.getElem?_set_ne (by decide)]; exact zeros_get 8 (by decide), by decide, by decide, rfl⟩))).mono ?_)
  rintro e w4 ⟨rfl, hI, ho4⟩
  have hO := old_only hO ho4 (by omega)
  go_wp2_with fail
  (with_reducible refine (has_int 7 7 rfl p _ _ _ _ 0 _ hI (by decide) (by decide) (by rw [List.getElem?_set_ne (by decide)]; exact zeros_get 7 (by decide))).mono ?_)
  rintro e w5 ⟨rfl, hb5⟩
  have hI := ids_old hb5 hI
  have hO := old_then hO hb5
  go_wp2_with fail
  (with_reducible refine (turn_calls p _ _ _ _ _ hI).mono ?_)
  rintro e w6 ⟨rfl, hb6⟩
  have hI := ids_old hb6 hI
  have hO := old_then hO hb6
  go_wp2_with fail
  (with_reducible refine (drop_int 8 8 rfl p _ _ _ _ (0 + 1) _ hI (by decide) (by decide) (by rw [List.getElem?_set_self (by unfold zeros256; rw [List.length_replicate]; decide)])).mono ?_)
  rintro e w7 ⟨rfl, hI, ho7⟩
  have hO := old_only hO ho7 (by omega)
  go_wp2_with fail
  (with_reducible refine (drop_int 8 8 rfl p _ _ _ _ 0 _ hI (by decide) (by decide) (by rw [List.getElem?_set_self (by rw [List.length_set]; unfold zeros256; rw [List.length_replicate]; decide)])).mono ?_)
  rintro e w8 ⟨rfl, hI, ho8⟩
  have hO := old_only hO ho8 (by omega)
  go_wp2
  go_ret
  exact ⟨rfl, hO⟩

end Go.Proofs.Ytbnbchclbblbkaa
