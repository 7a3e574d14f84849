/- The statement PermTexts: its walk. -/
import Derived.Test.YtbnbchclbblbkaaPerm5
import Derived.Test.YtbnbchclbblbkaaSeq
namespace Go.Proofs.Ytbnbchclbblbkaa
set_option linter.unusedVariables false
set_option linter.unusedSimpArgs false
open Go.RowKit

def letterB (x : Bool) (c : ByteArray) : ByteArray := if x then c else ⟨#[45]⟩

theorem letter_any (x : Bool) (c : ByteArray) (w : World) :
    Calls Try.prog 14 #[.bool x, .string c] w (RetB w (.string (letterB x c))) := letter_calls x c w

theorem letter_cat (a0 a1 a2 : Bool) : (letterB a0 ⟨#[114]⟩ ++ letterB a1 ⟨#[119]⟩) ++ letterB a2 ⟨#[120]⟩ = permText a0 a1 a2 := by
  cases a0 <;> cases a1 <;> cases a2 <;> rfl
theorem letter_size (x : Bool) (c : UInt8) : (letterB x ⟨#[c]⟩).size = 1 := by cases x <;> rfl

/-- Parse of a text that is one, or of a text that is none. -/
def ParsesTo (s : ByteArray) (x0 x1 x2 : Bool) (f : Int) : Prop := ∀ w, Calls Try.prog 15 #[.string s] w (RetB w (.tuple #[.agg #[.bool x0, .bool x1, .bool x2], .int .i64 f]))

set_option maxHeartbeats 8000000 in
set_option maxRecDepth 100000 in
theorem texts_good_ttt (a0 a1 a2 : Bool) (s : ByteArray) (hs : permText true true true = s) (hP : ParsesTo s true true true 0) (hsz : s.size = 3) (e0 : ∀ h, s[0]'h = 114) (e1 : ∀ h, s[1]'h = 119) (e2 : ∀ h, s[2]'h = 120) (w : World) :
    Calls Try.prog 3 #[.agg #[.bool a0, .bool a1, .bool a2], .string s] w (RetB w (.bool true)) := by
  have hq : ∀ w' : World, (Op.equalIn 10000 23 (.agg #[.bool a0, .bool a1, .bool a2]) (.agg #[.bool a0, .bool a1, .bool a2])).run Try.prog w' = .ok true w' := fun w' => by rw [eq_perm]; simp
  have hq0 : ∀ w' : World, (Op.equalIn 10000 23 (.agg #[.bool false, .bool false, .bool false]) (.agg #[.bool false, .bool false, .bool false])).run Try.prog w' = .ok true w' := fun w' => by rw [eq_perm]; simp
  have hz0 := letter_size a0 114
  have hz1 := letter_size a1 119
  have hz2 := letter_size a2 120
  have hz3 : (letterB a0 ⟨#[114]⟩ ++ letterB a1 ⟨#[119]⟩).size = 2 := by rw [ByteArray.size_append, hz0, hz1]
  have HP := Lib.hid hP
  clear hP
  have Hs := Lib.hid hs
  clear hs
  go_enter Try.func3, Try.ntmps3
  go_wp2
  have hH := holds_new #[.bool a0, .bool a1, .bool a2] 23 (holds_nil w)
  refine wp_region_walked (S := Holds w [(w.heap.size, #[.bool a0, .bool a1, .bool a2], 23)]) (by kernel_rfl) (by kernel_rfl) (holds_drew hH) ?_
  clear hH
  repeat (apply walked_cons; (first | exact gives_and rfl rfl rfl rfl | exact gives_or rfl rfl rfl rfl | (focus (intro wS hS; obtain ⟨s0, s1, _⟩ := id hS; obtain ⟨k1, f1, z1⟩ := of_block s1; go_wp2_with (first | (go_at_call 14; (with_reducible refine (letter_any _ _ _).mono ?_); rintro e w9 ⟨rfl, hb9⟩)); (first | exact ⟨rfl, rfl, hS⟩ | exact ⟨rfl, rfl, holds_old hS hb9⟩); done)) | (focus (apply gives_guard; (focus (first | exact wanted_yes rfl rfl rfl | exact wanted_no rfl rfl rfl | exact wanted_yes2 rfl rfl rfl | exact wanted_no2 rfl rfl rfl)); (focus (intro hx9; (try simp only [Bool.not_eq_true', Bool.and_eq_true, Bool.not_not] at hx9); (try obtain ⟨hx9, hy9⟩ := hx9); (try subst hy9); (try subst hx9); (first | exact gives_and rfl rfl rfl rfl | exact gives_or rfl rfl rfl rfl | (intro wS hS; obtain ⟨s0, s1, _⟩ := id hS; obtain ⟨k1, f1, z1⟩ := of_block s1; go_wp2_with (first | (go_at_call 14; (with_reducible refine (letter_any _ _ _).mono ?_); rintro e w9 ⟨rfl, hb9⟩)); (first | exact ⟨rfl, rfl, hS⟩ | exact ⟨rfl, rfl, holds_old hS hb9⟩); done))))))); rfl; (try simp only [Act.put, List.setIfInBounds_toArray, List.set_cons_succ, List.set_cons_zero]))
  apply walked_nil
  intro wS hH
  rw [letter_cat]
  obtain ⟨_, s1, _⟩ := id hH
  obtain ⟨k1, f1, z1⟩ := of_block s1
  go_wp2_with fail
  refine (parse_good a0 a1 a2 _ rfl _).mono ?_
  rintro e w2 ⟨rfl, hb2⟩
  have hH := holds_new #[.bool a0, .bool a1, .bool a2] 23 (holds_old hH hb2)
  go_wp2_with fail
  refine (HP.out _).mono ?_
  rintro e w3 ⟨rfl, hb3⟩
  have hH := holds_new #[.bool true, .bool true, .bool true] 23 (holds_old hH hb3)
  obtain ⟨_, s3, s2, s1, _⟩ := id hH
  obtain ⟨k1, f1, z1⟩ := of_block (keep_old hb3 (keep_alloc _ (keep_old hb2 (by assumption))))
  obtain ⟨k2, f2, z2⟩ := of_block (keep_old hb3 (new_block w2 _))
  clear s1 s2 s3
  go_wp2_with (first | (go_at_call 16; (with_reducible refine (permTold_calls _).mono ?_); rintro e w9 ⟨rfl, hb9⟩; have hH := holds_old hH hb9; obtain ⟨_, s1, s2, s3, _⟩ := id hH; obtain ⟨k1, f1, z1⟩ := of_block s1; obtain ⟨k2, f2, z2⟩ := of_block s2; obtain ⟨k3, f3, z3⟩ := of_block s3) | (go_at_call 17; (with_reducible refine (text_calls a0 a1 a2 _).mono ?_); rintro e w9 ⟨rfl, hb9⟩; have hH := holds_old hH hb9; obtain ⟨_, s1, s2, s3, _⟩ := id hH; obtain ⟨k1, f1, z1⟩ := of_block s1; obtain ⟨k2, f2, z2⟩ := of_block s2; obtain ⟨k3, f3, z3⟩ := of_block s3) | (go_at_call 17; (with_reducible refine (text_any _ _ _ s Hs.out _).mono ?_); rintro e w9 ⟨rfl, hb9⟩; have hH := holds_old hH hb9; obtain ⟨_, s1, s2, s3, _⟩ := id hH; obtain ⟨k1, f1, z1⟩ := of_block s1; obtain ⟨k2, f2, z2⟩ := of_block s2; obtain ⟨k3, f3, z3⟩ := of_block s3))
  go_returns
  exact ⟨rfl, hH.1⟩

set_option maxHeartbeats 8000000 in
set_option maxRecDepth 100000 in
theorem texts_good_ttf (a0 a1 a2 : Bool) (s : ByteArray) (hs : permText true true false = s) (hP : ParsesTo s true true false 0) (hsz : s.size = 3) (e0 : ∀ h, s[0]'h = 114) (e1 : ∀ h, s[1]'h = 119) (e2 : ∀ h, s[2]'h = 45) (w : World) :
    Calls Try.prog 3 #[.agg #[.bool a0, .bool a1, .bool a2], .string s] w (RetB w (.bool true)) := by
  have hq : ∀ w' : World, (Op.equalIn 10000 23 (.agg #[.bool a0, .bool a1, .bool a2]) (.agg #[.bool a0, .bool a1, .bool a2])).run Try.prog w' = .ok true w' := fun w' => by rw [eq_perm]; simp
  have hq0 : ∀ w' : World, (Op.equalIn 10000 23 (.agg #[.bool false, .bool false, .bool false]) (.agg #[.bool false, .bool false, .bool false])).run Try.prog w' = .ok true w' := fun w' => by rw [eq_perm]; simp
  have hz0 := letter_size a0 114
  have hz1 := letter_size a1 119
  have hz2 := letter_size a2 120
  have hz3 : (letterB a0 ⟨#[114]⟩ ++ letterB a1 ⟨#[119]⟩).size = 2 := by rw [ByteArray.size_append, hz0, hz1]
  have HP := Lib.hid hP
  clear hP
  have Hs := Lib.hid hs
  clear hs
  go_enter Try.func3, Try.ntmps3
  go_wp2
  have hH := holds_new #[.bool a0, .bool a1, .bool a2] 23 (holds_nil w)
  refine wp_region_walked (S := Holds w [(w.heap.size, #[.bool a0, .bool a1, .bool a2], 23)]) (by kernel_rfl) (by kernel_rfl) (holds_drew hH) ?_
  clear hH
  repeat (apply walked_cons; (first | exact gives_and rfl rfl rfl rfl | exact gives_or rfl rfl rfl rfl | (focus (intro wS hS; obtain ⟨s0, s1, _⟩ := id hS; obtain ⟨k1, f1, z1⟩ := of_block s1; go_wp2_with (first | (go_at_call 14; (with_reducible refine (letter_any _ _ _).mono ?_); rintro e w9 ⟨rfl, hb9⟩)); (first | exact ⟨rfl, rfl, hS⟩ | exact ⟨rfl, rfl, holds_old hS hb9⟩); done)) | (focus (apply gives_guard; (focus (first | exact wanted_yes rfl rfl rfl | exact wanted_no rfl rfl rfl | exact wanted_yes2 rfl rfl rfl | exact wanted_no2 rfl rfl rfl)); (focus (intro hx9; (try simp only [Bool.not_eq_true', Bool.and_eq_true, Bool.not_not] at hx9); (try obtain ⟨hx9, hy9⟩ := hx9); (try subst hy9); (try subst hx9); (first | exact gives_and rfl rfl rfl rfl | exact gives_or rfl rfl rfl rfl | (intro wS hS; obtain ⟨s0, s1, _⟩ := id hS; obtain ⟨k1, f1, z1⟩ := of_block s1; go_wp2_with (first | (go_at_call 14; (with_reducible refine (letter_any _ _ _).mono ?_); rintro e w9 ⟨rfl, hb9⟩)); (first | exact ⟨rfl, rfl, hS⟩ | exact ⟨rfl, rfl, holds_old hS hb9⟩); done))))))); rfl; (try simp only [Act.put, List.setIfInBounds_toArray, List.set_cons_succ, List.set_cons_zero]))
  apply walked_nil
  intro wS hH
  rw [letter_cat]
  obtain ⟨_, s1, _⟩ := id hH
  obtain ⟨k1, f1, z1⟩ := of_block s1
  go_wp2_with fail
  refine (parse_good a0 a1 a2 _ rfl _).mono ?_
  rintro e w2 ⟨rfl, hb2⟩
  have hH := holds_new #[.bool a0, .bool a1, .bool a2] 23 (holds_old hH hb2)
  go_wp2_with fail
  refine (HP.out _).mono ?_
  rintro e w3 ⟨rfl, hb3⟩
  have hH := holds_new #[.bool true, .bool true, .bool false] 23 (holds_old hH hb3)
  obtain ⟨_, s3, s2, s1, _⟩ := id hH
  obtain ⟨k1, f1, z1⟩ := of_block (keep_old hb3 (keep_alloc _ (keep_old hb2 (by assumption))))
  obtain ⟨k2, f2, z2⟩ := of_block (keep_old hb3 (new_block w2 _))
  clear s1 s2 s3
  go_wp2_with (first | (go_at_call 16; (with_reducible refine (permTold_calls _).mono ?_); rintro e w9 ⟨rfl, hb9⟩; have hH := holds_old hH hb9; obtain ⟨_, s1, s2, s3, _⟩ := id hH; obtain ⟨k1, f1, z1⟩ := of_block s1; obtain ⟨k2, f2, z2⟩ := of_block s2; obtain ⟨k3, f3, z3⟩ := of_block s3) | (go_at_call 17; (with_reducible refine (text_calls a0 a1 a2 _).mono ?_); rintro e w9 ⟨rfl, hb9⟩; have hH := holds_old hH hb9; obtain ⟨_, s1, s2, s3, _⟩ := id hH; obtain ⟨k1, f1, z1⟩ := of_block s1; obtain ⟨k2, f2, z2⟩ := of_block s2; obtain ⟨k3, f3, z3⟩ := of_block s3) | (go_at_call 17; (with_reducible refine (text_any _ _ _ s Hs.out _).mono ?_); rintro e w9 ⟨rfl, hb9⟩; have hH := holds_old hH hb9; obtain ⟨_, s1, s2, s3, _⟩ := id hH; obtain ⟨k1, f1, z1⟩ := of_block s1; obtain ⟨k2, f2, z2⟩ := of_block s2; obtain ⟨k3, f3, z3⟩ := of_block s3))
  go_returns
  exact ⟨rfl, hH.1⟩

set_option maxHeartbeats 8000000 in
set_option maxRecDepth 100000 in
theorem texts_good_tft (a0 a1 a2 : Bool) (s : ByteArray) (hs : permText true false true = s) (hP : ParsesTo s true false true 0) (hsz : s.size = 3) (e0 : ∀ h, s[0]'h = 114) (e1 : ∀ h, s[1]'h = 45) (e2 : ∀ h, s[2]'h = 120) (w : World) :
    Calls Try.prog 3 #[.agg #[.bool a0, .bool a1, .bool a2], .string s] w (RetB w (.bool true)) := by
  have hq : ∀ w' : World, (Op.equalIn 10000 23 (.agg #[.bool a0, .bool a1, .bool a2]) (.agg #[.bool a0, .bool a1, .bool a2])).run Try.prog w' = .ok true w' := fun w' => by rw [eq_perm]; simp
  have hq0 : ∀ w' : World, (Op.equalIn 10000 23 (.agg #[.bool false, .bool false, .bool false]) (.agg #[.bool false, .bool false, .bool false])).run Try.prog w' = .ok true w' := fun w' => by rw [eq_perm]; simp
  have hz0 := letter_size a0 114
  have hz1 := letter_size a1 119
  have hz2 := letter_size a2 120
  have hz3 : (letterB a0 ⟨#[114]⟩ ++ letterB a1 ⟨#[119]⟩).size = 2 := by rw [ByteArray.size_append, hz0, hz1]
  have HP := Lib.hid hP
  clear hP
  have Hs := Lib.hid hs
  clear hs
  go_enter Try.func3, Try.ntmps3
  go_wp2
  have hH := holds_new #[.bool a0, .bool a1, .bool a2] 23 (holds_nil w)
  refine wp_region_walked (S := Holds w [(w.heap.size, #[.bool a0, .bool a1, .bool a2], 23)]) (by kernel_rfl) (by kernel_rfl) (holds_drew hH) ?_
  clear hH
  repeat (apply walked_cons; (first | exact gives_and rfl rfl rfl rfl | exact gives_or rfl rfl rfl rfl | (focus (intro wS hS; obtain ⟨s0, s1, _⟩ := id hS; obtain ⟨k1, f1, z1⟩ := of_block s1; go_wp2_with (first | (go_at_call 14; (with_reducible refine (letter_any _ _ _).mono ?_); rintro e w9 ⟨rfl, hb9⟩)); (first | exact ⟨rfl, rfl, hS⟩ | exact ⟨rfl, rfl, holds_old hS hb9⟩); done)) | (focus (apply gives_guard; (focus (first | exact wanted_yes rfl rfl rfl | exact wanted_no rfl rfl rfl | exact wanted_yes2 rfl rfl rfl | exact wanted_no2 rfl rfl rfl)); (focus (intro hx9; (try simp only [Bool.not_eq_true', Bool.and_eq_true, Bool.not_not] at hx9); (try obtain ⟨hx9, hy9⟩ := hx9); (try subst hy9); (try subst hx9); (first | exact gives_and rfl rfl rfl rfl | exact gives_or rfl rfl rfl rfl | (intro wS hS; obtain ⟨s0, s1, _⟩ := id hS; obtain ⟨k1, f1, z1⟩ := of_block s1; go_wp2_with (first | (go_at_call 14; (with_reducible refine (letter_any _ _ _).mono ?_); rintro e w9 ⟨rfl, hb9⟩)); (first | exact ⟨rfl, rfl, hS⟩ | exact ⟨rfl, rfl, holds_old hS hb9⟩); done))))))); rfl; (try simp only [Act.put, List.setIfInBounds_toArray, List.set_cons_succ, List.set_cons_zero]))
  apply walked_nil
  intro wS hH
  rw [letter_cat]
  obtain ⟨_, s1, _⟩ := id hH
  obtain ⟨k1, f1, z1⟩ := of_block s1
  go_wp2_with fail
  refine (parse_good a0 a1 a2 _ rfl _).mono ?_
  rintro e w2 ⟨rfl, hb2⟩
  have hH := holds_new #[.bool a0, .bool a1, .bool a2] 23 (holds_old hH hb2)
  go_wp2_with fail
  refine (HP.out _).mono ?_
  rintro e w3 ⟨rfl, hb3⟩
  have hH := holds_new #[.bool true, .bool false, .bool true] 23 (holds_old hH hb3)
  obtain ⟨_, s3, s2, s1, _⟩ := id hH
  obtain ⟨k1, f1, z1⟩ := of_block (keep_old hb3 (keep_alloc _ (keep_old hb2 (by assumption))))
  obtain ⟨k2, f2, z2⟩ := of_block (keep_old hb3 (new_block w2 _))
  clear s1 s2 s3
  go_wp2_with (first | (go_at_call 16; (with_reducible refine (permTold_calls _).mono ?_); rintro e w9 ⟨rfl, hb9⟩; have hH := holds_old hH hb9; obtain ⟨_, s1, s2, s3, _⟩ := id hH; obtain ⟨k1, f1, z1⟩ := of_block s1; obtain ⟨k2, f2, z2⟩ := of_block s2; obtain ⟨k3, f3, z3⟩ := of_block s3) | (go_at_call 17; (with_reducible refine (text_calls a0 a1 a2 _).mono ?_); rintro e w9 ⟨rfl, hb9⟩; have hH := holds_old hH hb9; obtain ⟨_, s1, s2, s3, _⟩ := id hH; obtain ⟨k1, f1, z1⟩ := of_block s1; obtain ⟨k2, f2, z2⟩ := of_block s2; obtain ⟨k3, f3, z3⟩ := of_block s3) | (go_at_call 17; (with_reducible refine (text_any _ _ _ s Hs.out _).mono ?_); rintro e w9 ⟨rfl, hb9⟩; have hH := holds_old hH hb9; obtain ⟨_, s1, s2, s3, _⟩ := id hH; obtain ⟨k1, f1, z1⟩ := of_block s1; obtain ⟨k2, f2, z2⟩ := of_block s2; obtain ⟨k3, f3, z3⟩ := of_block s3))
  go_returns
  exact ⟨rfl, hH.1⟩

set_option maxHeartbeats 8000000 in
set_option maxRecDepth 100000 in
theorem texts_good_tff (a0 a1 a2 : Bool) (s : ByteArray) (hs : permText true false false = s) (hP : ParsesTo s true false false 0) (hsz : s.size = 3) (e0 : ∀ h, s[0]'h = 114) (e1 : ∀ h, s[1]'h = 45) (e2 : ∀ h, s[2]'h = 45) (w : World) :
    Calls Try.prog 3 #[.agg #[.bool a0, .bool a1, .bool a2], .string s] w (RetB w (.bool true)) := by
  have hq : ∀ w' : World, (Op.equalIn 10000 23 (.agg #[.bool a0, .bool a1, .bool a2]) (.agg #[.bool a0, .bool a1, .bool a2])).run Try.prog w' = .ok true w' := fun w' => by rw [eq_perm]; simp
  have hq0 : ∀ w' : World, (Op.equalIn 10000 23 (.agg #[.bool false, .bool false, .bool false]) (.agg #[.bool false, .bool false, .bool false])).run Try.prog w' = .ok true w' := fun w' => by rw [eq_perm]; simp
  have hz0 := letter_size a0 114
  have hz1 := letter_size a1 119
  have hz2 := letter_size a2 120
  have hz3 : (letterB a0 ⟨#[114]⟩ ++ letterB a1 ⟨#[119]⟩).size = 2 := by rw [ByteArray.size_append, hz0, hz1]
  have HP := Lib.hid hP
  clear hP
  have Hs := Lib.hid hs
  clear hs
  go_enter Try.func3, Try.ntmps3
  go_wp2
  have hH := holds_new #[.bool a0, .bool a1, .bool a2] 23 (holds_nil w)
  refine wp_region_walked (S := Holds w [(w.heap.size, #[.bool a0, .bool a1, .bool a2], 23)]) (by kernel_rfl) (by kernel_rfl) (holds_drew hH) ?_
  clear hH
  repeat (apply walked_cons; (first | exact gives_and rfl rfl rfl rfl | exact gives_or rfl rfl rfl rfl | (focus (intro wS hS; obtain ⟨s0, s1, _⟩ := id hS; obtain ⟨k1, f1, z1⟩ := of_block s1; go_wp2_with (first | (go_at_call 14; (with_reducible refine (letter_any _ _ _).mono ?_); rintro e w9 ⟨rfl, hb9⟩)); (first | exact ⟨rfl, rfl, hS⟩ | exact ⟨rfl, rfl, holds_old hS hb9⟩); done)) | (focus (apply gives_guard; (focus (first | exact wanted_yes rfl rfl rfl | exact wanted_no rfl rfl rfl | exact wanted_yes2 rfl rfl rfl | exact wanted_no2 rfl rfl rfl)); (focus (intro hx9; (try simp only [Bool.not_eq_true', Bool.and_eq_true, Bool.not_not] at hx9); (try obtain ⟨hx9, hy9⟩ := hx9); (try subst hy9); (try subst hx9); (first | exact gives_and rfl rfl rfl rfl | exact gives_or rfl rfl rfl rfl | (intro wS hS; obtain ⟨s0, s1, _⟩ := id hS; obtain ⟨k1, f1, z1⟩ := of_block s1; go_wp2_with (first | (go_at_call 14; (with_reducible refine (letter_any _ _ _).mono ?_); rintro e w9 ⟨rfl, hb9⟩)); (first | exact ⟨rfl, rfl, hS⟩ | exact ⟨rfl, rfl, holds_old hS hb9⟩); done))))))); rfl; (try simp only [Act.put, List.setIfInBounds_toArray, List.set_cons_succ, List.set_cons_zero]))
  apply walked_nil
  intro wS hH
  rw [letter_cat]
  obtain ⟨_, s1, _⟩ := id hH
  obtain ⟨k1, f1, z1⟩ := of_block s1
  go_wp2_with fail
  refine (parse_good a0 a1 a2 _ rfl _).mono ?_
  rintro e w2 ⟨rfl, hb2⟩
  have hH := holds_new #[.bool a0, .bool a1, .bool a2] 23 (holds_old hH hb2)
  go_wp2_with fail
  refine (HP.out _).mono ?_
  rintro e w3 ⟨rfl, hb3⟩
  have hH := holds_new #[.bool true, .bool false, .bool false] 23 (holds_old hH hb3)
  obtain ⟨_, s3, s2, s1, _⟩ := id hH
  obtain ⟨k1, f1, z1⟩ := of_block (keep_old hb3 (keep_alloc _ (keep_old hb2 (by assumption))))
  obtain ⟨k2, f2, z2⟩ := of_block (keep_old hb3 (new_block w2 _))
  clear s1 s2 s3
  go_wp2_with (first | (go_at_call 16; (with_reducible refine (permTold_calls _).mono ?_); rintro e w9 ⟨rfl, hb9⟩; have hH := holds_old hH hb9; obtain ⟨_, s1, s2, s3, _⟩ := id hH; obtain ⟨k1, f1, z1⟩ := of_block s1; obtain ⟨k2, f2, z2⟩ := of_block s2; obtain ⟨k3, f3, z3⟩ := of_block s3) | (go_at_call 17; (with_reducible refine (text_calls a0 a1 a2 _).mono ?_); rintro e w9 ⟨rfl, hb9⟩; have hH := holds_old hH hb9; obtain ⟨_, s1, s2, s3, _⟩ := id hH; obtain ⟨k1, f1, z1⟩ := of_block s1; obtain ⟨k2, f2, z2⟩ := of_block s2; obtain ⟨k3, f3, z3⟩ := of_block s3) | (go_at_call 17; (with_reducible refine (text_any _ _ _ s Hs.out _).mono ?_); rintro e w9 ⟨rfl, hb9⟩; have hH := holds_old hH hb9; obtain ⟨_, s1, s2, s3, _⟩ := id hH; obtain ⟨k1, f1, z1⟩ := of_block s1; obtain ⟨k2, f2, z2⟩ := of_block s2; obtain ⟨k3, f3, z3⟩ := of_block s3))
  go_returns
  exact ⟨rfl, hH.1⟩

set_option maxHeartbeats 8000000 in
set_option maxRecDepth 100000 in
theorem texts_good_ftt (a0 a1 a2 : Bool) (s : ByteArray) (hs : permText false true true = s) (hP : ParsesTo s false true true 0) (hsz : s.size = 3) (e0 : ∀ h, s[0]'h = 45) (e1 : ∀ h, s[1]'h = 119) (e2 : ∀ h, s[2]'h = 120) (w : World) :
    Calls Try.prog 3 #[.agg #[.bool a0, .bool a1, .bool a2], .string s] w (RetB w (.bool true)) := by
  have hq : ∀ w' : World, (Op.equalIn 10000 23 (.agg #[.bool a0, .bool a1, .bool a2]) (.agg #[.bool a0, .bool a1, .bool a2])).run Try.prog w' = .ok true w' := fun w' => by rw [eq_perm]; simp
  have hq0 : ∀ w' : World, (Op.equalIn 10000 23 (.agg #[.bool false, .bool false, .bool false]) (.agg #[.bool false, .bool false, .bool false])).run Try.prog w' = .ok true w' := fun w' => by rw [eq_perm]; simp
  have hz0 := letter_size a0 114
  have hz1 := letter_size a1 119
  have hz2 := letter_size a2 120
  have hz3 : (letterB a0 ⟨#[114]⟩ ++ letterB a1 ⟨#[119]⟩).size = 2 := by rw [ByteArray.size_append, hz0, hz1]
  have HP := Lib.hid hP
  clear hP
  have Hs := Lib.hid hs
  clear hs
  go_enter Try.func3, Try.ntmps3
  go_wp2
  have hH := holds_new #[.bool a0, .bool a1, .bool a2] 23 (holds_nil w)
  refine wp_region_walked (S := Holds w [(w.heap.size, #[.bool a0, .bool a1, .bool a2], 23)]) (by kernel_rfl) (by kernel_rfl) (holds_drew hH) ?_
  clear hH
  repeat (apply walked_cons; (first | exact gives_and rfl rfl rfl rfl | exact gives_or rfl rfl rfl rfl | (focus (intro wS hS; obtain ⟨s0, s1, _⟩ := id hS; obtain ⟨k1, f1, z1⟩ := of_block s1; go_wp2_with (first | (go_at_call 14; (with_reducible refine (letter_any _ _ _).mono ?_); rintro e w9 ⟨rfl, hb9⟩)); (first | exact ⟨rfl, rfl, hS⟩ | exact ⟨rfl, rfl, holds_old hS hb9⟩); done)) | (focus (apply gives_guard; (focus (first | exact wanted_yes rfl rfl rfl | exact wanted_no rfl rfl rfl | exact wanted_yes2 rfl rfl rfl | exact wanted_no2 rfl rfl rfl)); (focus (intro hx9; (try simp only [Bool.not_eq_true', Bool.and_eq_true, Bool.not_not] at hx9); (try obtain ⟨hx9, hy9⟩ := hx9); (try subst hy9); (try subst hx9); (first | exact gives_and rfl rfl rfl rfl | exact gives_or rfl rfl rfl rfl | (intro wS hS; obtain ⟨s0, s1, _⟩ := id hS; obtain ⟨k1, f1, z1⟩ := of_block s1; go_wp2_with (first | (go_at_call 14; (with_reducible refine (letter_any _ _ _).mono ?_); rintro e w9 ⟨rfl, hb9⟩)); (first | exact ⟨rfl, rfl, hS⟩ | exact ⟨rfl, rfl, holds_old hS hb9⟩); done))))))); rfl; (try simp only [Act.put, List.setIfInBounds_toArray, List.set_cons_succ, List.set_cons_zero]))
  apply walked_nil
  intro wS hH
  rw [letter_cat]
  obtain ⟨_, s1, _⟩ := id hH
  obtain ⟨k1, f1, z1⟩ := of_block s1
  go_wp2_with fail
  refine (parse_good a0 a1 a2 _ rfl _).mono ?_
  rintro e w2 ⟨rfl, hb2⟩
  have hH := holds_new #[.bool a0, .bool a1, .bool a2] 23 (holds_old hH hb2)
  go_wp2_with fail
  refine (HP.out _).mono ?_
  rintro e w3 ⟨rfl, hb3⟩
  have hH := holds_new #[.bool false, .bool true, .bool true] 23 (holds_old hH hb3)
  obtain ⟨_, s3, s2, s1, _⟩ := id hH
  obtain ⟨k1, f1, z1⟩ := of_block (keep_old hb3 (keep_alloc _ (keep_old hb2 (by assumption))))
  obtain ⟨k2, f2, z2⟩ := of_block (keep_old hb3 (new_block w2 _))
  clear s1 s2 s3
  go_wp2_with (first | (go_at_call 16; (with_reducible refine (permTold_calls _).mono ?_); rintro e w9 ⟨rfl, hb9⟩; have hH := holds_old hH hb9; obtain ⟨_, s1, s2, s3, _⟩ := id hH; obtain ⟨k1, f1, z1⟩ := of_block s1; obtain ⟨k2, f2, z2⟩ := of_block s2; obtain ⟨k3, f3, z3⟩ := of_block s3) | (go_at_call 17; (with_reducible refine (text_calls a0 a1 a2 _).mono ?_); rintro e w9 ⟨rfl, hb9⟩; have hH := holds_old hH hb9; obtain ⟨_, s1, s2, s3, _⟩ := id hH; obtain ⟨k1, f1, z1⟩ := of_block s1; obtain ⟨k2, f2, z2⟩ := of_block s2; obtain ⟨k3, f3, z3⟩ := of_block s3) | (go_at_call 17; (with_reducible refine (text_any _ _ _ s Hs.out _).mono ?_); rintro e w9 ⟨rfl, hb9⟩; have hH := holds_old hH hb9; obtain ⟨_, s1, s2, s3, _⟩ := id hH; obtain ⟨k1, f1, z1⟩ := of_block s1; obtain ⟨k2, f2, z2⟩ := of_block s2; obtain ⟨k3, f3, z3⟩ := of_block s3))
  go_returns
  exact ⟨rfl, hH.1⟩

set_option maxHeartbeats 8000000 in
set_option maxRecDepth 100000 in
theorem texts_good_ftf (a0 a1 a2 : Bool) (s : ByteArray) (hs : permText false true false = s) (hP : ParsesTo s false true false 0) (hsz : s.size = 3) (e0 : ∀ h, s[0]'h = 45) (e1 : ∀ h, s[1]'h = 119) (e2 : ∀ h, s[2]'h = 45) (w : World) :
    Calls Try.prog 3 #[.agg #[.bool a0, .bool a1, .bool a2], .string s] w (RetB w (.bool true)) := by
  have hq : ∀ w' : World, (Op.equalIn 10000 23 (.agg #[.bool a0, .bool a1, .bool a2]) (.agg #[.bool a0, .bool a1, .bool a2])).run Try.prog w' = .ok true w' := fun w' => by rw [eq_perm]; simp
  have hq0 : ∀ w' : World, (Op.equalIn 10000 23 (.agg #[.bool false, .bool false, .bool false]) (.agg #[.bool false, .bool false, .bool false])).run Try.prog w' = .ok true w' := fun w' => by rw [eq_perm]; simp
  have hz0 := letter_size a0 114
  have hz1 := letter_size a1 119
  have hz2 := letter_size a2 120
  have hz3 : (letterB a0 ⟨#[114]⟩ ++ letterB a1 ⟨#[119]⟩).size = 2 := by rw [ByteArray.size_append, hz0, hz1]
  have HP := Lib.hid hP
  clear hP
  have Hs := Lib.hid hs
  clear hs
  go_enter Try.func3, Try.ntmps3
  go_wp2
  have hH := holds_new #[.bool a0, .bool a1, .bool a2] 23 (holds_nil w)
  refine wp_region_walked (S := Holds w [(w.heap.size, #[.bool a0, .bool a1, .bool a2], 23)]) (by kernel_rfl) (by kernel_rfl) (holds_drew hH) ?_
  clear hH
  repeat (apply walked_cons; (first | exact gives_and rfl rfl rfl rfl | exact gives_or rfl rfl rfl rfl | (focus (intro wS hS; obtain ⟨s0, s1, _⟩ := id hS; obtain ⟨k1, f1, z1⟩ := of_block s1; go_wp2_with (first | (go_at_call 14; (with_reducible refine (letter_any _ _ _).mono ?_); rintro e w9 ⟨rfl, hb9⟩)); (first | exact ⟨rfl, rfl, hS⟩ | exact ⟨rfl, rfl, holds_old hS hb9⟩); done)) | (focus (apply gives_guard; (focus (first | exact wanted_yes rfl rfl rfl | exact wanted_no rfl rfl rfl | exact wanted_yes2 rfl rfl rfl | exact wanted_no2 rfl rfl rfl)); (focus (intro hx9; (try simp only [Bool.not_eq_true', Bool.and_eq_true, Bool.not_not] at hx9); (try obtain ⟨hx9, hy9⟩ := hx9); (try subst hy9); (try subst hx9); (first | exact gives_and rfl rfl rfl rfl | exact gives_or rfl rfl rfl rfl | (intro wS hS; obtain ⟨s0, s1, _⟩ := id hS; obtain ⟨k1, f1, z1⟩ := of_block s1; go_wp2_with (first | (go_at_call 14; (with_reducible refine (letter_any _ _ _).mono ?_); rintro e w9 ⟨rfl, hb9⟩)); (first | exact ⟨rfl, rfl, hS⟩ | exact ⟨rfl, rfl, holds_old hS hb9⟩); done))))))); rfl; (try simp only [Act.put, List.setIfInBounds_toArray, List.set_cons_succ, List.set_cons_zero]))
  apply walked_nil
  intro wS hH
  rw [letter_cat]
  obtain ⟨_, s1, _⟩ := id hH
  obtain ⟨k1, f1, z1⟩ := of_block s1
  go_wp2_with fail
  refine (parse_good a0 a1 a2 _ rfl _).mono ?_
  rintro e w2 ⟨rfl, hb2⟩
  have hH := holds_new #[.bool a0, .bool a1, .bool a2] 23 (holds_old hH hb2)
  go_wp2_with fail
  refine (HP.out _).mono ?_
  rintro e w3 ⟨rfl, hb3⟩
  have hH := holds_new #[.bool false, .bool true, .bool false] 23 (holds_old hH hb3)
  obtain ⟨_, s3, s2, s1, _⟩ := id hH
  obtain ⟨k1, f1, z1⟩ := of_block (keep_old hb3 (keep_alloc _ (keep_old hb2 (by assumption))))
  obtain ⟨k2, f2, z2⟩ := of_block (keep_old hb3 (new_block w2 _))
  clear s1 s2 s3
  go_wp2_with (first | (go_at_call 16; (with_reducible refine (permTold_calls _).mono ?_); rintro e w9 ⟨rfl, hb9⟩; have hH := holds_old hH hb9; obtain ⟨_, s1, s2, s3, _⟩ := id hH; obtain ⟨k1, f1, z1⟩ := of_block s1; obtain ⟨k2, f2, z2⟩ := of_block s2; obtain ⟨k3, f3, z3⟩ := of_block s3) | (go_at_call 17; (with_reducible refine (text_calls a0 a1 a2 _).mono ?_); rintro e w9 ⟨rfl, hb9⟩; have hH := holds_old hH hb9; obtain ⟨_, s1, s2, s3, _⟩ := id hH; obtain ⟨k1, f1, z1⟩ := of_block s1; obtain ⟨k2, f2, z2⟩ := of_block s2; obtain ⟨k3, f3, z3⟩ := of_block s3) | (go_at_call 17; (with_reducible refine (text_any _ _ _ s Hs.out _).mono ?_); rintro e w9 ⟨rfl, hb9⟩; have hH := holds_old hH hb9; obtain ⟨_, s1, s2, s3, _⟩ := id hH; obtain ⟨k1, f1, z1⟩ := of_block s1; obtain ⟨k2, f2, z2⟩ := of_block s2; obtain ⟨k3, f3, z3⟩ := of_block s3))
  go_returns
  exact ⟨rfl, hH.1⟩

set_option maxHeartbeats 8000000 in
set_option maxRecDepth 100000 in
theorem texts_good_fft (a0 a1 a2 : Bool) (s : ByteArray) (hs : permText false false true = s) (hP : ParsesTo s false false true 0) (hsz : s.size = 3) (e0 : ∀ h, s[0]'h = 45) (e1 : ∀ h, s[1]'h = 45) (e2 : ∀ h, s[2]'h = 120) (w : World) :
    Calls Try.prog 3 #[.agg #[.bool a0, .bool a1, .bool a2], .string s] w (RetB w (.bool true)) := by
  have hq : ∀ w' : World, (Op.equalIn 10000 23 (.agg #[.bool a0, .bool a1, .bool a2]) (.agg #[.bool a0, .bool a1, .bool a2])).run Try.prog w' = .ok true w' := fun w' => by rw [eq_perm]; simp
  have hq0 : ∀ w' : World, (Op.equalIn 10000 23 (.agg #[.bool false, .bool false, .bool false]) (.agg #[.bool false, .bool false, .bool false])).run Try.prog w' = .ok true w' := fun w' => by rw [eq_perm]; simp
  have hz0 := letter_size a0 114
  have hz1 := letter_size a1 119
  have hz2 := letter_size a2 120
  have hz3 : (letterB a0 ⟨#[114]⟩ ++ letterB a1 ⟨#[119]⟩).size = 2 := by rw [ByteArray.size_append, hz0, hz1]
  have HP := Lib.hid hP
  clear hP
  have Hs := Lib.hid hs
  clear hs
  go_enter Try.func3, Try.ntmps3
  go_wp2
  have hH := holds_new #[.bool a0, .bool a1, .bool a2] 23 (holds_nil w)
  refine wp_region_walked (S := Holds w [(w.heap.size, #[.bool a0, .bool a1, .bool a2], 23)]) (by kernel_rfl) (by kernel_rfl) (holds_drew hH) ?_
  clear hH
  repeat (apply walked_cons; (first | exact gives_and rfl rfl rfl rfl | exact gives_or rfl rfl rfl rfl | (focus (intro wS hS; obtain ⟨s0, s1, _⟩ := id hS; obtain ⟨k1, f1, z1⟩ := of_block s1; go_wp2_with (first | (go_at_call 14; (with_reducible refine (letter_any _ _ _).mono ?_); rintro e w9 ⟨rfl, hb9⟩)); (first | exact ⟨rfl, rfl, hS⟩ | exact ⟨rfl, rfl, holds_old hS hb9⟩); done)) | (focus (apply gives_guard; (focus (first | exact wanted_yes rfl rfl rfl | exact wanted_no rfl rfl rfl | exact wanted_yes2 rfl rfl rfl | exact wanted_no2 rfl rfl rfl)); (focus (intro hx9; (try simp only [Bool.not_eq_true', Bool.and_eq_true, Bool.not_not] at hx9); (try obtain ⟨hx9, hy9⟩ := hx9); (try subst hy9); (try subst hx9); (first | exact gives_and rfl rfl rfl rfl | exact gives_or rfl rfl rfl rfl | (intro wS hS; obtain ⟨s0, s1, _⟩ := id hS; obtain ⟨k1, f1, z1⟩ := of_block s1; go_wp2_with (first | (go_at_call 14; (with_reducible refine (letter_any _ _ _).mono ?_); rintro e w9 ⟨rfl, hb9⟩)); (first | exact ⟨rfl, rfl, hS⟩ | exact ⟨rfl, rfl, holds_old hS hb9⟩); done))))))); rfl; (try simp only [Act.put, List.setIfInBounds_toArray, List.set_cons_succ, List.set_cons_zero]))
  apply walked_nil
  intro wS hH
  rw [letter_cat]
  obtain ⟨_, s1, _⟩ := id hH
  obtain ⟨k1, f1, z1⟩ := of_block s1
  go_wp2_with fail
  refine (parse_good a0 a1 a2 _ rfl _).mono ?_
  rintro e w2 ⟨rfl, hb2⟩
  have hH := holds_new #[.bool a0, .bool a1, .bool a2] 23 (holds_old hH hb2)
  go_wp2_with fail
  refine (HP.out _).mono ?_
  rintro e w3 ⟨rfl, hb3⟩
  have hH := holds_new #[.bool false, .bool false, .bool true] 23 (holds_old hH hb3)
  obtain ⟨_, s3, s2, s1, _⟩ := id hH
  obtain ⟨k1, f1, z1⟩ := of_block (keep_old hb3 (keep_alloc _ (keep_old hb2 (by assumption))))
  obtain ⟨k2, f2, z2⟩ := of_block (keep_old hb3 (new_block w2 _))
  clear s1 s2 s3
  go_wp2_with (first | (go_at_call 16; (with_reducible refine (permTold_calls _).mono ?_); rintro e w9 ⟨rfl, hb9⟩; have hH := holds_old hH hb9; obtain ⟨_, s1, s2, s3, _⟩ := id hH; obtain ⟨k1, f1, z1⟩ := of_block s1; obtain ⟨k2, f2, z2⟩ := of_block s2; obtain ⟨k3, f3, z3⟩ := of_block s3) | (go_at_call 17; (with_reducible refine (text_calls a0 a1 a2 _).mono ?_); rintro e w9 ⟨rfl, hb9⟩; have hH := holds_old hH hb9; obtain ⟨_, s1, s2, s3, _⟩ := id hH; obtain ⟨k1, f1, z1⟩ := of_block s1; obtain ⟨k2, f2, z2⟩ := of_block s2; obtain ⟨k3, f3, z3⟩ := of_block s3) | (go_at_call 17; (with_reducible refine (text_any _ _ _ s Hs.out _).mono ?_); rintro e w9 ⟨rfl, hb9⟩; have hH := holds_old hH hb9; obtain ⟨_, s1, s2, s3, _⟩ := id hH; obtain ⟨k1, f1, z1⟩ := of_block s1; obtain ⟨k2, f2, z2⟩ := of_block s2; obtain ⟨k3, f3, z3⟩ := of_block s3))
  go_returns
  exact ⟨rfl, hH.1⟩

set_option maxHeartbeats 8000000 in
set_option maxRecDepth 100000 in
theorem texts_good_fff (a0 a1 a2 : Bool) (s : ByteArray) (hs : permText false false false = s) (hP : ParsesTo s false false false 0) (hsz : s.size = 3) (e0 : ∀ h, s[0]'h = 45) (e1 : ∀ h, s[1]'h = 45) (e2 : ∀ h, s[2]'h = 45) (w : World) :
    Calls Try.prog 3 #[.agg #[.bool a0, .bool a1, .bool a2], .string s] w (RetB w (.bool true)) := by
  have hq : ∀ w' : World, (Op.equalIn 10000 23 (.agg #[.bool a0, .bool a1, .bool a2]) (.agg #[.bool a0, .bool a1, .bool a2])).run Try.prog w' = .ok true w' := fun w' => by rw [eq_perm]; simp
  have hq0 : ∀ w' : World, (Op.equalIn 10000 23 (.agg #[.bool false, .bool false, .bool false]) (.agg #[.bool false, .bool false, .bool false])).run Try.prog w' = .ok true w' := fun w' => by rw [eq_perm]; simp
  have hz0 := letter_size a0 114
  have hz1 := letter_size a1 119
  have hz2 := letter_size a2 120
  have hz3 : (letterB a0 ⟨#[114]⟩ ++ letterB a1 ⟨#[119]⟩).size = 2 := by rw [ByteArray.size_append, hz0, hz1]
  have HP := Lib.hid hP
  clear hP
  have Hs := Lib.hid hs
  clear hs
  go_enter Try.func3, Try.ntmps3
  go_wp2
  have hH := holds_new #[.bool a0, .bool a1, .bool a2] 23 (holds_nil w)
  refine wp_region_walked (S := Holds w [(w.heap.size, #[.bool a0, .bool a1, .bool a2], 23)]) (by kernel_rfl) (by kernel_rfl) (holds_drew hH) ?_
  clear hH
  repeat (apply walked_cons; (first | exact gives_and rfl rfl rfl rfl | exact gives_or rfl rfl rfl rfl | (focus (intro wS hS; obtain ⟨s0, s1, _⟩ := id hS; obtain ⟨k1, f1, z1⟩ := of_block s1; go_wp2_with (first | (go_at_call 14; (with_reducible refine (letter_any _ _ _).mono ?_); rintro e w9 ⟨rfl, hb9⟩)); (first | exact ⟨rfl, rfl, hS⟩ | exact ⟨rfl, rfl, holds_old hS hb9⟩); done)) | (focus (apply gives_guard; (focus (first | exact wanted_yes rfl rfl rfl | exact wanted_no rfl rfl rfl | exact wanted_yes2 rfl rfl rfl | exact wanted_no2 rfl rfl rfl)); (focus (intro hx9; (try simp only [Bool.not_eq_true', Bool.and_eq_true, Bool.not_not] at hx9); (try obtain ⟨hx9, hy9⟩ := hx9); (try subst hy9); (try subst hx9); (first | exact gives_and rfl rfl rfl rfl | exact gives_or rfl rfl rfl rfl | (intro wS hS; obtain ⟨s0, s1, _⟩ := id hS; obtain ⟨k1, f1, z1⟩ := of_block s1; go_wp2_with (first | (go_at_call 14; (with_reducible refine (letter_any _ _ _).mono ?_); rintro e w9 ⟨rfl, hb9⟩)); (first | exact ⟨rfl, rfl, hS⟩ | exact ⟨rfl, rfl, holds_old hS hb9⟩); done))))))); rfl; (try simp only [Act.put, List.setIfInBounds_toArray, List.set_cons_succ, List.set_cons_zero]))
  apply walked_nil
  intro wS hH
  rw [letter_cat]
  obtain ⟨_, s1, _⟩ := id hH
  obtain ⟨k1, f1, z1⟩ := of_block s1
  go_wp2_with fail
  refine (parse_good a0 a1 a2 _ rfl _).mono ?_
  rintro e w2 ⟨rfl, hb2⟩
  have hH := holds_new #[.bool a0, .bool a1, .bool a2] 23 (holds_old hH hb2)
  go_wp2_with fail
  refine (HP.out _).mono ?_
  rintro e w3 ⟨rfl, hb3⟩
  have hH := holds_new #[.bool false, .bool false, .bool false] 23 (holds_old hH hb3)
  obtain ⟨_, s3, s2, s1, _⟩ := id hH
  obtain ⟨k1, f1, z1⟩ := of_block (keep_old hb3 (keep_alloc _ (keep_old hb2 (by assumption))))
  obtain ⟨k2, f2, z2⟩ := of_block (keep_old hb3 (new_block w2 _))
  clear s1 s2 s3
  go_wp2_with (first | (go_at_call 16; (with_reducible refine (permTold_calls _).mono ?_); rintro e w9 ⟨rfl, hb9⟩; have hH := holds_old hH hb9; obtain ⟨_, s1, s2, s3, _⟩ := id hH; obtain ⟨k1, f1, z1⟩ := of_block s1; obtain ⟨k2, f2, z2⟩ := of_block s2; obtain ⟨k3, f3, z3⟩ := of_block s3) | (go_at_call 17; (with_reducible refine (text_calls a0 a1 a2 _).mono ?_); rintro e w9 ⟨rfl, hb9⟩; have hH := holds_old hH hb9; obtain ⟨_, s1, s2, s3, _⟩ := id hH; obtain ⟨k1, f1, z1⟩ := of_block s1; obtain ⟨k2, f2, z2⟩ := of_block s2; obtain ⟨k3, f3, z3⟩ := of_block s3) | (go_at_call 17; (with_reducible refine (text_any _ _ _ s Hs.out _).mono ?_); rintro e w9 ⟨rfl, hb9⟩; have hH := holds_old hH hb9; obtain ⟨_, s1, s2, s3, _⟩ := id hH; obtain ⟨k1, f1, z1⟩ := of_block s1; obtain ⟨k2, f2, z2⟩ := of_block s2; obtain ⟨k3, f3, z3⟩ := of_block s3))
  go_returns
  exact ⟨rfl, hH.1⟩

set_option maxHeartbeats 8000000 in
set_option maxRecDepth 100000 in
theorem texts_bad_size (a0 a1 a2 : Bool) (s : ByteArray) (hP : ParsesTo s false false false 4) (hsz : (((s.size : Nat) : Int) == 3) = false) (w : World) :
    Calls Try.prog 3 #[.agg #[.bool a0, .bool a1, .bool a2], .string s] w (RetB w (.bool true)) := by
  have hq : ∀ w' : World, (Op.equalIn 10000 23 (.agg #[.bool a0, .bool a1, .bool a2]) (.agg #[.bool a0, .bool a1, .bool a2])).run Try.prog w' = .ok true w' := fun w' => by rw [eq_perm]; simp
  have hq0 : ∀ w' : World, (Op.equalIn 10000 23 (.agg #[.bool false, .bool false, .bool false]) (.agg #[.bool false, .bool false, .bool false])).run Try.prog w' = .ok true w' := fun w' => by rw [eq_perm]; simp
  have hz0 := letter_size a0 114
  have hz1 := letter_size a1 119
  have hz2 := letter_size a2 120
  have hz3 : (letterB a0 ⟨#[114]⟩ ++ letterB a1 ⟨#[119]⟩).size = 2 := by rw [ByteArray.size_append, hz0, hz1]
  have HP := Lib.hid hP
  clear hP
  go_enter Try.func3, Try.ntmps3
  go_wp2
  have hH := holds_new #[.bool a0, .bool a1, .bool a2] 23 (holds_nil w)
  refine wp_region_walked (S := Holds w [(w.heap.size, #[.bool a0, .bool a1, .bool a2], 23)]) (by kernel_rfl) (by kernel_rfl) (holds_drew hH) ?_
  clear hH
  repeat (apply walked_cons; (first | exact gives_and rfl rfl rfl rfl | exact gives_or rfl rfl rfl rfl | (focus (intro wS hS; obtain ⟨s0, s1, _⟩ := id hS; obtain ⟨k1, f1, z1⟩ := of_block s1; go_wp2_with (first | (go_at_call 14; (with_reducible refine (letter_any _ _ _).mono ?_); rintro e w9 ⟨rfl, hb9⟩)); (first | exact ⟨rfl, rfl, hS⟩ | exact ⟨rfl, rfl, holds_old hS hb9⟩); done)) | (focus (apply gives_guard; (focus (first | exact wanted_yes rfl rfl rfl | exact wanted_no rfl rfl rfl | exact wanted_yes2 rfl rfl rfl | exact wanted_no2 rfl rfl rfl)); (focus (intro hx9; (try simp only [Bool.not_eq_true', Bool.and_eq_true, Bool.not_not] at hx9); (try obtain ⟨hx9, hy9⟩ := hx9); (try subst hy9); (try subst hx9); (first | exact gives_and rfl rfl rfl rfl | exact gives_or rfl rfl rfl rfl | (intro wS hS; obtain ⟨s0, s1, _⟩ := id hS; obtain ⟨k1, f1, z1⟩ := of_block s1; go_wp2_with (first | (go_at_call 14; (with_reducible refine (letter_any _ _ _).mono ?_); rintro e w9 ⟨rfl, hb9⟩)); (first | exact ⟨rfl, rfl, hS⟩ | exact ⟨rfl, rfl, holds_old hS hb9⟩); done))))))); rfl; (try simp only [Act.put, List.setIfInBounds_toArray, List.set_cons_succ, List.set_cons_zero]))
  apply walked_nil
  intro wS hH
  rw [letter_cat]
  obtain ⟨_, s1, _⟩ := id hH
  obtain ⟨k1, f1, z1⟩ := of_block s1
  go_wp2_with fail
  refine (parse_good a0 a1 a2 _ rfl _).mono ?_
  rintro e w2 ⟨rfl, hb2⟩
  have hH := holds_new #[.bool a0, .bool a1, .bool a2] 23 (holds_old hH hb2)
  go_wp2_with fail
  refine (HP.out _).mono ?_
  rintro e w3 ⟨rfl, hb3⟩
  have hH := holds_new #[.bool false, .bool false, .bool false] 23 (holds_old hH hb3)
  obtain ⟨_, s3, s2, s1, _⟩ := id hH
  obtain ⟨k1, f1, z1⟩ := of_block (keep_old hb3 (keep_alloc _ (keep_old hb2 (by assumption))))
  obtain ⟨k2, f2, z2⟩ := of_block (keep_old hb3 (new_block w2 _))
  clear s1 s2 s3
  go_wp2_with (first | (go_at_call 16; (with_reducible refine (permTold_calls _).mono ?_); rintro e w9 ⟨rfl, hb9⟩; have hH := holds_old hH hb9; obtain ⟨_, s1, s2, s3, _⟩ := id hH; obtain ⟨k1, f1, z1⟩ := of_block s1; obtain ⟨k2, f2, z2⟩ := of_block s2; obtain ⟨k3, f3, z3⟩ := of_block s3) | (go_at_call 17; (with_reducible refine (text_calls a0 a1 a2 _).mono ?_); rintro e w9 ⟨rfl, hb9⟩; have hH := holds_old hH hb9; obtain ⟨_, s1, s2, s3, _⟩ := id hH; obtain ⟨k1, f1, z1⟩ := of_block s1; obtain ⟨k2, f2, z2⟩ := of_block s2; obtain ⟨k3, f3, z3⟩ := of_block s3))
  go_returns
  exact ⟨rfl, hH.1⟩

set_option maxHeartbeats 8000000 in
set_option maxRecDepth 100000 in
theorem texts_bad_0 (a0 a1 a2 : Bool) (s : ByteArray) (hP : ParsesTo s false false false 4) (hsz : s.size = 3) (n0 : ∀ h, (((s[0]'h).toNat : Int) == 114) = false) (m0 : ∀ h, (((s[0]'h).toNat : Int) == 45) = false) (w : World) :
    Calls Try.prog 3 #[.agg #[.bool a0, .bool a1, .bool a2], .string s] w (RetB w (.bool true)) := by
  have hq : ∀ w' : World, (Op.equalIn 10000 23 (.agg #[.bool a0, .bool a1, .bool a2]) (.agg #[.bool a0, .bool a1, .bool a2])).run Try.prog w' = .ok true w' := fun w' => by rw [eq_perm]; simp
  have hq0 : ∀ w' : World, (Op.equalIn 10000 23 (.agg #[.bool false, .bool false, .bool false]) (.agg #[.bool false, .bool false, .bool false])).run Try.prog w' = .ok true w' := fun w' => by rw [eq_perm]; simp
  have hz0 := letter_size a0 114
  have hz1 := letter_size a1 119
  have hz2 := letter_size a2 120
  have hz3 : (letterB a0 ⟨#[114]⟩ ++ letterB a1 ⟨#[119]⟩).size = 2 := by rw [ByteArray.size_append, hz0, hz1]
  have HP := Lib.hid hP
  clear hP
  go_enter Try.func3, Try.ntmps3
  go_wp2
  have hH := holds_new #[.bool a0, .bool a1, .bool a2] 23 (holds_nil w)
  refine wp_region_walked (S := Holds w [(w.heap.size, #[.bool a0, .bool a1, .bool a2], 23)]) (by kernel_rfl) (by kernel_rfl) (holds_drew hH) ?_
  clear hH
  repeat (apply walked_cons; (first | exact gives_and rfl rfl rfl rfl | exact gives_or rfl rfl rfl rfl | (focus (intro wS hS; obtain ⟨s0, s1, _⟩ := id hS; obtain ⟨k1, f1, z1⟩ := of_block s1; go_wp2_with (first | (go_at_call 14; (with_reducible refine (letter_any _ _ _).mono ?_); rintro e w9 ⟨rfl, hb9⟩)); (first | exact ⟨rfl, rfl, hS⟩ | exact ⟨rfl, rfl, holds_old hS hb9⟩); done)) | (focus (apply gives_guard; (focus (first | exact wanted_yes rfl rfl rfl | exact wanted_no rfl rfl rfl | exact wanted_yes2 rfl rfl rfl | exact wanted_no2 rfl rfl rfl)); (focus (intro hx9; (try simp only [Bool.not_eq_true', Bool.and_eq_true, Bool.not_not] at hx9); (try obtain ⟨hx9, hy9⟩ := hx9); (try subst hy9); (try subst hx9); (first | exact gives_and rfl rfl rfl rfl | exact gives_or rfl rfl rfl rfl | (intro wS hS; obtain ⟨s0, s1, _⟩ := id hS; obtain ⟨k1, f1, z1⟩ := of_block s1; go_wp2_with (first | (go_at_call 14; (with_reducible refine (letter_any _ _ _).mono ?_); rintro e w9 ⟨rfl, hb9⟩)); (first | exact ⟨rfl, rfl, hS⟩ | exact ⟨rfl, rfl, holds_old hS hb9⟩); done))))))); rfl; (try simp only [Act.put, List.setIfInBounds_toArray, List.set_cons_succ, List.set_cons_zero]))
  apply walked_nil
  intro wS hH
  rw [letter_cat]
  obtain ⟨_, s1, _⟩ := id hH
  obtain ⟨k1, f1, z1⟩ := of_block s1
  go_wp2_with fail
  refine (parse_good a0 a1 a2 _ rfl _).mono ?_
  rintro e w2 ⟨rfl, hb2⟩
  have hH := holds_new #[.bool a0, .bool a1, .bool a2] 23 (holds_old hH hb2)
  go_wp2_with fail
  refine (HP.out _).mono ?_
  rintro e w3 ⟨rfl, hb3⟩
  have hH := holds_new #[.bool false, .bool false, .bool false] 23 (holds_old hH hb3)
  obtain ⟨_, s3, s2, s1, _⟩ := id hH
  obtain ⟨k1, f1, z1⟩ := of_block (keep_old hb3 (keep_alloc _ (keep_old hb2 (by assumption))))
  obtain ⟨k2, f2, z2⟩ := of_block (keep_old hb3 (new_block w2 _))
  clear s1 s2 s3
  go_wp2_with (first | (go_at_call 16; (with_reducible refine (permTold_calls _).mono ?_); rintro e w9 ⟨rfl, hb9⟩; have hH := holds_old hH hb9; obtain ⟨_, s1, s2, s3, _⟩ := id hH; obtain ⟨k1, f1, z1⟩ := of_block s1; obtain ⟨k2, f2, z2⟩ := of_block s2; obtain ⟨k3, f3, z3⟩ := of_block s3) | (go_at_call 17; (with_reducible refine (text_calls a0 a1 a2 _).mono ?_); rintro e w9 ⟨rfl, hb9⟩; have hH := holds_old hH hb9; obtain ⟨_, s1, s2, s3, _⟩ := id hH; obtain ⟨k1, f1, z1⟩ := of_block s1; obtain ⟨k2, f2, z2⟩ := of_block s2; obtain ⟨k3, f3, z3⟩ := of_block s3))
  go_returns
  exact ⟨rfl, hH.1⟩

set_option maxHeartbeats 8000000 in
set_option maxRecDepth 100000 in
theorem texts_bad_1_114 (a0 a1 a2 : Bool) (s : ByteArray) (hP : ParsesTo s false false false 4) (hsz : s.size = 3) (e0 : ∀ h, s[0]'h = 114) (n1 : ∀ h, (((s[1]'h).toNat : Int) == 119) = false) (m1 : ∀ h, (((s[1]'h).toNat : Int) == 45) = false) (w : World) :
    Calls Try.prog 3 #[.agg #[.bool a0, .bool a1, .bool a2], .string s] w (RetB w (.bool true)) := by
  have hq : ∀ w' : World, (Op.equalIn 10000 23 (.agg #[.bool a0, .bool a1, .bool a2]) (.agg #[.bool a0, .bool a1, .bool a2])).run Try.prog w' = .ok true w' := fun w' => by rw [eq_perm]; simp
  have hq0 : ∀ w' : World, (Op.equalIn 10000 23 (.agg #[.bool false, .bool false, .bool false]) (.agg #[.bool false, .bool false, .bool false])).run Try.prog w' = .ok true w' := fun w' => by rw [eq_perm]; simp
  have hz0 := letter_size a0 114
  have hz1 := letter_size a1 119
  have hz2 := letter_size a2 120
  have hz3 : (letterB a0 ⟨#[114]⟩ ++ letterB a1 ⟨#[119]⟩).size = 2 := by rw [ByteArray.size_append, hz0, hz1]
  have HP := Lib.hid hP
  clear hP
  go_enter Try.func3, Try.ntmps3
  go_wp2
  have hH := holds_new #[.bool a0, .bool a1, .bool a2] 23 (holds_nil w)
  refine wp_region_walked (S := Holds w [(w.heap.size, #[.bool a0, .bool a1, .bool a2], 23)]) (by kernel_rfl) (by kernel_rfl) (holds_drew hH) ?_
  clear hH
  repeat (apply walked_cons; (first | exact gives_and rfl rfl rfl rfl | exact gives_or rfl rfl rfl rfl | (focus (intro wS hS; obtain ⟨s0, s1, _⟩ := id hS; obtain ⟨k1, f1, z1⟩ := of_block s1; go_wp2_with (first | (go_at_call 14; (with_reducible refine (letter_any _ _ _).mono ?_); rintro e w9 ⟨rfl, hb9⟩)); (first | exact ⟨rfl, rfl, hS⟩ | exact ⟨rfl, rfl, holds_old hS hb9⟩); done)) | (focus (apply gives_guard; (focus (first | exact wanted_yes rfl rfl rfl | exact wanted_no rfl rfl rfl | exact wanted_yes2 rfl rfl rfl | exact wanted_no2 rfl rfl rfl)); (focus (intro hx9; (try simp only [Bool.not_eq_true', Bool.and_eq_true, Bool.not_not] at hx9); (try obtain ⟨hx9, hy9⟩ := hx9); (try subst hy9); (try subst hx9); (first | exact gives_and rfl rfl rfl rfl | exact gives_or rfl rfl rfl rfl | (intro wS hS; obtain ⟨s0, s1, _⟩ := id hS; obtain ⟨k1, f1, z1⟩ := of_block s1; go_wp2_with (first | (go_at_call 14; (with_reducible refine (letter_any _ _ _).mono ?_); rintro e w9 ⟨rfl, hb9⟩)); (first | exact ⟨rfl, rfl, hS⟩ | exact ⟨rfl, rfl, holds_old hS hb9⟩); done))))))); rfl; (try simp only [Act.put, List.setIfInBounds_toArray, List.set_cons_succ, List.set_cons_zero]))
  apply walked_nil
  intro wS hH
  rw [letter_cat]
  obtain ⟨_, s1, _⟩ := id hH
  obtain ⟨k1, f1, z1⟩ := of_block s1
  go_wp2_with fail
  refine (parse_good a0 a1 a2 _ rfl _).mono ?_
  rintro e w2 ⟨rfl, hb2⟩
  have hH := holds_new #[.bool a0, .bool a1, .bool a2] 23 (holds_old hH hb2)
  go_wp2_with fail
  refine (HP.out _).mono ?_
  rintro e w3 ⟨rfl, hb3⟩
  have hH := holds_new #[.bool false, .bool false, .bool false] 23 (holds_old hH hb3)
  obtain ⟨_, s3, s2, s1, _⟩ := id hH
  obtain ⟨k1, f1, z1⟩ := of_block (keep_old hb3 (keep_alloc _ (keep_old hb2 (by assumption))))
  obtain ⟨k2, f2, z2⟩ := of_block (keep_old hb3 (new_block w2 _))
  clear s1 s2 s3
  go_wp2_with (first | (go_at_call 16; (with_reducible refine (permTold_calls _).mono ?_); rintro e w9 ⟨rfl, hb9⟩; have hH := holds_old hH hb9; obtain ⟨_, s1, s2, s3, _⟩ := id hH; obtain ⟨k1, f1, z1⟩ := of_block s1; obtain ⟨k2, f2, z2⟩ := of_block s2; obtain ⟨k3, f3, z3⟩ := of_block s3) | (go_at_call 17; (with_reducible refine (text_calls a0 a1 a2 _).mono ?_); rintro e w9 ⟨rfl, hb9⟩; have hH := holds_old hH hb9; obtain ⟨_, s1, s2, s3, _⟩ := id hH; obtain ⟨k1, f1, z1⟩ := of_block s1; obtain ⟨k2, f2, z2⟩ := of_block s2; obtain ⟨k3, f3, z3⟩ := of_block s3))
  go_returns
  exact ⟨rfl, hH.1⟩

set_option maxHeartbeats 8000000 in
set_option maxRecDepth 100000 in
theorem texts_bad_2_114_119 (a0 a1 a2 : Bool) (s : ByteArray) (hP : ParsesTo s false false false 4) (hsz : s.size = 3) (e0 : ∀ h, s[0]'h = 114) (e1 : ∀ h, s[1]'h = 119) (n2 : ∀ h, (((s[2]'h).toNat : Int) == 120) = false) (m2 : ∀ h, (((s[2]'h).toNat : Int) == 45) = false) (w : World) :
    Calls Try.prog 3 #[.agg #[.bool a0, .bool a1, .bool a2], .string s] w (RetB w (.bool true)) := by
  have hq : ∀ w' : World, (Op.equalIn 10000 23 (.agg #[.bool a0, .bool a1, .bool a2]) (.agg #[.bool a0, .bool a1, .bool a2])).run Try.prog w' = .ok true w' := fun w' => by rw [eq_perm]; simp
  have hq0 : ∀ w' : World, (Op.equalIn 10000 23 (.agg #[.bool false, .bool false, .bool false]) (.agg #[.bool false, .bool false, .bool false])).run Try.prog w' = .ok true w' := fun w' => by rw [eq_perm]; simp
  have hz0 := letter_size a0 114
  have hz1 := letter_size a1 119
  have hz2 := letter_size a2 120
  have hz3 : (letterB a0 ⟨#[114]⟩ ++ letterB a1 ⟨#[119]⟩).size = 2 := by rw [ByteArray.size_append, hz0, hz1]
  have HP := Lib.hid hP
  clear hP
  go_enter Try.func3, Try.ntmps3
  go_wp2
  have hH := holds_new #[.bool a0, .bool a1, .bool a2] 23 (holds_nil w)
  refine wp_region_walked (S := Holds w [(w.heap.size, #[.bool a0, .bool a1, .bool a2], 23)]) (by kernel_rfl) (by kernel_rfl) (holds_drew hH) ?_
  clear hH
  repeat (apply walked_cons; (first | exact gives_and rfl rfl rfl rfl | exact gives_or rfl rfl rfl rfl | (focus (intro wS hS; obtain ⟨s0, s1, _⟩ := id hS; obtain ⟨k1, f1, z1⟩ := of_block s1; go_wp2_with (first | (go_at_call 14; (with_reducible refine (letter_any _ _ _).mono ?_); rintro e w9 ⟨rfl, hb9⟩)); (first | exact ⟨rfl, rfl, hS⟩ | exact ⟨rfl, rfl, holds_old hS hb9⟩); done)) | (focus (apply gives_guard; (focus (first | exact wanted_yes rfl rfl rfl | exact wanted_no rfl rfl rfl | exact wanted_yes2 rfl rfl rfl | exact wanted_no2 rfl rfl rfl)); (focus (intro hx9; (try simp only [Bool.not_eq_true', Bool.and_eq_true, Bool.not_not] at hx9); (try obtain ⟨hx9, hy9⟩ := hx9); (try subst hy9); (try subst hx9); (first | exact gives_and rfl rfl rfl rfl | exact gives_or rfl rfl rfl rfl | (intro wS hS; obtain ⟨s0, s1, _⟩ := id hS; obtain ⟨k1, f1, z1⟩ := of_block s1; go_wp2_with (first | (go_at_call 14; (with_reducible refine (letter_any _ _ _).mono ?_); rintro e w9 ⟨rfl, hb9⟩)); (first | exact ⟨rfl, rfl, hS⟩ | exact ⟨rfl, rfl, holds_old hS hb9⟩); done))))))); rfl; (try simp only [Act.put, List.setIfInBounds_toArray, List.set_cons_succ, List.set_cons_zero]))
  apply walked_nil
  intro wS hH
  rw [letter_cat]
  obtain ⟨_, s1, _⟩ := id hH
  obtain ⟨k1, f1, z1⟩ := of_block s1
  go_wp2_with fail
  refine (parse_good a0 a1 a2 _ rfl _).mono ?_
  rintro e w2 ⟨rfl, hb2⟩
  have hH := holds_new #[.bool a0, .bool a1, .bool a2] 23 (holds_old hH hb2)
  go_wp2_with fail
  refine (HP.out _).mono ?_
  rintro e w3 ⟨rfl, hb3⟩
  have hH := holds_new #[.bool false, .bool false, .bool false] 23 (holds_old hH hb3)
  obtain ⟨_, s3, s2, s1, _⟩ := id hH
  obtain ⟨k1, f1, z1⟩ := of_block (keep_old hb3 (keep_alloc _ (keep_old hb2 (by assumption))))
  obtain ⟨k2, f2, z2⟩ := of_block (keep_old hb3 (new_block w2 _))
  clear s1 s2 s3
  go_wp2_with (first | (go_at_call 16; (with_reducible refine (permTold_calls _).mono ?_); rintro e w9 ⟨rfl, hb9⟩; have hH := holds_old hH hb9; obtain ⟨_, s1, s2, s3, _⟩ := id hH; obtain ⟨k1, f1, z1⟩ := of_block s1; obtain ⟨k2, f2, z2⟩ := of_block s2; obtain ⟨k3, f3, z3⟩ := of_block s3) | (go_at_call 17; (with_reducible refine (text_calls a0 a1 a2 _).mono ?_); rintro e w9 ⟨rfl, hb9⟩; have hH := holds_old hH hb9; obtain ⟨_, s1, s2, s3, _⟩ := id hH; obtain ⟨k1, f1, z1⟩ := of_block s1; obtain ⟨k2, f2, z2⟩ := of_block s2; obtain ⟨k3, f3, z3⟩ := of_block s3))
  go_returns
  exact ⟨rfl, hH.1⟩

set_option maxHeartbeats 8000000 in
set_option maxRecDepth 100000 in
theorem texts_bad_2_114_45 (a0 a1 a2 : Bool) (s : ByteArray) (hP : ParsesTo s false false false 4) (hsz : s.size = 3) (e0 : ∀ h, s[0]'h = 114) (e1 : ∀ h, s[1]'h = 45) (n2 : ∀ h, (((s[2]'h).toNat : Int) == 120) = false) (m2 : ∀ h, (((s[2]'h).toNat : Int) == 45) = false) (w : World) :
    Calls Try.prog 3 #[.agg #[.bool a0, .bool a1, .bool a2], .string s] w (RetB w (.bool true)) := by
  have hq : ∀ w' : World, (Op.equalIn 10000 23 (.agg #[.bool a0, .bool a1, .bool a2]) (.agg #[.bool a0, .bool a1, .bool a2])).run Try.prog w' = .ok true w' := fun w' => by rw [eq_perm]; simp
  have hq0 : ∀ w' : World, (Op.equalIn 10000 23 (.agg #[.bool false, .bool false, .bool false]) (.agg #[.bool false, .bool false, .bool false])).run Try.prog w' = .ok true w' := fun w' => by rw [eq_perm]; simp
  have hz0 := letter_size a0 114
  have hz1 := letter_size a1 119
  have hz2 := letter_size a2 120
  have hz3 : (letterB a0 ⟨#[114]⟩ ++ letterB a1 ⟨#[119]⟩).size = 2 := by rw [ByteArray.size_append, hz0, hz1]
  have HP := Lib.hid hP
  clear hP
  go_enter Try.func3, Try.ntmps3
  go_wp2
  have hH := holds_new #[.bool a0, .bool a1, .bool a2] 23 (holds_nil w)
  refine wp_region_walked (S := Holds w [(w.heap.size, #[.bool a0, .bool a1, .bool a2], 23)]) (by kernel_rfl) (by kernel_rfl) (holds_drew hH) ?_
  clear hH
  repeat (apply walked_cons; (first | exact gives_and rfl rfl rfl rfl | exact gives_or rfl rfl rfl rfl | (focus (intro wS hS; obtain ⟨s0, s1, _⟩ := id hS; obtain ⟨k1, f1, z1⟩ := of_block s1; go_wp2_with (first | (go_at_call 14; (with_reducible refine (letter_any _ _ _).mono ?_); rintro e w9 ⟨rfl, hb9⟩)); (first | exact ⟨rfl, rfl, hS⟩ | exact ⟨rfl, rfl, holds_old hS hb9⟩); done)) | (focus (apply gives_guard; (focus (first | exact wanted_yes rfl rfl rfl | exact wanted_no rfl rfl rfl | exact wanted_yes2 rfl rfl rfl | exact wanted_no2 rfl rfl rfl)); (focus (intro hx9; (try simp only [Bool.not_eq_true', Bool.and_eq_true, Bool.not_not] at hx9); (try obtain ⟨hx9, hy9⟩ := hx9); (try subst hy9); (try subst hx9); (first | exact gives_and rfl rfl rfl rfl | exact gives_or rfl rfl rfl rfl | (intro wS hS; obtain ⟨s0, s1, _⟩ := id hS; obtain ⟨k1, f1, z1⟩ := of_block s1; go_wp2_with (first | (go_at_call 14; (with_reducible refine (letter_any _ _ _).mono ?_); rintro e w9 ⟨rfl, hb9⟩)); (first | exact ⟨rfl, rfl, hS⟩ | exact ⟨rfl, rfl, holds_old hS hb9⟩); done))))))); rfl; (try simp only [Act.put, List.setIfInBounds_toArray, List.set_cons_succ, List.set_cons_zero]))
  apply walked_nil
  intro wS hH
  rw [letter_cat]
  obtain ⟨_, s1, _⟩ := id hH
  obtain ⟨k1, f1, z1⟩ := of_block s1
  go_wp2_with fail
  refine (parse_good a0 a1 a2 _ rfl _).mono ?_
  rintro e w2 ⟨rfl, hb2⟩
  have hH := holds_new #[.bool a0, .bool a1, .bool a2] 23 (holds_old hH hb2)
  go_wp2_with fail
  refine (HP.out _).mono ?_
  rintro e w3 ⟨rfl, hb3⟩
  have hH := holds_new #[.bool false, .bool false, .bool false] 23 (holds_old hH hb3)
  obtain ⟨_, s3, s2, s1, _⟩ := id hH
  obtain ⟨k1, f1, z1⟩ := of_block (keep_old hb3 (keep_alloc _ (keep_old hb2 (by assumption))))
  obtain ⟨k2, f2, z2⟩ := of_block (keep_old hb3 (new_block w2 _))
  clear s1 s2 s3
  go_wp2_with (first | (go_at_call 16; (with_reducible refine (permTold_calls _).mono ?_); rintro e w9 ⟨rfl, hb9⟩; have hH := holds_old hH hb9; obtain ⟨_, s1, s2, s3, _⟩ := id hH; obtain ⟨k1, f1, z1⟩ := of_block s1; obtain ⟨k2, f2, z2⟩ := of_block s2; obtain ⟨k3, f3, z3⟩ := of_block s3) | (go_at_call 17; (with_reducible refine (text_calls a0 a1 a2 _).mono ?_); rintro e w9 ⟨rfl, hb9⟩; have hH := holds_old hH hb9; obtain ⟨_, s1, s2, s3, _⟩ := id hH; obtain ⟨k1, f1, z1⟩ := of_block s1; obtain ⟨k2, f2, z2⟩ := of_block s2; obtain ⟨k3, f3, z3⟩ := of_block s3))
  go_returns
  exact ⟨rfl, hH.1⟩

set_option maxHeartbeats 8000000 in
set_option maxRecDepth 100000 in
theorem texts_bad_1_45 (a0 a1 a2 : Bool) (s : ByteArray) (hP : ParsesTo s false false false 4) (hsz : s.size = 3) (e0 : ∀ h, s[0]'h = 45) (n1 : ∀ h, (((s[1]'h).toNat : Int) == 119) = false) (m1 : ∀ h, (((s[1]'h).toNat : Int) == 45) = false) (w : World) :
    Calls Try.prog 3 #[.agg #[.bool a0, .bool a1, .bool a2], .string s] w (RetB w (.bool true)) := by
  have hq : ∀ w' : World, (Op.equalIn 10000 23 (.agg #[.bool a0, .bool a1, .bool a2]) (.agg #[.bool a0, .bool a1, .bool a2])).run Try.prog w' = .ok true w' := fun w' => by rw [eq_perm]; simp
  have hq0 : ∀ w' : World, (Op.equalIn 10000 23 (.agg #[.bool false, .bool false, .bool false]) (.agg #[.bool false, .bool false, .bool false])).run Try.prog w' = .ok true w' := fun w' => by rw [eq_perm]; simp
  have hz0 := letter_size a0 114
  have hz1 := letter_size a1 119
  have hz2 := letter_size a2 120
  have hz3 : (letterB a0 ⟨#[114]⟩ ++ letterB a1 ⟨#[119]⟩).size = 2 := by rw [ByteArray.size_append, hz0, hz1]
  have HP := Lib.hid hP
  clear hP
  go_enter Try.func3, Try.ntmps3
  go_wp2
  have hH := holds_new #[.bool a0, .bool a1, .bool a2] 23 (holds_nil w)
  refine wp_region_walked (S := Holds w [(w.heap.size, #[.bool a0, .bool a1, .bool a2], 23)]) (by kernel_rfl) (by kernel_rfl) (holds_drew hH) ?_
  clear hH
  repeat (apply walked_cons; (first | exact gives_and rfl rfl rfl rfl | exact gives_or rfl rfl rfl rfl | (focus (intro wS hS; obtain ⟨s0, s1, _⟩ := id hS; obtain ⟨k1, f1, z1⟩ := of_block s1; go_wp2_with (first | (go_at_call 14; (with_reducible refine (letter_any _ _ _).mono ?_); rintro e w9 ⟨rfl, hb9⟩)); (first | exact ⟨rfl, rfl, hS⟩ | exact ⟨rfl, rfl, holds_old hS hb9⟩); done)) | (focus (apply gives_guard; (focus (first | exact wanted_yes rfl rfl rfl | exact wanted_no rfl rfl rfl | exact wanted_yes2 rfl rfl rfl | exact wanted_no2 rfl rfl rfl)); (focus (intro hx9; (try simp only [Bool.not_eq_true', Bool.and_eq_true, Bool.not_not] at hx9); (try obtain ⟨hx9, hy9⟩ := hx9); (try subst hy9); (try subst hx9); (first | exact gives_and rfl rfl rfl rfl | exact gives_or rfl rfl rfl rfl | (intro wS hS; obtain ⟨s0, s1, _⟩ := id hS; obtain ⟨k1, f1, z1⟩ := of_block s1; go_wp2_with (first | (go_at_call 14; (with_reducible refine (letter_any _ _ _).mono ?_); rintro e w9 ⟨rfl, hb9⟩)); (first | exact ⟨rfl, rfl, hS⟩ | exact ⟨rfl, rfl, holds_old hS hb9⟩); done))))))); rfl; (try simp only [Act.put, List.setIfInBounds_toArray, List.set_cons_succ, List.set_cons_zero]))
  apply walked_nil
  intro wS hH
  rw [letter_cat]
  obtain ⟨_, s1, _⟩ := id hH
  obtain ⟨k1, f1, z1⟩ := of_block s1
  go_wp2_with fail
  refine (parse_good a0 a1 a2 _ rfl _).mono ?_
  rintro e w2 ⟨rfl, hb2⟩
  have hH := holds_new #[.bool a0, .bool a1, .bool a2] 23 (holds_old hH hb2)
  go_wp2_with fail
  refine (HP.out _).mono ?_
  rintro e w3 ⟨rfl, hb3⟩
  have hH := holds_new #[.bool false, .bool false, .bool false] 23 (holds_old hH hb3)
  obtain ⟨_, s3, s2, s1, _⟩ := id hH
  obtain ⟨k1, f1, z1⟩ := of_block (keep_old hb3 (keep_alloc _ (keep_old hb2 (by assumption))))
  obtain ⟨k2, f2, z2⟩ := of_block (keep_old hb3 (new_block w2 _))
  clear s1 s2 s3
  go_wp2_with (first | (go_at_call 16; (with_reducible refine (permTold_calls _).mono ?_); rintro e w9 ⟨rfl, hb9⟩; have hH := holds_old hH hb9; obtain ⟨_, s1, s2, s3, _⟩ := id hH; obtain ⟨k1, f1, z1⟩ := of_block s1; obtain ⟨k2, f2, z2⟩ := of_block s2; obtain ⟨k3, f3, z3⟩ := of_block s3) | (go_at_call 17; (with_reducible refine (text_calls a0 a1 a2 _).mono ?_); rintro e w9 ⟨rfl, hb9⟩; have hH := holds_old hH hb9; obtain ⟨_, s1, s2, s3, _⟩ := id hH; obtain ⟨k1, f1, z1⟩ := of_block s1; obtain ⟨k2, f2, z2⟩ := of_block s2; obtain ⟨k3, f3, z3⟩ := of_block s3))
  go_returns
  exact ⟨rfl, hH.1⟩

set_option maxHeartbeats 8000000 in
set_option maxRecDepth 100000 in
theorem texts_bad_2_45_119 (a0 a1 a2 : Bool) (s : ByteArray) (hP : ParsesTo s false false false 4) (hsz : s.size = 3) (e0 : ∀ h, s[0]'h = 45) (e1 : ∀ h, s[1]'h = 119) (n2 : ∀ h, (((s[2]'h).toNat : Int) == 120) = false) (m2 : ∀ h, (((s[2]'h).toNat : Int) == 45) = false) (w : World) :
    Calls Try.prog 3 #[.agg #[.bool a0, .bool a1, .bool a2], .string s] w (RetB w (.bool true)) := by
  have hq : ∀ w' : World, (Op.equalIn 10000 23 (.agg #[.bool a0, .bool a1, .bool a2]) (.agg #[.bool a0, .bool a1, .bool a2])).run Try.prog w' = .ok true w' := fun w' => by rw [eq_perm]; simp
  have hq0 : ∀ w' : World, (Op.equalIn 10000 23 (.agg #[.bool false, .bool false, .bool false]) (.agg #[.bool false, .bool false, .bool false])).run Try.prog w' = .ok true w' := fun w' => by rw [eq_perm]; simp
  have hz0 := letter_size a0 114
  have hz1 := letter_size a1 119
  have hz2 := letter_size a2 120
  have hz3 : (letterB a0 ⟨#[114]⟩ ++ letterB a1 ⟨#[119]⟩).size = 2 := by rw [ByteArray.size_append, hz0, hz1]
  have HP := Lib.hid hP
  clear hP
  go_enter Try.func3, Try.ntmps3
  go_wp2
  have hH := holds_new #[.bool a0, .bool a1, .bool a2] 23 (holds_nil w)
  refine wp_region_walked (S := Holds w [(w.heap.size, #[.bool a0, .bool a1, .bool a2], 23)]) (by kernel_rfl) (by kernel_rfl) (holds_drew hH) ?_
  clear hH
  repeat (apply walked_cons; (first | exact gives_and rfl rfl rfl rfl | exact gives_or rfl rfl rfl rfl | (focus (intro wS hS; obtain ⟨s0, s1, _⟩ := id hS; obtain ⟨k1, f1, z1⟩ := of_block s1; go_wp2_with (first | (go_at_call 14; (with_reducible refine (letter_any _ _ _).mono ?_); rintro e w9 ⟨rfl, hb9⟩)); (first | exact ⟨rfl, rfl, hS⟩ | exact ⟨rfl, rfl, holds_old hS hb9⟩); done)) | (focus (apply gives_guard; (focus (first | exact wanted_yes rfl rfl rfl | exact wanted_no rfl rfl rfl | exact wanted_yes2 rfl rfl rfl | exact wanted_no2 rfl rfl rfl)); (focus (intro hx9; (try simp only [Bool.not_eq_true', Bool.and_eq_true, Bool.not_not] at hx9); (try obtain ⟨hx9, hy9⟩ := hx9); (try subst hy9); (try subst hx9); (first | exact gives_and rfl rfl rfl rfl | exact gives_or rfl rfl rfl rfl | (intro wS hS; obtain ⟨s0, s1, _⟩ := id hS; obtain ⟨k1, f1, z1⟩ := of_block s1; go_wp2_with (first | (go_at_call 14; (with_reducible refine (letter_any _ _ _).mono ?_); rintro e w9 ⟨rfl, hb9⟩)); (first | exact ⟨rfl, rfl, hS⟩ | exact ⟨rfl, rfl, holds_old hS hb9⟩); done))))))); rfl; (try simp only [Act.put, List.setIfInBounds_toArray, List.set_cons_succ, List.set_cons_zero]))
  apply walked_nil
  intro wS hH
  rw [letter_cat]
  obtain ⟨_, s1, _⟩ := id hH
  obtain ⟨k1, f1, z1⟩ := of_block s1
  go_wp2_with fail
  refine (parse_good a0 a1 a2 _ rfl _).mono ?_
  rintro e w2 ⟨rfl, hb2⟩
  have hH := holds_new #[.bool a0, .bool a1, .bool a2] 23 (holds_old hH hb2)
  go_wp2_with fail
  refine (HP.out _).mono ?_
  rintro e w3 ⟨rfl, hb3⟩
  have hH := holds_new #[.bool false, .bool false, .bool false] 23 (holds_old hH hb3)
  obtain ⟨_, s3, s2, s1, _⟩ := id hH
  obtain ⟨k1, f1, z1⟩ := of_block (keep_old hb3 (keep_alloc _ (keep_old hb2 (by assumption))))
  obtain ⟨k2, f2, z2⟩ := of_block (keep_old hb3 (new_block w2 _))
  clear s1 s2 s3
  go_wp2_with (first | (go_at_call 16; (with_reducible refine (permTold_calls _).mono ?_); rintro e w9 ⟨rfl, hb9⟩; have hH := holds_old hH hb9; obtain ⟨_, s1, s2, s3, _⟩ := id hH; obtain ⟨k1, f1, z1⟩ := of_block s1; obtain ⟨k2, f2, z2⟩ := of_block s2; obtain ⟨k3, f3, z3⟩ := of_block s3) | (go_at_call 17; (with_reducible refine (text_calls a0 a1 a2 _).mono ?_); rintro e w9 ⟨rfl, hb9⟩; have hH := holds_old hH hb9; obtain ⟨_, s1, s2, s3, _⟩ := id hH; obtain ⟨k1, f1, z1⟩ := of_block s1; obtain ⟨k2, f2, z2⟩ := of_block s2; obtain ⟨k3, f3, z3⟩ := of_block s3))
  go_returns
  exact ⟨rfl, hH.1⟩

set_option maxHeartbeats 8000000 in
set_option maxRecDepth 100000 in
theorem texts_bad_2_45_45 (a0 a1 a2 : Bool) (s : ByteArray) (hP : ParsesTo s false false false 4) (hsz : s.size = 3) (e0 : ∀ h, s[0]'h = 45) (e1 : ∀ h, s[1]'h = 45) (n2 : ∀ h, (((s[2]'h).toNat : Int) == 120) = false) (m2 : ∀ h, (((s[2]'h).toNat : Int) == 45) = false) (w : World) :
    Calls Try.prog 3 #[.agg #[.bool a0, .bool a1, .bool a2], .string s] w (RetB w (.bool true)) := by
  have hq : ∀ w' : World, (Op.equalIn 10000 23 (.agg #[.bool a0, .bool a1, .bool a2]) (.agg #[.bool a0, .bool a1, .bool a2])).run Try.prog w' = .ok true w' := fun w' => by rw [eq_perm]; simp
  have hq0 : ∀ w' : World, (Op.equalIn 10000 23 (.agg #[.bool false, .bool false, .bool false]) (.agg #[.bool false, .bool false, .bool false])).run Try.prog w' = .ok true w' := fun w' => by rw [eq_perm]; simp
  have hz0 := letter_size a0 114
  have hz1 := letter_size a1 119
  have hz2 := letter_size a2 120
  have hz3 : (letterB a0 ⟨#[114]⟩ ++ letterB a1 ⟨#[119]⟩).size = 2 := by rw [ByteArray.size_append, hz0, hz1]
  have HP := Lib.hid hP
  clear hP
  go_enter Try.func3, Try.ntmps3
  go_wp2
  have hH := holds_new #[.bool a0, .bool a1, .bool a2] 23 (holds_nil w)
  refine wp_region_walked (S := Holds w [(w.heap.size, #[.bool a0, .bool a1, .bool a2], 23)]) (by kernel_rfl) (by kernel_rfl) (holds_drew hH) ?_
  clear hH
  repeat (apply walked_cons; (first | exact gives_and rfl rfl rfl rfl | exact gives_or rfl rfl rfl rfl | (focus (intro wS hS; obtain ⟨s0, s1, _⟩ := id hS; obtain ⟨k1, f1, z1⟩ := of_block s1; go_wp2_with (first | (go_at_call 14; (with_reducible refine (letter_any _ _ _).mono ?_); rintro e w9 ⟨rfl, hb9⟩)); (first | exact ⟨rfl, rfl, hS⟩ | exact ⟨rfl, rfl, holds_old hS hb9⟩); done)) | (focus (apply gives_guard; (focus (first | exact wanted_yes rfl rfl rfl | exact wanted_no rfl rfl rfl | exact wanted_yes2 rfl rfl rfl | exact wanted_no2 rfl rfl rfl)); (focus (intro hx9; (try simp only [Bool.not_eq_true', Bool.and_eq_true, Bool.not_not] at hx9); (try obtain ⟨hx9, hy9⟩ := hx9); (try subst hy9); (try subst hx9); (first | exact gives_and rfl rfl rfl rfl | exact gives_or rfl rfl rfl rfl | (intro wS hS; obtain ⟨s0, s1, _⟩ := id hS; obtain ⟨k1, f1, z1⟩ := of_block s1; go_wp2_with (first | (go_at_call 14; (with_reducible refine (letter_any _ _ _).mono ?_); rintro e w9 ⟨rfl, hb9⟩)); (first | exact ⟨rfl, rfl, hS⟩ | exact ⟨rfl, rfl, holds_old hS hb9⟩); done))))))); rfl; (try simp only [Act.put, List.setIfInBounds_toArray, List.set_cons_succ, List.set_cons_zero]))
  apply walked_nil
  intro wS hH
  rw [letter_cat]
  obtain ⟨_, s1, _⟩ := id hH
  obtain ⟨k1, f1, z1⟩ := of_block s1
  go_wp2_with fail
  refine (parse_good a0 a1 a2 _ rfl _).mono ?_
  rintro e w2 ⟨rfl, hb2⟩
  have hH := holds_new #[.bool a0, .bool a1, .bool a2] 23 (holds_old hH hb2)
  go_wp2_with fail
  refine (HP.out _).mono ?_
  rintro e w3 ⟨rfl, hb3⟩
  have hH := holds_new #[.bool false, .bool false, .bool false] 23 (holds_old hH hb3)
  obtain ⟨_, s3, s2, s1, _⟩ := id hH
  obtain ⟨k1, f1, z1⟩ := of_block (keep_old hb3 (keep_alloc _ (keep_old hb2 (by assumption))))
  obtain ⟨k2, f2, z2⟩ := of_block (keep_old hb3 (new_block w2 _))
  clear s1 s2 s3
  go_wp2_with (first | (go_at_call 16; (with_reducible refine (permTold_calls _).mono ?_); rintro e w9 ⟨rfl, hb9⟩; have hH := holds_old hH hb9; obtain ⟨_, s1, s2, s3, _⟩ := id hH; obtain ⟨k1, f1, z1⟩ := of_block s1; obtain ⟨k2, f2, z2⟩ := of_block s2; obtain ⟨k3, f3, z3⟩ := of_block s3) | (go_at_call 17; (with_reducible refine (text_calls a0 a1 a2 _).mono ?_); rintro e w9 ⟨rfl, hb9⟩; have hH := holds_old hH hb9; obtain ⟨_, s1, s2, s3, _⟩ := id hH; obtain ⟨k1, f1, z1⟩ := of_block s1; obtain ⟨k2, f2, z2⟩ := of_block s2; obtain ⟨k3, f3, z3⟩ := of_block s3))
  go_returns
  exact ⟨rfl, hH.1⟩

theorem three_ext (s : ByteArray) (hsz : s.size = 3) : s = ⟨#[s[0]'(by omega), s[1]'(by omega), s[2]'(by omega)]⟩ := by
  apply ByteArray.ext
  apply Array.ext
  · exact hsz
  · intro i h1 h2
    have hi : i < 3 := h2
    match i, hi with
    | 0, _ => rfl
    | 1, _ => rfl
    | 2, _ => rfl

theorem byte_ne (c d : UInt8) (h : c ≠ d) : (((c.toNat : Nat) : Int) == (d.toNat : Int)) = false := by
  rw [beq_eq_false_iff_ne]
  intro e
  exact h (UInt8.toNat_inj.1 (by omega))

set_option maxRecDepth 100000 in
theorem permTexts_walk (a0 a1 a2 : Bool) (s : ByteArray) (_ : s.size ≤ maxLen) (w : World) :
    Calls Try.prog 3 #[.agg #[.bool a0, .bool a1, .bool a2], .string s] w (RetB w (.bool true)) := by
  by_cases hg : ∃ b0 b1 b2, permText b0 b1 b2 = s
  · obtain ⟨b0, b1, b2, hs⟩ := hg
    have hP : ParsesTo s b0 b1 b2 0 := fun w => parse_good b0 b1 b2 s hs w
    have hsz : s.size = 3 := by rw [← hs]; rfl
    cases b0 <;> cases b1 <;> cases b2
    · exact texts_good_fff a0 a1 a2 s hs hP hsz (by subst hs; intro h; rfl) (by subst hs; intro h; rfl) (by subst hs; intro h; rfl) w
    · exact texts_good_fft a0 a1 a2 s hs hP hsz (by subst hs; intro h; rfl) (by subst hs; intro h; rfl) (by subst hs; intro h; rfl) w
    · exact texts_good_ftf a0 a1 a2 s hs hP hsz (by subst hs; intro h; rfl) (by subst hs; intro h; rfl) (by subst hs; intro h; rfl) w
    · exact texts_good_ftt a0 a1 a2 s hs hP hsz (by subst hs; intro h; rfl) (by subst hs; intro h; rfl) (by subst hs; intro h; rfl) w
    · exact texts_good_tff a0 a1 a2 s hs hP hsz (by subst hs; intro h; rfl) (by subst hs; intro h; rfl) (by subst hs; intro h; rfl) w
    · exact texts_good_tft a0 a1 a2 s hs hP hsz (by subst hs; intro h; rfl) (by subst hs; intro h; rfl) (by subst hs; intro h; rfl) w
    · exact texts_good_ttf a0 a1 a2 s hs hP hsz (by subst hs; intro h; rfl) (by subst hs; intro h; rfl) (by subst hs; intro h; rfl) w
    · exact texts_good_ttt a0 a1 a2 s hs hP hsz (by subst hs; intro h; rfl) (by subst hs; intro h; rfl) (by subst hs; intro h; rfl) w
  · have hn : ∀ b0 b1 b2, permText b0 b1 b2 ≠ s := fun b0 b1 b2 e => hg ⟨b0, b1, b2, e⟩
    have hP : ParsesTo s false false false 4 := fun w => parse_bad s hn w
    by_cases hsz : s.size = 3
    · have h3 := three_ext s hsz
      have h0 : 0 < s.size := by omega
      have h1 : 1 < s.size := by omega
      have h2 : 2 < s.size := by omega
      by_cases x1 : s[0] = 114 ∨ s[0] = 45
      · by_cases y1 : s[1] = 119 ∨ s[1] = 45
        · have z1 : ¬ (s[2] = 120 ∨ s[2] = 45) := by
            intro z1
            rcases x1 with x1 | x1 <;> rcases y1 with y1 | y1 <;> rcases z1 with z1 | z1 <;> rw [x1, y1, z1] at h3
            · exact hn true true true h3.symm
            · exact hn true true false h3.symm
            · exact hn true false true h3.symm
            · exact hn true false false h3.symm
            · exact hn false true true h3.symm
            · exact hn false true false h3.symm
            · exact hn false false true h3.symm
            · exact hn false false false h3.symm
          have n2 : ∀ h, (((s[2]'h).toNat : Int) == 120) = false := fun h => byte_ne _ 120 (fun e => z1 (.inl e))
          have m2 : ∀ h, (((s[2]'h).toNat : Int) == 45) = false := fun h => byte_ne _ 45 (fun e => z1 (.inr e))
          rcases x1 with x1 | x1 <;> rcases y1 with y1 | y1
          · exact texts_bad_2_114_119 a0 a1 a2 s hP hsz (fun _ => x1) (fun _ => y1) n2 m2 w
          · exact texts_bad_2_114_45 a0 a1 a2 s hP hsz (fun _ => x1) (fun _ => y1) n2 m2 w
          · exact texts_bad_2_45_119 a0 a1 a2 s hP hsz (fun _ => x1) (fun _ => y1) n2 m2 w
          · exact texts_bad_2_45_45 a0 a1 a2 s hP hsz (fun _ => x1) (fun _ => y1) n2 m2 w
        · have n1 : ∀ h, (((s[1]'h).toNat : Int) == 119) = false := fun h => byte_ne _ 119 (fun e => y1 (.inl e))
          have m1 : ∀ h, (((s[1]'h).toNat : Int) == 45) = false := fun h => byte_ne _ 45 (fun e => y1 (.inr e))
          rcases x1 with x1 | x1
          · exact texts_bad_1_114 a0 a1 a2 s hP hsz (fun _ => x1) n1 m1 w
          · exact texts_bad_1_45 a0 a1 a2 s hP hsz (fun _ => x1) n1 m1 w
      · exact texts_bad_0 a0 a1 a2 s hP hsz (fun h => byte_ne _ 114 (fun e => x1 (.inl e))) (fun h => byte_ne _ 45 (fun e => x1 (.inr e))) w
    · exact texts_bad_size a0 a1 a2 s hP (by rw [beq_eq_false_iff_ne]; omega) w

end Go.Proofs.Ytbnbchclbblbkaa
