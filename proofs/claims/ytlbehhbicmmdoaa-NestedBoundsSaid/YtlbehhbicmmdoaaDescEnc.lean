/- The contracts of desc.Encode and of the document's Encode. -/
import Derived.Test.YtlbehhbicmmdoaaDescCheck
import Derived.Test.YtlbehhbicmmdoaaDescRefCheck
import Derived.Test.YtlbehhbicmmdoaaDescN
namespace Go.Proofs.Ytlbehhbicmmdoaa
set_option linter.unusedVariables false
set_option linter.unusedSimpArgs false
open Go.RowKit

def encW (st lv k : Int) (a : Nat) (r wr x : Bool) (s : Int) : Nat := if checkC st lv k a r wr x s = 0 ∧ k ≠ 0 then wordN k a r wr x s.toNat else 0
abbrev descV (k : Int) (a : Nat) (r wr x : Bool) (s : Int) : Value := .agg #[.int .i64 k, .int .u64 (a : Nat), .bool r, .bool wr, .bool x, .int .i64 s]
abbrev EncL (w : World) (k : Int) (a : Nat) (r wr x : Bool) (s : Int) : List (Nat × Array Value × TypeId) := [(w.heap.size, #[.int .i64 k, .int .u64 (a : Nat), .bool r, .bool wr, .bool x, .int .i64 s], 48)]

set_option maxHeartbeats 2000000 in
set_option maxRecDepth 100000 in
theorem encode_calls (st lv k : Int) (a : Nat) (r wr x : Bool) (s : Int) (w : World) :
    Calls Try.prog 73 #[.int .i64 st, .int .i64 lv, descV k a r wr x s] w (RetB w (.tuple #[.int .u64 (encW st lv k a r wr x s : Nat), .int .i64 (checkC st lv k a r wr x s)])) := by
  have hck := descCheck_calls st lv k a r wr x s
  by_cases hE : checkC st lv k a r wr x s = 0
  · by_cases hk : k = 0
    · have h0 : encW st lv k a r wr x s = 0 := by unfold encW; rw [if_neg (by simp [hk])]
      rw [h0, hE]
      rw [hE] at hck
      subst hk
      clear h0 hE
      go_enter Try.func73, Try.ntmps73
      go_upto_region 1 with (fail)
      have hH := holds_new #[.int .i64 0, .int .u64 (a : Nat), .bool r, .bool wr, .bool x, .int .i64 s] 48 (holds_nil w)
      generalize w.alloc (.cells #[.int .i64 0, .int .u64 (a : Nat), .bool r, .bool wr, .bool x, .int .i64 s] 48) = W at *
      obtain ⟨s0, s1, _⟩ := id hH
      obtain ⟨k1, f1, z1⟩ := of_block s1
      go_wp2_with ((go_at_call 74; (with_reducible refine (hck _).mono ?_); rintro e w9 ⟨rfl, hb9⟩; have hH := holds_old hH hb9; obtain ⟨_, s1, _⟩ := id hH; obtain ⟨k1, f1, z1⟩ := of_block s1))
      go_ret2
      exact ⟨rfl, hH.1⟩
    · have h0 : encW st lv k a r wr x s = wordN k a r wr x s.toNat := by unfold encW; rw [if_pos ⟨hE, hk⟩]
      have HZ := Lib.hid ((check_zero hk).1 hE)
      rw [h0, hE]
      rw [hE] at hck
      clear h0 hE
      go_enter Try.func73, Try.ntmps73
      go_upto_region 1 with (fail)
      have hH := holds_new #[.int .i64 k, .int .u64 (a : Nat), .bool r, .bool wr, .bool x, .int .i64 s] 48 (holds_nil w)
      generalize w.alloc (.cells #[.int .i64 k, .int .u64 (a : Nat), .bool r, .bool wr, .bool x, .int .i64 s] 48) = W at *
      obtain ⟨s0, s1, _⟩ := id hH
      obtain ⟨k1, f1, z1⟩ := of_block s1
      go_wp2_with ((go_at_call 74; (with_reducible refine (hck _).mono ?_); rintro e w9 ⟨rfl, hb9⟩; have hH := holds_old hH hb9; obtain ⟨_, s1, _⟩ := id hH; obtain ⟨k1, f1, z1⟩ := of_block s1))
      refine wp_region_walked (S := Holds w (EncL w k a r wr x s)) (by kernel_rfl) (by kernel_rfl) (holds_drew hH) ?_
      repeat (apply walked_cons; (first | exact gives_and rfl rfl rfl rfl | exact gives_or rfl rfl rfl rfl | (focus (intro wS hS; obtain ⟨s0, s1, _⟩ := id hS; obtain ⟨k1, f1, z1⟩ := of_block s1; go_wp2_with (((go_at_call 80); (first | (with_reducible refine (flag_calls _ 1 1 rfl (.inl rfl) _).mono ?_) | (with_reducible refine (flag_calls _ 6 6 rfl (.inr (.inl rfl)) _).mono ?_) | (with_reducible refine (flag_calls _ 7 7 rfl (.inr (.inr (.inl rfl))) _).mono ?_) | (with_reducible refine (flag_calls _ 8 8 rfl (.inr (.inr (.inr rfl))) _).mono ?_)); rintro e w9 ⟨rfl, hb9⟩)); (first | exact ⟨rfl, rfl, hS⟩ | exact ⟨rfl, rfl, holds_old hS hb9⟩); done)) | (focus (apply gives_guard; (focus (first | exact wanted_yes rfl rfl rfl | exact wanted_no rfl rfl rfl | exact wanted_yes2 rfl rfl rfl | exact wanted_no2 rfl rfl rfl)); (focus (intro hx9; (try simp only [Bool.not_eq_true', Bool.and_eq_true, Bool.not_not] at hx9); (try obtain ⟨hx9, hy9⟩ := hx9); (try subst hy9); (try subst hx9); (first | exact gives_and rfl rfl rfl rfl | exact gives_or rfl rfl rfl rfl | (intro wS hS; obtain ⟨s0, s1, _⟩ := id hS; obtain ⟨k1, f1, z1⟩ := of_block s1; go_wp2_with (((go_at_call 80); (first | (with_reducible refine (flag_calls _ 1 1 rfl (.inl rfl) _).mono ?_) | (with_reducible refine (flag_calls _ 6 6 rfl (.inr (.inl rfl)) _).mono ?_) | (with_reducible refine (flag_calls _ 7 7 rfl (.inr (.inr (.inl rfl))) _).mono ?_) | (with_reducible refine (flag_calls _ 8 8 rfl (.inr (.inr (.inr rfl))) _).mono ?_)); rintro e w9 ⟨rfl, hb9⟩)); (first | exact ⟨rfl, rfl, hS⟩ | exact ⟨rfl, rfl, holds_old hS hb9⟩); done))))))); rfl; (try simp only [Act.put, List.setIfInBounds_toArray, List.set_cons_succ, List.set_cons_zero]))
      apply walked_nil
      intro wS hH
      obtain ⟨s0, s1, _⟩ := id hH
      obtain ⟨k1, f1, z1⟩ := of_block s1
      go_wp2
      obtain ⟨hp, q1, q2, q3, q4, _, _, _, _, _, q5, q6, _⟩ := HZ.out
      have htop := topN_le st
      have hW := @word_or k a r wr x s q6 (by omega) q3 q4
      rw [hW]
      go_ret2
      exact ⟨rfl, hH.1⟩
  · have h0 : encW st lv k a r wr x s = 0 := by unfold encW; rw [if_neg (by simp [hE])]
    rw [h0]
    generalize checkC st lv k a r wr x s = e at *
    have hne : (e != 0) = true := bne_iff_ne.2 hE
    clear h0 hE
    go_enter Try.func73, Try.ntmps73
    go_upto_region 1 with (fail)
    have hH := holds_new #[.int .i64 k, .int .u64 (a : Nat), .bool r, .bool wr, .bool x, .int .i64 s] 48 (holds_nil w)
    generalize w.alloc (.cells #[.int .i64 k, .int .u64 (a : Nat), .bool r, .bool wr, .bool x, .int .i64 s] 48) = W at *
    obtain ⟨s0, s1, _⟩ := id hH
    obtain ⟨k1, f1, z1⟩ := of_block s1
    go_wp2_with ((go_at_call 74; (with_reducible refine (hck _).mono ?_); rintro e w9 ⟨rfl, hb9⟩; have hH := holds_old hH hb9; obtain ⟨_, s1, _⟩ := id hH; obtain ⟨k1, f1, z1⟩ := of_block s1))
    go_ret2
    exact ⟨rfl, hH.1⟩

set_option maxHeartbeats 2000000 in
set_option maxRecDepth 100000 in
theorem refEncode_calls (st lv k : Int) (a : Nat) (r wr x : Bool) (s : Int) (w : World) :
    Calls Try.prog 44 #[.int .i64 st, .int .i64 lv, descV k a r wr x s] w (RetB w (.tuple #[.int .u64 (encW st lv k a r wr x s : Nat), .int .i64 (checkC st lv k a r wr x s)])) := by
  have hck := descRefCheck_calls st lv k a r wr x s
  by_cases hE : checkC st lv k a r wr x s = 0
  · by_cases hk : k = 0
    · have h0 : encW st lv k a r wr x s = 0 := by unfold encW; rw [if_neg (by simp [hk])]
      rw [h0, hE]
      rw [hE] at hck
      subst hk
      clear h0 hE
      go_enter Try.func44, Try.ntmps44
      go_upto_region 1 with (fail)
      have hH := holds_new #[.int .i64 0, .int .u64 (a : Nat), .bool r, .bool wr, .bool x, .int .i64 s] 48 (holds_nil w)
      generalize w.alloc (.cells #[.int .i64 0, .int .u64 (a : Nat), .bool r, .bool wr, .bool x, .int .i64 s] 48) = W at *
      obtain ⟨s0, s1, _⟩ := id hH
      obtain ⟨k1, f1, z1⟩ := of_block s1
      go_wp2_with ((go_at_call 68; (with_reducible refine (hck _).mono ?_); rintro e w9 ⟨rfl, hb9⟩; have hH := holds_old hH hb9; obtain ⟨_, s1, _⟩ := id hH; obtain ⟨k1, f1, z1⟩ := of_block s1))
      go_ret2
      exact ⟨rfl, hH.1⟩
    · have h0 : encW st lv k a r wr x s = wordN k a r wr x s.toNat := by unfold encW; rw [if_pos ⟨hE, hk⟩]
      have HZ := Lib.hid ((check_zero hk).1 hE)
      rw [h0, hE]
      rw [hE] at hck
      clear h0 hE
      go_enter Try.func44, Try.ntmps44
      go_upto_region 1 with (fail)
      have hH := holds_new #[.int .i64 k, .int .u64 (a : Nat), .bool r, .bool wr, .bool x, .int .i64 s] 48 (holds_nil w)
      generalize w.alloc (.cells #[.int .i64 k, .int .u64 (a : Nat), .bool r, .bool wr, .bool x, .int .i64 s] 48) = W at *
      obtain ⟨s0, s1, _⟩ := id hH
      obtain ⟨k1, f1, z1⟩ := of_block s1
      go_wp2_with ((go_at_call 68; (with_reducible refine (hck _).mono ?_); rintro e w9 ⟨rfl, hb9⟩; have hH := holds_old hH hb9; obtain ⟨_, s1, _⟩ := id hH; obtain ⟨k1, f1, z1⟩ := of_block s1))
      refine wp_region_walked (S := Holds w (EncL w k a r wr x s)) (by kernel_rfl) (by kernel_rfl) (holds_drew hH) ?_
      repeat (apply walked_cons; (first | exact gives_and rfl rfl rfl rfl | exact gives_or rfl rfl rfl rfl | (focus (intro wS hS; obtain ⟨s0, s1, _⟩ := id hS; obtain ⟨k1, f1, z1⟩ := of_block s1; go_wp2_with (((go_at_call 69); (first | (with_reducible refine (refBit_calls _ 1 1 rfl (.inl rfl) _).mono ?_) | (with_reducible refine (refBit_calls _ 6 6 rfl (.inr (.inl rfl)) _).mono ?_) | (with_reducible refine (refBit_calls _ 7 7 rfl (.inr (.inr (.inl rfl))) _).mono ?_) | (with_reducible refine (refBit_calls _ 8 8 rfl (.inr (.inr (.inr rfl))) _).mono ?_)); rintro e w9 ⟨rfl, hb9⟩)); (first | exact ⟨rfl, rfl, hS⟩ | exact ⟨rfl, rfl, holds_old hS hb9⟩); done)) | (focus (apply gives_guard; (focus (first | exact wanted_yes rfl rfl rfl | exact wanted_no rfl rfl rfl | exact wanted_yes2 rfl rfl rfl | exact wanted_no2 rfl rfl rfl)); (focus (intro hx9; (try simp only [Bool.not_eq_true', Bool.and_eq_true, Bool.not_not] at hx9); (try obtain ⟨hx9, hy9⟩ := hx9); (try subst hy9); (try subst hx9); (first | exact gives_and rfl rfl rfl rfl | exact gives_or rfl rfl rfl rfl | (intro wS hS; obtain ⟨s0, s1, _⟩ := id hS; obtain ⟨k1, f1, z1⟩ := of_block s1; go_wp2_with (((go_at_call 69); (first | (with_reducible refine (refBit_calls _ 1 1 rfl (.inl rfl) _).mono ?_) | (with_reducible refine (refBit_calls _ 6 6 rfl (.inr (.inl rfl)) _).mono ?_) | (with_reducible refine (refBit_calls _ 7 7 rfl (.inr (.inr (.inl rfl))) _).mono ?_) | (with_reducible refine (refBit_calls _ 8 8 rfl (.inr (.inr (.inr rfl))) _).mono ?_)); rintro e w9 ⟨rfl, hb9⟩)); (first | exact ⟨rfl, rfl, hS⟩ | exact ⟨rfl, rfl, holds_old hS hb9⟩); done))))))); rfl; (try simp only [Act.put, List.setIfInBounds_toArray, List.set_cons_succ, List.set_cons_zero]))
      apply walked_nil
      intro wS hH
      obtain ⟨s0, s1, _⟩ := id hH
      obtain ⟨k1, f1, z1⟩ := of_block s1
      go_wp2
      obtain ⟨hp, q1, q2, q3, q4, _, _, _, _, _, q5, q6, _⟩ := HZ.out
      have htop := topN_le st
      have hW := @word_add k a r wr x s q6 (by omega) q3 q4
      rw [hW]
      go_ret2
      exact ⟨rfl, hH.1⟩
  · have h0 : encW st lv k a r wr x s = 0 := by unfold encW; rw [if_neg (by simp [hE])]
    rw [h0]
    generalize checkC st lv k a r wr x s = e at *
    have hne : (e != 0) = true := bne_iff_ne.2 hE
    clear h0 hE
    go_enter Try.func44, Try.ntmps44
    go_upto_region 1 with (fail)
    have hH := holds_new #[.int .i64 k, .int .u64 (a : Nat), .bool r, .bool wr, .bool x, .int .i64 s] 48 (holds_nil w)
    generalize w.alloc (.cells #[.int .i64 k, .int .u64 (a : Nat), .bool r, .bool wr, .bool x, .int .i64 s] 48) = W at *
    obtain ⟨s0, s1, _⟩ := id hH
    obtain ⟨k1, f1, z1⟩ := of_block s1
    go_wp2_with ((go_at_call 68; (with_reducible refine (hck _).mono ?_); rintro e w9 ⟨rfl, hb9⟩; have hH := holds_old hH hb9; obtain ⟨_, s1, _⟩ := id hH; obtain ⟨k1, f1, z1⟩ := of_block s1))
    go_ret2
    exact ⟨rfl, hH.1⟩

end Go.Proofs.Ytlbehhbicmmdoaa
