/- The statement DescBack: its walk. -/
import Derived.Test.YtajilhckhdohnaaDescCodes
namespace Go.Proofs.Ytajilhckhdohnaa
set_option linter.unusedVariables false
set_option linter.unusedSimpArgs false
open Go.RowKit

theorem enc_lt {st lv k : Int} {a : Nat} {r wr x : Bool} {s : Nat} (h : checkC st lv k a r wr x (s : Nat) = 0) : encW st lv k a r wr x (s : Nat) < 18446744073709551616 := by
  unfold encW
  split
  · rename_i h2
    exact (dec_word h2.2 h).2.1
  · decide

theorem zero_of_none {st lv k : Int} {a : Nat} {r wr x : Bool} {s : Int} (hk : k = 0) (h : checkC st lv k a r wr x s = 0) : a = 0 ∧ s = 0 ∧ r = false ∧ wr = false ∧ x = false := by
  subst hk
  unfold checkC at h
  split at h
  · cases h
  split at h
  · cases h
  split at h
  · cases h
  rename_i _ _ h3
  have h3a : ¬ ((0 : Int) ≤ 1 ∧ (r || wr || x) = true) := fun e => h3 (.inl e)
  have h4 : a = 0 ∧ s = 0 := by omega
  refine ⟨h4.1, h4.2, ?_⟩
  have : ¬ (r || wr || x) = true := fun g => h3a ⟨by omega, g⟩
  revert this; cases r <;> cases wr <;> cases x <;> simp

/-- What was encoded is decoded. -/
theorem back_word {st lv k : Int} {a : Nat} {r wr x : Bool} {s : Nat} (hp : Place st lv) (h : checkC st lv k a r wr x (s : Nat) = 0) :
    decV st lv (encW st lv k a r wr x (s : Nat)) = descV k a r wr x (s : Nat) ∧ decE st lv (encW st lv k a r wr x (s : Nat)) = 0 ∧ (encW st lv k a r wr x (s : Nat) % 2 = 1 ↔ k ≠ 0) := by
  by_cases hk : k = 0
  · have h0 : encW st lv k a r wr x (s : Nat) = 0 := by unfold encW; rw [if_neg (fun e => e.2 hk)]
    rw [h0]
    obtain ⟨rfl, h1, rfl, rfl, rfl⟩ := zero_of_none hk h
    obtain rfl : s = 0 := by omega
    subst hk
    obtain ⟨d1, d2⟩ := dec_zero (st := st) (lv := lv) (x := 0) hp rfl
    exact ⟨d1, d2, by decide⟩
  · have h0 : encW st lv k a r wr x (s : Nat) = wordN k a r wr x s := by unfold encW; rw [if_pos ⟨h, hk⟩]; rfl
    rw [h0]
    obtain ⟨w1, w2, w3, w4, w5, w6, w7, w8, w9⟩ := dec_word hk h
    obtain ⟨d1, d2⟩ := dec_yes (st := st) (lv := lv) (x := wordN k a r wr x s) hp (by omega) w1
    rw [w4, w5, w6, w7, w8, w9] at d1
    exact ⟨d1, d2, by simp [w3, hk]⟩

/-- What is decoded is encoded. -/
theorem back_desc {st lv : Int} {x : Nat} (hp : Place st lv) (hv : x % 2 ≠ 0) (h : decE st lv x = 0) :
    encW st lv (decK lv x) (decA x) (bitB x 6) (bitB x 7) (bitB x 8) (decS x : Nat) = x ∧ checkC st lv (decK lv x) (decA x) (bitB x 6) (bitB x 7) (bitB x 8) (decS x : Nat) = 0 := by
  obtain ⟨h1, h2⟩ := dec_ok hp hv h
  have hk := decK_range lv x
  refine ⟨?_, h1⟩
  unfold encW
  rw [if_pos ⟨h1, by omega⟩]
  exact h2

theorem dec_errs {st lv : Int} {x : Nat} (hp : Place st lv) : decE st lv x = 0 ∨ decE st lv x = 2 ∨ decE st lv x = 4 := by
  unfold decE
  rw [if_neg (not_not_intro hp)]
  split
  · exact .inl rfl
  split
  · exact .inr (.inr rfl)
  split
  · exact .inr (.inl rfl)
  split
  · exact .inr (.inr rfl)
  · exact .inl rfl

theorem or_one (x : Nat) (hx : x < 18446744073709551616) : ∃ U : Nat, bits .or .u64 (x : Int) 1 = (U : Int) ∧ U < 18446744073709551616 ∧ U % 2 ≠ 0 ∧ U = x ||| 1 := by
  refine ⟨x ||| 1, ?_, ?_, ?_, rfl⟩
  · rw [show (1 : Int) = ((1 : Nat) : Int) from rfl, bits_or_u64_nat x 1 hx (by decide)]
  · rw [← two64] at hx ⊢
    exact Nat.or_lt_two_pow hx (by decide)
  · have h : (x ||| 1).testBit 0 = true := by rw [Nat.testBit_or]; simp
    rw [Nat.testBit_zero] at h
    have := of_decide_eq_true h
    omega

set_option maxHeartbeats 8000000 in
set_option maxRecDepth 100000 in
theorem descBack_walk (st : Int) (_ : (Lit.int .i64 st).wf = true) (lv : Int) (_ : (Lit.int .i64 lv).wf = true) (k : Int) (_ : (Lit.int .i64 k).wf = true) (ai : Int) (ha0 : (Lit.int .u64 ai).wf = true) (r wr x : Bool) (s : Int) (_ : (Lit.int .i64 s).wf = true)
    (vi : Int) (hv0 : (Lit.int .u64 vi).wf = true) (w : World) :
    Calls Try.prog 11 #[.int .i64 st, .int .i64 lv, .agg #[.int .i64 k, .int .u64 ai, .bool r, .bool wr, .bool x, .int .i64 s], .int .u64 vi] w (RetB w (.bool true)) := by
  obtain ⟨a, rfl, _⟩ := wf_u64 ha0
  obtain ⟨v, rfl, hv⟩ := wf_u64 hv0
  obtain ⟨S0, S, L, hm1, hS, hm3, hp⟩ := stage_level st lv
  have hnear := fun w => near_calls S L k a r wr x s w hp
  unfold nearV descV at hnear
  have hnc := @near_check S L k a r wr x s hp
  have e2 := encode_calls S L (nearK L k) (nearA S L k a) (nearR L k r) (nearW L k r wr) (nearR L k x) (nearS L k s : Nat)
  have hlt := enc_lt hnc
  obtain ⟨b1, b2, b3⟩ := back_word hp hnc
  have d2 := fun w => decode_calls S L (encW S L (nearK L k) (nearA S L k a) (nearR L k r) (nearW L k r wr) (nearR L k x) (nearS L k s : Nat)) w hlt
  rw [b1, b2] at d2
  unfold descV at d2
  rw [hnc] at e2
  generalize encW S L (nearK L k) (nearA S L k a) (nearR L k r) (nearW L k r wr) (nearR L k x) (nearS L k s : Nat) = X2 at *
  clear b1 b2 hnc
  generalize nearK L k = nk at *
  generalize nearA S L k a = na at *
  generalize nearR L k r = nr at *
  generalize nearW L k r wr = nw at *
  generalize nearR L k x = nx at *
  generalize nearS L k s = ns at *
  have hb1 : (bits .and .u64 (X2 : Int) 1 == 1) = (nk != 0) := by
    rw [and_one X2 hlt]
    by_cases hk : nk = 0
    · have : ¬ X2 % 2 = 1 := fun e => b3.1 e hk
      rw [show (nk != 0) = false by simp [hk], beq_eq_false_iff_ne]; omega
    · rw [bne_iff_ne.2 hk, b3.2 hk]; rfl
  have hbb : ((nk != 0) != (nk != 0)) = false := by cases (nk != 0) <;> rfl
  clear b3
  have heq : ∀ w : World, (Op.equalIn 10000 47 (.agg #[.int .i64 nk, .int .u64 (na : Nat), .bool nr, .bool nw, .bool nx, .int .i64 (ns : Nat)]) (.agg #[.int .i64 nk, .int .u64 (na : Nat), .bool nr, .bool nw, .bool nx, .int .i64 (ns : Nat)])).run Try.prog w = .ok true w := fun w => by rw [eq_desc]; simp
  have heq0 : ∀ w : World, (Op.equalIn 10000 47 (.agg #[.int .i64 0, .int .u64 0, .bool false, .bool false, .bool false, .int .i64 0]) (.agg #[.int .i64 0, .int .u64 0, .bool false, .bool false, .bool false, .int .i64 0])).run Try.prog w = .ok true w := fun w => by rw [eq_desc]; rfl
  obtain ⟨U, hor, hU, hU2, hUe⟩ := or_one v hv
  clear hUe
  have dU := fun w => decode_calls S L U w hU
  rcases dec_errs (x := U) hp with hg | hg | hg
  · have hy := (dec_yes hp hU2 hg).1
    obtain ⟨g1, g2⟩ := back_desc hp hU2 hg
    rw [hy, hg] at dU
    have eU := encode_calls S L (decK L U) (decA U) (bitB U 6) (bitB U 7) (bitB U 8) (decS U : Nat)
    have cU := descCheck_calls S L (decK L U) (decA U) (bitB U 6) (bitB U 7) (bitB U 8) (decS U : Nat)
    rw [g1, g2] at eU
    rw [g2] at cU
    unfold descV at dU
    clear hy g1 g2 hg hp hU2
    generalize decK L U = zk at *
    generalize decA U = za at *
    generalize bitB U 6 = z6 at *
    generalize bitB U 7 = z7 at *
    generalize bitB U 8 = z8 at *
    generalize decS U = zs at *
    go_enter Try.func11, Try.ntmps11
    go_upto_region 1 with (fail)
    have hH := holds_new #[.int .i64 k, .int .u64 (a : Nat), .bool r, .bool wr, .bool x, .int .i64 s] 47 (holds_nil w)
    generalize w.alloc (.cells #[.int .i64 k, .int .u64 (a : Nat), .bool r, .bool wr, .bool x, .int .i64 s] 47) = W at *
    obtain ⟨s0, s1, _⟩ := id hH
    obtain ⟨k1, f1, z1⟩ := of_block s1
    go_upto_region 3 with (first | (go_at_call 28; (with_reducible refine (hnear _).mono ?_); rintro e w9 ⟨rfl, hb9⟩; have hH := holds_old hH hb9; obtain ⟨_, s1, _⟩ := id hH; obtain ⟨k1, f1, z1⟩ := of_block s1))
    have hH := holds_new #[.int .i64 nk, .int .u64 (na : Nat), .bool nr, .bool nw, .bool nx, .int .i64 (ns : Nat)] 47 hH
    generalize w9.alloc (.cells #[.int .i64 nk, .int .u64 (na : Nat), .bool nr, .bool nw, .bool nx, .int .i64 (ns : Nat)] 47) = Wp1 at *
    generalize w9.heap.size = p1 at *
    obtain ⟨s0, s1, s2, _⟩ := id hH
    obtain ⟨k1, f1, z1⟩ := of_block s1
    obtain ⟨k2, f2, z2⟩ := of_block s2
    go_upto_region 5 with (first | (go_at_call 29; (with_reducible refine (e2 _).mono ?_); rintro e w9 ⟨rfl, hb9⟩; have hH := holds_old hH hb9; obtain ⟨_, s1, s2, _⟩ := id hH; obtain ⟨k1, f1, z1⟩ := of_block s1; obtain ⟨k2, f2, z2⟩ := of_block s2) | (go_at_call 36; (with_reducible refine (d2 _).mono ?_); rintro e w9 ⟨rfl, hb9⟩; have hH := holds_old hH hb9; obtain ⟨_, s1, s2, _⟩ := id hH; obtain ⟨k1, f1, z1⟩ := of_block s1; obtain ⟨k2, f2, z2⟩ := of_block s2))
    have hH := holds_new #[.int .i64 nk, .int .u64 (na : Nat), .bool nr, .bool nw, .bool nx, .int .i64 (ns : Nat)] 47 hH
    generalize w9.alloc (.cells #[.int .i64 nk, .int .u64 (na : Nat), .bool nr, .bool nw, .bool nx, .int .i64 (ns : Nat)] 47) = Wp2 at *
    generalize w9.heap.size = p2 at *
    obtain ⟨s0, s1, s2, s3, _⟩ := id hH
    obtain ⟨k1, f1, z1⟩ := of_block s1
    obtain ⟨k2, f2, z2⟩ := of_block s2
    obtain ⟨k3, f3, z3⟩ := of_block s3
    go_upto_region 8 with (first | (go_at_call 36; (with_reducible refine (dU _).mono ?_); rintro e w9 ⟨rfl, hb9⟩; have hH := holds_old hH hb9; obtain ⟨_, s1, s2, s3, _⟩ := id hH; obtain ⟨k1, f1, z1⟩ := of_block s1; obtain ⟨k2, f2, z2⟩ := of_block s2; obtain ⟨k3, f3, z3⟩ := of_block s3))
    have hH := holds_new #[.int .i64 zk, .int .u64 (za : Nat), .bool z6, .bool z7, .bool z8, .int .i64 (zs : Nat)] 47 hH
    generalize w9.alloc (.cells #[.int .i64 zk, .int .u64 (za : Nat), .bool z6, .bool z7, .bool z8, .int .i64 (zs : Nat)] 47) = Wp3 at *
    generalize w9.heap.size = p3 at *
    obtain ⟨s0, s1, s2, s3, s4, _⟩ := id hH
    obtain ⟨k1, f1, z1⟩ := of_block s1
    obtain ⟨k2, f2, z2⟩ := of_block s2
    obtain ⟨k3, f3, z3⟩ := of_block s3
    obtain ⟨k4, f4, z4⟩ := of_block s4
    go_wp2_with (first | (go_at_call 31; (with_reducible refine (descTold_calls _).mono ?_); rintro e w9 ⟨rfl, hb9⟩; have hH := holds_old hH hb9; obtain ⟨_, s1, s2, s3, s4, _⟩ := id hH; obtain ⟨k1, f1, z1⟩ := of_block s1; obtain ⟨k2, f2, z2⟩ := of_block s2; obtain ⟨k3, f3, z3⟩ := of_block s3; obtain ⟨k4, f4, z4⟩ := of_block s4) | (go_at_call 29; (with_reducible refine (eU _).mono ?_); rintro e w9 ⟨rfl, hb9⟩; have hH := holds_old hH hb9; obtain ⟨_, s1, s2, s3, s4, _⟩ := id hH; obtain ⟨k1, f1, z1⟩ := of_block s1; obtain ⟨k2, f2, z2⟩ := of_block s2; obtain ⟨k3, f3, z3⟩ := of_block s3; obtain ⟨k4, f4, z4⟩ := of_block s4) | (go_at_call 32; (with_reducible refine (cU _).mono ?_); rintro e w9 ⟨rfl, hb9⟩; have hH := holds_old hH hb9; obtain ⟨_, s1, s2, s3, s4, _⟩ := id hH; obtain ⟨k1, f1, z1⟩ := of_block s1; obtain ⟨k2, f2, z2⟩ := of_block s2; obtain ⟨k3, f3, z3⟩ := of_block s3; obtain ⟨k4, f4, z4⟩ := of_block s4))
    go_ret
    exact ⟨rfl, hH.1⟩
  · have hy := (dec_bad 2 hg (by decide)).1
    rw [hy, hg] at dU
    clear hy hg hp hU2
    go_enter Try.func11, Try.ntmps11
    go_upto_region 1 with (fail)
    have hH := holds_new #[.int .i64 k, .int .u64 (a : Nat), .bool r, .bool wr, .bool x, .int .i64 s] 47 (holds_nil w)
    generalize w.alloc (.cells #[.int .i64 k, .int .u64 (a : Nat), .bool r, .bool wr, .bool x, .int .i64 s] 47) = W at *
    obtain ⟨s0, s1, _⟩ := id hH
    obtain ⟨k1, f1, z1⟩ := of_block s1
    go_upto_region 3 with (first | (go_at_call 28; (with_reducible refine (hnear _).mono ?_); rintro e w9 ⟨rfl, hb9⟩; have hH := holds_old hH hb9; obtain ⟨_, s1, _⟩ := id hH; obtain ⟨k1, f1, z1⟩ := of_block s1))
    have hH := holds_new #[.int .i64 nk, .int .u64 (na : Nat), .bool nr, .bool nw, .bool nx, .int .i64 (ns : Nat)] 47 hH
    generalize w9.alloc (.cells #[.int .i64 nk, .int .u64 (na : Nat), .bool nr, .bool nw, .bool nx, .int .i64 (ns : Nat)] 47) = Wp1 at *
    generalize w9.heap.size = p1 at *
    obtain ⟨s0, s1, s2, _⟩ := id hH
    obtain ⟨k1, f1, z1⟩ := of_block s1
    obtain ⟨k2, f2, z2⟩ := of_block s2
    go_upto_region 5 with (first | (go_at_call 29; (with_reducible refine (e2 _).mono ?_); rintro e w9 ⟨rfl, hb9⟩; have hH := holds_old hH hb9; obtain ⟨_, s1, s2, _⟩ := id hH; obtain ⟨k1, f1, z1⟩ := of_block s1; obtain ⟨k2, f2, z2⟩ := of_block s2) | (go_at_call 36; (with_reducible refine (d2 _).mono ?_); rintro e w9 ⟨rfl, hb9⟩; have hH := holds_old hH hb9; obtain ⟨_, s1, s2, _⟩ := id hH; obtain ⟨k1, f1, z1⟩ := of_block s1; obtain ⟨k2, f2, z2⟩ := of_block s2))
    have hH := holds_new #[.int .i64 nk, .int .u64 (na : Nat), .bool nr, .bool nw, .bool nx, .int .i64 (ns : Nat)] 47 hH
    generalize w9.alloc (.cells #[.int .i64 nk, .int .u64 (na : Nat), .bool nr, .bool nw, .bool nx, .int .i64 (ns : Nat)] 47) = Wp2 at *
    generalize w9.heap.size = p2 at *
    obtain ⟨s0, s1, s2, s3, _⟩ := id hH
    obtain ⟨k1, f1, z1⟩ := of_block s1
    obtain ⟨k2, f2, z2⟩ := of_block s2
    obtain ⟨k3, f3, z3⟩ := of_block s3
    go_upto_region 8 with (first | (go_at_call 36; (with_reducible refine (dU _).mono ?_); rintro e w9 ⟨rfl, hb9⟩; have hH := holds_old hH hb9; obtain ⟨_, s1, s2, s3, _⟩ := id hH; obtain ⟨k1, f1, z1⟩ := of_block s1; obtain ⟨k2, f2, z2⟩ := of_block s2; obtain ⟨k3, f3, z3⟩ := of_block s3))
    have hH := holds_new #[.int .i64 0, .int .u64 0, .bool false, .bool false, .bool false, .int .i64 0] 47 hH
    generalize w9.alloc (.cells #[.int .i64 0, .int .u64 0, .bool false, .bool false, .bool false, .int .i64 0] 47) = Wp3 at *
    generalize w9.heap.size = p3 at *
    obtain ⟨s0, s1, s2, s3, s4, _⟩ := id hH
    obtain ⟨k1, f1, z1⟩ := of_block s1
    obtain ⟨k2, f2, z2⟩ := of_block s2
    obtain ⟨k3, f3, z3⟩ := of_block s3
    obtain ⟨k4, f4, z4⟩ := of_block s4
    go_wp2_with (first | (go_at_call 31; (with_reducible refine (descTold_calls _).mono ?_); rintro e w9 ⟨rfl, hb9⟩; have hH := holds_old hH hb9; obtain ⟨_, s1, s2, s3, s4, _⟩ := id hH; obtain ⟨k1, f1, z1⟩ := of_block s1; obtain ⟨k2, f2, z2⟩ := of_block s2; obtain ⟨k3, f3, z3⟩ := of_block s3; obtain ⟨k4, f4, z4⟩ := of_block s4))
    go_ret
    exact ⟨rfl, hH.1⟩
  · have hy := (dec_bad 4 hg (by decide)).1
    rw [hy, hg] at dU
    clear hy hg hp hU2
    go_enter Try.func11, Try.ntmps11
    go_upto_region 1 with (fail)
    have hH := holds_new #[.int .i64 k, .int .u64 (a : Nat), .bool r, .bool wr, .bool x, .int .i64 s] 47 (holds_nil w)
    generalize w.alloc (.cells #[.int .i64 k, .int .u64 (a : Nat), .bool r, .bool wr, .bool x, .int .i64 s] 47) = W at *
    obtain ⟨s0, s1, _⟩ := id hH
    obtain ⟨k1, f1, z1⟩ := of_block s1
    go_upto_region 3 with (first | (go_at_call 28; (with_reducible refine (hnear _).mono ?_); rintro e w9 ⟨rfl, hb9⟩; have hH := holds_old hH hb9; obtain ⟨_, s1, _⟩ := id hH; obtain ⟨k1, f1, z1⟩ := of_block s1))
    have hH := holds_new #[.int .i64 nk, .int .u64 (na : Nat), .bool nr, .bool nw, .bool nx, .int .i64 (ns : Nat)] 47 hH
    generalize w9.alloc (.cells #[.int .i64 nk, .int .u64 (na : Nat), .bool nr, .bool nw, .bool nx, .int .i64 (ns : Nat)] 47) = Wp1 at *
    generalize w9.heap.size = p1 at *
    obtain ⟨s0, s1, s2, _⟩ := id hH
    obtain ⟨k1, f1, z1⟩ := of_block s1
    obtain ⟨k2, f2, z2⟩ := of_block s2
    go_upto_region 5 with (first | (go_at_call 29; (with_reducible refine (e2 _).mono ?_); rintro e w9 ⟨rfl, hb9⟩; have hH := holds_old hH hb9; obtain ⟨_, s1, s2, _⟩ := id hH; obtain ⟨k1, f1, z1⟩ := of_block s1; obtain ⟨k2, f2, z2⟩ := of_block s2) | (go_at_call 36; (with_reducible refine (d2 _).mono ?_); rintro e w9 ⟨rfl, hb9⟩; have hH := holds_old hH hb9; obtain ⟨_, s1, s2, _⟩ := id hH; obtain ⟨k1, f1, z1⟩ := of_block s1; obtain ⟨k2, f2, z2⟩ := of_block s2))
    have hH := holds_new #[.int .i64 nk, .int .u64 (na : Nat), .bool nr, .bool nw, .bool nx, .int .i64 (ns : Nat)] 47 hH
    generalize w9.alloc (.cells #[.int .i64 nk, .int .u64 (na : Nat), .bool nr, .bool nw, .bool nx, .int .i64 (ns : Nat)] 47) = Wp2 at *
    generalize w9.heap.size = p2 at *
    obtain ⟨s0, s1, s2, s3, _⟩ := id hH
    obtain ⟨k1, f1, z1⟩ := of_block s1
    obtain ⟨k2, f2, z2⟩ := of_block s2
    obtain ⟨k3, f3, z3⟩ := of_block s3
    go_upto_region 8 with (first | (go_at_call 36; (with_reducible refine (dU _).mono ?_); rintro e w9 ⟨rfl, hb9⟩; have hH := holds_old hH hb9; obtain ⟨_, s1, s2, s3, _⟩ := id hH; obtain ⟨k1, f1, z1⟩ := of_block s1; obtain ⟨k2, f2, z2⟩ := of_block s2; obtain ⟨k3, f3, z3⟩ := of_block s3))
    have hH := holds_new #[.int .i64 0, .int .u64 0, .bool false, .bool false, .bool false, .int .i64 0] 47 hH
    generalize w9.alloc (.cells #[.int .i64 0, .int .u64 0, .bool false, .bool false, .bool false, .int .i64 0] 47) = Wp3 at *
    generalize w9.heap.size = p3 at *
    obtain ⟨s0, s1, s2, s3, s4, _⟩ := id hH
    obtain ⟨k1, f1, z1⟩ := of_block s1
    obtain ⟨k2, f2, z2⟩ := of_block s2
    obtain ⟨k3, f3, z3⟩ := of_block s3
    obtain ⟨k4, f4, z4⟩ := of_block s4
    go_wp2_with (first | (go_at_call 31; (with_reducible refine (descTold_calls _).mono ?_); rintro e w9 ⟨rfl, hb9⟩; have hH := holds_old hH hb9; obtain ⟨_, s1, s2, s3, s4, _⟩ := id hH; obtain ⟨k1, f1, z1⟩ := of_block s1; obtain ⟨k2, f2, z2⟩ := of_block s2; obtain ⟨k3, f3, z3⟩ := of_block s3; obtain ⟨k4, f4, z4⟩ := of_block s4))
    go_ret
    exact ⟨rfl, hH.1⟩

end Go.Proofs.Ytajilhckhdohnaa
