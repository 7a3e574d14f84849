/- The statement DescCodes: its walk. -/
import Derived.Test.YtajilhckhdohnaaDescTold
namespace Go.Proofs.Ytajilhckhdohnaa
set_option linter.unusedVariables false
set_option linter.unusedSimpArgs false
open Go.RowKit

/-- The stage and the level that a statement makes of any two numbers. -/
theorem stage_level (st lv : Int) : ∃ S0 S L : Int, bits .and .i64 st 1 = S0 ∧ wrap64 (1 + S0) = S ∧ bits .and .i64 lv 3 = L ∧ Place S L := by
  refine ⟨st % 2, 1 + st % 2, lv % 4, i64_mask1 st, IntWalk.wrap64_in _ (by omega), i64_mask3 lv, ?_⟩
  unfold Place
  omega

abbrev cellsV (k : Int) (a : Nat) (r wr x : Bool) (s : Int) : Array Value := #[.int .i64 k, .int .u64 (a : Nat), .bool r, .bool wr, .bool x, .int .i64 s]

set_option maxHeartbeats 8000000 in
set_option maxRecDepth 100000 in
theorem descCodes_walk (st : Int) (_ : (Lit.int .i64 st).wf = true) (lv : Int) (_ : (Lit.int .i64 lv).wf = true) (k : Int) (_ : (Lit.int .i64 k).wf = true) (ai : Int) (ha0 : (Lit.int .u64 ai).wf = true) (r wr x : Bool) (s : Int) (_ : (Lit.int .i64 s).wf = true) (w : World) :
    Calls Try.prog 9 #[.int .i64 st, .int .i64 lv, .agg #[.int .i64 k, .int .u64 ai, .bool r, .bool wr, .bool x, .int .i64 s]] w (RetB w (.bool true)) := by
  obtain ⟨a, rfl, _⟩ := wf_u64 ha0
  obtain ⟨S0, S, L, hm1, hS, hm3, hp⟩ := stage_level st lv
  have hnear := fun w => near_calls S L k a r wr x s w hp
  unfold nearV descV at hnear
  have hnc := @near_check S L k a r wr x s hp
  have e2 := encode_calls S L (nearK L k) (nearA S L k a) (nearR L k r) (nearW L k r wr) (nearR L k x) (nearS L k s : Nat)
  have f2' := refEncode_calls S L (nearK L k) (nearA S L k a) (nearR L k r) (nearW L k r wr) (nearR L k x) (nearS L k s : Nat)
  rw [hnc] at e2 f2'
  generalize encW S L (nearK L k) (nearA S L k a) (nearR L k r) (nearW L k r wr) (nearR L k x) (nearS L k s : Nat) = X2 at *
  have e1 := encode_calls st lv k a r wr x s
  have f1' := refEncode_calls st lv k a r wr x s
  have c1 := descCheck_calls st lv k a r wr x s
  have d1 := descRefCheck_calls st lv k a r wr x s
  have c2 := descCheck_calls S L k a r wr x s
  have d2 := descRefCheck_calls S L k a r wr x s
  have t1 := top_calls st
  have t2 := refTop_calls st
  generalize encW st lv k a r wr x s = X1 at *
  generalize checkC st lv k a r wr x s = E1 at *
  generalize checkC S L k a r wr x s = E2 at *
  generalize topN st = T at *
  clear hnc hp
  generalize nearK L k = nk at *
  generalize nearA S L k a = na at *
  generalize nearR L k r = nr at *
  generalize nearW L k r wr = nw at *
  generalize nearR L k x = nx at *
  generalize nearS L k s = ns at *
  go_enter Try.func9, Try.ntmps9
  go_upto_region 1 with (fail)
  have hH := holds_new #[.int .i64 k, .int .u64 (a : Nat), .bool r, .bool wr, .bool x, .int .i64 s] 47 (holds_nil w)
  generalize w.alloc (.cells #[.int .i64 k, .int .u64 (a : Nat), .bool r, .bool wr, .bool x, .int .i64 s] 47) = W at *
  obtain ⟨s0, s1, _⟩ := id hH
  obtain ⟨k1, f1, z1⟩ := of_block s1
  go_upto_region 3 with (first | (go_at_call 28; (with_reducible refine (hnear _).mono ?_); rintro e w9 ⟨rfl, hb9⟩; have hH := holds_old hH hb9; obtain ⟨_, s1, _⟩ := id hH; obtain ⟨k1, f1, z1⟩ := of_block s1))
  have hH := holds_new #[.int .i64 nk, .int .u64 (na : Nat), .bool nr, .bool nw, .bool nx, .int .i64 (ns : Nat)] 47 hH
  generalize w9.alloc (.cells #[.int .i64 nk, .int .u64 (na : Nat), .bool nr, .bool nw, .bool nx, .int .i64 (ns : Nat)] 47) = W2 at *
  generalize w9.heap.size = p at *
  obtain ⟨s0, s1, s2, _⟩ := id hH
  obtain ⟨k1, f1, z1⟩ := of_block s1
  obtain ⟨k2, f2, z2⟩ := of_block s2
  go_upto_region 7 with (first | (go_at_call 29; (with_reducible refine (e1 _).mono ?_); rintro e w9 ⟨rfl, hb9⟩; have hH := holds_old hH hb9; obtain ⟨_, s1, s2, _⟩ := id hH; obtain ⟨k1, f1, z1⟩ := of_block s1; obtain ⟨k2, f2, z2⟩ := of_block s2) | (go_at_call 30; (with_reducible refine (f1' _).mono ?_); rintro e w9 ⟨rfl, hb9⟩; have hH := holds_old hH hb9; obtain ⟨_, s1, s2, _⟩ := id hH; obtain ⟨k1, f1, z1⟩ := of_block s1; obtain ⟨k2, f2, z2⟩ := of_block s2) | (go_at_call 29; (with_reducible refine (e2 _).mono ?_); rintro e w9 ⟨rfl, hb9⟩; have hH := holds_old hH hb9; obtain ⟨_, s1, s2, _⟩ := id hH; obtain ⟨k1, f1, z1⟩ := of_block s1; obtain ⟨k2, f2, z2⟩ := of_block s2) | (go_at_call 30; (with_reducible refine (f2' _).mono ?_); rintro e w9 ⟨rfl, hb9⟩; have hH := holds_old hH hb9; obtain ⟨_, s1, s2, _⟩ := id hH; obtain ⟨k1, f1, z1⟩ := of_block s1; obtain ⟨k2, f2, z2⟩ := of_block s2))
  refine wp_region_walked (S := Holds w [(p, #[.int .i64 nk, .int .u64 (na : Nat), .bool nr, .bool nw, .bool nx, .int .i64 (ns : Nat)], 47), (w.heap.size, #[.int .i64 k, .int .u64 (a : Nat), .bool r, .bool wr, .bool x, .int .i64 s], 47)]) (by kernel_rfl) (by kernel_rfl) (holds_drew hH) ?_
  repeat (apply walked_cons; (first | exact gives_and rfl rfl rfl rfl | exact gives_or rfl rfl rfl rfl | (focus (intro wS hS; obtain ⟨s0, s1, s2, _⟩ := id hS; obtain ⟨k1, f1, z1⟩ := of_block s1; obtain ⟨k2, f2, z2⟩ := of_block s2; go_wp2_with ((first | (go_at_call 31; (with_reducible refine (descTold_calls _).mono ?_); rintro e w9 ⟨rfl, hb9⟩) | (go_at_call 32; (with_reducible refine (c1 _).mono ?_); rintro e w9 ⟨rfl, hb9⟩) | (go_at_call 33; (with_reducible refine (d1 _).mono ?_); rintro e w9 ⟨rfl, hb9⟩) | (go_at_call 34; (with_reducible refine (t1 _).mono ?_); rintro e w9 ⟨rfl, hb9⟩) | (go_at_call 35; (with_reducible refine (t2 _).mono ?_); rintro e w9 ⟨rfl, hb9⟩) | (go_at_call 32; (with_reducible refine (c2 _).mono ?_); rintro e w9 ⟨rfl, hb9⟩) | (go_at_call 33; (with_reducible refine (d2 _).mono ?_); rintro e w9 ⟨rfl, hb9⟩))); (first | exact ⟨rfl, rfl, hS⟩ | exact ⟨rfl, rfl, holds_old hS hb9⟩); done)) | (focus (apply gives_guard; (focus (first | exact wanted_yes rfl rfl rfl | exact wanted_no rfl rfl rfl | exact wanted_yes2 rfl rfl rfl | exact wanted_no2 rfl rfl rfl)); (focus (intro hx9; (try simp only [Bool.not_eq_true', Bool.and_eq_true, Bool.not_not] at hx9); (try obtain ⟨hx9, hy9⟩ := hx9); (try subst hy9); (try subst hx9); (first | exact gives_and rfl rfl rfl rfl | exact gives_or rfl rfl rfl rfl | (intro wS hS; obtain ⟨s0, s1, s2, _⟩ := id hS; obtain ⟨k1, f1, z1⟩ := of_block s1; obtain ⟨k2, f2, z2⟩ := of_block s2; go_wp2_with ((first | (go_at_call 31; (with_reducible refine (descTold_calls _).mono ?_); rintro e w9 ⟨rfl, hb9⟩) | (go_at_call 32; (with_reducible refine (c1 _).mono ?_); rintro e w9 ⟨rfl, hb9⟩) | (go_at_call 33; (with_reducible refine (d1 _).mono ?_); rintro e w9 ⟨rfl, hb9⟩) | (go_at_call 34; (with_reducible refine (t1 _).mono ?_); rintro e w9 ⟨rfl, hb9⟩) | (go_at_call 35; (with_reducible refine (t2 _).mono ?_); rintro e w9 ⟨rfl, hb9⟩) | (go_at_call 32; (with_reducible refine (c2 _).mono ?_); rintro e w9 ⟨rfl, hb9⟩) | (go_at_call 33; (with_reducible refine (d2 _).mono ?_); rintro e w9 ⟨rfl, hb9⟩))); (first | exact ⟨rfl, rfl, hS⟩ | exact ⟨rfl, rfl, holds_old hS hb9⟩); done))))))); rfl; (try simp only [Act.put, List.setIfInBounds_toArray, List.set_cons_succ, List.set_cons_zero]))
  apply walked_nil
  intro wS hH
  go_wp2
  trace_state
  go_ret
  exact ⟨rfl, hH.1⟩

end Go.Proofs.Ytajilhckhdohnaa
