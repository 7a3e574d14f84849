/- The statement WalkOuts: its walk. -/
import Derived.Test.YtlbehhbicmmdoaaWalkTold
import Derived.Test.YtlbehhbicmmdoaaDescNear2
import Derived.Test.YtlbehhbicmmdoaaBitsFields
namespace Go.Proofs.Ytlbehhbicmmdoaa
set_option linter.unusedVariables false
set_option linter.unusedSimpArgs false
open Go.RowKit

set_option maxHeartbeats 8000000 in
set_option maxRecDepth 100000 in
theorem walkOuts_walk (ai : Int) (ha0 : (Lit.int .u64 ai).wf = true) (lv : Int) (_ : (Lit.int .i64 lv).wf = true) (k : Int) (_ : (Lit.int .i64 k).wf = true) (di : Int) (hd0 : (Lit.int .u64 di).wf = true) (r wr x : Bool) (s : Int) (_ : (Lit.int .i64 s).wf = true) (w : World) :
    Calls Try.prog 4 #[.int .u64 ai, .int .i64 lv, .agg #[.int .i64 k, .int .u64 di, .bool r, .bool wr, .bool x, .int .i64 s]] w (RetB w (.bool true)) := by
  obtain ⟨addr, rfl, haddr⟩ := wf_u64 ha0
  obtain ⟨a, rfl, ha⟩ := wf_u64 hd0
  obtain ⟨L, hL, hp⟩ : ∃ L : Int, bits .and .i64 lv 3 = L ∧ Place 1 L := ⟨lv % 4, i64_mask3 lv, .inl rfl, by omega, by omega⟩
  have hnear := fun w => near_calls 1 L k a r wr x s w hp
  unfold nearV descV at hnear
  have hna : nearA 1 L k a < 18446744073709551616 := by
    have h1 : nearA 1 L k a ≤ a % topN 1 := by unfold nearA; split <;> omega
    have h2 : a % topN 1 < topN 1 := Nat.mod_lt _ (by decide)
    have h3 := topN_lt 1
    omega
  generalize nearK L k = nk at *
  generalize nearA 1 L k a = na at *
  generalize nearR L k r = nr at *
  generalize nearW L k r wr = nw at *
  generalize nearR L k x = nx at *
  generalize nearS L k s = ns at *
  clear ha0 hd0 hp
  go_enter Try.func4, Try.ntmps4
  go_upto_region 1 with (fail)
  have hH := holds_new #[.int .i64 k, .int .u64 (a : Nat), .bool r, .bool wr, .bool x, .int .i64 s] 48 (holds_nil w)
  generalize w.alloc (.cells #[.int .i64 k, .int .u64 (a : Nat), .bool r, .bool wr, .bool x, .int .i64 s] 48) = W at *
  generalize w.heap.size = b1 at *
  obtain ⟨s0, s1, _⟩ := id hH
  obtain ⟨k1, f1, z1⟩ := of_block s1
  go_upto_region 2 with (first | (go_at_call 23; (with_reducible refine (hnear _).mono ?_); rintro e w9 ⟨rfl, hb9⟩; have hH := holds_old hH hb9; obtain ⟨_, s1, _⟩ := id hH; obtain ⟨k1, f1, z1⟩ := of_block s1))
  have hH := holds_new #[.int .i64 nk, .int .u64 (na : Nat), .bool nr, .bool nw, .bool nx, .int .i64 (ns : Nat)] 48 hH
  generalize w9.alloc (.cells #[.int .i64 nk, .int .u64 (na : Nat), .bool nr, .bool nw, .bool nx, .int .i64 (ns : Nat)] 48) = W2 at *
  generalize w9.heap.size = b2 at *
  clear s0 s1 k1 f1 z1 hnear
  have o1 := fun w => out_calls addr haddr lv 0 0 k a ha r wr x s w
  have o2 := fun w => refOut_calls addr haddr lv 0 0 k a ha r wr x s w
  have o3 := fun w => out_calls addr haddr L 0 0 nk na hna nr nw nx ns w
  have o4 := fun w => refOut_calls addr haddr L 0 0 nk na hna nr nw nx ns w
  generalize outN addr lv k a = R1 at *
  generalize outN addr L nk na = R2 at *
  refine wp_region_walked (S := Holds w [(b2, #[.int .i64 nk, .int .u64 (na : Nat), .bool nr, .bool nw, .bool nx, .int .i64 (ns : Nat)], 48), (b1, #[.int .i64 k, .int .u64 (a : Nat), .bool r, .bool wr, .bool x, .int .i64 s], 48)]) (by kernel_rfl) (by kernel_rfl) (holds_drew hH) ?_
  repeat (apply walked_cons; (first | exact gives_and rfl rfl rfl rfl | exact gives_or rfl rfl rfl rfl | (focus (intro wS hS; obtain ⟨s0, s1, s2, _⟩ := id hS; obtain ⟨k1, f1, z1⟩ := of_block s1; obtain ⟨k2, f2, z2⟩ := of_block s2; go_wp2_with (first | (go_at_call 22; (with_reducible refine (told12_calls _).mono ?_); rintro e w9 ⟨rfl, hb9⟩) | (go_at_call 24; (with_reducible refine (o1 _).mono ?_); rintro e w9 ⟨rfl, hb9⟩) | (go_at_call 24; (with_reducible refine (o3 _).mono ?_); rintro e w9 ⟨rfl, hb9⟩) | (go_at_call 25; (with_reducible refine (o2 _).mono ?_); rintro e w9 ⟨rfl, hb9⟩) | (go_at_call 25; (with_reducible refine (o4 _).mono ?_); rintro e w9 ⟨rfl, hb9⟩)); (first | exact ⟨rfl, rfl, hS⟩ | exact ⟨rfl, rfl, holds_old hS hb9⟩); done)) | (focus (apply gives_guard; (focus (first | exact wanted_yes rfl rfl rfl | exact wanted_no rfl rfl rfl | exact wanted_yes2 rfl rfl rfl | exact wanted_no2 rfl rfl rfl)); (focus (intro hx9; (try simp only [Bool.not_eq_true', Bool.and_eq_true, Bool.not_not] at hx9); (try obtain ⟨hx9, hy9⟩ := hx9); (try subst hy9); (try subst hx9); (first | exact gives_and rfl rfl rfl rfl | exact gives_or rfl rfl rfl rfl | (intro wS hS; obtain ⟨s0, s1, s2, _⟩ := id hS; obtain ⟨k1, f1, z1⟩ := of_block s1; obtain ⟨k2, f2, z2⟩ := of_block s2; go_wp2_with (first | (go_at_call 22; (with_reducible refine (told12_calls _).mono ?_); rintro e w9 ⟨rfl, hb9⟩) | (go_at_call 24; (with_reducible refine (o1 _).mono ?_); rintro e w9 ⟨rfl, hb9⟩) | (go_at_call 24; (with_reducible refine (o3 _).mono ?_); rintro e w9 ⟨rfl, hb9⟩) | (go_at_call 25; (with_reducible refine (o2 _).mono ?_); rintro e w9 ⟨rfl, hb9⟩) | (go_at_call 25; (with_reducible refine (o4 _).mono ?_); rintro e w9 ⟨rfl, hb9⟩)); (first | exact ⟨rfl, rfl, hS⟩ | exact ⟨rfl, rfl, holds_old hS hb9⟩); done))))))); rfl; (try simp only [Act.put, List.setIfInBounds_toArray, List.set_cons_succ, List.set_cons_zero]))
  apply walked_nil
  intro wS hS
  have HS := Lib.hid hS.1
  clear hS
  go_wp2
  go_ret
  exact ⟨rfl, HS.out⟩
end Go.Proofs.Ytlbehhbicmmdoaa
