/- Contracts that say the world stays as it is: mask, Field, Top, Decode's closure. -/
import Derived.Test.YtlbehhbicmmdoaaDescN
namespace Go.Proofs.Ytlbehhbicmmdoaa
set_option linter.unusedVariables false
set_option linter.unusedSimpArgs false
open Go.RowKit

/-- A call that returns v and turns nothing. -/
def RetX (w : World) (v : Value) (e : Ending) (w' : World) : Prop := e = .returned v ∧ w = w'

set_option maxHeartbeats 1000000 in
theorem mask_x (li ni : Int) (low n : Nat) (hl : li = low) (hn : ni = n) (w : World) (h1 : 1 ≤ n) (h2 : low + n ≤ 64) : Calls Try.prog 79 #[.int .i64 li, .int .i64 ni] w (RetX w (.int .u64 (maskN low n : Nat))) := by
  subst hl hn
  go_enter Try.func79, Try.ntmps79
  go_wp2
  go_ret
  refine ⟨?_, rfl⟩
  rw [← mask_value low n h1 h2]
  rfl

set_option maxHeartbeats 1000000 in
theorem field_x (xi li ni : Int) (x low n : Nat) (hx : xi = x) (hl : li = low) (hn : ni = n) (w : World) (hxl : x < 18446744073709551616) (h1 : 1 ≤ n) (h2 : low + n ≤ 64) :
    Calls Try.prog 70 #[.int .u64 xi, .int .i64 li, .int .i64 ni] w (RetX w (.int .u64 (fieldN x low n : Nat))) := by
  subst hx hl hn
  have hand := bits_and_u64_nat x (maskN low n) hxl (maskN_lt low n h2)
  have hm := maskN_pos low n h1
  have hmb : (((maskN low n : Nat) : Int) != 0) = true := by rw [bne_iff_ne]; omega
  have hv : ((x &&& maskN low n : Nat) : Int) / 2 ^ low = ((fieldN x low n : Nat) : Int) := by rw [← fieldN_and]; push_cast; rfl
  go_enter Try.func70, Try.ntmps70
  go_wp2_with fail
  (with_reducible refine (mask_x low n low n rfl rfl _ h1 h2).mono ?_)
  rintro e w1 ⟨rfl, rfl⟩
  generalize hmm : maskN low n = m at *
  go_wp2
  go_ret
  refine ⟨?_, rfl⟩
  rw [← hv]
  rfl

theorem bit_field (x i : Nat) : (((fieldN x i 1 : Nat) : Int) == 1) = bitB x i := by
  unfold fieldN bitB
  have : x / 2 ^ i % 2 ^ 1 = x / 2 ^ i % 2 := rfl
  rw [this]
  by_cases h : x / 2 ^ i % 2 = 1
  · rw [decide_eq_true h, h]; rfl
  · rw [decide_eq_false h, beq_eq_false_iff_ne]; omega

set_option maxHeartbeats 1000000 in
theorem on_x (x b i : Nat) (ii : Int) (hii : ii = i) (hi : i ≤ 63) (w : World) (hx : x < 18446744073709551616) (hc : w.cell? ⟨b, 0, none⟩ = some (.int .u64 (x : Nat))) :
    Calls Try.prog 72 #[.int .i64 ii, .pointer (some ⟨b, 0, none⟩)] w (RetX w (.bool (bitB x i))) := by
  subst hii
  have hf := fun w => field_x x i 1 x i 1 rfl rfl rfl w hx (by omega) (by omega)
  rw [← bit_field]
  go_enter Try.func72, Try.ntmps72
  go_wp2_with fail
  (with_reducible refine (hf _).mono ?_)
  rintro e w1 ⟨rfl, rfl⟩
  go_wp2
  go_ret
  exact ⟨rfl, rfl⟩

theorem refTop_x (st : Int) (w : World) : Calls Try.prog 51 #[.int .i64 st] w (RetX w (.int .u64 (topN st : Nat))) := by
  by_cases h1 : st = 1
  · subst h1
    go_enter Try.func51, Try.ntmps51
    go_wp2
    go_ret
    exact ⟨rfl, rfl⟩
  by_cases h2 : st = 2
  · subst h2
    go_enter Try.func51, Try.ntmps51
    go_wp2
    go_ret
    exact ⟨rfl, rfl⟩
  have ht : topN st = 0 := by unfold topN; rw [if_neg h1, if_neg h2]
  rw [ht]
  go_enter Try.func51, Try.ntmps51
  go_wp2
  go_ret
  exact ⟨rfl, rfl⟩

theorem top_x (st : Int) (w : World) : Calls Try.prog 45 #[.int .i64 st] w (RetX w (.int .u64 (topN st : Nat))) := by
  by_cases h1 : st = 1
  · subst h1
    go_enter Try.func45, Try.ntmps45
    go_wp2
    go_ret
    exact ⟨rfl, rfl⟩
  by_cases h2 : st = 2
  · subst h2
    go_enter Try.func45, Try.ntmps45
    go_wp2
    go_ret
    exact ⟨rfl, rfl⟩
  have ht : topN st = 0 := by unfold topN; rw [if_neg h1, if_neg h2]
  rw [ht]
  go_enter Try.func45, Try.ntmps45
  go_wp2
  go_ret
  exact ⟨rfl, rfl⟩

theorem place_yes (st lv : Int) (hp : Place st lv) (w : World) : Calls Try.prog 71 #[.int .i64 st, .int .i64 lv] w (RetX w (.bool true)) := by
  have ht := top_x st
  have hn : (((topN st : Nat) : Int) != 0) = true := bne_iff_ne.2 (by
    unfold topN
    obtain ⟨rfl | rfl, _⟩ := hp <;> simp)
  have h0 : (0 : Int) ≤ lv := hp.2.1
  have h3 : lv ≤ 3 := hp.2.2
  generalize ((topN st : Nat) : Int) = T at *
  clear hp
  go_enter Try.func71, Try.ntmps71
  go_wp2_with fail
  refine (ht _).mono ?_
  rintro e w1 ⟨rfl, rfl⟩
  go_wp2
  go_ret
  exact ⟨rfl, rfl⟩

end Go.Proofs.Ytlbehhbicmmdoaa
