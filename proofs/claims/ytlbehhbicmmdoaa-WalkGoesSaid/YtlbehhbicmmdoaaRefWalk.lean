/- Layer 12: the document's walk: Begin, At. -/
import Derived.Test.YtlbehhbicmmdoaaWalkN
import Derived.Test.YtlbehhbicmmdoaaTabPair
import Derived.Test.YtlbehhbicmmdoaaDescRefDec
namespace Go.Proofs.Ytlbehhbicmmdoaa
set_option linter.unusedVariables false
set_option linter.unusedSimpArgs false
open Go.RowKit

/-- Block p holds a walk of the document; its steps lie in blocks from B on. -/
structure IsW (x : World) (B p : Nat) (st : Int) (table addr : Nat) (v : Value) (l : List St) (kind : Int) (over : Bool) : Prop where
  hp : x.heap[p]? = some (.cells #[.int .i64 st, .int .u64 (table : Nat), .int .u64 (addr : Nat), v, .int .i64 kind, .bool over] 39)
  own : x.ownsRow B 54 9 v l.length (stCells l)
  pB : p < B
  xB : B ≤ x.heap.size
theorem isW_old {x y : World} {B p : Nat} {st : Int} {table addr : Nat} {v : Value} {l : List St} {kind : Int} {over : Bool} (h : IsW x B p st table addr v l kind over) (ho : Old x y) : IsW y B p st table addr v l kind over :=
  { h with hp := keep_old ho h.hp, own := own_old h.own ho, xB := Nat.le_trans h.xB ho.size }
theorem begin_calls (st : Int) (root addr : Nat) (w : World) :
    Calls Try.prog 18 #[.int .i64 st, .int .u64 (root : Nat), .int .u64 (addr : Nat)] w (fun e y => e = .returned (.pointer (some ⟨w.heap.size, 0, none⟩)) ∧ IsW y (w.heap.size + 1) w.heap.size st root addr (.slice none 0 0) [] 4 (!decide (st = 1 ∨ st = 2)) ∧ Old w y) := by
  have key : ∀ b, IsW (w.alloc (.cells #[.int .i64 st, .int .u64 (root : Nat), .int .u64 (addr : Nat), .slice none 0 0, .int .i64 4, .bool b] 39)) (w.heap.size + 1) w.heap.size st root addr (.slice none 0 0) [] 4 b := fun b =>
    { hp := new_block _ _, own := own_nil, pB := by omega, xB := by rw [World.size_alloc]; omega }
  have hO : ∀ b, Old w (w.alloc (.cells #[.int .i64 st, .int .u64 (root : Nat), .int .u64 (addr : Nat), .slice none 0 0, .int .i64 4, .bool b] 39)) := fun b => old_alloc (old_refl w) _
  have HK := Lib.hid (And.intro key hO)
  clear key hO
  by_cases h1 : st < 1
  · have e : (!decide (st = 1 ∨ st = 2)) = true := by simp; omega
    rw [e]
    clear e
    go_enter Try.func18, Try.ntmps18
    go_wp2
    go_ret
    exact ⟨rfl, HK.out.1 _, HK.out.2 _⟩
  · by_cases h2 : 2 < st
    · have e : (!decide (st = 1 ∨ st = 2)) = true := by simp; omega
      rw [e]
      clear e
      go_enter Try.func18, Try.ntmps18
      go_wp2
      go_ret
      exact ⟨rfl, HK.out.1 _, HK.out.2 _⟩
    · have e : (!decide (st = 1 ∨ st = 2)) = false := by simp; omega
      rw [e]
      clear e
      go_enter Try.func18, Try.ntmps18
      go_wp2
      go_ret
      exact ⟨rfl, HK.out.1 _, HK.out.2 _⟩
set_option maxHeartbeats 4000000 in
set_option maxRecDepth 100000 in
theorem atW_calls {x : World} {B p : Nat} {st : Int} {table addr : Nat} {v : Value} {l : List St} {kind : Int} {over : Bool} (h : IsW x B p st table addr v l kind over) (haddr : addr < 18446744073709551616) (hl : l.length ≤ 3) :
    Calls Try.prog 19 #[.pointer (some ⟨p, 0, none⟩)] x (RetB x (.int .u64 (atN table addr l.length : Nat))) := by
  obtain ⟨ad, c, rfl, -⟩ := own_value h.own
  have hix := fun y => refIndex_yes (addr : Nat) (l.length : Nat) addr l.length rfl rfl y haddr hl
  have hlt := indexN_lt addr l.length
  have haw := atN_wrap table addr l.length
  have HP := Lib.hid h.hp
  generalize indexN addr l.length = IX at *
  generalize atN table addr l.length = T at *
  have hl3 : (l.length : Int) ≤ 3 := by omega
  have hix64 : IntKind.u64.wrap (IX : Int) = (IX : Int) := IntWalk.u64_in _ (by omega)
  have HI := Lib.hid hix
  clear h hix hl haddr
  go_enter Try.func19, Try.ntmps19
  go_upto_region 1 with (fail)
  refine wp_region_walked (S := Old x) (by kernel_rfl) (by kernel_rfl) (old_drew (old_refl _)) ?_
  apply walked_cons
  · intro wS hS
    have kx := keep_old hS HP.out
    obtain ⟨k1, q1, z1⟩ := of_block kx
    have HS := Lib.hid hS
    clear kx hS
    go_wp2
    exact ⟨rfl, rfl, HS.out⟩
  · rfl
  (try simp only [Act.put, List.setIfInBounds_toArray, List.set_cons_succ, List.set_cons_zero])
  apply walked_cons
  · intro wS hS
    have kx := keep_old hS HP.out
    obtain ⟨k1, q1, z1⟩ := of_block kx
    have HS := Lib.hid hS
    clear kx hS
    go_wp2
    exact ⟨rfl, rfl, HS.out⟩
  · rfl
  (try simp only [Act.put, List.setIfInBounds_toArray, List.set_cons_succ, List.set_cons_zero])
  apply walked_cons
  · intro wS hS
    have kx := keep_old hS HP.out
    obtain ⟨k1, q1, z1⟩ := of_block kx
    have HS := Lib.hid hS
    clear kx hS
    go_wp2
    exact ⟨rfl, rfl, HS.out⟩
  · rfl
  (try simp only [Act.put, List.setIfInBounds_toArray, List.set_cons_succ, List.set_cons_zero])
  apply walked_cons
  · intro wS hS
    have kx := keep_old hS HP.out
    obtain ⟨k1, q1, z1⟩ := of_block kx
    have HS := Lib.hid hS
    clear kx hS
    go_wp2
    exact ⟨rfl, rfl, HS.out⟩
  · rfl
  (try simp only [Act.put, List.setIfInBounds_toArray, List.set_cons_succ, List.set_cons_zero])
  apply walked_cons
  · intro wS hS
    have kx := keep_old hS HP.out
    obtain ⟨k1, q1, z1⟩ := of_block kx
    have HS := Lib.hid hS
    clear kx hS
    go_wp2
    exact ⟨rfl, rfl, HS.out⟩
  · rfl
  (try simp only [Act.put, List.setIfInBounds_toArray, List.set_cons_succ, List.set_cons_zero])
  apply walked_cons
  · intro wS hS
    have kx := keep_old hS HP.out
    obtain ⟨k1, q1, z1⟩ := of_block kx
    have HS := Lib.hid hS
    clear kx hS
    go_wp2
    exact ⟨rfl, rfl, HS.out⟩
  · rfl
  (try simp only [Act.put, List.setIfInBounds_toArray, List.set_cons_succ, List.set_cons_zero])
  apply walked_cons
  · intro wS hS
    have kx := keep_old hS HP.out
    obtain ⟨k1, q1, z1⟩ := of_block kx
    have HS := Lib.hid hS
    clear kx hS
    go_wp2
    exact ⟨rfl, rfl, HS.out⟩
  · rfl
  (try simp only [Act.put, List.setIfInBounds_toArray, List.set_cons_succ, List.set_cons_zero])
  apply walked_cons
  · intro wS hS
    have kx := keep_old hS HP.out
    obtain ⟨k1, q1, z1⟩ := of_block kx
    have HS := Lib.hid hS
    clear kx hS
    go_wp2
    exact ⟨rfl, rfl, HS.out⟩
  · rfl
  (try simp only [Act.put, List.setIfInBounds_toArray, List.set_cons_succ, List.set_cons_zero])
  apply walked_cons
  · intro wS hS
    have kx := keep_old hS HP.out
    obtain ⟨k1, q1, z1⟩ := of_block kx
    have HS := Lib.hid hS
    clear kx hS
    go_wp2
    exact ⟨rfl, rfl, HS.out⟩
  · rfl
  (try simp only [Act.put, List.setIfInBounds_toArray, List.set_cons_succ, List.set_cons_zero])
  apply walked_cons
  · intro wS hS
    have kx := keep_old hS HP.out
    obtain ⟨k1, q1, z1⟩ := of_block kx
    have HS := Lib.hid hS
    clear kx hS
    go_wp2
    exact ⟨rfl, rfl, HS.out⟩
  · rfl
  (try simp only [Act.put, List.setIfInBounds_toArray, List.set_cons_succ, List.set_cons_zero])
  apply walked_cons
  · intro wS hS
    have kx := keep_old hS HP.out
    obtain ⟨k1, q1, z1⟩ := of_block kx
    have HS := Lib.hid hS
    clear kx hS
    go_wp2
    exact ⟨rfl, rfl, HS.out⟩
  · rfl
  (try simp only [Act.put, List.setIfInBounds_toArray, List.set_cons_succ, List.set_cons_zero])
  apply walked_cons
  · intro wS hS
    have kx := keep_old hS HP.out
    obtain ⟨k1, q1, z1⟩ := of_block kx
    have HS := Lib.hid hS
    clear kx hS
    go_wp2
    exact ⟨rfl, rfl, HS.out⟩
  · rfl
  (try simp only [Act.put, List.setIfInBounds_toArray, List.set_cons_succ, List.set_cons_zero])
  apply walked_cons
  · intro wS hS
    have kx := keep_old hS HP.out
    obtain ⟨k1, q1, z1⟩ := of_block kx
    have HS := Lib.hid hS
    clear kx hS
    go_wp2
    exact ⟨rfl, rfl, HS.out⟩
  · rfl
  (try simp only [Act.put, List.setIfInBounds_toArray, List.set_cons_succ, List.set_cons_zero])
  apply walked_cons
  · intro wS hS
    have kx := keep_old hS HP.out
    obtain ⟨k1, q1, z1⟩ := of_block kx
    have HS := Lib.hid hS
    have hc := HI.out wS
    clear kx hS
    go_wp2_with fail
    (with_reducible refine hc.mono ?_)
    rintro e y9 ⟨rfl, hY⟩
    have HY := Lib.hid hY
    clear hc hY k1 q1 z1
    go_wp2
    exact ⟨rfl, rfl, old_then HS.out HY.out⟩
  · rfl
  (try simp only [Act.put, List.setIfInBounds_toArray, List.set_cons_succ, List.set_cons_zero])
  apply walked_cons
  · intro wS hS
    have kx := keep_old hS HP.out
    obtain ⟨k1, q1, z1⟩ := of_block kx
    have HS := Lib.hid hS
    clear kx hS
    go_wp2
    exact ⟨rfl, rfl, HS.out⟩
  · rfl
  (try simp only [Act.put, List.setIfInBounds_toArray, List.set_cons_succ, List.set_cons_zero])
  apply walked_cons
  · intro wS hS
    have kx := keep_old hS HP.out
    obtain ⟨k1, q1, z1⟩ := of_block kx
    have HS := Lib.hid hS
    clear kx hS
    go_wp2
    exact ⟨rfl, rfl, HS.out⟩
  · rfl
  (try simp only [Act.put, List.setIfInBounds_toArray, List.set_cons_succ, List.set_cons_zero])
  apply walked_cons
  · intro wS hS
    have kx := keep_old hS HP.out
    obtain ⟨k1, q1, z1⟩ := of_block kx
    have HS := Lib.hid hS
    clear kx hS
    go_wp2
    exact ⟨rfl, rfl, HS.out⟩
  · rfl
  (try simp only [Act.put, List.setIfInBounds_toArray, List.set_cons_succ, List.set_cons_zero])
  apply walked_cons
  · intro wS hS
    have kx := keep_old hS HP.out
    obtain ⟨k1, q1, z1⟩ := of_block kx
    have HS := Lib.hid hS
    clear kx hS
    go_wp2
    exact ⟨rfl, rfl, HS.out⟩
  · rfl
  (try simp only [Act.put, List.setIfInBounds_toArray, List.set_cons_succ, List.set_cons_zero])
  apply walked_nil
  intro wS hS
  have HS := Lib.hid hS
  clear hS
  go_wp2
  go_ret
  exact ⟨rfl, HS.out⟩
end Go.Proofs.Ytlbehhbicmmdoaa
