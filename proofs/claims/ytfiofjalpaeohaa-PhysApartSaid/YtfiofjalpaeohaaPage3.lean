/- The contract of demesneref3.Page: a page out of a few bytes. -/
import Derived.Test.YtfiofjalpaeohaaDisk7
import Derived.Test.YtfiofjalpaeohaaIntsArg
namespace Go.Proofs.Ytfiofjalpaeohaa
set_option linter.unusedVariables false
set_option linter.unusedSimpArgs false
open Go.RowKit

/-- Where a number stands in a page. -/
def posN (x : Int) : Nat := ((x.tmod 4096 + 4096).tmod 4096).toNat
theorem pos_range (x : Int) : -4096 < x.tmod 4096 ∧ x.tmod 4096 < 4096 := by
  refine ⟨?_, Int.tmod_lt_of_pos x (by decide)⟩
  by_cases h : 0 ≤ x
  · rw [Int.tmod_eq_emod_of_nonneg h]; omega
  · have e : x.tmod 4096 = -((-x).tmod 4096) := by rw [Int.neg_tmod, Int.neg_neg]
    rw [e, Int.tmod_eq_emod_of_nonneg (by omega)]; omega
theorem pos_lt (x : Int) : posN x < 4096 := by
  have := pos_range x
  unfold posN
  rw [Int.tmod_eq_emod_of_nonneg (by omega)]; omega
theorem pos_val (x : Int) : (wrap64 (x.tmod 4096 + 4096)).tmod 4096 = ((posN x : Nat) : Int) := by
  have := pos_range x
  rw [IntWalk.wrap64_in _ (by omega)]
  unfold posN
  rw [Int.tmod_eq_emod_of_nonneg (by omega)]; omega

/-- The page behind k bytes. -/
def pageN (at_ : List Int) (b : List Nat) : Nat → List Nat
  | 0 => zeros4096
  | k + 1 => (pageN at_ b k).set (posN (at_.getD k 0)) (b.getD k 0)
theorem pageN_length (at_ : List Int) (b : List Nat) (k : Nat) : (pageN at_ b k).length = 4096 := by
  induction k with
  | zero => exact zeros4096_length
  | succ k ih => unfold pageN; rw [List.length_set]; exact ih

/-- How many bytes are said. -/
def fewN (at_ : List Int) (b : List Nat) : Nat := min (min at_.length b.length) 64

set_option maxHeartbeats 2000000 in
set_option maxRecDepth 100000 in
theorem page3_calls (ad : Option Addr) (at_ : List Int) (ca : Nat) (bd : Option Addr) (b : List Nat) (cb : Nat) (w : World) (hA : Ints w ad ca at_) (hB : Bytes w bd cb b) :
    Calls Try.prog 18 #[.slice ad at_.length ca, .slice bd b.length cb] w (fun e w' => ∃ g c, e = .returned (.slice (some ⟨g, 0, none⟩) 4096 c) ∧ Row w' w.heap.size g c (pageN at_ b (fewN at_ b)) ∧ Old w w') := by
  obtain ⟨w1, hmk, hrow, hO⟩ := make_page w
  have hla : at_.length ≤ 9223372036854775807 := Nat.le_trans hA.1 hA.2.1
  have hlb : b.length ≤ 9223372036854775807 := Nat.le_trans hB.1 hB.2.1
  have HA := Lib.hid hA
  have HB := Lib.hid hB
  obtain ⟨m, hm⟩ : ∃ m, fewN at_ b = m := ⟨_, rfl⟩
  rw [hm]
  unfold fewN at hm
  have HM := Lib.hid hm
  have HR := Lib.hid hrow
  clear hA hB hm hrow
  go_enter Try.func18, Try.ntmps18
  go_wp2
  go_loopw [6] (fun i wr => ∃ k : Nat, i = .int .i64 k ∧ k ≤ m ∧ Row wr w.heap.size w.heap.size 4096 (pageN at_ b k) ∧ Old w wr) (fun i _ => (65 - intOf i).toNat)
  case atStart => exact ⟨0, rfl, by omega, HR.out, hO⟩
  case round =>
  clear HR hO hmk
  obtain ⟨k, rfl, hk, hrow, hO⟩ := hrel
  have hmm := HM.out
  by_cases hkm : k < m
  · have ka : k < at_.length := by omega
    have kb : k < b.length := by omega
    have k64 : k < 64 := by omega
    obtain ⟨x, hx⟩ : ∃ x, at_[k]? = some x := ⟨_, List.getElem?_eq_getElem ka⟩
    obtain ⟨y, hy⟩ : ∃ y, b[k]? = some y := ⟨_, List.getElem?_eq_getElem kb⟩
    obtain ⟨_, ba, oa, rfl, hba, cA⟩ := (ints_old HA.out hO).2.2.2 k x hx
    obtain ⟨y', bb, ob, hy', hy256, rfl, hbb, cB⟩ := bytes_at (bytes_old HB.out hO) k kb
    rw [hy] at hy'
    obtain rfl := Option.some.inj hy'
    have hpl := pos_lt x
    have hpv := pos_val x
    have hnext : pageN at_ b (k + 1) = (pageN at_ b k).set (posN x) y := by
      show (pageN at_ b k).set (posN (at_.getD k 0)) (b.getD k 0) = _
      rw [List.getD_eq_getElem?_getD, List.getD_eq_getElem?_getD, hx, hy]; rfl
    have hset := row_set hrow (posN x) y hy256
    rw [← hnext] at hset
    have hlen := pageN_length at_ b k
    obtain ⟨z, hz⟩ : ∃ z, (pageN at_ b k)[posN x]? = some z := ⟨_, List.getElem?_eq_getElem (by omega)⟩
    have cP := row_cell hrow hz
    have fP := row_frozen hrow (posN x)
    have hO2 := old_set hO (Nat.le_refl w.heap.size) (posN x) (.int .u8 y)
    have HS := Lib.hid (And.intro hset hO2)
    generalize posN x = P at *
    clear hnext hset hO2 hlen hz hrow hx hy hba hbb hmm
    go_wp2_with fail
    refine wp_region_tail (S := Is wr.drew) 12 (by kernel_rfl) (by kernel_rfl) (by kernel_rfl) (by decide) rfl ?_
    repeat (apply walked_cons; (first | exact gives_and rfl rfl rfl rfl | exact gives_or rfl rfl rfl rfl | (focus (intro wS hS; cases hS; go_wp2; exact ⟨rfl, rfl, rfl⟩; done)) | (focus (apply gives_guard; (focus (first | exact wanted_yes rfl rfl rfl | exact wanted_no rfl rfl rfl | exact wanted_yes2 rfl rfl rfl | exact wanted_no2 rfl rfl rfl)); (focus (intro hx9; (try simp only [Bool.not_eq_true', Bool.and_eq_true, Bool.not_not] at hx9); (try obtain ⟨hx9, hy9⟩ := hx9); (try subst hy9); (try subst hx9); (first | exact gives_and rfl rfl rfl rfl | exact gives_or rfl rfl rfl rfl | (intro wS hS; cases hS; go_wp2; exact ⟨rfl, rfl, rfl⟩; done))))))); rfl; (try simp only [Act.put, List.setIfInBounds_toArray, List.set_cons_succ, List.set_cons_zero]))
    apply walked_nil
    intro wS hS
    cases hS
    show wpList _ _ _ [_, _] _ _
    go_wp2
    go_roundw
    case rel => exact ⟨k + 1, by go_num, by omega, HS.out.1, old_drew HS.out.2⟩
    case measure => (simp [intOf]) <;> omega
  · obtain rfl : k = m := by omega
    have HRk := Lib.hid (And.intro hrow hO)
    clear hrow hO
    go_wp2
    all_goals
      go_ret
      exact ⟨_, _, rfl, HRk.out.1, HRk.out.2⟩

end Go.Proofs.Ytfiofjalpaeohaa
