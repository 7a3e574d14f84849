/- Layer 15: New of both sides, for any sets and ways. -/
import Derived.Test.YtfiofjalpaeohaaRefTlb
namespace Go.Proofs.Ytfiofjalpaeohaa
set_option linter.unusedVariables false
set_option linter.unusedSimpArgs false
open Go.RowKit

/-- The numbers of sets that were met. -/
def pw : Nat → Int
  | 0 => 1
  | k + 1 => 2 * pw k
def okK (s : Int) : Nat → Bool
  | 0 => false
  | k + 1 => okK s k || s == pw k
theorem pw_cases (k : Nat) (h : k ≤ 7) : (k = 0 ∧ pw k = 1) ∨ (k = 1 ∧ pw k = 2) ∨ (k = 2 ∧ pw k = 4) ∨ (k = 3 ∧ pw k = 8) ∨ (k = 4 ∧ pw k = 16) ∨ (k = 5 ∧ pw k = 32) ∨ (k = 6 ∧ pw k = 64) ∨ (k = 7 ∧ pw k = 128) := by
  match k, h with
  | 0, _ => decide
  | 1, _ => decide
  | 2, _ => decide
  | 3, _ => decide
  | 4, _ => decide
  | 5, _ => decide
  | 6, _ => decide
  | 7, _ => decide
  | k + 8, h => omega
theorem okK_7 (s : Int) : okK s 7 = true ↔ (s = 1 ∨ s = 2 ∨ s = 4 ∨ s = 8 ∨ s = 16 ∨ s = 32 ∨ s = 64) := by
  simp only [okK, pw, Bool.or_eq_true, beq_iff_eq, Bool.false_eq_true, false_or]
  omega
theorem okK_setsB {s : Int} (h : okK s 7 = true) : ∃ n : Nat, s = n ∧ setsB n := by
  rw [okK_7] at h
  exact ⟨s.toNat, by omega, by unfold setsB; omega⟩
theorem setsB_okK {n : Nat} (h : setsB n) : okK (n : Int) 7 = true := by
  rw [okK_7]; unfold setsB at h; omega

theorem rplace_info : (Try.prog.info? 129).map (fun i => (i.zero, i.size, i.bytes)) = some (some (.agg pl0.cells.toArray), 12, 56) := by kernel_rfl
theorem make_rplaces (n : Nat) (h : n ≤ 512) (w : World) : (Instr.makeSlice 124 (.int .i64 (n : Int)) (.int .i64 (n : Int))).run Try.prog w = .ok (.slice (some ⟨w.heap.size, 0, none⟩) n n) (w.alloc (.cells (placesC (List.replicate n pl0)).toArray 129)) := by
  obtain ⟨i, hi, hzz⟩ := Option.map_eq_some_iff.1 rplace_info
  simp only [Prod.mk.injEq] at hzz
  obtain ⟨hz, hs, hb⟩ := hzz
  have hb' : (i.bytes : Int) * (n : Int) ≤ 281474976710656 := by rw [hb]; omega
  have hr := run_make (P := Try.prog) w 124 129 i _ Try.underlying124 hi hz .i64 .i64 n n (by omega) (Int.le_refl _) hb' (by omega)
  simp only [Int.toNat_natCast, hs] at hr
  rw [hr]
  have e : madeCells (Value.agg pl0.cells.toArray).cells (n * 12) = (placesC (List.replicate n pl0)).toArray := by
    rw [← placesC0]
    rfl
  rw [e]

section
variable {w : World}
/-- The document's New of numbers that are none. -/
def RetRT (w : World) (n wy : Nat) (e : Ending) (y : World) : Prop := ∃ q L N, e = .returned (.tuple #[.pointer (some ⟨q, 0, none⟩), .int .i64 0]) ∧ IsRT y q L n wy N (List.replicate N pl0) ∧ Old w y ∧ w.heap.size ≤ q ∧ w.heap.size ≤ L

set_option maxHeartbeats 8000000 in
set_option maxRecDepth 100000 in
theorem refNew_bad (st wy : Int) (h : okK st 7 = false ∨ wy < 1 ∨ 8 < wy) : Calls Try.prog 41 #[.int .i64 st, .int .i64 wy] w (RetB w (.tuple #[.pointer none, .int .i64 1])) := by
  have H := Lib.hid h
  clear h
  go_enter Try.func41, Try.ntmps41
  go_wp2
  go_loopw [6, 7] (fun s6 s7 wx => ∃ k : Nat, k ≤ 7 ∧ s7 = .int .i64 (pw k) ∧ s6 = .bool (okK st k) ∧ wx = w) (fun _ s7 _ => 128 - (intOf s7).toNat)
  case atStart => exact ⟨0, by omega, rfl, rfl, rfl⟩
  case round =>
    obtain ⟨k, hk, rfl, rfl, rfl⟩ := hrel
    by_cases hk7 : k = 7
    · subst hk7
      have hp : pw 7 = 128 := by decide
      rw [hp]
      obtain ⟨o7, ho⟩ : ∃ o7, okK st 7 = o7 := ⟨_, rfl⟩
      rw [ho]
      have hh := H.out
      rw [ho] at hh
      clear hk hp ho H
      cases o7 with
      | false =>
        clear hh
        go_wp2
        go_ret2
        exact ⟨rfl, old_refl _⟩
      | true =>
        rcases hh with hh | hh | hh
        · cases hh
        · go_wp2
          go_ret2
          exact ⟨rfl, old_refl _⟩
        · have h1 : ¬ wy < 1 := by omega
          go_wp2
          go_ret2
          exact ⟨rfl, old_refl _⟩
    · obtain ⟨pk, hpk⟩ : ∃ pk, pw k = pk := ⟨_, rfl⟩
      have hle : pk ≤ 64 ∧ 1 ≤ pk := by rw [← hpk]; rcases pw_cases k hk with h | h | h | h | h | h | h | h <;> omega
      have hnx : pw (k + 1) = pk * 2 := by show 2 * pw k = _; rw [hpk]; omega
      rw [hpk]
      obtain ⟨ok, hok⟩ : ∃ ok, okK st k = ok := ⟨_, rfl⟩
      rw [hok]
      have hp64 : pk ≤ 64 := hle.1
      have hp1 : 1 ≤ pk := hle.2
      have HK := Lib.hid (And.intro hk (And.intro hk7 (And.intro hnx (And.intro hok (And.intro hpk hle)))))
      clear hk hk7 hnx hok hpk hle
      cases ok with
      | true =>
        go_wp2
        go_roundw
        case rel =>
          obtain ⟨a1, a2, a3, a4, a5, a6⟩ := HK.out
          refine ⟨k + 1, by omega, by rw [a3], ?_, by first | rfl | trivial⟩
          show Value.bool true = .bool (okK st k || st == pw k)
          rw [a4]; rfl
        case measure => have := HK.out; (simp [intOf]) <;> omega
      | false =>
        go_wp2
        go_roundw
        case rel =>
          obtain ⟨a1, a2, a3, a4, a5, a6⟩ := HK.out
          refine ⟨k + 1, by omega, by rw [a3], ?_, by first | rfl | trivial⟩
          show _ = Value.bool (okK st k || st == pw k)
          rw [a4, a5]; rfl
        case measure => have := HK.out; (simp [intOf]) <;> omega

set_option maxHeartbeats 8000000 in
set_option maxRecDepth 100000 in
theorem refNew_calls (n wy : Nat) (hn : setsB n) (hw : 1 ≤ wy ∧ wy ≤ 8) : Calls Try.prog 41 #[.int .i64 (n : Nat), .int .i64 (wy : Nat)] w (RetRT w n wy) := by
  have hw1 : (1 : Int) ≤ wy := by omega
  have hw8 : (wy : Int) ≤ 8 := by omega
  have hn64 : n ≤ 64 := by unfold setsB at hn; omega
  have hn1 : 1 ≤ n := by unfold setsB at hn; omega
  obtain ⟨N, hN⟩ : ∃ N, N = n * wy := ⟨_, rfl⟩
  have hN5 : N ≤ 512 := by
    have : n * wy ≤ 64 * 8 := Nat.mul_le_mul hn64 hw.2
    omega
  have hN1 : 1 ≤ N := by
    have : 1 * 1 ≤ n * wy := Nat.mul_le_mul hn1 hw.1
    omega
  have hmk := make_rplaces N hN5
  have e1 : wrap64 ((n : Int) * (wy : Int)) = (N : Int) := by
    rw [hN, ← Int.natCast_mul]; exact IntWalk.wrap64_in _ (by omega)
  have h7 := setsB_okK hn
  have HN := Lib.hid (And.intro hn1 (And.intro hn64 (And.intro hw (And.intro hN (And.intro hN1 (And.intro hN5 h7))))))
  have HM := Lib.hid hmk
  clear hn hw hn64 hn1 hN hN5 hN1 hmk h7
  go_enter Try.func41, Try.ntmps41
  go_wp2
  go_loopw [6, 7] (fun s6 s7 wx => ∃ k : Nat, k ≤ 7 ∧ s7 = .int .i64 (pw k) ∧ s6 = .bool (okK (n : Int) k) ∧ wx = w) (fun _ s7 _ => 128 - (intOf s7).toNat)
  case atStart => exact ⟨0, by omega, rfl, rfl, rfl⟩
  case round =>
    obtain ⟨k, hk, rfl, rfl, rfl⟩ := hrel
    by_cases hk7 : k = 7
    · subst hk7
      have hp : pw 7 = 128 := by decide
      rw [hp, HN.out.2.2.2.2.2.2]
      have hmk := HM.out wr
      clear hk hp HM
      go_wp2
      go_ret2
      have a := new_block wr (.cells (placesC (List.replicate N pl0)).toArray 129)
      have b := new_block (wr.alloc (.cells (placesC (List.replicate N pl0)).toArray 129)) (.cells #[.int .i64 (n : Nat), .int .i64 (wy : Nat), .slice (some ⟨wr.heap.size, 0, none⟩) N N] 126)
      rw [World.size_alloc] at b
      obtain ⟨a1, a2, a3, a4, a5, a6, -⟩ := HN.out
      exact ⟨_, _, N, rfl, { hq := b, hL := keep_old (old_alloc (old_refl _) _) a, hN := a4, len := by simp, h1 := ⟨a1, a2⟩, h2 := a3, h3 := ⟨a5, a6⟩, ne := by omega }, old_alloc (old_alloc (old_refl _) _) _, by omega, Nat.le_refl _⟩
    · obtain ⟨pk, hpk⟩ : ∃ pk, pw k = pk := ⟨_, rfl⟩
      have hle : pk ≤ 64 ∧ 1 ≤ pk := by rw [← hpk]; rcases pw_cases k hk with h | h | h | h | h | h | h | h <;> omega
      have hnx : pw (k + 1) = pk * 2 := by show 2 * pw k = _; rw [hpk]; omega
      rw [hpk]
      obtain ⟨ok, hok⟩ : ∃ ok, okK (n : Int) k = ok := ⟨_, rfl⟩
      rw [hok]
      have hp64 : pk ≤ 64 := hle.1
      have hp1 : 1 ≤ pk := hle.2
      have HK := Lib.hid (And.intro hk (And.intro hk7 (And.intro hnx (And.intro hok (And.intro hpk hle)))))
      clear hk hk7 hnx hok hpk hle
      cases ok with
      | true =>
        go_wp2
        go_roundw
        case rel =>
          obtain ⟨a1, a2, a3, a4, a5, a6⟩ := HK.out
          refine ⟨k + 1, by omega, by rw [a3], ?_, by first | rfl | trivial⟩
          show Value.bool true = .bool (okK (n : Int) k || (n : Int) == pw k)
          rw [a4]; rfl
        case measure => have := HK.out; (simp [intOf]) <;> omega
      | false =>
        go_wp2
        go_roundw
        case rel =>
          obtain ⟨a1, a2, a3, a4, a5, a6⟩ := HK.out
          refine ⟨k + 1, by omega, by rw [a3], ?_, by first | rfl | trivial⟩
          show _ = Value.bool (okK (n : Int) k || (n : Int) == pw k)
          rw [a4, a5]; rfl
        case measure => have := HK.out; (simp [intOf]) <;> omega

theorem sets_and : ∀ m : _root_.Fin 65, okK (m.val : Int) 7 = false → 1 ≤ m.val → bits .and .i64 (m.val : Int) ((m.val : Int) - 1) ≠ 0 := by decide
set_option maxHeartbeats 8000000 in
set_option maxRecDepth 100000 in
theorem tlbNew_bad (st wy : Int) (h : okK st 7 = false ∨ wy < 1 ∨ 8 < wy) : Calls Try.prog 29 #[.int .i64 st, .int .i64 wy] w (RetB w (.tuple #[.pointer none, .int .i64 1])) := by
  by_cases h1 : st < 1
  · clear h
    go_enter Try.func29, Try.ntmps29
    go_wp2
    go_ret2
    exact ⟨rfl, old_refl _⟩
  by_cases h2 : 64 < st
  · clear h
    go_enter Try.func29, Try.ntmps29
    go_wp2
    go_ret2
    exact ⟨rfl, old_refl _⟩
  obtain ⟨b, hb⟩ : ∃ b, bits .and .i64 st (st - 1) = b := ⟨_, rfl⟩
  have hs := sets_and ⟨st.toNat, by omega⟩
  simp only [show ((st.toNat : Nat) : Int) = st by omega] at hs
  rw [hb] at hs
  have hs1 : okK st 7 = false → b ≠ 0 := fun e => hs e (by omega)
  have l1 : 1 ≤ st := by omega
  have l2 : st ≤ 64 := by omega
  clear h1 h2 hs
  by_cases h0 : b = 0
  · have hw : wy < 1 ∨ 8 < wy := by
      rcases h with h | h
      · exact absurd h0 (hs1 h)
      · exact h
    subst h0
    clear h hs1
    rcases hw with hw | hw
    · go_enter Try.func29, Try.ntmps29
      go_wp2
      go_ret2
      exact ⟨rfl, old_refl _⟩
    · have hw1 : ¬ wy < 1 := by omega
      go_enter Try.func29, Try.ntmps29
      go_wp2
      go_ret2
      exact ⟨rfl, old_refl _⟩
  · clear h hs1
    go_enter Try.func29, Try.ntmps29
    go_wp2
    go_ret2
    exact ⟨rfl, old_refl _⟩
end
end Go.Proofs.Ytfiofjalpaeohaa
