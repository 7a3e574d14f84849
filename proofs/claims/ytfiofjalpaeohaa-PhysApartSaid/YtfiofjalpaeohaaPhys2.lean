/- Contracts of the package phys: place, Read, Write. -/
import Derived.Test.YtfiofjalpaeohaaPhys
namespace Go.Proofs.Ytfiofjalpaeohaa
set_option linter.unusedVariables false
set_option linter.unusedSimpArgs false
open Go.RowKit

/-- Why a word may not be. -/
def placeE (frames : Nat) (addr : Nat) (s : Int) : Int := if checkN 4096 ((addr % 4096 : Nat) : Int) s ≠ 0 then checkN 4096 ((addr % 4096 : Nat) : Int) s else if frames ≤ addr / 4096 then 2 else 0
section
variable {X : Nat → Prop} {p frames ops : Nat} {pg : Int → Option (List Nat)} {w : World}
theorem mplace_calls (h : IsMem w X p frames pg ops) (addr : Nat) (ha : addr < 18446744073709551616) (s : Int) :
    Calls Try.prog 81 #[.pointer (some ⟨p, 0, none⟩), .int .u64 (addr : Nat), .int .i64 s] w
      (RetB w (.tuple (if placeE frames addr s = 0 then #[.int .i64 (addr / 4096 : Nat), .int .i64 (addr % 4096 : Nat), .int .i64 0] else #[.int .i64 0, .int .i64 0, .int .i64 (placeE frames addr s)]))) := by
  obtain ⟨w1, hmk, hrow, hO⟩ := make_page w
  obtain ⟨m, f, n, h1, h2, h3, h4, h5, h6, h7, h8⟩ := h
  have c0 : w.cell? ⟨p, 0, none⟩ = some (.int .i64 frames) := by rw [cell_of h1]; rfl
  have hB := row_bytes hrow
  have hp := lt_of_block h1
  have e1 : ((addr : Int) % 4096) = ((addr % 4096 : Nat) : Int) := by omega
  have e2 : ((addr : Int) / 4096) = ((addr / 4096 : Nat) : Int) := by omega
  have hfr : IntKind.u64.wrap (frames : Int) = frames := IntWalk.u64_in _ (by omega)
  have hlo : addr % 4096 < 4096 := Nat.mod_lt _ (by decide)
  have hhi : addr / 4096 ≤ 9007199254740992 := by omega
  generalize hA : addr % 4096 = at_ at *
  generalize hF : addr / 4096 = fr at *
  have HA := Lib.hid (And.intro hA hF)
  have hPE : placeE frames addr s = if checkN 4096 (at_ : Int) s ≠ 0 then checkN 4096 (at_ : Int) s else if frames ≤ fr then 2 else 0 := by unfold placeE; rw [hA, hF]
  rw [hPE]
  clear hPE
  by_cases hc : checkN 4096 (at_ : Int) s = 0
  case neg =>
    have e : (if checkN 4096 (at_ : Int) s ≠ 0 then checkN 4096 (at_ : Int) s else if frames ≤ fr then 2 else 0) = checkN 4096 (at_ : Int) s := if_pos hc
    rw [e, if_neg hc]
    clear e
    have hget := fun x => get_fail (some ⟨w.heap.size, 0, none⟩) 4096 4096 (at_ : Int) s x (by decide) _ rfl hc
    generalize checkN 4096 (at_ : Int) s = E at *
    have hb : (E != 0) = true := by simp [hc]
    have HO := Lib.hid hO
    clear h1 h2 h3 h4 h5 h6 h7 h8 hA hF hB hrow hO hc c0
    go_enter Try.func81, Try.ntmps81
    go_wp2_with fail
    (with_reducible refine (hget _).mono ?_)
    rintro e w2 ⟨rfl, hb2⟩
    go_wp2
    go_ret3
    exact ⟨rfl, old_then HO.out hb2⟩
  case pos =>
  have e : (if checkN 4096 (at_ : Int) s ≠ 0 then checkN 4096 (at_ : Int) s else if frames ≤ fr then (2 : Int) else 0) = if frames ≤ fr then 2 else 0 := if_neg (by simp [hc])
  rw [e]
  clear e
  have hs : 1 ≤ s ∧ s ≤ 8 ∧ (at_ : Int) + s ≤ 4096 := by
    unfold checkN at hc
    split at hc
    · cases hc
    split at hc
    · cases hc
    split at hc
    · cases hc
    rename_i g1 g2 g3
    have g1' := Classical.not_not.1 g1
    omega
  obtain ⟨sn, rfl⟩ : ∃ sn : Nat, s = sn := ⟨s.toNat, by omega⟩
  have hz := zeros4096_length
  have hget := fun x (hBx : Bytes x (some ⟨w.heap.size, 0, none⟩) 4096 zeros4096) => get_ok (some ⟨w.heap.size, 0, none⟩) zeros4096 4096 (at_ : Int) (sn : Int) at_ sn rfl rfl x hBx (by rw [hz]; exact hc) (by omega) (by omega) (by omega)
  rw [hz] at hget
  have hg1 := hget w1 hB
  generalize getN zeros4096 at_ sn = gv at *
  have HO := Lib.hid hO
  have H1 := Lib.hid h1
  have hold : ∀ y, Old w1 y → y.cell? ⟨p, 0, none⟩ = some (.int .i64 frames) := fun y hy => by rw [cell_of (keep_old hy (keep_old hO h1))]; rfl
  have HC := Lib.hid hold
  have hcast : IntKind.i64.wrap (fr : Int) = fr := IntWalk.i64_in _ (by omega)
  by_cases hr : frames ≤ fr
  · have e : (if frames ≤ fr then (2 : Int) else 0) = 2 := if_pos hr
    rw [e, if_neg (by decide)]
    clear e
    clear h1 h2 h3 h4 h5 h6 h7 h8 hA hF hB hrow hO hc c0 hz hget hold
    go_enter Try.func81, Try.ntmps81
    go_wp2_with fail
    (with_reducible refine hg1.mono ?_)
    rintro e w2 ⟨rfl, hb2⟩
    have c0 := HC.out _ hb2
    go_wp2
    go_ret3
    exact ⟨rfl, old_then HO.out hb2⟩
  · have e : (if frames ≤ fr then (2 : Int) else 0) = 0 := if_neg hr
    rw [e, if_pos rfl]
    clear e
    clear h1 h2 h3 h4 h5 h6 h7 h8 hA hF hB hrow hO hc c0 hz hget hold
    go_enter Try.func81, Try.ntmps81
    go_wp2_with fail
    (with_reducible refine hg1.mono ?_)
    rintro e w2 ⟨rfl, hb2⟩
    have c0 := HC.out _ hb2
    go_wp2
    go_ret3
    exact ⟨rfl, old_then HO.out hb2⟩
end
end Go.Proofs.Ytfiofjalpaeohaa
