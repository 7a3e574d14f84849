/- Contracts of the package disk: Give, Read, Write. -/
import Derived.Test.YtfiofjalpaeohaaDisk3
namespace Go.Proofs.Ytfiofjalpaeohaa
set_option linter.unusedVariables false
set_option linter.unusedSimpArgs false
open Go.RowKit

theorem zero_bytes (w : World) : (zeroValue 31).run Try.prog w = .ok (.slice none 0 0) w := by kernel_rfl

section
variable {w w' : World} {X : Nat → Prop} {p m slots : Nat} {pg pg' : Int → Option (List Nat)} {F F' : List Bool} {f f' : Int → Option Value} {fv fv' : Value}

theorem disk_map (h1 : w.heap[p]? = some (.cells (diskCells slots m fv) 108)) (h2 : ¬ X p) (h4 : ¬ X m) (h5 : m ≠ p) (h6 : slots ≤ 4096) (hA : FailsIs w X p m fv F)
    (hm : IsMap w' m f' (cntOf pg' slots)) (ho : Only (fun j => j = m) w w')
    (h7 : ∀ k : Int, (pg' k).isSome = true → 0 ≤ k ∧ k < slots) (h8 : ∀ k, pg' k = none → f' k = none) (h9 : ∀ k l, pg' k = some l → ∃ v, f' k = some v ∧ PageIs w X p m v l) : IsDisk w' X p slots pg' F ∧ Only (fun b => ¬ X b) w w' := by
  refine ⟨⟨m, f', fv, keep_only ho (fun e => h5 e.symm) h1, h2, hm, h4, h5, h6, h7, h8, fun k l hk => ?_, fails_only hA ho fun b _ _ hb => hb⟩, ho.mono fun b _ e => by rw [e]; exact h4⟩
  obtain ⟨v, a, b⟩ := h9 k l hk
  exact ⟨v, a, page_only b ho fun b _ _ hb => hb⟩
end

theorem give_none (X : Nat → Prop) (p slots : Nat) (pg : Int → Option (List Nat)) (F : List Bool) (k : Int) (w : World) (h : IsDisk w X p slots pg F) (hk : pg k = none) :
    Calls Try.prog 16 #[.pointer (some ⟨p, 0, none⟩), .int .i64 k] w (RetDisk w X p slots (.int .i64 23) pg F) := by
  have H := Lib.hid h
  obtain ⟨m, f, fv, h1, h2, h3, h4, h5, h6, h7, h8, h9, hA⟩ := h
  have c1 : w.cell? ⟨p, 1, none⟩ = some (.map (some m)) := by rw [cell_of h1]; rfl
  have hlk := map_miss (P := Try.prog) (t := 106) Try.underlying106 Try.underlying3 (zero_bytes w) h3 (h8 k hk)
  clear h1 h2 h3 h4 h5 h6 h7 h8 h9 hA
  go_enter Try.func16, Try.ntmps16
  go_wp2
  go_ret
  exact ⟨rfl, H.out, Only.refl _ _⟩

set_option maxHeartbeats 1000000 in
theorem give_some (X : Nat → Prop) (p slots : Nat) (pg : Int → Option (List Nat)) (F : List Bool) (k : Int) (l : List Nat) (w : World) (h : IsDisk w X p slots pg F) (hk : pg k = some l) :
    Calls Try.prog 16 #[.pointer (some ⟨p, 0, none⟩), .int .i64 k] w (RetDisk w X p slots (.int .i64 0) (updP pg k none) F) := by
  obtain ⟨m, f, fv, h1, h2, h3, h4, h5, h6, h7, h8, h9, hA⟩ := h
  have c1 : w.cell? ⟨p, 1, none⟩ = some (.map (some m)) := by rw [cell_of h1]; rfl
  obtain ⟨v, hv, hpage⟩ := h9 k l hk
  have hlk := map_lookup (P := Try.prog) (t := 106) Try.underlying106 Try.underlying3 h3 hv
  obtain ⟨w', hdel, hmap, hn1, ho⟩ := map_del (P := Try.prog) (t := 106) Try.underlying106 Try.underlying3 h3 k v hv
  obtain ⟨k0, k1⟩ := h7 k (by rw [hk]; rfl)
  have hcnt : cntOf pg slots - 1 = cntOf (updP pg k none) slots := by
    have := cnt_upd pg k.toNat none slots (by omega)
    rw [show ((k.toNat : Nat) : Int) = k by omega, hk] at this
    simp at this
    omega
  rw [hcnt] at hmap
  have hnew := Lib.hid (disk_map (pg' := updP pg k none) h1 h2 h4 h5 h6 hA hmap ho (fun k' hk' => by
      unfold updP at hk'
      split at hk'
      · cases hk'
      · exact h7 k' hk') (fun k' hk' => by
      unfold updP at hk'
      unfold updF
      split
      · rfl
      · rename_i hne
        rw [if_neg hne] at hk'
        exact h8 k' hk') (fun k' l' hk' => by
      unfold updP at hk'
      unfold updF
      split at hk'
      · cases hk'
      · rename_i hne
        rw [if_neg hne]
        exact h9 k' l' hk'))
  obtain ⟨pp, rfl⟩ : ∃ pp, pp = v := ⟨_, rfl⟩
  obtain ⟨g, c, rfl, -⟩ := hpage
  clear h1 h2 h3 h4 h5 h6 h7 h8 h9 hA hmap ho hcnt hk hv
  go_enter Try.func16, Try.ntmps16
  go_wp2
  go_ret
  exact ⟨rfl, hnew.out.1, hnew.out.2⟩
end Go.Proofs.Ytfiofjalpaeohaa
