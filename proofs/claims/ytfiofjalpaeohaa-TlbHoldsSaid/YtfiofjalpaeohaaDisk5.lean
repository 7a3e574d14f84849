/- Contracts of the package disk: Read, Write. -/
import Derived.Test.YtfiofjalpaeohaaDisk4
import Derived.Test.YtfiofjalpaeohaaStageW
namespace Go.Proofs.Ytfiofjalpaeohaa
set_option linter.unusedVariables false
set_option linter.unusedSimpArgs false
open Go.RowKit

theorem read_none (X : Nat → Prop) (p slots : Nat) (pg : Int → Option (List Nat)) (F : List Bool) (k : Int) (w : World) (h : IsDisk w X p slots pg F) (hk : pg k = none) :
    Calls Try.prog 21 #[.pointer (some ⟨p, 0, none⟩), .int .i64 k] w (RetDisk w X p slots (.tuple #[.slice none 0 0, .int .i64 23]) pg F) := by
  have H := Lib.hid h
  obtain ⟨m, f, fv, h1, h2, h3, h4, h5, h6, h7, h8, h9, hA⟩ := h
  have c1 : w.cell? ⟨p, 1, none⟩ = some (.map (some m)) := by rw [cell_of h1]; rfl
  have hlk := map_miss (P := Try.prog) (t := 106) Try.underlying106 Try.underlying3 (zero_bytes w) h3 (h8 k hk)
  clear h1 h2 h3 h4 h5 h6 h7 h8 h9 hA
  go_enter Try.func21, Try.ntmps21
  go_wp2
  go_ret2
  exact ⟨rfl, H.out, Only.refl _ _⟩

theorem read_fail (X : Nat → Prop) (p slots : Nat) (pg : Int → Option (List Nat)) (F : List Bool) (k : Int) (l : List Nat) (w : World) (h : IsDisk w X p slots pg F) (hk : pg k = some l) (hF : F.headD false = true) :
    Calls Try.prog 21 #[.pointer (some ⟨p, 0, none⟩), .int .i64 k] w (RetDisk w X p slots (.tuple #[.slice none 0 0, .int .i64 13]) pg F.tail) := by
  have hgo := goes_calls X p slots pg F w h
  rw [hF] at hgo
  obtain ⟨m, f, fv, h1, h2, h3, h4, h5, h6, h7, h8, h9, hA⟩ := h
  have c1 : w.cell? ⟨p, 1, none⟩ = some (.map (some m)) := by rw [cell_of h1]; rfl
  obtain ⟨v, hv, hpage⟩ := h9 k l hk
  have hlk := map_lookup (P := Try.prog) (t := 106) Try.underlying106 Try.underlying3 h3 hv
  obtain ⟨g, c, rfl, -⟩ := hpage
  clear h1 h3 h4 h5 h6 h7 h8 h9 hA hk hv hF
  go_enter Try.func21, Try.ntmps21
  go_wp2_with fail
  (with_reducible refine hgo.mono ?_)
  rintro e w1 ⟨rfl, hd, ho⟩
  have HD := Lib.hid hd
  have HO := Lib.hid ho
  clear hgo hd ho
  go_wp2
  go_ret2
  exact ⟨rfl, HD.out, HO.out.mono fun b _ e => by rw [e]; exact h2⟩

/-- A copy of a page was told. -/
def RetRead (w : World) (X : Nat → Prop) (p slots : Nat) (pg : Int → Option (List Nat)) (F : List Bool) (l : List Nat) (e : Ending) (w' : World) : Prop :=
  ∃ g c, e = .returned (.tuple #[.slice (some ⟨g, 0, none⟩) 4096 c, .int .i64 0]) ∧ Row w' w.heap.size g c l ∧ IsDisk w' X p slots pg F ∧ Only (fun b => ¬ X b) w w' ∧ g < w'.heap.size

set_option maxHeartbeats 2000000 in
set_option maxRecDepth 100000 in
theorem read_ok (X : Nat → Prop) (p slots : Nat) (pg : Int → Option (List Nat)) (F : List Bool) (k : Int) (l : List Nat) (w : World) (h : IsDisk w X p slots pg F) (hk : pg k = some l) (hF : F.headD false = false) :
    Calls Try.prog 21 #[.pointer (some ⟨p, 0, none⟩), .int .i64 k] w (RetRead w X p slots pg F.tail l) := by
  have hgo := goes_calls X p slots pg F w h
  rw [hF] at hgo
  obtain ⟨m, f, fv, h1, h2, h3, h4, h5, h6, h7, h8, h9, hA⟩ := h
  have c1 : w.cell? ⟨p, 1, none⟩ = some (.map (some m)) := by rw [cell_of h1]; rfl
  obtain ⟨v, hv, hpage⟩ := h9 k l hk
  have hlk := map_lookup (P := Try.prog) (t := 106) Try.underlying106 Try.underlying3 h3 hv
  obtain ⟨g, c, rfl, hl, hrow, b1, b2, b3⟩ := hpage
  obtain ⟨i0, hi, hz0, hz1, hz2⟩ := info_parts u8_info
  clear h1 h3 h4 h5 h6 h7 h8 h9 hA hk hv hF
  go_enter Try.func21, Try.ntmps21
  go_wp2_with fail
  (with_reducible refine hgo.mono ?_)
  rintro e w1 ⟨rfl, hd, ho⟩
  have hrow1 := row_only hrow ho b2
  have HD := Lib.hid hd
  have HO := Lib.hid ho
  have hB := row_bytes hrow1
  have hl256 := hrow1.2
  have hws := ho.size
  clear hgo hd ho hrow hrow1
  go_wp2_with (at_builtin; refine wpList_append_own _ rfl _ _ 31 rfl w.heap.size 5 i0 (.int .u8 0) 1 1 Try.underlying31 hi hz0 hz1 hz2 rfl (by decide) _ _ [] rfl (World.ownsRow_nil _ _ _ _) ⟨g, 0, none⟩ 4096 c (l.map vb) rfl (by simp [hl]) (bytes_news2 hB) (vb_one l) (by unfold maxLen; omega) (by omega) hws ?_; intro v' w2 hown hgrow h9; clear h9; simp only [Nat.zero_add, List.nil_append] at hown)
  obtain ⟨g2, c2, hv2, hrow2⟩ := row_of hown hl.symm (by omega) hl256
  rw [hl] at hv2
  subst hv2
  have hO2 := old_grown (old_refl w1) hgrow (fun g e => by cases e)
  go_ret2
  exact ⟨g2, c2, rfl, hrow2, disk_old HD.out hO2, (HO.out.mono fun b _ e => by rw [e]; exact h2).trans ((Only.of_below hO2).mono fun b _ f => f.elim), (row_parts hrow2).2.1⟩
end Go.Proofs.Ytfiofjalpaeohaa
