/- Contracts of the package disk: what turns it. -/
import Derived.Test.YtfiofjalpaeohaaDisk
namespace Go.Proofs.Ytfiofjalpaeohaa
set_option linter.unusedVariables false
set_option linter.unusedSimpArgs false
open Go.RowKit

theorem disk_set2 (slots m : Nat) (v v' : Value) : (diskCells slots m v).setIfInBounds 2 v' = diskCells slots m v' := rfl

section
variable {w : World} {X : Nat → Prop} {p m slots : Nat} {pg : Int → Option (List Nat)} {F F' : List Bool} {f : Int → Option Value} {fv fv' : Value}

/-- The disk's parts, for a walk. -/
theorem disk_fails (h1 : w.heap[p]? = some (.cells (diskCells slots m fv) 108)) (h2 : ¬ X p) (h3 : IsMap w m f (cntOf pg slots)) (h4 : ¬ X m) (h5 : m ≠ p) (h6 : slots ≤ 4096)
    (h7 : ∀ k : Int, (pg k).isSome = true → 0 ≤ k ∧ k < slots) (h8 : ∀ k, pg k = none → f k = none) (h9 : ∀ k l, pg k = some l → ∃ v, f k = some v ∧ PageIs w X p m v l) (hF : FailsIs w X p m fv' F') :
    IsDisk (putB w p (.cells (diskCells slots m fv') 108)) X p slots pg F' ∧ Only (fun b => ¬ X b) w (putB w p (.cells (diskCells slots m fv') 108)) := by
  have ho : Only (fun b => b = p) w (putB w p (.cells (diskCells slots m fv') 108)) := (Only.refl _ w).putB _ fun _ => rfl
  refine ⟨⟨m, f, fv', putB_same _ (lt_of_block h1), h2, isMap_only h3 ho h5, h4, h5, h6, h7, h8, fun k l hk => ?_, fails_only hF ho fun b _ hb _ => hb⟩, ho.mono fun b _ e => by rw [e]; exact h2⟩
  obtain ⟨v, a, b⟩ := h9 k l hk
  exact ⟨v, a, page_only b ho fun b _ hb _ => hb⟩
end

theorem slice_tail (w : World) (ad : Option Addr) (n c : Nat) (h : n + 1 ≤ c) : (Instr.slice 32 (.slice ad (n + 1) c) (some (.int .i64 1)) none none).run Try.prog w = .ok (.slice (if c = 1 then ad else ad.map (·.add 1)) n (c - 1)) w := by
  rw [run_slice_l (P := Try.prog) w 32 ad (n + 1) c (by kernel_rfl) .i64 1 (by omega) (by omega)]
  have hs : (sizeOf (Try.prog.elem 32)).run Try.prog w = .ok 1 w := by kernel_rfl
  rw [hs]
  simp [Result.andThen, sliced]

set_option maxHeartbeats 2000000 in
theorem goes_calls (X : Nat → Prop) (p slots : Nat) (pg : Int → Option (List Nat)) (F : List Bool) (w : World) (h : IsDisk w X p slots pg F) :
    Calls Try.prog 67 #[.pointer (some ⟨p, 0, none⟩)] w (fun e w' => e = .returned (.bool (!F.headD false)) ∧ IsDisk w' X p slots pg F.tail ∧ Only (fun b => b = p) w w') := by
  have H := Lib.hid h
  obtain ⟨m, f, fv, h1, h2, h3, h4, h5, h6, h7, h8, h9, hA⟩ := h
  cases F with
  | nil =>
    obtain ⟨ad, c, rfl, _⟩ := hA
    have c2 : w.cell? ⟨p, 2, none⟩ = some (.slice ad 0 c) := by rw [cell_of h1]; rfl
    clear h1 h2 h3 h4 h5 h6 h7 h8 h9
    go_enter Try.func67, Try.ntmps67
    go_wp2
    go_ret
    exact ⟨rfl, H.out, Only.refl _ _⟩
  | cons x F =>
    obtain ⟨ad, c, rfl, a1, a2, a3⟩ := hA
    have a1' : F.length + 1 ≤ c := a1
    obtain ⟨g, off, rfl, b1, b2, b3, b4, b5⟩ := a3 0 x rfl
    have c2 : w.cell? ⟨p, 2, none⟩ = some (.slice (some ⟨g, off, none⟩) (F.length + 1) c) := by rw [cell_of h1]; rfl
    have f2 : w.frozen? ⟨p, 2, none⟩ = false := frozen_of h1 _
    have cx : w.cell? ⟨g, off, none⟩ = some (.bool x) := b5
    have hsl := fun w => slice_tail w (some ⟨g, off, none⟩) F.length c a1'
    have hF : FailsIs w X p m (.slice (if c = 1 then some ⟨g, off, none⟩ else (some (⟨g, off, none⟩ : Addr)).map (·.add 1)) F.length (c - 1)) F := by
      refine ⟨_, _, rfl, by omega, by omega, fun k y hy => ?_⟩
      have hk := (List.getElem?_eq_some_iff.1 hy).1
      obtain ⟨g', off', e, d1, d2, d3, d4, d5⟩ := a3 (k + 1) y (by simpa using hy)
      cases e
      refine ⟨g, off + 1, by rw [if_neg (by omega)]; simp [Addr.add], d1, d2, d3, d4, ?_⟩
      rw [show off + 1 + k = off + (k + 1) by omega]
      exact d5
    generalize (if c = 1 then some (⟨g, off, none⟩ : Addr) else (some (⟨g, off, none⟩ : Addr)).map (·.add 1)) = ad' at *
    have s2 : w.setCell ⟨p, 2, none⟩ (.slice ad' F.length (c - 1)) = putB w p (.cells (diskCells slots m (.slice ad' F.length (c - 1))) 108) := by rw [set_of h1, disk_set2]
    have hP := Lib.hid ((Only.refl (fun b => b = p) w).putB (b := p) (.cells (diskCells slots m (.slice ad' F.length (c - 1))) 108) fun _ => rfl)
    have hnew := Lib.hid (disk_fails h1 h2 h3 h4 h5 h6 h7 h8 h9 hF)
    generalize putB w p (.cells (diskCells slots m (.slice ad' F.length (c - 1))) 108) = W at *
    clear h1 h2 h3 h4 h5 h6 h7 h8 h9 hF a3 b5 H
    go_enter Try.func67, Try.ntmps67
    go_wp2
    go_ret
    exact ⟨rfl, hnew.out.1, hP.out⟩
end Go.Proofs.Ytfiofjalpaeohaa
