/- The package tlb: Evict. -/
import Derived.Test.YtfiofjalpaeohaaTlbNew
namespace Go.Proofs.Ytfiofjalpaeohaa
set_option linter.unusedVariables false
set_option linter.unusedSimpArgs false
open Go.RowKit

section
variable {w : World} {p gs : Nat} {bs : List Nat} {n wy : Nat} {T : List (List Pl)} {i b : Nat} {t : List Pl}
set_option maxHeartbeats 8000000 in
set_option maxRecDepth 100000 in
theorem evict_calls (h : IsTlb w p gs bs n wy T) (hb : bs[i]? = some b) (ht : T[i]? = some t) (j : Nat) (q : Pl) (hq : t[j]? = some q) :
    Calls Try.prog 38 #[.pointer (some ⟨p, 0, none⟩), .int .i64 (i : Nat), .int .i64 (j : Nat)] w (fun e y => e = .returned (.bool q.on) ∧
      IsTlb y p gs bs n wy (T.set i (t.set j pl0)) ∧ Only (fun z => z = b) w y) := by
  have htl := (h.set_ i b t hb ht).1
  have hil : i < bs.length := (List.getElem?_eq_some_iff.1 hb).1
  have hjl : j < t.length := (List.getElem?_eq_some_iff.1 hq).1
  have c0 : w.cell? ⟨p, 0, none⟩ = some (.slice (some ⟨gs, 0, none⟩) n n) := by rw [cell_of h.hp]; rfl
  have c1 : w.cell? ⟨gs, i, none⟩ = some (.slice (some ⟨b, 0, none⟩) wy wy) := by rw [cell_of h.hg]; simp [hb]
  have c2 : w.cell? ⟨b, j * 12, none⟩ = some (.bool q.on) := pl_cell h hb ht hq 0 _ rfl
  have hfin := tlb_put h hb (t.set j pl0) (by rw [List.length_set]; exact htl)
  have HB0 := Lib.hid ((h.set_ i b t hb ht).2)
  have hfl : List.take (j * 12) (placesC t) ++ pl0.cells ++ List.drop (j * 12 + pl0.cells.length) (placesC t) = placesC (t.set j pl0) := flatC_set pl_len t j pl0 hjl
  have hJl : j * 12 + 12 ≤ (placesC t).length := by rw [flatC_length pl_len]; omega
  have HJL := Lib.hid hJl
  have HFL := Lib.hid hfl
  have HF := Lib.hid hfin
  have i1 : (i : Int) < n := by rw [h.lb] at hil; omega
  have j1 : (j : Int) < wy := by omega
  have n64 : (n : Int) ≤ 64 := by have := h.h1.2; omega
  have w8 : (wy : Int) ≤ 8 := by have := h.h2.2; omega
  obtain ⟨on, l⟩ := q
  clear h hb ht htl hil hjl hfin hJl hfl hq
  go_enter Try.func38, Try.ntmps38
  go_wp2_with (refine wpList_store_at rfl 120 _ _ rfl b (j * 12) pl0.cells rfl rfl 120 _ HB0.out (by kernel_rfl) HJL.out (pl_one _) ?_)
  go_ret
  refine ⟨rfl, ?_, ((Only.refl _ w)).putB _ (fun _ => rfl)⟩
  rw [← List.append_assoc]
  rw [HFL.out]
  exact HF.out
set_option maxHeartbeats 8000000 in
theorem evict_bad (h : IsTlb w p gs bs n wy T) (si wi : Int) (hbad : ¬ (0 ≤ si ∧ si < n ∧ 0 ≤ wi ∧ wi < wy)) :
    Calls Try.prog 38 #[.pointer (some ⟨p, 0, none⟩), .int .i64 si, .int .i64 wi] w (RetB w (.bool false)) := by
  have c0 : w.cell? ⟨p, 0, none⟩ = some (.slice (some ⟨gs, 0, none⟩) n n) := by rw [cell_of h.hp]; rfl
  have n64 : (n : Int) ≤ 64 := by have := h.h1.2; omega
  have w8 : (wy : Int) ≤ 8 := by have := h.h2.2; omega
  by_cases h1 : si < 0
  · clear h hbad
    go_enter Try.func38, Try.ntmps38
    go_wp2
    go_ret
    exact ⟨rfl, old_refl _⟩
  · by_cases h2 : (n : Int) ≤ si
    · clear h hbad
      go_enter Try.func38, Try.ntmps38
      go_wp2
      go_ret
      exact ⟨rfl, old_refl _⟩
    · obtain ⟨i, rfl⟩ : ∃ i : Nat, si = i := ⟨si.toNat, by omega⟩
      obtain ⟨b, hb⟩ : ∃ b, bs[i]? = some b := ⟨_, List.getElem?_eq_getElem (by rw [h.lb]; omega)⟩
      have c1 : w.cell? ⟨gs, i, none⟩ = some (.slice (some ⟨b, 0, none⟩) wy wy) := by rw [cell_of h.hg]; simp [hb]
      have i1 : (i : Int) < n := by omega
      by_cases h3 : wi < 0
      · clear h hbad hb h2
        go_enter Try.func38, Try.ntmps38
        go_wp2
        go_ret
        exact ⟨rfl, old_refl _⟩
      · have h4 : (wy : Int) ≤ wi := by omega
        clear h hbad hb h2
        go_enter Try.func38, Try.ntmps38
        go_wp2
        go_ret
        exact ⟨rfl, old_refl _⟩
end
end Go.Proofs.Ytfiofjalpaeohaa
