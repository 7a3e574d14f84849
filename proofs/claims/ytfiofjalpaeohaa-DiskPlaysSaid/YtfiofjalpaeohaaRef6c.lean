/- Contracts of the document's disk: Read, Write where nothing is written, Take where there is nothing to take. -/
import Derived.Test.YtfiofjalpaeohaaRef6b
namespace Go.Proofs.Ytfiofjalpaeohaa
set_option linter.unusedVariables false
set_option linter.unusedSimpArgs false
open Go.RowKit

set_option maxHeartbeats 1000000 in
theorem refRead_none (O : Nat → Prop) (q slots : Nat) (pg : Int → Option (List Nat)) (F : List Bool) (k : Int) (w : World) (h : IsRef w O q slots pg F) (hk : pg k = none) :
    Calls Try.prog 22 #[.pointer (some ⟨q, 0, none⟩), .int .i64 k] w (RetB w (.tuple #[.slice none 0 0, .int .i64 23])) := by
  have hh := refHas_calls O q slots pg F k w h
  rw [hk] at hh
  clear h hk
  go_enter Try.func22, Try.ntmps22
  go_wp2_with fail
  (with_reducible refine hh.mono ?_)
  rintro e w1 ⟨rfl, hb1⟩
  go_wp2
  go_ret2
  exact ⟨rfl, hb1⟩

set_option maxHeartbeats 1000000 in
theorem refRead_fail (O : Nat → Prop) (q slots : Nat) (pg : Int → Option (List Nat)) (F : List Bool) (k : Int) (l : List Nat) (w : World) (h : IsRef w O q slots pg F) (hk : pg k = some l) (hF : F.headD false = true) :
    Calls Try.prog 22 #[.pointer (some ⟨q, 0, none⟩), .int .i64 k] w (fun e w' => e = .returned (.tuple #[.slice none 0 0, .int .i64 13]) ∧ IsRef w' O q slots pg F.tail ∧ Only (fun b => b = q) w w') := by
  have hh := refHas_calls O q slots pg F k w h
  rw [hk] at hh
  have H := Lib.hid h
  clear h hk
  go_enter Try.func22, Try.ntmps22
  go_wp2_with fail
  (with_reducible refine hh.mono ?_)
  rintro e w1 ⟨rfl, hb1⟩
  have hf := refFails_calls O q slots pg F w1 (ref_old H.out hb1)
  rw [hF] at hf
  clear hh H
  go_wp2_with fail
  (with_reducible refine hf.mono ?_)
  rintro e w2 ⟨rfl, h2, ho2⟩
  have H2 := Lib.hid (And.intro h2 (((Only.of_below hb1).mono fun b _ f => f.elim).trans ho2))
  clear hf h2 ho2
  go_wp2
  go_ret2
  exact ⟨rfl, H2.out.1, H2.out.2⟩

set_option maxHeartbeats 1000000 in
theorem refRead_ok (O : Nat → Prop) (q slots : Nat) (pg : Int → Option (List Nat)) (F : List Bool) (k : Int) (l : List Nat) (w : World) (h : IsRef w O q slots pg F) (hk : pg k = some l) (hF : F.headD false = false) :
    Calls Try.prog 22 #[.pointer (some ⟨q, 0, none⟩), .int .i64 k] w (fun e w' => ∃ g c, e = .returned (.tuple #[.slice (some ⟨g, 0, none⟩) 4096 c, .int .i64 0]) ∧ Row w' 0 g c l ∧ O g ∧ IsRef w' O q slots pg F.tail ∧ Only (fun b => b = q) w w') := by
  have hh := refHas_calls O q slots pg F k w h
  rw [hk] at hh
  have H := Lib.hid h
  have HK := Lib.hid hk
  clear h hk
  go_enter Try.func22, Try.ntmps22
  go_wp2_with fail
  (with_reducible refine hh.mono ?_)
  rintro e w1 ⟨rfl, hb1⟩
  have hf := refFails_calls O q slots pg F w1 (ref_old H.out hb1)
  rw [hF] at hf
  clear hh H
  go_wp2_with fail
  (with_reducible refine hf.mono ?_)
  rintro e w2 ⟨rfl, h2, ho2⟩
  have H2 := Lib.hid (And.intro h2 (((Only.of_below hb1).mono fun b _ f => f.elim).trans ho2))
  obtain ⟨ob, gb, on, vs, fv, h3⟩ := h2
  obtain ⟨h0, h1⟩ := h3.hin k (by rw [HK.out]; rfl)
  obtain ⟨j, rfl⟩ : ∃ j : Nat, k = j := ⟨k.toNat, by omega⟩
  have hj : j < slots := by omega
  obtain ⟨v, hv, g, c, rfl, hl, hrow, hO, _⟩ := h3.hpg j l HK.out
  have c1 : w2.cell? ⟨q, 1, none⟩ = some (.slice (some ⟨gb, 0, none⟩) slots slots) := by rw [cell_of h3.hq]; rfl
  have cg : w2.cell? ⟨gb, j, none⟩ = some (.slice (some ⟨g, 0, none⟩) 4096 c) := by rw [cell_of h3.hg]; simpa using hv
  have HR := Lib.hid hrow
  clear hf h3 ho2 hv hrow
  go_wp2
  go_ret2
  exact ⟨g, c, rfl, HR.out, hO, H2.out.1, H2.out.2⟩

set_option maxHeartbeats 1000000 in
theorem refWrite_none (O : Nat → Prop) (q slots : Nat) (pg : Int → Option (List Nat)) (F : List Bool) (k : Int) (v : Value) (w : World) (h : IsRef w O q slots pg F) (hk : pg k = none) :
    Calls Try.prog 20 #[.pointer (some ⟨q, 0, none⟩), .int .i64 k, v] w (RetB w (.int .i64 23)) := by
  have hh := refHas_calls O q slots pg F k w h
  rw [hk] at hh
  clear h hk
  go_enter Try.func20, Try.ntmps20
  go_wp2_with fail
  (with_reducible refine hh.mono ?_)
  rintro e w1 ⟨rfl, hb1⟩
  go_wp2
  go_ret
  exact ⟨rfl, hb1⟩

set_option maxHeartbeats 1000000 in
theorem refWrite_arg (O : Nat → Prop) (q slots : Nat) (pg : Int → Option (List Nat)) (F : List Bool) (k : Int) (l : List Nat) (ad : Option Addr) (n c : Nat) (w : World) (h : IsRef w O q slots pg F) (hk : pg k = some l) (hn : n ≠ 4096) :
    Calls Try.prog 20 #[.pointer (some ⟨q, 0, none⟩), .int .i64 k, .slice ad n c] w (RetB w (.int .i64 1)) := by
  have hh := refHas_calls O q slots pg F k w h
  rw [hk] at hh
  have hnb : ((n : Int) != 4096) = true := bne_iff_ne.2 (by omega)
  clear h hk hn
  go_enter Try.func20, Try.ntmps20
  go_wp2_with fail
  (with_reducible refine hh.mono ?_)
  rintro e w1 ⟨rfl, hb1⟩
  go_wp2
  go_ret
  exact ⟨rfl, hb1⟩

set_option maxHeartbeats 1000000 in
theorem refWrite_fail (O : Nat → Prop) (q slots : Nat) (pg : Int → Option (List Nat)) (F : List Bool) (k : Int) (l : List Nat) (ad : Option Addr) (c : Nat) (w : World) (h : IsRef w O q slots pg F) (hk : pg k = some l) (hF : F.headD false = true) :
    Calls Try.prog 20 #[.pointer (some ⟨q, 0, none⟩), .int .i64 k, .slice ad 4096 c] w (fun e w' => e = .returned (.int .i64 13) ∧ IsRef w' O q slots pg F.tail ∧ Only (fun b => b = q) w w') := by
  have hh := refHas_calls O q slots pg F k w h
  rw [hk] at hh
  have H := Lib.hid h
  clear h hk
  go_enter Try.func20, Try.ntmps20
  go_wp2_with fail
  (with_reducible refine hh.mono ?_)
  rintro e w1 ⟨rfl, hb1⟩
  have hf := refFails_calls O q slots pg F w1 (ref_old H.out hb1)
  rw [hF] at hf
  clear hh H
  go_wp2_with fail
  (with_reducible refine hf.mono ?_)
  rintro e w2 ⟨rfl, h2, ho2⟩
  have H2 := Lib.hid (And.intro h2 (((Only.of_below hb1).mono fun b _ f => f.elim).trans ho2))
  clear hf h2 ho2
  go_wp2
  go_ret
  exact ⟨rfl, H2.out.1, H2.out.2⟩

end Go.Proofs.Ytfiofjalpaeohaa
