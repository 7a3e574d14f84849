/- Contracts of the package phys: Read, Write; bytes.Clone, bytes.Equal. -/
import Derived.Test.YtfiofjalpaeohaaPhys2
namespace Go.Proofs.Ytfiofjalpaeohaa
set_option linter.unusedVariables false
set_option linter.unusedSimpArgs false
open Go.RowKit

theorem placeE_zero {frames addr : Nat} {s : Int} (h : placeE frames addr s = 0) : checkN 4096 ((addr % 4096 : Nat) : Int) s = 0 ∧ addr / 4096 < frames ∧ 1 ≤ s ∧ s ≤ 8 ∧ ((addr % 4096 : Nat) : Int) + s ≤ 4096 := by
  have hc : checkN 4096 ((addr % 4096 : Nat) : Int) s = 0 := by
    unfold placeE at h
    split at h
    · rename_i h1; exact absurd h h1
    · rename_i h1; exact Classical.not_not.1 h1
  have hf : addr / 4096 < frames := by
    unfold placeE at h
    rw [if_neg (fun g => g hc)] at h
    split at h
    · cases h
    · omega
  refine ⟨hc, hf, ?_⟩
  unfold checkN at hc
  split at hc
  · cases hc
  split at hc
  · cases hc
  split at hc
  · cases hc
  rename_i g1 g2 g3
  have g1' := Classical.not_not.1 g1
  omega

section
variable {X : Nat → Prop} {p frames ops : Nat} {pg : Int → Option (List Nat)} {w : World}
theorem read_fail2 (h : IsMem w X p frames pg ops) (addr : Nat) (ha : addr < 18446744073709551616) (s : Int) (he : placeE frames addr s ≠ 0) :
    Calls Try.prog 48 #[.pointer (some ⟨p, 0, none⟩), .int .u64 (addr : Nat), .int .i64 s] w (RetB w (.tuple #[.int .u64 0, .int .i64 (placeE frames addr s)])) := by
  have hp := mplace_calls h addr ha s
  rw [if_neg he] at hp
  generalize placeE frames addr s = E at *
  have hb : (E != 0) = true := by simp [he]
  clear he h
  go_enter Try.func48, Try.ntmps48
  go_wp2_with fail
  (with_reducible refine hp.mono ?_)
  rintro e w1 ⟨rfl, hb1⟩
  go_wp2
  go_ret2
  exact ⟨rfl, hb1⟩
/-- What a frame's number is. -/
def wordOf (pg : Int → Option (List Nat)) (addr : Nat) (s : Int) : Nat := getN (pageOf pg ((addr / 4096 : Nat) : Int)) (addr % 4096) s.toNat
set_option maxHeartbeats 1000000 in
theorem read_ok2 (h : IsMem w X p frames pg ops) (addr : Nat) (ha : addr < 18446744073709551616) (s : Int) (he : placeE frames addr s = 0) (ho : ops < 4611686018427387904) :
    Calls Try.prog 48 #[.pointer (some ⟨p, 0, none⟩), .int .u64 (addr : Nat), .int .i64 s] w (RetMem w X p frames (.tuple #[.int .u64 (wordOf pg addr s : Nat), .int .i64 0]) pg (ops + 1)) := by
  have hp := mplace_calls h addr ha s
  rw [if_pos he] at hp
  obtain ⟨hc, hf, hs1, hs8, hle⟩ := placeE_zero he
  obtain ⟨sn, rfl⟩ : ∃ sn : Nat, s = sn := ⟨s.toNat, by omega⟩
  have hl := fun k => pageOf_length h k
  have H := Lib.hid h
  have hv : wordOf pg addr (sn : Int) = getN (pageOf pg ((addr / 4096 : Nat) : Int)) (addr % 4096) sn := rfl
  rw [hv]
  clear hv
  generalize addr / 4096 = fr at *
  generalize addr % 4096 = at_ at *
  have hget := fun x c g (hBx : Bytes x (some ⟨g, 0, none⟩) c (pageOf pg (fr : Int))) => get_ok (some ⟨g, 0, none⟩) (pageOf pg (fr : Int)) c (at_ : Int) (sn : Int) at_ sn rfl rfl x hBx (by rw [hl]; exact hc) (by rw [hl]; omega) (by omega) (by omega)
  simp only [hl] at hget
  have HG := Lib.hid hget
  clear h he hc hf hle hl hget
  go_enter Try.func48, Try.ntmps48
  go_wp2_with fail
  (with_reducible refine hp.mono ?_)
  rintro e w1 ⟨rfl, hb1⟩
  obtain ⟨C, hC1, hC2, hm, hOn⟩ := mem_ops (mem_old H.out hb1) (ops + 1)
  have hcell : w1.cell? ⟨p, 2, none⟩ = some (.int .i64 ops) := by rw [cell_of hC1]; exact hC2
  have hfr := frozen_of hC1 2
  have hset : w1.setCell ⟨p, 2, none⟩ (.int .i64 ((ops : Int) + 1)) = putB w1 p (.cells (C.setIfInBounds 2 (.int .i64 ((ops + 1 : Nat) : Int))) 134) := by rw [set_of hC1]; rfl
  generalize putB w1 p (.cells (C.setIfInBounds 2 (.int .i64 ((ops + 1 : Nat) : Int))) 134) = W at *
  have hO1 : Only (fun b => ¬ X b) w W := ((Only.of_below hb1).mono fun b _ f => f.elim).trans hOn
  have hpg := page_calls hm (fr : Int)
  have HM := Lib.hid (And.intro hm hO1)
  clear hC1 hC2 hm hOn hO1 hb1 hp
  go_wp2_with fail
  (with_reducible refine hpg.mono ?_)
  rintro e w2 ⟨g, c, rfl, hrow, hO2⟩
  have hg1 := HG.out w2 c g (row_bytes hrow)
  have HM2 := Lib.hid (And.intro (mem_old HM.out.1 hO2) (HM.out.2.trans ((Only.of_below hO2).mono fun b _ f => f.elim)))
  clear hpg hrow hO2
  go_wp2_with fail
  (with_reducible refine hg1.mono ?_)
  rintro e w3 ⟨rfl, hO3⟩
  have HM3 := Lib.hid (And.intro (mem_old HM2.out.1 hO3) (HM2.out.2.trans ((Only.of_below hO3).mono fun b _ f => f.elim)))
  clear hg1 hO3
  go_wp2
  go_ret2
  exact ⟨rfl, HM3.out.1, HM3.out.2⟩
theorem write_fail2 (h : IsMem w X p frames pg ops) (addr : Nat) (ha : addr < 18446744073709551616) (s : Int) (v : Int) (he : placeE frames addr s ≠ 0) :
    Calls Try.prog 49 #[.pointer (some ⟨p, 0, none⟩), .int .u64 (addr : Nat), .int .i64 s, .int .u64 v] w (RetB w (.int .i64 (placeE frames addr s))) := by
  have hp := mplace_calls h addr ha s
  rw [if_neg he] at hp
  generalize placeE frames addr s = E at *
  have hb : (E != 0) = true := by simp [he]
  clear he h
  go_enter Try.func49, Try.ntmps49
  go_wp2_with fail
  (with_reducible refine hp.mono ?_)
  rintro e w1 ⟨rfl, hb1⟩
  go_wp2
  go_ret
  exact ⟨rfl, hb1⟩
/-- A frame with another number. -/
def wroteOf (pg : Int → Option (List Nat)) (addr : Nat) (s : Int) (v : Nat) : List Nat := putL (pageOf pg ((addr / 4096 : Nat) : Int)) (addr % 4096) v s.toNat
set_option maxHeartbeats 1000000 in
theorem write_ok2 (h : IsMem w X p frames pg ops) (hX : ∀ b, X b → b < w.heap.size) (addr : Nat) (ha : addr < 18446744073709551616) (s : Int) (v : Nat) (he : placeE frames addr s = 0) (ho : ops < 4611686018427387904) :
    Calls Try.prog 49 #[.pointer (some ⟨p, 0, none⟩), .int .u64 (addr : Nat), .int .i64 s, .int .u64 (v : Nat)] w (RetMem w X p frames (.int .i64 0) (updP pg ((addr / 4096 : Nat) : Int) (some (wroteOf pg addr s v))) (ops + 1)) := by
  have hp := mplace_calls h addr ha s
  rw [if_pos he] at hp
  obtain ⟨hc, hf, hs1, hs8, hle⟩ := placeE_zero he
  obtain ⟨sn, rfl⟩ : ∃ sn : Nat, s = sn := ⟨s.toNat, by omega⟩
  have hl := fun k => pageOf_length h k
  have H := Lib.hid h
  have hv : wroteOf pg addr (sn : Int) v = putL (pageOf pg ((addr / 4096 : Nat) : Int)) (addr % 4096) v sn := rfl
  rw [hv]
  clear hv
  generalize addr / 4096 = fr at *
  generalize addr % 4096 = at_ at *
  have hput := fun x c g (hBx : Bytes x (some ⟨g, 0, none⟩) c (pageOf pg (fr : Int))) => put_ok (some ⟨g, 0, none⟩) (pageOf pg (fr : Int)) c (at_ : Int) (sn : Int) (v : Int) at_ sn v rfl rfl rfl x hBx (by rw [hl]; exact hc) (by rw [hl]; omega) (by omega) (by omega) (by rw [hl]; decide)
  simp only [hl] at hput
  have hll := putL_length (pageOf pg (fr : Int)) at_ v sn
  rw [hl] at hll
  have HG := Lib.hid hput
  have HLL := Lib.hid hll
  clear h he hc hf hle hl hput hll
  go_enter Try.func49, Try.ntmps49
  go_wp2_with fail
  (with_reducible refine hp.mono ?_)
  rintro e w1 ⟨rfl, hb1⟩
  obtain ⟨C, hC1, hC2, hm, hOn⟩ := mem_ops (mem_old H.out hb1) (ops + 1)
  have hcell : w1.cell? ⟨p, 2, none⟩ = some (.int .i64 ops) := by rw [cell_of hC1]; exact hC2
  have hfr := frozen_of hC1 2
  have hset : w1.setCell ⟨p, 2, none⟩ (.int .i64 ((ops : Int) + 1)) = putB w1 p (.cells (C.setIfInBounds 2 (.int .i64 ((ops + 1 : Nat) : Int))) 134) := by rw [set_of hC1]; rfl
  generalize putB w1 p (.cells (C.setIfInBounds 2 (.int .i64 ((ops + 1 : Nat) : Int))) 134) = W at *
  have hO1 : Only (fun b => ¬ X b) w W := ((Only.of_below hb1).mono fun b _ f => f.elim).trans hOn
  have hpg := page_calls hm (fr : Int)
  have HM := Lib.hid (And.intro hm hO1)
  clear hC1 hC2 hm hOn hO1 hb1 hp
  go_wp2_with fail
  (with_reducible refine hpg.mono ?_)
  rintro e w2 ⟨g, c, rfl, hrow, hO2⟩
  have hg1 := HG.out w2 c g (row_bytes hrow)
  have HM2 := Lib.hid (And.intro (mem_old HM.out.1 hO2) (HM.out.2.trans ((Only.of_below hO2).mono fun b _ f => f.elim)))
  clear hpg hrow hO2
  go_wp2_with fail
  (with_reducible refine hg1.mono ?_)
  rintro e w3 ⟨g2, c2, rfl, hrow2, hO3⟩
  have hm3 := mem_old HM2.out.1 hO3
  have hOn3 : Only (fun b => ¬ X b) w w3 := HM2.out.2.trans ((Only.of_below hO3).mono fun b _ f => f.elim)
  have hge := (row_parts hrow2).1
  have hsz := HM2.out.2.size
  have hpm : ∀ m, w3.cell? ⟨p, 1, none⟩ = some (.map (some m)) → g2 ≠ m ∧ g2 ≠ p := by
    intro m hcm
    obtain ⟨m', f', n', k1, k2, k3, k4, k5, k6, k7, k8⟩ := HM2.out.1
    have c1 : w3.cell? ⟨p, 1, none⟩ = some (.map (some m')) := by rw [cell_of (keep_old hO3 k1)]; rfl
    rw [c1] at hcm
    have hmm : m' = m := by simpa using hcm
    subst hmm
    have e1 := isMap_lt k3
    have e2 := lt_of_block k1
    omega
  have hgp : g2 ≠ p := by
    obtain ⟨m', f', n', k1, k2, k3, k4, k5, k6, k7, k8⟩ := hm3
    exact (hpm m' (by rw [cell_of k1]; rfl)).2
  obtain ⟨m, c1, W4, hput, hm4, hO4⟩ := mem_page hm3 (fr : Int) _ _ g2 c2 hrow2 HLL.out (fun f => by have := hX _ f; omega) hgp (fun m hm => (hpm m hm).1)
  rw [HLL.out]
  have HF := Lib.hid (And.intro hm4 (hOn3.trans hO4))
  clear hg1 hO3 hm3 hOn3 hge hsz hpm hgp hm4 hO4 hrow2
  go_wp2
  go_ret
  exact ⟨rfl, HF.out.1, HF.out.2⟩
end

theorem strOf_inj {l m : List Nat} (hl : ∀ x ∈ l, x < 256) (hm : ∀ x ∈ m, x < 256) (h : strOf l = strOf m) : l = m := by
  have h1 : l.map UInt8.ofNat = m.map UInt8.ofNat := by
    have := congrArg (fun s : ByteArray => s.data.toList) h
    simpa [strOf] using this
  have key : ∀ (l m : List Nat), (∀ x ∈ l, x < 256) → (∀ x ∈ m, x < 256) → l.map UInt8.ofNat = m.map UInt8.ofNat → l = m := by
    intro l
    induction l with
    | nil => intro m _ _ h; cases m with
      | nil => rfl
      | cons y m => simp at h
    | cons x l ih => intro m hl hm h; cases m with
      | nil => simp at h
      | cons y m =>
        simp only [List.map_cons, List.cons.injEq] at h
        have hx := hl x (by simp)
        have hy := hm y (by simp)
        have hxy : x = y := by
          have := congrArg UInt8.toNat h.1
          rw [UInt8.toNat_ofNat', UInt8.toNat_ofNat'] at this
          omega
        rw [hxy, ih m (fun z hz => hl z (by simp [hz])) (fun z hz => hm z (by simp [hz])) h.2]
  exact key l m hl hm h1
theorem equal_calls (a b : Addr) (l m : List Nat) (c d : Nat) (w : World) (hl : Bytes w (some a) c l) (hm : Bytes w (some b) d m) :
    Calls Try.prog 87 #[.slice (some a) l.length c, .slice (some b) m.length d] w (RetB w (.bool (decide (l = m)))) := by
  have h1 := conv_bytes hl
  have h2 := conv_bytes hm
  have e : ((strOf l).toList == (strOf m).toList) = decide (l = m) := by
    rw [str_beq]
    by_cases h : l = m
    · simp [h]
    · rw [decide_eq_false h, decide_eq_false (fun e => h (strOf_inj (bytes_lt hl) (bytes_lt hm) e))]
  generalize decide (l = m) = B at *
  clear hl hm
  go_enter Try.func87, Try.ntmps87
  go_wp2
  go_ret
  exact ⟨rfl, old_refl _⟩
theorem eq_nil_bytes (a : Addr) (n c : Nat) (w : World) : (binOp .eql 31 (.slice (some a) n c) (.slice none 0 0)).run Try.prog w = .ok (.bool false) w := by kernel_rfl
set_option maxRecDepth 100000 in
theorem clone_fix (a : Addr) (l : List Nat) (c : Nat) (w : World) (hl : Bytes w (some a) c l) (h0 : 0 < l.length) (hbig : l.length ≤ 1000000) :
    ∃ g cap w2, Row w2 w.heap.size g cap l ∧ Old w w2 ∧ Calls Try.prog 86 #[.slice (some a) l.length c] w (fun e y => e = .returned (.slice (some ⟨g, 0, none⟩) l.length cap) ∧ w2 = y) := by
  obtain ⟨v, w2, hrun, hown, hO, -⟩ := copy_run 31 w (some a) c l hl hbig
  obtain ⟨g, cap, rfl, hrow⟩ := row_of hown rfl h0 (bytes_lt hl)
  refine ⟨g, cap, w2, hrow, hO, ?_⟩
  have hn := eq_nil_bytes a l.length c
  clear hl hown hrow hO
  go_enter Try.func86, Try.ntmps86
  go_wp2_with (at_builtin; refine wpList_append_run rfl _ _ 31 rfl _ _ rfl rfl _ _ hrun ?_; clear hrun)
  go_ret
  exact ⟨rfl, rfl⟩
theorem clone_calls (a : Addr) (l : List Nat) (c : Nat) (w : World) (hl : Bytes w (some a) c l) (h0 : 0 < l.length) (hbig : l.length ≤ 1000000) :
    Calls Try.prog 86 #[.slice (some a) l.length c] w (fun e w' => ∃ g cap, e = .returned (.slice (some ⟨g, 0, none⟩) l.length cap) ∧ Row w' w.heap.size g cap l ∧ Old w w') := by
  obtain ⟨g, cap, w2, h1, h2, h3⟩ := clone_fix a l c w hl h0 hbig
  exact h3.mono fun e y ⟨he, hy⟩ => by subst hy; exact ⟨g, cap, he, h1, h2⟩
end Go.Proofs.Ytfiofjalpaeohaa
