/- The document's TLB of layer 15: what it holds; at, Find, Evict, List. -/
import Derived.Test.YtfiofjalpaeohaaTlbFlat
namespace Go.Proofs.Ytfiofjalpaeohaa
set_option linter.unusedVariables false
set_option linter.unusedSimpArgs false
open Go.RowKit

theorem wrap_small (k : Nat) (h : k ≤ 1000) : wrap64 (k : Int) = (k : Int) := IntWalk.wrap64_in (k : Int) (by omega)
/-- Block q holds the document's TLB; L: the block of its places. -/
structure IsRT (x : World) (q L : Nat) (n wy N : Nat) (F : List Pl) : Prop where
  hq : x.heap[q]? = some (.cells #[.int .i64 (n : Nat), .int .i64 (wy : Nat), .slice (some ⟨L, 0, none⟩) N N] 126)
  hL : x.heap[L]? = some (.cells (placesC F).toArray 129)
  hN : N = n * wy
  len : F.length = N
  h1 : 1 ≤ n ∧ n ≤ 64
  h2 : 1 ≤ wy ∧ wy ≤ 8
  h3 : 1 ≤ N ∧ N ≤ 512
  ne : q ≠ L
section
variable {w x y : World} {q L n wy N : Nat} {F : List Pl}
theorem rt_only {G : Nat → Prop} (h : IsRT x q L n wy N F) (ho : Only G x y) (hq : ¬ G q) (hL : ¬ G L) : IsRT y q L n wy N F :=
  { h with hq := keep_only ho hq h.hq, hL := keep_only ho hL h.hL }
theorem rt_old (h : IsRT x q L n wy N F) (ho : Old x y) : IsRT y q L n wy N F := rt_only h (Only.of_below ho) (fun f => f) (fun f => f)
theorem rt_put (h : IsRT x q L n wy N F) (F' : List Pl) (hF : F'.length = N) : IsRT (putB x L (.cells (placesC F').toArray 129)) q L n wy N F' :=
  { h with hq := by rw [putB_other _ (Ne.symm h.ne)]; exact h.hq, hL := putB_same _ (lt_of_block h.hL), len := hF }
theorem rt_cell (h : IsRT x q L n wy N F) {i : Nat} {p : Pl} (hp : F[i]? = some p) (c : Nat) (v : Value) (hv : p.cells[c]? = some v) : x.cell? ⟨L, i * 12 + c, none⟩ = some v := by
  rw [cell_of h.hL]
  have := flatC_get pl_len F i p c v hp hv
  simpa using this

set_option maxHeartbeats 8000000 in
set_option maxRecDepth 100000 in
theorem refAt_calls (h : IsRT w q L n wy N F) (kid kas : Int) (kvp : Nat) :
    Calls Try.prog 78 #[.pointer (some ⟨q, 0, none⟩), .int .i64 kid, .int .i64 kas, .int .u64 (kvp : Nat)] w (RetB w (.int .i64 (atP kid kas kvp F 0))) := by
  obtain ⟨r, hr⟩ : ∃ r, atP kid kas kvp F 0 = r := ⟨_, rfl⟩
  rw [hr]
  have n512 : (N : Int) ≤ 512 := by have := h.h3.2; omega
  have H := Lib.hid h
  have HR := Lib.hid hr
  clear h hr
  go_enter Try.func78, Try.ntmps78
  go_wp2
  go_loopw [9, 10] (fun s9 _ wx => ∃ k : Nat, k ≤ N ∧ s9 = .int .i64 (k : Nat) ∧ Old w wx ∧ atP kid kas kvp (F.drop k) k = r) (fun s9 _ _ => N - (intOf s9).toNat)
  case atStart => exact ⟨0, by omega, rfl, old_refl _, by rw [List.drop_zero]; exact HR.out⟩
  case round =>
    obtain ⟨k, hk, rfl, hO, ht⟩ := hrel
    have hT := rt_old H.out hO
    obtain ⟨c0, z0, zz⟩ := of_block hT.hq
    by_cases hkn : k = N
    · subst hkn
      have hrt : r = -1 := by
        rw [← ht, List.drop_eq_nil_of_le (by rw [H.out.len]; exact Nat.le_refl _)]; rfl
      have HO := Lib.hid hO
      subst hrt
      clear hk ht hO hT
      go_wp2
      go_ret
      exact ⟨rfl, HO.out⟩
    · have hlt : k < N := by omega
      obtain ⟨p, hp⟩ : ∃ p, F[k]? = some p := ⟨_, List.getElem?_eq_getElem (by rw [H.out.len]; exact hlt)⟩
      rw [drop_get _ _ _ hp] at ht
      unfold atP at ht
      have i1 : (k : Int) < N := by omega
      have hcl := rt_cell hT hp
      have HO := Lib.hid hO
      have HLT := Lib.hid hlt
      have hnb := fun C => new_block wr (.cells C 129)
      obtain ⟨on, lid, asid, vp, ip, fr, p0, p1, p2, s0, s1, s2⟩ := p
      change ∀ (c : Nat) (v : Value), [Value.bool on, .int .i64 lid, .int .i64 asid, .int .u64 (vp : Nat), .int .u64 (ip : Nat), .int .i64 fr, .bool p0, .bool p1, .bool p2, .bool s0, .bool s1, .bool s2][c]? = some v → _ at hcl
      have HCL := Lib.hid hcl
      have HT := Lib.hid ht
      clear hk hO ht hkn hlt hcl hp hT hnb
      go_upto_region 5 with (refine wpList_load_at rfl 129 _ rfl L (k * 12) rfl _ _ HCL.out Try.underlying129 rfl (by kernel_rfl) ?_)
      have hxb := new_block wr (.cells #[Value.bool on, .int .i64 lid, .int .i64 asid, .int .u64 (vp : Nat), .int .u64 (ip : Nat), .int .i64 fr, .bool p0, .bool p1, .bool p2, .bool s0, .bool s1, .bool s2] 129)
      have hO2 := old_alloc (old_refl wr) (.cells #[Value.bool on, .int .i64 lid, .int .i64 asid, .int .u64 (vp : Nat), .int .u64 (ip : Nat), .int .i64 fr, .bool p0, .bool p1, .bool p2, .bool s0, .bool s1, .bool s2] 129)
      generalize wr.alloc (.cells #[Value.bool on, .int .i64 lid, .int .i64 asid, .int .u64 (vp : Nat), .int .u64 (ip : Nat), .int .i64 fr, .bool p0, .bool p1, .bool p2, .bool s0, .bool s1, .bool s2] 129) = X2 at *
      generalize wr.heap.size = bx at *
      obtain ⟨k1, q1, z1⟩ := of_block hxb
      have HO2 := Lib.hid (old_then HO.out hO2)
      have ht := HT.out
      clear hO2 hxb HCL HT c0 z0 zz
      have hB : keyB ⟨lid, asid, vp, ip, fr, p0, p1, p2, s0, s1, s2⟩ kid kas kvp = (lid == kid && (asid == kas && ((vp : Int) == (kvp : Int) && true))) := rfl
      rw [hB] at ht
      clear hB
      cases on with
      | false =>
        have HT := Lib.hid ht
        clear ht
        go_wp2
        go_roundw
        case rel => exact ⟨k + 1, HLT.out, by simp, HO2.out, by simpa using HT.out⟩
        case measure => have := HLT.out; (simp [intOf]) <;> omega
      | true =>
        cases e1 : lid == kid with
        | false =>
          rw [e1] at ht
          have HT := Lib.hid ht
          clear ht
          go_wp2
          go_roundw
          case rel => exact ⟨k + 1, HLT.out, by simp, HO2.out, by simpa using HT.out⟩
          case measure => have := HLT.out; (simp [intOf]) <;> omega
        | true =>
          cases e2 : asid == kas with
          | false =>
            rw [e1, e2] at ht
            have HT := Lib.hid ht
            clear ht
            go_wp2
            go_roundw
            case rel => exact ⟨k + 1, HLT.out, by simp, HO2.out, by simpa using HT.out⟩
            case measure => have := HLT.out; (simp [intOf]) <;> omega
          | true =>
            cases e3 : ((vp : Int) == (kvp : Int)) with
            | false =>
              rw [e1, e2, e3] at ht
              have HT := Lib.hid ht
              clear ht
              go_wp2
              go_roundw
              case rel => exact ⟨k + 1, HLT.out, by simp, HO2.out, by simpa using HT.out⟩
              case measure => have := HLT.out; (simp [intOf]) <;> omega
            | true =>
              rw [e1, e2, e3] at ht
              have hrk : r = (k : Int) := by rw [← ht]; rfl
              subst hrk
              clear ht
              go_wp2
              go_ret
              exact ⟨rfl, HO2.out⟩

set_option maxHeartbeats 2000000 in
set_option maxRecDepth 100000 in
theorem refFind_none (h : IsRT w q L n wy N F) {kid kas : Int} {kvp : Nat} (hr : atP kid kas kvp F 0 = -1) :
    Calls Try.prog 45 #[.pointer (some ⟨q, 0, none⟩), .int .i64 kid, .int .i64 kas, .int .u64 (kvp : Nat)] w (RetB w (.tuple #[.agg #[.int .i64 0, .int .i64 0, .int .u64 0, .int .u64 0, .int .i64 0, .bool false, .bool false, .bool false, .bool false, .bool false, .bool false], .bool false])) := by
  have hat := fun x (hx : Old w x) => refAt_calls (rt_old h hx) kid kas kvp
  rw [hr] at hat
  have HA := Lib.hid hat
  clear h hr hat
  go_enter Try.func45, Try.ntmps45
  go_upto_region 1 with (fail)
  have hH := holds_new #[.int .i64 0, .int .i64 0, .int .u64 0, .int .u64 0, .int .i64 0, .bool false, .bool false, .bool false, .bool false, .bool false, .bool false] 64 (holds_nil w)
  generalize w.alloc (.cells #[.int .i64 0, .int .i64 0, .int .u64 0, .int .u64 0, .int .i64 0, .bool false, .bool false, .bool false, .bool false, .bool false, .bool false] 64) = W at *
  obtain ⟨rb, hrbe⟩ : ∃ rb, rb = w.heap.size := ⟨_, rfl⟩
  have HRB : Hid (w.heap.size ≤ rb) := Lib.hid (by omega)
  rw [← hrbe] at hH ⊢
  clear hrbe
  have hc := HA.out _ hH.1
  go_wp2_with fail
  (with_reducible refine hc.mono ?_)
  rintro e w2 ⟨rfl, hO2⟩
  have hH2 := holds_old hH hO2
  obtain ⟨s0, s1, _⟩ := id hH2
  obtain ⟨k1, f1, z1⟩ := of_block s1
  have HO := Lib.hid hH2.1
  have HB2 := Lib.hid s1
  clear hc hH hH2 hO2 s0 s1 k1 f1
  go_wp2_with (refine wpList_store_at rfl 64 _ _ rfl rb 0 [.int .i64 0, .int .i64 0, .int .u64 0, .int .u64 0, .int .i64 0, .bool false, .bool false, .bool false, .bool false, .bool false, .bool false] rfl rfl 64 _ HB2.out (by kernel_rfl) (by decide) (by decide) ?_)
  have k9 := fun i => putB_cell_same (w := w2) #[.int .i64 0, .int .i64 0, .int .u64 0, .int .u64 0, .int .i64 0, .bool false, .bool false, .bool false, .bool false, .bool false, .bool false] 64 (0, 0) i z1
  refine bodyPost_ret (by simp [results, Try.results45, go_sem, k9]; try rfl) rfl ?_
  exact ⟨rfl, old_put HO.out _ HRB.out⟩

set_option maxHeartbeats 2000000 in
set_option maxRecDepth 100000 in
theorem refFind_some (h : IsRT w q L n wy N F) {kid kas : Int} {kvp : Nat} (j : Nat) (p : Pl) (hr : atP kid kas kvp F 0 = (j : Int)) (hp : F[j]? = some p) :
    Calls Try.prog 45 #[.pointer (some ⟨q, 0, none⟩), .int .i64 kid, .int .i64 kas, .int .u64 (kvp : Nat)] w (RetB w (.tuple #[.agg p.l.cells.toArray, .bool true])) := by
  have hat := fun x (hx : Old w x) => refAt_calls (rt_old h hx) kid kas kvp
  rw [hr] at hat
  have hcell := fun x (hx : Old w x) => rt_cell (rt_old h hx) hp
  have hjN : j < N := by rw [← h.len]; exact (List.getElem?_eq_some_iff.1 hp).1
  have j1 : (j : Int) < N := by omega
  have j2 : (N : Int) ≤ 512 := by have := h.h3.2; omega
  have HA := Lib.hid hat
  have HC := Lib.hid hcell
  have H := Lib.hid h
  obtain ⟨on, lid, asid, vp, ip, fr, p0, p1, p2, s0, s1, s2⟩ := p
  change Calls _ _ _ w (RetB w (.tuple #[.agg #[.int .i64 lid, .int .i64 asid, .int .u64 (vp : Nat), .int .u64 (ip : Nat), .int .i64 fr, .bool p0, .bool p1, .bool p2, .bool s0, .bool s1, .bool s2], .bool true]))
  clear h hr hat hcell hp hjN
  go_enter Try.func45, Try.ntmps45
  go_upto_region 1 with (fail)
  have hH := holds_new #[.int .i64 0, .int .i64 0, .int .u64 0, .int .u64 0, .int .i64 0, .bool false, .bool false, .bool false, .bool false, .bool false, .bool false] 64 (holds_nil w)
  generalize w.alloc (.cells #[.int .i64 0, .int .i64 0, .int .u64 0, .int .u64 0, .int .i64 0, .bool false, .bool false, .bool false, .bool false, .bool false, .bool false] 64) = W at *
  obtain ⟨rb, hrbe⟩ : ∃ rb, rb = w.heap.size := ⟨_, rfl⟩
  have HRB : Hid (w.heap.size ≤ rb) := Lib.hid (by omega)
  rw [← hrbe] at hH ⊢
  clear hrbe
  have hc := HA.out _ hH.1
  go_wp2_with fail
  (with_reducible refine hc.mono ?_)
  rintro e w2 ⟨rfl, hO2⟩
  have hH2 := holds_old hH hO2
  obtain ⟨g0, g1, _⟩ := id hH2
  obtain ⟨k1, f1, z1⟩ := of_block g1
  have hcl : ∀ (c : Nat) (v : Value), [Value.int .i64 lid, .int .i64 asid, .int .u64 (vp : Nat), .int .u64 (ip : Nat), .int .i64 fr, .bool p0, .bool p1, .bool p2, .bool s0, .bool s1, .bool s2][c]? = some v → w2.cell? ⟨L, j * 12 + 1 + c, none⟩ = some v := fun c v hv => by
    have := HC.out w2 hH2.1 (c + 1) v (by simpa [Pl.cells, Ln.cells] using hv)
    rwa [show j * 12 + (c + 1) = j * 12 + 1 + c by omega] at this
  obtain ⟨k2, f2, z2⟩ := of_block (rt_old H.out hH2.1).hq
  have HCL := Lib.hid hcl
  have HO := Lib.hid hH2.1
  have HB2 := Lib.hid g1
  clear hc hH hH2 hO2 g0 g1 k1 f1 hcl f2
  go_wp2_with (first | (refine wpList_load_at rfl 64 _ rfl L (j * 12 + 1) rfl _ _ HCL.out Try.underlying64 rfl (by kernel_rfl) ?_) | (refine wpList_store_at rfl 64 _ _ rfl rb 0 [.int .i64 lid, .int .i64 asid, .int .u64 (vp : Nat), .int .u64 (ip : Nat), .int .i64 fr, .bool p0, .bool p1, .bool p2, .bool s0, .bool s1, .bool s2] rfl rfl 64 _ HB2.out (by kernel_rfl) (Nat.le_of_eq rfl) (by intro v hv; simp only [List.mem_cons, List.not_mem_nil, or_false] at hv; rcases hv with rfl | rfl | rfl | rfl | rfl | rfl | rfl | rfl | rfl | rfl | rfl <;> rfl) ?_))
  have k9 := fun i => putB_cell_same (w := w2) #[.int .i64 lid, .int .i64 asid, .int .u64 (vp : Nat), .int .u64 (ip : Nat), .int .i64 fr, .bool p0, .bool p1, .bool p2, .bool s0, .bool s1, .bool s2] 64 (0, 0) i z1
  refine bodyPost_ret (by simp [results, Try.results45, go_sem, k9]; try rfl) rfl ?_
  exact ⟨rfl, old_put HO.out _ HRB.out⟩

set_option maxHeartbeats 8000000 in
set_option maxRecDepth 100000 in
theorem refEvict_calls (h : IsRT w q L n wy N F) (i j : Nat) (hi : i < n) (hj : j < wy) (p : Pl) (hp : F[i * wy + j]? = some p) :
    Calls Try.prog 43 #[.pointer (some ⟨q, 0, none⟩), .int .i64 (i : Nat), .int .i64 (j : Nat)] w (fun e y => e = .returned (.bool p.on) ∧
      IsRT y q L n wy N (F.set (i * wy + j) pl0) ∧ Only (fun z => z = L) w y) := by
  obtain ⟨k, hk⟩ : ∃ k, k = i * wy + j := ⟨_, rfl⟩
  rw [← hk] at hp ⊢
  have hkl : k < F.length := (List.getElem?_eq_some_iff.1 hp).1
  have hkN : k < N := by rw [← h.len]; exact hkl
  have c2 : w.cell? ⟨L, k * 12, none⟩ = some (.bool p.on) := rt_cell h hp 0 _ rfl
  have HF := Lib.hid (rt_put h (F.set k pl0) (by rw [List.length_set]; exact h.len))
  have hfl : List.take (k * 12) (placesC F) ++ pl0.cells ++ List.drop (k * 12 + pl0.cells.length) (placesC F) = placesC (F.set k pl0) := flatC_set pl_len F k pl0 hkl
  have hJl : k * 12 + 12 ≤ (placesC F).length := by rw [flatC_length pl_len]; omega
  have HJL := Lib.hid hJl
  have HFL := Lib.hid hfl
  have HB0 := Lib.hid h.hL
  have i1 : (i : Int) < n := by omega
  have j1 : (j : Int) < wy := by omega
  have k1 : (k : Int) < N := by omega
  have n64 : (n : Int) ≤ 64 := by have := h.h1.2; omega
  have w8 : (wy : Int) ≤ 8 := by have := h.h2.2; omega
  have n512 : (N : Int) ≤ 512 := by have := h.h3.2; omega
  obtain ⟨m, hm⟩ : ∃ m, m = i * wy := ⟨_, rfl⟩
  have hm2 : m ≤ 512 := by
    have : i * wy ≤ 64 * 8 := Nat.mul_le_mul (by omega) (by omega)
    omega
  have e1 : wrap64 ((i : Int) * (wy : Int)) = (m : Int) := by
    rw [hm, ← Int.natCast_mul, ← hm]; exact wrap_small m (by omega)
  have hmk : (m : Int) + (j : Int) = (k : Int) := by rw [hk, hm]; simp
  have hk512 : k < 512 := by have := h.h3.2; omega
  clear hm2
  have e2 : wrap64 ((m : Int) + (j : Int)) = (k : Int) := by
    rw [hmk]; exact wrap_small k (by omega)
  obtain ⟨c0, -, -⟩ := of_block h.hq
  obtain ⟨on, l⟩ := p
  clear h hi hj hp hkl hkN hJl hfl hk hm hmk hk512
  go_enter Try.func43, Try.ntmps43
  go_wp2_with (refine wpList_store_at rfl 129 _ _ rfl L (k * 12) pl0.cells rfl rfl 129 _ HB0.out (by kernel_rfl) HJL.out (pl_one _) ?_)
  go_ret
  refine ⟨rfl, ?_, ((Only.refl _ w)).putB _ (fun _ => rfl)⟩
  rw [← List.append_assoc]
  rw [HFL.out]
  exact HF.out
end
end Go.Proofs.Ytfiofjalpaeohaa
