/- The document's TLB of layer 15: List, is, Lose. -/
import Derived.Test.YtfiofjalpaeohaaRefTlb
namespace Go.Proofs.Ytfiofjalpaeohaa
set_option linter.unusedVariables false
set_option linter.unusedSimpArgs false
open Go.RowKit

theorem linesP_drop {F : List Pl} {k : Nat} {p : Pl} (h : F[k]? = some p) : linesP (F.drop k) = (if p.on then [p.l] else []) ++ linesP (F.drop (k + 1)) := by
  rw [drop_get _ _ _ h]
  show (if p.on then _ else _) = _
  split <;> rfl
section
variable {w : World} {q L n wy N : Nat} {F : List Pl}
set_option maxHeartbeats 8000000 in
set_option maxRecDepth 100000 in
theorem refList_calls (h : IsRT w q L n wy N F) :
    Calls Try.prog 46 #[.pointer (some ⟨q, 0, none⟩)] w (fun e y => ∃ v, e = .returned v ∧ OwnLns y w.heap.size v (linesP F) ∧ Old w y) := by
  have n512 : (N : Int) ≤ 512 := by have := h.h3.2; omega
  have H := Lib.hid h
  clear h
  go_enter Try.func46, Try.ntmps46
  go_wp2
  go_loopw [3, 4] (fun s3 s4 wx => ∃ (k : Nat) (L1 : List Ln), k ≤ N ∧ s4 = .int .i64 (k : Nat) ∧ OwnLns wx w.heap.size s3 L1 ∧ Old w wx ∧ L1 ++ linesP (F.drop k) = linesP F) (fun _ s4 _ => N - (intOf s4).toNat)
  case atStart => exact ⟨0, [], by omega, rfl, own_nil, old_refl _, by simp⟩
  case round =>
    obtain ⟨k, L1, hk, rfl, hL, hO, ht⟩ := hrel
    have hT := rt_old H.out hO
    obtain ⟨c0, z0, zz⟩ := of_block hT.hq
    have HL := Lib.hid hL
    have HO := Lib.hid hO
    by_cases hkn : k = N
    · subst hkn
      have hrt : L1 = linesP F := by
        rw [← ht, List.drop_eq_nil_of_le (by rw [H.out.len]; exact Nat.le_refl _)]; simp [linesP]
      have HX := Lib.hid hrt
      clear hk ht hO hT hL hrt
      go_wp2
      go_ret
      exact ⟨_, rfl, by rw [← HX.out]; exact HL.out, HO.out⟩
    · have hlt : k < N := by omega
      obtain ⟨p, hp⟩ : ∃ p, F[k]? = some p := ⟨_, List.getElem?_eq_getElem (by rw [H.out.len]; exact hlt)⟩
      rw [linesP_drop hp] at ht
      have hL1k : L1.length ≤ 512 := by
        have a := congrArg List.length ht
        have b := linesP_len F
        have c := H.out.len
        have d := H.out.h3.2
        simp only [List.length_append] at a
        omega
      have i1 : (k : Int) < N := by omega
      have hcl := rt_cell hT hp
      have HLT := Lib.hid (And.intro hlt hL1k)
      obtain ⟨on, lid, asid, vp, ip, fr, p0, p1, p2, s0, s1, s2⟩ := p
      have con : wr.cell? ⟨L, k * 12, none⟩ = some (.bool on) := hcl 0 _ rfl
      have hnl : ∀ (c : Nat) (v : Value), [Value.int .i64 lid, .int .i64 asid, .int .u64 (vp : Nat), .int .u64 (ip : Nat), .int .i64 fr, .bool p0, .bool p1, .bool p2, .bool s0, .bool s1, .bool s2][c]? = some v → wr.cell? ⟨L, k * 12 + 1 + c, none⟩ = some v := fun c v hv => by
        rw [show k * 12 + 1 + c = k * 12 + (c + 1) by omega]
        exact hcl (c + 1) v (by simpa [Pl.cells, Ln.cells] using hv)
      have HNL := Lib.hid hnl
      have HT := Lib.hid ht
      clear hk hO ht hkn hlt hcl hp hT hL hnl hL1k
      cases on with
      | false =>
        go_wp2
        go_roundw
        case rel => exact ⟨k + 1, L1, HLT.out.1, by simp, HL.out, HO.out, by simpa using HT.out⟩
        case measure => have := HLT.out.1; (simp [intOf]) <;> omega
      | true =>
        obtain ⟨v', w5, hrun, hown5, hgr⟩ := line_append w.heap.size wr _ L1 ⟨lid, asid, vp, ip, fr, p0, p1, p2, s0, s1, s2⟩ (by have := HLT.out.2; omega) HO.out.size HL.out
        have HA := Lib.hid (And.intro hown5 hgr)
        clear hown5 hgr
        go_wp2_with (first | (refine wpList_load_at rfl 64 _ rfl L (k * 12 + 1) rfl [Value.int .i64 lid, .int .i64 asid, .int .u64 (vp : Nat), .int .u64 (ip : Nat), .int .i64 fr, .bool p0, .bool p1, .bool p2, .bool s0, .bool s1, .bool s2] _ HNL.out Try.underlying64 rfl (by kernel_rfl) ?_) | (at_builtin; refine wpList_append_run rfl _ _ 59 rfl _ _ rfl rfl _ _ hrun ?_; clear hrun))
        go_roundw
        case rel =>
          have hO6 : Old w w5 := Only.below ((Only.of_below HO.out).mono (G := fun b => w.heap.size ≤ b) (fun _ _ f => f.elim) |>.trans HA.out.2) (Nat.le_refl _)
          refine ⟨k + 1, L1 ++ [⟨lid, asid, vp, ip, fr, p0, p1, p2, s0, s1, s2⟩], HLT.out.1, by simp, HA.out.1, hO6, ?_⟩
          rw [← HT.out]
          simp
        case measure => have := HLT.out.1; (simp [intOf]) <;> omega
end

/-- What is named. -/
structure Sch where
  b0 : Bool
  b1 : Bool
  b2 : Bool
  b3 : Bool
  b4 : Bool
  l : Ln
def Sch.cells (s : Sch) : List Value := .bool s.b0 :: .bool s.b1 :: .bool s.b2 :: .bool s.b3 :: .bool s.b4 :: s.l.cells
def schB (s : Sch) (l : Ln) : Bool := (!s.b0 || l.id == s.l.id) && (!s.b1 || l.asid == s.l.asid) && (!s.b2 || (l.vp : Int) == (s.l.vp : Int)) && (!s.b3 || (l.ip : Int) == (s.l.ip : Int)) && (!s.b4 || l.fr == s.l.fr)
set_option maxHeartbeats 8000000 in
set_option maxRecDepth 100000 in
theorem refIs_calls (s : Sch) (l : Ln) (w : World) : Calls Try.prog 92 #[.agg s.cells.toArray, .agg l.cells.toArray] w (RetB w (.bool (schB s l))) := by
  obtain ⟨lid, asid, vp, ip, fr, p0, p1, p2, s0, s1, s2⟩ := l
  obtain ⟨b0, b1, b2, b3, b4, xid, xas, xvp, xip, xfr, x0, x1, x2, y0, y1, y2⟩ := s
  obtain ⟨R, hR⟩ : ∃ R, schB ⟨b0, b1, b2, b3, b4, xid, xas, xvp, xip, xfr, x0, x1, x2, y0, y1, y2⟩ ⟨lid, asid, vp, ip, fr, p0, p1, p2, s0, s1, s2⟩ = R := ⟨_, rfl⟩
  rw [hR]
  have HR := Lib.hid hR
  clear hR
  change Calls _ _ #[.agg #[.bool b0, .bool b1, .bool b2, .bool b3, .bool b4, .int .i64 xid, .int .i64 xas, .int .u64 (xvp : Nat), .int .u64 (xip : Nat), .int .i64 xfr, .bool x0, .bool x1, .bool x2, .bool y0, .bool y1, .bool y2], .agg #[.int .i64 lid, .int .i64 asid, .int .u64 (vp : Nat), .int .u64 (ip : Nat), .int .i64 fr, .bool p0, .bool p1, .bool p2, .bool s0, .bool s1, .bool s2]] w _
  go_enter Try.func92, Try.ntmps92
  go_upto_region 1 with (fail)
  have hH := holds_new #[.int .i64 lid, .int .i64 asid, .int .u64 (vp : Nat), .int .u64 (ip : Nat), .int .i64 fr, .bool p0, .bool p1, .bool p2, .bool s0, .bool s1, .bool s2] 64 (holds_new #[.bool b0, .bool b1, .bool b2, .bool b3, .bool b4, .int .i64 xid, .int .i64 xas, .int .u64 (xvp : Nat), .int .u64 (xip : Nat), .int .i64 xfr, .bool x0, .bool x1, .bool x2, .bool y0, .bool y1, .bool y2] 132 (holds_nil w))
  rw [World.size_alloc] at hH
  generalize (w.alloc (.cells #[.bool b0, .bool b1, .bool b2, .bool b3, .bool b4, .int .i64 xid, .int .i64 xas, .int .u64 (xvp : Nat), .int .u64 (xip : Nat), .int .i64 xfr, .bool x0, .bool x1, .bool x2, .bool y0, .bool y1, .bool y2] 132)).alloc (.cells #[.int .i64 lid, .int .i64 asid, .int .u64 (vp : Nat), .int .u64 (ip : Nat), .int .i64 fr, .bool p0, .bool p1, .bool p2, .bool s0, .bool s1, .bool s2] 64) = W at *
  obtain ⟨lb, hlb⟩ : ∃ lb, lb = w.heap.size + 1 := ⟨_, rfl⟩
  obtain ⟨xb, hxb⟩ : ∃ xb, xb = w.heap.size := ⟨_, rfl⟩
  rw [← hlb, ← hxb] at hH ⊢
  clear hlb hxb
  obtain ⟨g0, g1, g2, _⟩ := id hH
  obtain ⟨k1, f1, z1⟩ := of_block g1
  obtain ⟨k2, f2, z2⟩ := of_block g2
  have HO := Lib.hid g0
  clear g0 g1 g2 hH f1 f2
  refine wp_region_walked0 (S := fun x => x = W) (by kernel_rfl) rfl ?_
  apply walked_cons
  · intro wS hS; cases hS; go_wp2; exact ⟨rfl, rfl, rfl⟩
  · rfl
  (try simp only [Act.put, List.setIfInBounds_toArray, List.set_cons_succ, List.set_cons_zero])
  apply walked_cons
  · intro wS hS; cases hS; go_wp2; exact ⟨rfl, rfl, rfl⟩
  · rfl
  (try simp only [Act.put, List.setIfInBounds_toArray, List.set_cons_succ, List.set_cons_zero])
  apply walked_cons
  · intro wS hS; cases hS; go_wp2; exact ⟨rfl, rfl, rfl⟩
  · rfl
  (try simp only [Act.put, List.setIfInBounds_toArray, List.set_cons_succ, List.set_cons_zero])
  apply walked_cons
  · intro wS hS; cases hS; go_wp2; exact ⟨rfl, rfl, rfl⟩
  · rfl
  (try simp only [Act.put, List.setIfInBounds_toArray, List.set_cons_succ, List.set_cons_zero])
  apply walked_cons
  · apply gives_guard
    · (first | exact wanted_yes rfl rfl rfl | exact wanted_no rfl rfl rfl | exact wanted_yes2 rfl rfl rfl | exact wanted_no2 rfl rfl rfl)
    · intro hx9
      (try simp only [Bool.not_eq_true', Bool.and_eq_true, Bool.not_not] at hx9); (try obtain ⟨hx9, hy9⟩ := hx9); (try subst hy9); (try subst hx9)
      intro wS hS; cases hS; go_wp2; exact ⟨rfl, rfl, rfl⟩
  · rfl
  (try simp only [Act.put, List.setIfInBounds_toArray, List.set_cons_succ, List.set_cons_zero])
  apply walked_cons
  · apply gives_guard
    · (first | exact wanted_yes rfl rfl rfl | exact wanted_no rfl rfl rfl | exact wanted_yes2 rfl rfl rfl | exact wanted_no2 rfl rfl rfl)
    · intro hx9
      (try simp only [Bool.not_eq_true', Bool.and_eq_true, Bool.not_not] at hx9); (try obtain ⟨hx9, hy9⟩ := hx9); (try subst hy9); (try subst hx9)
      intro wS hS; cases hS; go_wp2; exact ⟨rfl, rfl, rfl⟩
  · rfl
  (try simp only [Act.put, List.setIfInBounds_toArray, List.set_cons_succ, List.set_cons_zero])
  apply walked_cons
  · apply gives_guard
    · (first | exact wanted_yes rfl rfl rfl | exact wanted_no rfl rfl rfl | exact wanted_yes2 rfl rfl rfl | exact wanted_no2 rfl rfl rfl)
    · intro hx9
      (try simp only [Bool.not_eq_true', Bool.and_eq_true, Bool.not_not] at hx9); (try obtain ⟨hx9, hy9⟩ := hx9); (try subst hy9); (try subst hx9)
      intro wS hS; cases hS; go_wp2; exact ⟨rfl, rfl, rfl⟩
  · rfl
  (try simp only [Act.put, List.setIfInBounds_toArray, List.set_cons_succ, List.set_cons_zero])
  apply walked_cons
  · apply gives_guard
    · (first | exact wanted_yes rfl rfl rfl | exact wanted_no rfl rfl rfl | exact wanted_yes2 rfl rfl rfl | exact wanted_no2 rfl rfl rfl)
    · intro hx9
      (try simp only [Bool.not_eq_true', Bool.and_eq_true, Bool.not_not] at hx9); (try obtain ⟨hx9, hy9⟩ := hx9); (try subst hy9); (try subst hx9)
      intro wS hS; cases hS; go_wp2; exact ⟨rfl, rfl, rfl⟩
  · rfl
  (try simp only [Act.put, List.setIfInBounds_toArray, List.set_cons_succ, List.set_cons_zero])
  apply walked_cons
  · apply gives_guard
    · (first | exact wanted_yes rfl rfl rfl | exact wanted_no rfl rfl rfl | exact wanted_yes2 rfl rfl rfl | exact wanted_no2 rfl rfl rfl)
    · intro hx9
      (try simp only [Bool.not_eq_true', Bool.and_eq_true, Bool.not_not] at hx9); (try obtain ⟨hx9, hy9⟩ := hx9); (try subst hy9); (try subst hx9)
      intro wS hS; cases hS; go_wp2; exact ⟨rfl, rfl, rfl⟩
  · rfl
  (try simp only [Act.put, List.setIfInBounds_toArray, List.set_cons_succ, List.set_cons_zero])
  apply walked_cons
  · apply gives_guard
    · (first | exact wanted_yes rfl rfl rfl | exact wanted_no rfl rfl rfl | exact wanted_yes2 rfl rfl rfl | exact wanted_no2 rfl rfl rfl)
    · intro hx9
      (try simp only [Bool.not_eq_true', Bool.and_eq_true, Bool.not_not] at hx9); (try obtain ⟨hx9, hy9⟩ := hx9); (try subst hy9); (try subst hx9)
      intro wS hS; cases hS; go_wp2; exact ⟨rfl, rfl, rfl⟩
  · rfl
  (try simp only [Act.put, List.setIfInBounds_toArray, List.set_cons_succ, List.set_cons_zero])
  apply walked_cons
  · exact gives_or rfl rfl rfl rfl
  · rfl
  (try simp only [Act.put, List.setIfInBounds_toArray, List.set_cons_succ, List.set_cons_zero])
  generalize hc0 : (!b0 || lid == xid) = c0
  apply walked_cons
  · intro wS hS; cases hS; go_wp2; exact ⟨rfl, rfl, rfl⟩
  · rfl
  (try simp only [Act.put, List.setIfInBounds_toArray, List.set_cons_succ, List.set_cons_zero])
  apply walked_cons
  · apply gives_guard
    · (first | exact wanted_yes rfl rfl rfl | exact wanted_no rfl rfl rfl | exact wanted_yes2 rfl rfl rfl | exact wanted_no2 rfl rfl rfl)
    · intro hx9
      (try simp only [Bool.not_eq_true', Bool.and_eq_true, Bool.not_not] at hx9); (try obtain ⟨hx9, hy9⟩ := hx9); (try subst hy9); (try subst hx9)
      intro wS hS; cases hS; go_wp2; exact ⟨rfl, rfl, rfl⟩
  · rfl
  (try simp only [Act.put, List.setIfInBounds_toArray, List.set_cons_succ, List.set_cons_zero])
  apply walked_cons
  · apply gives_guard
    · (first | exact wanted_yes rfl rfl rfl | exact wanted_no rfl rfl rfl | exact wanted_yes2 rfl rfl rfl | exact wanted_no2 rfl rfl rfl)
    · intro hx9
      (try simp only [Bool.not_eq_true', Bool.and_eq_true, Bool.not_not] at hx9); (try obtain ⟨hx9, hy9⟩ := hx9); (try subst hy9); (try subst hx9)
      intro wS hS; cases hS; go_wp2; exact ⟨rfl, rfl, rfl⟩
  · rfl
  (try simp only [Act.put, List.setIfInBounds_toArray, List.set_cons_succ, List.set_cons_zero])
  apply walked_cons
  · apply gives_guard
    · (first | exact wanted_yes rfl rfl rfl | exact wanted_no rfl rfl rfl | exact wanted_yes2 rfl rfl rfl | exact wanted_no2 rfl rfl rfl)
    · intro hx9
      (try simp only [Bool.not_eq_true', Bool.and_eq_true, Bool.not_not] at hx9); (try obtain ⟨hx9, hy9⟩ := hx9); (try subst hy9); (try subst hx9)
      intro wS hS; cases hS; go_wp2; exact ⟨rfl, rfl, rfl⟩
  · rfl
  (try simp only [Act.put, List.setIfInBounds_toArray, List.set_cons_succ, List.set_cons_zero])
  apply walked_cons
  · apply gives_guard
    · (first | exact wanted_yes rfl rfl rfl | exact wanted_no rfl rfl rfl | exact wanted_yes2 rfl rfl rfl | exact wanted_no2 rfl rfl rfl)
    · intro hx9
      (try simp only [Bool.not_eq_true', Bool.and_eq_true, Bool.not_not] at hx9); (try obtain ⟨hx9, hy9⟩ := hx9); (try subst hy9); (try subst hx9)
      intro wS hS; cases hS; go_wp2; exact ⟨rfl, rfl, rfl⟩
  · rfl
  (try simp only [Act.put, List.setIfInBounds_toArray, List.set_cons_succ, List.set_cons_zero])
  apply walked_cons
  · apply gives_guard
    · (first | exact wanted_yes rfl rfl rfl | exact wanted_no rfl rfl rfl | exact wanted_yes2 rfl rfl rfl | exact wanted_no2 rfl rfl rfl)
    · intro hx9
      (try simp only [Bool.not_eq_true', Bool.and_eq_true, Bool.not_not] at hx9); (try obtain ⟨hx9, hy9⟩ := hx9); (try subst hy9); (try subst hx9)
      intro wS hS; cases hS; go_wp2; exact ⟨rfl, rfl, rfl⟩
  · rfl
  (try simp only [Act.put, List.setIfInBounds_toArray, List.set_cons_succ, List.set_cons_zero])
  apply walked_cons
  · apply gives_guard
    · (first | exact wanted_yes rfl rfl rfl | exact wanted_no rfl rfl rfl | exact wanted_yes2 rfl rfl rfl | exact wanted_no2 rfl rfl rfl)
    · intro hx9
      (try simp only [Bool.not_eq_true', Bool.and_eq_true, Bool.not_not] at hx9); (try obtain ⟨hx9, hy9⟩ := hx9); (try subst hy9); (try subst hx9)
      intro wS hS; cases hS; go_wp2; exact ⟨rfl, rfl, rfl⟩
  · rfl
  (try simp only [Act.put, List.setIfInBounds_toArray, List.set_cons_succ, List.set_cons_zero])
  apply walked_cons
  · apply gives_guard
    · (first | exact wanted_yes rfl rfl rfl | exact wanted_no rfl rfl rfl | exact wanted_yes2 rfl rfl rfl | exact wanted_no2 rfl rfl rfl)
    · intro hx9
      (try simp only [Bool.not_eq_true', Bool.and_eq_true, Bool.not_not] at hx9); (try obtain ⟨hx9, hy9⟩ := hx9); (try subst hy9); (try subst hx9)
      intro wS hS; cases hS; go_wp2; exact ⟨rfl, rfl, rfl⟩
  · rfl
  (try simp only [Act.put, List.setIfInBounds_toArray, List.set_cons_succ, List.set_cons_zero])
  apply walked_cons
  · apply gives_guard
    · (first | exact wanted_yes rfl rfl rfl | exact wanted_no rfl rfl rfl | exact wanted_yes2 rfl rfl rfl | exact wanted_no2 rfl rfl rfl)
    · intro hx9
      (try simp only [Bool.not_eq_true', Bool.and_eq_true, Bool.not_not] at hx9); (try obtain ⟨hx9, hy9⟩ := hx9); (try subst hy9); (try subst hx9)
      intro wS hS; cases hS; go_wp2; exact ⟨rfl, rfl, rfl⟩
  · rfl
  (try simp only [Act.put, List.setIfInBounds_toArray, List.set_cons_succ, List.set_cons_zero])
  apply walked_cons
  · apply gives_guard
    · (first | exact wanted_yes rfl rfl rfl | exact wanted_no rfl rfl rfl | exact wanted_yes2 rfl rfl rfl | exact wanted_no2 rfl rfl rfl)
    · intro hx9
      (try simp only [Bool.not_eq_true', Bool.and_eq_true, Bool.not_not] at hx9); (try obtain ⟨hx9, hy9⟩ := hx9); (try subst hy9); (try subst hx9)
      intro wS hS; cases hS; go_wp2; exact ⟨rfl, rfl, rfl⟩
  · rfl
  (try simp only [Act.put, List.setIfInBounds_toArray, List.set_cons_succ, List.set_cons_zero])
  apply walked_cons
  · apply gives_guard
    · (first | exact wanted_yes rfl rfl rfl | exact wanted_no rfl rfl rfl | exact wanted_yes2 rfl rfl rfl | exact wanted_no2 rfl rfl rfl)
    · intro hx9
      (try simp only [Bool.not_eq_true', Bool.and_eq_true, Bool.not_not] at hx9); (try obtain ⟨hx9, hy9⟩ := hx9); (try subst hy9); (try subst hx9)
      intro wS hS; cases hS; go_wp2; exact ⟨rfl, rfl, rfl⟩
  · rfl
  (try simp only [Act.put, List.setIfInBounds_toArray, List.set_cons_succ, List.set_cons_zero])
  apply walked_cons
  · apply gives_guard
    · (first | exact wanted_yes rfl rfl rfl | exact wanted_no rfl rfl rfl | exact wanted_yes2 rfl rfl rfl | exact wanted_no2 rfl rfl rfl)
    · intro hx9
      (try simp only [Bool.not_eq_true', Bool.and_eq_true, Bool.not_not] at hx9); (try obtain ⟨hx9, hy9⟩ := hx9); (try subst hy9); (try subst hx9)
      exact gives_or rfl rfl rfl rfl
  · rfl
  (try simp only [Act.put, List.setIfInBounds_toArray, List.set_cons_succ, List.set_cons_zero])
  apply walked_cons
  · exact gives_and rfl rfl rfl rfl
  · rfl
  (try simp only [Act.put, List.setIfInBounds_toArray, List.set_cons_succ, List.set_cons_zero])
  generalize hc1 : (c0 && (!b1 || asid == xas)) = c1
  apply walked_cons
  · intro wS hS; cases hS; go_wp2; exact ⟨rfl, rfl, rfl⟩
  · rfl
  (try simp only [Act.put, List.setIfInBounds_toArray, List.set_cons_succ, List.set_cons_zero])
  apply walked_cons
  · apply gives_guard
    · (first | exact wanted_yes rfl rfl rfl | exact wanted_no rfl rfl rfl | exact wanted_yes2 rfl rfl rfl | exact wanted_no2 rfl rfl rfl)
    · intro hx9
      (try simp only [Bool.not_eq_true', Bool.and_eq_true, Bool.not_not] at hx9); (try obtain ⟨hx9, hy9⟩ := hx9); (try subst hy9); (try subst hx9)
      intro wS hS; cases hS; go_wp2; exact ⟨rfl, rfl, rfl⟩
  · rfl
  (try simp only [Act.put, List.setIfInBounds_toArray, List.set_cons_succ, List.set_cons_zero])
  apply walked_cons
  · apply gives_guard
    · (first | exact wanted_yes rfl rfl rfl | exact wanted_no rfl rfl rfl | exact wanted_yes2 rfl rfl rfl | exact wanted_no2 rfl rfl rfl)
    · intro hx9
      (try simp only [Bool.not_eq_true', Bool.and_eq_true, Bool.not_not] at hx9); (try obtain ⟨hx9, hy9⟩ := hx9); (try subst hy9); (try subst hx9)
      intro wS hS; cases hS; go_wp2; exact ⟨rfl, rfl, rfl⟩
  · rfl
  (try simp only [Act.put, List.setIfInBounds_toArray, List.set_cons_succ, List.set_cons_zero])
  apply walked_cons
  · apply gives_guard
    · (first | exact wanted_yes rfl rfl rfl | exact wanted_no rfl rfl rfl | exact wanted_yes2 rfl rfl rfl | exact wanted_no2 rfl rfl rfl)
    · intro hx9
      (try simp only [Bool.not_eq_true', Bool.and_eq_true, Bool.not_not] at hx9); (try obtain ⟨hx9, hy9⟩ := hx9); (try subst hy9); (try subst hx9)
      intro wS hS; cases hS; go_wp2; exact ⟨rfl, rfl, rfl⟩
  · rfl
  (try simp only [Act.put, List.setIfInBounds_toArray, List.set_cons_succ, List.set_cons_zero])
  apply walked_cons
  · apply gives_guard
    · (first | exact wanted_yes rfl rfl rfl | exact wanted_no rfl rfl rfl | exact wanted_yes2 rfl rfl rfl | exact wanted_no2 rfl rfl rfl)
    · intro hx9
      (try simp only [Bool.not_eq_true', Bool.and_eq_true, Bool.not_not] at hx9); (try obtain ⟨hx9, hy9⟩ := hx9); (try subst hy9); (try subst hx9)
      intro wS hS; cases hS; go_wp2; exact ⟨rfl, rfl, rfl⟩
  · rfl
  (try simp only [Act.put, List.setIfInBounds_toArray, List.set_cons_succ, List.set_cons_zero])
  apply walked_cons
  · apply gives_guard
    · (first | exact wanted_yes rfl rfl rfl | exact wanted_no rfl rfl rfl | exact wanted_yes2 rfl rfl rfl | exact wanted_no2 rfl rfl rfl)
    · intro hx9
      (try simp only [Bool.not_eq_true', Bool.and_eq_true, Bool.not_not] at hx9); (try obtain ⟨hx9, hy9⟩ := hx9); (try subst hy9); (try subst hx9)
      intro wS hS; cases hS; go_wp2; exact ⟨rfl, rfl, rfl⟩
  · rfl
  (try simp only [Act.put, List.setIfInBounds_toArray, List.set_cons_succ, List.set_cons_zero])
  apply walked_cons
  · apply gives_guard
    · (first | exact wanted_yes rfl rfl rfl | exact wanted_no rfl rfl rfl | exact wanted_yes2 rfl rfl rfl | exact wanted_no2 rfl rfl rfl)
    · intro hx9
      (try simp only [Bool.not_eq_true', Bool.and_eq_true, Bool.not_not] at hx9); (try obtain ⟨hx9, hy9⟩ := hx9); (try subst hy9); (try subst hx9)
      intro wS hS; cases hS; go_wp2; exact ⟨rfl, rfl, rfl⟩
  · rfl
  (try simp only [Act.put, List.setIfInBounds_toArray, List.set_cons_succ, List.set_cons_zero])
  apply walked_cons
  · apply gives_guard
    · (first | exact wanted_yes rfl rfl rfl | exact wanted_no rfl rfl rfl | exact wanted_yes2 rfl rfl rfl | exact wanted_no2 rfl rfl rfl)
    · intro hx9
      (try simp only [Bool.not_eq_true', Bool.and_eq_true, Bool.not_not] at hx9); (try obtain ⟨hx9, hy9⟩ := hx9); (try subst hy9); (try subst hx9)
      intro wS hS; cases hS; go_wp2; exact ⟨rfl, rfl, rfl⟩
  · rfl
  (try simp only [Act.put, List.setIfInBounds_toArray, List.set_cons_succ, List.set_cons_zero])
  apply walked_cons
  · apply gives_guard
    · (first | exact wanted_yes rfl rfl rfl | exact wanted_no rfl rfl rfl | exact wanted_yes2 rfl rfl rfl | exact wanted_no2 rfl rfl rfl)
    · intro hx9
      (try simp only [Bool.not_eq_true', Bool.and_eq_true, Bool.not_not] at hx9); (try obtain ⟨hx9, hy9⟩ := hx9); (try subst hy9); (try subst hx9)
      intro wS hS; cases hS; go_wp2; exact ⟨rfl, rfl, rfl⟩
  · rfl
  (try simp only [Act.put, List.setIfInBounds_toArray, List.set_cons_succ, List.set_cons_zero])
  apply walked_cons
  · apply gives_guard
    · (first | exact wanted_yes rfl rfl rfl | exact wanted_no rfl rfl rfl | exact wanted_yes2 rfl rfl rfl | exact wanted_no2 rfl rfl rfl)
    · intro hx9
      (try simp only [Bool.not_eq_true', Bool.and_eq_true, Bool.not_not] at hx9); (try obtain ⟨hx9, hy9⟩ := hx9); (try subst hy9); (try subst hx9)
      intro wS hS; cases hS; go_wp2; exact ⟨rfl, rfl, rfl⟩
  · rfl
  (try simp only [Act.put, List.setIfInBounds_toArray, List.set_cons_succ, List.set_cons_zero])
  apply walked_cons
  · apply gives_guard
    · (first | exact wanted_yes rfl rfl rfl | exact wanted_no rfl rfl rfl | exact wanted_yes2 rfl rfl rfl | exact wanted_no2 rfl rfl rfl)
    · intro hx9
      (try simp only [Bool.not_eq_true', Bool.and_eq_true, Bool.not_not] at hx9); (try obtain ⟨hx9, hy9⟩ := hx9); (try subst hy9); (try subst hx9)
      intro wS hS; cases hS; go_wp2; exact ⟨rfl, rfl, rfl⟩
  · rfl
  (try simp only [Act.put, List.setIfInBounds_toArray, List.set_cons_succ, List.set_cons_zero])
  apply walked_cons
  · apply gives_guard
    · (first | exact wanted_yes rfl rfl rfl | exact wanted_no rfl rfl rfl | exact wanted_yes2 rfl rfl rfl | exact wanted_no2 rfl rfl rfl)
    · intro hx9
      (try simp only [Bool.not_eq_true', Bool.and_eq_true, Bool.not_not] at hx9); (try obtain ⟨hx9, hy9⟩ := hx9); (try subst hy9); (try subst hx9)
      exact gives_or rfl rfl rfl rfl
  · rfl
  (try simp only [Act.put, List.setIfInBounds_toArray, List.set_cons_succ, List.set_cons_zero])
  apply walked_cons
  · exact gives_and rfl rfl rfl rfl
  · rfl
  (try simp only [Act.put, List.setIfInBounds_toArray, List.set_cons_succ, List.set_cons_zero])
  generalize hc2 : (c1 && (!b2 || (vp : Int) == (xvp : Int))) = c2
  apply walked_cons
  · intro wS hS; cases hS; go_wp2; exact ⟨rfl, rfl, rfl⟩
  · rfl
  (try simp only [Act.put, List.setIfInBounds_toArray, List.set_cons_succ, List.set_cons_zero])
  apply walked_cons
  · apply gives_guard
    · (first | exact wanted_yes rfl rfl rfl | exact wanted_no rfl rfl rfl | exact wanted_yes2 rfl rfl rfl | exact wanted_no2 rfl rfl rfl)
    · intro hx9
      (try simp only [Bool.not_eq_true', Bool.and_eq_true, Bool.not_not] at hx9); (try obtain ⟨hx9, hy9⟩ := hx9); (try subst hy9); (try subst hx9)
      intro wS hS; cases hS; go_wp2; exact ⟨rfl, rfl, rfl⟩
  · rfl
  (try simp only [Act.put, List.setIfInBounds_toArray, List.set_cons_succ, List.set_cons_zero])
  apply walked_cons
  · apply gives_guard
    · (first | exact wanted_yes rfl rfl rfl | exact wanted_no rfl rfl rfl | exact wanted_yes2 rfl rfl rfl | exact wanted_no2 rfl rfl rfl)
    · intro hx9
      (try simp only [Bool.not_eq_true', Bool.and_eq_true, Bool.not_not] at hx9); (try obtain ⟨hx9, hy9⟩ := hx9); (try subst hy9); (try subst hx9)
      intro wS hS; cases hS; go_wp2; exact ⟨rfl, rfl, rfl⟩
  · rfl
  (try simp only [Act.put, List.setIfInBounds_toArray, List.set_cons_succ, List.set_cons_zero])
  apply walked_cons
  · apply gives_guard
    · (first | exact wanted_yes rfl rfl rfl | exact wanted_no rfl rfl rfl | exact wanted_yes2 rfl rfl rfl | exact wanted_no2 rfl rfl rfl)
    · intro hx9
      (try simp only [Bool.not_eq_true', Bool.and_eq_true, Bool.not_not] at hx9); (try obtain ⟨hx9, hy9⟩ := hx9); (try subst hy9); (try subst hx9)
      intro wS hS; cases hS; go_wp2; exact ⟨rfl, rfl, rfl⟩
  · rfl
  (try simp only [Act.put, List.setIfInBounds_toArray, List.set_cons_succ, List.set_cons_zero])
  apply walked_cons
  · apply gives_guard
    · (first | exact wanted_yes rfl rfl rfl | exact wanted_no rfl rfl rfl | exact wanted_yes2 rfl rfl rfl | exact wanted_no2 rfl rfl rfl)
    · intro hx9
      (try simp only [Bool.not_eq_true', Bool.and_eq_true, Bool.not_not] at hx9); (try obtain ⟨hx9, hy9⟩ := hx9); (try subst hy9); (try subst hx9)
      intro wS hS; cases hS; go_wp2; exact ⟨rfl, rfl, rfl⟩
  · rfl
  (try simp only [Act.put, List.setIfInBounds_toArray, List.set_cons_succ, List.set_cons_zero])
  apply walked_cons
  · apply gives_guard
    · (first | exact wanted_yes rfl rfl rfl | exact wanted_no rfl rfl rfl | exact wanted_yes2 rfl rfl rfl | exact wanted_no2 rfl rfl rfl)
    · intro hx9
      (try simp only [Bool.not_eq_true', Bool.and_eq_true, Bool.not_not] at hx9); (try obtain ⟨hx9, hy9⟩ := hx9); (try subst hy9); (try subst hx9)
      intro wS hS; cases hS; go_wp2; exact ⟨rfl, rfl, rfl⟩
  · rfl
  (try simp only [Act.put, List.setIfInBounds_toArray, List.set_cons_succ, List.set_cons_zero])
  apply walked_cons
  · apply gives_guard
    · (first | exact wanted_yes rfl rfl rfl | exact wanted_no rfl rfl rfl | exact wanted_yes2 rfl rfl rfl | exact wanted_no2 rfl rfl rfl)
    · intro hx9
      (try simp only [Bool.not_eq_true', Bool.and_eq_true, Bool.not_not] at hx9); (try obtain ⟨hx9, hy9⟩ := hx9); (try subst hy9); (try subst hx9)
      intro wS hS; cases hS; go_wp2; exact ⟨rfl, rfl, rfl⟩
  · rfl
  (try simp only [Act.put, List.setIfInBounds_toArray, List.set_cons_succ, List.set_cons_zero])
  apply walked_cons
  · apply gives_guard
    · (first | exact wanted_yes rfl rfl rfl | exact wanted_no rfl rfl rfl | exact wanted_yes2 rfl rfl rfl | exact wanted_no2 rfl rfl rfl)
    · intro hx9
      (try simp only [Bool.not_eq_true', Bool.and_eq_true, Bool.not_not] at hx9); (try obtain ⟨hx9, hy9⟩ := hx9); (try subst hy9); (try subst hx9)
      intro wS hS; cases hS; go_wp2; exact ⟨rfl, rfl, rfl⟩
  · rfl
  (try simp only [Act.put, List.setIfInBounds_toArray, List.set_cons_succ, List.set_cons_zero])
  apply walked_cons
  · apply gives_guard
    · (first | exact wanted_yes rfl rfl rfl | exact wanted_no rfl rfl rfl | exact wanted_yes2 rfl rfl rfl | exact wanted_no2 rfl rfl rfl)
    · intro hx9
      (try simp only [Bool.not_eq_true', Bool.and_eq_true, Bool.not_not] at hx9); (try obtain ⟨hx9, hy9⟩ := hx9); (try subst hy9); (try subst hx9)
      intro wS hS; cases hS; go_wp2; exact ⟨rfl, rfl, rfl⟩
  · rfl
  (try simp only [Act.put, List.setIfInBounds_toArray, List.set_cons_succ, List.set_cons_zero])
  apply walked_cons
  · apply gives_guard
    · (first | exact wanted_yes rfl rfl rfl | exact wanted_no rfl rfl rfl | exact wanted_yes2 rfl rfl rfl | exact wanted_no2 rfl rfl rfl)
    · intro hx9
      (try simp only [Bool.not_eq_true', Bool.and_eq_true, Bool.not_not] at hx9); (try obtain ⟨hx9, hy9⟩ := hx9); (try subst hy9); (try subst hx9)
      intro wS hS; cases hS; go_wp2; exact ⟨rfl, rfl, rfl⟩
  · rfl
  (try simp only [Act.put, List.setIfInBounds_toArray, List.set_cons_succ, List.set_cons_zero])
  apply walked_cons
  · apply gives_guard
    · (first | exact wanted_yes rfl rfl rfl | exact wanted_no rfl rfl rfl | exact wanted_yes2 rfl rfl rfl | exact wanted_no2 rfl rfl rfl)
    · intro hx9
      (try simp only [Bool.not_eq_true', Bool.and_eq_true, Bool.not_not] at hx9); (try obtain ⟨hx9, hy9⟩ := hx9); (try subst hy9); (try subst hx9)
      intro wS hS; cases hS; go_wp2; exact ⟨rfl, rfl, rfl⟩
  · rfl
  (try simp only [Act.put, List.setIfInBounds_toArray, List.set_cons_succ, List.set_cons_zero])
  apply walked_cons
  · apply gives_guard
    · (first | exact wanted_yes rfl rfl rfl | exact wanted_no rfl rfl rfl | exact wanted_yes2 rfl rfl rfl | exact wanted_no2 rfl rfl rfl)
    · intro hx9
      (try simp only [Bool.not_eq_true', Bool.and_eq_true, Bool.not_not] at hx9); (try obtain ⟨hx9, hy9⟩ := hx9); (try subst hy9); (try subst hx9)
      exact gives_or rfl rfl rfl rfl
  · rfl
  (try simp only [Act.put, List.setIfInBounds_toArray, List.set_cons_succ, List.set_cons_zero])
  apply walked_cons
  · exact gives_and rfl rfl rfl rfl
  · rfl
  (try simp only [Act.put, List.setIfInBounds_toArray, List.set_cons_succ, List.set_cons_zero])
  generalize hc3 : (c2 && (!b3 || (ip : Int) == (xip : Int))) = c3
  apply walked_cons
  · intro wS hS; cases hS; go_wp2; exact ⟨rfl, rfl, rfl⟩
  · rfl
  (try simp only [Act.put, List.setIfInBounds_toArray, List.set_cons_succ, List.set_cons_zero])
  apply walked_cons
  · apply gives_guard
    · (first | exact wanted_yes rfl rfl rfl | exact wanted_no rfl rfl rfl | exact wanted_yes2 rfl rfl rfl | exact wanted_no2 rfl rfl rfl)
    · intro hx9
      (try simp only [Bool.not_eq_true', Bool.and_eq_true, Bool.not_not] at hx9); (try obtain ⟨hx9, hy9⟩ := hx9); (try subst hy9); (try subst hx9)
      intro wS hS; cases hS; go_wp2; exact ⟨rfl, rfl, rfl⟩
  · rfl
  (try simp only [Act.put, List.setIfInBounds_toArray, List.set_cons_succ, List.set_cons_zero])
  apply walked_cons
  · apply gives_guard
    · (first | exact wanted_yes rfl rfl rfl | exact wanted_no rfl rfl rfl | exact wanted_yes2 rfl rfl rfl | exact wanted_no2 rfl rfl rfl)
    · intro hx9
      (try simp only [Bool.not_eq_true', Bool.and_eq_true, Bool.not_not] at hx9); (try obtain ⟨hx9, hy9⟩ := hx9); (try subst hy9); (try subst hx9)
      intro wS hS; cases hS; go_wp2; exact ⟨rfl, rfl, rfl⟩
  · rfl
  (try simp only [Act.put, List.setIfInBounds_toArray, List.set_cons_succ, List.set_cons_zero])
  apply walked_cons
  · apply gives_guard
    · (first | exact wanted_yes rfl rfl rfl | exact wanted_no rfl rfl rfl | exact wanted_yes2 rfl rfl rfl | exact wanted_no2 rfl rfl rfl)
    · intro hx9
      (try simp only [Bool.not_eq_true', Bool.and_eq_true, Bool.not_not] at hx9); (try obtain ⟨hx9, hy9⟩ := hx9); (try subst hy9); (try subst hx9)
      intro wS hS; cases hS; go_wp2; exact ⟨rfl, rfl, rfl⟩
  · rfl
  (try simp only [Act.put, List.setIfInBounds_toArray, List.set_cons_succ, List.set_cons_zero])
  apply walked_cons
  · apply gives_guard
    · (first | exact wanted_yes rfl rfl rfl | exact wanted_no rfl rfl rfl | exact wanted_yes2 rfl rfl rfl | exact wanted_no2 rfl rfl rfl)
    · intro hx9
      (try simp only [Bool.not_eq_true', Bool.and_eq_true, Bool.not_not] at hx9); (try obtain ⟨hx9, hy9⟩ := hx9); (try subst hy9); (try subst hx9)
      intro wS hS; cases hS; go_wp2; exact ⟨rfl, rfl, rfl⟩
  · rfl
  (try simp only [Act.put, List.setIfInBounds_toArray, List.set_cons_succ, List.set_cons_zero])
  apply walked_cons
  · apply gives_guard
    · (first | exact wanted_yes rfl rfl rfl | exact wanted_no rfl rfl rfl | exact wanted_yes2 rfl rfl rfl | exact wanted_no2 rfl rfl rfl)
    · intro hx9
      (try simp only [Bool.not_eq_true', Bool.and_eq_true, Bool.not_not] at hx9); (try obtain ⟨hx9, hy9⟩ := hx9); (try subst hy9); (try subst hx9)
      intro wS hS; cases hS; go_wp2; exact ⟨rfl, rfl, rfl⟩
  · rfl
  (try simp only [Act.put, List.setIfInBounds_toArray, List.set_cons_succ, List.set_cons_zero])
  apply walked_cons
  · apply gives_guard
    · (first | exact wanted_yes rfl rfl rfl | exact wanted_no rfl rfl rfl | exact wanted_yes2 rfl rfl rfl | exact wanted_no2 rfl rfl rfl)
    · intro hx9
      (try simp only [Bool.not_eq_true', Bool.and_eq_true, Bool.not_not] at hx9); (try obtain ⟨hx9, hy9⟩ := hx9); (try subst hy9); (try subst hx9)
      intro wS hS; cases hS; go_wp2; exact ⟨rfl, rfl, rfl⟩
  · rfl
  (try simp only [Act.put, List.setIfInBounds_toArray, List.set_cons_succ, List.set_cons_zero])
  apply walked_cons
  · apply gives_guard
    · (first | exact wanted_yes rfl rfl rfl | exact wanted_no rfl rfl rfl | exact wanted_yes2 rfl rfl rfl | exact wanted_no2 rfl rfl rfl)
    · intro hx9
      (try simp only [Bool.not_eq_true', Bool.and_eq_true, Bool.not_not] at hx9); (try obtain ⟨hx9, hy9⟩ := hx9); (try subst hy9); (try subst hx9)
      intro wS hS; cases hS; go_wp2; exact ⟨rfl, rfl, rfl⟩
  · rfl
  (try simp only [Act.put, List.setIfInBounds_toArray, List.set_cons_succ, List.set_cons_zero])
  apply walked_cons
  · apply gives_guard
    · (first | exact wanted_yes rfl rfl rfl | exact wanted_no rfl rfl rfl | exact wanted_yes2 rfl rfl rfl | exact wanted_no2 rfl rfl rfl)
    · intro hx9
      (try simp only [Bool.not_eq_true', Bool.and_eq_true, Bool.not_not] at hx9); (try obtain ⟨hx9, hy9⟩ := hx9); (try subst hy9); (try subst hx9)
      intro wS hS; cases hS; go_wp2; exact ⟨rfl, rfl, rfl⟩
  · rfl
  (try simp only [Act.put, List.setIfInBounds_toArray, List.set_cons_succ, List.set_cons_zero])
  apply walked_cons
  · apply gives_guard
    · (first | exact wanted_yes rfl rfl rfl | exact wanted_no rfl rfl rfl | exact wanted_yes2 rfl rfl rfl | exact wanted_no2 rfl rfl rfl)
    · intro hx9
      (try simp only [Bool.not_eq_true', Bool.and_eq_true, Bool.not_not] at hx9); (try obtain ⟨hx9, hy9⟩ := hx9); (try subst hy9); (try subst hx9)
      intro wS hS; cases hS; go_wp2; exact ⟨rfl, rfl, rfl⟩
  · rfl
  (try simp only [Act.put, List.setIfInBounds_toArray, List.set_cons_succ, List.set_cons_zero])
  apply walked_cons
  · apply gives_guard
    · (first | exact wanted_yes rfl rfl rfl | exact wanted_no rfl rfl rfl | exact wanted_yes2 rfl rfl rfl | exact wanted_no2 rfl rfl rfl)
    · intro hx9
      (try simp only [Bool.not_eq_true', Bool.and_eq_true, Bool.not_not] at hx9); (try obtain ⟨hx9, hy9⟩ := hx9); (try subst hy9); (try subst hx9)
      intro wS hS; cases hS; go_wp2; exact ⟨rfl, rfl, rfl⟩
  · rfl
  (try simp only [Act.put, List.setIfInBounds_toArray, List.set_cons_succ, List.set_cons_zero])
  apply walked_cons
  · apply gives_guard
    · (first | exact wanted_yes rfl rfl rfl | exact wanted_no rfl rfl rfl | exact wanted_yes2 rfl rfl rfl | exact wanted_no2 rfl rfl rfl)
    · intro hx9
      (try simp only [Bool.not_eq_true', Bool.and_eq_true, Bool.not_not] at hx9); (try obtain ⟨hx9, hy9⟩ := hx9); (try subst hy9); (try subst hx9)
      exact gives_or rfl rfl rfl rfl
  · rfl
  (try simp only [Act.put, List.setIfInBounds_toArray, List.set_cons_succ, List.set_cons_zero])
  apply walked_cons
  · exact gives_and rfl rfl rfl rfl
  · rfl
  (try simp only [Act.put, List.setIfInBounds_toArray, List.set_cons_succ, List.set_cons_zero])
  apply walked_cons
  · intro wS hS; cases hS; go_wp2; exact ⟨rfl, rfl, rfl⟩
  · rfl
  (try simp only [Act.put, List.setIfInBounds_toArray, List.set_cons_succ, List.set_cons_zero])
  apply walked_nil
  intro wS hS
  cases hS
  go_wp2
  go_ret
  refine ⟨?_, HO.out⟩
  congr 2
  rw [← HR.out, ← hc3, ← hc2, ← hc1, ← hc0]
  simp only [schB]
  rfl

section
variable {w : World} {q L n wy N : Nat} {F : List Pl}
theorem lose_len (B : Ln → Bool) (F : List Pl) (k : Nat) : ((F.take k).map (loseP B) ++ F.drop k).length = F.length := by
  simp [List.length_append, List.length_map, List.length_take, List.length_drop]
  omega
set_option maxHeartbeats 8000000 in
set_option maxRecDepth 100000 in
theorem refLose_calls (h : IsRT w q L n wy N F) (s : Sch) :
    Calls Try.prog 79 #[.pointer (some ⟨q, 0, none⟩), .agg s.cells.toArray] w (fun e y => e = .returned (.int .i64 (cntP (schB s) F : Nat)) ∧ IsRT y q L n wy N (F.map (loseP (schB s))) ∧ Only (fun z => z = L) w y) := by
  have n512 : (N : Int) ≤ 512 := by have := h.h3.2; omega
  have hcnt : cntP (schB s) F ≤ 512 := by have := cntP_le (schB s) F; have := h.len; have := h.h3.2; omega
  have hqL : q < w.heap.size ∧ L < w.heap.size := ⟨lt_of_block h.hq, lt_of_block h.hL⟩
  have H := Lib.hid h
  have HC := Lib.hid (And.intro hcnt hqL)
  obtain ⟨sc, hsc⟩ : ∃ sc, s.cells = sc := ⟨_, rfl⟩
  rw [hsc]
  have HSC := Lib.hid hsc
  clear h hcnt hqL hsc
  go_enter Try.func79, Try.ntmps79
  go_upto_region 1 with (fail)
  have hsb := new_block w (.cells sc.toArray 132)
  have hO0 := old_alloc (old_refl w) (.cells sc.toArray 132)
  generalize w.alloc (.cells sc.toArray 132) = W at *
  obtain ⟨sb, hsbe⟩ : ∃ sb, sb = w.heap.size := ⟨_, rfl⟩
  rw [← hsbe] at hsb ⊢
  have HW := Lib.hid (And.intro hsb (And.intro hO0 hsbe))
  clear hsb hO0 hsbe
  go_wp2
  go_loopw [5, 6] (fun s5 s6 wx => ∃ k : Nat, k ≤ N ∧ s6 = .int .i64 (k : Nat) ∧ s5 = .int .i64 (cntP (schB s) (F.take k) : Nat) ∧ IsRT wx q L n wy N ((F.take k).map (loseP (schB s)) ++ F.drop k) ∧ Only (fun z => z = L) W wx) (fun _ s6 _ => N - (intOf s6).toNat)
  case atStart => exact ⟨0, by omega, rfl, rfl, by simpa using rt_old H.out HW.out.2.1, Only.refl _ _⟩
  case round =>
    obtain ⟨k, hk, rfl, rfl, hI, hOn⟩ := hrel
    obtain ⟨c0, z0, zz⟩ := of_block hI.hq
    have hsb := keep_only hOn (show ¬ sb = L by have := HC.out.2.2; have := HW.out.2.2; omega) HW.out.1
    by_cases hkn : k = N
    · subst hkn
      have e1 : F.take k = F := List.take_of_length_le (by rw [H.out.len]; exact Nat.le_refl _)
      rw [e1, List.drop_eq_nil_of_le (by rw [H.out.len]; exact Nat.le_refl _), List.append_nil] at hI
      rw [e1]
      have HI := Lib.hid (And.intro hI hOn)
      clear hk hI hOn e1 hsb
      go_wp2
      go_ret
      exact ⟨rfl, HI.out.1, ((Only.of_below HW.out.2.1).mono fun _ _ f => f.elim).trans HI.out.2⟩
    · have hlt : k < N := by omega
      obtain ⟨p, hp⟩ : ∃ p, F[k]? = some p := ⟨_, List.getElem?_eq_getElem (by rw [H.out.len]; exact hlt)⟩
      have hkF : k < F.length := (List.getElem?_eq_some_iff.1 hp).1
      have hp2 : ((F.take k).map (loseP (schB s)) ++ F.drop k)[k]? = some p := by
        rw [List.getElem?_append_right (by simp; omega)]
        simp [Nat.min_eq_left (Nat.le_of_lt hkF), hp]
      have hst : ((F.take k).map (loseP (schB s)) ++ F.drop k).set k (loseP (schB s) p) = (F.take (k + 1)).map (loseP (schB s)) ++ F.drop (k + 1) := by
        rw [List.set_append_right _ _ (by simp; omega)]
        simp only [List.length_map, List.length_take, Nat.min_eq_left (Nat.le_of_lt hkF), Nat.sub_self]
        rw [drop_get _ _ _ hp, List.set_cons_zero, take_get _ _ _ hp, List.map_append, List.append_assoc]
        rfl
      have hct : cntP (schB s) (F.take (k + 1)) = cntP (schB s) (F.take k) + (if p.on && schB s p.l then 1 else 0) := by
        rw [take_get _ _ _ hp, cntP_append]
        simp only [cntP]
        split <;> simp
      have hc9 : cntP (schB s) (F.take k) ≤ 512 := by
        have := cntP_le (schB s) (F.take k); have a2 := List.length_take_le' k F; have := H.out.len; have := H.out.h3.2; omega
      obtain ⟨G, hG⟩ : ∃ G, (F.take k).map (loseP (schB s)) ++ F.drop k = G := ⟨_, rfl⟩
      rw [hG] at hI hp2 hst
      obtain ⟨C, hC⟩ : ∃ C, cntP (schB s) (F.take k) = C := ⟨_, rfl⟩
      rw [hC] at hct hc9 ⊢
      have i1 : (k : Int) < N := by omega
      have c512 : (C : Int) ≤ 512 := by omega
      have HI := Lib.hid (And.intro hI (And.intro hOn (And.intro hsb (And.intro hp2 (And.intro hst (And.intro hct hlt))))))
      clear hk hI hOn hsb hkn hlt hp hkF hp2 hst hct hc9 hG hC
      obtain ⟨on, l⟩ := p
      go_upto_region 5 with (fail)
      cases on with
      | false =>
        refine wp_region_walked (S := Old wr) (by kernel_rfl) (by kernel_rfl) (old_drew (old_refl _)) ?_
        repeat (apply walked_cons; (first | exact gives_and rfl rfl rfl rfl | exact gives_or rfl rfl rfl rfl | (focus (intro wS hS; have con : wS.cell? ⟨L, k * 12, none⟩ = some (.bool false) := rt_cell (rt_old HI.out.1 hS) HI.out.2.2.2.1 0 _ rfl; obtain ⟨q1, q2, q3⟩ := of_block (rt_old HI.out.1 hS).hq; go_wp2_with ((fail)); ((exact ⟨rfl, rfl, hS⟩)); done)) | (focus (apply gives_guard; (focus (first | exact wanted_yes rfl rfl rfl | exact wanted_no rfl rfl rfl | exact wanted_yes2 rfl rfl rfl | exact wanted_no2 rfl rfl rfl)); (focus (intro hx9; (try simp only [Bool.not_eq_true', Bool.and_eq_true, Bool.not_not] at hx9); (try obtain ⟨hx9, hy9⟩ := hx9); (try subst hy9); (try subst hx9); (first | exact gives_and rfl rfl rfl rfl | exact gives_or rfl rfl rfl rfl | (intro wS hS; have con : wS.cell? ⟨L, k * 12, none⟩ = some (.bool false) := rt_cell (rt_old HI.out.1 hS) HI.out.2.2.2.1 0 _ rfl; obtain ⟨q1, q2, q3⟩ := of_block (rt_old HI.out.1 hS).hq; go_wp2_with ((fail)); ((exact ⟨rfl, rfl, hS⟩)); done))))))); rfl; (try simp only [Act.put, List.setIfInBounds_toArray, List.set_cons_succ, List.set_cons_zero]))
        apply walked_nil
        intro wS hS
        have HS := Lib.hid hS
        clear hS c0 z0 zz
        go_wp2
        go_roundw
        case rel =>
          obtain ⟨a1, a2, a3, a4, a5, a6, a7⟩ := HI.out
          have hself : loseP (schB s) ⟨false, l⟩ = ⟨false, l⟩ := rfl
          rw [hself, set_self _ _ _ a4] at a5
          refine ⟨k + 1, a7, by simp, by rw [a6]; simp, ?_, ?_⟩
          · rw [← a5]; exact rt_old a1 HS.out
          · exact a2.trans ((Only.of_below HS.out).mono fun _ _ f => f.elim)
        case measure => have := HI.out.2.2.2.2.2.2; (simp [intOf]) <;> omega
      | true =>
        obtain ⟨B, hB⟩ : ∃ B, schB s l = B := ⟨_, rfl⟩
        have his := fun x => refIs_calls s l x
        rw [hB] at his
        rw [HSC.out] at his
        have hsone : ∀ x, Old wr x → ∀ (c : Nat) (v : Value), sc[c]? = some v → x.cell? ⟨sb, 0 + c, none⟩ = some v := fun x hx c v hv => by
          rw [Nat.zero_add, cell_of (keep_old hx HI.out.2.2.1)]
          simpa using hv
        have hsl : sc.length = 16 := by rw [← HSC.out]; rfl
        have hsi : (Try.prog.info? 132).map (·.size) = some sc.length := by rw [hsl]; kernel_rfl
        have HB := Lib.hid (And.intro hB (And.intro hsone hsi))
        clear hB hsone hsl hsi
        refine wp_region_walked (S := Old wr) (by kernel_rfl) (by kernel_rfl) (old_drew (old_refl _)) ?_
        repeat (apply walked_cons; (first | exact gives_and rfl rfl rfl rfl | exact gives_or rfl rfl rfl rfl | (focus (intro wS hS; have con : wS.cell? ⟨L, k * 12, none⟩ = some (.bool true) := rt_cell (rt_old HI.out.1 hS) HI.out.2.2.2.1 0 _ rfl; have hcl : ∀ (c : Nat) (v : Value), l.cells[c]? = some v → wS.cell? ⟨L, k * 12 + 1 + c, none⟩ = some v := (fun c v hv => by have := rt_cell (rt_old HI.out.1 hS) HI.out.2.2.2.1 (c + 1) v (by simpa [Pl.cells] using hv); rwa [show k * 12 + (c + 1) = k * 12 + 1 + c by omega] at this); obtain ⟨q1, q2, q3⟩ := of_block (rt_old HI.out.1 hS).hq; go_wp2_with ((first | (refine wpList_load_at rfl 64 _ rfl L (k * 12 + 1) rfl l.cells _ hcl Try.underlying64 rfl (by kernel_rfl) ?_) | (refine wpList_load_at rfl 132 _ rfl sb 0 rfl sc _ (HB.out.2.1 wS hS) Try.underlying132 rfl HB.out.2.2 ?_) | (go_at_call 92; (with_reducible refine (his _).mono ?_); rintro e w9 ⟨rfl, hb9⟩))); ((first | exact ⟨rfl, rfl, hS⟩ | exact ⟨rfl, rfl, old_then hS hb9⟩)); done)) | (focus (apply gives_guard; (focus (first | exact wanted_yes rfl rfl rfl | exact wanted_no rfl rfl rfl | exact wanted_yes2 rfl rfl rfl | exact wanted_no2 rfl rfl rfl)); (focus (intro hx9; (try simp only [Bool.not_eq_true', Bool.and_eq_true, Bool.not_not] at hx9); (try obtain ⟨hx9, hy9⟩ := hx9); (try subst hy9); (try subst hx9); (first | exact gives_and rfl rfl rfl rfl | exact gives_or rfl rfl rfl rfl | (intro wS hS; have con : wS.cell? ⟨L, k * 12, none⟩ = some (.bool true) := rt_cell (rt_old HI.out.1 hS) HI.out.2.2.2.1 0 _ rfl; have hcl : ∀ (c : Nat) (v : Value), l.cells[c]? = some v → wS.cell? ⟨L, k * 12 + 1 + c, none⟩ = some v := (fun c v hv => by have := rt_cell (rt_old HI.out.1 hS) HI.out.2.2.2.1 (c + 1) v (by simpa [Pl.cells] using hv); rwa [show k * 12 + (c + 1) = k * 12 + 1 + c by omega] at this); obtain ⟨q1, q2, q3⟩ := of_block (rt_old HI.out.1 hS).hq; go_wp2_with ((first | (refine wpList_load_at rfl 64 _ rfl L (k * 12 + 1) rfl l.cells _ hcl Try.underlying64 rfl (by kernel_rfl) ?_) | (refine wpList_load_at rfl 132 _ rfl sb 0 rfl sc _ (HB.out.2.1 wS hS) Try.underlying132 rfl HB.out.2.2 ?_) | (go_at_call 92; (with_reducible refine (his _).mono ?_); rintro e w9 ⟨rfl, hb9⟩))); ((first | exact ⟨rfl, rfl, hS⟩ | exact ⟨rfl, rfl, old_then hS hb9⟩)); done))))))); rfl; (try simp only [Act.put, List.setIfInBounds_toArray, List.set_cons_succ, List.set_cons_zero]))
        apply walked_nil
        intro wS hS
        have HS := Lib.hid hS
        have hT2 := rt_old HI.out.1 hS
        obtain ⟨c1, -, -⟩ := of_block hT2.hq
        clear hS c0 z0 zz
        cases B with
        | false =>
          clear hT2
          go_wp2
          go_roundw
          case rel =>
            obtain ⟨a1, a2, a3, a4, a5, a6, a7⟩ := HI.out
            have hself : loseP (schB s) ⟨true, l⟩ = ⟨true, l⟩ := by unfold loseP; rw [HB.out.1]; rfl
            rw [hself, set_self _ _ _ a4] at a5
            refine ⟨k + 1, a7, by simp, by rw [a6, HB.out.1]; simp, ?_, ?_⟩
            · rw [← a5]; exact rt_old a1 HS.out
            · exact a2.trans ((Only.of_below HS.out).mono fun _ _ f => f.elim)
          case measure => have := HI.out.2.2.2.2.2.2; (simp [intOf]) <;> omega
        | true =>
          have hGl : k < G.length := (List.getElem?_eq_some_iff.1 HI.out.2.2.2.1).1
          have hfl : List.take (k * 12) (placesC G) ++ pl0.cells ++ List.drop (k * 12 + pl0.cells.length) (placesC G) = placesC (G.set k pl0) := flatC_set pl_len G k pl0 hGl
          have hJl : k * 12 + 12 ≤ (placesC G).length := by rw [flatC_length pl_len]; omega
          have hput := rt_put hT2 (G.set k pl0) (by rw [List.length_set]; exact hT2.len)
          have HP := Lib.hid (And.intro hfl (And.intro hJl (And.intro hput hT2.hL)))
          clear hGl hfl hJl hput hT2
          go_wp2_with (refine wpList_store_at rfl 129 _ _ rfl L (k * 12) pl0.cells rfl rfl 129 _ HP.out.2.2.2 (by kernel_rfl) HP.out.2.1 (pl_one _) ?_)
          go_roundw
          case rel =>
            obtain ⟨a1, a2, a3, a4, a5, a6, a7⟩ := HI.out
            obtain ⟨d1, d2, d3, d4⟩ := HP.out
            have hself : loseP (schB s) ⟨true, l⟩ = pl0 := by unfold loseP; rw [HB.out.1]; rfl
            rw [hself] at a5
            refine ⟨k + 1, a7, by simp, by rw [a6, HB.out.1]; simp, ?_, ?_⟩
            · rw [← a5, ← List.append_assoc, d1]; exact d3
            · rw [← List.append_assoc, d1]
              exact (a2.trans ((Only.of_below HS.out).mono fun _ _ f => f.elim)).putB _ (fun _ => rfl)
          case measure => have := HI.out.2.2.2.2.2.2; (simp [intOf]) <;> omega
end
end Go.Proofs.Ytfiofjalpaeohaa
