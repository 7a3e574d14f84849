/- The package tlb: List. -/
import Derived.Test.YtfiofjalpaeohaaTlbLoses
namespace Go.Proofs.Ytfiofjalpaeohaa
set_option linter.unusedVariables false
set_option linter.unusedSimpArgs false
open Go.RowKit

def linesP : List Pl → List Ln
  | [] => []
  | q :: t => if q.on then q.l :: linesP t else linesP t
def linesT : List (List Pl) → List Ln
  | [] => []
  | t :: T => linesP t ++ linesT T
theorem linesP_len (t : List Pl) : (linesP t).length ≤ t.length := by
  induction t with
  | nil => exact Nat.le_refl _
  | cons q t ih => unfold linesP; split <;> simp <;> omega
theorem linesT_len (wy : Nat) (T : List (List Pl)) (h : ∀ t ∈ T, t.length = wy) : (linesT T).length ≤ T.length * wy := by
  induction T with
  | nil => simp [linesT]
  | cons t T ih =>
    unfold linesT
    have := linesP_len t
    have h1 := h t (List.mem_cons_self ..)
    have h2 := ih (fun u hu => h u (List.mem_cons_of_mem _ hu))
    rw [List.length_append, List.length_cons, Nat.add_mul]; omega
theorem ln_len (l : Ln) : l.cells.length = 11 := rfl
abbrev lnsC (l : List Ln) : List Value := flatC Ln.cells l
/-- A row of lines of a call's own. -/
abbrev OwnLns (w : World) (B : Nat) (v : Value) (L : List Ln) : Prop := w.ownsRow B 64 11 v L.length (lnsC L)
theorem line_info : (Try.prog.info? 64).map (fun i => (i.zero, i.size, i.bytes)) = some (some (.agg #[.int .i64 0, .int .i64 0, .int .u64 0, .int .u64 0, .int .i64 0, .bool false, .bool false, .bool false, .bool false, .bool false, .bool false]), 11, 48) := by kernel_rfl
/-- A line laid behind others. -/
theorem line_append (B : Nat) (W4 : World) (v : Value) (L : List Ln) (l : Ln) (hL : L.length ≤ 1000) (hB : B ≤ W4.heap.size) (hown : OwnLns W4 B v L) :
    ∃ v' w5, (Builtin.append_ #[59, 59] 59 #[v, .slice (some ⟨W4.heap.size, 0, none⟩) 1 1]).run Try.prog (W4.alloc (.cells l.cells.toArray 64)) = .ok v' w5 ∧
      OwnLns w5 B v' (L ++ [l]) ∧ Only (fun b => B ≤ b) W4 w5 := by
  obtain ⟨i0, hi, hz0, hz1, hz2⟩ := info_parts line_info
  have hown4 := hown.alloc (.cells l.cells.toArray 64)
  have hnew := news_block W4 l.cells 64 W4.heap.size rfl
  obtain ⟨v', w5, hrun, ho5, hgr, -⟩ := run_append_own (P := Try.prog) _ B 59 59 64 i0 _ 11 48 Try.underlying59 hi hz0 hz1 hz2 rfl (by decide) v L.length (lnsC L) hown4 ⟨W4.heap.size, 0, none⟩ 1 1 l.cells rfl hnew (ln_one l) (by unfold maxLen; omega) (by omega) (by simp; omega)
  have hrow : ∀ b, some b = v.ownBlock → B ≤ b ∧ b < W4.heap.size := fun b e => hown.lt b e.symm
  refine ⟨v', w5, hrun, ?_, ?_⟩
  · show w5.ownsRow B _ 11 v' (L ++ [l]).length (lnsC (L ++ [l]))
    rw [List.length_append, show lnsC (L ++ [l]) = lnsC L ++ l.cells by rw [lnsC, flatC_append]; simp [flatC]]
    exact ho5
  · exact Only.trans ((Only.refl _ W4).alloc _) ((grown_only hgr).mono fun b _ e => (hrow b e).1)

section
variable {w : World} {p gs : Nat} {bs : List Nat} {n wy : Nat} {T : List (List Pl)}
set_option maxHeartbeats 8000000 in
set_option maxRecDepth 100000 in
theorem list_calls (h : IsTlb w p gs bs n wy T) :
    Calls Try.prog 33 #[.pointer (some ⟨p, 0, none⟩)] w (fun e y => ∃ v, e = .returned v ∧ OwnLns y w.heap.size v (linesT T) ∧ Old w y) := by
  have c0 : w.cell? ⟨p, 0, none⟩ = some (.slice (some ⟨gs, 0, none⟩) n n) := by rw [cell_of h.hp]; rfl
  have hcnt : (linesT T).length ≤ 512 := by
    have a := linesT_len wy T (tlb_lens h)
    have b1 := h.h1.2
    have b2 := h.h2.2
    have b3 := Nat.mul_le_mul (show T.length ≤ 64 by rw [h.lT]; exact b1) b2
    omega
  have n64 : (n : Int) ≤ 64 := by have := h.h1.2; omega
  have w8 : (wy : Int) ≤ 8 := by have := h.h2.2; omega
  have H := Lib.hid h
  have HC := Lib.hid hcnt
  clear h hcnt
  go_enter Try.func33, Try.ntmps33
  go_wp2
  go_loopw [3, 5, 7, 13, 19] (fun s3 _ _ s13 _ wx => ∃ (i : Nat) (L : List Ln), i ≤ n ∧ s13 = .int .i64 (i : Nat) ∧ OwnLns wx w.heap.size s3 L ∧ Old w wx ∧ L ++ linesT (T.drop i) = linesT T) (fun _ _ _ s13 _ _ => n - (intOf s13).toNat)
  case atStart => exact ⟨0, [], by omega, rfl, own_nil, old_refl _, by simp⟩
  case round =>
    clear c0
    obtain ⟨i, L, hi, rfl, hL, hO, hlt⟩ := hrel
    have HO := Lib.hid hO
    have HL := Lib.hid hL
    have HLT := Lib.hid hlt
    by_cases hin : i = n
    · subst hin
      have e1 : T.drop i = [] := List.drop_eq_nil_of_le (by rw [H.out.lT]; exact Nat.le_refl _)
      rw [e1] at hlt
      have hlt' : L = linesT T := by rw [← hlt]; simp [linesT]
      have HX := Lib.hid hlt'
      clear hi hL hO hlt hlt' e1
      go_wp2
      go_ret
      exact ⟨_, rfl, by rw [← HX.out]; exact HL.out, HO.out⟩
    · have hlti : i < n := by omega
      have hT := tlb_old H.out hO
      obtain ⟨b, t, hb, ht, htl⟩ := tlb_block hT hlti
      have i1 : (i : Int) < n := by omega
      have c1 : wr.cell? ⟨gs, i, none⟩ = some (.slice (some ⟨b, 0, none⟩) wy wy) := by rw [cell_of hT.hg]; simp [hb]
      have HB := Lib.hid (And.intro hb (And.intro ht htl))
      have HI := Lib.hid hlti
      clear hi hL hO hlt hT hb ht htl hin hlti
      go_wp2
      clear c1
      go_loopw [3, 7, 19] (fun s3 _ s19 wx => ∃ (j : Nat) (L1 : List Ln), j ≤ wy ∧ s19 = .int .i64 (j : Nat) ∧ OwnLns wx w.heap.size s3 L1 ∧ Old w wx ∧ L1 ++ linesP (t.drop j) = L ++ linesP t) (fun _ _ s19 _ => wy - (intOf s19).toNat)
      case atStart => exact ⟨0, L, by omega, rfl, HL.out, HO.out, by simp⟩
      case round =>
        obtain ⟨j, L1, hj, rfl, hL1, hO1, hlt1⟩ := hrel
        have HO1 := Lib.hid hO1
        have HL1 := Lib.hid hL1
        have HLT1 := Lib.hid hlt1
        by_cases hjn : j = wy
        · subst hjn
          have e1 : t.drop j = [] := List.drop_eq_nil_of_le (by rw [HB.out.2.2]; exact Nat.le_refl _)
          rw [e1] at hlt1
          have hlt' : L1 = L ++ linesP t := by rw [← hlt1]; simp [linesP]
          have HX := Lib.hid hlt'
          clear hj hL1 hO1 hlt1 hlt' e1
          go_wp2
          go_roundw
          case rel =>
            refine ⟨i + 1, L1, HI.out, by simp, HL1.out, HO1.out, ?_⟩
            rw [HX.out, ← HLT.out, drop_get _ _ _ HB.out.2.1]
            simp [linesT]
          case measure => have := HI.out; (simp [intOf]) <;> omega
        · have hjlt : j < wy := by omega
          obtain ⟨q, hq⟩ : ∃ q, t[j]? = some q := ⟨_, List.getElem?_eq_getElem (by rw [HB.out.2.2]; exact hjlt)⟩
          have hdrop := drop_get _ _ _ hq
          have hcl : ∀ (c : Nat) (v : Value), q.cells[c]? = some v → wr.cell? ⟨b, j * 12 + c, none⟩ = some v := pl_cell (tlb_old H.out hO1) HB.out.1 HB.out.2.1 hq
          have hL1k : L1.length ≤ 512 := by
            have a := HC.out
            have b1 := HLT.out
            rw [drop_get _ _ _ HB.out.2.1] at b1
            have b2 := congrArg List.length b1
            have b3 := congrArg List.length hlt1
            simp only [linesT, List.length_append] at b2 b3
            omega
          have HQ := Lib.hid (And.intro hq hdrop)
          have HJ := Lib.hid hjlt
          have HK := Lib.hid hL1k
          have j1 : (j : Int) < wy := by omega
          obtain ⟨on, lid, asid, vp, ip, fr, p0, p1, p2, s0, s1, s2⟩ := q
          change ∀ (c : Nat) (v : Value), [Value.bool on, .int .i64 lid, .int .i64 asid, .int .u64 (vp : Nat), .int .u64 (ip : Nat), .int .i64 fr, .bool p0, .bool p1, .bool p2, .bool s0, .bool s1, .bool s2][c]? = some v → _ at hcl
          have HCL := Lib.hid hcl
          have hnb := Lib.hid (new_block wr (.cells #[Value.bool false, .int .i64 0, .int .i64 0, .int .u64 0, .int .u64 0, .int .i64 0, .bool false, .bool false, .bool false, .bool false, .bool false, .bool false] 120))
          clear hj hL1 hO1 hlt1 hjn hq hdrop hcl hL1k hjlt
          go_upto_region 8 with (first | (refine wpList_load_at rfl 120 _ rfl b (j * 12) rfl _ _ HCL.out Try.underlying120 rfl (by kernel_rfl) ?_) | (refine wpList_store_at rfl 120 _ _ rfl wr.heap.size 0 [Value.bool on, .int .i64 lid, .int .i64 asid, .int .u64 (vp : Nat), .int .u64 (ip : Nat), .int .i64 fr, .bool p0, .bool p1, .bool p2, .bool s0, .bool s1, .bool s2] rfl rfl 120 _ hnb.out (by kernel_rfl) (Nat.le_of_eq rfl) (by intro v hv; simp only [List.mem_cons, List.not_mem_nil, or_false] at hv; rcases hv with rfl | rfl | rfl | rfl | rfl | rfl | rfl | rfl | rfl | rfl | rfl | rfl <;> rfl) ?_))
          have hO4 := old_put (old_alloc (old_refl wr) (.cells #[Value.bool false, .int .i64 0, .int .i64 0, .int .u64 0, .int .u64 0, .int .i64 0, .bool false, .bool false, .bool false, .bool false, .bool false, .bool false] 120)) (.cells #[Value.bool on, .int .i64 lid, .int .i64 asid, .int .u64 (vp : Nat), .int .u64 (ip : Nat), .int .i64 fr, .bool p0, .bool p1, .bool p2, .bool s0, .bool s1, .bool s2] 120) (Nat.le_refl wr.heap.size)
          have hn4 : (putB (wr.alloc (.cells #[Value.bool false, .int .i64 0, .int .i64 0, .int .u64 0, .int .u64 0, .int .i64 0, .bool false, .bool false, .bool false, .bool false, .bool false, .bool false] 120)) wr.heap.size (.cells #[Value.bool on, .int .i64 lid, .int .i64 asid, .int .u64 (vp : Nat), .int .u64 (ip : Nat), .int .i64 fr, .bool p0, .bool p1, .bool p2, .bool s0, .bool s1, .bool s2] 120)).heap[wr.heap.size]? = some (.cells #[Value.bool on, .int .i64 lid, .int .i64 asid, .int .u64 (vp : Nat), .int .u64 (ip : Nat), .int .i64 fr, .bool p0, .bool p1, .bool p2, .bool s0, .bool s1, .bool s2] 120) := putB_same _ (by rw [World.size_alloc]; omega)
          show Code.wp _ _ _ _ (putB (wr.alloc (.cells #[Value.bool false, .int .i64 0, .int .i64 0, .int .u64 0, .int .u64 0, .int .i64 0, .bool false, .bool false, .bool false, .bool false, .bool false, .bool false] 120)) wr.heap.size (.cells #[Value.bool on, .int .i64 lid, .int .i64 asid, .int .u64 (vp : Nat), .int .u64 (ip : Nat), .int .i64 fr, .bool p0, .bool p1, .bool p2, .bool s0, .bool s1, .bool s2] 120))
          generalize putB (wr.alloc (.cells #[Value.bool false, .int .i64 0, .int .i64 0, .int .u64 0, .int .u64 0, .int .i64 0, .bool false, .bool false, .bool false, .bool false, .bool false, .bool false] 120)) wr.heap.size (.cells #[Value.bool on, .int .i64 lid, .int .i64 asid, .int .u64 (vp : Nat), .int .u64 (ip : Nat), .int .i64 fr, .bool p0, .bool p1, .bool p2, .bool s0, .bool s1, .bool s2] 120) = x5 at *
          generalize wr.heap.size = nb at *
          have HO5 := Lib.hid (old_then HO1.out hO4)
          have HL5 := Lib.hid (own_old HL1.out hO4)
          have HN5 := Lib.hid hn4
          obtain ⟨k5, _, _⟩ := of_block hn4
          have hnl : ∀ (c : Nat) (v : Value), [Value.int .i64 lid, .int .i64 asid, .int .u64 (vp : Nat), .int .u64 (ip : Nat), .int .i64 fr, .bool p0, .bool p1, .bool p2, .bool s0, .bool s1, .bool s2][c]? = some v → x5.cell? ⟨nb, 1 + c, none⟩ = some v := fun c v hv => by
            rw [Nat.add_comm]
            exact (k5 (c + 1)).trans (by simpa using hv)
          have HNL := Lib.hid hnl
          have n0 : x5.cell? ⟨nb, 0, none⟩ = some (.bool on) := k5 0
          clear hO4 hn4 hnb HCL k5 hnl
          cases on
          case false =>
            go_wp2
            go_roundw
            case rel =>
              refine ⟨j + 1, L1, HJ.out, by simp, HL5.out, HO5.out, ?_⟩
              rw [← HLT1.out, HQ.out.2]
              simp [linesP]
            case measure => have := HJ.out; (simp [intOf]) <;> omega
          case true =>
            obtain ⟨v', w5, hrun, hown5, hgr⟩ := line_append w.heap.size x5 _ L1 ⟨lid, asid, vp, ip, fr, p0, p1, p2, s0, s1, s2⟩ (by have := HK.out; omega) HO5.out.size HL5.out
            have HA := Lib.hid (And.intro hown5 hgr)
            clear hown5 hgr
            go_wp2_with (first | (refine wpList_load_at rfl 64 _ rfl nb 1 rfl [Value.int .i64 lid, .int .i64 asid, .int .u64 (vp : Nat), .int .u64 (ip : Nat), .int .i64 fr, .bool p0, .bool p1, .bool p2, .bool s0, .bool s1, .bool s2] _ HNL.out Try.underlying64 rfl (by kernel_rfl) ?_) | (at_builtin; refine wpList_append_run rfl _ _ 59 rfl _ _ rfl rfl _ _ hrun ?_; clear hrun))
            go_roundw
            case rel =>
              have hO6 : Old w w5 := Only.below ((Only.of_below HO5.out).mono (G := fun b => w.heap.size ≤ b) (fun _ _ f => f.elim) |>.trans HA.out.2) (Nat.le_refl _)
              refine ⟨j + 1, L1 ++ [⟨lid, asid, vp, ip, fr, p0, p1, p2, s0, s1, s2⟩], HJ.out, by simp, HA.out.1, hO6, ?_⟩
              rw [← HLT1.out, HQ.out.2]
              simp [linesP]
            case measure => have := HJ.out; (simp [intOf]) <;> omega
end
end Go.Proofs.Ytfiofjalpaeohaa
