/- Layer 12: the document's walk: Give, where the word is there. -/
import Derived.Test.YtlbehhbicmmdoaaRefGive
import Derived.Test.YtlbehhbicmmdoaaWalkWay
import Derived.Test.YtlbehhbicmmdoaaStageM
import Derived.Test.YtlbehhbicmmdoaaFrame
import Derived.Deep.AppendLies
namespace Go.Proofs.Ytlbehhbicmmdoaa
set_option linter.unusedVariables false
set_option linter.unusedSimpArgs false
open Go.RowKit

/-- What a word makes of a walk. -/
def giveT (E : Int) (d : D6) (table : Nat) : Nat := if E = 0 ∧ d.k = 1 then d.a else table
def giveK (E : Int) (d : D6) (kind : Int) : Int := if E = 2 then 3 else if E ≠ 0 then 4 else if d.k = 0 then 1 else if d.k = 1 then kind else 0
def giveO (E : Int) (d : D6) : Bool := !decide (E = 0 ∧ d.k = 1)
theorem refStep_info : (Try.prog.info? 54).map (fun i => (i.zero, i.size, i.bytes)) = some (some (.agg #[.int .i64 0, .int .u64 0, .int .u64 0, .int .i64 0, .int .u64 0, .bool false, .bool false, .bool false, .int .i64 0]), 9, 56) := by kernel_rfl
theorem step_append {x : World} {B : Nat} {v : Value} {l : List St} (h : x.ownsRow B 54 9 v l.length (stCells l)) (hl : l.length ≤ 3) (hB : B ≤ x.heap.size) (s : St) :
    ∃ g cap x', (Builtin.append_ #[37, 37] 37 #[v, .slice (some ⟨x.heap.size, 0, none⟩) 1 1]).run Try.prog (x.alloc (.cells s.cells.toArray 54)) = .ok (.slice (some ⟨g, 0, none⟩) (l.length + 1) cap) x' ∧
      x'.ownsRow B 54 9 (.slice (some ⟨g, 0, none⟩) (l.length + 1) cap) (l ++ [s]).length (stCells (l ++ [s])) ∧ Only (fun b => some b = v.ownBlock) x x' := by
  obtain ⟨i0, hi, hz0, hz1, hz2⟩ := info_parts refStep_info
  have hown4 := h.alloc (.cells s.cells.toArray 54)
  have hnew := news_block x s.cells 54 x.heap.size rfl
  obtain ⟨g, cap, x', hr, ho, hgr, hl1, hl2⟩ := run_append_lies (P := Try.prog) (x.alloc (.cells s.cells.toArray 54)) 37 37 B 54 i0 _ 9 56 Try.underlying37 hi hz0 hz1 hz2 rfl (by decide) v l.length (stCells l) hown4 ⟨x.heap.size, 0, none⟩ 1 1 s.cells rfl hnew (by intro u hu; simp only [St.cells, List.mem_cons, List.not_mem_nil, or_false] at hu; rcases hu with rfl | rfl | rfl | rfl | rfl | rfl | rfl | rfl | rfl <;> rfl) (by decide) (by unfold maxLen; omega) (by omega) (by rw [World.size_alloc]; omega) _ rfl
  refine ⟨g, cap, x', hr, ?_, ?_⟩
  · rw [stCells_append, List.length_append]
    have e : stCells [s] = s.cells := by simp [stCells]
    rw [e]
    exact ho
  · exact Only.trans ((Only.refl _ x).alloc _) (grown_only hgr)
/-- The worlds of the statement that lays a step. -/
def GiveS (W3 W4 W5 W6 : World) (l : Array Bool) (y : World) : Prop :=
  y = (bif l.getD 14 false then W6 else bif l.getD 11 false then W5 else bif l.getD 10 false then W4 else W3) ∧ (l.getD 11 false = true → l.getD 10 false = true) ∧ (l.getD 14 false = true → l.getD 11 false = true) ∧ (l.getD 11 false = true → l.getD 4 false = true)
section
variable {W3 W4 W5 W6 y : World} {l : Array Bool}
theorem giveS_start (N : Nat) : GiveS W3 W4 W5 W6 (Array.replicate N false) W3 := by
  have e : ∀ k, (Array.replicate N false).getD k false = false := fun k => by simp [Array.getElem?_replicate]; split <;> rfl
  refine ⟨by rw [e, e, e]; rfl, ?_, ?_, ?_⟩ <;> (intro h; rw [e] at h; cases h)
theorem giveS_other (j : Nat) (h10 : j ≠ 10) (h11 : j ≠ 11) (h14 : j ≠ 14) (h : GiveS W3 W4 W5 W6 l y) : GiveS W3 W4 W5 W6 (l.setIfInBounds j true) y := by
  obtain ⟨a, b, c, d⟩ := h
  refine ⟨by rw [getD_set_ne false h10, getD_set_ne false h11, getD_set_ne false h14]; exact a, ?_, ?_, ?_⟩
  · rw [getD_set_ne false h11, getD_set_ne false h10]; exact b
  · rw [getD_set_ne false h14, getD_set_ne false h11]; exact c
  · rw [getD_set_ne false h11]; exact fun e => getD_set_true (d e)
theorem giveS_4 (hn : l.getD 4 false = false) (h : GiveS W3 W4 W5 W6 l y) : l.getD 14 false = false ∧ l.getD 11 false = false := by
  obtain ⟨a, b, c, d⟩ := h
  have h11 : l.getD 11 false = false := false_of fun e => by have := d e; rw [hn] at this; cases this
  exact ⟨false_of (fun e => by have := c e; rw [h11] at this; cases this), h11⟩
theorem giveS_10 {N : Nat} (hz : l.size = N) (hN : 14 < N) (hn : l.getD 10 false = false) (h : GiveS W3 W4 W5 W6 l y) : y = W3 ∧ GiveS W3 W4 W5 W6 (l.setIfInBounds 10 true) W4 := by
  obtain ⟨a, b, c, d⟩ := h
  have h11 : l.getD 11 false = false := false_of fun e => by have := b e; rw [hn] at this; cases this
  have h14 : l.getD 14 false = false := false_of fun e => by have := c e; rw [h11] at this; cases this
  have e : (l.setIfInBounds 10 true).getD 10 false = true := by simp [hz]; omega
  rw [h14, h11, hn] at a
  refine ⟨a, by rw [e, getD_set_ne false (show (10 : Nat) ≠ 11 by decide), getD_set_ne false (show (10 : Nat) ≠ 14 by decide), h11, h14]; rfl, fun _ => e, ?_, ?_⟩
  · rw [getD_set_ne false (show (10 : Nat) ≠ 14 by decide), h14]; exact fun e => by cases e
  · rw [getD_set_ne false (show (10 : Nat) ≠ 11 by decide), h11]; exact fun e => by cases e
theorem giveS_11 {N : Nat} (hz : l.size = N) (hN : 14 < N) (hn : l.getD 11 false = false) (h10 : l.getD 10 false = true) (h4 : l.getD 4 false = true) (h : GiveS W3 W4 W5 W6 l y) : y = W4 ∧ GiveS W3 W4 W5 W6 (l.setIfInBounds 11 true) W5 := by
  obtain ⟨a, b, c, d⟩ := h
  have h14 : l.getD 14 false = false := false_of fun e => by have := c e; rw [hn] at this; cases this
  have e : (l.setIfInBounds 11 true).getD 11 false = true := by simp [hz]; omega
  rw [h14, hn, h10] at a
  refine ⟨a, by rw [e, getD_set_ne false (show (11 : Nat) ≠ 14 by decide), h14]; rfl, fun _ => getD_set_true h10, ?_, fun _ => getD_set_true h4⟩
  rw [getD_set_ne false (show (11 : Nat) ≠ 14 by decide), h14]; exact fun e => by cases e
theorem giveS_14 {N : Nat} (hz : l.size = N) (hN : 14 < N) (hn : l.getD 14 false = false) (h11 : l.getD 11 false = true) (h : GiveS W3 W4 W5 W6 l y) : y = W5 ∧ GiveS W3 W4 W5 W6 (l.setIfInBounds 14 true) W6 := by
  obtain ⟨a, b, c, d⟩ := h
  have e : (l.setIfInBounds 14 true).getD 14 false = true := by simp [hz]; omega
  rw [hn, h11] at a
  exact ⟨a, by rw [e]; rfl, fun e => getD_set_true (b (by rwa [getD_set_ne false (show (14 : Nat) ≠ 11 by decide)] at e)), fun _ => getD_set_true h11, fun e => getD_set_true (d (by rwa [getD_set_ne false (show (14 : Nat) ≠ 11 by decide)] at e))⟩
theorem giveS_cell (h : GiveS W3 W4 W5 W6 l y) {P : World → Prop} (h3 : P W3) (h4 : P W4) (h5 : P W5) (h6 : P W6) : P y := by
  rw [h.1]
  cases l.getD 14 false <;> cases l.getD 11 false <;> cases l.getD 10 false <;> assumption
theorem giveS_cell5 (hn : l.getD 14 false = false) (h : GiveS W3 W4 W5 W6 l y) {P : World → Prop} (h3 : P W3) (h4 : P W4) (h5 : P W5) : P y := by
  rw [h.1, hn]
  cases l.getD 11 false <;> cases l.getD 10 false <;> assumption
end
theorem isW_next {x : World} {B p : Nat} {st : Int} {table t' addr : Nat} {v : Value} {l : List St} {kind : Int} {over o : Bool} (h : IsW x B p st table addr v l kind over) :
    (∀ i, x.frozen? ⟨p, i, none⟩ = false) ∧ (∀ i, (putB x p (.cells (wC st t' addr v kind over) 39)).frozen? ⟨p, i, none⟩ = false) ∧
    x.setCell ⟨p, 1, none⟩ (.int .u64 (t' : Nat)) = putB x p (.cells (wC st t' addr v kind over) 39) ∧
    (putB x p (.cells (wC st t' addr v kind over) 39)).setCell ⟨p, 5, none⟩ (.bool o) = putB (putB x p (.cells (wC st t' addr v kind over) 39)) p (.cells (wC st t' addr v kind o) 39) ∧
    (∀ i, x.cell? ⟨p, i, none⟩ = (wC st table addr v kind over)[i]?) ∧ (∀ i, (putB x p (.cells (wC st t' addr v kind over) 39)).cell? ⟨p, i, none⟩ = (wC st t' addr v kind over)[i]?) ∧
    IsW (putB (putB x p (.cells (wC st t' addr v kind over) 39)) p (.cells (wC st t' addr v kind o) 39)) B p st t' addr v l kind o ∧ Only (fun b => b = p) x (putB (putB x p (.cells (wC st t' addr v kind over) 39)) p (.cells (wC st t' addr v kind o) 39)) := by
  have hlt := lt_of_block h.hp
  have h1 : (putB x p (.cells (wC st t' addr v kind over) 39)).heap[p]? = some (.cells (wC st t' addr v kind over) 39) := putB_same _ hlt
  have ho : Only (fun b => b = p) x (putB (putB x p (.cells (wC st t' addr v kind over) 39)) p (.cells (wC st t' addr v kind o) 39)) := ((Only.refl (fun b => b = p) x).putB _ (fun _ => rfl)).putB _ (fun _ => rfl)
  refine ⟨frozen_of h.hp, frozen_of h1, by rw [set_of h.hp]; rfl, by rw [set_of h1]; rfl, cell_of h.hp, cell_of h1, ?_, ho⟩
  exact { hp := putB_same _ (lt_of_block h1), own := own_keep h.own ho (fun b hb e => by have := (h.own.lt b hb).1; have := h.pB; omega), pB := h.pB, xB := Nat.le_trans h.xB ho.size }

set_option maxHeartbeats 16000000 in
set_option maxRecDepth 100000 in
theorem give_yes {x : World} {B p : Nat} {st : Int} {table addr : Nat} {v : Value} {l : List St} {kind : Int} (h : IsW x B p st table addr v l kind false) (haddr : addr < 18446744073709551616) (hl : l.length ≤ 3) (a : Nat) (ha : a < 18446744073709551616) :
    Calls Try.prog 20 #[.pointer (some ⟨p, 0, none⟩), .int .u64 (a : Nat), .bool true] x (fun e y => e = .returned (.tuple #[]) ∧ (∃ v', IsW y B p st (giveT (decE st l.length a) (decD st l.length a) table) addr v' (l ++ [⟨l.length, atN table addr l.length, a, decD st l.length a⟩]) (giveK (decE st l.length a) (decD st l.length a) kind) (giveO (decE st l.length a) (decD st l.length a))) ∧ Only (fun b => b = p ∨ B ≤ b) x y) := by
  have hlast := decD_last st a
  have hkind := decD_kind st l.length a
  have hdec := fun y => refDecode_calls st (l.length : Nat) a y ha
  simp only [decD_v] at hdec
  obtain ⟨ad, c, rfl, -⟩ := own_value h.own
  obtain ⟨lv, hlv⟩ : ∃ lv, l.length = lv := ⟨_, rfl⟩
  obtain ⟨at_, hat⟩ : ∃ at_, atN table addr l.length = at_ := ⟨_, rfl⟩
  have HW := Lib.hid h
  have HA := Lib.hid (And.intro haddr (And.intro hl hat))
  have hp := h.hp
  rw [hlv] at hdec hkind hp ⊢
  rw [← hlv, hat]
  rw [hlv]
  have h3 : lv = 3 → (decD st lv a).k ≠ 1 := fun e => by subst e; exact hlast
  clear hlast
  generalize decD st lv a = d at *
  generalize decE st lv a = E at *
  obtain ⟨dk, da, dr, dw, dx, dS⟩ := d
  have hdec : ∀ y, Calls Try.prog 49 #[.int .i64 st, .int .i64 (lv : Nat), .int .u64 (a : Nat)] y (RetB y (.tuple #[.agg #[Value.int .i64 dk, .int .u64 (da : Nat), .bool dr, .bool dw, .bool dx, .int .i64 dS], .int .i64 E])) := hdec
  have HD := Lib.hid (And.intro hdec (And.intro hkind h3))
  have HP := Lib.hid hp
  have HLV := Lib.hid hlv
  have l3 : (lv : Int) ≤ 3 := by omega
  obtain ⟨k1, q1, z1⟩ := of_block hp
  clear h haddr hl hat hdec hkind h3 hp hlv ha
  go_enter Try.func20, Try.ntmps20
  go_upto_region 3 with (fail)
  clear k1 q1 z1
  have hatc : ∀ y, Old x y → Calls Try.prog 19 #[.pointer (some ⟨p, 0, none⟩)] y (RetB y (.int .u64 (at_ : Nat))) := fun y hy => by
    have := atW_calls (isW_old HW.out hy) HA.out.1 HA.out.2.1
    rw [HA.out.2.2] at this
    exact this
  have HAT := Lib.hid hatc
  clear hatc
  refine wp_region_walked (S := Old x) (by kernel_rfl) (by kernel_rfl) (by first | exact old_drew (old_refl _) | exact old_drew (old_drew (old_refl _))) ?_
  apply walked_cons
  · intro wS hS
    have kx := keep_old hS HP.out
    obtain ⟨k1, q1, z1⟩ := of_block kx
    have HS := Lib.hid hS
    clear kx hS
    go_wp2
    exact ⟨rfl, rfl, HS.out⟩
  · rfl
  (try simp only [Act.put, List.setIfInBounds_toArray, List.set_cons_succ, List.set_cons_zero])
  apply walked_cons
  · intro wS hS
    have kx := keep_old hS HP.out
    obtain ⟨k1, q1, z1⟩ := of_block kx
    have HS := Lib.hid hS
    have hc := HAT.out wS HS.out
    clear kx hS
    go_wp2_with fail
    (with_reducible refine hc.mono ?_)
    rintro e y9 ⟨rfl, hY⟩
    have HY := Lib.hid hY
    clear hc hY k1 q1 z1
    go_wp2
    exact ⟨rfl, rfl, old_then HS.out HY.out⟩
  · rfl
  (try simp only [Act.put, List.setIfInBounds_toArray, List.set_cons_succ, List.set_cons_zero])
  apply walked_cons
  · intro wS hS
    have kx := keep_old hS HP.out
    obtain ⟨k1, q1, z1⟩ := of_block kx
    have HS := Lib.hid hS
    clear kx hS
    go_wp2
    exact ⟨rfl, rfl, HS.out⟩
  · rfl
  (try simp only [Act.put, List.setIfInBounds_toArray, List.set_cons_succ, List.set_cons_zero])
  apply walked_cons
  · intro wS hS
    have kx := keep_old hS HP.out
    obtain ⟨k1, q1, z1⟩ := of_block kx
    have HS := Lib.hid hS
    clear kx hS
    go_wp2
    exact ⟨rfl, rfl, HS.out⟩
  · rfl
  (try simp only [Act.put, List.setIfInBounds_toArray, List.set_cons_succ, List.set_cons_zero])
  apply walked_cons
  · intro wS hS
    have kx := keep_old hS HP.out
    obtain ⟨k1, q1, z1⟩ := of_block kx
    have HS := Lib.hid hS
    clear kx hS
    go_wp2
    exact ⟨rfl, rfl, HS.out⟩
  · rfl
  (try simp only [Act.put, List.setIfInBounds_toArray, List.set_cons_succ, List.set_cons_zero])
  apply walked_cons
  · intro wS hS
    have kx := keep_old hS HP.out
    obtain ⟨k1, q1, z1⟩ := of_block kx
    have HS := Lib.hid hS
    clear kx hS
    go_wp2
    exact ⟨rfl, rfl, HS.out⟩
  · rfl
  (try simp only [Act.put, List.setIfInBounds_toArray, List.set_cons_succ, List.set_cons_zero])
  apply walked_cons
  · intro wS hS
    have kx := keep_old hS HP.out
    obtain ⟨k1, q1, z1⟩ := of_block kx
    have HS := Lib.hid hS
    clear kx hS
    go_wp2
    exact ⟨rfl, rfl, HS.out⟩
  · rfl
  (try simp only [Act.put, List.setIfInBounds_toArray, List.set_cons_succ, List.set_cons_zero])
  apply walked_cons
  · intro wS hS
    have kx := keep_old hS HP.out
    obtain ⟨k1, q1, z1⟩ := of_block kx
    have HS := Lib.hid hS
    clear kx hS
    go_wp2
    exact ⟨rfl, rfl, HS.out⟩
  · rfl
  (try simp only [Act.put, List.setIfInBounds_toArray, List.set_cons_succ, List.set_cons_zero])
  apply walked_cons
  · intro wS hS
    have kx := keep_old hS HP.out
    obtain ⟨k1, q1, z1⟩ := of_block kx
    have HS := Lib.hid hS
    clear kx hS
    go_wp2
    exact ⟨rfl, rfl, HS.out⟩
  · rfl
  (try simp only [Act.put, List.setIfInBounds_toArray, List.set_cons_succ, List.set_cons_zero])
  apply walked_nil
  intro wS hS
  have kx := keep_old hS HP.out
  obtain ⟨k1, q1, z1⟩ := of_block kx
  have hdec := HD.out.1
  have HS := Lib.hid hS
  clear hS kx
  go_wp2_with fail
  (with_reducible refine (hdec _).mono ?_)
  rintro e x5 ⟨rfl, hO5⟩
  have HO5 := Lib.hid hO5
  clear hdec hO5 k1 q1 z1
  go_upto_region 5 with (fail)
  have hO6 := old_then HS.out (old_then HO5.out (old_alloc (old_refl x5) (.cells #[Value.int .i64 dk, .int .u64 (da : Nat), .bool dr, .bool dw, .bool dx, .int .i64 dS] 48)))
  have hnb := new_block x5 (.cells #[Value.int .i64 dk, .int .u64 (da : Nat), .bool dr, .bool dw, .bool dx, .int .i64 dS] 48)
  have hnx : x.heap.size ≤ x5.heap.size := (old_then HS.out HO5.out).size
  generalize x5.alloc (.cells #[Value.int .i64 dk, .int .u64 (da : Nat), .bool dr, .bool dw, .bool dx, .int .i64 dS] 48) = Y at *
  generalize x5.heap.size = nb at *
  have hI := isW_old HW.out (old_then hO6 (old_drew (old_refl Y)))
  obtain ⟨g, cg, Z5, hrun, hown5, hon5⟩ := step_append hI.own HA.out.2.1 hI.xB ⟨lv, at_, a, ⟨dk, da, dr, dw, dx, dS⟩⟩
  have hbl : ∀ b, some b = (Value.slice ad l.length c).ownBlock → B ≤ b ∧ b < x.heap.size := fun b e => HW.out.own.lt b e.symm
  have hp5 := keep_only hon5 (fun e => by have := (hbl p e).1; have := HW.out.pB; omega) hI.hp
  have hn5 : Z5.heap[nb]? = _ := keep_only hon5 (fun e => by have := (hbl nb e).2; omega) hnb
  have h5 := of_block hp5
  rw [HLV.out] at hrun hp5 h5
  have hI5 : IsW Z5 B p st table addr (.slice ad lv c) [] kind false ∨ True := .inr trivial
  have HB3 := Lib.hid (And.intro hI.hp hnb)
  rw [HLV.out] at HB3
  have HB4 := Lib.hid (And.intro (keep_alloc (.cells #[Value.int .i64 (lv : Nat), .int .u64 (at_ : Nat), .int .u64 (a : Nat), .int .i64 dk, .int .u64 (da : Nat), .bool dr, .bool dw, .bool dx, .int .i64 dS] 54) HB3.out.1) (keep_alloc (.cells #[Value.int .i64 (lv : Nat), .int .u64 (at_ : Nat), .int .u64 (a : Nat), .int .i64 dk, .int .u64 (da : Nat), .bool dr, .bool dw, .bool dx, .int .i64 dS] 54) HB3.out.2))
  have HB5 := Lib.hid (And.intro hp5 hn5)
  have hne : nb ≠ p := by have := HW.out.pB; have := HW.out.xB; omega
  have HB6 := Lib.hid (And.intro (putB_same (.cells (wC st table addr (.slice (some ⟨g, 0, none⟩) (lv + 1) cg) kind false) 39) (lt_of_block hp5)) ((putB_other (.cells (wC st table addr (.slice (some ⟨g, 0, none⟩) (lv + 1) cg) kind false) 39) (fun e => hne e.symm)).trans hn5))
  have HST := Lib.hid (And.intro (show Z5.setCell ⟨p, 3, none⟩ (.slice (some ⟨g, 0, none⟩) (lv + 1) cg) = putB Z5 p (.cells (wC st table addr (.slice (some ⟨g, 0, none⟩) (lv + 1) cg) kind false) 39) by rw [set_of hp5]; rfl) (And.intro h5.1 h5.2.1))
  have HRUN := Lib.hid hrun
  have HEND := Lib.hid (And.intro hown5 (And.intro hon5 (And.intro hO6 hbl)))
  clear hO6 hnb hnx hI hrun hown5 hon5 hbl hp5 hn5 h5 hI5 hne
  refine wp_region_met (S := GiveS Y.drew (Y.drew.alloc (.cells #[Value.int .i64 (lv : Nat), .int .u64 (at_ : Nat), .int .u64 (a : Nat), .int .i64 dk, .int .u64 (da : Nat), .bool dr, .bool dw, .bool dx, .int .i64 dS] 54)) Z5 (putB Z5 p (.cells (wC st table addr (.slice (some ⟨g, 0, none⟩) (lv + 1) cg) kind false) 39))) 15 (by kernel_rfl) (by kernel_rfl) (by kernel_rfl) (by decide) (giveS_start _) ?_
  apply walkedM_cons
  · intro l9 wS hz hn hm hS
    have hS9 := giveS_other 0 (by decide) (by decide) (by decide) hS
    clear hS hm
    go_wp2
    exact ⟨rfl, rfl, hS9⟩
  · rfl
  (try simp only [Act.put, List.setIfInBounds_toArray, List.set_cons_succ, List.set_cons_zero])
  apply walkedM_cons
  · intro l9 wS hz hn hm hS
    have hS9 := giveS_other 1 (by decide) (by decide) (by decide) hS
    clear hS hm
    go_wp2
    exact ⟨rfl, rfl, hS9⟩
  · rfl
  (try simp only [Act.put, List.setIfInBounds_toArray, List.set_cons_succ, List.set_cons_zero])
  apply walkedM_cons
  · intro l9 wS hz hn hm hS
    have hS9 := giveS_other 2 (by decide) (by decide) (by decide) hS
    clear hS hm
    go_wp2
    exact ⟨rfl, rfl, hS9⟩
  · rfl
  (try simp only [Act.put, List.setIfInBounds_toArray, List.set_cons_succ, List.set_cons_zero])
  apply walkedM_cons
  · intro l9 wS hz hn hm hS
    have hS9 := giveS_other 3 (by decide) (by decide) (by decide) hS
    clear hS hm
    go_wp2
    exact ⟨rfl, rfl, hS9⟩
  · rfl
  (try simp only [Act.put, List.setIfInBounds_toArray, List.set_cons_succ, List.set_cons_zero])
  apply walkedM_cons
  · intro l9 wS hz hn hm hS
    have hS9 := giveS_other 4 (by decide) (by decide) (by decide) hS
    have hb := giveS_cell5 (giveS_4 hn hS).1 hS (P := fun y => y.heap[p]? = _) HB3.out.1 HB4.out.1 HB5.out.1
    obtain ⟨k1, q1, z1⟩ := of_block hb
    clear hb
    clear hS hm
    go_wp2
    exact ⟨rfl, rfl, hS9⟩
  · rfl
  (try simp only [Act.put, List.setIfInBounds_toArray, List.set_cons_succ, List.set_cons_zero])
  apply walkedM_cons
  · intro l9 wS hz hn hm hS
    have hS9 := giveS_other 5 (by decide) (by decide) (by decide) hS
    clear hS hm
    go_wp2
    exact ⟨rfl, rfl, hS9⟩
  · rfl
  (try simp only [Act.put, List.setIfInBounds_toArray, List.set_cons_succ, List.set_cons_zero])
  apply walkedM_cons
  · intro l9 wS hz hn hm hS
    have hS9 := giveS_other 6 (by decide) (by decide) (by decide) hS
    clear hS hm
    go_wp2
    exact ⟨rfl, rfl, hS9⟩
  · rfl
  (try simp only [Act.put, List.setIfInBounds_toArray, List.set_cons_succ, List.set_cons_zero])
  apply walkedM_cons
  · intro l9 wS hz hn hm hS
    have hS9 := giveS_other 7 (by decide) (by decide) (by decide) hS
    clear hS hm
    go_wp2
    exact ⟨rfl, rfl, hS9⟩
  · rfl
  (try simp only [Act.put, List.setIfInBounds_toArray, List.set_cons_succ, List.set_cons_zero])
  apply walkedM_cons
  · intro l9 wS hz hn hm hS
    have hS9 := giveS_other 8 (by decide) (by decide) (by decide) hS
    have hb := giveS_cell hS (P := fun y => y.heap[nb]? = _) HB3.out.2 HB4.out.2 HB5.out.2 HB6.out.2
    obtain ⟨k1, q1, z1⟩ := of_block hb
    clear hb
    clear hS hm
    go_wp2
    exact ⟨rfl, rfl, hS9⟩
  · rfl
  (try simp only [Act.put, List.setIfInBounds_toArray, List.set_cons_succ, List.set_cons_zero])
  apply walkedM_cons
  · intro l9 wS hz hn hm hS
    have hS9 := giveS_other 9 (by decide) (by decide) (by decide) hS
    clear hS hm
    go_wp2
    exact ⟨rfl, rfl, hS9⟩
  · rfl
  (try simp only [Act.put, List.setIfInBounds_toArray, List.set_cons_succ, List.set_cons_zero])
  apply walkedM_cons
  · intro l9 wS hz hn hm hS
    obtain ⟨rfl, h9⟩ := giveS_10 hz (by decide) hn hS
    clear hS hm
    go_wp2
    exact ⟨rfl, rfl, h9⟩
  · rfl
  (try simp only [Act.put, List.setIfInBounds_toArray, List.set_cons_succ, List.set_cons_zero])
  apply walkedM_cons
  · intro l9 wS hz hn hm hS
    obtain ⟨rfl, h9⟩ := giveS_11 hz (by decide) hn (hm _ rfl ⟨10, .data⟩ (by simp) rfl) (hm _ rfl ⟨4, .data⟩ (by simp) rfl) hS
    clear hS hm
    refine wpList_append_run rfl _ _ 37 rfl _ _ rfl rfl _ _ HRUN.out ?_
    exact ⟨rfl, rfl, h9⟩
  · rfl
  (try simp only [Act.put, List.setIfInBounds_toArray, List.set_cons_succ, List.set_cons_zero])
  apply walkedM_cons
  · intro l9 wS hz hn hm hS
    have hS9 := giveS_other 12 (by decide) (by decide) (by decide) hS
    clear hS hm
    go_wp2
    exact ⟨rfl, rfl, hS9⟩
  · rfl
  (try simp only [Act.put, List.setIfInBounds_toArray, List.set_cons_succ, List.set_cons_zero])
  apply walkedM_cons
  · intro l9 wS hz hn hm hS
    have hS9 := giveS_other 13 (by decide) (by decide) (by decide) hS
    clear hS hm
    go_wp2
    exact ⟨rfl, rfl, hS9⟩
  · rfl
  (try simp only [Act.put, List.setIfInBounds_toArray, List.set_cons_succ, List.set_cons_zero])
  apply walkedM_cons
  · intro l9 wS hz hn hm hS
    obtain ⟨rfl, h9⟩ := giveS_14 hz (by decide) hn (hm _ rfl ⟨11, .data⟩ (by simp) rfl) hS
    obtain ⟨s1, s2, s3⟩ := HST.out
    clear hS hm
    go_wp2
    exact ⟨rfl, rfl, h9⟩
  · rfl
  (try simp only [Act.put, List.setIfInBounds_toArray, List.set_cons_succ, List.set_cons_zero])
  apply walkedM_nil
  intro l9 wS hz hall hS
  have e14 := hall 14 (by decide)
  obtain ⟨e, -, -, -⟩ := hS
  rw [e14] at e
  have e2 : wS = putB Z5 p (.cells (wC st table addr (.slice (some ⟨g, 0, none⟩) (lv + 1) cg) kind false) 39) := e
  clear e
  subst e2
  clear hz hall e14
  have hp6 := HB6.out.1
  have hn6 := HB6.out.2
  have hw6 : Only (fun b => b = p) Z5 (putB Z5 p (.cells (wC st table addr (.slice (some ⟨g, 0, none⟩) (lv + 1) cg) kind false) 39)) := (Only.refl _ Z5).putB _ (fun _ => rfl)
  have hown5 := HEND.out.1
  rw [HLV.out] at hown5
  have hI6 : IsW (putB Z5 p (.cells (wC st table addr (.slice (some ⟨g, 0, none⟩) (lv + 1) cg) kind false) 39)) B p st table addr (.slice (some ⟨g, 0, none⟩) (lv + 1) cg) (l ++ [⟨lv, at_, a, ⟨dk, da, dr, dw, dx, dS⟩⟩]) kind false :=
    { hp := hp6, own := own_keep hown5 hw6 (fun b hb e => by have := (hown5.lt b hb).1; have := HW.out.pB; omega), pB := HW.out.pB, xB := Nat.le_trans HW.out.xB (Nat.le_trans HEND.out.2.2.1.size (Nat.le_trans HEND.out.2.1.size hw6.size)) }
  have hO6 : Only (fun b => b = p ∨ B ≤ b) x (putB Z5 p (.cells (wC st table addr (.slice (some ⟨g, 0, none⟩) (lv + 1) cg) kind false) 39)) :=
    ((Only.of_below (old_then HEND.out.2.2.1 (old_drew (old_refl Y)))).mono (fun b _ f => f.elim)).trans ((HEND.out.2.1.mono fun b _ e => .inr (HEND.out.2.2.2 b e).1).trans (hw6.mono fun b _ e => .inl e))
  generalize putB Z5 p (.cells (wC st table addr (.slice (some ⟨g, 0, none⟩) (lv + 1) cg) kind false) 39) = Z6 at *
  have HI6 := Lib.hid hI6
  have HN6 := Lib.hid hn6
  have HO6 := Lib.hid hO6
  clear hp6 hn6 hw6 hown5 hI6 hO6
  show wpList _ _ _ [] _ _
  by_cases hE2 : E = 2
  · subst hE2
    obtain ⟨f0, f1, s4, s5, k0, k1, hI, hO⟩ := isW_end (k := 3) (o := true) HI6.out
    obtain ⟨k2, q2, z2⟩ := of_block HN6.out
    have HF := Lib.hid (And.intro hI hO)
    clear hI hO
    go_wp2
    first | (refine bodyPost_end (v := .tuple #[]) (by first | rfl | kernel_rfl) rfl ?_) | (refine bodyPost_ret (v := .tuple #[]) (by first | rfl | kernel_rfl) rfl ?_)
    have eT : giveT 2 (⟨dk, da, dr, dw, dx, dS⟩ : D6) table = table := by simp [giveT]
    have eK : giveK 2 (⟨dk, da, dr, dw, dx, dS⟩ : D6) kind = 3 := by simp [giveK]
    have eO : giveO 2 (⟨dk, da, dr, dw, dx, dS⟩ : D6) = true := by simp [giveO]
    rw [eT, eK, eO]
    exact ⟨rfl, ⟨_, HF.out.1⟩, HO6.out.trans (HF.out.2.mono fun b _ e => .inl e)⟩
  · by_cases hE0 : E = 0
    · subst hE0
      clear hE2
      by_cases hk0 : dk = 0
      · subst hk0
        obtain ⟨f0, f1, s4, s5, k0, k1, hI, hO⟩ := isW_end (k := 1) (o := true) HI6.out
        obtain ⟨k2, q2, z2⟩ := of_block HN6.out
        have HF := Lib.hid (And.intro hI hO)
        clear hI hO
        go_wp2
        first | (refine bodyPost_end (v := .tuple #[]) (by first | rfl | kernel_rfl) rfl ?_) | (refine bodyPost_ret (v := .tuple #[]) (by first | rfl | kernel_rfl) rfl ?_)
        have eT : giveT 0 (⟨0, da, dr, dw, dx, dS⟩ : D6) table = table := by simp [giveT]
        have eK : giveK 0 (⟨0, da, dr, dw, dx, dS⟩ : D6) kind = 1 := by simp [giveK]
        have eO : giveO 0 (⟨0, da, dr, dw, dx, dS⟩ : D6) = true := by simp [giveO]
        rw [eT, eK, eO]
        exact ⟨rfl, ⟨_, HF.out.1⟩, HO6.out.trans (HF.out.2.mono fun b _ e => .inl e)⟩
      · by_cases hk1 : dk = 1
        · subst hk1
          have h33 := HD.out.2.2
          have hb3 : ((lv : Int) == 3) = false := by simp; exact fun e => h33 (by omega) rfl
          clear h33 hk0
          obtain ⟨f0, f1, s4, s5, k0, k1, hI, hO⟩ := isW_next (t' := da) (o := false) HI6.out
          obtain ⟨k2, q2, z2⟩ := of_block HN6.out
          have HF := Lib.hid (And.intro hI hO)
          clear hI hO
          go_wp2
          first | (refine bodyPost_end (v := .tuple #[]) (by first | rfl | kernel_rfl) rfl ?_) | (refine bodyPost_ret (v := .tuple #[]) (by first | rfl | kernel_rfl) rfl ?_)
          have eT : giveT 0 (⟨1, da, dr, dw, dx, dS⟩ : D6) table = da := by simp [giveT]
          have eK : giveK 0 (⟨1, da, dr, dw, dx, dS⟩ : D6) kind = kind := by simp [giveK]
          have eO : giveO 0 (⟨1, da, dr, dw, dx, dS⟩ : D6) = false := by simp [giveO]
          rw [eT, eK, eO]
          exact ⟨rfl, ⟨_, HF.out.1⟩, HO6.out.trans (HF.out.2.mono fun b _ e => .inl e)⟩
        · have hb0 : (dk == 0) = false := by simp [hk0]
          have hb1 : (dk == 1) = false := by simp [hk1]
          have HKK := Lib.hid (And.intro hk0 hk1)
          clear hk0 hk1
          obtain ⟨f0, f1, s4, s5, k0, k1, hI, hO⟩ := isW_end (k := 0) (o := true) HI6.out
          obtain ⟨k2, q2, z2⟩ := of_block HN6.out
          have HF := Lib.hid (And.intro hI hO)
          clear hI hO
          go_wp2
          first | (refine bodyPost_end (v := .tuple #[]) (by first | rfl | kernel_rfl) rfl ?_) | (refine bodyPost_ret (v := .tuple #[]) (by first | rfl | kernel_rfl) rfl ?_)
          have eT : giveT 0 (⟨dk, da, dr, dw, dx, dS⟩ : D6) table = table := by simp [giveT, HKK.out.1, HKK.out.2]
          have eK : giveK 0 (⟨dk, da, dr, dw, dx, dS⟩ : D6) kind = 0 := by simp [giveK, HKK.out.1, HKK.out.2]
          have eO : giveO 0 (⟨dk, da, dr, dw, dx, dS⟩ : D6) = true := by simp [giveO, HKK.out.1, HKK.out.2]
          rw [eT, eK, eO]
          exact ⟨rfl, ⟨_, HF.out.1⟩, HO6.out.trans (HF.out.2.mono fun b _ e => .inl e)⟩
    · have hb2 : (E == 2) = false := by simp [hE2]
      have hb0 : (E == 0) = false := by simp [hE0]
      have HEE := Lib.hid (And.intro hE2 hE0)
      clear hE2 hE0
      obtain ⟨f0, f1, s4, s5, k0, k1, hI, hO⟩ := isW_end (k := 4) (o := true) HI6.out
      obtain ⟨k2, q2, z2⟩ := of_block HN6.out
      have HF := Lib.hid (And.intro hI hO)
      clear hI hO
      go_wp2
      first | (refine bodyPost_end (v := .tuple #[]) (by first | rfl | kernel_rfl) rfl ?_) | (refine bodyPost_ret (v := .tuple #[]) (by first | rfl | kernel_rfl) rfl ?_)
      have eT : giveT E (⟨dk, da, dr, dw, dx, dS⟩ : D6) table = table := by simp [giveT, HEE.out.1, HEE.out.2]
      have eK : giveK E (⟨dk, da, dr, dw, dx, dS⟩ : D6) kind = 4 := by simp [giveK, HEE.out.1, HEE.out.2]
      have eO : giveO E (⟨dk, da, dr, dw, dx, dS⟩ : D6) = true := by simp [giveO, HEE.out.1, HEE.out.2]
      rw [eT, eK, eO]
      exact ⟨rfl, ⟨_, HF.out.1⟩, HO6.out.trans (HF.out.2.mono fun b _ e => .inl e)⟩

end Go.Proofs.Ytlbehhbicmmdoaa

