/- The statements of layer 6: what all of them use: told. -/
import Derived.Test.YtfiofjalpaeohaaMemAll
namespace Go.Proofs.Ytfiofjalpaeohaa
set_option linter.unusedVariables false
set_option linter.unusedSimpArgs false
open Go.RowKit

theorem old_not {w x y : World} {X : Nat → Prop} (h : Old w x) (ho : Only (fun b => ¬ X b) x y) (hX : ∀ b, b < w.heap.size → X b) : Old w y :=
  ⟨ho.os.trans h.os, ho.tape.trans h.tape, ho.output.trans h.output, Nat.le_trans h.size ho.size, fun k hk => by
    rw [ho.block k (Nat.lt_of_lt_of_le hk h.size) (fun f => f (hX k hk))]; exact h.block k hk⟩

theorem disk_lt {w : World} {X : Nat → Prop} {p slots : Nat} {pg : Int → Option (List Nat)} {F : List Bool} (h : IsDisk w X p slots pg F) : p < w.heap.size := by
  obtain ⟨m, f, fv, h1, _⟩ := h
  exact lt_of_block h1

/-- Blocks that are not the disk's: those that were there, and one more. -/
def Not1 (B c : Nat) (b : Nat) : Prop := b < B ∨ b = c
def Not0 (B : Nat) (b : Nat) : Prop := b < B

theorem page9_length : (zeros4096.set 9 7).length = 4096 := by rw [List.length_set]; exact zeros4096_length
theorem zeros4096_get (k : Nat) (h : k < 4096) : zeros4096[k]? = some 0 := by
  unfold zeros4096
  rw [List.getElem?_replicate, if_pos h]

/-- One slot, taken. -/
def pgOne (l : List Nat) : Int → Option (List Nat) := updP (fun _ => none) 0 (some l)
theorem pgOne_cnt (l : List Nat) : cntOf (pgOne l) 1 = 1 := by
  show 0 + (if (pgOne l (0 : Nat)).isSome then 1 else 0) = 1
  unfold pgOne updP
  rfl
theorem pgOne_upd (l m : List Nat) : updP (pgOne l) 0 (some m) = pgOne m := by
  funext y
  unfold pgOne updP
  by_cases h : y = 0
  · rw [if_pos h, if_pos h]
  · rw [if_neg h, if_neg h, if_neg h]

set_option maxHeartbeats 4000000 in
set_option maxRecDepth 100000 in
theorem diskTold_calls (w : World) : Calls Try.prog 28 #[] w (RetB w (.bool true)) := by
  go_enter Try.func28, Try.ntmps28
  have ht : Calls Try.prog 12 #[.int .i64 1] w fun e w' =>
    e = .returned (.tuple #[.pointer (some ⟨w.heap.size + 1, 0, none⟩), .int .i64 0]) ∧ Old w w' ∧ w'.heap.size = w.heap.size + 2 ∧ ∀ X : Nat → Prop, (∀ b, X b → b < w.heap.size) → IsDisk w' X (w.heap.size + 1) 1 (fun _ => none) [] := diskNew_calls 1 w (by decide)
  go_wp2_with fail
  (with_reducible refine ht.mono ?_)
  rintro e w1 ⟨rfl, hO, hsz, hd⟩
  replace hd := hd (Not0 w.heap.size) (fun b h => h)
  clear ht
  generalize hp : w.heap.size + 1 = p at *
  have Hp := Lib.hid hp
  clear hp
  go_wp2_with fail
  (with_reducible refine (diskNew_none 4097 _ (by decide)).mono ?_)
  rintro e w2 ⟨rfl, hb⟩
  replace hd := disk_old hd hb
  replace hO := old_then hO hb
  clear hb hsz
  have ht : Calls Try.prog 14 #[.pointer (some ⟨p, 0, none⟩)] w2 (RetDisk w2 (Not0 w.heap.size) p 1 (.tuple #[.int .i64 0, .int .i64 0]) (pgOne zeros4096) []) :=
    take_ok _ p 1 _ _ 0 _ hd (fun b h => Nat.lt_of_lt_of_le h hO.size) (by decide) rfl (fun j hj => by omega)
  clear hd
  go_wp2_with fail
  (with_reducible refine ht.mono ?_)
  rintro e w3 ⟨rfl, hd, ho⟩
  replace hO := old_not hO ho (fun b h => h)
  clear ht ho
  have ht := take_full _ p 1 _ _ _ hd (pgOne_cnt _)
  clear hd
  go_wp2_with fail
  (with_reducible refine ht.mono ?_)
  rintro e w4 ⟨rfl, hd, ho⟩
  replace hO := old_not hO ho (fun b h => h)
  clear ht ho
  have hoA := old_alloc (old_refl w4) (.cells #[.bool true] 4)
  have ht : Calls Try.prog 23 #[.pointer (some ⟨p, 0, none⟩), .slice (some ⟨w4.heap.size, 0, none⟩) 1 1] (w4.alloc (.cells #[.bool true] 4)) (RetDisk (w4.alloc (.cells #[.bool true] 4)) (Not0 w.heap.size) p 1 (.tuple #[]) (pgOne zeros4096) [true]) :=
    fail_calls _ p 1 _ _ (some ⟨w4.heap.size, 0, none⟩) [true] 1 _ (disk_old hd hoA) (fun b h => Nat.lt_of_lt_of_le h (Nat.le_trans hO.size hoA.size))
      ⟨Nat.le_refl _, by decide, (fun e => by cases e), fun k x hx => by
        have hk := (List.getElem?_eq_some_iff.1 hx).1
        obtain rfl : k = 0 := by simp at hk; exact hk
        obtain rfl : true = x := Option.some.inj hx
        exact ⟨_, 0, rfl, lt_of_block (new_block w4 _), by rw [cell_of (new_block w4 _)]; rfl⟩⟩ (by decide)
  replace hO := old_then hO hoA
  clear hd hoA
  go_wp2_with fail
  (with_reducible refine ht.mono ?_)
  rintro e w5 ⟨rfl, hd, ho⟩
  replace hO := old_not hO ho (fun b h => h)
  clear ht ho
  obtain ⟨w6, hmk, hrow, hO6⟩ := make_page w5
  have hge := hO.size
  have hne : w5.heap.size ≠ p := Nat.ne_of_gt (disk_lt hd)
  replace hO := old_then hO hO6
  replace hd := disk_old (disk_more hd (Y := Not1 w.heap.size w5.heap.size) (fun b h => h.elim .inl (fun e => .inr (by rw [e]; exact Nat.le_refl _)))) hO6
  have hpg : w5.heap.size < w6.heap.size := (row_parts hrow).2.1
  have ck : w6.cell? ⟨w5.heap.size, 9, none⟩ = some (.int .u8 0) := row_cell hrow (zeros4096_get 9 (by decide))
  have fk := row_frozen hrow 9
  have hrow7 : Row (w6.setCell ⟨w5.heap.size, 9, none⟩ (.int .u8 7)) w5.heap.size w5.heap.size 4096 (zeros4096.set 9 7) := row_set hrow 9 7 (by decide)
  have hO7 := (Only.refl (fun b => b = w5.heap.size) w6).setCell ⟨w5.heap.size, 9, none⟩ (.int .u8 7) (fun _ => rfl)
  replace hO := old_set hO hge 9 (.int .u8 7)
  replace hd := disk_only hd hO7 (fun b hb e => hb (.inr e))
  generalize hW : w6.setCell ⟨w5.heap.size, 9, none⟩ (.int .u8 7) = W at *
  clear hrow hO7 hO6
  have hX : ∀ b, Not1 w.heap.size w5.heap.size b → b < W.heap.size := fun b h => h.elim (fun h => Nat.lt_of_lt_of_le h hO.size) (fun h => by rw [h]; exact (row_parts hrow7).2.1)
  have ht : Calls Try.prog 19 #[.pointer (some ⟨p, 0, none⟩), .int .i64 0, .slice (some ⟨w5.heap.size, 0, none⟩) 4096 4096] W (RetDisk W (Not1 w.heap.size w5.heap.size) p 1 (.int .i64 13) (pgOne zeros4096) []) :=
    write_fail _ p 1 _ [true] 0 zeros4096 _ _ W hd rfl rfl
  clear hd
  go_wp2_with fail
  (with_reducible refine ht.mono ?_)
  rintro e w7 ⟨rfl, hd, ho⟩
  replace hO := old_not hO ho (fun b h => .inl h)
  replace hrow7 := row_only hrow7 ho (fun h => h (.inr rfl))
  replace hX : ∀ b, Not1 w.heap.size w5.heap.size b → b < w7.heap.size := fun b h => Nat.lt_of_lt_of_le (hX b h) ho.size
  clear ht ho hmk ck fk hW
  have ht : Calls Try.prog 19 #[.pointer (some ⟨p, 0, none⟩), .int .i64 0, .slice (some ⟨w5.heap.size, 0, none⟩) 4096 4096] w7 (RetDisk w7 (Not1 w.heap.size w5.heap.size) p 1 (.int .i64 0) (pgOne (zeros4096.set 9 7)) []) := by
    have := write_ok _ p 1 _ [] 0 zeros4096 (zeros4096.set 9 7) (some ⟨w5.heap.size, 0, none⟩) 4096 w7 hd hX rfl rfl (row_bytes hrow7) page9_length (fun bb off e => by cases e; exact hne)
    rw [pgOne_upd] at this
    exact this
  clear hd
  go_wp2_with fail
  (with_reducible refine ht.mono ?_)
  rintro e w8 ⟨rfl, hd, ho⟩
  replace hO := old_not hO ho (fun b h => .inl h)
  clear ht ho hrow7
  have ht : Calls Try.prog 21 #[.pointer (some ⟨p, 0, none⟩), .int .i64 0] w8 (RetRead w8 (Not1 w.heap.size w5.heap.size) p 1 (pgOne (zeros4096.set 9 7)) [] (zeros4096.set 9 7)) := read_ok _ p 1 _ [] 0 _ w8 hd rfl rfl
  clear hd
  go_wp2_with fail
  (with_reducible refine ht.mono ?_)
  rintro e w9 ⟨gr, cr, rfl, hrowr, hd, ho, -⟩
  replace hO := old_not hO ho (fun b h => .inl h)
  clear ht ho
  have cr9 : w9.cell? ⟨gr, 9, none⟩ = some (.int .u8 7) := row_cell (x := 7) hrowr (List.getElem?_set_self (by rw [zeros4096_length]; decide))
  clear hrowr
  have ht : Calls Try.prog 25 #[.pointer (some ⟨p, 0, none⟩)] w9 (RetB w9 (.int .i64 0)) := by
    have := free_calls _ p 1 _ _ w9 hd
    rw [pgOne_cnt] at this
    exact this
  go_wp2_with fail
  (with_reducible refine ht.mono ?_)
  rintro e w10 ⟨rfl, hb⟩
  replace hO := old_then hO hb
  replace hd := disk_old hd hb
  clear ht hb cr9
  have ht : Calls Try.prog 16 #[.pointer (some ⟨p, 0, none⟩), .int .i64 0] w10 (RetDisk w10 (Not1 w.heap.size w5.heap.size) p 1 (.int .i64 0) (updP (pgOne (zeros4096.set 9 7)) 0 none) []) := give_some _ p 1 _ _ 0 _ w10 hd rfl
  clear hd
  go_wp2_with fail
  (with_reducible refine ht.mono ?_)
  rintro e w11 ⟨rfl, hd, ho⟩
  replace hO := old_not hO ho (fun b h => .inl h)
  clear ht ho
  have ht : Calls Try.prog 16 #[.pointer (some ⟨p, 0, none⟩), .int .i64 0] w11 (RetDisk w11 (Not1 w.heap.size w5.heap.size) p 1 (.int .i64 23) (updP (pgOne (zeros4096.set 9 7)) 0 none) []) := give_none _ p 1 _ _ 0 w11 hd rfl
  clear hd
  go_wp2_with fail
  (with_reducible refine ht.mono ?_)
  rintro e w12 ⟨rfl, hd, ho⟩
  replace hO := old_not hO ho (fun b h => .inl h)
  clear ht ho
  have ht : Calls Try.prog 27 #[.pointer (some ⟨p, 0, none⟩)] w12 (RetB w12 (.int .i64 0)) := left_calls _ p 1 _ _ w12 hd
  clear hd
  go_wp2_with fail
  (with_reducible refine ht.mono ?_)
  rintro e w13 ⟨rfl, hb⟩
  replace hO := old_then hO hb
  clear ht
  go_wp2
  go_ret
  exact ⟨rfl, hO⟩
end Go.Proofs.Ytfiofjalpaeohaa
