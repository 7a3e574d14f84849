/- The statements of layer 5: a memory of their own; told. -/
import Derived.Test.YtfiofjalpaeohaaPhys4
namespace Go.Proofs.Ytfiofjalpaeohaa
set_option linter.unusedVariables false
set_option linter.unusedSimpArgs false
open Go.RowKit

/-- A memory that was made since w, and all that was there. -/
def MAt (w : World) (p n : Nat) (pg : Int → Option (List Nat)) (ops : Nat) (x : World) : Prop := IsMem x (fun b => b < w.heap.size) p n pg ops ∧ Old w x
section
variable {w x y : World} {p n ops ops' : Nat} {pg pg' : Int → Option (List Nat)}
theorem mat_old (h : MAt w p n pg ops x) (ho : Old x y) : MAt w p n pg ops y := ⟨mem_old h.1 ho, old_then h.2 ho⟩
theorem mat_ret {v : Value} {e : Ending} (h : MAt w p n pg ops x) (hr : RetMem x (fun b => b < w.heap.size) p n v pg' ops' e y) : e = .returned v ∧ MAt w p n pg' ops' y :=
  ⟨hr.1, hr.2.1, old_stepM h.2 hr.2.2 (fun b hb => by omega)⟩
theorem mat_read (h : MAt w p n pg ops x) (addr : Nat) (ha : addr < 18446744073709551616) (s : Int) (he : placeE n addr s = 0) (ho : ops < 4611686018427387904) :
    Calls Try.prog 48 #[.pointer (some ⟨p, 0, none⟩), .int .u64 (addr : Nat), .int .i64 s] x (fun e y => e = .returned (.tuple #[.int .u64 (wordOf pg addr s : Nat), .int .i64 0]) ∧ MAt w p n pg (ops + 1) y) :=
  (read_ok2 h.1 addr ha s he ho).mono fun e y hr => mat_ret h hr
theorem mat_readE (h : MAt w p n pg ops x) (addr : Nat) (ha : addr < 18446744073709551616) (s : Int) (E : Int) (he : placeE n addr s = E) (h0 : E ≠ 0) :
    Calls Try.prog 48 #[.pointer (some ⟨p, 0, none⟩), .int .u64 (addr : Nat), .int .i64 s] x (fun e y => e = .returned (.tuple #[.int .u64 0, .int .i64 E]) ∧ MAt w p n pg ops y) := by
  subst he
  exact (read_fail2 h.1 addr ha s h0).mono fun e y hr => ⟨hr.1, mat_old h hr.2⟩
theorem mat_write (h : MAt w p n pg ops x) (addr : Nat) (ha : addr < 18446744073709551616) (s : Int) (v : Nat) (he : placeE n addr s = 0) (ho : ops < 4611686018427387904) :
    Calls Try.prog 49 #[.pointer (some ⟨p, 0, none⟩), .int .u64 (addr : Nat), .int .i64 s, .int .u64 (v : Nat)] x (fun e y => e = .returned (.int .i64 0) ∧ MAt w p n (updP pg ((addr / 4096 : Nat) : Int) (some (wroteOf pg addr s v))) (ops + 1) y) :=
  (write_ok2 h.1 (fun b hb => Nat.lt_of_lt_of_le hb h.2.size) addr ha s v he ho).mono fun e y hr => mat_ret h hr
theorem mat_writeE (h : MAt w p n pg ops x) (addr : Nat) (ha : addr < 18446744073709551616) (s : Int) (v : Int) (E : Int) (he : placeE n addr s = E) (h0 : E ≠ 0) :
    Calls Try.prog 49 #[.pointer (some ⟨p, 0, none⟩), .int .u64 (addr : Nat), .int .i64 s, .int .u64 v] x (fun e y => e = .returned (.int .i64 E) ∧ MAt w p n pg ops y) := by
  subst he
  exact (write_fail2 h.1 addr ha s v h0).mono fun e y hr => ⟨hr.1, mat_old h hr.2⟩
theorem mat_getE (h : MAt w p n pg ops x) (k : Int) (hk : hasB n k = false) : Calls Try.prog 50 #[.pointer (some ⟨p, 0, none⟩), .int .i64 k] x (fun e y => e = .returned (.tuple #[.slice none 0 0, .int .i64 2]) ∧ MAt w p n pg ops y) :=
  (get_none2 h.1 k hk).mono fun e y hr => ⟨hr.1, mat_old h hr.2⟩
theorem mat_get (h : MAt w p n pg ops x) (k : Int) (hk : hasB n k = true) : Calls Try.prog 50 #[.pointer (some ⟨p, 0, none⟩), .int .i64 k] x
    (fun e y => ∃ g c, e = .returned (.tuple #[.slice (some ⟨g, 0, none⟩) 4096 c, .int .i64 0]) ∧ Row y x.heap.size g c (pageOf pg k) ∧ MAt w p n pg ops y) :=
  (get_page2 h.1 k hk).mono fun e y ⟨g, c, he, hr, ho⟩ => ⟨g, c, he, hr, mat_old h ho⟩
theorem mat_set (h : MAt w p n pg ops x) (k : Int) (a : Addr) (c : Nat) (l : List Nat) (hk : hasB n k = true) (hB : Bytes x (some a) c l) (hl : l.length = 4096) :
    Calls Try.prog 54 #[.pointer (some ⟨p, 0, none⟩), .int .i64 k, .slice (some a) 4096 c] x (fun e y => e = .returned (.int .i64 0) ∧ MAt w p n (updP pg k (some l)) ops y) :=
  (set_ok2 h.1 (fun b hb => Nat.lt_of_lt_of_le hb h.2.size) k a c l hk hB hl).mono fun e y hr => mat_ret h hr
theorem mat_zero (h : MAt w p n pg ops x) (k : Int) (hk : hasB n k = true) : Calls Try.prog 60 #[.pointer (some ⟨p, 0, none⟩), .int .i64 k] x (fun e y => e = .returned (.int .i64 0) ∧ MAt w p n (updP pg k none) ops y) :=
  (zero_ok2 h.1 k hk).mono fun e y hr => mat_ret h hr
theorem mat_clear (h : MAt w p n pg ops x) (k : Int) (B : Bool) (hB : (hasB n k && allZero (pageOf pg k)) = B) : Calls Try.prog 53 #[.pointer (some ⟨p, 0, none⟩), .int .i64 k] x (fun e y => e = .returned (.bool B) ∧ MAt w p n pg ops y) := by
  subst hB
  exact (clear_calls h.1 k).mono fun e y hr => ⟨hr.1, mat_old h hr.2⟩
theorem mat_same (h : MAt w p n pg ops x) (a b : Int) (B : Bool) (hB : (hasB n a && hasB n b && decide (pageOf pg a = pageOf pg b)) = B) : Calls Try.prog 55 #[.pointer (some ⟨p, 0, none⟩), .int .i64 a, .int .i64 b] x (fun e y => e = .returned (.bool B) ∧ MAt w p n pg ops y) := by
  subst hB
  exact (same_calls h.1 a b).mono fun e y hr => ⟨hr.1, mat_old h hr.2⟩
theorem mat_ops (h : MAt w p n pg ops x) : Calls Try.prog 52 #[.pointer (some ⟨p, 0, none⟩)] x (fun e y => e = .returned (.int .i64 ops) ∧ MAt w p n pg ops y) :=
  (ops_calls h.1).mono fun e y hr => ⟨hr.1, mat_old h hr.2⟩
theorem mat_frames (h : MAt w p n pg ops x) : Calls Try.prog 65 #[.pointer (some ⟨p, 0, none⟩)] x (fun e y => e = .returned (.int .i64 n) ∧ MAt w p n pg ops y) :=
  (frames_calls h.1).mono fun e y hr => ⟨hr.1, mat_old h hr.2⟩
theorem mat_new (w x : World) (n : Nat) (h1 : 1 ≤ n) (h2 : n ≤ 1048576) (hO : Old w x) : Calls Try.prog 47 #[.int .i64 n] x (fun e y => ∃ p, e = .returned (.tuple #[.pointer (some ⟨p, 0, none⟩), .int .i64 0]) ∧ MAt w p n (fun _ => none) 0 y) :=
  (physNew_calls n x h1 h2).mono fun e y ⟨he, ho, _, hm⟩ => ⟨_, he, hm _ (fun b hb => Nat.lt_of_lt_of_le hb hO.size), old_then hO ho⟩
end
theorem zeros_all : allZero zeros4096 = true := List.all_eq_true.2 (fun x hx => by
  have : x = 0 := List.eq_of_mem_replicate hx
  rw [this]; rfl)
def pgT : Int → Option (List Nat) := updP (fun _ => none) 1 (some (wroteOf (fun _ => none) 4096 2 197121))
theorem pgT_clear0 : (hasB 2 0 && allZero (pageOf pgT 0)) = true := by
  have : pageOf pgT 0 = zeros4096 := rfl
  rw [this, zeros_all]; rfl
set_option maxRecDepth 100000 in
theorem pgT_clear1 : (hasB 2 1 && allZero (pageOf pgT 1)) = false := by kernel_rfl
set_option maxRecDepth 100000 in
theorem pgT_same : (hasB 2 0 && hasB 2 1 && decide (pageOf pgT 0 = pageOf pgT 1)) = false := by kernel_rfl
theorem pgT_same2 : (hasB 2 0 && hasB 2 1 && decide (pageOf (updP pgT 1 none) 0 = pageOf (updP pgT 1 none) 1)) = true := by
  have h0 : pageOf (updP pgT 1 none) 0 = zeros4096 := rfl
  have h1 : pageOf (updP pgT 1 none) 1 = zeros4096 := rfl
  rw [h0, h1]; simp; exact ⟨rfl, rfl⟩

set_option maxHeartbeats 4000000 in
set_option maxRecDepth 100000 in
theorem told5_calls (w : World) : Calls Try.prog 51 #[] w (RetB w (.bool true)) := by
  have hn : Calls Try.prog 47 #[.int .i64 2] w (fun e y => ∃ p, e = .returned (.tuple #[.pointer (some ⟨p, 0, none⟩), .int .i64 0]) ∧ MAt w p 2 (fun _ => none) 0 y) := mat_new w w 2 (by decide) (by decide) (old_refl w)
  have hn0 := fun x => physNew_none 0 x (by decide)
  have e1 : placeE 2 4096 2 = 0 := by kernel_rfl
  have e2 : placeE 2 8192 1 = 2 := by kernel_rfl
  have e3 : placeE 2 4090 4 = 3 := by kernel_rfl
  have e4 : placeE 2 4097 1 = 0 := by kernel_rfl
  have v4 : wordOf pgT 4097 1 = 2 := by kernel_rfl
  have E1 := Lib.hid e1
  have E2 := Lib.hid e2
  have E3 := Lib.hid e3
  have E4 := Lib.hid e4
  have V4 := Lib.hid v4
  clear e1 e2 e3 e4 v4
  go_enter Try.func51, Try.ntmps51
  go_wp2_with fail
  (with_reducible refine hn.mono ?_)
  rintro e x1 ⟨p, rfl, hM⟩
  clear hn
  go_wp2_with fail
  (with_reducible refine (hn0 _).mono ?_)
  rintro e x2 ⟨rfl, hO2⟩
  have hM := mat_old hM hO2
  have hc := mat_frames hM
  clear hn0 hO2
  have HM := Lib.hid hM
  clear hM
  go_wp2_with fail
  (with_reducible refine hc.mono ?_)
  rintro e x3 ⟨rfl, hM⟩
  have hc : Calls Try.prog 49 #[.pointer (some ⟨p, 0, none⟩), .int .u64 4096, .int .i64 2, .int .u64 197121] x3 (fun e y => e = .returned (.int .i64 0) ∧ MAt w p 2 pgT 1 y) := mat_write hM 4096 (by decide) 2 197121 E1.out (by decide)
  clear hM HM
  go_wp2_with fail
  (with_reducible refine hc.mono ?_)
  rintro e x4 ⟨rfl, hM⟩
  have hc : Calls Try.prog 48 #[.pointer (some ⟨p, 0, none⟩), .int .u64 8192, .int .i64 1] x4 (fun e y => e = .returned (.tuple #[.int .u64 0, .int .i64 2]) ∧ MAt w p 2 pgT 1 y) := mat_readE hM 8192 (by decide) 1 2 E2.out (by decide)
  clear hM
  go_wp2_with fail
  (with_reducible refine hc.mono ?_)
  rintro e x5 ⟨rfl, hM⟩
  have hc : Calls Try.prog 48 #[.pointer (some ⟨p, 0, none⟩), .int .u64 4090, .int .i64 4] x5 (fun e y => e = .returned (.tuple #[.int .u64 0, .int .i64 3]) ∧ MAt w p 2 pgT 1 y) := mat_readE hM 4090 (by decide) 4 3 E3.out (by decide)
  clear hM
  go_wp2_with fail
  (with_reducible refine hc.mono ?_)
  rintro e x6 ⟨rfl, hM⟩
  have hc : Calls Try.prog 48 #[.pointer (some ⟨p, 0, none⟩), .int .u64 4097, .int .i64 1] x6 (fun e y => e = .returned (.tuple #[.int .u64 2, .int .i64 0]) ∧ MAt w p 2 pgT 2 y) := by
    have := mat_read hM 4097 (by decide) 1 E4.out (by decide)
    rw [V4.out] at this
    exact this
  clear hM
  go_wp2_with fail
  (with_reducible refine hc.mono ?_)
  rintro e x7 ⟨rfl, hM⟩
  have hc := mat_clear hM 0 true pgT_clear0
  clear hM
  go_wp2_with fail
  (with_reducible refine hc.mono ?_)
  rintro e x8 ⟨rfl, hM⟩
  have hc := mat_clear hM 1 false pgT_clear1
  clear hM
  go_wp2_with fail
  (with_reducible refine hc.mono ?_)
  rintro e x9 ⟨rfl, hM⟩
  have hc := mat_same hM 0 1 false pgT_same
  clear hM
  go_wp2_with fail
  (with_reducible refine hc.mono ?_)
  rintro e x10 ⟨rfl, hM⟩
  have hc := mat_ops hM
  clear hM
  go_wp2_with fail
  (with_reducible refine hc.mono ?_)
  rintro e x11 ⟨rfl, hM⟩
  have hc := mat_zero hM 1 (by kernel_rfl)
  clear hM
  go_wp2_with fail
  (with_reducible refine hc.mono ?_)
  rintro e x12 ⟨rfl, hM⟩
  have hc := mat_same hM 0 1 true pgT_same2
  clear hM
  go_wp2_with fail
  (with_reducible refine hc.mono ?_)
  rintro e x13 ⟨rfl, hM⟩
  have HO := Lib.hid hM.2
  clear hM hc
  go_wp2
  go_ret
  exact ⟨rfl, HO.out⟩
end Go.Proofs.Ytfiofjalpaeohaa
