/- The statement DiskFails: its walk. -/
import Derived.Test.YtbnbchclbblbkaaBoolsArg
namespace Go.Proofs.Ytbnbchclbblbkaa
set_option linter.unusedVariables false
set_option linter.unusedSimpArgs false
open Go.RowKit

theorem slice_bytes (w : World) (ad : Option Addr) (n cap len : Nat) (h : n ≤ cap) : (Instr.slice 68 (.slice ad len cap) none (some (.int .i64 n)) none).run Try.prog w = .ok (.slice ad n cap) w := by
  rw [run_slice_h (P := Try.prog) w 68 ad len cap rfl .i64 n (by omega) (by omega)]
  have hs : (sizeOf (Try.prog.elem 68)).run Try.prog w = .ok 1 w := by kernel_rfl
  rw [hs]
  cases ad <;> simp [Result.andThen, sliced, Addr.add]
theorem slice_bools (w : World) (ad : Option Addr) (n cap len : Nat) (h : n ≤ cap) : (Instr.slice 59 (.slice ad len cap) none (some (.int .i64 n)) none).run Try.prog w = .ok (.slice ad n cap) w := by
  rw [run_slice_h (P := Try.prog) w 59 ad len cap rfl .i64 n (by omega) (by omega)]
  have hs : (sizeOf (Try.prog.elem 59)).run Try.prog w = .ok 1 w := by kernel_rfl
  rw [hs]
  cases ad <;> simp [Result.andThen, sliced, Addr.add]
theorem bools_take {w : World} {ad : Option Addr} {c : Nat} {l : List Bool} (h : Bools w ad c l) (n : Nat) : Bools w ad c (l.take n) := by
  refine ⟨?_, h.2.1, h.2.2.1, fun k x hx => h.2.2.2 k x ?_⟩
  · rw [List.length_take]; exact Nat.le_trans (Nat.min_le_right _ _) h.1
  · rw [List.getElem?_take] at hx
    split at hx
    · exact hx
    · cases hx

/-- The disk and a page. -/
def EAt (n p gp : Nat) (w : World) (P : List Nat) (pg : Int → Option (List Nat)) (F : List Bool) (x : World) : Prop :=
  IsDisk x (Not1 w.heap.size gp) p n pg F ∧ Row x gp gp 4096 P ∧ Old w x ∧ w.heap.size ≤ gp
section
variable {n p gp : Nat} {w x y : World} {P : List Nat} {pg pg' : Int → Option (List Nat)} {F F' : List Bool}
theorem eat_old (h : EAt n p gp w P pg F x) (ho : Old x y) : EAt n p gp w P pg F y := ⟨disk_old h.1 ho, row_old h.2.1 ho, old_then h.2.2.1 ho, h.2.2.2⟩
theorem eat_disk (h : EAt n p gp w P pg F x) (hd : IsDisk y (Not1 w.heap.size gp) p n pg' F') (ho : Only (fun b => ¬ Not1 w.heap.size gp b) x y) : EAt n p gp w P pg' F' y :=
  ⟨hd, row_only h.2.1 ho (fun f => f (.inr rfl)), old_not h.2.2.1 ho (fun b hb => .inl hb), h.2.2.2⟩
theorem eat_X (h : EAt n p gp w P pg F x) : ∀ b, Not1 w.heap.size gp b → b < x.heap.size := by
  intro b hb
  rcases hb with hb | rfl
  · exact Nat.lt_of_lt_of_le hb h.2.2.1.size
  · exact (row_parts h.2.1).2.1
theorem eat_gp (h : EAt n p gp w P pg F x) : gp ≠ p := by
  intro e
  obtain ⟨m, f, fv, _, h2, _⟩ := h.1
  exact h2 (.inr e.symm)
theorem eat_write (h : EAt n p gp w P pg F x) (k : Int) (l : List Nat) (hk : pg k = some l) (hF : F.headD false = false) (hP : P.length = 4096) :
    Calls Try.prog 40 #[.pointer (some ⟨p, 0, none⟩), .int .i64 k, .slice (some ⟨gp, 0, none⟩) 4096 4096] x (fun e y => e = .returned (.int .i64 0) ∧ EAt n p gp w P (updP pg k (some P)) F.tail y) :=
  (write_ok _ p n pg F k l P (some ⟨gp, 0, none⟩) 4096 x h.1 (eat_X h) hk hF (row_bytes h.2.1) hP (fun bb off e => by cases e; exact eat_gp h)).mono fun e y hr => ⟨hr.1, eat_disk h hr.2.1 hr.2.2⟩
theorem eat_wfail (h : EAt n p gp w P pg F x) (k : Int) (l : List Nat) (hk : pg k = some l) (hF : F.headD false = true) :
    Calls Try.prog 40 #[.pointer (some ⟨p, 0, none⟩), .int .i64 k, .slice (some ⟨gp, 0, none⟩) 4096 4096] x (fun e y => e = .returned (.int .i64 13) ∧ EAt n p gp w P pg F.tail y) :=
  (write_fail _ p n pg F k l _ _ x h.1 hk hF).mono fun e y hr => ⟨hr.1, eat_disk h hr.2.1 hr.2.2⟩
theorem eat_wnone (h : EAt n p gp w P pg F x) (k : Int) (ad : Option Addr) (m c : Nat) (hk : pg k = none) :
    Calls Try.prog 40 #[.pointer (some ⟨p, 0, none⟩), .int .i64 k, .slice ad m c] x (fun e y => e = .returned (.int .i64 23) ∧ EAt n p gp w P pg F y) :=
  (write_none _ p n pg F k _ _ _ x h.1 hk).mono fun e y hr => ⟨hr.1, eat_disk h hr.2.1 hr.2.2⟩
theorem eat_warg (h : EAt n p gp w P pg F x) (k : Int) (l : List Nat) (ad : Option Addr) (m c : Nat) (hk : pg k = some l) (hm : m ≠ 4096) (hm2 : m ≤ maxLen) :
    Calls Try.prog 40 #[.pointer (some ⟨p, 0, none⟩), .int .i64 k, .slice ad m c] x (fun e y => e = .returned (.int .i64 1) ∧ EAt n p gp w P pg F y) :=
  (write_arg _ p n pg F k l _ _ _ x h.1 hk hm hm2).mono fun e y hr => ⟨hr.1, eat_disk h hr.2.1 hr.2.2⟩
theorem eat_read (h : EAt n p gp w P pg F x) (k : Int) (l : List Nat) (hk : pg k = some l) (hF : F.headD false = false) :
    Calls Try.prog 42 #[.pointer (some ⟨p, 0, none⟩), .int .i64 k] x (fun e y => ∃ g c, e = .returned (.tuple #[.slice (some ⟨g, 0, none⟩) 4096 c, .int .i64 0]) ∧ Row y x.heap.size g c l ∧ EAt n p gp w P pg F.tail y) :=
  (read_ok _ p n pg F k l x h.1 hk hF).mono fun e y ⟨g, c, hr, hrow, hd, ho, _⟩ => ⟨g, c, hr, hrow, eat_disk h hd ho⟩
theorem eat_rfail (h : EAt n p gp w P pg F x) (k : Int) (l : List Nat) (hk : pg k = some l) (hF : F.headD false = true) :
    Calls Try.prog 42 #[.pointer (some ⟨p, 0, none⟩), .int .i64 k] x (fun e y => e = .returned (.tuple #[.slice none 0 0, .int .i64 13]) ∧ EAt n p gp w P pg F.tail y) :=
  (read_fail _ p n pg F k l x h.1 hk hF).mono fun e y hr => ⟨hr.1, eat_disk h hr.2.1 hr.2.2⟩
theorem eat_rnone (h : EAt n p gp w P pg F x) (k : Int) (hk : pg k = none) :
    Calls Try.prog 42 #[.pointer (some ⟨p, 0, none⟩), .int .i64 k] x (fun e y => e = .returned (.tuple #[.slice none 0 0, .int .i64 23]) ∧ EAt n p gp w P pg F y) :=
  (read_none _ p n pg F k x h.1 hk).mono fun e y hr => ⟨hr.1, eat_disk h hr.2.1 hr.2.2⟩
theorem eat_gnone (h : EAt n p gp w P pg F x) (k : Int) (hk : pg k = none) :
    Calls Try.prog 37 #[.pointer (some ⟨p, 0, none⟩), .int .i64 k] x (fun e y => e = .returned (.int .i64 23) ∧ EAt n p gp w P pg F y) :=
  (give_none _ p n pg F k x h.1 hk).mono fun e y hr => ⟨hr.1, eat_disk h hr.2.1 hr.2.2⟩
theorem eat_left (h : EAt n p gp w P pg F x) : Calls Try.prog 48 #[.pointer (some ⟨p, 0, none⟩)] x (RetB x (.int .i64 F.length)) := left_calls _ p n pg F x h.1
end
end Go.Proofs.Ytbnbchclbblbkaa
