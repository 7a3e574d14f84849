/- Texts on the way to the statement PhysPlays, several in one file: each part says what it is. -/
import Derived.Test.YtfiofjalpaeohaaPPA
import Derived.Test.YtfiofjalpaeohaaPPB
import Derived.Test.YtfiofjalpaeohaaPPC
import Derived.ChangeSlices
import Derived.Deep.OwnRows
import Derived.Deep.CutBlock
namespace Go.Proofs.Ytfiofjalpaeohaa
set_option linter.unusedVariables false
set_option linter.unusedSimpArgs false
open Go.RowKit
section
variable {w : World} {X : Nat → Prop} {q n ops lim : Nat} {wd : Nat → Nat}
theorem hasB_nat {n : Nat} {k : Int} (h : hasB n k = true) : ∃ f : Nat, k = f ∧ f < n := by
  unfold hasB at h
  simp at h
  exact ⟨k.toNat, by omega, by omega⟩
theorem allZero_pgOf (wd : Nat → Nat) (f : Nat) : allZero (pgOf wd f) = true ↔ ∀ x, x / 4096 = f → wd x = 0 := by
  unfold allZero pgOf
  rw [List.all_eq_true]
  constructor
  · intro h x hx
    have := h (wd (f * 4096 + x % 4096)) (List.mem_map.2 ⟨x % 4096, List.mem_range.2 (Nat.mod_lt _ (by decide)), rfl⟩)
    rw [show f * 4096 + x % 4096 = x by omega] at this
    simpa using this
  · intro h u hu
    obtain ⟨j, hj, rfl⟩ := List.mem_map.1 hu
    rw [h (f * 4096 + j) (by have := List.mem_range.1 hj; omega)]
    rfl
theorem r5clear_calls (h : IsR w X q n wd ops lim) (k : Int) :
    Calls Try.prog 63 #[.pointer (some ⟨q, 0, none⟩), .int .i64 k] w (RetB w (.bool (hasB n k && allZero (pgOf wd k.toNat)))) := by
  obtain ⟨ad, c, L, h1, -, -, -, h5⟩ := h
  have hw := r5clear_walk h1 k
  have e : (clear5B L (frW k) && hasB n k) = (hasB n k && allZero (pgOf wd k.toNat)) := by
    cases hb : hasB n k with
    | false => simp
    | true =>
      obtain ⟨f, rfl, hf⟩ := hasB_nat hb
      have hn := h1.hn
      have ef : frW (f : Int) = f := by unfold frW; rw [IntKind.wrap_u64]; omega
      rw [ef, Bool.and_true, Bool.true_and, Int.toNat_natCast]
      apply Bool.eq_iff_iff.2
      rw [allZero_pgOf]
      have h7 : wd = look5 L := funext fun x => (h5 x).symm
      rw [h7]
      have := clear5 h1.good f
      rw [← this]
      unfold clear5B
      rw [List.all_eq_true]
      constructor
      · intro h p hp; exact of_decide_eq_true (h p hp)
      · intro h p hp; exact decide_eq_true (h p hp)
  rw [e] at hw
  exact hw
set_option maxHeartbeats 4000000 in
theorem r5same_calls (h : IsR w X q n wd ops lim) (hwd : ∀ x, wd x < 256) (a b : Int) :
    Calls Try.prog 64 #[.pointer (some ⟨q, 0, none⟩), .int .i64 a, .int .i64 b] w (RetB w (.bool (hasB n a && hasB n b && decide (pgOf wd a.toNat = pgOf wd b.toNat)))) := by
  have H := Lib.hid h
  clear h
  cases ha : hasB n a with
  | false =>
    have hga := r5getE_calls H.out a ha
    have e : (false && hasB n b && decide (pgOf wd a.toNat = pgOf wd b.toNat)) = false := by simp
    rw [e]
    cases hb : hasB n b with
    | false =>
      have hgb := fun x (hx : Old w x) => r5getE_calls (isR_old H.out hx) b hb
      have HB := Lib.hid hgb
      clear hgb e ha hb
      go_enter Try.func64, Try.ntmps64
      go_wp2_with fail
      (with_reducible refine hga.mono ?_)
      rintro e w1 ⟨rfl, hb1⟩
      have hgb := HB.out _ hb1
      have HO := Lib.hid hb1
      clear hga hb1 HB
      go_wp2_with fail
      (with_reducible refine hgb.mono ?_)
      rintro e w2 ⟨rfl, hb2⟩
      have HO2 := Lib.hid (old_then HO.out hb2)
      clear hgb hb2 HO
      go_wp2
      go_ret
      exact ⟨rfl, HO2.out⟩
    | true =>
      obtain ⟨fb, rfl, hfb⟩ := hasB_nat hb
      have hgb := fun x (hx : Old w x) => r5get_calls (isR_old H.out hx) fb hfb
      have HB := Lib.hid hgb
      clear hgb e ha hb hfb
      go_enter Try.func64, Try.ntmps64
      go_wp2_with fail
      (with_reducible refine hga.mono ?_)
      rintro e w1 ⟨rfl, hb1⟩
      have hgb := HB.out _ hb1
      have HO := Lib.hid hb1
      clear hga hb1 HB
      go_wp2_with fail
      (with_reducible refine hgb.mono ?_)
      rintro e w2 ⟨g, rfl, -, hb2⟩
      have HO2 := Lib.hid (old_then HO.out hb2)
      clear hgb hb2 HO
      go_wp2
      go_ret
      exact ⟨rfl, HO2.out⟩
  | true =>
    obtain ⟨fa, rfl, hfa⟩ := hasB_nat ha
    have hga := r5get_calls H.out fa hfa
    cases hb : hasB n b with
    | false =>
      have hgb := fun x (hx : Old w x) => r5getE_calls (isR_old H.out hx) b hb
      have HB := Lib.hid hgb
      have e : (true && false && decide (pgOf wd (fa : Int).toNat = pgOf wd b.toNat)) = false := by simp
      rw [e]
      clear hgb e ha hb hfa
      go_enter Try.func64, Try.ntmps64
      go_wp2_with fail
      (with_reducible refine hga.mono ?_)
      rintro e w1 ⟨g, rfl, -, hb1⟩
      have hgb := HB.out _ hb1
      have HO := Lib.hid hb1
      clear hga hb1 HB
      go_wp2_with fail
      (with_reducible refine hgb.mono ?_)
      rintro e w2 ⟨rfl, hb2⟩
      have HO2 := Lib.hid (old_then HO.out hb2)
      clear hgb hb2 HO
      go_wp2
      go_ret
      exact ⟨rfl, HO2.out⟩
    | true =>
      obtain ⟨fb, rfl, hfb⟩ := hasB_nat hb
      have hgb := fun x (hx : Old w x) => r5get_calls (isR_old H.out hx) fb hfb
      have HB := Lib.hid hgb
      have l1 : ∀ x ∈ pgOf wd fa, x < 256 := fun x hx => by obtain ⟨j, _, rfl⟩ := List.mem_map.1 hx; exact hwd _
      have l2 : ∀ x ∈ pgOf wd fb, x < 256 := fun x hx => by obtain ⟨j, _, rfl⟩ := List.mem_map.1 hx; exact hwd _
      have e : ((strOf (pgOf wd fa)).toList == (strOf (pgOf wd fb)).toList) = decide (pgOf wd fa = pgOf wd fb) := by
        rw [str_beq]
        by_cases h : pgOf wd fa = pgOf wd fb
        · simp [h]
        · rw [decide_eq_false h, decide_eq_false (fun e => h (strOf_inj l1 l2 e))]
      have pa := pgOf_length wd fa
      have pb := pgOf_length wd fb
      rw [Int.toNat_natCast, Int.toNat_natCast, Bool.true_and, Bool.true_and]
      generalize pgOf wd fa = PA at *
      generalize pgOf wd fb = PB at *
      generalize decide (PA = PB) = D at *
      have HP := Lib.hid (And.intro pa pb)
      clear hgb ha hb hfa hfb l1 l2 hwd pa pb
      go_enter Try.func64, Try.ntmps64
      go_wp2_with fail
      (with_reducible refine hga.mono ?_)
      rintro e w1 ⟨g, rfl, hr1, hb1⟩
      have hgb := HB.out _ hb1
      have HO := Lib.hid hb1
      have HR1 := Lib.hid hr1
      clear hga hb1 HB hr1
      go_wp2_with fail
      (with_reducible refine hgb.mono ?_)
      rintro e w2 ⟨g2, rfl, hr2, hb2⟩
      have h1 := conv_bytes (row_bytes (row_old HR1.out hb2))
      have h2 := conv_bytes (row_bytes hr2)
      rw [HP.out.1] at h1
      rw [HP.out.2] at h2
      have HO2 := Lib.hid (old_then HO.out hb2)
      clear hgb hb2 HO hr2 HR1
      go_wp2
      go_ret
      exact ⟨rfl, HO2.out⟩
theorem r5readE_calls (h : IsR w X q n wd ops lim) (addr : Nat) (ha : addr < 18446744073709551616) (s : Int) (he : placeE n addr s ≠ 0) :
    Calls Try.prog 58 #[.pointer (some ⟨q, 0, none⟩), .int .u64 (addr : Nat), .int .i64 s] w (RetB w (.tuple #[.int .u64 0, .int .i64 (placeE n addr s)])) := by
  obtain ⟨ad, c, L, h1, -⟩ := h
  exact r5read_fail h1 addr ha s he
theorem r5readR_calls (h : IsR w X q n wd ops lim) (addr : Nat) (ha : addr < 18446744073709551616) (s : Nat) (he : placeE n addr (s : Int) = 0) (ho : ops ≤ 1000000) :
    Calls Try.prog 58 #[.pointer (some ⟨q, 0, none⟩), .int .u64 (addr : Nat), .int .i64 (s : Nat)] w (RetR w X q n (.tuple #[.int .u64 (word5 wd addr s : Nat), .int .i64 0]) wd (ops + 1) lim) := by
  obtain ⟨ad, c, L, h1, h2, h3, h4, h5⟩ := h
  have hc := r5read_ok h1 addr ha s he ho
  rw [show look5 L = wd from funext h5] at hc
  refine hc.mono ?_
  rintro e y ⟨rfl, hr, hO⟩
  exact ⟨rfl, ⟨ad, c, L, hr, h2, h3, h4, h5⟩, hO.mono fun b _ e => by rw [e]; exact h2⟩
theorem r5new_R (n : Nat) (w : World) (h1 : 1 ≤ n) (h2 : n ≤ 1048576) : Calls Try.prog 56 #[.int .i64 n] w (fun e y =>
    e = .returned (.tuple #[.pointer (some ⟨w.heap.size, 0, none⟩), .int .i64 0]) ∧ Old w y ∧ w.heap.size < y.heap.size ∧ ∀ X : Nat → Prop, (∀ b, X b → b < w.heap.size) → IsR y X w.heap.size n (fun _ => 0) 0 0) := by
  refine (r5new_calls n w h1 h2).mono ?_
  rintro e y ⟨rfl, hO, hr⟩
  exact ⟨rfl, hO, lt_of_block hr.hq, fun X hX => ⟨none, 0, [], hr, fun h => by have := hX _ h; omega, fun b off e => (by cases e), Nat.le_refl _, fun a => rfl⟩⟩
end
end Go.Proofs.Ytfiofjalpaeohaa
namespace Go.Proofs.Ytfiofjalpaeohaa
set_option linter.unusedVariables false
set_option linter.unusedSimpArgs false
open Go.RowKit
/-- An assertion of a world, over the blocks that it owns. -/
abbrev Asn : Type := (Nat → Prop) → World → Prop
/-- It hangs on its own blocks alone. -/
structure Loc (A : Asn) : Prop where
  lt : ∀ {O : Nat → Prop} {w : World} {b : Nat}, A O w → O b → b < w.heap.size
  keep : ∀ {O G : Nat → Prop} {w x : World}, A O w → Only G w x → (∀ b, O b → ¬ G b) → A O x
/-- Assertions that own nothing in common. -/
def SepL : List Asn → Asn
  | [] => fun O _ => ∀ b, ¬ O b
  | A :: l => fun O w => ∃ O1 O2, A O1 w ∧ SepL l O2 w ∧ (∀ b, O1 b → ¬ O2 b) ∧ (∀ b, O b ↔ O1 b ∨ O2 b)
def Locs (l : List Asn) : Prop := ∀ A ∈ l, Loc A
theorem sep_lt : ∀ {l : List Asn}, Locs l → ∀ {O : Nat → Prop} {w : World} {b : Nat}, SepL l O w → O b → b < w.heap.size
  | [], _, _, _, _, h, hb => (h _ hb).elim
  | A :: l, hl, _, _, _, ⟨O1, O2, h1, h2, _, h4⟩, hb => by
    rcases (h4 _).1 hb with h | h
    · exact (hl A (List.mem_cons_self ..)).lt h1 h
    · exact sep_lt (fun B hB => hl B (List.mem_cons_of_mem _ hB)) h2 h
theorem sep_keep : ∀ {l : List Asn}, Locs l → ∀ {O G : Nat → Prop} {w x : World}, SepL l O w → Only G w x → (∀ b, O b → ¬ G b) → SepL l O x
  | [], _, _, _, _, _, h, _, _ => h
  | A :: l, hl, _, _, _, _, ⟨O1, O2, h1, h2, h3, h4⟩, ho, hG =>
    ⟨O1, O2, (hl A (List.mem_cons_self ..)).keep h1 ho (fun b hb => hG b ((h4 b).2 (.inl hb))), sep_keep (fun B hB => hl B (List.mem_cons_of_mem _ hB)) h2 ho (fun b hb => hG b ((h4 b).2 (.inr hb))), h3, h4⟩
theorem locs_nil : Locs [] := fun _ h => (by cases h)
theorem locs_cons {A : Asn} {l : List Asn} (h : Loc A) (hl : Locs l) : Locs (A :: l) := fun B hB => by
  rcases List.mem_cons.1 hB with rfl | hB
  · exact h
  · exact hl B hB
theorem locs_set {A : Asn} {l : List Asn} (i : Nat) (h : Loc A) (hl : Locs l) : Locs (l.set i A) := fun B hB => by
  rcases List.mem_or_eq_of_mem_set hB with hB | rfl
  · exact hl B hB
  · exact h
/-- One of them turns. -/
theorem sep_turn : ∀ {l : List Asn} {i : Nat} {A : Asn}, Locs l → l[i]? = some A → ∀ {O : Nat → Prop} {w : World}, SepL l O w →
    ∃ O1, A O1 w ∧ (∀ b, O1 b → O b) ∧ ∀ (B : Asn) (O1' : Nat → Prop) (y : World), B O1' y → (∀ b, O1' b → O1 b ∨ w.heap.size ≤ b) → Only O1 w y →
      ∃ O', SepL (l.set i B) O' y ∧ (∀ b, O' b → O b ∨ w.heap.size ≤ b)
  | [], i, A, _, h, _, _, _ => by simp at h
  | C :: l, 0, A, hl, h, O, w, ⟨O1, O2, h1, h2, h3, h4⟩ => by
    simp only [List.getElem?_cons_zero, Option.some.injEq] at h
    subst h
    refine ⟨O1, h1, fun b hb => (h4 b).2 (.inl hb), fun B O1' y hB hf ho => ⟨fun b => O1' b ∨ O2 b, ⟨O1', O2, hB, ?_, fun b hb hb2 => ?_, fun b => Iff.rfl⟩, fun b hb => ?_⟩⟩
    · exact sep_keep (fun B hB => hl B (List.mem_cons_of_mem _ hB)) h2 ho (fun b hb hb1 => h3 b hb1 hb)
    · rcases hf b hb with h | h
      · exact h3 b h hb2
      · have := sep_lt (fun B hB => hl B (List.mem_cons_of_mem _ hB)) h2 hb2
        omega
    · rcases hb with hb | hb
      · rcases hf b hb with h | h
        · exact .inl ((h4 b).2 (.inl h))
        · exact .inr h
      · exact .inl ((h4 b).2 (.inr hb))
  | C :: l, i + 1, A, hl, h, O, w, ⟨O1, O2, h1, h2, h3, h4⟩ => by
    have hl' : Locs l := fun B hB => hl B (List.mem_cons_of_mem _ hB)
    obtain ⟨P1, p1, p2, p3⟩ := sep_turn hl' (by simpa using h) h2
    refine ⟨P1, p1, fun b hb => (h4 b).2 (.inr (p2 b hb)), fun B O1' y hB hf ho => ?_⟩
    obtain ⟨O', q1, q2⟩ := p3 B O1' y hB hf ho
    refine ⟨fun b => O1 b ∨ O' b, ⟨O1, O', (hl C (List.mem_cons_self ..)).keep h1 ho (fun b hb hb1 => h3 b hb (p2 b hb1)), q1, fun b hb hb2 => ?_, fun b => Iff.rfl⟩, fun b hb => ?_⟩
    · rcases q2 b hb2 with h | h
      · exact h3 b hb h
      · have := (hl C (List.mem_cons_self ..)).lt h1 hb
        omega
    · rcases hb with hb | hb
      · exact .inl ((h4 b).2 (.inl hb))
      · rcases q2 b hb with h | h
        · exact .inl ((h4 b).2 (.inr h))
        · exact .inr h
theorem sep_get : ∀ {l : List Asn} {i : Nat} {A : Asn}, l[i]? = some A → ∀ {O : Nat → Prop} {w : World}, SepL l O w → ∃ O1, A O1 w ∧ ∀ b, O1 b → O b
  | [], i, A, h, _, _, _ => by simp at h
  | C :: l, 0, A, h, O, w, ⟨O1, O2, h1, h2, h3, h4⟩ => by
    simp only [List.getElem?_cons_zero, Option.some.injEq] at h
    subst h
    exact ⟨O1, h1, fun b hb => (h4 b).2 (.inl hb)⟩
  | C :: l, i + 1, A, h, O, w, ⟨O1, O2, h1, h2, h3, h4⟩ => by
    obtain ⟨P1, p1, p2⟩ := sep_get (l := l) (i := i) (by simpa using h) h2
    exact ⟨P1, p1, fun b hb => (h4 b).2 (.inr (p2 b hb))⟩
theorem sep_erase : ∀ {l : List Asn} (i : Nat) {O : Nat → Prop} {w : World}, SepL l O w → ∃ O', SepL (l.eraseIdx i) O' w ∧ ∀ b, O' b → O b
  | [], i, O, w, h => ⟨O, h, fun _ hb => hb⟩
  | C :: l, 0, O, w, ⟨O1, O2, h1, h2, h3, h4⟩ => ⟨O2, h2, fun b hb => (h4 b).2 (.inr hb)⟩
  | C :: l, i + 1, O, w, ⟨O1, O2, h1, h2, h3, h4⟩ => by
    obtain ⟨O', q1, q2⟩ := sep_erase i h2
    exact ⟨fun b => O1 b ∨ O' b, ⟨O1, O', h1, q1, fun b hb hb2 => h3 b hb (q2 b hb2), fun b => Iff.rfl⟩, fun b hb => (h4 b).2 (hb.imp id (q2 b))⟩
theorem sep_swap {A B : Asn} {l : List Asn} {O : Nat → Prop} {w : World} (h : SepL (A :: B :: l) O w) : SepL (B :: A :: l) O w := by
  obtain ⟨O1, O2, h1, ⟨O3, O4, h2, h3, h4, h5⟩, h6, h7⟩ := h
  refine ⟨O3, fun b => O1 b ∨ O4 b, h2, ⟨O1, O4, h1, h3, fun b hb hb4 => h6 b hb ((h5 b).2 (.inr hb4)), fun b => Iff.rfl⟩, fun b hb hb2 => ?_, fun b => ?_⟩
  · rcases hb2 with hb2 | hb2
    · exact h6 b hb2 ((h5 b).2 (.inl hb))
    · exact h4 b hb hb2
  · rw [h7, h5]
    constructor
    · rintro (h | h | h)
      · exact .inr (.inl h)
      · exact .inl h
      · exact .inr (.inr h)
    · rintro (h | h | h)
      · exact .inr (.inl h)
      · exact .inl h
      · exact .inr (.inr h)
theorem sep_under {A : Asn} {l m : List Asn} (hlm : ∀ O w, SepL l O w → SepL m O w) {O : Nat → Prop} {w : World} (h : SepL (A :: l) O w) : SepL (A :: m) O w := by
  obtain ⟨O1, O2, h1, h2, h3, h4⟩ := h
  exact ⟨O1, O2, h1, hlm _ _ h2, h3, h4⟩
/-- What stands in a world x that came out of w: these structures, all of blocks made since; and all of w as it was. -/
def Stands (w : World) (l : List Asn) (x : World) : Prop := Locs l ∧ Old w x ∧ ∃ O, SepL l O x ∧ ∀ b, O b → w.heap.size ≤ b
section
variable {w x y : World} {l : List Asn} {A B : Asn}
theorem stands_nil (w : World) : Stands w [] w := ⟨locs_nil, old_refl w, fun _ => False, fun _ f => f, fun _ f => f.elim⟩
theorem stands_old (h : Stands w l x) : Old w x := h.2.1
theorem stands_then (h : Stands w l x) (ho : Old x y) : Stands w l y := by
  obtain ⟨h1, h2, O, h3, h4⟩ := h
  exact ⟨h1, old_then h2 ho, O, sep_keep h1 h3 (Only.of_below ho) (fun _ _ f => f), h4⟩
theorem stands_get (h : Stands w l x) {i : Nat} (hi : l[i]? = some A) : ∃ O, A O x ∧ ∀ b, O b → w.heap.size ≤ b := by
  obtain ⟨h1, h2, O, h3, h4⟩ := h
  obtain ⟨O1, p1, p2⟩ := sep_get hi h3
  exact ⟨O1, p1, fun b hb => h4 b (p2 b hb)⟩
/-- A structure that was made since. -/
theorem stands_new (h : Stands w l x) (ho : Old x y) (hA : Loc A) {O1 : Nat → Prop} (h1 : A O1 y) (hO : ∀ b, O1 b → x.heap.size ≤ b) : Stands w (A :: l) y := by
  obtain ⟨g1, g2, O, g3, g4⟩ := h
  refine ⟨locs_cons hA g1, old_then g2 ho, fun b => O1 b ∨ O b, ⟨O1, O, h1, sep_keep g1 g3 (Only.of_below ho) (fun _ _ f => f), fun b hb hb2 => ?_, fun b => Iff.rfl⟩, fun b hb => ?_⟩
  · have := hO b hb
    have := sep_lt g1 g3 hb2
    omega
  · rcases hb with hb | hb
    · have := hO b hb
      have := g2.size
      omega
    · exact g4 b hb
/-- One of the structures turns. -/
theorem stands_turn (h : Stands w l x) {i : Nat} (hi : l[i]? = some A) : ∃ O1, A O1 x ∧ (∀ b, O1 b → w.heap.size ≤ b) ∧ ∀ (B : Asn) (O1' : Nat → Prop) (y : World), Loc B → B O1' y → (∀ b, O1' b → O1 b ∨ x.heap.size ≤ b) → Only O1 x y → Stands w (l.set i B) y := by
  obtain ⟨h1, h2, O, h3, h4⟩ := h
  obtain ⟨O1, p1, p2, p3⟩ := sep_turn h1 hi h3
  refine ⟨O1, p1, fun b hb => h4 b (p2 b hb), fun B O1' y hB hB' hf ho => ?_⟩
  obtain ⟨O', q1, q2⟩ := p3 B O1' y hB' hf ho
  refine ⟨locs_set i hB h1, ?_, O', q1, fun b hb => ?_⟩
  · exact Only.to_below ((Only.of_below h2).step ho (fun b hb f => by have := h4 b (p2 b f); omega))
  · rcases q2 b hb with h | h
    · exact h4 b h
    · have := h2.size
      omega
theorem stands_erase (i : Nat) (h : Stands w l x) : Stands w (l.eraseIdx i) x := by
  obtain ⟨h1, h2, O, h3, h4⟩ := h
  obtain ⟨O', q1, q2⟩ := sep_erase i h3
  exact ⟨fun A hA => h1 A (List.mem_of_mem_eraseIdx hA), h2, O', q1, fun b hb => h4 b (q2 b hb)⟩
end
theorem stands_perm {w x : World} {l m : List Asn} (hp : ∀ A ∈ m, A ∈ l) (hlm : ∀ O w, SepL l O w → SepL m O w) (h : Stands w l x) : Stands w m x := by
  obtain ⟨h1, h2, O, h3, h4⟩ := h
  exact ⟨fun A hA => h1 A (hp A hA), h2, O, hlm _ _ h3, h4⟩
/-- The newest one laid behind the first two. -/
theorem stands_two {w x : World} {A B C : Asn} {l : List Asn} (h : Stands w (A :: B :: C :: l) x) : Stands w (B :: C :: A :: l) x :=
  stands_perm (fun D hD => by
    simp only [List.mem_cons] at hD ⊢
    rcases hD with h | h | h | h
    · exact .inr (.inl h)
    · exact .inr (.inr (.inl h))
    · exact .inl h
    · exact .inr (.inr (.inr h))) (fun O w h => sep_under (fun O w h => sep_swap h) (sep_swap h)) h
/-- A call that turns one structure. -/
def Turns (P : Program) (f : FuncId) (args : Array Value) (A : Asn) (v : Value) (B : Asn) : Prop :=
  ∀ O w, A O w → Calls P f args w (fun e y => e = .returned v ∧ ∃ O', B O' y ∧ (∀ b, O' b → O b ∨ w.heap.size ≤ b) ∧ Only O w y)
theorem turns_stands {P : Program} {f : FuncId} {args : Array Value} {A B : Asn} {v : Value} (ht : Turns P f args A v B) (hB : Loc B) {w x : World} {l : List Asn} {i : Nat} (h : Stands w l x) (hi : l[i]? = some A) :
    Calls P f args x (fun e y => e = .returned v ∧ Stands w (l.set i B) y) := by
  obtain ⟨O1, p1, -, p3⟩ := stands_turn h hi
  refine (ht O1 x p1).mono ?_
  rintro e y ⟨rfl, O', q1, q2, q3⟩
  exact ⟨rfl, p3 B O' y hB q1 q2 q3⟩
/-- A block of cells. -/
def Pts (b : Nat) (C : Array Value) (t : TypeId) : Asn := fun O w => (∀ k, O k ↔ k = b) ∧ w.heap[b]? = some (.cells C t)
theorem loc_pts (b : Nat) (C : Array Value) (t : TypeId) : Loc (Pts b C t) :=
  ⟨fun h hb => by rw [(h.1 _).1 hb]; exact lt_of_block h.2, fun h ho hG => ⟨h.1, keep_only ho (hG b ((h.1 b).2 rfl)) h.2⟩⟩
theorem stands_pts {w x : World} {l : List Asn} (h : Stands w l x) (C : Array Value) (t : TypeId) : Stands w (Pts x.heap.size C t :: l) (x.alloc (.cells C t)) :=
  stands_new h (old_alloc (old_refl x) _) (loc_pts _ _ _) (O1 := fun k => k = x.heap.size) ⟨fun _ => Iff.rfl, new_block _ _⟩ (fun b e => by omega)
theorem pts_get {w x : World} {l : List Asn} {i b : Nat} {C : Array Value} {t : TypeId} (h : Stands w l x) (hi : l[i]? = some (Pts b C t)) : x.heap[b]? = some (.cells C t) := by
  obtain ⟨O, h1, -⟩ := stands_get h hi
  exact h1.2
end Go.Proofs.Ytfiofjalpaeohaa
namespace Go.Proofs.Ytfiofjalpaeohaa
set_option linter.unusedVariables false
set_option linter.unusedSimpArgs false
open Go.RowKit
/-- A frame's bytes, by address. -/
def bytesOf (pg : Int → Option (List Nat)) : Nat → Nat := fun a => (pageOf pg ((a / 4096 : Nat) : Int)).getD (a % 4096) 0
/-- The program's memory. -/
def MemA (p n : Nat) (pg : Int → Option (List Nat)) (ops : Nat) : Asn := fun O w => IsMem w (fun b => ¬ O b) p n pg ops ∧ ∀ b, O b → b < w.heap.size
/-- The document's memory. -/
def R5A (q n : Nat) (wd : Nat → Nat) (ops lim : Nat) : Asn := fun O w => IsR w (fun b => ¬ O b) q n wd ops lim ∧ ∀ b, O b → b < w.heap.size
section
variable {w x y : World} {X Y O : Nat → Prop} {p q n ops lim : Nat} {pg : Int → Option (List Nat)} {wd : Nat → Nat}
theorem isR_more (h : IsR w X q n wd ops lim) (hY : ∀ b, Y b → X b ∨ w.heap.size ≤ b) : IsR w Y q n wd ops lim := by
  obtain ⟨ad, c, L, h1, h2, h3, h4, h5⟩ := h
  refine ⟨ad, c, L, h1, fun hy => ?_, fun b off e hy => ?_, h4, h5⟩
  · rcases hY _ hy with h | h
    · exact h2 h
    · have := lt_of_block h1.hq; omega
  · rcases hY _ hy with h | h
    · exact h3 b off e h
    · rcases r5_slice h1 with ⟨e0, _⟩ | ⟨g, e0, _, _, _, hg⟩
      · rw [e0] at e; cases e
      · rw [e0] at e; cases e; omega
theorem isR_lim (h : IsR w X q n wd ops lim) {m : Nat} (hm : lim ≤ m) : IsR w X q n wd ops m := by
  obtain ⟨ad, c, L, h1, h2, h3, h4, h5⟩ := h
  exact ⟨ad, c, L, h1, h2, h3, Nat.le_trans h4 hm, h5⟩
theorem loc_mem (p n : Nat) (pg : Int → Option (List Nat)) (ops : Nat) : Loc (MemA p n pg ops) :=
  ⟨fun h hb => h.2 _ hb, fun h ho hG => ⟨mem_only h.1 ho (fun b hb => hG b (Classical.not_not.1 hb)), fun b hb => Nat.lt_of_lt_of_le (h.2 b hb) ho.size⟩⟩
theorem loc_r5 (q n : Nat) (wd : Nat → Nat) (ops lim : Nat) : Loc (R5A q n wd ops lim) :=
  ⟨fun h hb => h.2 _ hb, fun h ho hG => ⟨isR_only h.1 ho (fun b hb => hG b (Classical.not_not.1 hb)), fun b hb => Nat.lt_of_lt_of_le (h.2 b hb) ho.size⟩⟩
/-- The bounded set of the blocks that are others'. -/
abbrev Oth (O : Nat → Prop) (w : World) : Nat → Prop := fun b => b < w.heap.size ∧ ¬ O b
abbrev Own (O : Nat → Prop) (w y : World) : Nat → Prop := fun b => b < y.heap.size ∧ (O b ∨ w.heap.size ≤ b)
theorem mem_oth (h : MemA p n pg ops O w) : IsMem w (Oth O w) p n pg ops := mem_more h.1 fun b hb => .inl hb.2
theorem r5_oth (h : R5A q n wd ops lim O w) : IsR w (Oth O w) q n wd ops lim := isR_more h.1 fun b hb => .inl hb.2
theorem own_out {b : Nat} (h : ¬ Own O w y b) : Oth O w b ∨ y.heap.size ≤ b := by
  by_cases hb : b < y.heap.size
  · by_cases ho : O b
    · exact absurd ⟨hb, .inl ho⟩ h
    · by_cases hw : w.heap.size ≤ b
      · exact absurd ⟨hb, .inr hw⟩ h
      · exact .inl ⟨by omega, ho⟩
  · exact .inr (by omega)
theorem turn_mem_at {f : FuncId} {args : Array Value} {v : Value} {pg1 : Int → Option (List Nat)} {ops1 : Nat}
    (h : ∀ X, IsMem w X p n pg ops → (∀ b, X b → b < w.heap.size) → Calls Try.prog f args w (RetMem w X p n v pg1 ops1)) (hA : MemA p n pg ops O w) :
    Calls Try.prog f args w (fun e y => e = .returned v ∧ ∃ O', MemA p n pg1 ops1 O' y ∧ (∀ b, O' b → O b ∨ w.heap.size ≤ b) ∧ Only O w y) := by
  refine (h (Oth O w) (mem_oth hA) (fun b hb => hb.1)).mono ?_
  rintro e y ⟨rfl, h1, h2⟩
  exact ⟨rfl, Own O w y, ⟨mem_more h1 fun b hb => own_out hb, fun b hb => hb.1⟩, fun b hb => hb.2, h2.mono fun b hb hn => by
    by_cases ho : O b
    · exact ho
    · exact absurd ⟨hb, ho⟩ hn⟩
theorem turn_mem {f : FuncId} {args : Array Value} {v : Value} {pg1 : Int → Option (List Nat)} {ops1 : Nat}
    (h : ∀ w X, IsMem w X p n pg ops → (∀ b, X b → b < w.heap.size) → Calls Try.prog f args w (RetMem w X p n v pg1 ops1)) : Turns Try.prog f args (MemA p n pg ops) v (MemA p n pg1 ops1) :=
  fun _ w hA => turn_mem_at (h w) hA
theorem turn_r5_at {f : FuncId} {args : Array Value} {v : Value} {wd1 : Nat → Nat} {ops1 lim1 : Nat}
    (h : ∀ X, IsR w X q n wd ops lim → (∀ b, X b → b < w.heap.size) → Calls Try.prog f args w (RetR w X q n v wd1 ops1 lim1)) (hA : R5A q n wd ops lim O w) :
    Calls Try.prog f args w (fun e y => e = .returned v ∧ ∃ O', R5A q n wd1 ops1 lim1 O' y ∧ (∀ b, O' b → O b ∨ w.heap.size ≤ b) ∧ Only O w y) := by
  refine (h (Oth O w) (r5_oth hA) (fun b hb => hb.1)).mono ?_
  rintro e y ⟨rfl, h1, h2⟩
  exact ⟨rfl, Own O w y, ⟨isR_more h1 fun b hb => own_out hb, fun b hb => hb.1⟩, fun b hb => hb.2, h2.mono fun b hb hn => by
    by_cases ho : O b
    · exact ho
    · exact absurd ⟨hb, ho⟩ hn⟩
theorem turn_r5 {f : FuncId} {args : Array Value} {v : Value} {wd1 : Nat → Nat} {ops1 lim1 : Nat}
    (h : ∀ w X, IsR w X q n wd ops lim → (∀ b, X b → b < w.heap.size) → Calls Try.prog f args w (RetR w X q n v wd1 ops1 lim1)) : Turns Try.prog f args (R5A q n wd ops lim) v (R5A q n wd1 ops1 lim1) :=
  fun _ w hA => turn_r5_at (h w) hA
/-- A call that turns nothing, as a turn. -/
theorem turn_quiet {f : FuncId} {args : Array Value} {v : Value} {A : Asn} (hA : Loc A) (h : ∀ O w, A O w → Calls Try.prog f args w (RetB w v)) : Turns Try.prog f args A v A := by
  intro O w hO
  refine (h O w hO).mono ?_
  rintro e y ⟨rfl, h1⟩
  exact ⟨rfl, O, hA.keep hO (Only.of_below h1) (fun _ _ f => f), fun b hb => .inl hb, (Only.of_below h1).mono fun _ _ f => f.elim⟩
theorem turn_weak {f : FuncId} {args : Array Value} {v : Value} {A B C : Asn} (h : Turns Try.prog f args A v B) (hBC : ∀ O w, B O w → C O w) : Turns Try.prog f args A v C := by
  intro O w hO
  refine (h O w hO).mono ?_
  rintro e y ⟨rfl, O', h1, h2, h3⟩
  exact ⟨rfl, O', hBC _ _ h1, h2, h3⟩
theorem r5A_lim {m : Nat} (hm : lim ≤ m) : ∀ O w, R5A q n wd ops lim O w → R5A q n wd ops m O w := fun _ _ h => ⟨isR_lim h.1 hm, h.2⟩
/-! The bytes behind each step. -/
theorem wr5_at (wd : Nat → Nat) (addr v : Nat) : ∀ (k x : Nat), wr5 wd addr v k x = if addr ≤ x ∧ x < addr + k then v / 2 ^ (8 * (x - addr)) % 256 else wd x
  | 0, x => by rw [if_neg (by omega)]; rfl
  | k + 1, x => by
    show (if x = addr + k then _ else wr5 wd addr v k x) = _
    rw [wr5_at wd addr v k x]
    by_cases h : x = addr + k
    · rw [if_pos h, if_pos (by omega), h, Nat.add_sub_cancel_left]
    · rw [if_neg h]
      by_cases h2 : addr ≤ x ∧ x < addr + k
      · rw [if_pos h2, if_pos (by omega)]
      · rw [if_neg h2, if_neg (by omega)]
theorem pageOf_upd (pg : Int → Option (List Nat)) (k j : Int) (v : Option (List Nat)) : pageOf (updP pg k v) j = if j = k then v.getD zeros4096 else pageOf pg j := by
  unfold pageOf updP
  split <;> rfl
theorem bytesOf_write (hl : ∀ k, (pageOf pg k).length = 4096) (addr s v : Nat) (hs : addr % 4096 + s ≤ 4096) : bytesOf (updP pg ((addr / 4096 : Nat) : Int) (some (wroteOf pg addr (s : Int) v))) = wr5 (bytesOf pg) addr v s := by
  funext x
  rw [wr5_at]
  show (pageOf _ _).getD _ 0 = _
  rw [pageOf_upd]
  by_cases h : x / 4096 = addr / 4096
  · rw [if_pos (by omega), Option.getD_some]
    unfold wroteOf
    rw [Int.toNat_natCast, List.getD_eq_getElem?_getD, putL_at, hl]
    by_cases h2 : addr ≤ x ∧ x < addr + s
    · rw [if_pos h2, if_pos (by omega), Option.getD_some, show x % 4096 - addr % 4096 = x - addr by omega]
    · rw [if_neg h2, if_neg (by omega)]
      show _ = (pageOf pg _).getD _ 0
      rw [List.getD_eq_getElem?_getD, h]
  · rw [if_neg (by omega), if_neg (by omega)]
    rfl
theorem bytesOf_page (k f : Nat) (P : Option (List Nat)) (hk : k = f) : bytesOf (updP pg ((k : Nat) : Int) P) = fun x => if x / 4096 = f then (P.getD zeros4096).getD (x % 4096) 0 else bytesOf pg x := by
  subst hk
  funext x
  show (pageOf _ _).getD _ 0 = _
  rw [pageOf_upd]
  by_cases h : x / 4096 = k
  · rw [if_pos (by omega), if_pos h]
  · rw [if_neg (by omega), if_neg h]; rfl
theorem pgOf_bytes (hl : ∀ k, (pageOf pg k).length = 4096) (f : Nat) : pgOf (bytesOf pg) f = pageOf pg (f : Int) := by
  refine List.ext_getElem? fun j => ?_
  by_cases hj : j < 4096
  · rw [pgOf_get _ _ _ hj]
    show some ((pageOf pg (((f * 4096 + j) / 4096 : Nat) : Int)).getD ((f * 4096 + j) % 4096) 0) = _
    rw [show (f * 4096 + j) / 4096 = f by omega, show (f * 4096 + j) % 4096 = j by omega, List.getD_eq_getElem?_getD, List.getElem?_eq_getElem (by rw [hl]; exact hj)]; rfl
  · rw [List.getElem?_eq_none (by rw [pgOf_length]; omega), List.getElem?_eq_none (by rw [hl]; omega)]
theorem addr_parts {a p : Nat} (h1 : p < 4096) (h2 : a / 4096 * 4096 + p = a) : a % 4096 = p := by omega
theorem addr_next {a p : Nat} (h1 : p + 1 < 4096) (h2 : a / 4096 * 4096 + p = a) : (a + 1) / 4096 = a / 4096 := by omega
theorem word_bytes (addr : Nat) : ∀ (k p : Nat), p + k ≤ 4096 → addr / 4096 * 4096 + p = addr → ∀ L, L = pageOf pg ((addr / 4096 : Nat) : Int) → word5 (bytesOf pg) addr k = getN L p k := by
  intro k
  induction k generalizing addr with
  | zero => intro p _ _ L _; rfl
  | succ k ih =>
    intro p h1 h2 L hL
    rw [getN_front]
    show bytesOf pg addr + 256 * word5 (bytesOf pg) (addr + 1) k = _
    have e1 : bytesOf pg addr = L.getD p 0 := by
      show (pageOf pg _).getD _ 0 = _
      rw [hL, addr_parts (by omega) h2]
    rw [e1]
    by_cases hk : k = 0
    · subst hk; rfl
    · rw [ih (addr + 1) (p + 1) (by omega) (by rw [addr_next (by omega) h2]; omega) L (by rw [hL, addr_next (by omega) h2])]
theorem mem_len (h : MemA p n pg ops O w) : ∀ k, (pageOf pg k).length = 4096 := pageOf_length h.1
end
end Go.Proofs.Ytfiofjalpaeohaa
namespace Go.Proofs.Ytfiofjalpaeohaa
set_option linter.unusedVariables false
set_option linter.unusedSimpArgs false
open Go.RowKit
/-- A row of bytes. -/
def RowA (g c : Nat) (l : List Nat) : Asn := fun O y => (∀ k, O k ↔ k = g) ∧ Row y 0 g c l
theorem row_zero5 {w : World} {B g c : Nat} {l : List Nat} (h : Row w B g c l) : Row w 0 g c l := by
  refine ⟨⟨h.1.1, ?_⟩, h.2⟩
  rcases h.1.2 with h' | ⟨g', cap', cur, h', hb, rest⟩
  · exact .inl h'
  · exact .inr ⟨g', cap', cur, h', Nat.zero_le _, rest⟩
theorem loc_row (g c : Nat) (l : List Nat) : Loc (RowA g c l) :=
  ⟨fun h hb => by rw [(h.1 _).1 hb]; exact (row_parts h.2).2.1, fun h ho hG => ⟨h.1, row_only h.2 ho (hG g ((h.1 g).2 rfl))⟩⟩
theorem stands_row {w x y : World} {l : List Asn} {g c : Nat} {L : List Nat} (h : Stands w l x) (ho : Old x y) (hr : Row y x.heap.size g c L) : Stands w (RowA g c L :: l) y :=
  stands_new h ho (loc_row g c L) (O1 := fun k => k = g) ⟨fun _ => Iff.rfl, row_zero5 hr⟩ (fun b e => by rw [e]; exact (row_parts hr).1)
theorem rowA_get {w x : World} {l : List Asn} {i g c : Nat} {L : List Nat} (h : Stands w l x) (hi : l[i]? = some (RowA g c L)) : Row x 0 g c L := by
  obtain ⟨O, h1, -⟩ := stands_get h hi
  exact h1.2
theorem rowA_put {w x : World} {l : List Asn} {i g c : Nat} {L : List Nat} (h : Stands w l x) (hi : l[i]? = some (RowA g c L)) (k u : Nat) (hu : u < 256) : Stands w (l.set i (RowA g c (L.set k u))) (x.setCell ⟨g, k, none⟩ (.int .u8 u)) := by
  obtain ⟨O1, p1, -, p3⟩ := stands_turn h hi
  exact p3 (RowA g c (L.set k u)) O1 _ (loc_row _ _ _) ⟨p1.1, row_set p1.2 k u hu⟩ (fun b hb => .inl hb) ((Only.refl _ _).setCell _ _ fun _ => (p1.1 g).2 rfl)
section
variable {p q n ops lim : Nat} {pg : Int → Option (List Nat)}
theorem place_size {n addr : Nat} {s : Int} (h : placeE n addr s = 0) : ∃ k : Nat, s = k := ⟨s.toNat, by have := (placeE_zero h).2.2.1; omega⟩
theorem step5_write (hl : ∀ k, (pageOf pg k).length = 4096) (addr : Nat) (ha : addr < 18446744073709551616) (s : Int) (v : Nat) (hv : v < 18446744073709551616) (ho : ops ≤ 1000000) (hlim : lim + 8 ≤ 200000) : ∃ (a : Int) (pg1 : Int → Option (List Nat)) (ops1 : Nat), ops1 ≤ ops + 1 ∧
    Turns Try.prog 49 #[.pointer (some ⟨p, 0, none⟩), .int .u64 (addr : Nat), .int .i64 s, .int .u64 (v : Nat)] (MemA p n pg ops) (.int .i64 a) (MemA p n pg1 ops1) ∧
    Turns Try.prog 57 #[.pointer (some ⟨q, 0, none⟩), .int .u64 (addr : Nat), .int .i64 s, .int .u64 (v : Nat)] (R5A q n (bytesOf pg) ops lim) (.int .i64 a) (R5A q n (bytesOf pg1) ops1 (lim + 4096)) := by
  by_cases he : placeE n addr s = 0
  · obtain ⟨k, rfl⟩ := place_size he
    obtain ⟨-, -, -, h8, h4⟩ := placeE_zero he
    refine ⟨0, _, ops + 1, Nat.le_refl _, turn_mem fun w X h hX => write_ok2 h hX addr ha (k : Int) v he (by omega), ?_⟩
    rw [bytesOf_write hl addr k v (by omega)]
    exact turn_weak (turn_r5 fun w X h hX => r5write_ok h hX addr ha k v hv he ho hlim) (r5A_lim (by omega))
  · exact ⟨_, pg, ops, by omega, turn_quiet (loc_mem ..) fun O w h => write_fail2 h.1 addr ha s v he, turn_weak (turn_quiet (loc_r5 ..) fun O w h => r5write_fail h.1 addr ha s v he) (r5A_lim (by omega))⟩
theorem step5_read (hl : ∀ k, (pageOf pg k).length = 4096) (addr : Nat) (ha : addr < 18446744073709551616) (s : Int) (ho : ops ≤ 1000000) : ∃ (a : Int) (u : Nat) (ops1 : Nat), ops1 ≤ ops + 1 ∧
    Turns Try.prog 48 #[.pointer (some ⟨p, 0, none⟩), .int .u64 (addr : Nat), .int .i64 s] (MemA p n pg ops) (.tuple #[.int .u64 (u : Nat), .int .i64 a]) (MemA p n pg ops1) ∧
    Turns Try.prog 58 #[.pointer (some ⟨q, 0, none⟩), .int .u64 (addr : Nat), .int .i64 s] (R5A q n (bytesOf pg) ops lim) (.tuple #[.int .u64 (u : Nat), .int .i64 a]) (R5A q n (bytesOf pg) ops1 (lim + 4096)) := by
  by_cases he : placeE n addr s = 0
  · obtain ⟨k, rfl⟩ := place_size he
    obtain ⟨-, -, -, h8, h4⟩ := placeE_zero he
    refine ⟨0, wordOf pg addr (k : Int), ops + 1, Nat.le_refl _, turn_mem fun w X h hX => read_ok2 h addr ha (k : Int) he (by omega), ?_⟩
    have e : wordOf pg addr (k : Int) = word5 (bytesOf pg) addr k := by
      unfold wordOf
      rw [Int.toNat_natCast]
      exact (word_bytes addr k (addr % 4096) (by omega) (by omega) _ rfl).symm
    rw [e]
    exact turn_weak (turn_r5 fun w X h hX => r5readR_calls h addr ha k he ho) (r5A_lim (by omega))
  · exact ⟨_, 0, ops, by omega, turn_quiet (loc_mem ..) fun O w h => read_fail2 h.1 addr ha s he, turn_weak (turn_quiet (loc_r5 ..) fun O w h => r5readE_calls h.1 addr ha s he) (r5A_lim (by omega))⟩
theorem step5_zero (k : Int) (hlim : lim ≤ 200000) : ∃ (a : Int) (pg1 : Int → Option (List Nat)),
    Turns Try.prog 60 #[.pointer (some ⟨p, 0, none⟩), .int .i64 k] (MemA p n pg ops) (.int .i64 a) (MemA p n pg1 ops) ∧
    Turns Try.prog 61 #[.pointer (some ⟨q, 0, none⟩), .int .i64 k] (R5A q n (bytesOf pg) ops lim) (.int .i64 a) (R5A q n (bytesOf pg1) ops lim) := by
  cases hk : hasB n k with
  | true =>
    obtain ⟨f, rfl, hf⟩ := hasB_nat hk
    refine ⟨0, _, turn_mem fun w X h hX => zero_ok2 h (f : Int) hk, ?_⟩
    rw [bytesOf_page f f none rfl]
    have e : (fun x => if x / 4096 = f then ((none : Option (List Nat)).getD zeros4096).getD (x % 4096) 0 else bytesOf pg x) = fun x => if x / 4096 = f then 0 else bytesOf pg x := by
      funext x
      rw [Option.getD_none, zeros_getD]
    rw [e]
    exact turn_r5 fun w X h hX => r5zero_calls h hX f hf hlim
  | false => exact ⟨2, pg, turn_quiet (loc_mem ..) fun O w h => zero_none2 h.1 k hk, turn_quiet (loc_r5 ..) fun O w h => r5zeroE_calls h.1 k hk⟩
theorem step5_set (k : Int) (P : List Nat) (hP : P.length ≤ maxLen) (hlim : lim + 4096 ≤ 200000) : ∃ (a : Int) (pg1 : Int → Option (List Nat)),
    (∀ O w ad c, MemA p n pg ops O w → Bytes w ad c P → Calls Try.prog 54 #[.pointer (some ⟨p, 0, none⟩), .int .i64 k, .slice ad P.length c] w (fun e y => e = .returned (.int .i64 a) ∧ ∃ O', MemA p n pg1 ops O' y ∧ (∀ b, O' b → O b ∨ w.heap.size ≤ b) ∧ Only O w y)) ∧
    (∀ O w ad c, R5A q n (bytesOf pg) ops lim O w → Bytes w ad c P → Calls Try.prog 59 #[.pointer (some ⟨q, 0, none⟩), .int .i64 k, .slice ad P.length c] w (fun e y => e = .returned (.int .i64 a) ∧ ∃ O', R5A q n (bytesOf pg1) ops (lim + 4096) O' y ∧ (∀ b, O' b → O b ∨ w.heap.size ≤ b) ∧ Only O w y)) := by
  have quietM : ∀ {f args v O w}, MemA p n pg ops O w → Calls Try.prog f args w (RetB w v) → Calls Try.prog f args w (fun e y => e = .returned v ∧ ∃ O', MemA p n pg ops O' y ∧ (∀ b, O' b → O b ∨ w.heap.size ≤ b) ∧ Only O w y) := fun h hc => by
    refine hc.mono ?_
    rintro e y ⟨rfl, h1⟩
    exact ⟨rfl, _, (loc_mem ..).keep h (Only.of_below h1) (fun _ _ f => f), fun b hb => .inl hb, (Only.of_below h1).mono fun _ _ f => f.elim⟩
  have quietR : ∀ {f args v O w}, R5A q n (bytesOf pg) ops lim O w → Calls Try.prog f args w (RetB w v) → Calls Try.prog f args w (fun e y => e = .returned v ∧ ∃ O', R5A q n (bytesOf pg) ops (lim + 4096) O' y ∧ (∀ b, O' b → O b ∨ w.heap.size ≤ b) ∧ Only O w y) := fun h hc => by
    refine hc.mono ?_
    rintro e y ⟨rfl, h1⟩
    exact ⟨rfl, _, r5A_lim (by omega) _ _ ((loc_r5 ..).keep h (Only.of_below h1) (fun _ _ f => f)), fun b hb => .inl hb, (Only.of_below h1).mono fun _ _ f => f.elim⟩
  cases hk : hasB n k with
  | false => exact ⟨2, pg, fun O w ad c h hB => quietM h (set_none2 h.1 k _ hk), fun O w ad c h hB => quietR h (by have := r5pageE_calls h.1 k ad P.length c hP (.inl hk); rwa [if_pos hk] at this)⟩
  | true =>
    by_cases hPl : P.length = 4096
    · obtain ⟨f, rfl, hf⟩ := hasB_nat hk
      refine ⟨0, updP pg ((f : Nat) : Int) (some P), fun O w ad c h hB => ?_, fun O w ad c h hB => ?_⟩
      · obtain ⟨bb, off, rfl, -⟩ := bytes_some hB (by omega)
        rw [hPl]
        exact turn_mem_at (fun X h hX => set_ok2 h hX (f : Int) _ c P hk hB hPl) h
      · rw [hPl, bytesOf_page f f (some P) rfl, Option.getD_some]
        exact turn_r5_at (fun X h hX => r5page_calls h hX f hf ad c P hB hPl 4096 (cells5_len ..) hlim) h
    · exact ⟨1, pg, fun O w ad c h hB => quietM h (set_arg2 h.1 k ad P.length c hk hPl hP), fun O w ad c h hB => quietR h (by have := r5pageE_calls h.1 k ad P.length c hP (.inr hPl); rwa [if_neg (by rw [hk]; simp)] at this)⟩
/-- What a Get tells: no bytes, or a page's. -/
def GetV (y : World) (B : Nat) (v : Value) : Option (List Nat) → Prop
  | none => v = .slice none 0 0
  | some l => ∃ g c, v = .slice (some ⟨g, 0, none⟩) 4096 c ∧ l.length = 4096 ∧ Row y B g c l
set_option maxRecDepth 100000 in
theorem step5_get (hl : ∀ k, (pageOf pg k).length = 4096) (k : Int) : ∃ (a : Int) (o : Option (List Nat)),
    (∀ O w, MemA p n pg ops O w → Calls Try.prog 50 #[.pointer (some ⟨p, 0, none⟩), .int .i64 k] w (fun e y => ∃ v, e = .returned (.tuple #[v, .int .i64 a]) ∧ GetV y w.heap.size v o ∧ Old w y)) ∧
    (∀ O w, R5A q n (bytesOf pg) ops lim O w → Calls Try.prog 62 #[.pointer (some ⟨q, 0, none⟩), .int .i64 k] w (fun e y => ∃ v, e = .returned (.tuple #[v, .int .i64 a]) ∧ GetV y w.heap.size v o ∧ Old w y)) := by
  cases hk : hasB n k with
  | false =>
    refine ⟨2, none, fun O w h => (get_none2 h.1 k hk).mono ?_, fun O w h => (r5getE_calls h.1 k hk).mono ?_⟩
    · rintro e y ⟨rfl, h1⟩; exact ⟨_, rfl, rfl, h1⟩
    · rintro e y ⟨rfl, h1⟩; exact ⟨_, rfl, rfl, h1⟩
  | true =>
    obtain ⟨f, rfl, hf⟩ := hasB_nat hk
    refine ⟨0, some (pageOf pg (f : Int)), fun O w h => (get_page2 h.1 (f : Int) hk).mono ?_, fun O w h => ?_⟩
    · rintro e y ⟨g, c, rfl, hr, h1⟩; exact ⟨_, rfl, ⟨g, c, rfl, hl _, hr⟩, h1⟩
    · have hc := r5get_calls h.1 f hf
      rw [pgOf_bytes hl] at hc
      refine hc.mono ?_
      rintro e y ⟨g, rfl, hr, h1⟩; exact ⟨_, rfl, ⟨g, _, rfl, hl _, hr⟩, h1⟩
set_option maxRecDepth 100000 in
theorem quiet5_clear (hl : ∀ k, (pageOf pg k).length = 4096) (k : Int) : ∃ b : Bool,
    (∀ O w, MemA p n pg ops O w → Calls Try.prog 53 #[.pointer (some ⟨p, 0, none⟩), .int .i64 k] w (RetB w (.bool b))) ∧
    (∀ O w, R5A q n (bytesOf pg) ops lim O w → Calls Try.prog 63 #[.pointer (some ⟨q, 0, none⟩), .int .i64 k] w (RetB w (.bool b))) := by
  refine ⟨_, fun O w h => clear_calls h.1 k, fun O w h => ?_⟩
  have := r5clear_calls h.1 k
  cases hk : hasB n k with
  | false => rw [hk] at this; exact this
  | true =>
    obtain ⟨f, rfl, hf⟩ := hasB_nat hk
    rw [Int.toNat_natCast, pgOf_bytes hl, hk] at this
    exact this
set_option maxRecDepth 100000 in
theorem quiet5_same (hl : ∀ k, (pageOf pg k).length = 4096) (a b : Int) : ∃ r : Bool,
    (∀ O w, MemA p n pg ops O w → Calls Try.prog 55 #[.pointer (some ⟨p, 0, none⟩), .int .i64 a, .int .i64 b] w (RetB w (.bool r))) ∧
    (∀ O w, R5A q n (bytesOf pg) ops lim O w → Calls Try.prog 64 #[.pointer (some ⟨q, 0, none⟩), .int .i64 a, .int .i64 b] w (RetB w (.bool r))) := by
  refine ⟨_, fun O w h => same_calls h.1 a b, fun O w h => ?_⟩
  have := r5same_calls h.1 (by obtain ⟨ad, c, L, h1, -, -, -, h5⟩ := h.1; intro x; rw [← h5]; exact look5_lt h1.good x) a b
  cases ha : hasB n a with
  | false => rw [ha] at this; exact this
  | true =>
    cases hb : hasB n b with
    | false => rw [ha, hb] at this; exact this
    | true =>
      obtain ⟨f, rfl, hf⟩ := hasB_nat ha
      obtain ⟨g, rfl, hg⟩ := hasB_nat hb
      rw [Int.toNat_natCast, Int.toNat_natCast, pgOf_bytes hl, pgOf_bytes hl, ha, hb] at this
      exact this
end
end Go.Proofs.Ytfiofjalpaeohaa
namespace Go.Proofs.Ytfiofjalpaeohaa
set_option linter.unusedVariables false
set_option linter.unusedSimpArgs false
open Go.RowKit
/-- A memory that was made since w, and all that was there. -/
def MAt (w : World) (p n : Nat) (pg : Int → Option (List Nat)) (ops : Nat) (x : World) : Prop := IsMem x (fun b => b < w.heap.size) p n pg ops ∧ Old w x
section
variable {w x y : World} {p n ops ops' : Nat} {pg pg' : Int → Option (List Nat)}
theorem mat_old (h : MAt w p n pg ops x) (ho : Old x y) : MAt w p n pg ops y := ⟨mem_old h.1 ho, old_then h.2 ho⟩
theorem mat_ret {v : Value} {e : Ending} (h : MAt w p n pg ops x) (hr : RetMem x (fun b => b < w.heap.size) p n v pg' ops' e y) : e = .returned v ∧ MAt w p n pg' ops' y :=
  ⟨hr.1, hr.2.1, old_stepM h.2 hr.2.2 (fun b hb => by omega)⟩
theorem mat_read (h : MAt w p n pg ops x) (addr : Nat) (ha : addr < 18446744073709551616) (s : Int) (he : placeE n addr s = 0) (ho : ops < 4611686018427387904) :
    Calls Try.prog 48 #[.pointer (some ⟨p, 0, none⟩), .int .u64 (addr : Nat), .int .i64 s] x (fun e y => e = .returned (.tuple #[.int .u64 (wordOf pg addr s : Nat), .int .i64 0]) ∧ MAt w p n pg (ops + 1) y) :=
  (read_ok2 h.1 addr ha s he ho).mono fun e y hr => mat_ret h hr
theorem mat_readE (h : MAt w p n pg ops x) (addr : Nat) (ha : addr < 18446744073709551616) (s : Int) (E : Int) (he : placeE n addr s = E) (h0 : E ≠ 0) :
    Calls Try.prog 48 #[.pointer (some ⟨p, 0, none⟩), .int .u64 (addr : Nat), .int .i64 s] x (fun e y => e = .returned (.tuple #[.int .u64 0, .int .i64 E]) ∧ MAt w p n pg ops y) := by
  subst he
  exact (read_fail2 h.1 addr ha s h0).mono fun e y hr => ⟨hr.1, mat_old h hr.2⟩
theorem mat_write (h : MAt w p n pg ops x) (addr : Nat) (ha : addr < 18446744073709551616) (s : Int) (v : Nat) (he : placeE n addr s = 0) (ho : ops < 4611686018427387904) :
    Calls Try.prog 49 #[.pointer (some ⟨p, 0, none⟩), .int .u64 (addr : Nat), .int .i64 s, .int .u64 (v : Nat)] x (fun e y => e = .returned (.int .i64 0) ∧ MAt w p n (updP pg ((addr / 4096 : Nat) : Int) (some (wroteOf pg addr s v))) (ops + 1) y) :=
  (write_ok2 h.1 (fun b hb => Nat.lt_of_lt_of_le hb h.2.size) addr ha s v he ho).mono fun e y hr => mat_ret h hr
theorem mat_zero (h : MAt w p n pg ops x) (k : Int) (hk : hasB n k = true) : Calls Try.prog 60 #[.pointer (some ⟨p, 0, none⟩), .int .i64 k] x (fun e y => e = .returned (.int .i64 0) ∧ MAt w p n (updP pg k none) ops y) :=
  (zero_ok2 h.1 k hk).mono fun e y hr => mat_ret h hr
theorem mat_clear (h : MAt w p n pg ops x) (k : Int) (B : Bool) (hB : (hasB n k && allZero (pageOf pg k)) = B) : Calls Try.prog 53 #[.pointer (some ⟨p, 0, none⟩), .int .i64 k] x (fun e y => e = .returned (.bool B) ∧ MAt w p n pg ops y) := by
  subst hB
  exact (clear_calls h.1 k).mono fun e y hr => ⟨hr.1, mat_old h hr.2⟩
theorem mat_same (h : MAt w p n pg ops x) (a b : Int) (B : Bool) (hB : (hasB n a && hasB n b && decide (pageOf pg a = pageOf pg b)) = B) : Calls Try.prog 55 #[.pointer (some ⟨p, 0, none⟩), .int .i64 a, .int .i64 b] x (fun e y => e = .returned (.bool B) ∧ MAt w p n pg ops y) := by
  subst hB
  exact (same_calls h.1 a b).mono fun e y hr => ⟨hr.1, mat_old h hr.2⟩
theorem mat_ops (h : MAt w p n pg ops x) : Calls Try.prog 52 #[.pointer (some ⟨p, 0, none⟩)] x (fun e y => e = .returned (.int .i64 ops) ∧ MAt w p n pg ops y) :=
  (ops_calls h.1).mono fun e y hr => ⟨hr.1, mat_old h hr.2⟩
theorem mat_frames (h : MAt w p n pg ops x) : Calls Try.prog 65 #[.pointer (some ⟨p, 0, none⟩)] x (fun e y => e = .returned (.int .i64 n) ∧ MAt w p n pg ops y) :=
  (frames_calls h.1).mono fun e y hr => ⟨hr.1, mat_old h hr.2⟩
theorem mat_new (w x : World) (n : Nat) (h1 : 1 ≤ n) (h2 : n ≤ 1048576) (hO : Old w x) : Calls Try.prog 47 #[.int .i64 n] x (fun e y => ∃ p, e = .returned (.tuple #[.pointer (some ⟨p, 0, none⟩), .int .i64 0]) ∧ MAt w p n (fun _ => none) 0 y) :=
  (physNew_calls n x h1 h2).mono fun e y ⟨he, ho, _, hm⟩ => ⟨_, he, hm _ (fun b hb => Nat.lt_of_lt_of_le hb hO.size), old_then hO ho⟩
end
theorem zeros_all : allZero zeros4096 = true := List.all_eq_true.2 (fun x hx => by
  have : x = 0 := List.eq_of_mem_replicate hx
  rw [this]; rfl)
def pgT : Int → Option (List Nat) := updP (fun _ => none) 1 (some (wroteOf (fun _ => none) 4096 2 197121))
theorem pgT_clear0 : (hasB 2 0 && allZero (pageOf pgT 0)) = true := by
  have : pageOf pgT 0 = zeros4096 := rfl
  rw [this, zeros_all]; rfl
set_option maxRecDepth 100000 in
theorem pgT_clear1 : (hasB 2 1 && allZero (pageOf pgT 1)) = false := by kernel_rfl
set_option maxRecDepth 100000 in
theorem pgT_same : (hasB 2 0 && hasB 2 1 && decide (pageOf pgT 0 = pageOf pgT 1)) = false := by kernel_rfl
theorem pgT_same2 : (hasB 2 0 && hasB 2 1 && decide (pageOf (updP pgT 1 none) 0 = pageOf (updP pgT 1 none) 1)) = true := by
  have h0 : pageOf (updP pgT 1 none) 0 = zeros4096 := rfl
  have h1 : pageOf (updP pgT 1 none) 1 = zeros4096 := rfl
  rw [h0, h1]; simp; exact ⟨rfl, rfl⟩
set_option maxHeartbeats 4000000 in
set_option maxRecDepth 100000 in
theorem told5_calls (w : World) : Calls Try.prog 51 #[] w (RetB w (.bool true)) := by
  have hn : Calls Try.prog 47 #[.int .i64 2] w (fun e y => ∃ p, e = .returned (.tuple #[.pointer (some ⟨p, 0, none⟩), .int .i64 0]) ∧ MAt w p 2 (fun _ => none) 0 y) := mat_new w w 2 (by decide) (by decide) (old_refl w)
  have hn0 := fun x => physNew_none 0 x (by decide)
  have e1 : placeE 2 4096 2 = 0 := by kernel_rfl
  have e2 : placeE 2 8192 1 = 2 := by kernel_rfl
  have e3 : placeE 2 4090 4 = 3 := by kernel_rfl
  have e4 : placeE 2 4097 1 = 0 := by kernel_rfl
  have v4 : wordOf pgT 4097 1 = 2 := by kernel_rfl
  have E1 := Lib.hid e1
  have E2 := Lib.hid e2
  have E3 := Lib.hid e3
  have E4 := Lib.hid e4
  have V4 := Lib.hid v4
  clear e1 e2 e3 e4 v4
  go_enter Try.func51, Try.ntmps51
  go_wp2_with fail
  (with_reducible refine hn.mono ?_)
  rintro e x1 ⟨p, rfl, hM⟩
  clear hn
  go_wp2_with fail
  (with_reducible refine (hn0 _).mono ?_)
  rintro e x2 ⟨rfl, hO2⟩
  have hM := mat_old hM hO2
  have hc := mat_frames hM
  clear hn0 hO2
  have HM := Lib.hid hM
  clear hM
  go_wp2_with fail
  (with_reducible refine hc.mono ?_)
  rintro e x3 ⟨rfl, hM⟩
  have hc : Calls Try.prog 49 #[.pointer (some ⟨p, 0, none⟩), .int .u64 4096, .int .i64 2, .int .u64 197121] x3 (fun e y => e = .returned (.int .i64 0) ∧ MAt w p 2 pgT 1 y) := mat_write hM 4096 (by decide) 2 197121 E1.out (by decide)
  clear hM HM
  go_wp2_with fail
  (with_reducible refine hc.mono ?_)
  rintro e x4 ⟨rfl, hM⟩
  have hc : Calls Try.prog 48 #[.pointer (some ⟨p, 0, none⟩), .int .u64 8192, .int .i64 1] x4 (fun e y => e = .returned (.tuple #[.int .u64 0, .int .i64 2]) ∧ MAt w p 2 pgT 1 y) := mat_readE hM 8192 (by decide) 1 2 E2.out (by decide)
  clear hM
  go_wp2_with fail
  (with_reducible refine hc.mono ?_)
  rintro e x5 ⟨rfl, hM⟩
  have hc : Calls Try.prog 48 #[.pointer (some ⟨p, 0, none⟩), .int .u64 4090, .int .i64 4] x5 (fun e y => e = .returned (.tuple #[.int .u64 0, .int .i64 3]) ∧ MAt w p 2 pgT 1 y) := mat_readE hM 4090 (by decide) 4 3 E3.out (by decide)
  clear hM
  go_wp2_with fail
  (with_reducible refine hc.mono ?_)
  rintro e x6 ⟨rfl, hM⟩
  have hc : Calls Try.prog 48 #[.pointer (some ⟨p, 0, none⟩), .int .u64 4097, .int .i64 1] x6 (fun e y => e = .returned (.tuple #[.int .u64 2, .int .i64 0]) ∧ MAt w p 2 pgT 2 y) := by
    have := mat_read hM 4097 (by decide) 1 E4.out (by decide)
    rw [V4.out] at this
    exact this
  clear hM
  go_wp2_with fail
  (with_reducible refine hc.mono ?_)
  rintro e x7 ⟨rfl, hM⟩
  have hc := mat_clear hM 0 true pgT_clear0
  clear hM
  go_wp2_with fail
  (with_reducible refine hc.mono ?_)
  rintro e x8 ⟨rfl, hM⟩
  have hc := mat_clear hM 1 false pgT_clear1
  clear hM
  go_wp2_with fail
  (with_reducible refine hc.mono ?_)
  rintro e x9 ⟨rfl, hM⟩
  have hc := mat_same hM 0 1 false pgT_same
  clear hM
  go_wp2_with fail
  (with_reducible refine hc.mono ?_)
  rintro e x10 ⟨rfl, hM⟩
  have hc := mat_ops hM
  clear hM
  go_wp2_with fail
  (with_reducible refine hc.mono ?_)
  rintro e x11 ⟨rfl, hM⟩
  have hc := mat_zero hM 1 (by kernel_rfl)
  clear hM
  go_wp2_with fail
  (with_reducible refine hc.mono ?_)
  rintro e x12 ⟨rfl, hM⟩
  have hc := mat_same hM 0 1 true pgT_same2
  clear hM
  go_wp2_with fail
  (with_reducible refine hc.mono ?_)
  rintro e x13 ⟨rfl, hM⟩
  have HO := Lib.hid hM.2
  clear hM hc
  go_wp2
  go_ret
  exact ⟨rfl, HO.out⟩
end Go.Proofs.Ytfiofjalpaeohaa
namespace Go.Proofs.Ytfiofjalpaeohaa
set_option linter.unusedVariables false
set_option linter.unusedSimpArgs false
open Go.RowKit
/-- Both memories, and what else the statement has made. -/
def ST (w : World) (p q n : Nat) (pg : Int → Option (List Nat)) (ops : Nat) (pg' : Int → Option (List Nat)) (ops' lim : Nat) (E : List Asn) (x : World) : Prop := Stands w (MemA p n pg ops :: R5A q n (bytesOf pg') ops' lim :: E) x
section
variable {w x y : World} {p q n ops ops' ops1 lim lim1 : Nat} {pg pg' pg1 : Int → Option (List Nat)} {E : List Asn}
theorem st_old (h : ST w p q n pg ops pg' ops' lim E x) (ho : Old x y) : ST w p q n pg ops pg' ops' lim E y := stands_then h ho
theorem st_w (h : ST w p q n pg ops pg' ops' lim E x) : Old w x := stands_old h
theorem st_mem {f : FuncId} {args : Array Value} {v : Value} (ht : Turns Try.prog f args (MemA p n pg ops) v (MemA p n pg1 ops1)) (h : ST w p q n pg ops pg' ops' lim E x) :
    Calls Try.prog f args x (fun e y => e = .returned v ∧ ST w p q n pg1 ops1 pg' ops' lim E y) := turns_stands ht (loc_mem ..) h (i := 0) rfl
theorem st_ref {f : FuncId} {args : Array Value} {v : Value} (ht : Turns Try.prog f args (R5A q n (bytesOf pg') ops' lim) v (R5A q n (bytesOf pg1) ops1 lim1)) (h : ST w p q n pg ops pg' ops' lim E x) :
    Calls Try.prog f args x (fun e y => e = .returned v ∧ ST w p q n pg ops pg1 ops1 lim1 E y) := turns_stands ht (loc_r5 ..) h (i := 1) rfl
theorem st_memO (h : ST w p q n pg ops pg' ops' lim E x) : ∃ O, MemA p n pg ops O x := by obtain ⟨O, h1, -⟩ := stands_get (i := 0) h rfl; exact ⟨O, h1⟩
theorem st_refO (h : ST w p q n pg ops pg' ops' lim E x) : ∃ O, R5A q n (bytesOf pg') ops' lim O x := by obtain ⟨O, h1, -⟩ := stands_get (i := 1) h rfl; exact ⟨O, h1⟩
theorem st_len (h : ST w p q n pg ops pg' ops' lim E x) : ∀ k, (pageOf pg k).length = 4096 := by obtain ⟨O, h1⟩ := st_memO h; exact mem_len h1
theorem st_pts {b : Nat} {C : Array Value} {t : TypeId} (h : ST w p q n pg ops pg' ops' lim (Pts b C t :: E) x) : x.heap[b]? = some (.cells C t) := pts_get (i := 2) h rfl
theorem st_new (h : ST w p q n pg ops pg' ops' lim E x) (C : Array Value) (t : TypeId) : ST w p q n pg ops pg' ops' lim (Pts x.heap.size C t :: E) (x.alloc (.cells C t)) := stands_two (stands_pts h C t)
theorem st_row {g c : Nat} {L : List Nat} (h : ST w p q n pg ops pg' ops' lim E x) (ho : Old x y) (hr : Row y x.heap.size g c L) : ST w p q n pg ops pg' ops' lim (RowA g c L :: E) y := stands_two (stands_row h ho hr)
theorem st_less {A : Asn} (h : ST w p q n pg ops pg' ops' lim (A :: E) x) : ST w p q n pg ops pg' ops' lim E x := stands_erase 2 h
theorem st_rowAt {g c : Nat} {L : List Nat} (h : ST w p q n pg ops pg' ops' lim (RowA g c L :: E) x) : Row x 0 g c L := rowA_get (i := 2) h rfl
theorem st_rowPut {g c : Nat} {L : List Nat} (h : ST w p q n pg ops pg' ops' lim (RowA g c L :: E) x) (k u : Nat) (hu : u < 256) : ST w p q n pg ops pg' ops' lim (RowA g c (L.set k u) :: E) (x.setCell ⟨g, k, none⟩ (.int .u8 u)) := rowA_put (i := 2) h rfl k u hu
theorem st_lim (h : ST w p q n pg ops pg' ops' lim E x) (hl : lim ≤ lim1) : ST w p q n pg ops pg' ops' lim1 E x := by
  have h' : Stands w _ x := h
  obtain ⟨O1, p1, -, p3⟩ := stands_turn (i := 1) h' rfl
  exact p3 (R5A q n (bytesOf pg') ops' lim1) O1 x (loc_r5 ..) (r5A_lim hl _ _ p1) (fun b hb => .inl hb) (Only.refl _ _)
/-- The document's counts lie in its block. -/
theorem st_ref_cells (h : ST w p q n pg ops pg' ops' lim E x) : ∃ v, x.heap[q]? = some (.cells #[.int .i64 (n : Nat), v, .int .i64 (ops' : Nat)] 103) := by
  obtain ⟨O, h1⟩ := st_refO h
  obtain ⟨ad, c, L, h2, -⟩ := h1.1
  exact ⟨_, h2.hq⟩
theorem bytes_zero_of : bytesOf (fun _ => none) = fun _ => 0 := by
  funext a
  show (pageOf _ _).getD _ 0 = 0
  unfold pageOf
  rw [Option.getD_none, zeros_getD]
theorem kind_mod7 (x : Int) : ∃ κ : Nat, (wrap64 (x.tmod 7 + 7)).tmod 7 = (κ : Int) ∧ κ < 7 := by
  have h1 := Int.tmod_lt_of_pos x (show (0 : Int) < 7 by decide)
  have h2 : -7 < x.tmod 7 := by
    by_cases h : 0 ≤ x
    · rw [Int.tmod_eq_emod_of_nonneg h]; omega
    · have e : x.tmod 7 = -((-x).tmod 7) := by rw [Int.neg_tmod, Int.neg_neg]
      rw [e, Int.tmod_eq_emod_of_nonneg (by omega)]; omega
  refine ⟨((x.tmod 7 + 7).tmod 7).toNat, ?_, ?_⟩
  · rw [IntWalk.wrap64_in _ (by omega), Int.tmod_eq_emod_of_nonneg (by omega)]; omega
  · rw [Int.tmod_eq_emod_of_nonneg (by omega)]; omega
end
end Go.Proofs.Ytfiofjalpaeohaa
namespace Go.Proofs.Ytfiofjalpaeohaa
set_option linter.unusedVariables false
set_option linter.unusedSimpArgs false
open Go.ChangeShapes Go.WideShapes Go.Deep Go.RowKit Go.Joins
/-- A slice of whole numbers reads as l. -/
def Ints (w : World) (ad : Option Addr) (c : Nat) (l : List Int) : Prop :=
  l.length ≤ c ∧ c ≤ maxLen ∧ (ad = none → c = 0) ∧ ∀ (k : Nat) (x : Int), l[k]? = some x → I64 x ∧ ∃ bb off, ad = some ⟨bb, off, none⟩ ∧ bb < w.heap.size ∧ w.cell? ⟨bb, off + k, none⟩ = some (.int .i64 x)
theorem ints_old {w x : World} {ad : Option Addr} {c : Nat} {l : List Int} (h : Ints w ad c l) (ho : Old w x) : Ints x ad c l := by
  refine ⟨h.1, h.2.1, h.2.2.1, fun k y hy => ?_⟩
  obtain ⟨a, bb, off, rfl, hb, hc⟩ := h.2.2.2 k y hy
  exact ⟨a, bb, off, rfl, Nat.lt_of_lt_of_le hb ho.size, by rw [ho.cell hb]; exact hc⟩
section
variable {H : Type} {enc : TypeId × Value → H} {P : Program} {w : World}
end
end Go.Proofs.Ytfiofjalpaeohaa
namespace Go.Proofs.Ytfiofjalpaeohaa
set_option linter.unusedVariables false
set_option linter.unusedSimpArgs false
open Go.RowKit
/-- Where a number stands in a page. -/
def posN (x : Int) : Nat := ((x.tmod 4096 + 4096).tmod 4096).toNat
theorem pos_range (x : Int) : -4096 < x.tmod 4096 ∧ x.tmod 4096 < 4096 := by
  refine ⟨?_, Int.tmod_lt_of_pos x (by decide)⟩
  by_cases h : 0 ≤ x
  · rw [Int.tmod_eq_emod_of_nonneg h]; omega
  · have e : x.tmod 4096 = -((-x).tmod 4096) := by rw [Int.neg_tmod, Int.neg_neg]
    rw [e, Int.tmod_eq_emod_of_nonneg (by omega)]; omega
theorem pos_lt (x : Int) : posN x < 4096 := by
  have := pos_range x
  unfold posN
  rw [Int.tmod_eq_emod_of_nonneg (by omega)]; omega
theorem pos_val (x : Int) : (wrap64 (x.tmod 4096 + 4096)).tmod 4096 = ((posN x : Nat) : Int) := by
  have := pos_range x
  rw [IntWalk.wrap64_in _ (by omega)]
  unfold posN
  rw [Int.tmod_eq_emod_of_nonneg (by omega)]; omega
/-- The page behind k bytes. -/
def pageN (at_ : List Int) (b : List Nat) : Nat → List Nat
  | 0 => zeros4096
  | k + 1 => (pageN at_ b k).set (posN (at_.getD k 0)) (b.getD k 0)
theorem pageN_length (at_ : List Int) (b : List Nat) (k : Nat) : (pageN at_ b k).length = 4096 := by
  induction k with
  | zero => exact zeros4096_length
  | succ k ih => unfold pageN; rw [List.length_set]; exact ih
/-- How many bytes are said. -/
def fewN (at_ : List Int) (b : List Nat) : Nat := min (min at_.length b.length) 64
set_option maxHeartbeats 2000000 in
set_option maxRecDepth 100000 in
theorem page3_calls (ad : Option Addr) (at_ : List Int) (ca : Nat) (bd : Option Addr) (b : List Nat) (cb : Nat) (w : World) (hA : Ints w ad ca at_) (hB : Bytes w bd cb b) :
    Calls Try.prog 18 #[.slice ad at_.length ca, .slice bd b.length cb] w (fun e w' => ∃ g c, e = .returned (.slice (some ⟨g, 0, none⟩) 4096 c) ∧ Row w' w.heap.size g c (pageN at_ b (fewN at_ b)) ∧ Old w w') := by
  obtain ⟨w1, hmk, hrow, hO⟩ := make_page w
  have hla : at_.length ≤ 9223372036854775807 := Nat.le_trans hA.1 hA.2.1
  have hlb : b.length ≤ 9223372036854775807 := Nat.le_trans hB.1 hB.2.1
  have HA := Lib.hid hA
  have HB := Lib.hid hB
  obtain ⟨m, hm⟩ : ∃ m, fewN at_ b = m := ⟨_, rfl⟩
  rw [hm]
  unfold fewN at hm
  have HM := Lib.hid hm
  have HR := Lib.hid hrow
  clear hA hB hm hrow
  go_enter Try.func18, Try.ntmps18
  go_wp2
  go_loopw [6] (fun i wr => ∃ k : Nat, i = .int .i64 k ∧ k ≤ m ∧ Row wr w.heap.size w.heap.size 4096 (pageN at_ b k) ∧ Old w wr) (fun i _ => (65 - intOf i).toNat)
  case atStart => exact ⟨0, rfl, by omega, HR.out, hO⟩
  case round =>
  clear HR hO hmk
  obtain ⟨k, rfl, hk, hrow, hO⟩ := hrel
  have hmm := HM.out
  by_cases hkm : k < m
  · have ka : k < at_.length := by omega
    have kb : k < b.length := by omega
    have k64 : k < 64 := by omega
    obtain ⟨x, hx⟩ : ∃ x, at_[k]? = some x := ⟨_, List.getElem?_eq_getElem ka⟩
    obtain ⟨y, hy⟩ : ∃ y, b[k]? = some y := ⟨_, List.getElem?_eq_getElem kb⟩
    obtain ⟨_, ba, oa, rfl, hba, cA⟩ := (ints_old HA.out hO).2.2.2 k x hx
    obtain ⟨y', bb, ob, hy', hy256, rfl, hbb, cB⟩ := bytes_at (bytes_old HB.out hO) k kb
    rw [hy] at hy'
    obtain rfl := Option.some.inj hy'
    have hpl := pos_lt x
    have hpv := pos_val x
    have hnext : pageN at_ b (k + 1) = (pageN at_ b k).set (posN x) y := by
      show (pageN at_ b k).set (posN (at_.getD k 0)) (b.getD k 0) = _
      rw [List.getD_eq_getElem?_getD, List.getD_eq_getElem?_getD, hx, hy]; rfl
    have hset := row_set hrow (posN x) y hy256
    rw [← hnext] at hset
    have hlen := pageN_length at_ b k
    obtain ⟨z, hz⟩ : ∃ z, (pageN at_ b k)[posN x]? = some z := ⟨_, List.getElem?_eq_getElem (by omega)⟩
    have cP := row_cell hrow hz
    have fP := row_frozen hrow (posN x)
    have hO2 := old_set hO (Nat.le_refl w.heap.size) (posN x) (.int .u8 y)
    have HS := Lib.hid (And.intro hset hO2)
    generalize posN x = P at *
    clear hnext hset hO2 hlen hz hrow hx hy hba hbb hmm
    go_wp2_with fail
    refine wp_region_tail (S := Is wr.drew) 12 (by kernel_rfl) (by kernel_rfl) (by kernel_rfl) (by decide) rfl ?_
    repeat (apply walked_cons; (first | exact gives_and rfl rfl rfl rfl | exact gives_or rfl rfl rfl rfl | (focus (intro wS hS; cases hS; go_wp2; exact ⟨rfl, rfl, rfl⟩; done)) | (focus (apply gives_guard; (focus (first | exact wanted_yes rfl rfl rfl | exact wanted_no rfl rfl rfl | exact wanted_yes2 rfl rfl rfl | exact wanted_no2 rfl rfl rfl)); (focus (intro hx9; (try simp only [Bool.not_eq_true', Bool.and_eq_true, Bool.not_not] at hx9); (try obtain ⟨hx9, hy9⟩ := hx9); (try subst hy9); (try subst hx9); (first | exact gives_and rfl rfl rfl rfl | exact gives_or rfl rfl rfl rfl | (intro wS hS; cases hS; go_wp2; exact ⟨rfl, rfl, rfl⟩; done))))))); rfl; (try simp only [Act.put, List.setIfInBounds_toArray, List.set_cons_succ, List.set_cons_zero]))
    apply walked_nil
    intro wS hS
    cases hS
    show wpList _ _ _ [_, _] _ _
    go_wp2
    go_roundw
    case rel => exact ⟨k + 1, by go_num, by omega, HS.out.1, old_drew HS.out.2⟩
    case measure => (simp [intOf]) <;> omega
  · obtain rfl : k = m := by omega
    have HRk := Lib.hid (And.intro hrow hO)
    clear hrow hO
    go_wp2
    all_goals
      go_ret
      exact ⟨_, _, rfl, HRk.out.1, HRk.out.2⟩
end Go.Proofs.Ytfiofjalpaeohaa
namespace Go.Proofs.Ytfiofjalpaeohaa
set_option linter.unusedVariables false
set_option linter.unusedSimpArgs false
open Go.RowKit
/-- A till operation i has come, then B till j has, then C. -/
def TwoCalls (i j : Nat) (A B C : World → Prop) (l : Array Bool) (x : World) : Prop :=
  (l.getD j false = true → C x) ∧ (l.getD j false = false → l.getD i false = true → B x) ∧ (l.getD i false = false → A x) ∧ (l.getD j false = true → l.getD i false = true)
section
variable {i j : Nat} {A B C : World → Prop} {l : Array Bool} {x : World}
theorem tc_other (k : Nat) (hi : k ≠ i) (hj : k ≠ j) (h : TwoCalls i j A B C l x) : TwoCalls i j A B C (l.setIfInBounds k true) x := by
  unfold TwoCalls at h ⊢
  rw [getD_set_ne false hi, getD_set_ne false hj]; exact h
theorem tc_start (n : Nat) (h : A x) : TwoCalls i j A B C (Array.replicate n false) x := by
  have e : ∀ k : Nat, (Array.replicate n false).getD k false = false := by intro k; simp [Array.getElem?_replicate]; split <;> rfl
  unfold TwoCalls
  rw [e, e]
  exact ⟨fun f => (by cases f), fun _ f => (by cases f), fun _ => h, fun f => (by cases f)⟩
theorem tc_any {P : World → Prop} (h : TwoCalls i j A B C l x) (hA : A x → P x) (hB : B x → P x) (hC : C x → P x) : P x := by
  obtain ⟨h1, h2, h3, _⟩ := h
  cases e : l.getD j false with
  | true => exact hC (h1 e)
  | false =>
    cases e2 : l.getD i false with
    | true => exact hB (h2 e e2)
    | false => exact hA (h3 e2)
theorem tc_first (hij : i ≠ j) (hl : i < l.size) (hn : l.getD i false = false) (h : TwoCalls i j A B C l x) : A x ∧ ∀ y, B y → TwoCalls i j A B C (l.setIfInBounds i true) y := by
  obtain ⟨h1, h2, h3, h4⟩ := h
  have nj : l.getD j false = false := by
    cases e : l.getD j false with
    | false => rfl
    | true => have := h4 e; rw [hn] at this; cases this
  have si : (l.setIfInBounds i true).getD i false = true := by simp [hl]
  refine ⟨h3 hn, fun y hy => ?_⟩
  unfold TwoCalls
  rw [si, getD_set_ne false hij, nj]
  exact ⟨fun f => (by cases f), fun _ _ => hy, fun f => (by cases f), fun _ => rfl⟩
theorem tc_second (hij : i ≠ j) (hl : j < l.size) (hi : l.getD i false = true) (hn : l.getD j false = false) (h : TwoCalls i j A B C l x) : B x ∧ ∀ y, C y → TwoCalls i j A B C (l.setIfInBounds j true) y := by
  obtain ⟨h1, h2, h3, h4⟩ := h
  have sj : (l.setIfInBounds j true).getD j false = true := by simp [hl]
  refine ⟨h2 hn hi, fun y hy => ?_⟩
  unfold TwoCalls
  rw [sj, getD_set_ne false hij.symm, hi]
  exact ⟨fun _ => hy, fun f => (by cases f), fun f => (by cases f), fun _ => rfl⟩
theorem tc_end (hj : l.getD j false = true) (h : TwoCalls i j A B C l x) : C x := h.1 hj
end
end Go.Proofs.Ytfiofjalpaeohaa
namespace Go.Proofs.Ytfiofjalpaeohaa
set_option linter.unusedVariables false
set_option linter.unusedSimpArgs false
open Go.RowKit
end Go.Proofs.Ytfiofjalpaeohaa
namespace Go.Proofs.Ytfiofjalpaeohaa
set_option linter.unusedVariables false
set_option linter.unusedSimpArgs false
open Go.RowKit
end Go.Proofs.Ytfiofjalpaeohaa
namespace Go.Proofs.Ytfiofjalpaeohaa
set_option linter.unusedVariables false
set_option linter.unusedSimpArgs false
open Go.RowKit
section
variable {n p gp gb : Nat} {w x y : World} {P : List Nat} {pg pg' : Int → Option (List Nat)} {F F' on : List Bool}
end
end Go.Proofs.Ytfiofjalpaeohaa
namespace Go.Proofs.Ytfiofjalpaeohaa
set_option linter.unusedVariables false
set_option linter.unusedSimpArgs false
open Go.ChangeShapes Go.WideShapes Go.Deep Go.RowKit Go.Joins
section
variable {H : Type} {enc : TypeId × Value → H} {P : Program} {w : World}
end
end Go.Proofs.Ytfiofjalpaeohaa
namespace Go.Proofs.Ytfiofjalpaeohaa
set_option linter.unusedVariables false
set_option linter.unusedSimpArgs false
open Go.ChangeShapes Go.WideShapes Go.Deep Go.RowKit Go.Joins
section
variable {H : Type} {enc : TypeId × Value → H} {P : Program} {w : World}
theorem open_intscell {t e : TypeId} {v : Value} {d : DataW H} {p : List MemPlace} (ht : P.underlying t = some (.slice e)) (he : P.underlying e = some (.int .i64)) (hc : P.cellsOf e = 1)
    (hv : ∃ a n c, v = .slice a n c) (h : DataW.Trod enc P w 0 (fun _ => true) true t v d p) :
    ∃ ad cap l, v = .slice ad l.length cap ∧ Ints w ad cap l := by
  obtain ⟨a0, len0, cap0, rfl⟩ := hv
  obtain ⟨fuel, hf⟩ := h
  rcases Go.ChangeShapes.open_ints ht he hc hf with ⟨hcs, _⟩ | ⟨a, len, cap, zs, hcs, _, hl, hm, hz, _, hcell, hwz⟩
  · simp [Value.cells] at hcs
    obtain ⟨rfl, rfl, rfl⟩ := hcs
    exact ⟨none, 0, [], rfl, Nat.le_refl _, Nat.zero_le _, fun _ => rfl, fun k x hx => by simp at hx⟩
  · simp [Value.cells] at hcs
    obtain ⟨rfl, rfl, rfl⟩ := hcs
    simp only [if_true] at hz
    have hlen : (zs.take len0).length = len0 := by simp; omega
    refine ⟨some a, cap0, zs.take len0, by rw [hlen], by omega, hm, (fun e => by cases e), fun k x hx => ?_⟩
    have hk : k < len0 := by
      have := (List.getElem?_eq_some_iff.1 hx).1
      rwa [hlen] at this
    have hkz : k < zs.length := by omega
    rw [List.getElem?_take, if_pos hk, List.getElem?_eq_getElem hkz] at hx
    have hx' : zs[k] = x := Option.some.inj hx
    have hw := i64_of (hwz _ (List.getElem_mem hkz))
    have hc' := hcell k hkz
    rw [List.getD_eq_getElem?_getD, List.getElem?_eq_getElem hkz] at hc'
    simp only [Option.getD_some] at hc'
    obtain ⟨ab, ao, spot⟩ := a
    have hspot : spot = none := by
      have := (cell_plain (hcell 0 (by omega))).1
      simpa [Addr.add] using this
    subst hspot
    rw [add_eq _ _ rfl] at hc'
    rw [hx'] at hc' hw
    exact ⟨hw, ab, ao, rfl, (cell_plain hc').2, hc'⟩
theorem open_bytescell {t e : TypeId} {v : Value} {d : DataW H} {p : List MemPlace} (ht : P.underlying t = some (.slice e)) (he : P.underlying e = some (.int .u8)) (hc : P.cellsOf e = 1)
    (hv : ∃ a n c, v = .slice a n c) (h : DataW.Trod enc P w 0 (fun _ => true) true t v d p) :
    ∃ ad cap l, v = .slice ad l.length cap ∧ Bytes w ad cap l := by
  obtain ⟨a0, len0, cap0, rfl⟩ := hv
  obtain ⟨fuel, hf⟩ := h
  rcases Go.ChangeShapes.open_ints ht he hc hf with ⟨hcs, _⟩ | ⟨a, len, cap, zs, hcs, _, hl, hm, hz, _, hcell, hwz⟩
  · simp [Value.cells] at hcs
    obtain ⟨rfl, rfl, rfl⟩ := hcs
    exact ⟨none, 0, [], rfl, Nat.le_refl _, Nat.zero_le _, fun _ => rfl, fun k x hx => by simp at hx⟩
  · simp [Value.cells] at hcs
    obtain ⟨rfl, rfl, rfl⟩ := hcs
    simp only [if_true] at hz
    have hlen : ((zs.take len0).map Int.toNat).length = len0 := by simp; omega
    refine ⟨some a, cap0, (zs.take len0).map Int.toNat, by rw [hlen], by omega, hm, (fun e => by cases e), fun k x hx => ?_⟩
    have hk : k < len0 := by
      have := (List.getElem?_eq_some_iff.1 hx).1
      rwa [hlen] at this
    have hkz : k < zs.length := by omega
    rw [List.getElem?_map, List.getElem?_take, if_pos hk, List.getElem?_eq_getElem hkz] at hx
    have hx' : zs[k].toNat = x := Option.some.inj hx
    have hw := wf_u8 (hwz _ (List.getElem_mem hkz))
    have hc' := hcell k hkz
    rw [List.getD_eq_getElem?_getD, List.getElem?_eq_getElem hkz] at hc'
    simp only [Option.getD_some] at hc'
    obtain ⟨ab, ao, spot⟩ := a
    have hspot : spot = none := by
      have := (cell_plain (hcell 0 (by omega))).1
      simpa [Addr.add] using this
    subst hspot
    rw [add_eq _ _ rfl] at hc'
    refine ⟨by omega, ab, ao, rfl, (cell_plain hc').2, ?_⟩
    rw [hc']
    congr 2
    omega
/-- A step of the disk's statement, as it was handed in. -/
structure DOp where
  kind : Int
  slot : Int
  aad : Option Addr
  aca : Nat
  at_ : List Int
  bad : Option Addr
  bca : Nat
  bs : List Nat
  fad : Option Addr
  fca : Nat
  fs : List Bool
  other : Bool
/-- Its cells. -/
def DOp.cells (x : DOp) : List Value := [.int .i64 x.kind, .int .i64 x.slot, .slice x.aad x.at_.length x.aca, .slice x.bad x.bs.length x.bca, .slice x.fad x.fs.length x.fca, .bool x.other]
/-- What its slices read as. -/
def DOp.ok (w : World) (x : DOp) : Prop := I64 x.kind ∧ I64 x.slot ∧ Ints w x.aad x.aca x.at_ ∧ Bytes w x.bad x.bca x.bs ∧ Bools w x.fad x.fca x.fs
end
end Go.Proofs.Ytfiofjalpaeohaa
namespace Go.Proofs.Ytfiofjalpaeohaa
set_option linter.unusedVariables false
set_option linter.unusedSimpArgs false
open Go.ChangeShapes Go.WideShapes Go.Deep Go.RowKit Go.Joins
theorem u64_nat5 {x : Int} (h : (Lit.int .u64 x).wf = true) : ∃ n : Nat, x = n ∧ n < 18446744073709551616 := by
  simp [Lit.wf, IntKind.min, IntKind.max, IntKind.signed, IntKind.bits] at h
  exact ⟨x.toNat, by omega, by omega⟩
section
variable {H : Type} {enc : TypeId × Value → H} {P : Program} {w : World}
end
end Go.Proofs.Ytfiofjalpaeohaa
namespace Go.Proofs.Ytfiofjalpaeohaa
set_option linter.unusedVariables false
set_option linter.unusedSimpArgs false
open Go.ChangeShapes Go.WideShapes Go.Deep Go.RowKit Go.Joins
/-- A step, as it was handed in. -/
structure Op5 where
  kind : Int
  size : Int
  frame : Int
  addr : Nat
  v : Nat
  at_A : Option Addr
  at_C : Nat
  at_ : List Int
  bA : Option Addr
  bC : Nat
  b : List Nat
  other : Bool
/-- Its cells. -/
def Op5.cells (x : Op5) : List Value := [.int .i64 x.kind, .int .i64 x.size, .int .i64 x.frame, .int .u64 (x.addr : Nat), .int .u64 (x.v : Nat), .slice x.at_A x.at_.length x.at_C, .slice x.bA x.b.length x.bC, .bool x.other]
/-- What is known of it. -/
def Op5.ok (w : World) (x : Op5) : Prop := I64 x.kind ∧ I64 x.size ∧ I64 x.frame ∧ x.addr < 18446744073709551616 ∧ x.v < 18446744073709551616 ∧ Ints w x.at_A x.at_C x.at_ ∧ Bytes w x.bA x.bC x.b
/-- A slice of steps reads as l. -/
def Op5s (w : World) (ad : Option Addr) (l : List Op5) : Prop :=
  ∀ (i : Nat) (x : Op5), l[i]? = some x → x.ok w ∧ ∃ b off, ad = some ⟨b, off, none⟩ ∧ b < w.heap.size ∧ ∀ (c : Nat) (v : Value), x.cells[c]? = some v → w.cell? ⟨b, off + i * 8 + c, none⟩ = some v
theorem op5_old {w x : World} {o : Op5} (h : o.ok w) (ho : Old w x) : o.ok x := ⟨h.1, h.2.1, h.2.2.1, h.2.2.2.1, h.2.2.2.2.1, ints_old h.2.2.2.2.2.1 ho, bytes_old h.2.2.2.2.2.2 ho⟩
theorem op5s_old {w x : World} {ad : Option Addr} {l : List Op5} (h : Op5s w ad l) (ho : Old w x) : Op5s x ad l := by
  intro i y hy
  obtain ⟨h1, b, off, e, hb, hc⟩ := h i y hy
  exact ⟨op5_old h1 ho, b, off, e, Nat.lt_of_lt_of_le hb ho.size, fun c v hv => by rw [ho.cell (p := ⟨b, off + i * 8 + c, none⟩) hb]; exact hc c v hv⟩
section
variable {H : Type} {enc : TypeId × Value → H} {P : Program} {w : World}
theorem open_op5s {t0 e : TypeId} {e5 e6 : TypeId} {f0 f1 f2 f3 f4 f5 f6 f7 : Field} {v : Value} {d : DataW H} {p : List MemPlace} (ht : P.underlying t0 = some (.slice e)) (he : P.underlying e = some (.struct #[f0, f1, f2, f3, f4, f5, f6, f7])) (ce : P.cellsOf e = 8)
    (o0 : f0.offset = 0) (o1 : f1.offset = 1) (o2 : f2.offset = 2) (o3 : f3.offset = 3) (o4 : f4.offset = 4) (o5 : f5.offset = 5) (o6 : f6.offset = 6) (o7 : f7.offset = 7)
    (c0 : P.cellsOf f0.type = 1) (c1 : P.cellsOf f1.type = 1) (c2 : P.cellsOf f2.type = 1) (c3 : P.cellsOf f3.type = 1) (c4 : P.cellsOf f4.type = 1) (c5 : P.cellsOf f5.type = 1) (c6 : P.cellsOf f6.type = 1) (c7 : P.cellsOf f7.type = 1)
    (h0 : P.underlying f0.type = some (.int .i64)) (h1 : P.underlying f1.type = some (.int .i64)) (h2 : P.underlying f2.type = some (.int .i64)) (h3 : P.underlying f3.type = some (.int .u64)) (h4 : P.underlying f4.type = some (.int .u64)) (h5 : P.underlying f5.type = some (.slice e5)) (h6 : P.underlying f6.type = some (.slice e6)) (h7 : P.underlying f7.type = some .bool)
    (u5 : P.underlying e5 = some (.int .i64)) (k5 : P.cellsOf e5 = 1) (u6 : P.underlying e6 = some (.int .u8)) (k6 : P.cellsOf e6 = 1)
    (hv : ∃ a n c, v = .slice a n c) (h : DataW.Trod enc P w 0 (fun _ => true) true t0 v d p) :
    ∃ ad cap l, v = .slice ad l.length cap ∧ l.length ≤ maxLen ∧ Op5s w ad l := by
  obtain ⟨a0, len0, cap0, rfl⟩ := hv
  obtain ⟨fuel, hf⟩ := h
  rcases Go.Deep.open_slice ht hf with ⟨hcs, _⟩ | ⟨a, len, cap, m, n, D, Pl, hcs, _, hl, hm, hmm, _, hi⟩
  · simp [Value.cells] at hcs
    obtain ⟨rfl, rfl, rfl⟩ := hcs
    exact ⟨none, 0, [], rfl, Nat.zero_le _, fun i x hx => by simp at hx⟩
  · simp [Value.cells] at hcs
    obtain ⟨rfl, rfl, rfl⟩ := hcs
    have hlm : len0 ≤ m := by rw [hmm]; split <;> omega
    have hspot : len0 = 0 ∨ a.spot = none := by
      by_cases hz : len0 = 0
      · exact .inl hz
      · obtain ⟨cs', g1, g2⟩ := hi 0 (by omega)
        rw [ce] at g1
        obtain ⟨_, hlen, hcell⟩ := World.cells?_some g1
        have z0 := hcell 0 (by omega)
        rw [List.getElem?_eq_getElem (show 0 < cs'.length by omega)] at z0
        exact .inr (by simpa [Addr.add] using (cell_plain z0).1)
    obtain ⟨l, hll, hq⟩ := list_of (Q := fun i (x : Op5) => x.ok w ∧ ∃ b off, (some a : Option Addr) = some ⟨b, off, none⟩ ∧ b < w.heap.size ∧ ∀ (c : Nat) (v : Value), x.cells[c]? = some v → w.cell? ⟨b, off + i * 8 + c, none⟩ = some v) len0 (fun i hil => by
      obtain ⟨cs', g1, g2⟩ := hi i (by omega)
      rw [ce] at g1
      obtain ⟨_, hlen, hcell⟩ := World.cells?_some g1
      obtain ⟨xs, k, hk, hxy, _, hxl, hff⟩ := DataW.trod_struct he g2
      match xs, hxl, cs', hlen with
      | [y0, y1, y2, y3, y4, y5, y6, y7], _, [w0, w1, w2, w3, w4, w5, w6, w7], _ =>
        have t0 := hff 0 f0 rfl
        have t1 := hff 1 f1 rfl
        have t2 := hff 2 f2 rfl
        have t3 := hff 3 f3 rfl
        have t4 := hff 4 f4 rfl
        have t5 := hff 5 f5 rfl
        have t6 := hff 6 f6 rfl
        have t7 := hff 7 f7 rfl
        simp only [o0, o1, o2, o3, o4, o5, o6, o7, c0, c1, c2, c3, c4, c5, c6, c7] at t0 t1 t2 t3 t4 t5 t6 t7
        change DataW.trod enc P w 0 _ _ k f0.type [w0] = some y0 at t0
        change DataW.trod enc P w 0 _ _ k f1.type [w1] = some y1 at t1
        change DataW.trod enc P w 0 _ _ k f2.type [w2] = some y2 at t2
        change DataW.trod enc P w 0 _ _ k f3.type [w3] = some y3 at t3
        change DataW.trod enc P w 0 _ _ k f4.type [w4] = some y4 at t4
        change DataW.trod enc P w 0 _ _ k f5.type [w5] = some y5 at t5
        change DataW.trod enc P w 0 _ _ k f6.type [w6] = some y6 at t6
        change DataW.trod enc P w 0 _ _ k f7.type [w7] = some y7 at t7
        obtain ⟨n0, q0, _, r0⟩ := DataW.trod_int h0 t0
        obtain ⟨n1, q1, _, r1⟩ := DataW.trod_int h1 t1
        obtain ⟨n2, q2, _, r2⟩ := DataW.trod_int h2 t2
        obtain ⟨n3, q3, _, r3⟩ := DataW.trod_int h3 t3
        obtain ⟨v3, z3, s3⟩ := u64_nat5 r3
        obtain ⟨n4, q4, _, r4⟩ := DataW.trod_int h4 t4
        obtain ⟨v4, z4, s4⟩ := u64_nat5 r4
        obtain ⟨a5, l5, b5, q5⟩ := slice_form h5 t5
        obtain ⟨a6, l6, b6, q6⟩ := slice_form h6 t6
        obtain ⟨n7, q7, _⟩ := DataW.trod_bool h7 t7
        simp only [List.cons.injEq, and_true] at q0 q1 q2 q3 q4 q5 q6 q7
        subst q0 q1 q2 z3 q3 z4 q4 q5 q6 q7
        obtain ⟨ad5, ca5, L5, p5, I5⟩ := open_intscell h5 u5 k5 ⟨_, _, _, rfl⟩ (show DataW.Trod enc P w 0 (fun _ => true) true f5.type (.slice a5 l5 b5) y5.1 y5.2 from ⟨k, t5⟩)
        obtain ⟨ad6, ca6, L6, p6, I6⟩ := open_bytescell h6 u6 k6 ⟨_, _, _, rfl⟩ (show DataW.Trod enc P w 0 (fun _ => true) true f6.type (.slice a6 l6 b6) y6.1 y6.2 from ⟨k, t6⟩)
        rw [p5, p6] at hcell
        refine ⟨⟨n0, n1, n2, v3, v4, ad5, ca5, L5, ad6, ca6, L6, n7⟩, ⟨i64_of r0, i64_of r1, i64_of r2, s3, s4, I5, I6⟩, ?_⟩
        obtain ⟨ab, ao, spot⟩ := a
        have z0 := hcell 0 (by omega)
        rw [add_add] at z0
        have hspot : spot = none := by
          rcases hspot with e | e
          · omega
          · exact e
        subst hspot
        refine ⟨ab, ao, rfl, ?_, fun c v hc => ?_⟩
        · rw [add_eq _ _ rfl] at z0; exact (cell_plain z0).2
        · have hc6 : c < 8 := (List.getElem?_eq_some_iff.1 hc).1
          have zc := hcell c (by omega)
          rw [add_add, add_eq _ _ rfl] at zc
          rw [show ao + i * 8 + c = ao + (i * 8 + c) by omega, zc]
          exact hc)
    exact ⟨some a, cap0, l, by rw [hll], by omega, fun i x hx => hq i x hx⟩
end
end Go.Proofs.Ytfiofjalpaeohaa
namespace Go.Proofs.Ytfiofjalpaeohaa
set_option linter.unusedVariables false
set_option linter.unusedSimpArgs false
open Go.RowKit
/-- The slots that the mask names are told anew. -/
def mergeL (f : Nat → Value) : List Bool → Nat → List Value → List Value
  | true :: m, k, _ :: l => f k :: mergeL f m (k + 1) l
  | false :: m, k, v :: l => v :: mergeL f m (k + 1) l
  | [], _, l => l
  | _ :: _, _, [] => []
def mergeA (m : List Bool) (f : Nat → Value) (a : Act) : Act := ⟨(mergeL f m 0 a.tmps.toList).toArray, a.defers⟩
def slotL : List Value → Nat → Value
  | [], _ => undef
  | v :: _, 0 => v
  | _ :: l, k + 1 => slotL l k
def slotF (a : Act) (k : Nat) : Value := slotL a.tmps.toList k
theorem mergeL_self (L : List Value) : ∀ (m : List Bool) (k : Nat) (l : List Value), (∀ i, slotL L (k + i) = slotL l i) → mergeL (slotL L) m k l = l
  | true :: m, k, v :: l, h => by
    unfold mergeL
    rw [mergeL_self L m (k + 1) l (fun i => by rw [show k + 1 + i = k + (i + 1) by omega, h]; rfl)]
    have := h 0
    rw [Nat.add_zero] at this
    rw [this]; rfl
  | false :: m, k, v :: l, h => by
    unfold mergeL
    rw [mergeL_self L m (k + 1) l (fun i => by rw [show k + 1 + i = k + (i + 1) by omega, h]; rfl)]
  | [], k, l, h => by cases l <;> rfl
  | true :: m, k, [], h => rfl
  | false :: m, k, [], h => rfl
theorem mergeA_self (m : List Bool) (a : Act) : mergeA m (slotF a) a = a := by
  unfold mergeA slotF
  rw [mergeL_self a.tmps.toList m 0 a.tmps.toList (fun i => by rw [Nat.zero_add])]
section
variable {P : Program}
theorem wp_cutF {s : Code} {K : Act → World → Prop} {Q' : Exit → Act → World → Prop} {a : Act} {w : World} (m : List Bool) (R : (Nat → Value) → World → Prop)
    (rest : ∀ f w', R f w' → K (mergeA m f a) w')
    (first : ∀ (J K' : Act → World → Prop), (∀ a' w', a' = mergeA m (slotF a') a → R (slotF a') w' → J a' w') → (∀ a' w', Met J a' w' → K' a' w') → s.wp P (Exit.then K' Q') a w) : s.wp P (Exit.then K Q') a w := by
  refine wp_cut (fun a' w' => a' = mergeA m (slotF a') a ∧ R (slotF a') w') (fun a' w' h => ?_) (fun J K' h1 h2 => first J K' (fun a' w' e r => h1 a' w' ⟨e, r⟩) h2)
  rw [h.1]
  exact rest _ _ h.2
theorem wp_loopF {c : Code} {Q : Exit → Act → World → Prop} {a : Act} {w : World} (m : List Bool) (R : (Nat → Value) → World → Prop) (mu : (Nat → Value) → Nat)
    (start : R (slotF a) w)
    (round : ∀ f w', R f w' → ∀ (J K' : Act → World → Prop), (∀ a' w'', a' = mergeA m (slotF a') a → R (slotF a') w'' → mu (slotF a') < mu f → J a' w'') → (∀ a' w'', Met J a' w'' → K' a' w'') → c.wp P (Exit.then K' Q) (mergeA m f a) w') : (Code.loop c).wp P Q a w := by
  refine wp_loop (fun a' w' => ∃ f, a' = mergeA m f a ∧ R f w' ∧ mu f = mu (slotF a')) (fun a' _ => mu (slotF a')) ⟨slotF a, (mergeA_self m a).symm, start, rfl⟩ ?_
  rintro a' w' ⟨f, rfl, hR, hmu⟩
  refine wp_mono (round f w' hR (fun a'' w'' => ∃ g, (a'' = mergeA m g a ∧ R g w'' ∧ mu g = mu (slotF a'')) ∧ mu (slotF a'') < mu f) _ (fun a'' w'' e r lt => ⟨_, ⟨e, r, rfl⟩, lt⟩) (fun _ _ h => h)) ?_
  intro e a1 w1 hq
  cases e with
  | normal =>
    obtain ⟨g, h, lt⟩ := hq
    exact ⟨⟨g, h⟩, by rw [← hmu]; exact lt⟩
  | exit id => exact hq
  | goto l => exact hq
  | ret => exact hq
  | panic ch => exact hq
  | outgrown => exact hq
end
end Go.Proofs.Ytfiofjalpaeohaa
