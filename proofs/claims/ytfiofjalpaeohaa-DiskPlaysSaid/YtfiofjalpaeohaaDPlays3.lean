/- The program's disk beside the document's: the steps Write, Read, and Free, Left. -/
import Derived.Test.YtfiofjalpaeohaaDPlays2
namespace Go.Proofs.Ytfiofjalpaeohaa
set_option linter.unusedVariables false
set_option linter.unusedSimpArgs false
open Go.RowKit

section
variable {n p q : Nat} {w : World} {pg : Int → Option (List Nat)} {F : List Bool}

theorem both_np {T R K : Nat → Prop} {pg' : Int → Option (List Nat)} {F' : List Bool} {x : World} (h : Both n p q w T R K pg F pg' F' x) {b : Nat} (hb : K b) : b ≠ p ∧ b ≠ q := by
  refine ⟨fun e => ?_, fun e => ?_⟩
  · subst e
    obtain ⟨m, f, fv, _, h2, _⟩ := h.hd
    exact h2 (h.kt b hb).1
  · subst e
    obtain ⟨_, _, _, _, _, h2⟩ := h.hr
    exact (h.kt b hb).2 h2.oq

/-- Write: both tell the same. -/
theorem step_write (n p q : Nat) (w : World) (pg : Int → Option (List Nat)) (F : List Bool) (k : Int) (P : List Nat) (hP : P.length ≤ maxLen) : ∃ (a : Int) (pg1 : Int → Option (List Nat)) (F1 : List Bool),
    (∀ T R K pg' F' x ad c, Both n p q w T R K pg F pg' F' x → Bytes x ad c P → (∀ bb off, ad = some ⟨bb, off, none⟩ → P ≠ [] → K bb) →
      Calls Try.prog 19 #[.pointer (some ⟨p, 0, none⟩), .int .i64 k, .slice ad P.length c] x (PStep n p q w T R K (.int .i64 a) pg1 F1 pg' F' x)) ∧
    (∀ T R K pg0 F0 x ad c, Both n p q w T R K pg0 F0 pg F x → Bytes x ad c P → (∀ bb off, ad = some ⟨bb, off, none⟩ → P ≠ [] → K bb) →
      Calls Try.prog 20 #[.pointer (some ⟨q, 0, none⟩), .int .i64 k, .slice ad P.length c] x (RStep n p q w K (.int .i64 a) pg0 F0 pg1 F1 x)) := by
  cases hk : pg k with
  | none =>
    refine ⟨23, pg, F, fun T R K pg' F' x ad c h hB hK => ?_, fun T R K pg0 F0 x ad c h hB hK => ?_⟩
    · exact (write_none T p n pg F k ad P.length c x h.hd hk).mono fun e y hr => pstep_of h e y hr
    · exact (refWrite_none R q n pg F k _ x h.hr hk).mono fun e y hr => rstep_old h e y hr
  | some l =>
    by_cases hl : P.length = 4096
    · cases hF : F.headD false with
      | true =>
        refine ⟨13, pg, F.tail, fun T R K pg' F' x ad c h hB hK => ?_, fun T R K pg0 F0 x ad c h hB hK => ?_⟩
        · rw [hl]
          exact (write_fail T p n pg F k l ad c x h.hd hk hF).mono fun e y hr => pstep_of h e y hr
        · rw [hl]
          exact (refWrite_fail R q n pg F k l ad c x h.hr hk hF).mono fun e y hr => rstep_same h e y hr
      | false =>
        refine ⟨0, updP pg k (some P), F.tail, fun T R K pg' F' x ad c h hB hK => ?_, fun T R K pg0 F0 x ad c h hB hK => ?_⟩
        · rw [hl]
          exact (write_ok T p n pg F k l P ad c x h.hd h.tx hk hF hB hl (fun bb off e => (both_np h (hK bb off e (by rintro rfl; simp at hl))).1)).mono fun e y hr => pstep_of h e y hr
        · rw [hl]
          exact (refWrite_ok R q n pg F k l P ad c x h.hr hk hF hB hl (fun bb off e => (both_np h (hK bb off e (by rintro rfl; simp at hl))).2)).mono fun e y hr => rstep_of h e y hr
    · refine ⟨1, pg, F, fun T R K pg' F' x ad c h hB hK => ?_, fun T R K pg0 F0 x ad c h hB hK => ?_⟩
      · exact (write_arg T p n pg F k l ad P.length c x h.hd hk hl hP).mono fun e y hr => pstep_of h e y hr
      · exact (refWrite_arg R q n pg F k l ad P.length c x h.hr hk hl).mono fun e y hr => rstep_old h e y hr

/-- What a Read tells: no bytes, or a page's. -/
def ReadV (y : World) (B : Nat) (v : Value) : Option (List Nat) → Prop
  | none => v = .slice none 0 0
  | some l => ∃ g c, v = .slice (some ⟨g, 0, none⟩) 4096 c ∧ l.length = 4096 ∧ Row y B g c l

/-- Read: both tell the same; what the program tells is new. -/
theorem step_read (n p q : Nat) (w : World) (pg : Int → Option (List Nat)) (F : List Bool) (k : Int) : ∃ (a : Int) (o : Option (List Nat)) (F1 : List Bool),
    (∀ T R K pg' F' x, Both n p q w T R K pg F pg' F' x →
      Calls Try.prog 21 #[.pointer (some ⟨p, 0, none⟩), .int .i64 k] x (fun e y => ∃ v, e = .returned (.tuple #[v, .int .i64 a]) ∧ ReadV y x.heap.size v o ∧ Both n p q w (fun b => T b ∨ (x.heap.size ≤ b ∧ b < y.heap.size)) R (fun b => K b ∨ (x.heap.size ≤ b ∧ b < y.heap.size)) pg F1 pg' F' y ∧ Only (fun b => ¬ K b) x y)) ∧
    (∀ T R K pg0 F0 x, Both n p q w T R K pg0 F0 pg F x →
      Calls Try.prog 22 #[.pointer (some ⟨q, 0, none⟩), .int .i64 k] x (fun e y => ∃ v, e = .returned (.tuple #[v, .int .i64 a]) ∧ ReadV y 0 v o ∧ (∃ T R, Both n p q w T R K pg0 F0 pg F1 y) ∧ Only (fun b => ¬ K b) x y)) := by
  have more : ∀ {T R K : Nat → Prop} {pg' : Int → Option (List Nat)} {F' F1 : List Bool} {x y : World} (h : Both n p q w T R K pg F pg' F' x), IsDisk y (fun b => T b ∨ x.heap.size ≤ b) p n pg F1 → Only (fun b => ¬ (T b ∨ x.heap.size ≤ b)) x y →
      Both n p q w (fun b => T b ∨ (x.heap.size ≤ b ∧ b < y.heap.size)) R (fun b => K b ∨ (x.heap.size ≤ b ∧ b < y.heap.size)) pg F1 pg' F' y ∧ Only (fun b => ¬ K b) x y := by
    intro T R K pg' F' F1 x y h hd ho
    have ho' : Only (fun b => ¬ T b) x y := ho.mono fun b _ f hT => f (.inl hT)
    have hb := both_disk (pg1 := pg) (F1 := F1) h (disk_more hd fun b hb => .inl (.inl hb)) ho'
    refine ⟨{ hd := disk_more hd fun b hb => .inl (hb.imp id fun e => e.1), hr := hb.hr, tx := ?_, rt := fun b hR => ⟨.inl (h.rt b hR).1, (h.rt b hR).2⟩, kt := ?_, wt := fun b hw => .inl (h.wt b hw), ho := hb.ho }, keep_disk h ho'⟩
    · intro b hb'
      rcases hb' with hb' | hb'
      · exact hb.tx b hb'
      · exact hb'.2
    · intro b hb'
      rcases hb' with hb' | hb'
      · exact ⟨.inl (h.kt b hb').1, (h.kt b hb').2⟩
      · exact ⟨.inr hb', fun f => by have := h.tx b (h.rt b f).1; omega⟩
  cases hk : pg k with
  | none =>
    refine ⟨23, none, F, fun T R K pg' F' x h => ?_, fun T R K pg0 F0 x h => ?_⟩
    · exact (read_none (fun b => T b ∨ x.heap.size ≤ b) p n pg F k x (disk_more h.hd fun b hb => hb) hk).mono fun e y hr => ⟨_, hr.1, rfl, more h hr.2.1 hr.2.2⟩
    · exact (refRead_none R q n pg F k x h.hr hk).mono fun e y hr => ⟨_, hr.1, rfl, (rstep_old (v := .tuple #[.slice none 0 0, .int .i64 23]) h e y hr).2⟩
  | some l =>
    cases hF : F.headD false with
    | true =>
      refine ⟨13, none, F.tail, fun T R K pg' F' x h => ?_, fun T R K pg0 F0 x h => ?_⟩
      · exact (read_fail (fun b => T b ∨ x.heap.size ≤ b) p n pg F k l x (disk_more h.hd fun b hb => hb) hk hF).mono fun e y hr => ⟨_, hr.1, rfl, more h hr.2.1 hr.2.2⟩
      · exact (refRead_fail R q n pg F k l x h.hr hk hF).mono fun e y hr => ⟨_, hr.1, rfl, (rstep_same h e y hr).2⟩
    | false =>
      refine ⟨0, some l, F.tail, fun T R K pg' F' x h => ?_, fun T R K pg0 F0 x h => ?_⟩
      · have hl : l.length = 4096 := by
          obtain ⟨m, f, fv, _, _, _, _, _, _, _, _, h9, _⟩ := h.hd
          obtain ⟨v, _, g, c, _, hl, _⟩ := h9 k l hk
          exact hl
        exact (read_ok (fun b => T b ∨ x.heap.size ≤ b) p n pg F k l x (disk_more h.hd fun b hb => hb) hk hF).mono fun e y ⟨g, c, hr, hrow, hd, ho, _⟩ => ⟨_, hr, ⟨g, c, rfl, hl, hrow⟩, more h hd ho⟩
      · have hl : l.length = 4096 := by
          obtain ⟨_, _, _, _, _, h2⟩ := h.hr
          obtain ⟨h0, h1⟩ := h2.hin k (by rw [hk]; rfl)
          obtain ⟨j, rfl⟩ : ∃ j : Nat, k = j := ⟨k.toNat, by omega⟩
          obtain ⟨v, _, g, c, _, hl, _⟩ := h2.hpg j l hk
          exact hl
        exact (refRead_ok R q n pg F k l x h.hr hk hF).mono fun e y ⟨g, c, hr, hrow, _, hR, ho⟩ => ⟨_, hr, ⟨g, c, rfl, hl, hrow⟩, (rstep_same (v := .tuple #[.slice (some ⟨g, 0, none⟩) 4096 c, .int .i64 0]) h e y ⟨hr, hR, ho⟩).2⟩
end

end Go.Proofs.Ytfiofjalpaeohaa
