/- The program's disk beside the document's: the steps Take, Give, Fail, Free, Left. -/
import Derived.Test.YtfiofjalpaeohaaDPlays
namespace Go.Proofs.Ytfiofjalpaeohaa
set_option linter.unusedVariables false
set_option linter.unusedSimpArgs false
open Go.RowKit

theorem cnt_all (pg : Int → Option (List Nat)) : ∀ n : Nat, cntOf pg n = n → ∀ j : Nat, j < n → (pg j).isSome = true
  | 0, _, j, hj => by omega
  | n + 1, h, j, hj => by
    have hc : cntOf pg (n + 1) = cntOf pg n + if (pg n).isSome then 1 else 0 := rfl
    have hl := cnt_le pg n
    cases hn : (pg n).isSome with
    | false => rw [hc, hn] at h; simp at h; omega
    | true =>
      rw [hc, hn] at h
      simp at h
      by_cases e : j = n
      · subst e; exact hn
      · exact cnt_all pg n h j (by omega)

section
variable {n p q : Nat} {w : World} {pg : Int → Option (List Nat)} {F : List Bool}

/-- What a call on the program's disk leaves. -/
def PStep (n p q : Nat) (w : World) (T R K : Nat → Prop) (v : Value) (pg1 : Int → Option (List Nat)) (F1 : List Bool) (pg' : Int → Option (List Nat)) (F' : List Bool) (x : World) (e : Ending) (y : World) : Prop :=
  e = .returned v ∧ Both n p q w T R K pg1 F1 pg' F' y ∧ Only (fun b => ¬ K b) x y
/-- What a call on the document's disk leaves. -/
def RStep (n p q : Nat) (w : World) (K : Nat → Prop) (v : Value) (pg : Int → Option (List Nat)) (F : List Bool) (pg1 : Int → Option (List Nat)) (F1 : List Bool) (x : World) (e : Ending) (y : World) : Prop :=
  e = .returned v ∧ (∃ T R, Both n p q w T R K pg F pg1 F1 y) ∧ Only (fun b => ¬ K b) x y

theorem pstep_of {T R K : Nat → Prop} {v : Value} {pg1 pg' : Int → Option (List Nat)} {F1 F' : List Bool} {x : World} (h : Both n p q w T R K pg F pg' F' x) (e : Ending) (y : World) (hr : RetDisk x T p n v pg1 F1 e y) : PStep n p q w T R K v pg1 F1 pg' F' x e y :=
  ⟨hr.1, both_disk h hr.2.1 hr.2.2, keep_disk h hr.2.2⟩
theorem pstep_old {T R K : Nat → Prop} {v : Value} {pg' : Int → Option (List Nat)} {F' : List Bool} {x : World} (h : Both n p q w T R K pg F pg' F' x) (e : Ending) (y : World) (hr : RetB x v e y) : PStep n p q w T R K v pg F pg' F' x e y :=
  ⟨hr.1, both_disk h (disk_old h.hd hr.2) ((Only.of_below hr.2).mono fun b _ f => f.elim), (Only.of_below hr.2).mono fun b _ f => f.elim⟩
theorem rstep_of {T R K : Nat → Prop} {v : Value} {pg1 pg' : Int → Option (List Nat)} {F1 F' : List Bool} {x : World} (h : Both n p q w T R K pg F pg' F' x) (e : Ending) (y : World) (hr : RetRef x R q n v pg1 F1 e y) : RStep n p q w K v pg F pg1 F1 x e y :=
  ⟨hr.1, ⟨_, _, both_ref h hr.2.1 hr.2.2⟩, keep_ref h hr.2.2⟩
theorem rstep_same {T R K : Nat → Prop} {v : Value} {pg1 pg' : Int → Option (List Nat)} {F1 F' : List Bool} {x : World} (h : Both n p q w T R K pg F pg' F' x) (e : Ending) (y : World) (hr : e = .returned v ∧ IsRef y R q n pg1 F1 ∧ Only (fun b => b = q) x y) : RStep n p q w K v pg F pg1 F1 x e y := by
  have hq : R q := by obtain ⟨_, _, _, _, _, h2⟩ := h.hr; exact h2.oq
  have ho : Only R x y := hr.2.2.mono fun b _ e => by rw [e]; exact hq
  exact ⟨hr.1, ⟨_, _, both_ref h (ref_more hr.2.1 fun b hb => .inl hb) ho⟩, keep_ref h ho⟩
theorem rstep_old {T R K : Nat → Prop} {v : Value} {pg' : Int → Option (List Nat)} {F' : List Bool} {x : World} (h : Both n p q w T R K pg F pg' F' x) (e : Ending) (y : World) (hr : RetB x v e y) : RStep n p q w K v pg F pg' F' x e y :=
  rstep_of h e y ⟨hr.1, ref_more (ref_old h.hr hr.2) fun b hb => .inl hb, (Only.of_below hr.2).mono fun b _ f => f.elim⟩

/-- Take: both tell the same. -/
theorem step_take (n p q : Nat) (w : World) (pg : Int → Option (List Nat)) (F : List Bool) : ∃ (a b : Int) (pg1 : Int → Option (List Nat)),
    (∀ T R K pg' F' x, Both n p q w T R K pg F pg' F' x → Calls Try.prog 14 #[.pointer (some ⟨p, 0, none⟩)] x (PStep n p q w T R K (.tuple #[.int .i64 a, .int .i64 b]) pg1 F pg' F' x)) ∧
    (∀ T R K pg0 F0 x, Both n p q w T R K pg0 F0 pg F x → Calls Try.prog 15 #[.pointer (some ⟨q, 0, none⟩)] x (RStep n p q w K (.tuple #[.int .i64 a, .int .i64 b]) pg0 F0 pg1 F x)) := by
  by_cases hc : cntOf pg n = n
  · refine ⟨0, 12, pg, fun T R K pg' F' x h => ?_, fun T R K pg0 F0 x h => ?_⟩
    · exact (take_full T p n pg F x h.hd hc).mono fun e y hr => pstep_of h e y hr
    · exact (refTake_full R q n pg F x h.hr (cnt_all pg n hc)).mono fun e y hr => rstep_old h e y hr
  · obtain ⟨i, h1, h2, h3⟩ := least_free pg n hc
    refine ⟨i, 0, updP pg i (some zeros4096), fun T R K pg' F' x h => ?_, fun T R K pg0 F0 x h => ?_⟩
    · exact (take_ok T p n pg F i x h.hd h.tx h1 h2 h3).mono fun e y hr => pstep_of h e y hr
    · exact (refTake_ok R q n pg F i x h.hr h1 h2 h3).mono fun e y hr => rstep_of h e y hr

/-- Give: both tell the same. -/
theorem step_give (n p q : Nat) (w : World) (pg : Int → Option (List Nat)) (F : List Bool) (k : Int) : ∃ (a : Int) (pg1 : Int → Option (List Nat)),
    (∀ T R K pg' F' x, Both n p q w T R K pg F pg' F' x → Calls Try.prog 16 #[.pointer (some ⟨p, 0, none⟩), .int .i64 k] x (PStep n p q w T R K (.int .i64 a) pg1 F pg' F' x)) ∧
    (∀ T R K pg0 F0 x, Both n p q w T R K pg0 F0 pg F x → Calls Try.prog 17 #[.pointer (some ⟨q, 0, none⟩), .int .i64 k] x (RStep n p q w K (.int .i64 a) pg0 F0 pg1 F x)) := by
  cases hk : pg k with
  | none =>
    refine ⟨23, pg, fun T R K pg' F' x h => ?_, fun T R K pg0 F0 x h => ?_⟩
    · exact (give_none T p n pg F k x h.hd hk).mono fun e y hr => pstep_of h e y hr
    · exact (refGive_none R q n pg F k x h.hr hk).mono fun e y hr => rstep_old h e y hr
  | some l =>
    refine ⟨0, updP pg k none, fun T R K pg' F' x h => ?_, fun T R K pg0 F0 x h => ?_⟩
    · exact (give_some T p n pg F k l x h.hd hk).mono fun e y hr => pstep_of h e y hr
    · exact (refGive_some R q n pg F k l x h.hr hk).mono fun e y hr => rstep_of h e y hr

/-- Fail. -/
theorem step_fail (n p q : Nat) (w : World) (pg : Int → Option (List Nat)) (F l : List Bool) (hbig : l.length ≤ 1000000) (ad : Option Addr) (c : Nat) :
    (∀ T R K pg' F' x, Both n p q w T R K pg F pg' F' x → Bools x ad c l → Calls Try.prog 23 #[.pointer (some ⟨p, 0, none⟩), .slice ad l.length c] x (PStep n p q w T R K (.tuple #[]) pg l pg' F' x)) ∧
    (∀ T R K pg0 F0 x, Both n p q w T R K pg0 F0 pg F x → Bools x ad c l → Calls Try.prog 24 #[.pointer (some ⟨q, 0, none⟩), .slice ad l.length c] x (RStep n p q w K (.tuple #[]) pg0 F0 pg l x)) :=
  ⟨fun T R K pg' F' x h hB => (fail_calls T p n pg F ad l c x h.hd h.tx hB hbig).mono fun e y hr => pstep_of h e y hr,
    fun T R K pg0 F0 x h hB => (refFail_calls R q n pg F ad l c x h.hr hB hbig).mono fun e y hr => rstep_of h e y hr⟩
end

end Go.Proofs.Ytfiofjalpaeohaa
