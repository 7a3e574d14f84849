/- What a walk's steps are like: plain. No function of the program stands here. -/
import Derived.Test.YtlbehhbicmmdoaaWalkN
namespace Go.Proofs.Ytlbehhbicmmdoaa
set_option linter.unusedVariables false
set_option linter.unusedSimpArgs false
open Go.RowKit

/-- Each step's word stands in the table that the one ahead told. -/
def Way (addr : Nat) : Nat → Nat → List St → Prop
  | _, _, [] => True
  | lv, root, s :: l => s.lv = lv ∧ s.at_ = atN root addr lv ∧ (l ≠ [] → s.d.k = 1) ∧ s.d.a < 18446744073709551616 ∧ Way addr (lv + 1) s.d.a l
/-- The table of a step. -/
def tabN (root : Nat) (l : List St) (i : Nat) : Nat := match i with | 0 => root | i + 1 => match l[i]? with | some s => s.d.a | none => 0
theorem way_at {addr : Nat} : ∀ {l : List St} {lv root i : Nat} {s : St}, Way addr lv root l → l[i]? = some s →
    s.lv = lv + i ∧ s.at_ = atN (tabN root l i) addr (lv + i) ∧ (i + 1 < l.length → s.d.k = 1) ∧ s.d.a < 18446744073709551616
  | [], lv, root, i, s, _, h => by simp at h
  | t :: l, lv, root, 0, s, hw, h => by
    simp at h; subst h
    obtain ⟨h1, h2, h3, h4, _⟩ := hw
    refine ⟨h1, h2, fun hl => h3 ?_, h4⟩
    rintro rfl
    simp at hl
  | t :: l, lv, root, i + 1, s, hw, h => by
    obtain ⟨h1, h2, h3, h4, h5⟩ := hw
    have h' : l[i]? = some s := by simpa using h
    obtain ⟨g1, g2, g3, g4⟩ := way_at h5 h'
    refine ⟨by omega, ?_, fun hl => g3 (by simp at hl; omega), g4⟩
    rw [g2, show lv + 1 + i = lv + (i + 1) by omega]
    congr 1
    cases i with
    | zero => rfl
    | succ i => rfl

theorem decD_bad {st lv : Int} {x : Nat} (h : decE st lv x ≠ 0) : (decD st lv x).k = 0 := by
  unfold decD; rw [if_neg (by simp [h])]
/-- What is so of every walk from level lv on. -/
structure WalkOk (addr n lv root : Nat) (r : List St × Int) : Prop where
  way : Way addr lv root r.1
  len : r.1.length ≤ n
  stop : r.2 = -1 → r.1.length + 1 ≤ n
  some_ : r.2 ≠ -1 → 1 ≤ r.1.length
  leaf : ∀ s, r.1.getLast? = some s → (r.2 = 0 ↔ s.d.k = 2 ∨ s.d.k = 3)
theorem walkOk_one {addr n lv root : Nat} {s : St} {kd : Int} (hn : 1 ≤ n) (h1 : s.lv = lv) (h2 : s.at_ = atN root addr lv) (h3 : s.d.a < 18446744073709551616) (h4 : kd ≠ -1) (h5 : kd = 0 ↔ s.d.k = 2 ∨ s.d.k = 3) : WalkOk addr n lv root ([s], kd) :=
  { way := ⟨h1, h2, fun h => absurd rfl h, h3, trivial⟩
    len := hn
    stop := fun h => absurd h h4
    some_ := fun _ => Nat.le_refl _
    leaf := fun s' hs => by simp at hs; subst hs; exact h5 }
theorem walk_ok (raw : Nat → Nat) (ok : Nat → Bool) (st : Int) (addr : Nat) : ∀ (n lv root : Nat), n + lv = 4 → 1 ≤ n → WalkOk addr n lv root (walkN raw ok st addr n lv root) := by
  intro n
  induction n with
  | zero => intro lv root _ h; omega
  | succ n ih =>
    intro lv root hl _
    have ha := decD_a st lv (raw (atN root addr lv))
    cases hok : ok (atN root addr lv) with
    | false =>
      rw [walkN_no hok]
      exact { way := trivial, len := Nat.zero_le _, stop := fun _ => by simp, some_ := fun h => absurd rfl h, leaf := fun s h => by simp at h }
    | true =>
      by_cases h2 : decE st lv (raw (atN root addr lv)) = 2
      · rw [walkN_range hok h2]
        have hb := decD_bad (x := raw (atN root addr lv)) (st := st) (lv := lv) (by rw [h2]; decide)
        exact walkOk_one (by omega) rfl rfl ha (by decide) (by simp [hb])
      by_cases h0 : decE st lv (raw (atN root addr lv)) = 0
      case neg =>
        rw [walkN_form hok h2 h0]
        have hb := decD_bad (x := raw (atN root addr lv)) (st := st) (lv := lv) h0
        exact walkOk_one (by omega) rfl rfl ha (by decide) (by simp [hb])
      case pos =>
      by_cases k0 : (decD st lv (raw (atN root addr lv))).k = 0
      · rw [walkN_none hok h0 k0]
        exact walkOk_one (by omega) rfl rfl ha (by decide) (by simp [k0])
      by_cases k1 : (decD st lv (raw (atN root addr lv))).k = 1
      case neg =>
        rw [walkN_leaf hok h0 k0 k1]
        have hk := decD_kind st lv (raw (atN root addr lv))
        refine walkOk_one (by omega) rfl rfl ha (by decide) ⟨fun _ => ?_, fun _ => rfl⟩
        show (decD st lv (raw (atN root addr lv))).k = 2 ∨ (decD st lv (raw (atN root addr lv))).k = 3
        omega
      case pos =>
      have hn : 1 ≤ n := by
        by_cases h3 : lv = 3
        · exact absurd k1 (by rw [h3]; exact decD_last st _)
        · omega
      have hi := ih (lv + 1) (decD st lv (raw (atN root addr lv))).a (by omega) hn
      rw [walkN_table hok h0 k1]
      generalize walkN raw ok st addr n (lv + 1) (decD st lv (raw (atN root addr lv))).a = r at *
      obtain ⟨L, kd⟩ := r
      obtain ⟨i1, i2, i3, i4, i5⟩ := hi
      simp only at i1 i2 i3 i4 i5
      refine { way := ⟨rfl, rfl, fun _ => k1, ha, i1⟩, len := by simp only [List.length_cons]; omega, stop := fun h => by simp only [List.length_cons]; have := i3 h; omega, some_ := fun _ => by simp, leaf := fun s hs => ?_ }
      cases L with
      | nil =>
        simp at hs
        subst hs
        have : kd = -1 := Classical.byContradiction fun h => by have := i4 h; simp at this
        simp only [this, k1]
        decide
      | cons t L => exact i5 s (by rw [List.getLast?_cons_cons] at hs; exact hs)
end Go.Proofs.Ytlbehhbicmmdoaa
