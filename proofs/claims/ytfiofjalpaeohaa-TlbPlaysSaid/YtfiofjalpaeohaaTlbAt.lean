/- The package tlb: at. -/
import Derived.Test.YtfiofjalpaeohaaTlb
namespace Go.Proofs.Ytfiofjalpaeohaa
set_option linter.unusedVariables false
set_option linter.unusedSimpArgs false
open Go.RowKit

theorem eq_key (a b a' b' c c' : Int) (w : World) :
    (Op.equalIn 10000 117 (.agg #[.int .i64 a, .int .i64 b, .int .u64 c]) (.agg #[.int .i64 a', .int .i64 b', .int .u64 c'])).run Try.prog w = .ok (a == a' && (b == b' && (c == c' && true))) w := by
  refine same_struct (d := 9999) Try.underlying117 (by kernel_rfl) ?_
  refine same_cons (by rfl) (by go_simp; rfl) (by go_simp; rfl) (by go_simp) ?_
  refine same_cons (by rfl) (by go_simp; rfl) (by go_simp; rfl) (by go_simp) ?_
  refine same_cons (by rfl) (by go_simp; rfl) (by go_simp; rfl) (by go_simp) ?_
  exact same_nil

def keyB (l : Ln) (kid kas : Int) (kvp : Nat) : Bool := l.id == kid && (l.asid == kas && ((l.vp : Int) == (kvp : Int) && true))
/-- Where a key's line is; -1: nowhere. -/
def atP (kid kas : Int) (kvp : Nat) : List Pl → Nat → Int
  | [], _ => -1
  | q :: l, i => if q.on && keyB q.l kid kas kvp then i else atP kid kas kvp l (i + 1)

def AtFrame (p kb b wy i : Nat) (a : Act) : Prop := ∀ Q : Act → Prop, (∀ u1 u2 u4 u7 u8 u9 u10 u11 u12 u13 u14 u15 u16 u17 u18 u19 u20 u21 u22 u23 u24 u25 u26 u27 u28 u29 u30 u31 u32 u33 u34 u35 : Value, Q { tmps := #[.pointer (some ⟨p, 0, none⟩), u1, u2, .pointer (some ⟨kb, 0, none⟩), u4, .slice (some ⟨b, 0, none⟩) wy wy, .int .i64 (i : Nat), u7, u8, u9, u10, u11, u12, u13, u14, u15, u16, u17, u18, u19, u20, u21, u22, u23, u24, u25, u26, u27, u28, u29, u30, u31, u32, u33, u34, u35], defers := [] }) → Q a
/-- What at reads. -/
def AtS (w : World) (p gs : Nat) (bs : List Nat) (n wy : Nat) (T : List (List Pl)) (kb : Nat) (kid kas : Int) (kvp : Nat) (x : World) : Prop :=
  IsTlb x p gs bs n wy T ∧ x.heap[kb]? = some (.cells #[.int .i64 kid, .int .i64 kas, .int .u64 (kvp : Nat)] 117) ∧ Old w x
theorem atS_old {w : World} {p gs : Nat} {bs : List Nat} {n wy : Nat} {T : List (List Pl)} {kb : Nat} {kid kas : Int} {kvp : Nat} {x y : World} (h : AtS w p gs bs n wy T kb kid kas kvp x) (ho : Old x y) : AtS w p gs bs n wy T kb kid kas kvp y :=
  ⟨tlb_old h.1 ho, keep_old ho h.2.1, old_then h.2.2 ho⟩
theorem pl_cell {x : World} {p gs : Nat} {bs : List Nat} {n wy : Nat} {T : List (List Pl)} (h : IsTlb x p gs bs n wy T) {i0 b : Nat} {t : List Pl} (hb : bs[i0]? = some b) (ht : T[i0]? = some t) {i : Nat} {q : Pl} (hq : t[i]? = some q) (c : Nat) (v : Value) (hv : q.cells[c]? = some v) :
    x.cell? ⟨b, i * 12 + c, none⟩ = some v := by
  rw [cell_of (h.set_ i0 b t hb ht).2]
  have := flatC_get pl_len t i q c v hq hv
  simpa using this

set_option maxHeartbeats 8000000 in
set_option maxRecDepth 100000 in
theorem at_calls (w : World) (p gs : Nat) (bs : List Nat) (n wy : Nat) (T : List (List Pl)) (kid kas : Int) (kvp : Nat) (h : IsTlb w p gs bs n wy T) (i0 b : Nat) (t : List Pl) (hi : i0 = kvp % n) (hb : bs[i0]? = some b) (ht : T[i0]? = some t) :
    Calls Try.prog 70 #[.pointer (some ⟨p, 0, none⟩), .agg #[.int .i64 kid, .int .i64 kas, .int .u64 (kvp : Nat)]] w (RetB w (.int .i64 (atP kid kas kvp t 0))) := by
  have hwy := h.h2
  have hset := fun x (hx : Old w x) => set_calls x p gs bs n wy T kvp (tlb_old h hx) i0 b hi hb
  have htl := (h.set_ i0 b t hb ht).1
  have H := Lib.hid h
  have HB := Lib.hid (And.intro hb ht)
  have HS := Lib.hid hset
  have HTL := Lib.hid htl
  have w1 : (1 : Int) ≤ wy := by omega
  have w8 : (wy : Int) ≤ 8 := by omega
  obtain ⟨r, hr⟩ : ∃ r, atP kid kas kvp t 0 = r := ⟨_, rfl⟩
  rw [hr]
  have HR := Lib.hid hr
  clear h hi hb ht hset htl hwy hr
  go_enter Try.func70, Try.ntmps70
  go_wp2
  refine wp_scope_once 0 (fun k a x => ∃ (kb i : Nat), k + i = wy ∧ AtS w p gs bs n wy T kb kid kas kvp x ∧ atP kid kas kvp (t.drop i) i = r ∧ AtFrame p kb b wy i a) _ rfl ?pass ?first
  case first =>
    intro hp
    go_upto_region 1 with (fail)
    have hkb := new_block w (.cells #[.int .i64 kid, .int .i64 kas, .int .u64 (kvp : Nat)] 117)
    have hO := old_alloc (old_refl w) (.cells #[.int .i64 kid, .int .i64 kas, .int .u64 (kvp : Nat)] 117)
    generalize w.alloc (.cells #[.int .i64 kid, .int .i64 kas, .int .u64 (kvp : Nat)] 117) = W at *
    generalize w.heap.size = kb at *
    obtain ⟨q1, q2, q3⟩ := of_block hkb
    have hc := HS.out _ hO
    have HA : Hid (AtS w p gs bs n wy T kb kid kas kvp W) := Lib.hid ⟨tlb_old H.out hO, hkb, hO⟩
    clear hkb hO
    go_wp2_with fail
    (with_reducible refine hc.mono ?_)
    rintro e w2 ⟨rfl, hO2⟩
    have HA2 := Lib.hid (atS_old HA.out hO2)
    clear hO2 hc
    go_wp2
    go_step3
    rename_i K9 hK9
    exact hK9 _ _ (hp wy _ _ ⟨kb, 0, by omega, HA2.out, HR.out, fun _ hq => hq _ _ _ _ _ _ _ _ _ _ _ _ _ _ _ _ _ _ _ _ _ _ _ _ _ _ _ _ _ _ _ _⟩)
  case pass =>
    rintro k a x ⟨kb, i, hk, hA, hr, hfr⟩
    refine hfr (fun a => Code.wp _ _ _ a _) ?_
    intro u1 u2 u4 u7 u8 u9 u10 u11 u12 u13 u14 u15 u16 u17 u18 u19 u20 u21 u22 u23 u24 u25 u26 u27 u28 u29 u30 u31 u32 u33 u34 u35
    have HA := Lib.hid hA
    clear hfr hA
    by_cases hiw : i = wy
    · subst hiw
      have e : r = -1 := by rw [← hr, List.drop_eq_nil_of_le (by rw [HTL.out]; omega)]; rfl
      subst e
      have heq : ((i : Int) == (i : Int)) = true := by simp
      clear hr hk
      go_wp2
      simp only [toLabel]
      go_ret
      exact ⟨rfl, HA.out.2.2⟩
    · have hlt : i < wy := by omega
      obtain ⟨q, hq⟩ : ∃ q, t[i]? = some q := ⟨_, List.getElem?_eq_getElem (by rw [HTL.out]; exact hlt)⟩
      have hdrop : t.drop i = q :: t.drop (i + 1) := by
        have hil : i < t.length := (List.getElem?_eq_some_iff.1 hq).1
        rw [List.drop_eq_getElem_cons hil]
        rw [List.getElem?_eq_getElem hil] at hq
        rw [Option.some.inj hq]
      rw [hdrop] at hr
      have hcell : ∀ z, AtS w p gs bs n wy T kb kid kas kvp z → ∀ (c : Nat) (v : Value), q.cells[c]? = some v → z.cell? ⟨b, i * 12 + c, none⟩ = some v := fun z hz => pl_cell hz.1 HB.out.1 HB.out.2 hq
      have HC := Lib.hid hcell
      obtain ⟨on, l⟩ := q
      have hne : ((i : Int) == (wy : Int)) = false := by rw [beq_eq_false_iff_ne]; omega
      have i0' : (i : Int) < wy := by omega
      have hrr := hr
      have HRR := Lib.hid hrr
      have HK := Lib.hid hk
      clear hr hrr hk hdrop hcell hq hiw
      go_upto_region 4 with (fail)
      cases on
      case false =>
        refine wp_region_walked (S := AtS w p gs bs n wy T kb kid kas kvp) (by kernel_rfl) (by kernel_rfl) (atS_old HA.out (old_drew (old_refl _))) ?_
        repeat (apply walked_cons; (first | exact gives_and rfl rfl rfl rfl | exact gives_or rfl rfl rfl rfl | (focus (intro wS hS; have con : wS.cell? ⟨b, i * 12, none⟩ = some (.bool false) := HC.out wS hS 0 _ rfl; obtain ⟨q1, q2, q3⟩ := of_block hS.2.1; go_wp2_with ((fail)); ((exact ⟨rfl, rfl, hS⟩)); done)) | (focus (apply gives_guard; (focus (first | exact wanted_yes rfl rfl rfl | exact wanted_no rfl rfl rfl | exact wanted_yes2 rfl rfl rfl | exact wanted_no2 rfl rfl rfl)); (focus (intro hx9; (try simp only [Bool.not_eq_true', Bool.and_eq_true, Bool.not_not] at hx9); (try obtain ⟨hx9, hy9⟩ := hx9); (try subst hy9); (try subst hx9); (first | exact gives_and rfl rfl rfl rfl | exact gives_or rfl rfl rfl rfl | (intro wS hS; have con : wS.cell? ⟨b, i * 12, none⟩ = some (.bool false) := HC.out wS hS 0 _ rfl; obtain ⟨q1, q2, q3⟩ := of_block hS.2.1; go_wp2_with ((fail)); ((exact ⟨rfl, rfl, hS⟩)); done))))))); rfl; (try simp only [Act.put, List.setIfInBounds_toArray, List.set_cons_succ, List.set_cons_zero]))
        apply walked_nil
        intro wS hS
        have HS9 := Lib.hid hS
        clear hS
        go_wp2
        go_step3
        refine ⟨rfl, k - 1, by have := HK.out; omega, kb, i + 1, by have := HK.out; omega, HS9.out, ?_, fun _ hq => hq _ _ _ _ _ _ _ _ _ _ _ _ _ _ _ _ _ _ _ _ _ _ _ _ _ _ _ _ _ _ _ _⟩
        have := HRR.out
        unfold atP at this
        simpa using this
      case true =>
        obtain ⟨B, hB⟩ : ∃ B, keyB l kid kas kvp = B := ⟨_, rfl⟩
        have hof := fun z => of_calls l z
        have heq := eq_key l.id l.asid kid kas (l.vp : Nat) (kvp : Nat)
        have hB' : (l.id == kid && (l.asid == kas && ((l.vp : Int) == (kvp : Int) && true))) = B := hB
        rw [hB'] at heq
        have HBB := Lib.hid hB
        clear hB hB'
        refine wp_region_walked (S := AtS w p gs bs n wy T kb kid kas kvp) (by kernel_rfl) (by kernel_rfl) (atS_old HA.out (old_drew (old_refl _))) ?_
        repeat (apply walked_cons; (first | exact gives_and rfl rfl rfl rfl | exact gives_or rfl rfl rfl rfl | (focus (intro wS hS; have con : wS.cell? ⟨b, i * 12, none⟩ = some (.bool true) := HC.out wS hS 0 _ rfl; have hcl : ∀ (c : Nat) (v : Value), l.cells[c]? = some v → wS.cell? ⟨b, i * 12 + 1 + c, none⟩ = some v := (fun c v hv => by have := HC.out wS hS (c + 1) v (by simpa [Pl.cells] using hv); rwa [show i * 12 + (c + 1) = i * 12 + 1 + c by omega] at this); obtain ⟨q1, q2, q3⟩ := of_block hS.2.1; go_wp2_with ((first | (refine wpList_load_at rfl 64 _ rfl b (i * 12 + 1) rfl l.cells _ hcl Try.underlying64 rfl (by kernel_rfl) ?_) | (go_at_call 71; (with_reducible refine (hof _).mono ?_); rintro e w9 ⟨rfl, hb9⟩))); ((first | exact ⟨rfl, rfl, hS⟩ | exact ⟨rfl, rfl, atS_old hS hb9⟩)); done)) | (focus (apply gives_guard; (focus (first | exact wanted_yes rfl rfl rfl | exact wanted_no rfl rfl rfl | exact wanted_yes2 rfl rfl rfl | exact wanted_no2 rfl rfl rfl)); (focus (intro hx9; (try simp only [Bool.not_eq_true', Bool.and_eq_true, Bool.not_not] at hx9); (try obtain ⟨hx9, hy9⟩ := hx9); (try subst hy9); (try subst hx9); (first | exact gives_and rfl rfl rfl rfl | exact gives_or rfl rfl rfl rfl | (intro wS hS; have con : wS.cell? ⟨b, i * 12, none⟩ = some (.bool true) := HC.out wS hS 0 _ rfl; have hcl : ∀ (c : Nat) (v : Value), l.cells[c]? = some v → wS.cell? ⟨b, i * 12 + 1 + c, none⟩ = some v := (fun c v hv => by have := HC.out wS hS (c + 1) v (by simpa [Pl.cells] using hv); rwa [show i * 12 + (c + 1) = i * 12 + 1 + c by omega] at this); obtain ⟨q1, q2, q3⟩ := of_block hS.2.1; go_wp2_with ((first | (refine wpList_load_at rfl 64 _ rfl b (i * 12 + 1) rfl l.cells _ hcl Try.underlying64 rfl (by kernel_rfl) ?_) | (go_at_call 71; (with_reducible refine (hof _).mono ?_); rintro e w9 ⟨rfl, hb9⟩))); ((first | exact ⟨rfl, rfl, hS⟩ | exact ⟨rfl, rfl, atS_old hS hb9⟩)); done))))))); rfl; (try simp only [Act.put, List.setIfInBounds_toArray, List.set_cons_succ, List.set_cons_zero]))
        apply walked_nil
        intro wS hS
        have HS9 := Lib.hid hS
        clear hS
        cases B
        case true =>
          go_wp2
          simp only [toLabel]
          go_ret
          refine ⟨?_, HS9.out.2.2⟩
          have := HRR.out
          unfold atP at this
          rw [if_pos (by simp [HBB.out])] at this
          rw [← this]; rfl
        case false =>
          go_wp2
          go_step3
          refine ⟨rfl, k - 1, by have := HK.out; omega, kb, i + 1, by have := HK.out; omega, HS9.out, ?_, fun _ hq => hq _ _ _ _ _ _ _ _ _ _ _ _ _ _ _ _ _ _ _ _ _ _ _ _ _ _ _ _ _ _ _ _⟩
          have := HRR.out
          unfold atP at this
          rw [if_neg (by simp [HBB.out])] at this
          exact this
end Go.Proofs.Ytfiofjalpaeohaa
