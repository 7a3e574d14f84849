/- The statement WalkGoes: its plain part, and its reader. -/
import Derived.Test.YtlbehhbicmmdoaaReadW
import Derived.Test.YtlbehhbicmmdoaaRefGive2
namespace Go.Proofs.Ytlbehhbicmmdoaa
set_option linter.unusedVariables false
set_option linter.unusedSimpArgs false
open Go.RowKit

section
variable {raw : Nat → Nat} {ok : Nat → Bool} {st : Int} {addr n lv table : Nat} {L0 : List St} {R : List St × Int}
/-- The document's walk is on its way to R. -/
def OnWay (raw : Nat → Nat) (ok : Nat → Bool) (st : Int) (addr n lv table : Nat) (L0 : List St) (R : List St × Int) : Prop := R = (L0 ++ (walkN raw ok st addr n lv table).1, (walkN raw ok st addr n lv table).2)
theorem onWay_start (root : Nat) : OnWay raw ok st addr 4 0 root [] (walkN raw ok st addr 4 0 root) := rfl
theorem onWay_no (h : OnWay raw ok st addr (n + 1) lv table L0 R) (hok : ok (atN table addr lv) = false) : R = (L0, -1) := by
  unfold OnWay at h
  rw [walkN_no hok] at h
  rw [h]; simp
theorem onWay_yes (h : OnWay raw ok st addr (n + 1) lv table L0 R) (hok : ok (atN table addr lv) = true) :
    (giveO (decE st lv (raw (atN table addr lv))) (decD st lv (raw (atN table addr lv))) = true ∧ R = (L0 ++ [⟨lv, atN table addr lv, raw (atN table addr lv), decD st lv (raw (atN table addr lv))⟩], giveK (decE st lv (raw (atN table addr lv))) (decD st lv (raw (atN table addr lv))) 4)) ∨
    (giveO (decE st lv (raw (atN table addr lv))) (decD st lv (raw (atN table addr lv))) = false ∧ OnWay raw ok st addr n (lv + 1) (giveT (decE st lv (raw (atN table addr lv))) (decD st lv (raw (atN table addr lv))) table) (L0 ++ [⟨lv, atN table addr lv, raw (atN table addr lv), decD st lv (raw (atN table addr lv))⟩]) R ∧
      giveK (decE st lv (raw (atN table addr lv))) (decD st lv (raw (atN table addr lv))) 4 = 4 ∧ (decD st lv (raw (atN table addr lv))).k = 1) := by
  unfold OnWay at h
  by_cases h2 : decE st lv (raw (atN table addr lv)) = 2
  · rw [walkN_range hok h2] at h
    exact .inl ⟨by simp [giveO, h2], by rw [h]; simp [giveK, h2]⟩
  · by_cases h0 : decE st lv (raw (atN table addr lv)) = 0
    · by_cases hk : (decD st lv (raw (atN table addr lv))).k = 0
      · rw [walkN_none hok h0 hk] at h
        exact .inl ⟨by simp [giveO, hk], by rw [h]; simp [giveK, h0, hk]⟩
      · by_cases hk1 : (decD st lv (raw (atN table addr lv))).k = 1
        · rw [walkN_table hok h0 hk1] at h
          refine .inr ⟨by simp [giveO, h0, hk1], ?_, by simp [giveK, h0, hk1], hk1⟩
          unfold OnWay
          rw [h]
          simp [giveT, h0, hk1]
        · rw [walkN_leaf hok h0 hk hk1] at h
          exact .inl ⟨by simp [giveO, hk1], by rw [h]; simp [giveK, h0, hk, hk1]⟩
    · rw [walkN_form hok h2 h0] at h
      exact .inl ⟨by simp [giveO, h0], by rw [h]; simp [giveK, h0, h2]⟩
end
theorem fn_goes (args : Array Value) (x : World) : (callFunc 16 args).run Try.prog x = .ok (.enter 16 args) x := by kernel_rfl
/-- What the reader counts and reads. -/
def GoesS (B nb wb sb : Nat) (a1 : Option Addr) (c1 : Nat) (a2 : Option Addr) (c2 : Nat) (A W : List Nat) (stop : Bool) (k : Nat) (x : World) : Prop :=
  x.heap[nb]? = some (.cells #[.int .i64 (k : Nat)] 3) ∧ x.heap[wb]? = some (.cells #[.slice a1 A.length c1, .slice a2 W.length c2] 26) ∧ x.heap[sb]? = some (.cells #[.bool stop] 4) ∧ WordsAt x B a1 c1 a2 c2 A W ∧ (∀ bb off, a1 = some ⟨bb, off, none⟩ → bb ≠ nb) ∧ (∀ bb off, a2 = some ⟨bb, off, none⟩ → bb ≠ nb) ∧ nb ≠ wb ∧ nb ≠ sb
theorem goesS_count {B nb wb sb : Nat} {a1 : Option Addr} {c1 : Nat} {a2 : Option Addr} {c2 : Nat} {A W : List Nat} {stop : Bool} {k : Nat} {x : World} (h : GoesS B nb wb sb a1 c1 a2 c2 A W stop k x) :
    GoesS B nb wb sb a1 c1 a2 c2 A W stop (k + 1) (putB x nb (.cells #[.int .i64 ((k + 1 : Nat) : Int)] 3)) := by
  obtain ⟨h1, h2, h3, h4, h5, h6, h7, h8⟩ := h
  have ho : Only (fun b => b = nb) x (putB x nb (.cells #[.int .i64 ((k + 1 : Nat) : Int)] 3)) := (Only.refl (fun b => b = nb) x).putB _ (fun _ => rfl)
  exact ⟨putB_same _ (lt_of_block h1), keep_only ho (fun e => h7 e.symm) h2, keep_only ho (fun e => h8 e.symm) h3, { h4 with w1 := words_only h4.w1 ho (fun bb off e f => h5 bb off e f), w2 := words_only h4.w2 ho (fun bb off e f => h6 bb off e f) }, h5, h6, h7, h8⟩
theorem goesS_old {B nb wb sb : Nat} {a1 : Option Addr} {c1 : Nat} {a2 : Option Addr} {c2 : Nat} {A W : List Nat} {stop : Bool} {k : Nat} {x y : World} (h : GoesS B nb wb sb a1 c1 a2 c2 A W stop k x) (ho : Old x y) : GoesS B nb wb sb a1 c1 a2 c2 A W stop k y := by
  obtain ⟨h1, h2, h3, h4, h5, h6, h7, h8⟩ := h
  exact ⟨keep_old ho h1, keep_old ho h2, keep_old ho h3, wordsAt_old h4 ho, h5, h6, h7, h8⟩
set_option maxHeartbeats 4000000 in
set_option maxRecDepth 100000 in
theorem goes1_calls (B nb wb sb : Nat) (a1 : Option Addr) (c1 : Nat) (a2 : Option Addr) (c2 : Nat) (A W : List Nat) (stop : Bool) (k a : Nat) (hk : k < 4) (x : World) (h : GoesS B nb wb sb a1 c1 a2 c2 A W stop k x) :
    Calls Try.prog 16 #[.int .u64 (a : Nat), .pointer (some ⟨nb, 0, none⟩), .pointer (some ⟨wb, 0, none⟩), .pointer (some ⟨sb, 0, none⟩)] x (fun e y => e = .returned (.tuple #[.int .u64 (readR A W a : Nat), .bool ((readO A W a).isSome || !stop)]) ∧ GoesS B nb wb sb a1 c1 a2 c2 A W stop (k + 1) y ∧ Only (fun b => b = nb) x y) := by
  have hS := goesS_count h
  obtain ⟨q1, q2, q3⟩ := of_block h.1
  have hset : x.setCell ⟨nb, 0, none⟩ (.int .i64 ((k : Int) + 1)) = putB x nb (.cells #[.int .i64 ((k + 1 : Nat) : Int)] 3) := by rw [set_of h.1]; rfl
  have ho : Only (fun b => b = nb) x (putB x nb (.cells #[.int .i64 ((k + 1 : Nat) : Int)] 3)) := (Only.refl (fun b => b = nb) x).putB _ (fun _ => rfl)
  have hk4 : (k : Int) < 4 := by omega
  generalize putB x nb (.cells #[.int .i64 ((k + 1 : Nat) : Int)] 3) = Y at *
  have hc := fun y (hy : Old Y y) => readW_calls B a1 c1 a2 c2 A W a stop y (wordsAt_old hS.2.2.2.1 hy)
  have hb1 := hS.2.1
  have hb2 := hS.2.2.1
  have HS := Lib.hid hS
  have HC := Lib.hid hc
  have HO := Lib.hid ho
  obtain ⟨w1, w2, w3⟩ := of_block hb1
  obtain ⟨s1, s2, s3⟩ := of_block hb2
  generalize readR A W a = R at *
  generalize ((readO A W a).isSome || !stop) = O at *
  clear h hS hc ho hb1 hb2 hk
  go_enter Try.func16, Try.ntmps16
  go_wp2_with fail
  (with_reducible refine (HC.out _ (by first | exact old_refl _ | exact old_drew (old_refl _))).mono ?_)
  rintro e y ⟨rfl, hY⟩
  have HY := Lib.hid hY
  clear hY q1 q2 q3 w1 w2 w3 s1 s2 s3 hset
  go_wp2
  go_ret2
  exact ⟨rfl, goesS_old HS.out HY.out, HO.out.trans ((Only.of_below HY.out).mono fun b _ f => f.elim)⟩
end Go.Proofs.Ytlbehhbicmmdoaa
