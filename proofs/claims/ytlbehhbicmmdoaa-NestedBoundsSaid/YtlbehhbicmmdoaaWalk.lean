/- The contract of walk.Walk: any function that tells words. -/
import Derived.Test.YtlbehhbicmmdoaaWalkN
import Derived.Test.YtlbehhbicmmdoaaOwn
import Derived.Test.YtlbehhbicmmdoaaGoto
import Derived.Test.YtlbehhbicmmdoaaBitsRef
namespace Go.Proofs.Ytlbehhbicmmdoaa
set_option linter.unusedVariables false
set_option linter.unusedSimpArgs false
open Go.RowKit

theorem step_info : (Try.prog.info? 52).map (fun i => (i.zero, i.size, i.bytes)) = some (some (.agg #[.int .i64 0, .int .u64 0, .int .u64 0, .int .i64 0, .int .u64 0, .bool false, .bool false, .bool false, .int .i64 0]), 9, 56) := by kernel_rfl

theorem func_nil (f : FuncId) (caps : Array Value) (w : World) : (binOp .eql 34 (.func (.func f) #[] caps) .nilFunc).run Try.prog w = .ok (.bool false) w := by kernel_rfl
theorem nil_nil (w : World) : (binOp .eql 34 .nilFunc .nilFunc).run Try.prog w = .ok (.bool true) w := by kernel_rfl

/-- The frame at the label. -/
def WalkFrame (st : Int) (root addr : Nat) (f : FuncId) (caps : Array Value) (v : Value) (lv : Nat) (a : Act) : Prop := ∀ Q : Act → Prop, (∀ u4 u5 u6 u7 u9 u11 u12 u13 u14 u15 u16 u17 u18 u19 u20 u21 u22 u23 u24 u25 u26 u27 u28 u29 u30 u31 u32 u33 u34 u35 u36 u37 u38 u39 u40 u41 u42 u43 u44 u45 u46 u47 u48 u49 u50 u51 u52 u53 u54 u55 u56 u57 u58 u59 u60 u61 u62 u63 u64 u65 u66 u67 u68 u69 u70 u71 u72 u73 : Value, Q { tmps := #[.int .i64 st, .int .u64 (root : Nat), .int .u64 (addr : Nat), .func (.func f) #[] caps, u4, u5, u6, u7, v, u9, .int .i64 (lv : Nat), u11, u12, u13, u14, u15, u16, u17, u18, u19, u20, u21, u22, u23, u24, u25, u26, u27, u28, u29, u30, u31, u32, u33, u34, u35, u36, u37, u38, u39, u40, u41, u42, u43, u44, u45, u46, u47, u48, u49, u50, u51, u52, u53, u54, u55, u56, u57, u58, u59, u60, u61, u62, u63, u64, u65, u66, u67, u68, u69, u70, u71, u72, u73], defers := [] }) → Q a

/-- What a function that is handed to Walk tells: it turns its own blocks G alone; S k: it has told k words. -/
structure Reader (f : FuncId) (caps : Array Value) (G : Nat → Prop) (S : Nat → World → Prop) (raw : Nat → Nat) (ok : Nat → Bool) (B : Nat) : Prop where
  own : ∀ b, G b → b < B
  fn : ∀ args x, (callFunc f args).run Try.prog x = .ok (.enter f args) x
  word : ∀ a, raw a < 18446744073709551616
  keep : ∀ k x y, S k x → Only (fun b => B ≤ b) x y → S k y
  call : ∀ k a x, k < 4 → a < 18446744073709551616 → S k x → Calls Try.prog f (#[.int .u64 (a : Nat)] ++ caps) x (fun e y => e = .returned (.tuple #[.int .u64 (raw a : Nat), .bool (ok a)]) ∧ S (k + 1) y ∧ Only G x y)

/-- How many words were asked for. -/
def asksN (r : List St × Int) : Nat := if r.2 = -1 then r.1.length + 1 else r.1.length
def RetWalk (w0 : World) (G : Nat → Prop) (S : Nat → World → Prop) (r : List St × Int) (e : Ending) (w : World) : Prop :=
  ∃ v, e = .returned (.tuple #[v, .int .i64 r.2]) ∧ w.ownsRow w0.heap.size 52 9 v r.1.length (stCells r.1) ∧ S (asksN r) w ∧ Only G w0 w

/-- What holds at the label, with k more passes to come behind this one. -/
def WalkJ (w0 : World) (st : Int) (addr : Nat) (f : FuncId) (caps : Array Value) (G : Nat → Prop) (S : Nat → World → Prop) (raw : Nat → Nat) (ok : Nat → Bool) (r : List St × Int) (k : Nat) (a : Act) (w : World) : Prop :=
  ∃ (lv root : Nat) (v : Value) (l : List St), k + lv = 3 ∧ root < 18446744073709551616 ∧ S lv w ∧ w.ownsRow w0.heap.size 52 9 v lv (stCells l) ∧ l.length = lv ∧ Only G w0 w ∧
    r = (l ++ (walkN raw ok st addr (k + 1) lv root).1, (walkN raw ok st addr (k + 1) lv root).2) ∧ WalkFrame st root addr f caps v lv a

theorem walk_bad (st : Int) (hst : ¬ (st = 1 ∨ st = 2)) (root addr : Nat) (rd : Value) (w : World) :
    Calls Try.prog 15 #[.int .i64 st, .int .u64 (root : Nat), .int .u64 (addr : Nat), rd] w (RetB w (.tuple #[.slice none 0 0, .int .i64 4])) := by
  have ht := top_x st
  have h0 : topN st = 0 := by unfold topN; rw [if_neg (by omega), if_neg (by omega)]
  rw [h0] at ht
  clear hst h0
  go_enter Try.func15, Try.ntmps15
  go_wp2
  refine wp_scope_labels (fun _ _ _ _ => False) ?_ (fun _ _ _ _ h => h.elim)
  go_wp2_with fail
  refine (ht _).mono ?_
  rintro e w1 ⟨rfl, rfl⟩
  go_wp2
  simp only [toLabel]
  go_ret2
  exact ⟨rfl, old_refl _⟩

set_option maxRecDepth 100000 in
theorem walk_nil (st : Int) (hst : st = 1 ∨ st = 2) (root addr : Nat) (w : World) :
    Calls Try.prog 15 #[.int .i64 st, .int .u64 (root : Nat), .int .u64 (addr : Nat), .nilFunc] w (RetB w (.tuple #[.slice none 0 0, .int .i64 (-1)])) := by
  have ht := top_x st
  have h0 : ((topN st : Nat) : Int) ≠ 0 := by unfold topN; rcases hst with h | h <;> subst h <;> decide
  generalize ((topN st : Nat) : Int) = T at *
  have hb : (T == 0) = false := by simp [h0]
  have hn := nil_nil
  clear hst h0
  go_enter Try.func15, Try.ntmps15
  go_wp2
  refine wp_scope_labels (fun _ _ _ _ => False) ?_ (fun _ _ _ _ h => h.elim)
  go_wp2_with fail
  refine (ht _).mono ?_
  rintro e w1 ⟨rfl, rfl⟩
  go_wp2
  simp only [toLabel]
  go_ret2
  exact ⟨rfl, old_refl _⟩

theorem ret_walk {w0 w : World} {G : Nat → Prop} {S : Nat → World → Prop} {r : List St × Int} {L : List St} {kd : Int} {n m : Nat} {v : Value} (hr : r = (L, kd)) (hn : n = L.length) (hm : m = asksN (L, kd)) (ho : w.ownsRow w0.heap.size 52 9 v n (stCells L)) (hS : S m w) (hO : Only G w0 w) :
    RetWalk w0 G S r (.returned (.tuple #[v, .int .i64 kd])) w := by
  subst hr hn hm
  exact ⟨v, rfl, ho, hS, hO⟩
/-- A step was laid behind the others. -/
theorem walk_append (w0 w3 W4 : World) (G : Nat → Prop) (S : Nat → World → Prop) (v : Value) (lv n : Nat) (l : List St) (s : St) (bd : Nat) (o : Obj) (hlv : lv ≤ 3) (hl : l.length = lv) (hkeep : ∀ k x y, S k x → Only (fun b => w0.heap.size ≤ b) x y → S k y)
    (hown : w3.ownsRow w0.heap.size 52 9 v lv (stCells l)) (hS : S n w3) (hO : Only G w0 w3) (hG : ∀ b, G b → b < w0.heap.size) (hW : W4 = w3.alloc o) (hbd : bd = w3.heap.size) :
    ∃ v' w5, (Builtin.append_ #[29, 29] 29 #[v, .slice (some ⟨W4.heap.size, 0, none⟩) 1 1]).run Try.prog (W4.alloc (.cells #[.int .i64 s.lv, .int .u64 (s.at_ : Nat), .int .u64 (s.raw : Nat), .int .i64 s.d.k, .int .u64 (s.d.a : Nat), .bool s.d.r, .bool s.d.w, .bool s.d.x, .int .i64 s.d.s] 52)) = .ok v' w5 ∧
      w5.ownsRow w0.heap.size 52 9 v' (lv + 1) (stCells (l ++ [s])) ∧ S n w5 ∧ Only G w0 w5 ∧ w5.heap[bd]? = some o := by
  subst hW hbd
  obtain ⟨i0, hi, hz0, hz1, hz2⟩ := info_parts step_info
  have hsz := hO.size
  have hown4 := (hown.alloc o).alloc (.cells #[.int .i64 s.lv, .int .u64 (s.at_ : Nat), .int .u64 (s.raw : Nat), .int .i64 s.d.k, .int .u64 (s.d.a : Nat), .bool s.d.r, .bool s.d.w, .bool s.d.x, .int .i64 s.d.s] 52)
  have hnew := news_block (w3.alloc o) s.cells 52 (w3.alloc o).heap.size rfl
  obtain ⟨v', w5, hrun, ho5, hgr, -⟩ := run_append_own (P := Try.prog) _ w0.heap.size 29 29 52 i0 _ 9 56 Try.underlying29 hi hz0 hz1 hz2 rfl (by decide) v lv (stCells l) hown4 ⟨(w3.alloc o).heap.size, 0, none⟩ 1 1 s.cells rfl hnew (by intro u hu; simp only [St.cells, List.mem_cons, List.not_mem_nil, or_false] at hu; rcases hu with rfl | rfl | rfl | rfl | rfl | rfl | rfl | rfl | rfl <;> rfl) (by unfold maxLen; omega) (by omega) (by simp; omega)
  have hrow : ∀ b, some b = v.ownBlock → w0.heap.size ≤ b ∧ b < w3.heap.size := fun b e => hown.lt b e.symm
  have hOn : Only (fun b => some b = v.ownBlock) w3 w5 := Only.trans (((Only.refl _ w3).alloc o).alloc _) (grown_only hgr)
  refine ⟨v', w5, hrun, ?_, hkeep _ _ _ hS (hOn.mono fun b _ e => (hrow b e).1), ?_, ?_⟩
  · rw [stCells_append]
    have e : stCells [s] = s.cells := by simp [stCells]
    rw [e]; exact ho5
  · exact hO.step hOn (fun b hb e => by have := (hrow b e).1; omega)
  · rw [hgr.block _ (by simp; omega) (fun e => by have := (hrow _ e).2; omega)]
    rw [alloc_heap_old _ _ _ (by simp), alloc_heap_new _ _ _ rfl]

set_option maxHeartbeats 8000000 in
set_option maxRecDepth 100000 in
theorem walk_calls (st : Int) (hst : st = 1 ∨ st = 2) (root addr : Nat) (hroot : root < 18446744073709551616) (haddr : addr < 18446744073709551616) (f : FuncId) (caps : Array Value) (G : Nat → Prop) (S : Nat → World → Prop) (raw : Nat → Nat) (ok : Nat → Bool) (w : World)
    (hR : Reader f caps G S raw ok w.heap.size) (h0 : S 0 w) :
    Calls Try.prog 15 #[.int .i64 st, .int .u64 (root : Nat), .int .u64 (addr : Nat), .func (.func f) #[] caps] w (RetWalk w G S (walkN raw ok st addr 4 0 root)) := by
  have ht := top_x st
  have ht0 : ((topN st : Nat) : Int) ≠ 0 := by unfold topN; rcases hst with h | h <;> subst h <;> decide
  generalize ((topN st : Nat) : Int) = T at *
  have hb : (T == 0) = false := by simp [ht0]
  have hn := func_nil f caps
  have HST := Lib.hid hst
  have HR := Lib.hid hR
  have HG := Lib.hid hR.own
  obtain ⟨i0, hi, hz0, hz1, hz2⟩ := info_parts step_info
  generalize hr : walkN raw ok st addr 4 0 root = r
  have HH := Lib.hid hr
  have HS0 := Lib.hid h0
  clear hst ht0 hR hr h0
  go_enter Try.func15, Try.ntmps15
  go_wp2
  refine wp_scope_once 0 (WalkJ w st addr f caps G S raw ok r) _ rfl ?pass ?first
  case first =>
    intro hp
    go_wp2_with fail
    refine (ht _).mono ?_
    rintro e w1 ⟨rfl, rfl⟩
    clear ht
    go_wp2
    go_step3
    rename_i K9 hK9
    exact hK9 _ _ (hp 3 _ _ ⟨0, root, _, [], rfl, hroot, HS0.out, own_nil, rfl, Only.refl _ _, HH.out.symm, fun _ hq => hq _ _ _ _ _ _ _ _ _ _ _ _ _ _ _ _ _ _ _ _ _ _ _ _ _ _ _ _ _ _ _ _ _ _ _ _ _ _ _ _ _ _ _ _ _ _ _ _ _ _ _ _ _ _ _ _ _ _ _ _ _ _ _ _ _ _ _ _⟩)
  case pass =>
    rintro k a x ⟨lv, rt, v, l, hk, hrt, hS, hown, hl, hO, hr, hfr⟩
    refine hfr (fun a => Code.wp _ _ _ a _) ?_
    intro u4 u5 u6 u7 u9 u11 u12 u13 u14 u15 u16 u17 u18 u19 u20 u21 u22 u23 u24 u25 u26 u27 u28 u29 u30 u31 u32 u33 u34 u35 u36 u37 u38 u39 u40 u41 u42 u43 u44 u45 u46 u47 u48 u49 u50 u51 u52 u53 u54 u55 u56 u57 u58 u59 u60 u61 u62 u63 u64 u65 u66 u67 u68 u69 u70 u71 u72 u73
    have hid := index_yes addr lv addr lv rfl rfl
    have hrd := HR.out.call
    have hlv : lv ≤ 3 := by omega
    have hat := atN_wrap rt addr lv
    have hat64 := atN_lt rt addr lv
    have hixl := indexN_lt addr lv
    have hwv : ∀ (n m : Nat), walkN raw ok st addr (k + 1) lv rt = walkN raw ok st addr (k + 1) lv rt := fun _ _ => rfl
    clear hwv
    generalize hA : atN rt addr lv = A at *
    generalize hix : indexN addr lv = ix at *
    have hi1 : IntKind.u64.wrap (ix : Int) = ix := IntWalk.u64_in _ (by omega)
    have hi2 : IntKind.u64.wrap (8 * (ix : Int)) = 8 * ix := IntWalk.u64_in _ (by omega)
    have HA := Lib.hid hA
    have HIX := Lib.hid hix
    have HO := Lib.hid hO
    have HOwn := Lib.hid hown
    have HRk := Lib.hid hr
    have HL := Lib.hid hl
    have HSk := Lib.hid hS
    have HI := Lib.hid hid
    have HRD := Lib.hid hrd
    clear hA hix hO hown hr hl hS hfr hid hrd
    go_wp2_with fail
    refine (HI.out _ haddr hlv).mono ?_
    rintro e w1 ⟨rfl, hO1⟩
    have hS1 := HR.out.keep _ _ _ HSk.out ((Only.of_below hO1).mono fun b _ f => f.elim)
    have hown1 := own_old HOwn.out hO1
    have hOn1 := HO.out.trans ((Only.of_below hO1).mono fun b _ f => f.elim)
    have H1 := Lib.hid (And.intro hS1 (And.intro hown1 hOn1))
    clear hS1 hown1 hOn1 hO1
    have hfn := HR.out.fn
    go_wp2_with fail
    refine (HRD.out lv A _ (by omega) hat64 H1.out.1).mono ?_
    rintro e w2 ⟨rfl, hS2, hG2⟩
    have hown2 := own_only H1.out.2.1 hG2 (fun b hb f => by have := HG.out b f; omega)
    have hO2 := H1.out.2.2.trans hG2
    have H2 := Lib.hid (And.intro hS2 (And.intro hown2 hO2))
    have hraw := HR.out.word A
    generalize hX : raw A = X at *
    have HX := Lib.hid hX
    clear hS2 hG2 hown2 hO2 H1 hfn hX hi1 hi2 hat hat64 hixl
    cases hok : ok A
    case false =>
      have HF : Hid (r = (l, -1)) := Lib.hid (by rw [HRk.out, walkN_no (by rw [HA.out]; exact hok), List.append_nil])
      clear hok
      go_wp2
      simp only [toLabel]
      go_ret2
      exact ret_walk HF.out HL.out.symm (by unfold asksN; rw [if_pos rfl, HL.out]) H2.out.2.1 H2.out.1 H2.out.2.2
    case true =>
    have hok' : ok (atN rt addr lv) = true := by rw [HA.out]; exact hok
    have hdec := decode_calls st lv X w2 hraw
    rw [decD_v] at hdec
    have hda := decD_a st lv X
    have hdl := decD_last st X
    generalize hd : decD st lv X = d at *
    generalize hE : decE st lv X = E at *
    obtain ⟨dk, da, dr, dw, dx, ds⟩ := d
    change Calls _ _ _ _ (RetB w2 (.tuple #[.agg #[.int .i64 dk, .int .u64 (da : Nat), .bool dr, .bool dw, .bool dx, .int .i64 ds], .int .i64 E])) at hdec
    have e1 : decD st lv (raw (atN rt addr lv)) = ⟨dk, da, dr, dw, dx, ds⟩ := by rw [HA.out, HX.out]; exact hd
    have e2 : decE st lv (raw (atN rt addr lv)) = E := by rw [HA.out, HX.out]; exact hE
    have e3 : raw (atN rt addr lv) = X := by rw [HA.out]; exact HX.out
    have HD3 : Hid (lv = 3 → dk ≠ 1) := Lib.hid (by
      intro e
      rw [e] at hd
      have := hdl
      rw [show ((3 : Nat) : Int) = 3 from rfl] at hd
      rw [hd] at this
      exact this)
    have P0 : Hid (E = 2 → r = (l ++ [⟨lv, A, X, ⟨dk, da, dr, dw, dx, ds⟩⟩], 3)) := Lib.hid fun h => by rw [HRk.out, walkN_range hok' (by rw [e2]; exact h), e1, e3, HA.out]
    have P1 : Hid (E ≠ 2 → E ≠ 0 → r = (l ++ [⟨lv, A, X, ⟨dk, da, dr, dw, dx, ds⟩⟩], 4)) := Lib.hid fun h h' => by rw [HRk.out, walkN_form hok' (by rw [e2]; exact h) (by rw [e2]; exact h'), e1, e3, HA.out]
    have P2 : Hid (E = 0 → dk = 0 → r = (l ++ [⟨lv, A, X, ⟨dk, da, dr, dw, dx, ds⟩⟩], 1)) := Lib.hid fun h h' => by rw [HRk.out, walkN_none hok' (by rw [e2]; exact h) (by rw [e1]; exact h'), e1, e3, HA.out]
    have P3 : Hid (E = 0 → dk ≠ 0 → dk ≠ 1 → r = (l ++ [⟨lv, A, X, ⟨dk, da, dr, dw, dx, ds⟩⟩], 0)) := Lib.hid fun h h' h'' => by rw [HRk.out, walkN_leaf hok' (by rw [e2]; exact h) (by rw [e1]; exact h') (by rw [e1]; exact h''), e1, e3, HA.out]
    have P4 : Hid (E = 0 → dk = 1 → r = ((l ++ [⟨lv, A, X, ⟨dk, da, dr, dw, dx, ds⟩⟩]) ++ (walkN raw ok st addr k (lv + 1) da).1, (walkN raw ok st addr k (lv + 1) da).2)) := Lib.hid fun h h' => by rw [HRk.out, walkN_table hok' (by rw [e2]; exact h) (by rw [e1]; exact h'), e1, e3, HA.out]; simp
    have HDA := Lib.hid hda
    clear hok hok' hd hE hda hdl e1 e2 e3 hraw HX HRk HA HIX
    go_wp2_with fail
    refine hdec.mono ?_
    rintro e w3 ⟨rfl, hO3⟩
    have hS3 := HR.out.keep _ _ _ H2.out.1 ((Only.of_below hO3).mono fun b _ f => f.elim)
    have hown3 := own_old H2.out.2.1 hO3
    have hOn3 := H2.out.2.2.trans ((Only.of_below hO3).mono fun b _ f => f.elim)
    obtain ⟨v', w5, hrun, hown5, hS5, hO5, hb5⟩ := walk_append w w3 _ G S v lv (lv + 1) l ⟨lv, A, X, ⟨dk, da, dr, dw, dx, ds⟩⟩ w3.heap.size (.cells #[.int .i64 dk, .int .u64 (da : Nat), .bool dr, .bool dw, .bool dx, .int .i64 ds] 48) hlv HL.out HR.out.keep hown3 hS3 hOn3 HR.out.own rfl rfl
    clear hO3 hS3 hown3 hOn3 hdec H2
    have h4 := new_block w3 (.cells #[.int .i64 dk, .int .u64 (da : Nat), .bool dr, .bool dw, .bool dx, .int .i64 ds] 48)
    go_upto_region 11 with (fail)
    generalize w3.alloc (.cells #[.int .i64 dk, .int .u64 (da : Nat), .bool dr, .bool dw, .bool dx, .int .i64 ds] 48) = W4 at *
    generalize w3.heap.size = bd at *
    obtain ⟨q1, q2, q3⟩ := of_block h4
    obtain ⟨p1, p2, p3⟩ := of_block hb5
    have H5 := Lib.hid (And.intro hown5 (And.intro hS5 hO5))
    have HLS : Hid (lv + 1 = (l ++ [(⟨lv, A, X, ⟨dk, da, dr, dw, dx, ds⟩⟩ : St)]).length) := Lib.hid (by rw [List.length_append, HL.out]; rfl)
    clear h4 hb5 hown5 hS5 hO5
    go_upto_region 12 with (at_builtin; refine wpList_append_run rfl _ _ 29 rfl _ _ rfl rfl _ _ hrun ?_; clear hrun)
    clear q1 q2 q3
    by_cases hE2 : E = 2
    · have HF := Lib.hid (P0.out hE2)
      subst hE2
      clear P0 P1 P2 P3 P4
      go_wp2
      simp only [toLabel]
      go_ret2
      exact ret_walk HF.out HLS.out (by unfold asksN; rw [if_neg (by simp)]; exact HLS.out) H5.out.1 H5.out.2.1 H5.out.2.2
    have b2 : (E == 2) = false := by simp [hE2]
    by_cases hE0 : E = 0
    case neg =>
      have b0 : (E != 0) = true := by simp [hE0]
      have HF := Lib.hid (P1.out hE2 hE0)
      clear P0 P1 P2 P3 P4 hE2 hE0
      go_wp2
      simp only [toLabel]
      go_ret2
      exact ret_walk HF.out HLS.out (by unfold asksN; rw [if_neg (by simp)]; exact HLS.out) H5.out.1 H5.out.2.1 H5.out.2.2
    case pos =>
    clear hE2 b2
    by_cases hk0 : dk = 0
    · have HF := Lib.hid (P2.out hE0 hk0)
      have b0 : (dk == 0) = true := by simp [hk0]
      subst hE0
      clear P0 P1 P2 P3 P4 hk0
      go_wp2
      simp only [toLabel]
      go_ret2
      exact ret_walk HF.out HLS.out (by unfold asksN; rw [if_neg (by simp)]; exact HLS.out) H5.out.1 H5.out.2.1 H5.out.2.2
    have b0 : (dk == 0) = false := by simp [hk0]
    by_cases hk1 : dk = 1
    · have HF := Lib.hid (P4.out hE0 hk1)
      have HN : Hid (¬ lv = 3) := Lib.hid (fun e => HD3.out e hk1)
      have b1 : (dk == 1) = true := by simp [hk1]
      subst hE0
      clear P0 P1 P2 P3 P4 hk0 hk1
      go_wp2
      go_step3
      have hlt : lv < 3 := by
        have := HN.out
        omega
      refine ⟨rfl, k - 1, by omega, lv + 1, da, v', _, by omega, HDA.out, H5.out.2.1, H5.out.1, HLS.out.symm, H5.out.2.2, ?_, fun _ hq => hq _ _ _ _ _ _ _ _ _ _ _ _ _ _ _ _ _ _ _ _ _ _ _ _ _ _ _ _ _ _ _ _ _ _ _ _ _ _ _ _ _ _ _ _ _ _ _ _ _ _ _ _ _ _ _ _ _ _ _ _ _ _ _ _ _ _ _ _⟩
      rw [show k - 1 + 1 = k by omega]
      exact HF.out
    · have HF := Lib.hid (P3.out hE0 hk0 hk1)
      have b1 : (dk == 1) = false := by simp [hk1]
      subst hE0
      clear P0 P1 P2 P3 P4 hk0 hk1
      go_wp2
      simp only [toLabel]
      go_ret2
      exact ret_walk HF.out HLS.out (by unfold asksN; rw [if_neg (by simp)]; exact HLS.out) H5.out.1 H5.out.2.1 H5.out.2.2
end Go.Proofs.Ytlbehhbicmmdoaa
