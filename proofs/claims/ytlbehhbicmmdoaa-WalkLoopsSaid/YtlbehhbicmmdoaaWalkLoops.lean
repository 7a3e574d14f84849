/- The statement WalkLoops: its walk. -/
import Derived.Test.YtlbehhbicmmdoaaWalkS
namespace Go.Proofs.Ytlbehhbicmmdoaa
set_option linter.unusedVariables false
set_option linter.unusedSimpArgs false
open Go.RowKit

/-- A table that points at itself: its word is a Table, or a Page at the last level. -/
theorem loop_dec (t : Nat) (ht : t % 4096 = 0) (hl : t ≤ 1099511623680) (lv : Nat) (h : lv ≤ 3) :
    decE 1 lv (t + 3) = 0 ∧ decD 1 lv (t + 3) = ⟨if lv = 3 then 3 else 1, t, false, false, false, 0⟩ := by
  have hp : Place 1 (lv : Int) := ⟨.inl rfl, by omega, by omega⟩
  have hw : ∀ k : Int, k = 1 ∨ k = 3 → wordN k t false false false 0 = t + 3 := by
    intro k hk
    unfold wordN
    rcases hk with rfl | rfl <;> simp [flagN] <;> omega
  by_cases h3 : lv = 3
  · subst h3
    have hc : checkC 1 ((3 : Nat) : Int) 3 t false false false ((0 : Nat) : Int) = 0 := (check_zero (by decide)).2 ⟨hp, by decide, by decide, by decide, by decide, by decide, by decide, by decide, by decide, by decide, by unfold topN; simp; omega, ht, fun e => by omega⟩
    obtain ⟨p1, p2, p3, p4, p5, p6, p7, p8, p9⟩ := dec_word (by decide) hc
    rw [hw 3 (.inr rfl)] at p1 p2 p3 p4 p5 p6 p7 p8 p9
    refine ⟨p1, ?_⟩
    unfold decD
    rw [if_pos ⟨hp, by omega, p1⟩, p4, p5, p6, p7, p8, p9]
    rfl
  · have hc : checkC 1 (lv : Int) 1 t false false false ((0 : Nat) : Int) = 0 := (check_zero (by decide)).2 ⟨hp, by decide, by decide, by decide, by decide, fun _ => by omega, fun e => by omega, fun e => by omega, by decide, by decide, by unfold topN; simp; omega, ht, fun e => by omega⟩
    obtain ⟨p1, p2, p3, p4, p5, p6, p7, p8, p9⟩ := dec_word (by decide) hc
    rw [hw 1 (.inl rfl)] at p1 p2 p3 p4 p5 p6 p7 p8 p9
    refine ⟨p1, ?_⟩
    unfold decD
    rw [if_pos ⟨hp, by omega, p1⟩, p4, p5, p6, p7, p8, p9, if_neg h3]
    rfl

def okL (t a : Nat) : Bool := ((a : Int) / 4096 == (t : Int) / 4096)
theorem okL_at (t addr lv : Nat) (ht : t % 4096 = 0) (hl : t ≤ 1099511623680) : okL t (atN t addr lv) = true := by
  have := indexN_lt addr lv
  unfold okL atN
  rw [beq_iff_eq]
  omega
def loopL (t addr : Nat) : List St := [⟨0, atN t addr 0, t + 3, ⟨1, t, false, false, false, 0⟩⟩, ⟨1, atN t addr 1, t + 3, ⟨1, t, false, false, false, 0⟩⟩, ⟨2, atN t addr 2, t + 3, ⟨1, t, false, false, false, 0⟩⟩, ⟨3, atN t addr 3, t + 3, ⟨3, t, false, false, false, 0⟩⟩]
theorem loop_walk (t addr : Nat) (ht : t % 4096 = 0) (hl : t ≤ 1099511623680) : walkN (fun _ => t + 3) (okL t) 1 addr 4 0 t = (loopL t addr, 0) := by
  have e0 := loop_dec t ht hl 0 (by decide)
  have e1 := loop_dec t ht hl 1 (by decide)
  have e2 := loop_dec t ht hl 2 (by decide)
  have e3 := loop_dec t ht hl 3 (by decide)
  rw [walkN_table (okL_at t addr 0 ht hl) e0.1 (by rw [e0.2]; rfl), e0.2]
  show (_ :: (walkN _ _ 1 addr 3 1 t).1, (walkN _ _ 1 addr 3 1 t).2) = _
  rw [walkN_table (okL_at t addr 1 ht hl) e1.1 (by rw [e1.2]; rfl), e1.2]
  show (_ :: _ :: (walkN _ _ 1 addr 2 2 t).1, (walkN _ _ 1 addr 2 2 t).2) = _
  rw [walkN_table (okL_at t addr 2 ht hl) e2.1 (by rw [e2.2]; rfl), e2.2]
  show (_ :: _ :: _ :: (walkN _ _ 1 addr 1 3 t).1, (walkN _ _ 1 addr 1 3 t).2) = _
  rw [walkN_leaf (okL_at t addr 3 ht hl) e3.1 (by rw [e3.2]; simp) (by rw [e3.2]; simp), e3.2]
  rfl

theorem fn_loops (args : Array Value) (x : World) : (callFunc 27 args).run Try.prog x = .ok (.enter 27 args) x := by kernel_rfl
/-- What the reader has told. -/
def LoopS (bn bt t : Nat) (k : Nat) (x : World) : Prop := Has x [(bn, #[.int .i64 (k : Nat)], 3), (bt, #[.int .u64 (t : Nat)], 22)]
set_option maxRecDepth 100000 in
theorem loops1_calls (bn bt t k a : Nat) (hk : k < 4) (ha : a < 18446744073709551616) (ht : t ≤ 1099511623680) (hne : bn ≠ bt) (w : World) (h : LoopS bn bt t k w) :
    Calls Try.prog 27 #[.int .u64 (a : Nat), .pointer (some ⟨bn, 0, none⟩), .pointer (some ⟨bt, 0, none⟩)] w (fun e y => e = .returned (.tuple #[.int .u64 ((t + 3 : Nat) : Int), .bool (okL t a)]) ∧ LoopS bn bt t (k + 1) y ∧ Only (fun b => b = bn) w y) := by
  obtain ⟨h1, h2, _⟩ := h
  obtain ⟨q1, q2, q3⟩ := of_block h1
  obtain ⟨p1, p2, p3⟩ := of_block h2
  have hs : w.setCell ⟨bn, 0, none⟩ (.int .i64 ((k : Int) + 1)) = putB w bn (.cells #[.int .i64 ((k : Int) + 1)] 3) := by rw [set_of h1]; rfl
  have c1 : (putB w bn (.cells #[.int .i64 ((k : Int) + 1)] 3)).cell? ⟨bt, 0, none⟩ = some (.int .u64 (t : Nat)) := by rw [putB_cell_other _ _ hne, p1]; rfl
  have hfin : LoopS bn bt t (k + 1) (putB w bn (.cells #[.int .i64 ((k : Int) + 1)] 3)) ∧ Only (fun b => b = bn) w (putB w bn (.cells #[.int .i64 ((k : Int) + 1)] 3)) :=
    ⟨⟨putB_same _ q3, by rw [putB_other _ hne]; exact h2, trivial⟩, (Only.refl _ _).putB _ (fun _ => rfl)⟩
  generalize putB w bn (.cells #[.int .i64 ((k : Int) + 1)] 3) = W at *
  have HF := Lib.hid hfin
  have hadd : IntKind.u64.wrap ((t : Int) + 3) = t + 3 := IntWalk.u64_in _ (by omega)
  have hok : ((a : Int) / 4096 == (t : Int) / 4096) = okL t a := rfl
  generalize okL t a = O at *
  clear h1 h2 p1 p2 p3 hfin
  go_enter Try.func27, Try.ntmps27
  go_upto_region 2 with (fail)
  refine wp_region_walked (S := Is W.drew) (by kernel_rfl) (by kernel_rfl) rfl ?_
  repeat (apply walked_cons; (first | exact gives_and rfl rfl rfl rfl | exact gives_or rfl rfl rfl rfl | (focus (intro wS hS; cases hS; go_wp2; exact ⟨rfl, rfl, rfl⟩; done)) | (focus (apply gives_guard; (focus (first | exact wanted_yes rfl rfl rfl | exact wanted_no rfl rfl rfl | exact wanted_yes2 rfl rfl rfl | exact wanted_no2 rfl rfl rfl)); (focus (intro hx9; (try simp only [Bool.not_eq_true', Bool.and_eq_true, Bool.not_not] at hx9); (try obtain ⟨hx9, hy9⟩ := hx9); (try subst hy9); (try subst hx9); (first | exact gives_and rfl rfl rfl rfl | exact gives_or rfl rfl rfl rfl | (intro wS hS; cases hS; go_wp2; exact ⟨rfl, rfl, rfl⟩; done))))))); rfl; (try simp only [Act.put, List.setIfInBounds_toArray, List.set_cons_succ, List.set_cons_zero]))
  apply walked_nil
  intro wS hS
  cases hS
  go_wp2
  go_ret2
  exact ⟨rfl, ⟨HF.out.1.1, HF.out.1.2.1, trivial⟩, HF.out.2.drew⟩
theorem loops_reader (B bn bt t : Nat) (hn : bn < B) (hb : bt < B) (ht : t ≤ 1099511623680) (hne : bn ≠ bt) : Reader 27 #[.pointer (some ⟨bn, 0, none⟩), .pointer (some ⟨bt, 0, none⟩)] (fun b => b = bn) (LoopS bn bt t) (fun _ => t + 3) (okL t) B :=
  { own := fun b h => by omega
    fn := fn_loops
    word := fun a => by show t + 3 < _; omega
    keep := fun k x y h ho => has_only ho (fun z hz => by simp only [List.mem_cons, List.not_mem_nil, or_false] at hz; rcases hz with rfl | rfl <;> simp only <;> omega) h
    call := fun k a x hk ha hS => loops1_calls bn bt t k a hk ha ht hne x hS }

set_option maxHeartbeats 8000000 in
set_option maxRecDepth 100000 in
theorem walkLoops_walk (bi : Int) (hb0 : (Lit.int .u64 bi).wf = true) (ai : Int) (ha0 : (Lit.int .u64 ai).wf = true) (r : Bool) (w : World) :
    Calls Try.prog 6 #[.int .u64 bi, .int .u64 ai, .bool r] w (RetB w (.bool true)) := by
  obtain ⟨addr, rfl, haddr⟩ := wf_u64 ha0
  obtain ⟨base, rfl, hbase⟩ := wf_u64 hb0
  obtain ⟨t, ht, htm, htl⟩ := and_table base hbase
  have hL := loop_walk t addr htm htl
  have hout := fun (at_ raw : Int) => out_calls addr haddr 3 at_ raw 3 t (by omega) false false false 0
  have hov : outN addr 3 3 t = t + addr % 4096 := by
    unfold outN spanO
    rw [if_pos (.inr rfl), if_pos (by decide)]
    show (t + addr % 4096) % _ = _
    exact Nat.mod_eq_of_lt (by omega)
  rw [hov] at hout
  have hand := and_4095 addr haddr
  have HOut := Lib.hid hout
  have HL := Lib.hid hL
  have HM := Lib.hid htm
  clear ha0 hb0 hout hov hL htm
  go_enter Try.func6, Try.ntmps6
  go_upto_region 3 with (fail)
  have hH := holds_new #[.int .i64 0] 3 (holds_new #[.int .u64 (t : Nat)] 22 (holds_nil w))
  have hz : (w.alloc (.cells #[.int .u64 (t : Nat)] 22)).heap.size = w.heap.size + 1 := World.size_alloc _ _
  rw [hz] at hH
  have hsz : ((w.alloc (.cells #[.int .u64 (t : Nat)] 22)).alloc (.cells #[.int .i64 0] 3)).heap.size = w.heap.size + 2 := by simp
  generalize (w.alloc (.cells #[.int .u64 (t : Nat)] 22)).alloc (.cells #[.int .i64 0] 3) = W at *
  have hbn : w.heap.size ≤ w.heap.size + 1 := by omega
  have hlt : w.heap.size < W.heap.size ∧ w.heap.size + 1 < W.heap.size := by omega
  have hne : w.heap.size + 1 ≠ w.heap.size := by omega
  clear hz hsz
  have hN : ∃ bn, bn = w.heap.size + 1 := ⟨_, rfl⟩
  obtain ⟨bn, hN⟩ := hN
  rw [← hN] at hH hbn hlt hne ⊢
  clear hN
  generalize hbt : w.heap.size = bt at hH hlt hne ⊢
  have hc := walk_calls 1 (.inl rfl) t addr (by omega) haddr 27 #[.pointer (some ⟨bn, 0, none⟩), .pointer (some ⟨bt, 0, none⟩)] _ _ _ _ W (loops_reader _ bn bt t hlt.2 hlt.1 htl hne) ⟨hH.2.1, hH.2.2.1, trivial⟩
  rw [HL.out] at hc
  have HH := Lib.hid hH
  have HBN := Lib.hid hbn
  obtain ⟨s0, s1, s2, _⟩ := id hH
  obtain ⟨k1, f1, z1⟩ := of_block s1
  obtain ⟨k2, f2, z2⟩ := of_block s2
  clear hH hbn hlt hne s0 s1 s2 hbt
  go_wp2_with fail
  refine hc.mono ?_
  rintro e x1 ⟨v, rfl, hown, hS, hO1⟩
  have hown : x1.ownsRow W.heap.size 52 9 v 4 (stCells (loopL t addr)) := hown
  have hS : LoopS bn bt t 4 x1 := hS
  obtain ⟨ad, c, rfl, hc1, hc2, -, had⟩ := own_value hown
  obtain ⟨g, rfl⟩ := had (by decide)
  have hcap : c ≤ 9223372036854775807 := hc2
  have hSt : StepS w [(bn, #[.int .i64 4], 3), (bt, #[.int .u64 (t : Nat)], 22)] W.heap.size g 4 c (loopL t addr) x1 :=
    ⟨⟨old_step HH.out.1 hO1 (fun b e => by rw [e]; exact HBN.out), hS⟩, hown⟩
  clear hc hown hS hO1 k1 f1 z1 k2 f2 z2 hc2
  go_wp2_with fail
  refine wp_region_walked (S := StepS w [(bn, #[.int .i64 4], 3), (bt, #[.int .u64 (t : Nat)], 22)] W.heap.size g 4 c (loopL t addr)) (by kernel_rfl) (by kernel_rfl) (stepS_drew hSt) ?_
  have HT := Lib.hid told12_calls
  have hw3 : IntKind.u64.wrap ((t : Int) + ((addr % 4096 : Nat) : Int)) = ((t + addr % 4096 : Nat) : Int) := by rw [IntWalk.u64_in _ (by omega)]; rfl
  generalize addr % 4096 = lo at *
  repeat (apply walked_cons; (first | exact gives_and rfl rfl rfl rfl | exact gives_or rfl rfl rfl rfl | (focus (intro wS hS; obtain ⟨s0, s1, s2, _⟩ := id hS.1; obtain ⟨k1, f1, z1⟩ := of_block s1; obtain ⟨k2, f2, z2⟩ := of_block s2; have c27 := stepS_cell hS 27 (u := .int .i64 3) rfl; have c28 := stepS_cell hS 28 (u := .int .u64 (atN t addr 3 : Nat)) rfl; have c29 := stepS_cell hS 29 (u := .int .u64 ((t + 3 : Nat) : Int)) rfl; have c30 := stepS_cell hS 30 (u := .int .i64 3) rfl; have c31 := stepS_cell hS 31 (u := .int .u64 (t : Nat)) rfl; have c32 := stepS_cell hS 32 (u := .bool false) rfl; have c33 := stepS_cell hS 33 (u := .bool false) rfl; have c34 := stepS_cell hS 34 (u := .bool false) rfl; have c35 := stepS_cell hS 35 (u := .int .i64 0) rfl; go_wp2_with ((first | (go_at_call 22; (with_reducible refine (HT.out _).mono ?_); rintro e w9 ⟨rfl, hb9⟩) | (go_at_call 24; (with_reducible refine (HOut.out _ _ _).mono ?_); rintro e w9 ⟨rfl, hb9⟩))); ((first | exact ⟨rfl, rfl, hS⟩ | exact ⟨rfl, rfl, stepS_old hS hb9⟩)); done)) | (focus (apply gives_guard; (focus (first | exact wanted_yes rfl rfl rfl | exact wanted_no rfl rfl rfl | exact wanted_yes2 rfl rfl rfl | exact wanted_no2 rfl rfl rfl)); (focus (intro hx9; (try simp only [Bool.not_eq_true', Bool.and_eq_true, Bool.not_not] at hx9); (try obtain ⟨hx9, hy9⟩ := hx9); (try subst hy9); (try subst hx9); (first | exact gives_and rfl rfl rfl rfl | exact gives_or rfl rfl rfl rfl | (intro wS hS; obtain ⟨s0, s1, s2, _⟩ := id hS.1; obtain ⟨k1, f1, z1⟩ := of_block s1; obtain ⟨k2, f2, z2⟩ := of_block s2; have c27 := stepS_cell hS 27 (u := .int .i64 3) rfl; have c28 := stepS_cell hS 28 (u := .int .u64 (atN t addr 3 : Nat)) rfl; have c29 := stepS_cell hS 29 (u := .int .u64 ((t + 3 : Nat) : Int)) rfl; have c30 := stepS_cell hS 30 (u := .int .i64 3) rfl; have c31 := stepS_cell hS 31 (u := .int .u64 (t : Nat)) rfl; have c32 := stepS_cell hS 32 (u := .bool false) rfl; have c33 := stepS_cell hS 33 (u := .bool false) rfl; have c34 := stepS_cell hS 34 (u := .bool false) rfl; have c35 := stepS_cell hS 35 (u := .int .i64 0) rfl; go_wp2_with ((first | (go_at_call 22; (with_reducible refine (HT.out _).mono ?_); rintro e w9 ⟨rfl, hb9⟩) | (go_at_call 24; (with_reducible refine (HOut.out _ _ _).mono ?_); rintro e w9 ⟨rfl, hb9⟩))); ((first | exact ⟨rfl, rfl, hS⟩ | exact ⟨rfl, rfl, stepS_old hS hb9⟩)); done))))))); rfl; (try simp only [Act.put, List.setIfInBounds_toArray, List.set_cons_succ, List.set_cons_zero]))
  apply walked_nil
  intro wS hS
  have HS := Lib.hid hS.1.1
  clear hS
  go_wp2
  go_ret
  exact ⟨rfl, HS.out⟩
end Go.Proofs.Ytlbehhbicmmdoaa
