/- NestTell: several texts in one, for a claim's limit of files: each part says what it is. -/
import Derived.Test.YtlbehhbicmmdoaaNestWalk
import Derived.Test.YtlbehhbicmmdoaaNestWorld
import Derived.Test.YtlbehhbicmmdoaaDescTold

/- Layer 14: a memory beside blocks of one's own; comparisons; a walk without a memory. -/
namespace Go.Proofs.Ytlbehhbicmmdoaa
set_option linter.unusedVariables false
set_option linter.unusedSimpArgs false
open Go.RowKit

/-- A memory of 40 frames, blocks B of one's own; all that was there ahead is as it was. -/
def MemS (w0 : World) (p : Nat) (wd : Nat → Nat) (N : Nat) (B : Nat → Prop) (x : World) : Prop :=
  ∃ X : Nat → Prop, (∀ b, b < w0.heap.size → X b) ∧ (∀ b, B b → X b) ∧ IsMemW x X p 40 wd N ∧ Old w0 x
section
variable {w0 x y : World} {p N M mb : Nat} {B B' : Nat → Prop} {wd : Nat → Nat}
theorem memS_of (h : WorS w0 mb p B wd N x) : MemS w0 p wd N B x := by
  obtain ⟨X, h1, h2, h3, h4, h5, h6, h7⟩ := h
  exact ⟨X, h2, h4, h5, h7⟩
theorem memS_old (h : MemS w0 p wd N B x) (ho : Old x y) : MemS w0 p wd N B y := by
  obtain ⟨X, h1, h2, h3, h4⟩ := h
  exact ⟨X, h1, h2, memW_old h3 ho, old_then h4 ho⟩
theorem memS_le (h : MemS w0 p wd N B x) (hM : N ≤ M) : MemS w0 p wd M B x := by
  obtain ⟨X, h1, h2, h3, h4⟩ := h
  exact ⟨X, h1, h2, memW_le h3 hM, h4⟩
theorem memS_less (h : MemS w0 p wd N B x) (hB : ∀ b, B' b → B b) : MemS w0 p wd N B' x := by
  obtain ⟨X, h1, h2, h3, h4⟩ := h
  exact ⟨X, h1, fun b hb => h2 b (hB b hb), h3, h4⟩
theorem memS_new (h : MemS w0 p wd N B x) (ho : Old x y) (hB : ∀ b, B' b → B b ∨ x.heap.size ≤ b) : MemS w0 p wd N B' y := by
  obtain ⟨X, h1, h2, h3, h4⟩ := h
  exact ⟨fun b => X b ∨ x.heap.size ≤ b, fun b hb => .inl (h1 b hb), fun b hb => (hB b hb).imp (h2 b) id, memW_old (memW_more h3 (fun b hb => hb)) ho, old_then h4 ho⟩
theorem memS_size (h : MemS w0 p wd N B x) : w0.heap.size ≤ x.heap.size := by
  obtain ⟨X, h1, h2, h3, h4⟩ := h
  exact h4.size
theorem memS_word (h : MemS w0 p wd N B x) : Old w0 x := by
  obtain ⟨X, h1, h2, h3, h4⟩ := h
  exact h4
/-- What a walk tells. -/
def RetW (w0 : World) (p : Nat) (wd : Nat → Nat) (N : Nat) (B : Nat → Prop) (x : World) (q : O8 × F5 × Nat) (e : Ending) (y : World) : Prop :=
  e = .returned (.tuple #[.agg q.1.cells, .agg q.2.1.cells, .int .i64 (q.2.2 : Nat)]) ∧ MemS w0 p wd N B y ∧ (∀ b o, B b → x.heap[b]? = some o → y.heap[b]? = some o) ∧ x.heap.size ≤ y.heap.size
theorem retW_of {X : Nat → Prop} {q : O8 × F5 × Nat} {e : Ending} (h1 : ∀ b, b < w0.heap.size → X b) (h2 : ∀ b, B b → X b) (h4 : Old w0 x) (h : RetSec x X p 40 wd N q e y) : RetW w0 p wd N B x q e y := by
  obtain ⟨he, hm, ho⟩ := h
  refine ⟨he, ⟨X, h1, h2, hm, ?_⟩, fun b o hb hx => keep_only ho (fun f => f (h2 b hb)) hx, ho.size⟩
  exact Only.to_below ((Only.of_below h4).step ho (fun b hb f => by
    have := h1 b
    exact absurd (this (by omega)) f))
theorem memS_walk (h : MemS w0 p wd N B x) (hN : N < 3999999800) (two root va : Nat) (on : Bool) (htwo : two < 18446744073709551616) (hroot : root < 18446744073709551616) (hva : va < 18446744073709551616) (access : Int) :
    Calls Try.prog 30 #[.pointer (some ⟨p, 0, none⟩), .agg #[.int .u64 (two : Nat), .bool on, .int .u64 (root : Nat)], .int .u64 (va : Nat), .int .i64 access] x (RetW w0 p wd (N + 24) B x (nestN (rawM 40 wd) (okM 40) two on root va access)) := by
  obtain ⟨X, h1, h2, h3, h4⟩ := h
  exact (nest_calls h3 hN two root va on htwo hroot hva access).mono fun e y hr => retW_of h1 h2 h4 hr
theorem memS_second (h : MemS w0 p wd N B x) (hN : N < 3999999800) (two ipa : Nat) (htwo : two < 18446744073709551616) (hipa : ipa < 18446744073709551616) (access : Int) :
    Calls Try.prog 33 #[.pointer (some ⟨p, 0, none⟩), .int .u64 (two : Nat), .int .u64 (ipa : Nat), .int .i64 access] x (RetW w0 p wd (N + 4) B x (secondN (rawM 40 wd) (okM 40) two ipa access)) := by
  obtain ⟨X, h1, h2, h3, h4⟩ := h
  exact (second_calls h3 (by omega) two ipa htwo hipa access).mono fun e y hr => retW_of h1 h2 h4 hr
end
/-- Are two places alike? -/
theorem eq_out (a b : O8) (w : World) : (Op.equalIn 10000 65 (.agg a.cells) (.agg b.cells)).run Try.prog w = .ok ((a.fr : Int) == b.fr && ((a.ip : Int) == b.ip && ((a.r1 == b.r1 && (a.w1 == b.w1 && (a.x1 == b.x1 && true))) && ((a.r2 == b.r2 && (a.w2 == b.w2 && (a.x2 == b.x2 && true))) && true)))) w := by
  obtain ⟨a1, a2, a3, a4, a5, a6, a7, a8⟩ := a
  obtain ⟨b1, b2, b3, b4, b5, b6, b7, b8⟩ := b
  unfold O8.cells
  refine same_struct (d := 9999) Try.underlying65 (by kernel_rfl) ?_
  refine same_cons (by rfl) (by go_simp; rfl) (by go_simp; rfl) (by go_simp) ?_
  refine same_cons (by rfl) (by go_simp; rfl) (by go_simp; rfl) (by go_simp) ?_
  refine same_cons (a := .agg #[.bool a3, .bool a4, .bool a5]) (b := .agg #[.bool b3, .bool b4, .bool b5]) (by rfl) (by go_simp) (by go_simp) (eq_permN 9997 a3 a4 a5 b3 b4 b5 w) ?_
  refine same_cons (a := .agg #[.bool a6, .bool a7, .bool a8]) (b := .agg #[.bool b6, .bool b7, .bool b8]) (by rfl) (by go_simp) (by go_simp) (eq_permN 9997 a6 a7 a8 b6 b7 b8 w) ?_
  exact same_nil
theorem eq_fau (a b : F5) (w : World) : (Op.equalIn 10000 67 (.agg a.cells) (.agg b.cells)).run Try.prog w = .ok (a.st == b.st && (a.k == b.k && (a.lv == b.lv && ((a.ad : Int) == b.ad && (a.store == b.store && true))))) w := by
  obtain ⟨a1, a2, a3, a4, a5⟩ := a
  obtain ⟨b1, b2, b3, b4, b5⟩ := b
  unfold F5.cells
  refine same_struct (d := 9999) Try.underlying67 (by kernel_rfl) ?_
  refine same_cons (by rfl) (by go_simp; rfl) (by go_simp; rfl) (by go_simp) ?_
  refine same_cons (by rfl) (by go_simp; rfl) (by go_simp; rfl) (by go_simp) ?_
  refine same_cons (by rfl) (by go_simp; rfl) (by go_simp; rfl) (by go_simp) ?_
  refine same_cons (by rfl) (by go_simp; rfl) (by go_simp; rfl) (by go_simp) ?_
  refine same_cons (by rfl) (by go_simp; rfl) (by go_simp; rfl) (by go_simp) ?_
  exact same_nil
theorem eq_out_self (a : O8) (w : World) : (Op.equalIn 10000 65 (.agg a.cells) (.agg a.cells)).run Try.prog w = .ok true w := by
  rw [eq_out]; simp
theorem eq_fau_self (a : F5) (w : World) : (Op.equalIn 10000 67 (.agg a.cells) (.agg a.cells)).run Try.prog w = .ok true w := by
  rw [eq_fau]; simp
set_option maxRecDepth 100000 in
theorem told_v1 : secondN (rawM 40 (wdC 16)) (okM 40) 4096 20488 1 = (⟨frN 5, 5, true, true, true, true, true, false⟩, F0, 4) := by kernel_rfl
set_option maxRecDepth 100000 in
theorem told_v2 : ∃ o : O8, nestN (rawM 40 (wdC 16)) (okM 40) 4096 true 0 4104 1 = (o, F0, 24) ∧ o.fr = frN 5 := ⟨(nestN (rawM 40 (wdC 16)) (okM 40) 4096 true 0 4104 1).1, by kernel_rfl, by kernel_rfl⟩
set_option maxRecDepth 100000 in
theorem told_v3 : secondN (rawM 40 (wdC 16)) (okM 40) 4096 16384 2 = (O0, ⟨2, 2, -1, 16384, true⟩, 4) := by kernel_rfl
end Go.Proofs.Ytlbehhbicmmdoaa
/- Layer 14: Second and Walk without a memory. -/
namespace Go.Proofs.Ytlbehhbicmmdoaa
set_option linter.unusedVariables false
set_option linter.unusedSimpArgs false
open Go.RowKit

theorem old_putB2 {w x : World} {b1 b2 : Nat} {o1 o2 : Obj} (h : Old w x) (h1 : w.heap.size ≤ b1) (h2 : w.heap.size ≤ b2) : Old w (putB (putB x b1 o1) b2 o2) := old_put (old_put h _ h1) _ h2
set_option maxHeartbeats 8000000 in
set_option maxRecDepth 100000 in
theorem second_nil (two ipa : Nat) (access : Int) (w : World) :
    Calls Try.prog 33 #[.pointer none, .int .u64 (two : Nat), .int .u64 (ipa : Nat), .int .i64 access] w (RetB w (.tuple #[.agg O0.cells, .agg (⟨2, 4, -1, ipa, decide (access = 2)⟩ : F5).cells, .int .i64 0])) := by
  obtain ⟨sto, hsto⟩ : ∃ sto, (access == 2) = sto := ⟨_, rfl⟩
  have hsd : decide (access = 2) = sto := by rw [← hsto]; rfl
  rw [hsd]
  clear hsd
  go_enter Try.func33, Try.ntmps33
  go_upto_region 2 with (fail)
  have hH := holds_new #[Value.int .i64 2, .int .i64 4, .int .i64 (-1), .int .u64 (ipa : Nat), .bool sto] 67 (holds_new #[Value.int .i64 0, .int .i64 0, .int .i64 0, .int .u64 0, .bool false] 67 (holds_new #[Value.int .i64 0, .int .u64 0, .bool false, .bool false, .bool false, .bool false, .bool false, .bool false] 65 (holds_new #[.pointer none] 61 (holds_nil w))))
  simp only [World.size_alloc] at hH
  generalize ((((w.alloc (.cells #[.pointer none] 61)).alloc (.cells #[Value.int .i64 0, .int .u64 0, .bool false, .bool false, .bool false, .bool false, .bool false, .bool false] 65)).alloc (.cells #[Value.int .i64 0, .int .i64 0, .int .i64 0, .int .u64 0, .bool false] 67)).alloc (.cells #[Value.int .i64 2, .int .i64 4, .int .i64 (-1), .int .u64 (ipa : Nat), .bool sto] 67)) = X1 at *
  obtain ⟨bf, hbf⟩ : ∃ bf, bf = w.heap.size + 1 + 1 + 1 := ⟨_, rfl⟩
  obtain ⟨b9, hb9⟩ : ∃ b9, b9 = w.heap.size + 1 + 1 := ⟨_, rfl⟩
  obtain ⟨b8, hb8⟩ : ∃ b8, b8 = w.heap.size + 1 := ⟨_, rfl⟩
  obtain ⟨mb, hmb⟩ : ∃ mb, mb = w.heap.size := ⟨_, rfl⟩
  rw [← hbf, ← hb9, ← hb8, ← hmb] at hH
  rw [← hbf, ← hb9, ← hb8, ← hmb]
  have HNE : Hid (b8 ≠ b9 ∧ bf ≠ b8 ∧ bf ≠ b9 ∧ w.heap.size ≤ b8 ∧ w.heap.size ≤ b9) := Lib.hid (by omega)
  obtain ⟨hO, KF, K9, K8, hKm, -⟩ := id hH
  have HK := Lib.hid (And.intro hO (And.intro KF (And.intro K9 K8)))
  obtain ⟨km, qm, zm⟩ := of_block hKm
  clear hbf hb9 hb8 hmb hH hO KF K9 K8 hKm
  go_upto_region 3 with (fail)
  obtain ⟨hO, KF, K9, K8⟩ := HK.out
  clear km qm zm hO
  refine wp_region_staged (S := TwoS 2 3 b8 (.cells #[Value.int .i64 0, .int .u64 0, .bool false, .bool false, .bool false, .bool false, .bool false, .bool false] 65) b9 (.cells #[Value.int .i64 2, .int .i64 4, .int .i64 (-1), .int .u64 (ipa : Nat), .bool sto] 67) X1.drew) 5 (by kernel_rfl) (by kernel_rfl) (by kernel_rfl) (by decide) (two_start _) ?_
  apply walkedS_cons
  · intro l9 wS hz hn hS
    have hS9 := two_other 0 (by decide) (by decide) hS
    clear hS
    go_wp2
    exact ⟨rfl, rfl, hS9⟩
  · rfl
  (try simp only [Act.put, List.setIfInBounds_toArray, List.set_cons_succ, List.set_cons_zero])
  apply walkedS_cons
  · intro l9 wS hz hn hS
    have hS9 := two_other 1 (by decide) (by decide) hS
    have c9 := two_cell hS HNE.out.2.1 HNE.out.2.2.1 KF
    clear hS
    go_wp2
    exact ⟨rfl, rfl, hS9⟩
  · rfl
  (try simp only [Act.put, List.setIfInBounds_toArray, List.set_cons_succ, List.set_cons_zero])
  apply walkedS_cons
  · intro l9 wS hz hn hS
    have hb9 := two_first hn hS HNE.out.1 K8
    have hd9 := two_done1 hz (by decide) (by decide) hn HNE.out.1 hS
    refine wpList_store_whole rfl 65 _ _ rfl b8 [Value.int .i64 0, .int .u64 0, .bool false, .bool false, .bool false, .bool false, .bool false, .bool false] rfl rfl 65 _ hb9 (by kernel_rfl) rfl (by intro v hv; simp only [List.mem_cons, List.not_mem_nil, or_false] at hv; rcases hv with rfl | rfl | rfl | rfl | rfl | rfl | rfl | rfl <;> rfl) ?_
    exact ⟨rfl, rfl, hd9⟩
  · rfl
  (try simp only [Act.put, List.setIfInBounds_toArray, List.set_cons_succ, List.set_cons_zero])
  apply walkedS_cons
  · intro l9 wS hz hn hS
    have hb9 := two_second hn hS HNE.out.1 K9
    have hd9 := two_done2 hz (by decide) (by decide) hn hS
    refine wpList_store_whole rfl 67 _ _ rfl b9 [Value.int .i64 2, .int .i64 4, .int .i64 (-1), .int .u64 (ipa : Nat), .bool sto] rfl rfl 67 _ hb9 (by kernel_rfl) rfl (by intro v hv; simp only [List.mem_cons, List.not_mem_nil, or_false] at hv; rcases hv with rfl | rfl | rfl | rfl | rfl <;> rfl) ?_
    exact ⟨rfl, rfl, hd9⟩
  · rfl
  (try simp only [Act.put, List.setIfInBounds_toArray, List.set_cons_succ, List.set_cons_zero])
  apply walkedS_cons
  · intro l9 wS hz hn hS
    have hS9 := two_other 4 (by decide) (by decide) hS
    clear hS
    go_wp2
    exact ⟨rfl, rfl, hS9⟩
  · rfl
  (try simp only [Act.put, List.setIfInBounds_toArray, List.set_cons_succ, List.set_cons_zero])
  apply walkedS_nil
  intro l9 wS hz hall hS
  obtain rfl := two_all (hall 2 (by decide)) (hall 3 (by decide)) hS
  clear hS hall hz l9
  show wpList _ _ _ [] _ _
  go_wp2
  have r8 : (putB (putB X1.drew b8 (.cells #[Value.int .i64 0, .int .u64 0, .bool false, .bool false, .bool false, .bool false, .bool false, .bool false] 65)) b9 (.cells #[Value.int .i64 2, .int .i64 4, .int .i64 (-1), .int .u64 (ipa : Nat), .bool sto] 67)).heap[b8]? = some (.cells #[Value.int .i64 0, .int .u64 0, .bool false, .bool false, .bool false, .bool false, .bool false, .bool false] 65) := by rw [putB_other _ (Ne.symm HNE.out.1)]; exact putB_same _ (lt_of_block (show X1.drew.heap[b8]? = _ from K8))
  have r9 : (putB (putB X1.drew b8 (.cells #[Value.int .i64 0, .int .u64 0, .bool false, .bool false, .bool false, .bool false, .bool false, .bool false] 65)) b9 (.cells #[Value.int .i64 2, .int .i64 4, .int .i64 (-1), .int .u64 (ipa : Nat), .bool sto] 67)).heap[b9]? = some (.cells #[Value.int .i64 2, .int .i64 4, .int .i64 (-1), .int .u64 (ipa : Nat), .bool sto] 67) := putB_same _ (by rw [putB_size]; exact lt_of_block (show X1.drew.heap[b9]? = _ from K9))
  obtain ⟨k8, -, -⟩ := of_block r8
  obtain ⟨k9, -, -⟩ := of_block r9
  refine bodyPost_ret (by simp [results, Try.results33, go_sem, k8, k9]; try rfl) rfl ?_
  exact ⟨rfl, old_putB2 (old_drew HK.out.1) HNE.out.2.2.2.1 HNE.out.2.2.2.2⟩
/-- Two new blocks that are stored into. -/
theorem pair_new (y : World) (a b O F : Array Value) (s t : TypeId) : ∃ Y, Y = putB (putB ((y.alloc (.cells a s)).alloc (.cells b t)) y.heap.size (.cells O s)) (y.heap.size + 1) (.cells F t) ∧ Old y Y ∧ Y.heap[y.heap.size]? = some (.cells O s) ∧ Y.heap[y.heap.size + 1]? = some (.cells F t) ∧ Y.heap.size = y.heap.size + 2 ∧
    ((y.alloc (.cells a s)).alloc (.cells b t)).heap[y.heap.size]? = some (.cells a s) ∧ (putB ((y.alloc (.cells a s)).alloc (.cells b t)) y.heap.size (.cells O s)).heap[y.heap.size + 1]? = some (.cells b t) := by
  have h1 := keep_old (old_alloc (old_refl (y.alloc (.cells a s))) (.cells b t)) (new_block y (.cells a s))
  have h2 := new_block (y.alloc (.cells a s)) (.cells b t)
  rw [World.size_alloc] at h2
  have h3 := (putB_other (.cells O s) (show y.heap.size ≠ y.heap.size + 1 by omega)).trans h2
  refine ⟨_, rfl, old_putB2 (old_alloc (old_alloc (old_refl y) _) _) (Nat.le_refl _) (Nat.le_succ _), ?_, putB_same _ (lt_of_block h3), ?_, h1, h3⟩
  · exact (putB_other _ (show y.heap.size + 1 ≠ y.heap.size by omega)).trans (putB_same _ (lt_of_block h1))
  · rw [putB_size, putB_size, World.size_alloc, World.size_alloc]
set_option maxHeartbeats 8000000 in
set_option maxRecDepth 100000 in
theorem walkM_nil (w : World) :
    Calls Try.prog 30 #[.pointer none, .agg #[.int .u64 0, .bool false, .int .u64 0], .int .u64 0, .int .i64 1] w (RetB w (.tuple #[.agg O0.cells, .agg (⟨2, 4, -1, 0, false⟩ : F5).cells, .int .i64 0])) := by
  have hc : ∀ y, Calls Try.prog 33 #[.pointer none, .int .u64 0, .int .u64 0, .int .i64 1] y (RetB y (.tuple #[.agg #[Value.int .i64 0, .int .u64 0, .bool false, .bool false, .bool false, .bool false, .bool false, .bool false], .agg #[Value.int .i64 2, .int .i64 4, .int .i64 (-1), .int .u64 0, .bool false], .int .i64 0])) := fun y => second_nil 0 0 1 y
  have hH := holds_new #[Value.int .i64 1, .int .i64 3, .int .i64 (-1), .int .u64 0, .bool false] 67 (holds_new #[Value.int .i64 0, .int .i64 0, .int .i64 0, .int .u64 0, .bool false] 67 (holds_new #[Value.int .i64 0, .int .u64 0, .bool false, .bool false, .bool false, .bool false, .bool false, .bool false] 65 (holds_new #[.int .u64 0, .bool false, .int .u64 0] 71 (holds_nil w))))
  simp only [World.size_alloc] at hH
  obtain ⟨hO, KF, K9, K8, KV, -⟩ := id hH
  have HK := Lib.hid (And.intro hO (And.intro K8 K9))
  obtain ⟨kv, qv, zv⟩ := of_block KV
  clear hH hO KF K9 K8 KV
  show Calls _ _ _ _ (RetB w (.tuple #[.agg #[Value.int .i64 0, .int .u64 0, .bool false, .bool false, .bool false, .bool false, .bool false, .bool false], .agg #[Value.int .i64 2, .int .i64 4, .int .i64 (-1), .int .u64 0, .bool false], .int .i64 0]))
  go_enter Try.func30, Try.ntmps30
  go_upto_region 6 with (fail)
  generalize ((((w.alloc (.cells #[.int .u64 0, .bool false, .int .u64 0] 71)).alloc (.cells #[Value.int .i64 0, .int .u64 0, .bool false, .bool false, .bool false, .bool false, .bool false, .bool false] 65)).alloc (.cells #[Value.int .i64 0, .int .i64 0, .int .i64 0, .int .u64 0, .bool false] 67)).alloc (.cells #[Value.int .i64 1, .int .i64 3, .int .i64 (-1), .int .u64 0, .bool false] 67)) = X1 at *
  obtain ⟨b9, hb9⟩ : ∃ b9, b9 = w.heap.size + 1 + 1 := ⟨_, rfl⟩
  obtain ⟨b8, hb8⟩ : ∃ b8, b8 = w.heap.size + 1 := ⟨_, rfl⟩
  rw [← hb9, ← hb8] at HK
  rw [← hb9, ← hb8]
  have HNE : Hid (b8 ≠ b9 ∧ w.heap.size ≤ b8 ∧ w.heap.size ≤ b9) := Lib.hid (by omega)
  clear hb9 hb8
  go_wp2_with fail
  (with_reducible refine (hc _).mono ?_)
  rintro e x2 ⟨rfl, hO2⟩
  have K8 := keep_old hO2 HK.out.2.1
  have K9 := keep_old hO2 HK.out.2.2
  have K9' := (putB_other (.cells #[Value.int .i64 0, .int .u64 0, .bool false, .bool false, .bool false, .bool false, .bool false, .bool false] 65) HNE.out.1).trans K9
  have HW2 := Lib.hid (And.intro K8 (And.intro K9' (old_then HK.out.1 hO2)))
  clear hc hO2 K8 K9 K9' kv qv zv
  go_wp2_with (first | (refine wpList_store_whole rfl 65 _ _ rfl b8 [Value.int .i64 0, .int .u64 0, .bool false, .bool false, .bool false, .bool false, .bool false, .bool false] rfl rfl 65 _ HW2.out.1 (by kernel_rfl) rfl (by intro v hv; simp only [List.mem_cons, List.not_mem_nil, or_false] at hv; rcases hv with rfl | rfl | rfl | rfl | rfl | rfl | rfl | rfl <;> rfl) ?_) | (refine wpList_store_whole rfl 67 _ _ rfl b9 [Value.int .i64 2, .int .i64 4, .int .i64 (-1), .int .u64 0, .bool false] rfl rfl 67 _ HW2.out.2.1 (by kernel_rfl) rfl (by intro v hv; simp only [List.mem_cons, List.not_mem_nil, or_false] at hv; rcases hv with rfl | rfl | rfl | rfl | rfl <;> rfl) ?_))
  have r8 := (putB_other (.cells #[Value.int .i64 2, .int .i64 4, .int .i64 (-1), .int .u64 0, .bool false] 67) (Ne.symm HNE.out.1)).trans (putB_same (.cells #[Value.int .i64 0, .int .u64 0, .bool false, .bool false, .bool false, .bool false, .bool false, .bool false] 65) (lt_of_block HW2.out.1))
  have r9 := putB_same (.cells #[Value.int .i64 2, .int .i64 4, .int .i64 (-1), .int .u64 0, .bool false] 67) (lt_of_block HW2.out.2.1)
  obtain ⟨k8, -, -⟩ := of_block r8
  obtain ⟨k9, -, -⟩ := of_block r9
  refine bodyPost_ret (by simp [results, Try.results30, go_sem, k8, k9]; try rfl) rfl ?_
  exact ⟨rfl, old_putB2 HW2.out.2.2 HNE.out.2.1 HNE.out.2.2⟩
end Go.Proofs.Ytlbehhbicmmdoaa
