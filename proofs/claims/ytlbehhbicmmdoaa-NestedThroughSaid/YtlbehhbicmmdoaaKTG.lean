/- Texts on the way to the statement NestedThrough, several in one file: each part says what it is. -/
import Derived.Test.YtlbehhbicmmdoaaKTC
import Derived.Test.YtlbehhbicmmdoaaKTF
namespace Go.Proofs.Ytlbehhbicmmdoaa
set_option linter.unusedVariables false
set_option linter.unusedSimpArgs false
open Go.RowKit
theorem fn_rd (args : Array Value) (x : World) : (callFunc 57 args).run Try.prog x = .ok (.enter 57 args) x := by kernel_rfl
theorem rd_reader {X : Nat → Prop} {rp p frames N B two root : Nat} {wd : Nat → Nat} {on sto : Bool} {x : World} (hN : N < 3999999900) (htwo : two < 18446744073709551616) (h0 : RdS X rp p frames wd N B two on root sto [] x) (hraw : ∀ a, rawM frames wd a < 18446744073709551616) :
    ReaderB 57 (.pointer (some ⟨rp, 0, none⟩)) (fun b => ¬ X b ∨ b = rp) (RdS X rp p frames wd N B two on root sto) (raw1N (rawM frames wd) (okM frames) two) (ok1N (rawM frames wd) (okM frames) two) B :=
  { own := fun b h => h.elim (h0.old b) (fun e => by rw [e]; exact h0.lt)
    fn := fn_rd
    word := fun a => by
      unfold raw1N; split
      · exact hraw _
      · decide
    keep := fun k x y h ho => rdS_only h ho
    call := fun k a x hk hok ha hS => rd_calls a hk hok hN htwo ha hS }
theorem wpList_store_as {P : Program} {w : World} {ops : Array Oper} {rest : List Oper} {o : Oper} {a : Act} {Q : Exit → Act → World → Prop} (hgd : o.guard = none) (ty : TypeId) (x y : Operand) (ho : o.op = .store ty x y)
    (g off : Nat) (cells : List Value) (hx : a.eval x = .pointer (some ⟨g, off, none⟩)) (hy : a.eval y = .agg cells.toArray)
    (t : TypeId) (old C : Array Value) (hg : w.heap[g]? = some (.cells old t)) (hi : (P.info? ty).map (·.size) = some cells.length)
    (hold : off + cells.length ≤ old.size) (h1 : ∀ v ∈ cells, v.oneCell' = true) (hC : (old.toList.take off ++ cells ++ old.toList.drop (off + cells.length)).toArray = C)
    (h : wpList P ops Q rest (a.put o.dst undef) (putB w g (.cells C t))) : wpList P ops Q (o :: rest) a w := by
  subst hC
  exact wpList_store_at hgd ty x y ho g off cells hx hy t old hg hi hold h1 h
theorem retSec_end0 {w W : World} {X : Nat → Prop} {p frames N M K mb b8 b9 n : Nat} {wd : Nat → Nat} {q : O8 × F5 × Nat} {o : O8} {f : F5} {o1 o2 : Obj} (hn : mb = w.heap.size) (hm : IsMemW W (fun b => X b ∨ mb ≤ b) p frames wd M) (hM : M ≤ K) (ho : Only (fun b => ¬ (X b ∨ mb ≤ b) ∨ mb ≤ b) w W) (h8 : mb ≤ b8) (h9 : mb ≤ b9) (hq : q = (o, f, n)) :
    RetSec w X p frames wd K q (.returned (.tuple #[.agg o.cells, .agg f.cells, .int .i64 (n : Nat)])) (putB (putB W b8 o1) b9 o2) := by
  subst hq
  obtain ⟨a, b⟩ := retSec_only hn (memW_putB2 hm (.inr h8) (.inr h9) (o1 := o1) (o2 := o2)) (only_putB2 ho (by omega) (by omega)) (fun b hb => hb.imp (fun h h' => h (.inl h')) id)
  exact ⟨rfl, memW_le a hM, b⟩
theorem retSec_end1 {w W : World} {X : Nat → Prop} {p frames M K mb b8 b9 n : Nat} {wd : Nat → Nat} {q : O8 × F5 × Nat} {o : O8} {f : F5} {o1 o2 : Obj} (hn : mb = w.heap.size) (hm : IsMemW W (fun b => X b ∨ mb ≤ b) p frames wd M) (hM : M ≤ K) (ho : Only (fun b => ¬ (X b ∨ mb ≤ b) ∨ mb ≤ b) w W) (h8 : mb ≤ b8) (h9 : mb ≤ b9) (hq : q = (o, f, n)) :
    RetSec w X p frames wd K q (.returned (.tuple #[.agg o.cells, .agg f.cells, .int .i64 (n : Nat)])) (putB (putB W.drew b8 o1) b9 o2) := retSec_end0 (W := W.drew) (N := M) hn (memW_drew hm) hM (only_drew ho) h8 h9 hq
set_option maxHeartbeats 16000000 in
set_option maxRecDepth 100000 in
theorem nest_calls {w : World} {X : Nat → Prop} {p frames : Nat} {wd : Nat → Nat} {N : Nat} (h : IsMemW w X p frames wd N) (hN : N < 3999999800) (two root va : Nat) (on : Bool) (htwo : two < 18446744073709551616) (hroot : root < 18446744073709551616) (hva : va < 18446744073709551616) (access : Int) :
    Calls Try.prog 30 #[.pointer (some ⟨p, 0, none⟩), .agg #[.int .u64 (two : Nat), .bool on, .int .u64 (root : Nat)], .int .u64 (va : Nat), .int .i64 access] w (RetSec w X p frames wd (N + 24) (nestN (rawM frames wd) (okM frames) two on root va access)) := by
  obtain ⟨sto, hsto⟩ : ∃ sto, (access == 2) = sto := ⟨_, rfl⟩
  have hsd : decide (access = 2) = sto := by rw [← hsto]; rfl
  have HSD := Lib.hid hsd
  obtain ⟨q, hq⟩ : ∃ q, nestN (rawM frames wd) (okM frames) two on root va access = q := ⟨_, rfl⟩
  rw [hq]
  have HQ := Lib.hid hq
  have hraw := fun a => rawM_lt h a
  have hmem : ∀ x, Old w x → IsMemW x (fun b => X b ∨ w.heap.size ≤ b) p frames wd N := fun x hx => memW_old (memW_more h (fun b hb => hb)) hx
  have hlt : ∀ b, ¬ (X b ∨ w.heap.size ≤ b) → b < w.heap.size := fun b hb => Nat.lt_of_not_le (fun e => hb (.inr e))
  have HM := Lib.hid (And.intro hraw (And.intro hmem hlt))
  have HU := Lib.hid (And.intro hN (And.intro htwo (And.intro hroot hva)))
  clear h hsd hq hraw hmem hlt hN htwo hroot hva
  go_enter Try.func30, Try.ntmps30
  go_upto_region 3 with (fail)
  have hH := holds_new #[Value.int .i64 1, .int .i64 3, .int .i64 (-1), .int .u64 (va : Nat), .bool sto] 67 (holds_new #[Value.int .i64 0, .int .i64 0, .int .i64 0, .int .u64 0, .bool false] 67 (holds_new #[Value.int .i64 0, .int .u64 0, .bool false, .bool false, .bool false, .bool false, .bool false, .bool false] 65 (holds_new #[.int .u64 (two : Nat), .bool on, .int .u64 (root : Nat)] 71 (holds_nil w))))
  simp only [World.size_alloc] at hH
  have hsz : ((((w.alloc (.cells #[.int .u64 (two : Nat), .bool on, .int .u64 (root : Nat)] 71)).alloc (.cells #[.int .i64 0, .int .u64 0, .bool false, .bool false, .bool false, .bool false, .bool false, .bool false] 65)).alloc (.cells #[.int .i64 0, .int .i64 0, .int .i64 0, .int .u64 0, .bool false] 67)).alloc (.cells #[Value.int .i64 1, .int .i64 3, .int .i64 (-1), .int .u64 (va : Nat), .bool sto] 67)).heap.size = w.heap.size + 1 + 1 + 1 + 1 := by simp only [World.size_alloc]
  generalize ((((w.alloc (.cells #[.int .u64 (two : Nat), .bool on, .int .u64 (root : Nat)] 71)).alloc (.cells #[.int .i64 0, .int .u64 0, .bool false, .bool false, .bool false, .bool false, .bool false, .bool false] 65)).alloc (.cells #[.int .i64 0, .int .i64 0, .int .i64 0, .int .u64 0, .bool false] 67)).alloc (.cells #[Value.int .i64 1, .int .i64 3, .int .i64 (-1), .int .u64 (va : Nat), .bool sto] 67)) = X1 at *
  obtain ⟨bf, hbf⟩ : ∃ bf, bf = w.heap.size + 1 + 1 + 1 := ⟨_, rfl⟩
  obtain ⟨b9, hb9⟩ : ∃ b9, b9 = w.heap.size + 1 + 1 := ⟨_, rfl⟩
  obtain ⟨b8, hb8⟩ : ∃ b8, b8 = w.heap.size + 1 := ⟨_, rfl⟩
  obtain ⟨vb, hvb⟩ : ∃ vb, vb = w.heap.size := ⟨_, rfl⟩
  rw [← hbf, ← hb9, ← hb8, ← hvb] at hH
  rw [← hbf, ← hb9, ← hb8, ← hvb]
  have hmm := HM.out.2.1 X1 hH.1
  have hlt := HM.out.2.2
  rw [← hvb] at hmm hlt
  have HB := Lib.hid (And.intro hvb (And.intro hb8 (And.intro hb9 (And.intro hbf hsz))))
  have HX := Lib.hid (And.intro hmm hlt)
  have HNE : Hid (b8 ≠ b9 ∧ bf ≠ b8 ∧ bf ≠ b9 ∧ vb ≤ bf ∧ vb ≤ b8 ∧ vb ≤ b9) := Lib.hid (by omega)
  obtain ⟨hO, hKf, hK9, hK8, hKv, -⟩ := id hH
  have HK := Lib.hid (And.intro hO (And.intro hKf (And.intro hK9 (And.intro hK8 hKv))))
  obtain ⟨kv, qv, zv⟩ := of_block hKv
  obtain ⟨kf, qf, zf⟩ := of_block hKf
  clear hvb hb8 hb9 hbf hsz hmm hlt hH hO hKf hK9 hK8 hKv
  by_cases hi : 281474976710656 ≤ va
  · have hi1 : decide ((281474976710656 : Int) ≤ (va : Int)) = true := decide_eq_true (by omega)
    have HQ6 : Hid (q = (O0, ⟨1, 3, -1, va, sto⟩, 0)) := Lib.hid (by rw [← HQ.out, ← HSD.out]; unfold nestN; exact if_pos hi)
    obtain ⟨-, KF, K9, K8, -⟩ := HK.out
    have HK1 := Lib.hid (And.intro K8 (And.intro K9 KF))
    have hO := HK.out.1
    have ho : Only (fun b => ¬ (X b ∨ vb ≤ b) ∨ vb ≤ b) w X1 := ((Only.of_below HK.out.1).mono fun b _ f => f.elim)
    have HW2 := Lib.hid (And.intro HX.out.1 ho)
    clear hi HM KF K9 K8 hO ho
    go_upto_region 4 with (fail)
    obtain ⟨K8, K9, KF⟩ := HK1.out
    clear kv qv zv kf qf zf hi1
    refine wp_region_staged (S := TwoS 2 3 b8 (.cells #[Value.int .i64 0, .int .u64 0, .bool false, .bool false, .bool false, .bool false, .bool false, .bool false] 65) b9 (.cells #[Value.int .i64 1, .int .i64 3, .int .i64 (-1), .int .u64 (va : Nat), .bool sto] 67) X1.drew) 5 (by kernel_rfl) (by kernel_rfl) (by kernel_rfl) (by decide) (two_start _) ?_
    apply walkedS_cons
    · intro l9 wS hz hn hS
      have hS9 := two_other 0 (by decide) (by decide) hS
      clear hS
      go_wp2
      exact ⟨rfl, rfl, hS9⟩
    · rfl
    (try simp only [Act.put, List.setIfInBounds_toArray, List.set_cons_succ, List.set_cons_zero])
    apply walkedS_cons
    · intro l9 wS hz hn hS
      have hS9 := two_other 1 (by decide) (by decide) hS
      have c9 := two_cell hS HNE.out.2.1 HNE.out.2.2.1 KF
      clear hS
      go_wp2
      exact ⟨rfl, rfl, hS9⟩
    · rfl
    (try simp only [Act.put, List.setIfInBounds_toArray, List.set_cons_succ, List.set_cons_zero])
    apply walkedS_cons
    · intro l9 wS hz hn hS
      have hb9 := two_first hn hS HNE.out.1 K8
      have hd9 := two_done1 hz (by decide) (by decide) hn HNE.out.1 hS
      refine wpList_store_whole rfl 65 _ _ rfl b8 [Value.int .i64 0, .int .u64 0, .bool false, .bool false, .bool false, .bool false, .bool false, .bool false] rfl rfl 65 _ hb9 (by kernel_rfl) rfl (by intro v hv; simp only [List.mem_cons, List.not_mem_nil, or_false] at hv; rcases hv with rfl | rfl | rfl | rfl | rfl | rfl | rfl | rfl <;> rfl) ?_
      exact ⟨rfl, rfl, hd9⟩
    · rfl
    (try simp only [Act.put, List.setIfInBounds_toArray, List.set_cons_succ, List.set_cons_zero])
    apply walkedS_cons
    · intro l9 wS hz hn hS
      have hb9 := two_second hn hS HNE.out.1 K9
      have hd9 := two_done2 hz (by decide) (by decide) hn hS
      refine wpList_store_whole rfl 67 _ _ rfl b9 [Value.int .i64 1, .int .i64 3, .int .i64 (-1), .int .u64 (va : Nat), .bool sto] rfl rfl 67 _ hb9 (by kernel_rfl) rfl (by intro v hv; simp only [List.mem_cons, List.not_mem_nil, or_false] at hv; rcases hv with rfl | rfl | rfl | rfl | rfl <;> rfl) ?_
      exact ⟨rfl, rfl, hd9⟩
    · rfl
    (try simp only [Act.put, List.setIfInBounds_toArray, List.set_cons_succ, List.set_cons_zero])
    apply walkedS_cons
    · intro l9 wS hz hn hS
      have hS9 := two_other 4 (by decide) (by decide) hS
      clear hS
      go_wp2
      exact ⟨rfl, rfl, hS9⟩
    · rfl
    (try simp only [Act.put, List.setIfInBounds_toArray, List.set_cons_succ, List.set_cons_zero])
    apply walkedS_nil
    intro l9 wS hz hall hS
    obtain rfl := two_all (hall 2 (by decide)) (hall 3 (by decide)) hS
    clear hS hall hz l9
    show wpList _ _ _ [] _ _
    go_wp2
    have r8 : (putB (putB X1.drew b8 (.cells #[Value.int .i64 0, .int .u64 0, .bool false, .bool false, .bool false, .bool false, .bool false, .bool false] 65)) b9 (.cells #[Value.int .i64 1, .int .i64 3, .int .i64 (-1), .int .u64 (va : Nat), .bool sto] 67)).heap[b8]? = some (.cells #[Value.int .i64 0, .int .u64 0, .bool false, .bool false, .bool false, .bool false, .bool false, .bool false] 65) := by rw [putB_other _ (Ne.symm HNE.out.1)]; exact putB_same _ (lt_of_block (show X1.drew.heap[b8]? = _ from K8))
    have r9 : (putB (putB X1.drew b8 (.cells #[Value.int .i64 0, .int .u64 0, .bool false, .bool false, .bool false, .bool false, .bool false, .bool false] 65)) b9 (.cells #[Value.int .i64 1, .int .i64 3, .int .i64 (-1), .int .u64 (va : Nat), .bool sto] 67)).heap[b9]? = some (.cells #[Value.int .i64 1, .int .i64 3, .int .i64 (-1), .int .u64 (va : Nat), .bool sto] 67) := putB_same _ (by rw [putB_size]; exact lt_of_block (show X1.drew.heap[b9]? = _ from K9))
    obtain ⟨k8, -, -⟩ := of_block r8
    obtain ⟨k9, -, -⟩ := of_block r9
    refine bodyPost_ret (by simp [results, Try.results30, go_sem, k8, k9]; try rfl) rfl ?_
    exact retSec_end1 HB.out.1 HW2.out.1 (by omega) HW2.out.2 HNE.out.2.2.2.2.1 HNE.out.2.2.2.2.2 HQ6.out
  have hi1 : decide ((281474976710656 : Int) ≤ (va : Int)) = false := decide_eq_false (by omega)
  have HI := Lib.hid hi
  clear hi
  cases on with
  | false =>
    obtain ⟨q2, hq2⟩ : ∃ q2, secondN (rawM frames wd) (okM frames) two va access = q2 := ⟨_, rfl⟩
    have hc := second_calls HX.out.1 (by have := HU.out.1; omega) two va HU.out.2.1 HU.out.2.2.2 access
    rw [hq2] at hc
    have HQ6 : Hid (q = q2) := Lib.hid (by rw [← HQ.out, ← hq2]; unfold nestN; exact (if_neg HI.out).trans (if_pos rfl))
    obtain ⟨⟨ofr, oip, o1, o2, o3, o4, o5, o6⟩, ⟨fst, fk, flv, fad, fsto⟩, nq⟩ := q2
    clear hq2 HM kf qf zf
    go_wp2_with fail
    (with_reducible refine hc.mono ?_)
    rintro e x2 ⟨rfl, hm2, ho2⟩
    have K8 := keep_only ho2 (fun f => f (.inr HNE.out.2.2.2.2.1)) HK.out.2.2.2.1
    have K9 := keep_only ho2 (fun f => f (.inr HNE.out.2.2.2.2.2)) HK.out.2.2.1
    have K9' := (putB_other (.cells #[Value.int .i64 (ofr : Nat), .int .u64 (oip : Nat), .bool o1, .bool o2, .bool o3, .bool o4, .bool o5, .bool o6] 65) HNE.out.1).trans K9
    have ho : Only (fun b => ¬ (X b ∨ vb ≤ b) ∨ vb ≤ b) w x2 := ((Only.of_below HK.out.1).mono fun b _ f => f.elim).trans (ho2.mono fun b _ f => .inl f)
    have HW2 := Lib.hid (And.intro hm2 (And.intro ho (And.intro K8 (And.intro K9 K9'))))
    clear hc hm2 ho2 K8 K9 K9' ho kv qv zv hi1
    go_wp2_with (first | (refine wpList_store_whole rfl 65 _ _ rfl b8 [Value.int .i64 (ofr : Nat), .int .u64 (oip : Nat), .bool o1, .bool o2, .bool o3, .bool o4, .bool o5, .bool o6] rfl rfl 65 _ HW2.out.2.2.1 (by kernel_rfl) rfl (by intro v hv; simp only [List.mem_cons, List.not_mem_nil, or_false] at hv; rcases hv with rfl | rfl | rfl | rfl | rfl | rfl | rfl | rfl <;> rfl) ?_) | (refine wpList_store_whole rfl 67 _ _ rfl b9 [Value.int .i64 fst, .int .i64 fk, .int .i64 flv, .int .u64 (fad : Nat), .bool fsto] rfl rfl 67 _ HW2.out.2.2.2.2 (by kernel_rfl) rfl (by intro v hv; simp only [List.mem_cons, List.not_mem_nil, or_false] at hv; rcases hv with rfl | rfl | rfl | rfl | rfl <;> rfl) ?_))
    have r8 := (putB_other (.cells #[Value.int .i64 fst, .int .i64 fk, .int .i64 flv, .int .u64 (fad : Nat), .bool fsto] 67) (Ne.symm HNE.out.1)).trans (putB_same (.cells #[Value.int .i64 (ofr : Nat), .int .u64 (oip : Nat), .bool o1, .bool o2, .bool o3, .bool o4, .bool o5, .bool o6] 65) (lt_of_block HW2.out.2.2.1))
    have r9 := putB_same (.cells #[Value.int .i64 fst, .int .i64 fk, .int .i64 flv, .int .u64 (fad : Nat), .bool fsto] 67) (lt_of_block HW2.out.2.2.2.2)
    obtain ⟨k8, -, -⟩ := of_block r8
    obtain ⟨k9, -, -⟩ := of_block r9
    refine bodyPost_ret (by simp [results, Try.results30, go_sem, k8, k9]; try rfl) rfl ?_
    exact retSec_end0 (N := N) HB.out.1 HW2.out.1 (by omega) HW2.out.2.1 HNE.out.2.2.2.2.1 HNE.out.2.2.2.2.2 HQ6.out
  | true =>
  by_cases hrt : root % 4096 ≠ 0 ∨ 1099511627776 ≤ root
  · have HQ6 : Hid (q = (O0, ⟨1, 4, -1, va, sto⟩, 0)) := Lib.hid (by rw [← HQ.out, ← HSD.out]; unfold nestN; exact (if_neg HI.out).trans ((if_neg (by simp)).trans (if_pos hrt)))
    have hset : X1.setCell ⟨bf, 1, none⟩ (.int .i64 4) = putB X1 bf (.cells #[Value.int .i64 1, .int .i64 4, .int .i64 (-1), .int .u64 (va : Nat), .bool sto] 67) := by rw [set_of HK.out.2.1]; rfl
    have KF := putB_same (.cells #[Value.int .i64 1, .int .i64 4, .int .i64 (-1), .int .u64 (va : Nat), .bool sto] 67) (lt_of_block HK.out.2.1)
    have K8 := (putB_other (.cells #[Value.int .i64 1, .int .i64 4, .int .i64 (-1), .int .u64 (va : Nat), .bool sto] 67) HNE.out.2.1).trans HK.out.2.2.2.1
    have K9 := (putB_other (.cells #[Value.int .i64 1, .int .i64 4, .int .i64 (-1), .int .u64 (va : Nat), .bool sto] 67) HNE.out.2.2.1).trans HK.out.2.2.1
    have hm := memW_only HX.out.1 ((Only.refl (fun b => b = bf) X1).putB (.cells #[Value.int .i64 1, .int .i64 4, .int .i64 (-1), .int .u64 (va : Nat), .bool sto] 67) (fun _ => rfl)) (fun b hb e => by subst e; exact hb (.inr HNE.out.2.2.2.1))
    have ho : Only (fun b => ¬ (X b ∨ vb ≤ b) ∨ vb ≤ b) w (putB X1 bf (.cells #[Value.int .i64 1, .int .i64 4, .int .i64 (-1), .int .u64 (va : Nat), .bool sto] 67)) := ((Only.of_below HK.out.1).mono fun b _ f => f.elim).putB _ (fun _ => .inr HNE.out.2.2.2.1)
    generalize putB X1 bf (.cells #[Value.int .i64 1, .int .i64 4, .int .i64 (-1), .int .u64 (va : Nat), .bool sto] 67) = W2 at *
    have HW2 := Lib.hid (And.intro hm ho)
    have HK1 := Lib.hid (And.intro K8 (And.intro K9 KF))
    clear hm ho K8 K9 KF HM
    by_cases hr0 : root % 4096 = 0
    · have hr1 : ((root : Int) % 4096 != 0) = false := by simp; omega
      have hr2 : decide ((1099511627776 : Int) ≤ (root : Int)) = true := decide_eq_true (by omega)
      clear hrt hr0
      go_upto_region 9 with (fail)
      obtain ⟨K8, K9, KF⟩ := HK1.out
      clear kv qv zv kf qf zf hi1 hr1 hr2 hset
      refine wp_region_staged (S := TwoS 2 3 b8 (.cells #[Value.int .i64 0, .int .u64 0, .bool false, .bool false, .bool false, .bool false, .bool false, .bool false] 65) b9 (.cells #[Value.int .i64 1, .int .i64 4, .int .i64 (-1), .int .u64 (va : Nat), .bool sto] 67) W2.drew) 5 (by kernel_rfl) (by kernel_rfl) (by kernel_rfl) (by decide) (two_start _) ?_
      apply walkedS_cons
      · intro l9 wS hz hn hS
        have hS9 := two_other 0 (by decide) (by decide) hS
        clear hS
        go_wp2
        exact ⟨rfl, rfl, hS9⟩
      · rfl
      (try simp only [Act.put, List.setIfInBounds_toArray, List.set_cons_succ, List.set_cons_zero])
      apply walkedS_cons
      · intro l9 wS hz hn hS
        have hS9 := two_other 1 (by decide) (by decide) hS
        have c9 := two_cell hS HNE.out.2.1 HNE.out.2.2.1 KF
        clear hS
        go_wp2
        exact ⟨rfl, rfl, hS9⟩
      · rfl
      (try simp only [Act.put, List.setIfInBounds_toArray, List.set_cons_succ, List.set_cons_zero])
      apply walkedS_cons
      · intro l9 wS hz hn hS
        have hb9 := two_first hn hS HNE.out.1 K8
        have hd9 := two_done1 hz (by decide) (by decide) hn HNE.out.1 hS
        refine wpList_store_whole rfl 65 _ _ rfl b8 [Value.int .i64 0, .int .u64 0, .bool false, .bool false, .bool false, .bool false, .bool false, .bool false] rfl rfl 65 _ hb9 (by kernel_rfl) rfl (by intro v hv; simp only [List.mem_cons, List.not_mem_nil, or_false] at hv; rcases hv with rfl | rfl | rfl | rfl | rfl | rfl | rfl | rfl <;> rfl) ?_
        exact ⟨rfl, rfl, hd9⟩
      · rfl
      (try simp only [Act.put, List.setIfInBounds_toArray, List.set_cons_succ, List.set_cons_zero])
      apply walkedS_cons
      · intro l9 wS hz hn hS
        have hb9 := two_second hn hS HNE.out.1 K9
        have hd9 := two_done2 hz (by decide) (by decide) hn hS
        refine wpList_store_whole rfl 67 _ _ rfl b9 [Value.int .i64 1, .int .i64 4, .int .i64 (-1), .int .u64 (va : Nat), .bool sto] rfl rfl 67 _ hb9 (by kernel_rfl) rfl (by intro v hv; simp only [List.mem_cons, List.not_mem_nil, or_false] at hv; rcases hv with rfl | rfl | rfl | rfl | rfl <;> rfl) ?_
        exact ⟨rfl, rfl, hd9⟩
      · rfl
      (try simp only [Act.put, List.setIfInBounds_toArray, List.set_cons_succ, List.set_cons_zero])
      apply walkedS_cons
      · intro l9 wS hz hn hS
        have hS9 := two_other 4 (by decide) (by decide) hS
        clear hS
        go_wp2
        exact ⟨rfl, rfl, hS9⟩
      · rfl
      (try simp only [Act.put, List.setIfInBounds_toArray, List.set_cons_succ, List.set_cons_zero])
      apply walkedS_nil
      intro l9 wS hz hall hS
      obtain rfl := two_all (hall 2 (by decide)) (hall 3 (by decide)) hS
      clear hS hall hz l9
      show wpList _ _ _ [] _ _
      go_wp2
      have r8 : (putB (putB W2.drew b8 (.cells #[Value.int .i64 0, .int .u64 0, .bool false, .bool false, .bool false, .bool false, .bool false, .bool false] 65)) b9 (.cells #[Value.int .i64 1, .int .i64 4, .int .i64 (-1), .int .u64 (va : Nat), .bool sto] 67)).heap[b8]? = some (.cells #[Value.int .i64 0, .int .u64 0, .bool false, .bool false, .bool false, .bool false, .bool false, .bool false] 65) := by rw [putB_other _ (Ne.symm HNE.out.1)]; exact putB_same _ (lt_of_block (show W2.drew.heap[b8]? = _ from K8))
      have r9 : (putB (putB W2.drew b8 (.cells #[Value.int .i64 0, .int .u64 0, .bool false, .bool false, .bool false, .bool false, .bool false, .bool false] 65)) b9 (.cells #[Value.int .i64 1, .int .i64 4, .int .i64 (-1), .int .u64 (va : Nat), .bool sto] 67)).heap[b9]? = some (.cells #[Value.int .i64 1, .int .i64 4, .int .i64 (-1), .int .u64 (va : Nat), .bool sto] 67) := putB_same _ (by rw [putB_size]; exact lt_of_block (show W2.drew.heap[b9]? = _ from K9))
      obtain ⟨k8, -, -⟩ := of_block r8
      obtain ⟨k9, -, -⟩ := of_block r9
      refine bodyPost_ret (by simp [results, Try.results30, go_sem, k8, k9]; try rfl) rfl ?_
      exact retSec_end1 HB.out.1 HW2.out.1 (by omega) HW2.out.2 HNE.out.2.2.2.2.1 HNE.out.2.2.2.2.2 HQ6.out
    · have hr1 : ((root : Int) % 4096 != 0) = true := by simp; omega
      clear hrt hr0
      go_upto_region 9 with (fail)
      obtain ⟨K8, K9, KF⟩ := HK1.out
      clear kv qv zv kf qf zf hi1 hr1 hset
      refine wp_region_staged (S := TwoS 2 3 b8 (.cells #[Value.int .i64 0, .int .u64 0, .bool false, .bool false, .bool false, .bool false, .bool false, .bool false] 65) b9 (.cells #[Value.int .i64 1, .int .i64 4, .int .i64 (-1), .int .u64 (va : Nat), .bool sto] 67) W2.drew) 5 (by kernel_rfl) (by kernel_rfl) (by kernel_rfl) (by decide) (two_start _) ?_
      apply walkedS_cons
      · intro l9 wS hz hn hS
        have hS9 := two_other 0 (by decide) (by decide) hS
        clear hS
        go_wp2
        exact ⟨rfl, rfl, hS9⟩
      · rfl
      (try simp only [Act.put, List.setIfInBounds_toArray, List.set_cons_succ, List.set_cons_zero])
      apply walkedS_cons
      · intro l9 wS hz hn hS
        have hS9 := two_other 1 (by decide) (by decide) hS
        have c9 := two_cell hS HNE.out.2.1 HNE.out.2.2.1 KF
        clear hS
        go_wp2
        exact ⟨rfl, rfl, hS9⟩
      · rfl
      (try simp only [Act.put, List.setIfInBounds_toArray, List.set_cons_succ, List.set_cons_zero])
      apply walkedS_cons
      · intro l9 wS hz hn hS
        have hb9 := two_first hn hS HNE.out.1 K8
        have hd9 := two_done1 hz (by decide) (by decide) hn HNE.out.1 hS
        refine wpList_store_whole rfl 65 _ _ rfl b8 [Value.int .i64 0, .int .u64 0, .bool false, .bool false, .bool false, .bool false, .bool false, .bool false] rfl rfl 65 _ hb9 (by kernel_rfl) rfl (by intro v hv; simp only [List.mem_cons, List.not_mem_nil, or_false] at hv; rcases hv with rfl | rfl | rfl | rfl | rfl | rfl | rfl | rfl <;> rfl) ?_
        exact ⟨rfl, rfl, hd9⟩
      · rfl
      (try simp only [Act.put, List.setIfInBounds_toArray, List.set_cons_succ, List.set_cons_zero])
      apply walkedS_cons
      · intro l9 wS hz hn hS
        have hb9 := two_second hn hS HNE.out.1 K9
        have hd9 := two_done2 hz (by decide) (by decide) hn hS
        refine wpList_store_whole rfl 67 _ _ rfl b9 [Value.int .i64 1, .int .i64 4, .int .i64 (-1), .int .u64 (va : Nat), .bool sto] rfl rfl 67 _ hb9 (by kernel_rfl) rfl (by intro v hv; simp only [List.mem_cons, List.not_mem_nil, or_false] at hv; rcases hv with rfl | rfl | rfl | rfl | rfl <;> rfl) ?_
        exact ⟨rfl, rfl, hd9⟩
      · rfl
      (try simp only [Act.put, List.setIfInBounds_toArray, List.set_cons_succ, List.set_cons_zero])
      apply walkedS_cons
      · intro l9 wS hz hn hS
        have hS9 := two_other 4 (by decide) (by decide) hS
        clear hS
        go_wp2
        exact ⟨rfl, rfl, hS9⟩
      · rfl
      (try simp only [Act.put, List.setIfInBounds_toArray, List.set_cons_succ, List.set_cons_zero])
      apply walkedS_nil
      intro l9 wS hz hall hS
      obtain rfl := two_all (hall 2 (by decide)) (hall 3 (by decide)) hS
      clear hS hall hz l9
      show wpList _ _ _ [] _ _
      go_wp2
      have r8 : (putB (putB W2.drew b8 (.cells #[Value.int .i64 0, .int .u64 0, .bool false, .bool false, .bool false, .bool false, .bool false, .bool false] 65)) b9 (.cells #[Value.int .i64 1, .int .i64 4, .int .i64 (-1), .int .u64 (va : Nat), .bool sto] 67)).heap[b8]? = some (.cells #[Value.int .i64 0, .int .u64 0, .bool false, .bool false, .bool false, .bool false, .bool false, .bool false] 65) := by rw [putB_other _ (Ne.symm HNE.out.1)]; exact putB_same _ (lt_of_block (show W2.drew.heap[b8]? = _ from K8))
      have r9 : (putB (putB W2.drew b8 (.cells #[Value.int .i64 0, .int .u64 0, .bool false, .bool false, .bool false, .bool false, .bool false, .bool false] 65)) b9 (.cells #[Value.int .i64 1, .int .i64 4, .int .i64 (-1), .int .u64 (va : Nat), .bool sto] 67)).heap[b9]? = some (.cells #[Value.int .i64 1, .int .i64 4, .int .i64 (-1), .int .u64 (va : Nat), .bool sto] 67) := putB_same _ (by rw [putB_size]; exact lt_of_block (show W2.drew.heap[b9]? = _ from K9))
      obtain ⟨k8, -, -⟩ := of_block r8
      obtain ⟨k9, -, -⟩ := of_block r9
      refine bodyPost_ret (by simp [results, Try.results30, go_sem, k8, k9]; try rfl) rfl ?_
      exact retSec_end1 HB.out.1 HW2.out.1 (by omega) HW2.out.2 HNE.out.2.2.2.2.1 HNE.out.2.2.2.2.2 HQ6.out
  have hr1 : ((root : Int) % 4096 != 0) = false := by simp; omega
  have hr2 : decide ((1099511627776 : Int) ≤ (root : Int)) = false := decide_eq_false (by omega)
  have HRT := Lib.hid hrt
  clear hrt kf qf zf
  go_upto_region 11 with (fail)
  have hO1 := old_alloc (old_refl X1) (.cells #[.pointer (some ⟨p, 0, none⟩), .int .u64 (two : Nat), .bool true, .int .u64 (root : Nat), .bool sto, .int .i64 0, .int .i64 0, .int .i64 0, .int .i64 0, .int .i64 0, .int .u64 0, .bool false] 111)
  have hKR := new_block X1 (.cells #[.pointer (some ⟨p, 0, none⟩), .int .u64 (two : Nat), .bool true, .int .u64 (root : Nat), .bool sto, .int .i64 0, .int .i64 0, .int .i64 0, .int .i64 0, .int .i64 0, .int .u64 0, .bool false] 111)
  have hsz : (X1.alloc (.cells #[.pointer (some ⟨p, 0, none⟩), .int .u64 (two : Nat), .bool true, .int .u64 (root : Nat), .bool sto, .int .i64 0, .int .i64 0, .int .i64 0, .int .i64 0, .int .i64 0, .int .u64 0, .bool false] 111)).heap.size = X1.heap.size + 1 := World.size_alloc _ _
  generalize X1.alloc (.cells #[.pointer (some ⟨p, 0, none⟩), .int .u64 (two : Nat), .bool true, .int .u64 (root : Nat), .bool sto, .int .i64 0, .int .i64 0, .int .i64 0, .int .i64 0, .int .i64 0, .int .u64 0, .bool false] 111) = X2 at *
  obtain ⟨rp, hrp⟩ : ∃ rp, rp = X1.heap.size := ⟨_, rfl⟩
  rw [← hrp] at hKR hsz ⊢
  have hwf : vb < rp ∧ b8 < rp ∧ b9 < rp ∧ bf < rp := by have := HB.out; omega
  have hG0 : RdS (fun b => X b ∨ vb ≤ b) rp p frames wd N X2.heap.size two true root sto [] X2 :=
    { mem := memW_le (memW_old HX.out.1 hO1) (by simp), blk := hKR, own := .inr (by omega), lt := by omega, old := fun b hb => by have := HX.out.2 b hb; have := HB.out.1; omega }
  have hwalk := walkB_calls 1 (.inl rfl) root va HU.out.2.2.1 HU.out.2.2.2 57 (.pointer (some ⟨rp, 0, none⟩)) (fun b => ¬ (X b ∨ vb ≤ b) ∨ b = rp) (RdS (fun b => X b ∨ vb ≤ b) rp p frames wd N X2.heap.size two true root sto) (raw1N (rawM frames wd) (okM frames) two) (ok1N (rawM frames wd) (okM frames) two) X2 (rd_reader (by have := HU.out.1; omega) HU.out.2.1 hG0 HM.out.1) hG0
  have hok := walk_ok (raw1N (rawM frames wd) (okM frames) two) (ok1N (rawM frames wd) (okM frames) two) 1 va 4 0 root rfl (by decide)
  have hkinds := walk_kinds (raw := raw1N (rawM frames wd) (okM frames) two) (ok := ok1N (rawM frames wd) (okM frames) two) (st := 1) (addr := va) 4 0 root
  have hlen := ask_length (raw := raw1N (rawM frames wd) (okM frames) two) (ok := ok1N (rawM frames wd) (okM frames) two) (st := 1) (addr := va) 4 0 root
  have hqd : ∀ r l, walkN (raw1N (rawM frames wd) (okM frames) two) (ok1N (rawM frames wd) (okM frames) two) 1 va 4 0 root = r → askN (raw1N (rawM frames wd) (okM frames) two) (ok1N (rawM frames wd) (okM frames) two) 1 va 4 0 root = l → q = (if r.2 = -1 then (O0, keptN (rawM frames wd) (okM frames) two sto l, costsN (rawM frames wd) (okM frames) two l)
      else if r.2 ≠ 0 then (O0, ⟨1, r.2, (lastN r.1).lv, va, sto⟩, costsN (rawM frames wd) (okM frames) two l)
      else if allowsB (lastN r.1).d.r (lastN r.1).d.w (lastN r.1).d.x access = false then (O0, ⟨1, 2, (lastN r.1).lv, va, sto⟩, costsN (rawM frames wd) (okM frames) two l)
      else (if (secondN (rawM frames wd) (okM frames) two (outN va (lastN r.1).lv (lastN r.1).d.k (lastN r.1).d.a) access).2.1.k = 0 then { (secondN (rawM frames wd) (okM frames) two (outN va (lastN r.1).lv (lastN r.1).d.k (lastN r.1).d.a) access).1 with r1 := (lastN r.1).d.r, w1 := (lastN r.1).d.w, x1 := (lastN r.1).d.x } else (secondN (rawM frames wd) (okM frames) two (outN va (lastN r.1).lv (lastN r.1).d.k (lastN r.1).d.a) access).1, (secondN (rawM frames wd) (okM frames) two (outN va (lastN r.1).lv (lastN r.1).d.k (lastN r.1).d.a) access).2.1, costsN (rawM frames wd) (okM frames) two l + (secondN (rawM frames wd) (okM frames) two (outN va (lastN r.1).lv (lastN r.1).d.k (lastN r.1).d.a) access).2.2)) := by
    rintro r l rfl rfl
    rw [← HQ.out, ← HSD.out]
    unfold nestN
    exact (if_neg HI.out).trans ((if_neg (by simp)).trans (if_neg HRT.out))
  generalize hrr : walkN (raw1N (rawM frames wd) (okM frames) two) (ok1N (rawM frames wd) (okM frames) two) 1 va 4 0 root = rr at *
  generalize hzz : askN (raw1N (rawM frames wd) (okM frames) two) (ok1N (rawM frames wd) (okM frames) two) 1 va 4 0 root = Z at *
  have hqd2 := hqd rr Z rfl rfl
  have hcle := costs_le (raw := rawM frames wd) (ok := okM frames) (two := two) Z
  obtain ⟨L, K⟩ := rr
  have HQD := Lib.hid hqd2
  have HOK := Lib.hid (And.intro hok hkinds)
  have HZ := Lib.hid (And.intro hcle hlen)
  have HWB := Lib.hid (And.intro hwf (And.intro hO1 hsz))
  clear kv qv zv
  obtain ⟨kv, qv, zv⟩ := of_block (keep_old hO1 HK.out.2.2.2.2)
  clear hO1 hKR hsz hrp hwf hG0 hok hkinds hlen hqd hqd2 hrr hzz hcle hi1 HI HQ HRT hr1 hr2
  go_wp2_with fail
  refine hwalk.mono ?_
  rintro e x2 ⟨v, rfl, hown, hS, hO2⟩
  have hown : x2.ownsRow X2.heap.size 52 9 v L.length (stCells L) := hown
  have hsm := memW_le hS.mem (M := N + 20) (by have := HZ.out.2; omega)
  have hKR := hS.blk
  unfold rdC at hKR
  have KF := keep_only hO2 (fun f => f.elim (fun f => f (.inr HNE.out.2.2.2.1)) (fun f => by have := HWB.out.1; omega)) (keep_old HWB.out.2.1 HK.out.2.1)
  have K9 := keep_only hO2 (fun f => f.elim (fun f => f (.inr HNE.out.2.2.2.2.2)) (fun f => by have := HWB.out.1; omega)) (keep_old HWB.out.2.1 HK.out.2.2.1)
  have K8 := keep_only hO2 (fun f => f.elim (fun f => f (.inr HNE.out.2.2.2.2.1)) (fun f => by have := HWB.out.1; omega)) (keep_old HWB.out.2.1 HK.out.2.2.2.1)
  have KV := keep_only hO2 (fun f => f.elim (fun f => f (.inr (Nat.le_refl _))) (fun f => by have := HWB.out.1; omega)) (keep_old HWB.out.2.1 HK.out.2.2.2.2)
  have ho : Only (fun b => ¬ (X b ∨ vb ≤ b) ∨ vb ≤ b) w x2 := (((Only.of_below (old_then HK.out.1 HWB.out.2.1)).mono fun b _ f => f.elim)).trans (hO2.mono fun b _ f => f.elim .inl (fun e => .inr (by have := HWB.out.1; omega)))
  obtain ⟨a3, c3, rfl, hl3, hm3, -, q3⟩ := own_value hown
  have HR := Lib.hid (And.intro hsm (And.intro ho (And.intro hown q3)))
  obtain ⟨n, hn⟩ : ∃ n, L.length = n := ⟨_, rfl⟩
  rw [hn]
  have HN := Lib.hid hn
  have hx2 := hO2.size
  have HSZ := Lib.hid hx2
  generalize levelN (rawM frames wd) (okM frames) two Z = lvz at *
  generalize costsN (rawM frames wd) (okM frames) two Z = ws at *
  generalize keptN (rawM frames wd) (okM frames) two sto Z = kf at *
  obtain ⟨kst, kk, klv, kad, ksto⟩ := kf
  dsimp only at hKR
  have HKK := Lib.hid (And.intro K8 (And.intro K9 (And.intro hKR (And.intro KF KV))))
  have ws20 : (ws : Int) ≤ 20 := by have := HZ.out; omega
  clear hwalk hown hS hsm hKR K8 K9 KF KV ho hO2 hl3 hm3 q3 hn hx2 kv qv zv
  by_cases hK : K = -1
  · subst hK
    have HQ6 : Hid (q = (O0, ⟨kst, kk, klv, kad, ksto⟩, ws)) := Lib.hid (by rw [HQD.out]; rfl)
    have hm1 : decide ((-1 : Int) < 0) = true := by decide
    clear HQD
    go_upto_region 13 with (fail)
    obtain ⟨K8, K9, KR, KF, KV⟩ := HKK.out
    clear hm1
    refine wp_region_staged (S := TwoS 9 10 b8 (.cells #[Value.int .i64 0, .int .u64 0, .bool false, .bool false, .bool false, .bool false, .bool false, .bool false] 65) b9 (.cells #[Value.int .i64 kst, .int .i64 kk, .int .i64 klv, .int .u64 (kad : Nat), .bool ksto] 67) x2.drew) 12 (by kernel_rfl) (by kernel_rfl) (by kernel_rfl) (by decide) (two_start _) ?_
    apply walkedS_cons
    · intro l9 wS hz hn hS
      have hS9 := two_other 0 (by decide) (by decide) hS
      clear hS
      go_wp2
      exact ⟨rfl, rfl, hS9⟩
    · rfl
    (try simp only [Act.put, List.setIfInBounds_toArray, List.set_cons_succ, List.set_cons_zero])
    apply walkedS_cons
    · intro l9 wS hz hn hS
      have hS9 := two_other 1 (by decide) (by decide) hS
      clear hS
      go_wp2
      exact ⟨rfl, rfl, hS9⟩
    · rfl
    (try simp only [Act.put, List.setIfInBounds_toArray, List.set_cons_succ, List.set_cons_zero])
    apply walkedS_cons
    · intro l9 wS hz hn hS
      have hS9 := two_other 2 (by decide) (by decide) hS
      clear hS
      go_wp2
      exact ⟨rfl, rfl, hS9⟩
    · rfl
    (try simp only [Act.put, List.setIfInBounds_toArray, List.set_cons_succ, List.set_cons_zero])
    apply walkedS_cons
    · intro l9 wS hz hn hS
      have hS9 := two_other 3 (by decide) (by decide) hS
      clear hS
      go_wp2
      exact ⟨rfl, rfl, hS9⟩
    · rfl
    (try simp only [Act.put, List.setIfInBounds_toArray, List.set_cons_succ, List.set_cons_zero])
    apply walkedS_cons
    · intro l9 wS hz hn hS
      have hS9 := two_other 4 (by decide) (by decide) hS
      have c9 := two_cell hS (show rp ≠ b8 by have := HWB.out.1; omega) (show rp ≠ b9 by have := HWB.out.1; omega) KR
      clear hS
      go_wp2
      exact ⟨rfl, rfl, hS9⟩
    · rfl
    (try simp only [Act.put, List.setIfInBounds_toArray, List.set_cons_succ, List.set_cons_zero])
    apply walkedS_cons
    · intro l9 wS hz hn hS
      have hS9 := two_other 5 (by decide) (by decide) hS
      clear hS
      go_wp2
      exact ⟨rfl, rfl, hS9⟩
    · rfl
    (try simp only [Act.put, List.setIfInBounds_toArray, List.set_cons_succ, List.set_cons_zero])
    apply walkedS_cons
    · intro l9 wS hz hn hS
      have hS9 := two_other 6 (by decide) (by decide) hS
      clear hS
      go_wp2
      exact ⟨rfl, rfl, hS9⟩
    · rfl
    (try simp only [Act.put, List.setIfInBounds_toArray, List.set_cons_succ, List.set_cons_zero])
    apply walkedS_cons
    · intro l9 wS hz hn hS
      have hS9 := two_other 7 (by decide) (by decide) hS
      clear hS
      go_wp2
      exact ⟨rfl, rfl, hS9⟩
    · rfl
    (try simp only [Act.put, List.setIfInBounds_toArray, List.set_cons_succ, List.set_cons_zero])
    apply walkedS_cons
    · intro l9 wS hz hn hS
      have hS9 := two_other 8 (by decide) (by decide) hS
      have c9 := two_cell hS (show rp ≠ b8 by have := HWB.out.1; omega) (show rp ≠ b9 by have := HWB.out.1; omega) KR
      clear hS
      go_wp2
      exact ⟨rfl, rfl, hS9⟩
    · rfl
    (try simp only [Act.put, List.setIfInBounds_toArray, List.set_cons_succ, List.set_cons_zero])
    apply walkedS_cons
    · intro l9 wS hz hn hS
      have hb9 := two_first hn hS HNE.out.1 K8
      have hd9 := two_done1 hz (by decide) (by decide) hn HNE.out.1 hS
      refine wpList_store_whole rfl 65 _ _ rfl b8 [Value.int .i64 0, .int .u64 0, .bool false, .bool false, .bool false, .bool false, .bool false, .bool false] rfl rfl 65 _ hb9 (by kernel_rfl) rfl (by intro v hv; simp only [List.mem_cons, List.not_mem_nil, or_false] at hv; rcases hv with rfl | rfl | rfl | rfl | rfl | rfl | rfl | rfl <;> rfl) ?_
      exact ⟨rfl, rfl, hd9⟩
    · rfl
    (try simp only [Act.put, List.setIfInBounds_toArray, List.set_cons_succ, List.set_cons_zero])
    apply walkedS_cons
    · intro l9 wS hz hn hS
      have hb9 := two_second hn hS HNE.out.1 K9
      have hd9 := two_done2 hz (by decide) (by decide) hn hS
      refine wpList_store_whole rfl 67 _ _ rfl b9 [Value.int .i64 kst, .int .i64 kk, .int .i64 klv, .int .u64 (kad : Nat), .bool ksto] rfl rfl 67 _ hb9 (by kernel_rfl) rfl (by intro v hv; simp only [List.mem_cons, List.not_mem_nil, or_false] at hv; rcases hv with rfl | rfl | rfl | rfl | rfl <;> rfl) ?_
      exact ⟨rfl, rfl, hd9⟩
    · rfl
    (try simp only [Act.put, List.setIfInBounds_toArray, List.set_cons_succ, List.set_cons_zero])
    apply walkedS_cons
    · intro l9 wS hz hn hS
      have hS9 := two_other 11 (by decide) (by decide) hS
      clear hS
      go_wp2
      exact ⟨rfl, rfl, hS9⟩
    · rfl
    (try simp only [Act.put, List.setIfInBounds_toArray, List.set_cons_succ, List.set_cons_zero])
    apply walkedS_nil
    intro l9 wS hz hall hS
    obtain rfl := two_all (hall 9 (by decide)) (hall 10 (by decide)) hS
    clear hS hall hz l9
    show wpList _ _ _ [] _ _
    go_wp2
    have r8 : (putB (putB x2.drew b8 (.cells #[Value.int .i64 0, .int .u64 0, .bool false, .bool false, .bool false, .bool false, .bool false, .bool false] 65)) b9 (.cells #[Value.int .i64 kst, .int .i64 kk, .int .i64 klv, .int .u64 (kad : Nat), .bool ksto] 67)).heap[b8]? = some (.cells #[Value.int .i64 0, .int .u64 0, .bool false, .bool false, .bool false, .bool false, .bool false, .bool false] 65) := by rw [putB_other _ (Ne.symm HNE.out.1)]; exact putB_same _ (lt_of_block (show x2.drew.heap[b8]? = _ from K8))
    have r9 : (putB (putB x2.drew b8 (.cells #[Value.int .i64 0, .int .u64 0, .bool false, .bool false, .bool false, .bool false, .bool false, .bool false] 65)) b9 (.cells #[Value.int .i64 kst, .int .i64 kk, .int .i64 klv, .int .u64 (kad : Nat), .bool ksto] 67)).heap[b9]? = some (.cells #[Value.int .i64 kst, .int .i64 kk, .int .i64 klv, .int .u64 (kad : Nat), .bool ksto] 67) := putB_same _ (by rw [putB_size]; exact lt_of_block (show x2.drew.heap[b9]? = _ from K9))
    obtain ⟨k8, -, -⟩ := of_block r8
    obtain ⟨k9, -, -⟩ := of_block r9
    refine bodyPost_ret (by simp [results, Try.results30, go_sem, k8, k9]; try rfl) rfl ?_
    exact retSec_end1 HB.out.1 HR.out.1 (by omega) HR.out.2.1 HNE.out.2.2.2.2.1 HNE.out.2.2.2.2.2 HQ6.out
  have hn1 : 1 ≤ n := by
    have := HOK.out.1.some_ hK
    rw [← HN.out]; exact this
  have hk3 : decide (K < 0) = false := decide_eq_false (by have h9 : K = -1 ∨ K = 0 ∨ K = 1 ∨ K = 3 ∨ K = 4 := HOK.out.2; omega)
  obtain ⟨s, hs0, hs1, hs⟩ := last_mem (l := L) (by rw [HN.out]; exact hn1)
  rw [HN.out] at hs
  obtain ⟨f1, f2, f3, f4⟩ := way_at HOK.out.1.way hs
  have hl4 : n ≤ 4 := by rw [← HN.out]; exact HOK.out.1.len
  obtain ⟨g1, rfl⟩ := HR.out.2.2.2 (by rw [HN.out]; omega)
  have hcs : ∀ (c : Nat) (u : Value), s.cells[c]? = some u → x2.cell? ⟨g1, (n - 1) * 9 + c, none⟩ = some u := fun c u hu => own_cell HR.out.2.2.1 rfl _ (stCells_get L _ s c u hs hu)
  have hq7 := HQD.out
  (try dsimp only at hq7)
  rw [if_neg hK, hs1] at hq7
  have HQ7 := Lib.hid hq7
  obtain ⟨lv, sat, sraw, ⟨dk, da, dr, dw, dx, dS⟩⟩ := s
  have hcs2 : ∀ (c : Nat) (u : Value), [Value.int .i64 (lv : Nat), .int .u64 (sat : Nat), .int .u64 (sraw : Nat), .int .i64 dk, .int .u64 (da : Nat), .bool dr, .bool dw, .bool dx, .int .i64 dS][c]? = some u → x2.cell? ⟨g1, (n - 1) * 9 + c, none⟩ = some u := hcs
  have hda : da < 18446744073709551616 := f4
  have HCS := Lib.hid hcs2
  have HDA := Lib.hid hda
  have hn1' : ((n - 1 : Nat) : Int) = (n : Int) - 1 := by omega
  have n4 : (n : Int) ≤ 4 := by omega
  have hge : (0 : Int) ≤ (n : Int) - 1 := by omega
  have hlt : (n : Int) - 1 < n := by omega
  have htn : ((n : Int) - 1).toNat = n - 1 := by omega
  have HN1 := Lib.hid hn1'
  have HKn := Lib.hid hK
  clear hn1 hs0 hs1 hs f1 f2 f3 f4 hl4 hcs HQD hcs2 hda hK hq7
  go_upto_region 15 with (refine wpList_load_at rfl 52 _ rfl g1 ((n - 1) * 9) rfl [Value.int .i64 (lv : Nat), .int .u64 (sat : Nat), .int .u64 (sraw : Nat), .int .i64 dk, .int .u64 (da : Nat), .bool dr, .bool dw, .bool dx, .int .i64 dS] _ HCS.out Try.underlying52 rfl (by kernel_rfl) ?_)
  have hO3 := old_alloc (old_refl x2) (.cells #[Value.int .i64 (lv : Nat), .int .u64 (sat : Nat), .int .u64 (sraw : Nat), .int .i64 dk, .int .u64 (da : Nat), .bool dr, .bool dw, .bool dx, .int .i64 dS] 52)
  have hxb := new_block x2 (.cells #[Value.int .i64 (lv : Nat), .int .u64 (sat : Nat), .int .u64 (sraw : Nat), .int .i64 dk, .int .u64 (da : Nat), .bool dr, .bool dw, .bool dx, .int .i64 dS] 52)
  generalize x2.alloc (.cells #[Value.int .i64 (lv : Nat), .int .u64 (sat : Nat), .int .u64 (sraw : Nat), .int .i64 dk, .int .u64 (da : Nat), .bool dr, .bool dw, .bool dx, .int .i64 dS] 52) = X3 at *
  obtain ⟨bl, hbl⟩ : ∃ bl, bl = x2.heap.size := ⟨_, rfl⟩
  rw [← hbl] at hxb ⊢
  have hbl2 : vb < bl ∧ b8 < bl ∧ b9 < bl ∧ bf < bl ∧ rp < bl := by have := HSZ.out; have := HWB.out; omega
  have K8 := keep_old hO3 HKK.out.1
  have K9 := keep_old hO3 HKK.out.2.1
  have KR := keep_old hO3 HKK.out.2.2.1
  have KF := keep_old hO3 HKK.out.2.2.2.1
  have KV := keep_old hO3 HKK.out.2.2.2.2
  have hm := memW_old HR.out.1 hO3
  have ho := HR.out.2.1.trans ((Only.of_below hO3).mono (G := fun b => ¬ (X b ∨ vb ≤ b) ∨ vb ≤ b) fun b _ f => f.elim)
  have hall := allows_calls dr dw dx access
  obtain ⟨km, qm, zm⟩ := of_block hxb
  have HX3 := Lib.hid (And.intro hm (And.intro ho (And.intro hbl2 hxb)))
  have HK3 := Lib.hid (And.intro K8 (And.intro K9 (And.intro KR (And.intro KF KV))))
  have HALL := Lib.hid hall
  clear hO3 hbl hbl2 K8 K9 KR KF KV hm ho hall HCS hn1' hge hlt htn HKK HSZ hxb hk3
  by_cases hK0 : K = 0
  case neg =>
    have hk1 : (K == 0) = false := by simp [hK0]
    have hk2 : (K != 0) = true := by simp [hK0]
    have HQ6 : Hid (q = (O0, ⟨1, K, (lv : Nat), va, sto⟩, ws)) := Lib.hid (by rw [HQ7.out]; exact if_pos hK0)
    have HP := Lib.hid (And.intro HX3.out.1 (And.intro HX3.out.2.1 (And.intro HK3.out.1 (And.intro HK3.out.2.1 (And.intro HK3.out.2.2.1 (And.intro HK3.out.2.2.2.1 HX3.out.2.2.2))))))
    clear hK0
    go_upto_region 18 with (fail)
    clear hk1 hk2 km qm zm
    obtain ⟨hm, ho, K8, K9, KR, KF, KL⟩ := HP.out
    obtain ⟨W1, hW1⟩ : ∃ W1, W1 = putB X3.drew bf (.cells #[Value.int .i64 1, .int .i64 K, .int .i64 (-1), .int .u64 (va : Nat), .bool sto] 67) := ⟨_, rfl⟩
    obtain ⟨W2, hW2⟩ : ∃ W2, W2 = putB X3.drew bf (.cells #[Value.int .i64 1, .int .i64 3, .int .i64 (lv : Nat), .int .u64 (va : Nat), .bool sto] 67) := ⟨_, rfl⟩
    obtain ⟨W12, hW12⟩ : ∃ W12, W12 = putB X3.drew bf (.cells #[Value.int .i64 1, .int .i64 K, .int .i64 (lv : Nat), .int .u64 (va : Nat), .bool sto] 67) := ⟨_, rfl⟩
    have r0 : X3.drew.heap[bf]? = some (.cells #[Value.int .i64 1, .int .i64 3, .int .i64 (-1), .int .u64 (va : Nat), .bool sto] 67) := KF
    have r1 : W1.heap[bf]? = some (.cells #[Value.int .i64 1, .int .i64 K, .int .i64 (-1), .int .u64 (va : Nat), .bool sto] 67) := by rw [hW1]; exact putB_same _ (lt_of_block r0)
    have r2 : W2.heap[bf]? = some (.cells #[Value.int .i64 1, .int .i64 3, .int .i64 (lv : Nat), .int .u64 (va : Nat), .bool sto] 67) := by rw [hW2]; exact putB_same _ (lt_of_block r0)
    have r12 : W12.heap[bf]? = some (.cells #[Value.int .i64 1, .int .i64 K, .int .i64 (lv : Nat), .int .u64 (va : Nat), .bool sto] 67) := by rw [hW12]; exact putB_same _ (lt_of_block r0)
    have HFS : Hid (X3.drew.setCell ⟨bf, 1, none⟩ (.int .i64 K) = W1 ∧ W2.setCell ⟨bf, 1, none⟩ (.int .i64 K) = W12 ∧ X3.drew.setCell ⟨bf, 2, none⟩ (.int .i64 (lv : Nat)) = W2 ∧ W1.setCell ⟨bf, 2, none⟩ (.int .i64 (lv : Nat)) = W12) :=
      Lib.hid ⟨by rw [set_of r0, hW1]; rfl, by rw [set_of r2, hW2, hW12, putB_putB]; rfl, by rw [set_of r0, hW2]; rfl, by rw [set_of r1, hW1, hW12, putB_putB]; rfl⟩
    have HFO : Hid (True ∧ X3.drew.heap[bf]? = some (.cells #[Value.int .i64 1, .int .i64 3, .int .i64 (-1), .int .u64 (va : Nat), .bool sto] 67) ∧ W1.heap[bf]? = some (.cells #[Value.int .i64 1, .int .i64 K, .int .i64 (-1), .int .u64 (va : Nat), .bool sto] 67) ∧ W2.heap[bf]? = some (.cells #[Value.int .i64 1, .int .i64 3, .int .i64 (lv : Nat), .int .u64 (va : Nat), .bool sto] 67) ∧ W12.heap[bf]? = some (.cells #[Value.int .i64 1, .int .i64 K, .int .i64 (lv : Nat), .int .u64 (va : Nat), .bool sto] 67)) := Lib.hid ⟨trivial, r0, r1, r2, r12⟩
    have hnl : bf ≠ bl := by have := HX3.out.2.2.1; omega
    have g0 : X3.drew.heap[bl]? = some (.cells #[Value.int .i64 (lv : Nat), .int .u64 (sat : Nat), .int .u64 (sraw : Nat), .int .i64 dk, .int .u64 (da : Nat), .bool dr, .bool dw, .bool dx, .int .i64 dS] 52) := KL
    have HFR := Lib.hid (And.intro g0 (And.intro (show W1.heap[bl]? = some (.cells #[Value.int .i64 (lv : Nat), .int .u64 (sat : Nat), .int .u64 (sraw : Nat), .int .i64 dk, .int .u64 (da : Nat), .bool dr, .bool dw, .bool dx, .int .i64 dS] 52) by rw [hW1]; exact (putB_other _ hnl).trans g0) (And.intro (show W2.heap[bl]? = some (.cells #[Value.int .i64 (lv : Nat), .int .u64 (sat : Nat), .int .u64 (sraw : Nat), .int .i64 dk, .int .u64 (da : Nat), .bool dr, .bool dw, .bool dx, .int .i64 dS] 52) by rw [hW2]; exact (putB_other _ hnl).trans g0) (show W12.heap[bl]? = some (.cells #[Value.int .i64 (lv : Nat), .int .u64 (sat : Nat), .int .u64 (sraw : Nat), .int .i64 dk, .int .u64 (da : Nat), .bool dr, .bool dw, .bool dx, .int .i64 dS] 52) by rw [hW12]; exact (putB_other _ hnl).trans g0))))
    have hoW : Only (fun b => b = bf) X3 W12 := by rw [hW12]; exact (only_drew (Only.refl _ _)).putB _ (fun _ => rfl)
    have hmW := memW_only hm hoW (fun b hb e => by subst e; exact hb (.inr HNE.out.2.2.2.1))
    have hoWx : Only (fun b => ¬ (X b ∨ vb ≤ b) ∨ vb ≤ b) w W12 := ho.trans (hoW.mono fun b _ e => .inr (by have := HNE.out; omega))
    have K8' := keep_only hoW (Ne.symm HNE.out.2.1) K8
    have K9' := keep_only hoW (Ne.symm HNE.out.2.2.1) K9
    have KR' := keep_only hoW (show ¬ rp = bf by have := HWB.out.1; omega) KR
    have HE := Lib.hid (And.intro hmW (And.intro hoWx (And.intro K8' (And.intro K9' (And.intro KR' r12)))))
    clear hW1 hW2 hW12 r0 r1 r2 r12 g0 hnl hoW hmW hoWx K8' K9' KR' hm ho K8 K9 KR KF KL
    refine wp_region_staged (S := FourS 4 6 X3.drew W1 W2 W12) 7 (by kernel_rfl) (by kernel_rfl) (by kernel_rfl) (by decide) (four_start _) ?_
    apply walkedS_cons
    · intro l9 wS hz hn hS
      have hS9 := four_other 0 (by decide) (by decide) hS
      obtain ⟨k9, -, -⟩ := of_block (four_fact (Φ := fun y => y.heap[bl]? = _) hS HFR.out.1 HFR.out.2.1 HFR.out.2.2.1 HFR.out.2.2.2)
      clear hS
      go_wp2
      exact ⟨rfl, rfl, hS9⟩
    · rfl
    (try simp only [Act.put, List.setIfInBounds_toArray, List.set_cons_succ, List.set_cons_zero])
    apply walkedS_cons
    · intro l9 wS hz hn hS
      have hS9 := four_other 1 (by decide) (by decide) hS
      obtain ⟨k9, -, -⟩ := of_block (four_fact (Φ := fun y => y.heap[bl]? = _) hS HFR.out.1 HFR.out.2.1 HFR.out.2.2.1 HFR.out.2.2.2)
      clear hS
      go_wp2
      exact ⟨rfl, rfl, hS9⟩
    · rfl
    (try simp only [Act.put, List.setIfInBounds_toArray, List.set_cons_succ, List.set_cons_zero])
    apply walkedS_cons
    · intro l9 wS hz hn hS
      have hS9 := four_other 2 (by decide) (by decide) hS
      obtain ⟨k9, -, -⟩ := of_block (four_fact (Φ := fun y => y.heap[bl]? = _) hS HFR.out.1 HFR.out.2.1 HFR.out.2.2.1 HFR.out.2.2.2)
      clear hS
      go_wp2
      exact ⟨rfl, rfl, hS9⟩
    · rfl
    (try simp only [Act.put, List.setIfInBounds_toArray, List.set_cons_succ, List.set_cons_zero])
    apply walkedS_cons
    · intro l9 wS hz hn hS
      have hS9 := four_other 3 (by decide) (by decide) hS
      obtain ⟨k9, -, -⟩ := of_block (four_fact (Φ := fun y => y.heap[bl]? = _) hS HFR.out.1 HFR.out.2.1 HFR.out.2.2.1 HFR.out.2.2.2)
      clear hS
      go_wp2
      exact ⟨rfl, rfl, hS9⟩
    · rfl
    (try simp only [Act.put, List.setIfInBounds_toArray, List.set_cons_succ, List.set_cons_zero])
    apply walkedS_cons
    · intro l9 wS hz hn hS
      rcases four_first hz (by decide) (by decide) hn hS with ⟨rfl, hd⟩ | ⟨rfl, hd⟩
      · obtain ⟨k9, q9, z9⟩ := of_block HFO.out.2.1
        have hset := HFS.out.1
        clear hS
        go_wp2
        exact ⟨rfl, rfl, hd⟩
      · obtain ⟨k9, q9, z9⟩ := of_block HFO.out.2.2.2.1
        have hset := HFS.out.2.1
        clear hS
        go_wp2
        exact ⟨rfl, rfl, hd⟩
    · rfl
    (try simp only [Act.put, List.setIfInBounds_toArray, List.set_cons_succ, List.set_cons_zero])
    apply walkedS_cons
    · intro l9 wS hz hn hS
      have hS9 := four_other 5 (by decide) (by decide) hS
      obtain ⟨k9, -, -⟩ := of_block (four_fact (Φ := fun y => y.heap[bl]? = _) hS HFR.out.1 HFR.out.2.1 HFR.out.2.2.1 HFR.out.2.2.2)
      clear hS
      go_wp2
      exact ⟨rfl, rfl, hS9⟩
    · rfl
    (try simp only [Act.put, List.setIfInBounds_toArray, List.set_cons_succ, List.set_cons_zero])
    apply walkedS_cons
    · intro l9 wS hz hn hS
      rcases four_second hz (by decide) (by decide) hn hS with ⟨rfl, hd⟩ | ⟨rfl, hd⟩
      · obtain ⟨k9, q9, z9⟩ := of_block HFO.out.2.1
        have hset := HFS.out.2.2.1
        clear hS
        go_wp2
        exact ⟨rfl, rfl, hd⟩
      · obtain ⟨k9, q9, z9⟩ := of_block HFO.out.2.2.1
        have hset := HFS.out.2.2.2
        clear hS
        go_wp2
        exact ⟨rfl, rfl, hd⟩
    · rfl
    (try simp only [Act.put, List.setIfInBounds_toArray, List.set_cons_succ, List.set_cons_zero])
    apply walkedS_nil
    intro l9 wS hz hall hS
    obtain rfl := four_all (hall 4 (by decide)) (hall 6 (by decide)) hS
    clear hS hall hz l9
    show wpList _ _ _ [] _ _
    go_upto_region 19 with (fail)
    obtain ⟨-, -, K8, K9, KR, KF⟩ := HE.out
    refine wp_region_staged (S := TwoS 6 7 b8 (.cells #[Value.int .i64 0, .int .u64 0, .bool false, .bool false, .bool false, .bool false, .bool false, .bool false] 65) b9 (.cells #[Value.int .i64 1, .int .i64 K, .int .i64 (lv : Nat), .int .u64 (va : Nat), .bool sto] 67) wS.drew) 9 (by kernel_rfl) (by kernel_rfl) (by kernel_rfl) (by decide) (two_start _) ?_
    apply walkedS_cons
    · intro l9 wS hz hn hS
      have hS9 := two_other 0 (by decide) (by decide) hS
      clear hS
      go_wp2
      exact ⟨rfl, rfl, hS9⟩
    · rfl
    (try simp only [Act.put, List.setIfInBounds_toArray, List.set_cons_succ, List.set_cons_zero])
    apply walkedS_cons
    · intro l9 wS hz hn hS
      have hS9 := two_other 1 (by decide) (by decide) hS
      have c9 := two_cell hS HNE.out.2.1 HNE.out.2.2.1 KF
      clear hS
      go_wp2
      exact ⟨rfl, rfl, hS9⟩
    · rfl
    (try simp only [Act.put, List.setIfInBounds_toArray, List.set_cons_succ, List.set_cons_zero])
    apply walkedS_cons
    · intro l9 wS hz hn hS
      have hS9 := two_other 2 (by decide) (by decide) hS
      clear hS
      go_wp2
      exact ⟨rfl, rfl, hS9⟩
    · rfl
    (try simp only [Act.put, List.setIfInBounds_toArray, List.set_cons_succ, List.set_cons_zero])
    apply walkedS_cons
    · intro l9 wS hz hn hS
      have hS9 := two_other 3 (by decide) (by decide) hS
      clear hS
      go_wp2
      exact ⟨rfl, rfl, hS9⟩
    · rfl
    (try simp only [Act.put, List.setIfInBounds_toArray, List.set_cons_succ, List.set_cons_zero])
    apply walkedS_cons
    · intro l9 wS hz hn hS
      have hS9 := two_other 4 (by decide) (by decide) hS
      clear hS
      go_wp2
      exact ⟨rfl, rfl, hS9⟩
    · rfl
    (try simp only [Act.put, List.setIfInBounds_toArray, List.set_cons_succ, List.set_cons_zero])
    apply walkedS_cons
    · intro l9 wS hz hn hS
      have hS9 := two_other 5 (by decide) (by decide) hS
      have c9 := two_cell hS (show rp ≠ b8 by have := HWB.out.1; omega) (show rp ≠ b9 by have := HWB.out.1; omega) KR
      clear hS
      go_wp2
      exact ⟨rfl, rfl, hS9⟩
    · rfl
    (try simp only [Act.put, List.setIfInBounds_toArray, List.set_cons_succ, List.set_cons_zero])
    apply walkedS_cons
    · intro l9 wS hz hn hS
      have hb9 := two_first hn hS HNE.out.1 K8
      have hd9 := two_done1 hz (by decide) (by decide) hn HNE.out.1 hS
      refine wpList_store_whole rfl 65 _ _ rfl b8 [Value.int .i64 0, .int .u64 0, .bool false, .bool false, .bool false, .bool false, .bool false, .bool false] rfl rfl 65 _ hb9 (by kernel_rfl) rfl (by intro v hv; simp only [List.mem_cons, List.not_mem_nil, or_false] at hv; rcases hv with rfl | rfl | rfl | rfl | rfl | rfl | rfl | rfl <;> rfl) ?_
      exact ⟨rfl, rfl, hd9⟩
    · rfl
    (try simp only [Act.put, List.setIfInBounds_toArray, List.set_cons_succ, List.set_cons_zero])
    apply walkedS_cons
    · intro l9 wS hz hn hS
      have hb9 := two_second hn hS HNE.out.1 K9
      have hd9 := two_done2 hz (by decide) (by decide) hn hS
      refine wpList_store_whole rfl 67 _ _ rfl b9 [Value.int .i64 1, .int .i64 K, .int .i64 (lv : Nat), .int .u64 (va : Nat), .bool sto] rfl rfl 67 _ hb9 (by kernel_rfl) rfl (by intro v hv; simp only [List.mem_cons, List.not_mem_nil, or_false] at hv; rcases hv with rfl | rfl | rfl | rfl | rfl <;> rfl) ?_
      exact ⟨rfl, rfl, hd9⟩
    · rfl
    (try simp only [Act.put, List.setIfInBounds_toArray, List.set_cons_succ, List.set_cons_zero])
    apply walkedS_cons
    · intro l9 wS hz hn hS
      have hS9 := two_other 8 (by decide) (by decide) hS
      clear hS
      go_wp2
      exact ⟨rfl, rfl, hS9⟩
    · rfl
    (try simp only [Act.put, List.setIfInBounds_toArray, List.set_cons_succ, List.set_cons_zero])
    apply walkedS_nil
    intro l9 wS hz hall hS
    obtain rfl := two_all (hall 6 (by decide)) (hall 7 (by decide)) hS
    clear hS hall hz l9
    show wpList _ _ _ [] _ _
    go_wp2
    have r8 : (putB (putB wS.drew b8 (.cells #[Value.int .i64 0, .int .u64 0, .bool false, .bool false, .bool false, .bool false, .bool false, .bool false] 65)) b9 (.cells #[Value.int .i64 1, .int .i64 K, .int .i64 (lv : Nat), .int .u64 (va : Nat), .bool sto] 67)).heap[b8]? = some (.cells #[Value.int .i64 0, .int .u64 0, .bool false, .bool false, .bool false, .bool false, .bool false, .bool false] 65) := by rw [putB_other _ (Ne.symm HNE.out.1)]; exact putB_same _ (lt_of_block (show wS.drew.heap[b8]? = _ from K8))
    have r9 : (putB (putB wS.drew b8 (.cells #[Value.int .i64 0, .int .u64 0, .bool false, .bool false, .bool false, .bool false, .bool false, .bool false] 65)) b9 (.cells #[Value.int .i64 1, .int .i64 K, .int .i64 (lv : Nat), .int .u64 (va : Nat), .bool sto] 67)).heap[b9]? = some (.cells #[Value.int .i64 1, .int .i64 K, .int .i64 (lv : Nat), .int .u64 (va : Nat), .bool sto] 67) := putB_same _ (by rw [putB_size]; exact lt_of_block (show wS.drew.heap[b9]? = _ from K9))
    obtain ⟨k8, -, -⟩ := of_block r8
    obtain ⟨k9, -, -⟩ := of_block r9
    refine bodyPost_ret (by simp [results, Try.results30, go_sem, k8, k9]; try rfl) rfl ?_
    exact retSec_end1 HB.out.1 HE.out.1 (by omega) HE.out.2.1 HNE.out.2.2.2.2.1 HNE.out.2.2.2.2.2 HQ6.out
  subst hK0
  have hq8 := HQ7.out
  rw [if_neg (by simp)] at hq8
  have HQ8 := Lib.hid hq8
  clear hq8 HQ7
  cases hal : allowsB dr dw dx access with
  | false =>
    have HQ6 : Hid (q = (O0, ⟨1, 2, (lv : Nat), va, sto⟩, ws)) := Lib.hid (by rw [HQ8.out]; exact if_pos hal)
    have hc := HALL.out X3
    rw [hal] at hc
    clear hal
    go_wp2_with fail
    (with_reducible refine hc.mono ?_)
    rintro e x4 ⟨rfl, hO4⟩
    have HP := Lib.hid (And.intro (memW_old HX3.out.1 hO4) (And.intro (HX3.out.2.1.trans ((Only.of_below hO4).mono fun b _ f => f.elim)) (And.intro (keep_old hO4 HK3.out.1) (And.intro (keep_old hO4 HK3.out.2.1) (And.intro (keep_old hO4 HK3.out.2.2.1) (And.intro (keep_old hO4 HK3.out.2.2.2.1) (keep_old hO4 HX3.out.2.2.2)))))))
    clear hO4 hc km qm zm
    go_upto_region 18 with (fail)
    obtain ⟨hm, ho, K8, K9, KR, KF, KL⟩ := HP.out
    obtain ⟨W1, hW1⟩ : ∃ W1, W1 = putB x4.drew bf (.cells #[Value.int .i64 1, .int .i64 2, .int .i64 (-1), .int .u64 (va : Nat), .bool sto] 67) := ⟨_, rfl⟩
    obtain ⟨W2, hW2⟩ : ∃ W2, W2 = putB x4.drew bf (.cells #[Value.int .i64 1, .int .i64 3, .int .i64 (lv : Nat), .int .u64 (va : Nat), .bool sto] 67) := ⟨_, rfl⟩
    obtain ⟨W12, hW12⟩ : ∃ W12, W12 = putB x4.drew bf (.cells #[Value.int .i64 1, .int .i64 2, .int .i64 (lv : Nat), .int .u64 (va : Nat), .bool sto] 67) := ⟨_, rfl⟩
    have r0 : x4.drew.heap[bf]? = some (.cells #[Value.int .i64 1, .int .i64 3, .int .i64 (-1), .int .u64 (va : Nat), .bool sto] 67) := KF
    have r1 : W1.heap[bf]? = some (.cells #[Value.int .i64 1, .int .i64 2, .int .i64 (-1), .int .u64 (va : Nat), .bool sto] 67) := by rw [hW1]; exact putB_same _ (lt_of_block r0)
    have r2 : W2.heap[bf]? = some (.cells #[Value.int .i64 1, .int .i64 3, .int .i64 (lv : Nat), .int .u64 (va : Nat), .bool sto] 67) := by rw [hW2]; exact putB_same _ (lt_of_block r0)
    have r12 : W12.heap[bf]? = some (.cells #[Value.int .i64 1, .int .i64 2, .int .i64 (lv : Nat), .int .u64 (va : Nat), .bool sto] 67) := by rw [hW12]; exact putB_same _ (lt_of_block r0)
    have HFS : Hid (x4.drew.setCell ⟨bf, 1, none⟩ (.int .i64 2) = W1 ∧ W2.setCell ⟨bf, 1, none⟩ (.int .i64 2) = W12 ∧ x4.drew.setCell ⟨bf, 2, none⟩ (.int .i64 (lv : Nat)) = W2 ∧ W1.setCell ⟨bf, 2, none⟩ (.int .i64 (lv : Nat)) = W12) :=
      Lib.hid ⟨by rw [set_of r0, hW1]; rfl, by rw [set_of r2, hW2, hW12, putB_putB]; rfl, by rw [set_of r0, hW2]; rfl, by rw [set_of r1, hW1, hW12, putB_putB]; rfl⟩
    have HFO : Hid (True ∧ x4.drew.heap[bf]? = some (.cells #[Value.int .i64 1, .int .i64 3, .int .i64 (-1), .int .u64 (va : Nat), .bool sto] 67) ∧ W1.heap[bf]? = some (.cells #[Value.int .i64 1, .int .i64 2, .int .i64 (-1), .int .u64 (va : Nat), .bool sto] 67) ∧ W2.heap[bf]? = some (.cells #[Value.int .i64 1, .int .i64 3, .int .i64 (lv : Nat), .int .u64 (va : Nat), .bool sto] 67) ∧ W12.heap[bf]? = some (.cells #[Value.int .i64 1, .int .i64 2, .int .i64 (lv : Nat), .int .u64 (va : Nat), .bool sto] 67)) := Lib.hid ⟨trivial, r0, r1, r2, r12⟩
    have hnl : bf ≠ bl := by have := HX3.out.2.2.1; omega
    have g0 : x4.drew.heap[bl]? = some (.cells #[Value.int .i64 (lv : Nat), .int .u64 (sat : Nat), .int .u64 (sraw : Nat), .int .i64 dk, .int .u64 (da : Nat), .bool dr, .bool dw, .bool dx, .int .i64 dS] 52) := KL
    have HFR := Lib.hid (And.intro g0 (And.intro (show W1.heap[bl]? = some (.cells #[Value.int .i64 (lv : Nat), .int .u64 (sat : Nat), .int .u64 (sraw : Nat), .int .i64 dk, .int .u64 (da : Nat), .bool dr, .bool dw, .bool dx, .int .i64 dS] 52) by rw [hW1]; exact (putB_other _ hnl).trans g0) (And.intro (show W2.heap[bl]? = some (.cells #[Value.int .i64 (lv : Nat), .int .u64 (sat : Nat), .int .u64 (sraw : Nat), .int .i64 dk, .int .u64 (da : Nat), .bool dr, .bool dw, .bool dx, .int .i64 dS] 52) by rw [hW2]; exact (putB_other _ hnl).trans g0) (show W12.heap[bl]? = some (.cells #[Value.int .i64 (lv : Nat), .int .u64 (sat : Nat), .int .u64 (sraw : Nat), .int .i64 dk, .int .u64 (da : Nat), .bool dr, .bool dw, .bool dx, .int .i64 dS] 52) by rw [hW12]; exact (putB_other _ hnl).trans g0))))
    have hoW : Only (fun b => b = bf) x4 W12 := by rw [hW12]; exact (only_drew (Only.refl _ _)).putB _ (fun _ => rfl)
    have hmW := memW_only hm hoW (fun b hb e => by subst e; exact hb (.inr HNE.out.2.2.2.1))
    have hoWx : Only (fun b => ¬ (X b ∨ vb ≤ b) ∨ vb ≤ b) w W12 := ho.trans (hoW.mono fun b _ e => .inr (by have := HNE.out; omega))
    have K8' := keep_only hoW (Ne.symm HNE.out.2.1) K8
    have K9' := keep_only hoW (Ne.symm HNE.out.2.2.1) K9
    have KR' := keep_only hoW (show ¬ rp = bf by have := HWB.out.1; omega) KR
    have HE := Lib.hid (And.intro hmW (And.intro hoWx (And.intro K8' (And.intro K9' (And.intro KR' r12)))))
    clear hW1 hW2 hW12 r0 r1 r2 r12 g0 hnl hoW hmW hoWx K8' K9' KR' hm ho K8 K9 KR KF KL
    refine wp_region_staged (S := FourS 4 6 x4.drew W1 W2 W12) 7 (by kernel_rfl) (by kernel_rfl) (by kernel_rfl) (by decide) (four_start _) ?_
    apply walkedS_cons
    · intro l9 wS hz hn hS
      have hS9 := four_other 0 (by decide) (by decide) hS
      obtain ⟨k9, -, -⟩ := of_block (four_fact (Φ := fun y => y.heap[bl]? = _) hS HFR.out.1 HFR.out.2.1 HFR.out.2.2.1 HFR.out.2.2.2)
      clear hS
      go_wp2
      exact ⟨rfl, rfl, hS9⟩
    · rfl
    (try simp only [Act.put, List.setIfInBounds_toArray, List.set_cons_succ, List.set_cons_zero])
    apply walkedS_cons
    · intro l9 wS hz hn hS
      have hS9 := four_other 1 (by decide) (by decide) hS
      obtain ⟨k9, -, -⟩ := of_block (four_fact (Φ := fun y => y.heap[bl]? = _) hS HFR.out.1 HFR.out.2.1 HFR.out.2.2.1 HFR.out.2.2.2)
      clear hS
      go_wp2
      exact ⟨rfl, rfl, hS9⟩
    · rfl
    (try simp only [Act.put, List.setIfInBounds_toArray, List.set_cons_succ, List.set_cons_zero])
    apply walkedS_cons
    · intro l9 wS hz hn hS
      have hS9 := four_other 2 (by decide) (by decide) hS
      obtain ⟨k9, -, -⟩ := of_block (four_fact (Φ := fun y => y.heap[bl]? = _) hS HFR.out.1 HFR.out.2.1 HFR.out.2.2.1 HFR.out.2.2.2)
      clear hS
      go_wp2
      exact ⟨rfl, rfl, hS9⟩
    · rfl
    (try simp only [Act.put, List.setIfInBounds_toArray, List.set_cons_succ, List.set_cons_zero])
    apply walkedS_cons
    · intro l9 wS hz hn hS
      have hS9 := four_other 3 (by decide) (by decide) hS
      obtain ⟨k9, -, -⟩ := of_block (four_fact (Φ := fun y => y.heap[bl]? = _) hS HFR.out.1 HFR.out.2.1 HFR.out.2.2.1 HFR.out.2.2.2)
      clear hS
      go_wp2
      exact ⟨rfl, rfl, hS9⟩
    · rfl
    (try simp only [Act.put, List.setIfInBounds_toArray, List.set_cons_succ, List.set_cons_zero])
    apply walkedS_cons
    · intro l9 wS hz hn hS
      rcases four_first hz (by decide) (by decide) hn hS with ⟨rfl, hd⟩ | ⟨rfl, hd⟩
      · obtain ⟨k9, q9, z9⟩ := of_block HFO.out.2.1
        have hset := HFS.out.1
        clear hS
        go_wp2
        exact ⟨rfl, rfl, hd⟩
      · obtain ⟨k9, q9, z9⟩ := of_block HFO.out.2.2.2.1
        have hset := HFS.out.2.1
        clear hS
        go_wp2
        exact ⟨rfl, rfl, hd⟩
    · rfl
    (try simp only [Act.put, List.setIfInBounds_toArray, List.set_cons_succ, List.set_cons_zero])
    apply walkedS_cons
    · intro l9 wS hz hn hS
      have hS9 := four_other 5 (by decide) (by decide) hS
      obtain ⟨k9, -, -⟩ := of_block (four_fact (Φ := fun y => y.heap[bl]? = _) hS HFR.out.1 HFR.out.2.1 HFR.out.2.2.1 HFR.out.2.2.2)
      clear hS
      go_wp2
      exact ⟨rfl, rfl, hS9⟩
    · rfl
    (try simp only [Act.put, List.setIfInBounds_toArray, List.set_cons_succ, List.set_cons_zero])
    apply walkedS_cons
    · intro l9 wS hz hn hS
      rcases four_second hz (by decide) (by decide) hn hS with ⟨rfl, hd⟩ | ⟨rfl, hd⟩
      · obtain ⟨k9, q9, z9⟩ := of_block HFO.out.2.1
        have hset := HFS.out.2.2.1
        clear hS
        go_wp2
        exact ⟨rfl, rfl, hd⟩
      · obtain ⟨k9, q9, z9⟩ := of_block HFO.out.2.2.1
        have hset := HFS.out.2.2.2
        clear hS
        go_wp2
        exact ⟨rfl, rfl, hd⟩
    · rfl
    (try simp only [Act.put, List.setIfInBounds_toArray, List.set_cons_succ, List.set_cons_zero])
    apply walkedS_nil
    intro l9 wS hz hall hS
    obtain rfl := four_all (hall 4 (by decide)) (hall 6 (by decide)) hS
    clear hS hall hz l9
    show wpList _ _ _ [] _ _
    go_upto_region 19 with (fail)
    obtain ⟨-, -, K8, K9, KR, KF⟩ := HE.out
    refine wp_region_staged (S := TwoS 6 7 b8 (.cells #[Value.int .i64 0, .int .u64 0, .bool false, .bool false, .bool false, .bool false, .bool false, .bool false] 65) b9 (.cells #[Value.int .i64 1, .int .i64 2, .int .i64 (lv : Nat), .int .u64 (va : Nat), .bool sto] 67) wS.drew) 9 (by kernel_rfl) (by kernel_rfl) (by kernel_rfl) (by decide) (two_start _) ?_
    apply walkedS_cons
    · intro l9 wS hz hn hS
      have hS9 := two_other 0 (by decide) (by decide) hS
      clear hS
      go_wp2
      exact ⟨rfl, rfl, hS9⟩
    · rfl
    (try simp only [Act.put, List.setIfInBounds_toArray, List.set_cons_succ, List.set_cons_zero])
    apply walkedS_cons
    · intro l9 wS hz hn hS
      have hS9 := two_other 1 (by decide) (by decide) hS
      have c9 := two_cell hS HNE.out.2.1 HNE.out.2.2.1 KF
      clear hS
      go_wp2
      exact ⟨rfl, rfl, hS9⟩
    · rfl
    (try simp only [Act.put, List.setIfInBounds_toArray, List.set_cons_succ, List.set_cons_zero])
    apply walkedS_cons
    · intro l9 wS hz hn hS
      have hS9 := two_other 2 (by decide) (by decide) hS
      clear hS
      go_wp2
      exact ⟨rfl, rfl, hS9⟩
    · rfl
    (try simp only [Act.put, List.setIfInBounds_toArray, List.set_cons_succ, List.set_cons_zero])
    apply walkedS_cons
    · intro l9 wS hz hn hS
      have hS9 := two_other 3 (by decide) (by decide) hS
      clear hS
      go_wp2
      exact ⟨rfl, rfl, hS9⟩
    · rfl
    (try simp only [Act.put, List.setIfInBounds_toArray, List.set_cons_succ, List.set_cons_zero])
    apply walkedS_cons
    · intro l9 wS hz hn hS
      have hS9 := two_other 4 (by decide) (by decide) hS
      clear hS
      go_wp2
      exact ⟨rfl, rfl, hS9⟩
    · rfl
    (try simp only [Act.put, List.setIfInBounds_toArray, List.set_cons_succ, List.set_cons_zero])
    apply walkedS_cons
    · intro l9 wS hz hn hS
      have hS9 := two_other 5 (by decide) (by decide) hS
      have c9 := two_cell hS (show rp ≠ b8 by have := HWB.out.1; omega) (show rp ≠ b9 by have := HWB.out.1; omega) KR
      clear hS
      go_wp2
      exact ⟨rfl, rfl, hS9⟩
    · rfl
    (try simp only [Act.put, List.setIfInBounds_toArray, List.set_cons_succ, List.set_cons_zero])
    apply walkedS_cons
    · intro l9 wS hz hn hS
      have hb9 := two_first hn hS HNE.out.1 K8
      have hd9 := two_done1 hz (by decide) (by decide) hn HNE.out.1 hS
      refine wpList_store_whole rfl 65 _ _ rfl b8 [Value.int .i64 0, .int .u64 0, .bool false, .bool false, .bool false, .bool false, .bool false, .bool false] rfl rfl 65 _ hb9 (by kernel_rfl) rfl (by intro v hv; simp only [List.mem_cons, List.not_mem_nil, or_false] at hv; rcases hv with rfl | rfl | rfl | rfl | rfl | rfl | rfl | rfl <;> rfl) ?_
      exact ⟨rfl, rfl, hd9⟩
    · rfl
    (try simp only [Act.put, List.setIfInBounds_toArray, List.set_cons_succ, List.set_cons_zero])
    apply walkedS_cons
    · intro l9 wS hz hn hS
      have hb9 := two_second hn hS HNE.out.1 K9
      have hd9 := two_done2 hz (by decide) (by decide) hn hS
      refine wpList_store_whole rfl 67 _ _ rfl b9 [Value.int .i64 1, .int .i64 2, .int .i64 (lv : Nat), .int .u64 (va : Nat), .bool sto] rfl rfl 67 _ hb9 (by kernel_rfl) rfl (by intro v hv; simp only [List.mem_cons, List.not_mem_nil, or_false] at hv; rcases hv with rfl | rfl | rfl | rfl | rfl <;> rfl) ?_
      exact ⟨rfl, rfl, hd9⟩
    · rfl
    (try simp only [Act.put, List.setIfInBounds_toArray, List.set_cons_succ, List.set_cons_zero])
    apply walkedS_cons
    · intro l9 wS hz hn hS
      have hS9 := two_other 8 (by decide) (by decide) hS
      clear hS
      go_wp2
      exact ⟨rfl, rfl, hS9⟩
    · rfl
    (try simp only [Act.put, List.setIfInBounds_toArray, List.set_cons_succ, List.set_cons_zero])
    apply walkedS_nil
    intro l9 wS hz hall hS
    obtain rfl := two_all (hall 6 (by decide)) (hall 7 (by decide)) hS
    clear hS hall hz l9
    show wpList _ _ _ [] _ _
    go_wp2
    have r8 : (putB (putB wS.drew b8 (.cells #[Value.int .i64 0, .int .u64 0, .bool false, .bool false, .bool false, .bool false, .bool false, .bool false] 65)) b9 (.cells #[Value.int .i64 1, .int .i64 2, .int .i64 (lv : Nat), .int .u64 (va : Nat), .bool sto] 67)).heap[b8]? = some (.cells #[Value.int .i64 0, .int .u64 0, .bool false, .bool false, .bool false, .bool false, .bool false, .bool false] 65) := by rw [putB_other _ (Ne.symm HNE.out.1)]; exact putB_same _ (lt_of_block (show wS.drew.heap[b8]? = _ from K8))
    have r9 : (putB (putB wS.drew b8 (.cells #[Value.int .i64 0, .int .u64 0, .bool false, .bool false, .bool false, .bool false, .bool false, .bool false] 65)) b9 (.cells #[Value.int .i64 1, .int .i64 2, .int .i64 (lv : Nat), .int .u64 (va : Nat), .bool sto] 67)).heap[b9]? = some (.cells #[Value.int .i64 1, .int .i64 2, .int .i64 (lv : Nat), .int .u64 (va : Nat), .bool sto] 67) := putB_same _ (by rw [putB_size]; exact lt_of_block (show wS.drew.heap[b9]? = _ from K9))
    obtain ⟨k8, -, -⟩ := of_block r8
    obtain ⟨k9, -, -⟩ := of_block r9
    refine bodyPost_ret (by simp [results, Try.results30, go_sem, k8, k9]; try rfl) rfl ?_
    exact retSec_end1 HB.out.1 HE.out.1 (by omega) HE.out.2.1 HNE.out.2.2.2.2.1 HNE.out.2.2.2.2.2 HQ6.out
  | true =>
    have hc := HALL.out X3
    rw [hal] at hc
    have hq9 := HQ8.out
    rw [if_neg (by simp [hal])] at hq9
    (try dsimp only at hq9)
    obtain ⟨A2, hA2⟩ : ∃ A2, outN va lv dk da = A2 := ⟨_, rfl⟩
    have hA2l : A2 < 18446744073709551616 := by
      rw [← hA2]; unfold outN; split
      · exact Nat.mod_lt _ (by decide)
      · decide
    have hout := fun x => out_calls va HU.out.2.2.2 lv sat sraw dk da HDA.out dr dw dx dS x
    rw [hA2] at hout hq9
    obtain ⟨q2, hq2⟩ : ∃ q2, secondN (rawM frames wd) (okM frames) two A2 access = q2 := ⟨_, rfl⟩
    rw [hq2] at hq9
    have hse : ∀ w, IsMemW w (fun b => X b ∨ vb ≤ b) p frames wd (N + 20) → Calls Try.prog 33 #[.pointer (some ⟨p, 0, none⟩), .int .u64 (two : Nat), .int .u64 (A2 : Nat), .int .i64 access] w (RetSec w (fun b => X b ∨ vb ≤ b) p frames wd (N + 20 + 4) q2) := fun w hw => by
      have := second_calls hw (by have := HU.out.1; omega) two A2 HU.out.2.1 hA2l access
      rw [hq2] at this
      exact this
    have hqn : q2.2.2 ≤ 4 := by rw [← hq2]; exact (second_ok two A2 access).n4
    obtain ⟨⟨ofr, oip, o1, o2, o3, o4, o5, o6⟩, ⟨fst, fk, flv, fad, fsto⟩, nq⟩ := q2
    (try dsimp only at hq9 hqn)
    have nq4 : (nq : Int) ≤ 4 := by omega
    have HQ9 := Lib.hid hq9
    have HSE := Lib.hid hse
    have HOUT := Lib.hid hout
    clear hal hq9 hA2 hA2l hout hq2 hse hqn HALL HQ8
    go_wp2_with fail
    (with_reducible refine hc.mono ?_)
    rintro e x4 ⟨rfl, hO4⟩
    have hm := memW_old HX3.out.1 hO4
    have ho := HX3.out.2.1.trans ((Only.of_below hO4).mono (G := fun b => ¬ (X b ∨ vb ≤ b) ∨ vb ≤ b) fun b _ f => f.elim)
    have K8 := keep_old hO4 HK3.out.1
    have K9 := keep_old hO4 HK3.out.2.1
    have KR := keep_old hO4 HK3.out.2.2.1
    have KF := keep_old hO4 HK3.out.2.2.2.1
    have KV := keep_old hO4 HK3.out.2.2.2.2
    have KL := keep_old hO4 HX3.out.2.2.2
    have hFC : FreeC 16 7 x4.drew (fun w => IsMemW w (fun b => X b ∨ vb ≤ b) p frames wd (N + 20)) (fun w => IsMemW w (fun b => X b ∨ vb ≤ b) p frames wd (N + 20 + 4)) (fun b => ¬ (X b ∨ vb ≤ b) ∨ b = bf) [⟨12, 13, zOut, #[Value.int .i64 (ofr : Nat), .int .u64 (oip : Nat), .bool o1, .bool o2, .bool o3, .bool o4, .bool o5, .bool o6], 65⟩] :=
      { old := fun b hb => hb.elim (fun h => Nat.lt_of_lt_of_le (HX.out.2 b h) (Nat.le_trans (by have := HX3.out.2.2.1; omega) (Nat.le_of_lt (lt_of_block KL)))) (fun e => by rw [e]; exact lt_of_block KF)
        k0 := fun w w' h ho => memW_only h ho (fun b hb e => hb (.inr (by have h1 := lt_of_block KF; have h2 : x4.heap.size ≤ b := e; have := HNE.out.2.2.2.1; omega)))
        k1 := fun w w' h ho => memW_only h ho (fun b hb e => hb (.inr (by have h1 := lt_of_block KF; have h2 : x4.heap.size ≤ b := e; have := HNE.out.2.2.2.1; omega)))
        JA := by simp, JB := by simp, AB := by simp, BB := by simp, AN := by simp, one := by simp, JN := by decide }
    have HFC := Lib.hid hFC
    have HV := Lib.hid (And.intro (show vb < x4.drew.heap.size from lt_of_block KV) (And.intro (show ¬ (¬ (X vb ∨ vb ≤ vb) ∨ vb = bf) from fun h => h.elim (fun h => h (.inr (Nat.le_refl _))) (fun e => by have := HB.out; omega)) (show x4.drew.heap[vb]? = _ from KV)))
    have HL := Lib.hid (And.intro (show bl < x4.drew.heap.size from lt_of_block KL) (And.intro (show ¬ (¬ (X bl ∨ vb ≤ bl) ∨ bl = bf) from fun h => h.elim (fun h => h (.inr (by have := HX3.out.2.2.1; omega))) (fun e => by have := HX3.out.2.2.1; omega)) (show x4.drew.heap[bl]? = _ from KL)))
    have H8 := Lib.hid (And.intro (show b8 < x4.drew.heap.size from lt_of_block K8) (And.intro (show ¬ (¬ (X b8 ∨ vb ≤ b8) ∨ b8 = bf) from fun h => h.elim (fun h => h (.inr HNE.out.2.2.2.2.1)) (fun e => HNE.out.2.1 e.symm)) (show x4.drew.heap[b8]? = _ from K8)))
    have H9 := Lib.hid (And.intro (show b9 < x4.drew.heap.size from lt_of_block K9) (And.intro (show ¬ (¬ (X b9 ∨ vb ≤ b9) ∨ b9 = bf) from fun h => h.elim (fun h => h (.inr HNE.out.2.2.2.2.2)) (fun e => HNE.out.2.2.1 e.symm)) (show x4.drew.heap[b9]? = _ from K9)))
    have HRR := Lib.hid (And.intro (show rp < x4.drew.heap.size from lt_of_block KR) (And.intro (show ¬ (¬ (X rp ∨ vb ≤ rp) ∨ rp = bf) from fun h => h.elim (fun h => h (.inr (by have := HWB.out.1; omega))) (fun e => by have := HWB.out.1; omega)) (show x4.drew.heap[rp]? = _ from KR)))
    have HF4 := Lib.hid (And.intro (show bf < x4.drew.heap.size from lt_of_block KF) (show x4.drew.heap[bf]? = _ from KF))
    have HM4 := Lib.hid (And.intro (memW_drew hm) (only_drew ho))
    obtain ⟨SS, hSS⟩ : ∃ SS : (Nat → Value) → Array Bool → World → Prop, SS = (fun v l9 y9 => FreeM 7 x4.drew (fun w => IsMemW w (fun b => X b ∨ vb ≤ b) p frames wd (N + 20)) (fun w => IsMemW w (fun b => X b ∨ vb ≤ b) p frames wd (N + 20 + 4)) (fun b => ¬ (X b ∨ vb ≤ b) ∨ b = bf) [⟨12, 13, zOut, #[Value.int .i64 (ofr : Nat), .int .u64 (oip : Nat), .bool o1, .bool o2, .bool o3, .bool o4, .bool o5, .bool o6], 65⟩] v l9 y9 ∧ FixM 14 bf #[Value.int .i64 1, .int .i64 3, .int .i64 (-1), .int .u64 (va : Nat), .bool sto] #[Value.int .i64 fst, .int .i64 fk, .int .i64 flv, .int .u64 (fad : Nat), .bool fsto] 67 l9 y9) := ⟨_, rfl⟩
    have HSS := Lib.hid hSS
    clear hSS hc hO4 hm ho K8 K9 KR KF KV KL hFC km qm zm HK3
    go_upto_region 20 with (fail)
    refine wp_region_frees (S := SS) (freeF [⟨12, 13, zOut, #[Value.int .i64 (ofr : Nat), .int .u64 (oip : Nat), .bool o1, .bool o2, .bool o3, .bool o4, .bool o5, .bool o6], 65⟩]) 16 ?run20 (fun j C v l x h hz hn hS => by
        rw [HSS.out] at hS ⊢
        obtain ⟨e, he, hej, -⟩ := freeF_spec h
        exact ⟨freeM_free HFC.out j C v l x h hz hn hS.1, fixM_only (G0 := fun _ => False) j (by simp at he; subst he; rw [← hej]; show (12 : Nat) ≠ 14; decide) hS.2 ((Only.refl _ x).alloc _) (fun f => f)⟩)
      (by kernel_rfl) (by kernel_rfl) (by kernel_rfl) (by decide) (fun _ => undef) (by rw [HSS.out]; exact ⟨freeM_start HM4.out.1, fixM_start HF4.out.2⟩) ?_
    case run20 =>
      intro j o C ho hF
      obtain ⟨e, he, rfl, rfl⟩ := freeF_spec hF
      simp only [List.mem_cons, List.not_mem_nil, or_false] at he
      subst he
      simp at ho; subst ho; exact ⟨rfl, by intro b y; simp [execOp, go_sem]⟩
    apply walkedG_step _ (.pointer (some ⟨p, 0, none⟩))
    rotate_left 2
    · intro v l9 wS hz hn hm hS
      rw [HSS.out] at hS
      have hS9 := And.intro (freeM_other 0 (by decide) (by simp) hS.1) (fixM_other 0 (by decide) hS.2)
      obtain ⟨k9, -, -⟩ := of_block (freeM_block hS.1 HV.out.1 HV.out.2.1 HV.out.2.2)
      obtain ⟨k8, -, -⟩ := of_block (freeM_block hS.1 HL.out.1 HL.out.2.1 HL.out.2.2)
      clear hS hm
      go_wp2
      exact ⟨rfl, rfl, by rw [HSS.out]; exact hS9⟩
    rotate_left
    · intro v; kernel_rfl
    · simp [freeF]
    apply walkedG_step _ (.pointer (some ⟨vb, 0, none⟩))
    rotate_left 2
    · intro v l9 wS hz hn hm hS
      rw [HSS.out] at hS
      have hS9 := And.intro (freeM_other 1 (by decide) (by simp) hS.1) (fixM_other 1 (by decide) hS.2)
      obtain ⟨k9, -, -⟩ := of_block (freeM_block hS.1 HV.out.1 HV.out.2.1 HV.out.2.2)
      obtain ⟨k8, -, -⟩ := of_block (freeM_block hS.1 HL.out.1 HL.out.2.1 HL.out.2.2)
      clear hS hm
      go_wp2
      exact ⟨rfl, rfl, by rw [HSS.out]; exact hS9⟩
    rotate_left
    · intro v; kernel_rfl
    · simp [freeF]
    apply walkedG_step _ (.int .u64 (two : Nat))
    rotate_left 2
    · intro v l9 wS hz hn hm hS
      rw [HSS.out] at hS
      have hS9 := And.intro (freeM_other 2 (by decide) (by simp) hS.1) (fixM_other 2 (by decide) hS.2)
      obtain ⟨k9, -, -⟩ := of_block (freeM_block hS.1 HV.out.1 HV.out.2.1 HV.out.2.2)
      obtain ⟨k8, -, -⟩ := of_block (freeM_block hS.1 HL.out.1 HL.out.2.1 HL.out.2.2)
      clear hS hm
      go_wp2
      exact ⟨rfl, rfl, by rw [HSS.out]; exact hS9⟩
    rotate_left
    · intro v; kernel_rfl
    · simp [freeF]
    apply walkedG_step _ (.int .u64 (va : Nat))
    rotate_left 2
    · intro v l9 wS hz hn hm hS
      rw [HSS.out] at hS
      have hS9 := And.intro (freeM_other 3 (by decide) (by simp) hS.1) (fixM_other 3 (by decide) hS.2)
      obtain ⟨k9, -, -⟩ := of_block (freeM_block hS.1 HV.out.1 HV.out.2.1 HV.out.2.2)
      obtain ⟨k8, -, -⟩ := of_block (freeM_block hS.1 HL.out.1 HL.out.2.1 HL.out.2.2)
      clear hS hm
      go_wp2
      exact ⟨rfl, rfl, by rw [HSS.out]; exact hS9⟩
    rotate_left
    · intro v; kernel_rfl
    · simp [freeF]
    apply walkedG_step _ (.agg #[Value.int .i64 (lv : Nat), .int .u64 (sat : Nat), .int .u64 (sraw : Nat), .int .i64 dk, .int .u64 (da : Nat), .bool dr, .bool dw, .bool dx, .int .i64 dS])
    rotate_left 2
    · intro v l9 wS hz hn hm hS
      rw [HSS.out] at hS
      have hS9 := And.intro (freeM_other 4 (by decide) (by simp) hS.1) (fixM_other 4 (by decide) hS.2)
      obtain ⟨k9, -, -⟩ := of_block (freeM_block hS.1 HV.out.1 HV.out.2.1 HV.out.2.2)
      obtain ⟨k8, -, -⟩ := of_block (freeM_block hS.1 HL.out.1 HL.out.2.1 HL.out.2.2)
      clear hS hm
      go_wp2
      exact ⟨rfl, rfl, by rw [HSS.out]; exact hS9⟩
    rotate_left
    · intro v; kernel_rfl
    · simp [freeF]
    apply walkedG_step _ (.int .u64 (A2 : Nat))
    rotate_left 2
    · intro v l9 wS hz hn hm hS
      rw [HSS.out] at hS
      have hc := HOUT.out wS
      have hfin := fun y (hO : Old wS y) => And.intro (freeM_quiet 5 (by decide) (by simp) HFC.out hS.1 hO (fun h => memW_old h hO) (fun h => memW_old h hO)) (fixM_only (G0 := fun _ => False) 5 (by decide) hS.2 (Only.of_below hO) (fun f => f))
      clear hS hm
      go_wp2_with fail
      (with_reducible refine hc.mono ?_)
      rintro e y ⟨rfl, hO⟩
      have hf := hfin y hO
      clear hfin hc hO
      go_wp2
      exact ⟨rfl, rfl, by rw [HSS.out]; exact hf⟩
    rotate_left
    · intro v; kernel_rfl
    · simp [freeF]
    apply walkedG_step _ (.int .i64 access)
    rotate_left 2
    · intro v l9 wS hz hn hm hS
      rw [HSS.out] at hS
      have hS9 := And.intro (freeM_other 6 (by decide) (by simp) hS.1) (fixM_other 6 (by decide) hS.2)
      obtain ⟨k9, -, -⟩ := of_block (freeM_block hS.1 HV.out.1 HV.out.2.1 HV.out.2.2)
      obtain ⟨k8, -, -⟩ := of_block (freeM_block hS.1 HL.out.1 HL.out.2.1 HL.out.2.2)
      clear hS hm
      go_wp2
      exact ⟨rfl, rfl, by rw [HSS.out]; exact hS9⟩
    rotate_left
    · intro v; kernel_rfl
    · simp [freeF]
    apply walkedG_step _ (.tuple #[.agg #[Value.int .i64 (ofr : Nat), .int .u64 (oip : Nat), .bool o1, .bool o2, .bool o3, .bool o4, .bool o5, .bool o6], .agg #[Value.int .i64 fst, .int .i64 fk, .int .i64 flv, .int .u64 (fad : Nat), .bool fsto], .int .i64 (nq : Nat)])
    rotate_left 2
    · intro v l9 wS hz hn hm hS
      rw [HSS.out] at hS
      have hc := HSE.out wS (freeM_before hn hS.1)
      have hfin := fun y (hM : IsMemW y (fun b => X b ∨ vb ≤ b) p frames wd (N + 20 + 4)) (ho : Only (fun b => ¬ (X b ∨ vb ≤ b)) wS y) => And.intro (freeM_call HFC.out hz hS.1 hM (ho.mono fun b _ f => .inl f)) (fixM_only 7 (by decide) hS.2 ho (fun f => f (.inr HNE.out.2.2.2.1)))
      clear hS hm
      go_wp2_with fail
      (with_reducible refine hc.mono ?_)
      rintro e y ⟨rfl, hM, ho⟩
      have hf := hfin y hM ho
      clear hfin hc hM ho
      go_wp2
      exact ⟨rfl, rfl, by rw [HSS.out]; exact hf⟩
    rotate_left
    · intro v; kernel_rfl
    · simp [freeF]
    apply walkedG_step _ (.tuple #[.agg #[Value.int .i64 (ofr : Nat), .int .u64 (oip : Nat), .bool o1, .bool o2, .bool o3, .bool o4, .bool o5, .bool o6], .agg #[Value.int .i64 fst, .int .i64 fk, .int .i64 flv, .int .u64 (fad : Nat), .bool fsto], .int .i64 (nq : Nat)])
    rotate_left 2
    · intro v l9 wS hz hn hm hS
      rw [HSS.out] at hS
      have hS9 := And.intro (freeM_other 8 (by decide) (by simp) hS.1) (fixM_other 8 (by decide) hS.2)
      obtain ⟨k9, -, -⟩ := of_block (freeM_block hS.1 HV.out.1 HV.out.2.1 HV.out.2.2)
      obtain ⟨k8, -, -⟩ := of_block (freeM_block hS.1 HL.out.1 HL.out.2.1 HL.out.2.2)
      clear hS hm
      go_wp2
      exact ⟨rfl, rfl, by rw [HSS.out]; exact hS9⟩
    rotate_left
    · intro v; kernel_rfl
    · simp [freeF]
    apply walkedG_step _ (.agg #[Value.int .i64 (ofr : Nat), .int .u64 (oip : Nat), .bool o1, .bool o2, .bool o3, .bool o4, .bool o5, .bool o6])
    rotate_left 2
    · intro v l9 wS hz hn hm hS
      rw [HSS.out] at hS
      have hS9 := And.intro (freeM_other 9 (by decide) (by simp) hS.1) (fixM_other 9 (by decide) hS.2)
      obtain ⟨k9, -, -⟩ := of_block (freeM_block hS.1 HV.out.1 HV.out.2.1 HV.out.2.2)
      obtain ⟨k8, -, -⟩ := of_block (freeM_block hS.1 HL.out.1 HL.out.2.1 HL.out.2.2)
      clear hS hm
      go_wp2
      exact ⟨rfl, rfl, by rw [HSS.out]; exact hS9⟩
    rotate_left
    · intro v; kernel_rfl
    · simp [freeF]
    apply walkedG_step _ (.agg #[Value.int .i64 fst, .int .i64 fk, .int .i64 flv, .int .u64 (fad : Nat), .bool fsto])
    rotate_left 2
    · intro v l9 wS hz hn hm hS
      rw [HSS.out] at hS
      have hS9 := And.intro (freeM_other 10 (by decide) (by simp) hS.1) (fixM_other 10 (by decide) hS.2)
      obtain ⟨k9, -, -⟩ := of_block (freeM_block hS.1 HV.out.1 HV.out.2.1 HV.out.2.2)
      obtain ⟨k8, -, -⟩ := of_block (freeM_block hS.1 HL.out.1 HL.out.2.1 HL.out.2.2)
      clear hS hm
      go_wp2
      exact ⟨rfl, rfl, by rw [HSS.out]; exact hS9⟩
    rotate_left
    · intro v; kernel_rfl
    · simp [freeF]
    apply walkedG_step _ (.int .i64 (nq : Nat))
    rotate_left 2
    · intro v l9 wS hz hn hm hS
      rw [HSS.out] at hS
      have hS9 := And.intro (freeM_other 11 (by decide) (by simp) hS.1) (fixM_other 11 (by decide) hS.2)
      obtain ⟨k9, -, -⟩ := of_block (freeM_block hS.1 HV.out.1 HV.out.2.1 HV.out.2.2)
      obtain ⟨k8, -, -⟩ := of_block (freeM_block hS.1 HL.out.1 HL.out.2.1 HL.out.2.2)
      clear hS hm
      go_wp2
      exact ⟨rfl, rfl, by rw [HSS.out]; exact hS9⟩
    rotate_left
    · intro v; kernel_rfl
    · simp [freeF]
    refine walkedG_free (by simp [freeF]) ?_
    (try simp only [Act.put, List.setIfInBounds_toArray, List.set_cons_succ, List.set_cons_zero])
    apply walkedG_step _ (undef)
    rotate_left 2
    · intro v l9 wS hz hn hm hS
      rw [HSS.out] at hS
      have hA : l9.getD 12 false = true := hm _ rfl ⟨12, .data⟩ (by simp) rfl
      obtain ⟨r, hvr, hr, hblk⟩ := hS.1.blk ⟨12, 13, #[Value.int .i64 0, .int .u64 0, .bool false, .bool false, .bool false, .bool false, .bool false, .bool false], #[Value.int .i64 (ofr : Nat), .int .u64 (oip : Nat), .bool o1, .bool o2, .bool o3, .bool o4, .bool o5, .bool o6], 65⟩ (by simp) hA
      have hvr : v 12 = .pointer (some ⟨r, 0, none⟩) := hvr
      have hfin := And.intro (freeM_store HFC.out hz ⟨12, 13, #[Value.int .i64 0, .int .u64 0, .bool false, .bool false, .bool false, .bool false, .bool false, .bool false], #[Value.int .i64 (ofr : Nat), .int .u64 (oip : Nat), .bool o1, .bool o2, .bool o3, .bool o4, .bool o5, .bool o6], 65⟩ (by simp) hA hvr hS.1) (fixM_only (G0 := fun b => b = r) 13 (by decide) hS.2 ((Only.refl _ wS).putB (.cells #[Value.int .i64 (ofr : Nat), .int .u64 (oip : Nat), .bool o1, .bool o2, .bool o3, .bool o4, .bool o5, .bool o6] 65) (fun _ => rfl)) (fun e => by have h1 := HF4.out.1; omega))
      have hblk : wS.heap[r]? = some (.cells (bif l9.getD 13 false then _ else _) _) := hblk
      rw [hn] at hblk
      clear hS hm
      refine wpList_store_whole rfl 65 _ _ rfl r [Value.int .i64 (ofr : Nat), .int .u64 (oip : Nat), .bool o1, .bool o2, .bool o3, .bool o4, .bool o5, .bool o6] hvr rfl 65 _ hblk (by kernel_rfl) rfl (by intro v hv; simp only [List.mem_cons, List.not_mem_nil, or_false] at hv; rcases hv with rfl | rfl | rfl | rfl | rfl | rfl | rfl | rfl <;> rfl) ?_
      exact ⟨rfl, rfl, by rw [HSS.out]; exact hfin⟩
    rotate_left
    · intro v; kernel_rfl
    · simp [freeF]
    apply walkedG_step _ (undef)
    rotate_left 2
    · intro v l9 wS hz hn hm hS
      rw [HSS.out] at hS
      have hblk := hS.2.blk
      have hfin := And.intro (freeM_fixed 14 (by decide) (by simp) HF4.out.1 (.inr rfl) (.cells #[Value.int .i64 fst, .int .i64 fk, .int .i64 flv, .int .u64 (fad : Nat), .bool fsto] 67) (fun h => memW_only h ((Only.refl (fun b => b = bf) wS).putB _ (fun _ => rfl)) (fun b hb e => by subst e; exact hb (.inr HNE.out.2.2.2.1))) (fun h => memW_only h ((Only.refl (fun b => b = bf) wS).putB _ (fun _ => rfl)) (fun b hb e => by subst e; exact hb (.inr HNE.out.2.2.2.1))) hS.1) (fixM_store hz (by decide) hS.2)
      rw [hn] at hblk
      clear hS hm
      refine wpList_store_whole rfl 67 _ _ rfl bf [Value.int .i64 fst, .int .i64 fk, .int .i64 flv, .int .u64 (fad : Nat), .bool fsto] rfl rfl 67 _ hblk (by kernel_rfl) rfl (by intro v hv; simp only [List.mem_cons, List.not_mem_nil, or_false] at hv; rcases hv with rfl | rfl | rfl | rfl | rfl <;> rfl) ?_
      exact ⟨rfl, rfl, by rw [HSS.out]; exact hfin⟩
    rotate_left
    · intro v; kernel_rfl
    · simp [freeF]
    apply walkedG_step _ (.int .i64 (nq : Nat))
    rotate_left 2
    · intro v l9 wS hz hn hm hS
      rw [HSS.out] at hS
      have hS9 := And.intro (freeM_other 15 (by decide) (by simp) hS.1) (fixM_other 15 (by decide) hS.2)
      obtain ⟨k9, -, -⟩ := of_block (freeM_block hS.1 HV.out.1 HV.out.2.1 HV.out.2.2)
      obtain ⟨k8, -, -⟩ := of_block (freeM_block hS.1 HL.out.1 HL.out.2.1 HL.out.2.2)
      clear hS hm
      go_wp2
      exact ⟨rfl, rfl, by rw [HSS.out]; exact hS9⟩
    rotate_left
    · intro v; kernel_rfl
    · simp [freeF]
    refine walkedG_nil fun v l9 y hz hall hS => ?_
    have b7 := hall 7 (by decide)
    have b12 := hall 12 (by decide)
    have b13 := hall 13 (by decide)
    have b14 := hall 14 (by decide)
    rw [HSS.out] at hS
    obtain ⟨hS, hT⟩ := hS
    obtain ⟨b17, hv17, h17, hb17⟩ := freeM_end hS ⟨12, 13, zOut, #[Value.int .i64 (ofr : Nat), .int .u64 (oip : Nat), .bool o1, .bool o2, .bool o3, .bool o4, .bool o5, .bool o6], 65⟩ (by simp) b12 b13
    replace hv17 : v 12 = .pointer (some ⟨b17, 0, none⟩) := hv17
    replace hb17 : y.heap[b17]? = some (.cells #[Value.int .i64 (ofr : Nat), .int .u64 (oip : Nat), .bool o1, .bool o2, .bool o3, .bool o4, .bool o5, .bool o6] 65) := hb17
    replace h17 : x4.heap.size ≤ b17 := h17
    have hKF := hT.blk
    rw [b14] at hKF
    replace hKF : y.heap[bf]? = some (.cells #[Value.int .i64 fst, .int .i64 fk, .int .i64 flv, .int .u64 (fad : Nat), .bool fsto] 67) := hKF
    have hmy := freeM_behind b7 hS
    have hK8 := freeM_block hS H8.out.1 H8.out.2.1 H8.out.2.2
    have hK9 := freeM_block hS H9.out.1 H9.out.2.1 H9.out.2.2
    have hKR := freeM_block hS HRR.out.1 HRR.out.2.1 HRR.out.2.2
    have hKL := freeM_block hS HL.out.1 HL.out.2.1 HL.out.2.2
    have hoy : Only (fun b => ¬ (X b ∨ vb ≤ b) ∨ vb ≤ b) w y := HM4.out.2.trans (hS.only.mono fun b _ f => f.elim .inl (fun e => .inr (by have := HNE.out.2.2.2.1; omega)))
    have hs4 : vb < x4.heap.size ∧ b8 < x4.heap.size ∧ b9 < x4.heap.size ∧ rp < x4.heap.size ∧ bl < x4.heap.size ∧ bf < x4.heap.size := ⟨HV.out.1, H8.out.1, H9.out.1, HRR.out.1, HL.out.1, HF4.out.1⟩
    rw [hv17]
    obtain ⟨kf, -, -⟩ := of_block hKF
    have HY := Lib.hid (And.intro hmy (And.intro hoy (And.intro hK8 (And.intro hK9 (And.intro hKR (And.intro hKL (And.intro hKF (And.intro hb17 (And.intro h17 hs4)))))))))
    clear hall b7 b12 b13 b14 hS hT hv17 h17 hb17 hKF hmy hK8 hK9 hKR hKL hoy hs4 HSE HOUT HFC HV HL H8 H9 HRR HF4 HM4 HSS hz l9
    show wpList _ _ _ [] _ _
    obtain ⟨wn, hwn⟩ : ∃ wn, ws + nq = wn := ⟨_, rfl⟩
    have hwi : (ws : Int) + (nq : Int) = (wn : Int) := by omega
    have HWN := Lib.hid hwn
    clear hwn
    by_cases hfk : fk = 0
    · have hfb : (fk == 0) = true := by simp [hfk]
      have HQ6 : Hid (q = (⟨ofr, oip, dr, dw, dx, o4, o5, o6⟩, ⟨fst, fk, flv, fad, fsto⟩, wn)) := Lib.hid (by rw [HQ9.out, if_pos hfk, HWN.out])
      clear hfk
      obtain ⟨kl, -, -⟩ := of_block HY.out.2.2.2.2.2.1
      go_upto_region 23 with (refine wpList_store_as rfl 46 _ _ rfl b17 2 [Value.bool dr, .bool dw, .bool dx] rfl rfl 65 _ #[Value.int .i64 (ofr : Nat), .int .u64 (oip : Nat), .bool dr, .bool dw, .bool dx, .bool o4, .bool o5, .bool o6] HY.out.2.2.2.2.2.2.2.1 (by kernel_rfl) (Nat.le_of_ble_eq_true rfl) (by intro v hv; simp only [List.mem_cons, List.not_mem_nil, or_false] at hv; rcases hv with rfl | rfl | rfl <;> rfl) rfl ?_)
      clear kf kl hfb
      obtain ⟨hmy, hoy, K8, K9, KR, -, KF, KO, h17, h1, h2, h3, h4, h5, h6⟩ := HY.out
      have j8 := (putB_other (.cells #[Value.int .i64 (ofr : Nat), .int .u64 (oip : Nat), .bool dr, .bool dw, .bool dx, .bool o4, .bool o5, .bool o6] 65) (show b17 ≠ b8 by omega)).trans K8
      have j9 := (putB_other (.cells #[Value.int .i64 (ofr : Nat), .int .u64 (oip : Nat), .bool dr, .bool dw, .bool dx, .bool o4, .bool o5, .bool o6] 65) (show b17 ≠ b9 by omega)).trans K9
      have jR := (putB_other (.cells #[Value.int .i64 (ofr : Nat), .int .u64 (oip : Nat), .bool dr, .bool dw, .bool dx, .bool o4, .bool o5, .bool o6] 65) (show b17 ≠ rp by omega)).trans KR
      have jF := (putB_other (.cells #[Value.int .i64 (ofr : Nat), .int .u64 (oip : Nat), .bool dr, .bool dw, .bool dx, .bool o4, .bool o5, .bool o6] 65) (show b17 ≠ bf by omega)).trans KF
      have jO := putB_same (.cells #[Value.int .i64 (ofr : Nat), .int .u64 (oip : Nat), .bool dr, .bool dw, .bool dx, .bool o4, .bool o5, .bool o6] 65) (lt_of_block KO)
      have jm := memW_only hmy ((Only.refl (fun b => b = b17) y).putB (.cells #[Value.int .i64 (ofr : Nat), .int .u64 (oip : Nat), .bool dr, .bool dw, .bool dx, .bool o4, .bool o5, .bool o6] 65) (fun _ => rfl)) (fun b hb e => by subst e; exact hb (.inr (by omega)))
      have jo := hoy.putB (b := b17) (.cells #[Value.int .i64 (ofr : Nat), .int .u64 (oip : Nat), .bool dr, .bool dw, .bool dx, .bool o4, .bool o5, .bool o6] 65) (fun _ => .inr (by omega))
      have hnn : b17 ≠ b8 ∧ b17 ≠ b9 := ⟨by omega, by omega⟩
      generalize putB y b17 (.cells #[Value.int .i64 (ofr : Nat), .int .u64 (oip : Nat), .bool dr, .bool dw, .bool dx, .bool o4, .bool o5, .bool o6] 65) = Y5 at *
      have HP := Lib.hid (And.intro jm (And.intro jo hnn))
      have K8 := j8
      have K9 := j9
      have KR := jR
      have KF := jF
      have KO := jO
      clear hmy hoy h17 h1 h2 h3 h4 h5 h6 jm jo hnn
      refine wp_region_staged (S := TwoS 8 9 b8 (.cells #[Value.int .i64 (ofr : Nat), .int .u64 (oip : Nat), .bool dr, .bool dw, .bool dx, .bool o4, .bool o5, .bool o6] 65) b9 (.cells #[Value.int .i64 fst, .int .i64 fk, .int .i64 flv, .int .u64 (fad : Nat), .bool fsto] 67) Y5.drew) 11 (by kernel_rfl) (by kernel_rfl) (by kernel_rfl) (by decide) (two_start _) ?_
      apply walkedS_cons
      · intro l9 wS hz hn hS
        have hS9 := two_other 0 (by decide) (by decide) hS
        have c9 := two_cell hS HP.out.2.2.1 HP.out.2.2.2 KO
        clear hS
        go_wp2
        exact ⟨rfl, rfl, hS9⟩
      · rfl
      (try simp only [Act.put, List.setIfInBounds_toArray, List.set_cons_succ, List.set_cons_zero])
      apply walkedS_cons
      · intro l9 wS hz hn hS
        have hS9 := two_other 1 (by decide) (by decide) hS
        have c9 := two_cell hS HNE.out.2.1 HNE.out.2.2.1 KF
        clear hS
        go_wp2
        exact ⟨rfl, rfl, hS9⟩
      · rfl
      (try simp only [Act.put, List.setIfInBounds_toArray, List.set_cons_succ, List.set_cons_zero])
      apply walkedS_cons
      · intro l9 wS hz hn hS
        have hS9 := two_other 2 (by decide) (by decide) hS
        clear hS
        go_wp2
        exact ⟨rfl, rfl, hS9⟩
      · rfl
      (try simp only [Act.put, List.setIfInBounds_toArray, List.set_cons_succ, List.set_cons_zero])
      apply walkedS_cons
      · intro l9 wS hz hn hS
        have hS9 := two_other 3 (by decide) (by decide) hS
        clear hS
        go_wp2
        exact ⟨rfl, rfl, hS9⟩
      · rfl
      (try simp only [Act.put, List.setIfInBounds_toArray, List.set_cons_succ, List.set_cons_zero])
      apply walkedS_cons
      · intro l9 wS hz hn hS
        have hS9 := two_other 4 (by decide) (by decide) hS
        clear hS
        go_wp2
        exact ⟨rfl, rfl, hS9⟩
      · rfl
      (try simp only [Act.put, List.setIfInBounds_toArray, List.set_cons_succ, List.set_cons_zero])
      apply walkedS_cons
      · intro l9 wS hz hn hS
        have hS9 := two_other 5 (by decide) (by decide) hS
        have c9 := two_cell hS (show rp ≠ b8 by have := HWB.out.1; omega) (show rp ≠ b9 by have := HWB.out.1; omega) KR
        clear hS
        go_wp2
        exact ⟨rfl, rfl, hS9⟩
      · rfl
      (try simp only [Act.put, List.setIfInBounds_toArray, List.set_cons_succ, List.set_cons_zero])
      apply walkedS_cons
      · intro l9 wS hz hn hS
        have hS9 := two_other 6 (by decide) (by decide) hS
        clear hS
        go_wp2
        exact ⟨rfl, rfl, hS9⟩
      · rfl
      (try simp only [Act.put, List.setIfInBounds_toArray, List.set_cons_succ, List.set_cons_zero])
      apply walkedS_cons
      · intro l9 wS hz hn hS
        have hS9 := two_other 7 (by decide) (by decide) hS
        clear hS
        go_wp2
        exact ⟨rfl, rfl, hS9⟩
      · rfl
      (try simp only [Act.put, List.setIfInBounds_toArray, List.set_cons_succ, List.set_cons_zero])
      apply walkedS_cons
      · intro l9 wS hz hn hS
        have hb9 := two_first hn hS HNE.out.1 K8
        have hd9 := two_done1 hz (by decide) (by decide) hn HNE.out.1 hS
        refine wpList_store_whole rfl 65 _ _ rfl b8 [Value.int .i64 (ofr : Nat), .int .u64 (oip : Nat), .bool dr, .bool dw, .bool dx, .bool o4, .bool o5, .bool o6] rfl rfl 65 _ hb9 (by kernel_rfl) rfl (by intro v hv; simp only [List.mem_cons, List.not_mem_nil, or_false] at hv; rcases hv with rfl | rfl | rfl | rfl | rfl | rfl | rfl | rfl <;> rfl) ?_
        exact ⟨rfl, rfl, hd9⟩
      · rfl
      (try simp only [Act.put, List.setIfInBounds_toArray, List.set_cons_succ, List.set_cons_zero])
      apply walkedS_cons
      · intro l9 wS hz hn hS
        have hb9 := two_second hn hS HNE.out.1 K9
        have hd9 := two_done2 hz (by decide) (by decide) hn hS
        refine wpList_store_whole rfl 67 _ _ rfl b9 [Value.int .i64 fst, .int .i64 fk, .int .i64 flv, .int .u64 (fad : Nat), .bool fsto] rfl rfl 67 _ hb9 (by kernel_rfl) rfl (by intro v hv; simp only [List.mem_cons, List.not_mem_nil, or_false] at hv; rcases hv with rfl | rfl | rfl | rfl | rfl <;> rfl) ?_
        exact ⟨rfl, rfl, hd9⟩
      · rfl
      (try simp only [Act.put, List.setIfInBounds_toArray, List.set_cons_succ, List.set_cons_zero])
      apply walkedS_cons
      · intro l9 wS hz hn hS
        have hS9 := two_other 10 (by decide) (by decide) hS
        clear hS
        go_wp2
        exact ⟨rfl, rfl, hS9⟩
      · rfl
      (try simp only [Act.put, List.setIfInBounds_toArray, List.set_cons_succ, List.set_cons_zero])
      apply walkedS_nil
      intro l9 wS hz hall hS
      obtain rfl := two_all (hall 8 (by decide)) (hall 9 (by decide)) hS
      clear hS hall hz l9
      show wpList _ _ _ [] _ _
      go_wp2
      have r8 : (putB (putB Y5.drew b8 (.cells #[Value.int .i64 (ofr : Nat), .int .u64 (oip : Nat), .bool dr, .bool dw, .bool dx, .bool o4, .bool o5, .bool o6] 65)) b9 (.cells #[Value.int .i64 fst, .int .i64 fk, .int .i64 flv, .int .u64 (fad : Nat), .bool fsto] 67)).heap[b8]? = some (.cells #[Value.int .i64 (ofr : Nat), .int .u64 (oip : Nat), .bool dr, .bool dw, .bool dx, .bool o4, .bool o5, .bool o6] 65) := by rw [putB_other _ (Ne.symm HNE.out.1)]; exact putB_same _ (lt_of_block (show Y5.drew.heap[b8]? = _ from K8))
      have r9 : (putB (putB Y5.drew b8 (.cells #[Value.int .i64 (ofr : Nat), .int .u64 (oip : Nat), .bool dr, .bool dw, .bool dx, .bool o4, .bool o5, .bool o6] 65)) b9 (.cells #[Value.int .i64 fst, .int .i64 fk, .int .i64 flv, .int .u64 (fad : Nat), .bool fsto] 67)).heap[b9]? = some (.cells #[Value.int .i64 fst, .int .i64 fk, .int .i64 flv, .int .u64 (fad : Nat), .bool fsto] 67) := putB_same _ (by rw [putB_size]; exact lt_of_block (show Y5.drew.heap[b9]? = _ from K9))
      obtain ⟨k8, -, -⟩ := of_block r8
      obtain ⟨k9, -, -⟩ := of_block r9
      refine bodyPost_ret (by simp [results, Try.results30, go_sem, k8, k9]; try rfl) rfl ?_
      exact retSec_end1 HB.out.1 HP.out.1 (by omega) HP.out.2.1 HNE.out.2.2.2.2.1 HNE.out.2.2.2.2.2 HQ6.out
    · have hfb : (fk == 0) = false := by simp [hfk]
      have HQ6 : Hid (q = (⟨ofr, oip, o1, o2, o3, o4, o5, o6⟩, ⟨fst, fk, flv, fad, fsto⟩, wn)) := Lib.hid (by rw [HQ9.out, if_neg hfk, HWN.out])
      clear hfk
      go_upto_region 23 with (fail)
      clear kf hfb
      obtain ⟨hmy, hoy, K8, K9, KR, -, KF, KO, h17, h1, h2, h3, h4, h5, h6⟩ := HY.out
      have hnn : b17 ≠ b8 ∧ b17 ≠ b9 := ⟨by omega, by omega⟩
      have HP := Lib.hid (And.intro hmy (And.intro hoy hnn))
      clear hmy hoy h17 h1 h2 h3 h4 h5 h6 hnn
      refine wp_region_staged (S := TwoS 8 9 b8 (.cells #[Value.int .i64 (ofr : Nat), .int .u64 (oip : Nat), .bool o1, .bool o2, .bool o3, .bool o4, .bool o5, .bool o6] 65) b9 (.cells #[Value.int .i64 fst, .int .i64 fk, .int .i64 flv, .int .u64 (fad : Nat), .bool fsto] 67) y.drew) 11 (by kernel_rfl) (by kernel_rfl) (by kernel_rfl) (by decide) (two_start _) ?_
      apply walkedS_cons
      · intro l9 wS hz hn hS
        have hS9 := two_other 0 (by decide) (by decide) hS
        have c9 := two_cell hS HP.out.2.2.1 HP.out.2.2.2 KO
        clear hS
        go_wp2
        exact ⟨rfl, rfl, hS9⟩
      · rfl
      (try simp only [Act.put, List.setIfInBounds_toArray, List.set_cons_succ, List.set_cons_zero])
      apply walkedS_cons
      · intro l9 wS hz hn hS
        have hS9 := two_other 1 (by decide) (by decide) hS
        have c9 := two_cell hS HNE.out.2.1 HNE.out.2.2.1 KF
        clear hS
        go_wp2
        exact ⟨rfl, rfl, hS9⟩
      · rfl
      (try simp only [Act.put, List.setIfInBounds_toArray, List.set_cons_succ, List.set_cons_zero])
      apply walkedS_cons
      · intro l9 wS hz hn hS
        have hS9 := two_other 2 (by decide) (by decide) hS
        clear hS
        go_wp2
        exact ⟨rfl, rfl, hS9⟩
      · rfl
      (try simp only [Act.put, List.setIfInBounds_toArray, List.set_cons_succ, List.set_cons_zero])
      apply walkedS_cons
      · intro l9 wS hz hn hS
        have hS9 := two_other 3 (by decide) (by decide) hS
        clear hS
        go_wp2
        exact ⟨rfl, rfl, hS9⟩
      · rfl
      (try simp only [Act.put, List.setIfInBounds_toArray, List.set_cons_succ, List.set_cons_zero])
      apply walkedS_cons
      · intro l9 wS hz hn hS
        have hS9 := two_other 4 (by decide) (by decide) hS
        clear hS
        go_wp2
        exact ⟨rfl, rfl, hS9⟩
      · rfl
      (try simp only [Act.put, List.setIfInBounds_toArray, List.set_cons_succ, List.set_cons_zero])
      apply walkedS_cons
      · intro l9 wS hz hn hS
        have hS9 := two_other 5 (by decide) (by decide) hS
        have c9 := two_cell hS (show rp ≠ b8 by have := HWB.out.1; omega) (show rp ≠ b9 by have := HWB.out.1; omega) KR
        clear hS
        go_wp2
        exact ⟨rfl, rfl, hS9⟩
      · rfl
      (try simp only [Act.put, List.setIfInBounds_toArray, List.set_cons_succ, List.set_cons_zero])
      apply walkedS_cons
      · intro l9 wS hz hn hS
        have hS9 := two_other 6 (by decide) (by decide) hS
        clear hS
        go_wp2
        exact ⟨rfl, rfl, hS9⟩
      · rfl
      (try simp only [Act.put, List.setIfInBounds_toArray, List.set_cons_succ, List.set_cons_zero])
      apply walkedS_cons
      · intro l9 wS hz hn hS
        have hS9 := two_other 7 (by decide) (by decide) hS
        clear hS
        go_wp2
        exact ⟨rfl, rfl, hS9⟩
      · rfl
      (try simp only [Act.put, List.setIfInBounds_toArray, List.set_cons_succ, List.set_cons_zero])
      apply walkedS_cons
      · intro l9 wS hz hn hS
        have hb9 := two_first hn hS HNE.out.1 K8
        have hd9 := two_done1 hz (by decide) (by decide) hn HNE.out.1 hS
        refine wpList_store_whole rfl 65 _ _ rfl b8 [Value.int .i64 (ofr : Nat), .int .u64 (oip : Nat), .bool o1, .bool o2, .bool o3, .bool o4, .bool o5, .bool o6] rfl rfl 65 _ hb9 (by kernel_rfl) rfl (by intro v hv; simp only [List.mem_cons, List.not_mem_nil, or_false] at hv; rcases hv with rfl | rfl | rfl | rfl | rfl | rfl | rfl | rfl <;> rfl) ?_
        exact ⟨rfl, rfl, hd9⟩
      · rfl
      (try simp only [Act.put, List.setIfInBounds_toArray, List.set_cons_succ, List.set_cons_zero])
      apply walkedS_cons
      · intro l9 wS hz hn hS
        have hb9 := two_second hn hS HNE.out.1 K9
        have hd9 := two_done2 hz (by decide) (by decide) hn hS
        refine wpList_store_whole rfl 67 _ _ rfl b9 [Value.int .i64 fst, .int .i64 fk, .int .i64 flv, .int .u64 (fad : Nat), .bool fsto] rfl rfl 67 _ hb9 (by kernel_rfl) rfl (by intro v hv; simp only [List.mem_cons, List.not_mem_nil, or_false] at hv; rcases hv with rfl | rfl | rfl | rfl | rfl <;> rfl) ?_
        exact ⟨rfl, rfl, hd9⟩
      · rfl
      (try simp only [Act.put, List.setIfInBounds_toArray, List.set_cons_succ, List.set_cons_zero])
      apply walkedS_cons
      · intro l9 wS hz hn hS
        have hS9 := two_other 10 (by decide) (by decide) hS
        clear hS
        go_wp2
        exact ⟨rfl, rfl, hS9⟩
      · rfl
      (try simp only [Act.put, List.setIfInBounds_toArray, List.set_cons_succ, List.set_cons_zero])
      apply walkedS_nil
      intro l9 wS hz hall hS
      obtain rfl := two_all (hall 8 (by decide)) (hall 9 (by decide)) hS
      clear hS hall hz l9
      show wpList _ _ _ [] _ _
      go_wp2
      have r8 : (putB (putB y.drew b8 (.cells #[Value.int .i64 (ofr : Nat), .int .u64 (oip : Nat), .bool o1, .bool o2, .bool o3, .bool o4, .bool o5, .bool o6] 65)) b9 (.cells #[Value.int .i64 fst, .int .i64 fk, .int .i64 flv, .int .u64 (fad : Nat), .bool fsto] 67)).heap[b8]? = some (.cells #[Value.int .i64 (ofr : Nat), .int .u64 (oip : Nat), .bool o1, .bool o2, .bool o3, .bool o4, .bool o5, .bool o6] 65) := by rw [putB_other _ (Ne.symm HNE.out.1)]; exact putB_same _ (lt_of_block (show y.drew.heap[b8]? = _ from K8))
      have r9 : (putB (putB y.drew b8 (.cells #[Value.int .i64 (ofr : Nat), .int .u64 (oip : Nat), .bool o1, .bool o2, .bool o3, .bool o4, .bool o5, .bool o6] 65)) b9 (.cells #[Value.int .i64 fst, .int .i64 fk, .int .i64 flv, .int .u64 (fad : Nat), .bool fsto] 67)).heap[b9]? = some (.cells #[Value.int .i64 fst, .int .i64 fk, .int .i64 flv, .int .u64 (fad : Nat), .bool fsto] 67) := putB_same _ (by rw [putB_size]; exact lt_of_block (show y.drew.heap[b9]? = _ from K9))
      obtain ⟨k8, -, -⟩ := of_block r8
      obtain ⟨k9, -, -⟩ := of_block r9
      refine bodyPost_ret (by simp [results, Try.results30, go_sem, k8, k9]; try rfl) rfl ?_
      exact retSec_end1 HB.out.1 HP.out.1 (by omega) HP.out.2.1 HNE.out.2.2.2.2.1 HNE.out.2.2.2.2.2 HQ6.out
end Go.Proofs.Ytlbehhbicmmdoaa
