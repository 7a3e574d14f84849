/- Contracts of the package vmid: what its methods return and what becomes of the numbers. -/
import Derived.Test.YtbnbchclbblbkaaSeq
namespace Go.Proofs.Ytbnbchclbblbkaa
set_option linter.unusedVariables false
set_option linter.unusedSimpArgs false
open Go.RowKit

/-- The cells of IDs. -/
def idsCells (n given turn : Int) (of : List Int) : Array Value := (.int .i64 n :: .int .i64 given :: .int .i64 turn :: of.map (.int .i64)).toArray

/-- Block p holds IDs. -/
def IsIDs (w : World) (p : Nat) (n given turn : Int) (of : List Int) : Prop := w.heap[p]? = some (.cells (idsCells n given turn of) 95) ∧ of.length = 256

theorem ids_of (n given turn : Int) (of : List Int) (g : Nat) : (idsCells n given turn of)[3 + g]? = (of[g]?).map (.int .i64) := by
  unfold idsCells
  rw [show 3 + g = g + 1 + 1 + 1 by omega]
  simp

theorem is_calls (g : Int) (w : World) : Calls Try.prog 50 #[.int .i64 g] w fun e w' => e = .returned (.bool (decide (1 ≤ g) && decide (g ≤ 255))) ∧ w = w' := by
  by_cases h : 1 ≤ g
  · by_cases h2 : g ≤ 255
    · go_enter Try.func50, Try.ntmps50
      go_wp2
      go_ret
      simp [h, h2]
    · go_enter Try.func50, Try.ntmps50
      go_wp2
      go_ret
      simp [h2]
  · go_enter Try.func50, Try.ntmps50
    go_wp2
    go_ret
    exact ⟨by rw [decide_eq_false (show ¬ 1 ≤ g by omega)]; rfl, rfl⟩

theorem is_yes (g : Int) (w : World) (h1 : 1 ≤ g) (h2 : g ≤ 255) : Calls Try.prog 50 #[.int .i64 g] w fun e w' => e = .returned (.bool true) ∧ w = w' :=
  (is_calls g w).mono fun e w' h => ⟨by rw [h.1]; simp [h1, h2], h.2⟩
theorem is_no (g : Int) (w : World) (h1 : ¬ (1 ≤ g ∧ g ≤ 255)) : Calls Try.prog 50 #[.int .i64 g] w fun e w' => e = .returned (.bool false) ∧ w = w' :=
  (is_calls g w).mono fun e w' h => ⟨by rw [h.1]; congr 2; rw [← Bool.not_eq_true]; simpa using h1, h.2⟩

set_option maxHeartbeats 400000 in
theorem turn_calls (p : Nat) (n given turn : Int) (of : List Int) (w : World) (hI : IsIDs w p n given turn of) :
    Calls Try.prog 31 #[.pointer (some ⟨p, 0, none⟩)] w (RetB w (.int .i64 turn)) := by
  have c2 : w.cell? ⟨p, 2, none⟩ = some (.int .i64 turn) := by rw [cell_of hI.1]; rfl
  go_enter Try.func31, Try.ntmps31
  go_wp2
  go_returns
  exact ⟨rfl, old_refl _⟩

set_option maxHeartbeats 400000 in
theorem has_calls (p : Nat) (n given turn : Int) (of : List Int) (g : Nat) (x : Int) (w : World) (hI : IsIDs w p n given turn of) (h1 : 1 ≤ g) (h2 : g ≤ 255) (hx : of[g]? = some x) :
    Calls Try.prog 29 #[.pointer (some ⟨p, 0, none⟩), .int .i64 g] w (RetB w (.tuple #[.int .i64 x, .bool (x != 0)])) := by
  have cg : w.cell? ⟨p, 3 + g, none⟩ = some (.int .i64 x) := by rw [cell_of hI.1, ids_of, hx]; rfl
  go_enter Try.func29, Try.ntmps29
  go_wp2_with (go_at_call 50; (with_reducible refine (is_yes _ _ (by omega) (by omega)).mono ?_); rintro e w' ⟨rfl, rfl⟩)
  refine wp_region_walked (S := Is w.drew) (by kernel_rfl) (by kernel_rfl) rfl ?_
  repeat (apply walked_cons; (first | exact gives_and rfl rfl rfl rfl | exact gives_or rfl rfl rfl rfl | (focus (intro wS hS; cases hS; go_wp2; exact ⟨rfl, rfl, rfl⟩; done)) | (focus (apply gives_guard; (focus (first | exact wanted_yes rfl rfl rfl | exact wanted_no rfl rfl rfl | exact wanted_yes2 rfl rfl rfl | exact wanted_no2 rfl rfl rfl)); (focus (intro hx9; (try simp only [Bool.not_eq_true', Bool.and_eq_true, Bool.not_not] at hx9); (try obtain ⟨hx9, hy9⟩ := hx9); (try subst hy9); (try subst hx9); (first | exact gives_and rfl rfl rfl rfl | exact gives_or rfl rfl rfl rfl | (intro wS hS; cases hS; go_wp2; exact ⟨rfl, rfl, rfl⟩; done))))))); rfl; (try simp only [Act.put, List.setIfInBounds_toArray, List.set_cons_succ, List.set_cons_zero]))
  apply walked_nil
  intro wS hS
  cases hS
  go_wp2
  go_ret2
  exact ⟨rfl, old_drew (old_refl _)⟩

set_option maxHeartbeats 400000 in
theorem has_none (p : Nat) (g : Int) (w : World) (h : ¬ (1 ≤ g ∧ g ≤ 255)) :
    Calls Try.prog 29 #[.pointer (some ⟨p, 0, none⟩), .int .i64 g] w (RetB w (.tuple #[.int .i64 0, .bool false])) := by
  have H := Lib.hid h
  clear h
  go_enter Try.func29, Try.ntmps29
  go_wp2_with (go_at_call 50; (with_reducible refine (is_no _ _ H.out).mono ?_); rintro e w' ⟨rfl, rfl⟩)
  go_ret2
  exact ⟨rfl, old_refl _⟩

def zeros256 : List Int := List.replicate 256 0

theorem zero_ids (n : Int) (w : World) : (Instr.build 95 #[(0, .int .i64 n)]).run Try.prog w = .ok (.agg (idsCells n 0 0 zeros256)) w := by kernel_rfl

theorem wpList_ids {ops : Array Oper} {rest : List Oper} {o : Oper} {a : Act} {w : World} {Q : Exit → Act → World → Prop} {x : Operand} {n : Int} (hg : o.guard = none) (ho : o.op = .build 95 #[(0, x)])
    (hx : a.eval x = .int .i64 n) (h : wpList Try.prog ops Q rest (a.put o.dst (.agg (idsCells n 0 0 zeros256))) w) : wpList Try.prog ops Q (o :: rest) a w := by
  unfold wpList
  rw [if_pos (by simp [Region.wanted, hg])]
  refine .inl ?_
  unfold Oper.wp
  have hr : (execOp a.eval o).run Try.prog w = .ok (.value (.agg (idsCells n 0 0 zeros256))) w := by
    unfold execOp
    rw [ho]
    have := zero_ids n w
    simp only [Sem.run_bind, Array.map, List.map_toArray, hx] at this ⊢
    simp [hx, this, Sem.run_bind]
  rw [hr]
  exact h

set_option maxHeartbeats 400000 in
set_option maxRecDepth 100000 in
theorem vmidNew_calls (n : Int) (w : World) (h1 : 1 ≤ n) (h2 : n ≤ 255) :
    Calls Try.prog 23 #[.int .i64 n] w fun e w' => e = .returned (.tuple #[.pointer (some ⟨w.heap.size, 0, none⟩), .int .i64 0]) ∧ w' = w.alloc (.cells (idsCells n 0 0 zeros256) 95) := by
  go_enter Try.func23, Try.ntmps23
  go_wp2_with ((with_reducible refine wpList_ids rfl rfl rfl ?_))
  go_ret2
  exact ⟨rfl, rfl⟩

set_option maxHeartbeats 400000 in
theorem vmidNew_none (n : Int) (w : World) (h : ¬ (1 ≤ n ∧ n ≤ 255)) :
    Calls Try.prog 23 #[.int .i64 n] w (RetB w (.tuple #[.pointer none, .int .i64 1])) := by
  by_cases h1 : n < 1
  · go_enter Try.func23, Try.ntmps23
    go_wp2
    go_ret2
    exact ⟨rfl, old_refl _⟩
  · have h2 : 255 < n := by omega
    clear h
    go_enter Try.func23, Try.ntmps23
    go_wp2
    go_ret2
    exact ⟨rfl, old_refl _⟩

theorem ids_set (n given turn : Int) (of : List Int) (g : Nat) (v : Int) : (idsCells n given turn of).setIfInBounds (3 + g) (.int .i64 v) = idsCells n given turn (of.set g v) := by
  unfold idsCells
  rw [show 3 + g = g + 1 + 1 + 1 by omega]
  simp [List.setIfInBounds_toArray, List.map_set]
theorem ids_set1 (n given turn : Int) (of : List Int) (v : Int) : (idsCells n given turn of).setIfInBounds 1 (.int .i64 v) = idsCells n v turn of := by
  unfold idsCells
  simp [List.setIfInBounds_toArray]

/-- What a method of IDs leaves: its answer, the numbers, and all else as it was. -/
def RetIDs (w : World) (p : Nat) (v : Value) (n given turn : Int) (of : List Int) (e : Ending) (w' : World) : Prop :=
  e = .returned v ∧ IsIDs w' p n given turn of ∧ Only (fun k => k = p) w w'

theorem set_same {of : List Int} {g : Nat} {x : Int} (hx : of[g]? = some x) : of.set g x = of := by
  apply List.ext_getElem?
  intro i
  rw [List.getElem?_set]
  by_cases h : g = i
  · subst h
    rw [hx]
    have := (List.getElem?_eq_some_iff.1 hx).1
    simp [this]
  · simp [h]

set_option maxHeartbeats 400000 in
theorem drop_calls (p : Nat) (n given turn : Int) (of : List Int) (g : Nat) (x : Int) (w : World) (hI : IsIDs w p n given turn of) (h1 : 1 ≤ g) (h2 : g ≤ 255) (hx : of[g]? = some x) :
    Calls Try.prog 27 #[.pointer (some ⟨p, 0, none⟩), .int .i64 g] w (RetIDs w p (.bool (x != 0)) n given turn (of.set g 0)) := by
  by_cases hx0 : x = 0
  · subst hx0
    go_enter Try.func27, Try.ntmps27
    go_wp2_with fail
    (with_reducible refine (has_calls p n given turn of g 0 _ hI h1 h2 hx).mono ?_)
    rintro e w1 ⟨rfl, hb1⟩
    go_wp2
    go_ret
    exact ⟨rfl, ⟨by rw [set_same hx]; exact keep_old hb1 hI.1, by rw [List.length_set]; exact hI.2⟩, (Only.of_below hb1).mono (fun i _ h => h.elim)⟩
  · have hxb : (x != 0) = true := by simp [hx0]
    go_enter Try.func27, Try.ntmps27
    go_wp2_with fail
    (with_reducible refine (has_calls p n given turn of g x _ hI h1 h2 hx).mono ?_)
    rintro e w1 ⟨rfl, hb1⟩
    have hI1 := keep_old hb1 hI.1
    have cg : w1.cell? ⟨p, 3 + g, none⟩ = some (.int .i64 x) := by rw [cell_of hI1, ids_of, hx]; rfl
    have fg : w1.frozen? ⟨p, 3 + g, none⟩ = false := frozen_of hI1 _
    have sg : ∀ v, w1.setCell ⟨p, 3 + g, none⟩ (.int .i64 v) = putB w1 p (.cells (idsCells n given turn (of.set g v)) 95) := fun v => by rw [set_of hI1, ids_set]
    have HI := Lib.hid hI
    clear hI
    go_wp2
    go_ret
    exact ⟨by simp [hx0], ⟨putB_same _ (lt_of_block hI1), by rw [List.length_set]; exact HI.out.2⟩, ((Only.of_below hb1).mono (fun i _ h => h.elim)).putB _ (fun _ => rfl)⟩

set_option maxHeartbeats 400000 in
theorem get_has (p : Nat) (n given turn : Int) (of : List Int) (g : Nat) (x : Int) (w : World) (hI : IsIDs w p n given turn of) (h1 : 1 ≤ g) (h2 : g ≤ 255) (hx : of[g]? = some x) (hx0 : x ≠ 0) :
    Calls Try.prog 25 #[.pointer (some ⟨p, 0, none⟩), .int .i64 g] w (RetIDs w p (.tuple #[.int .i64 x, .bool false, .int .i64 0]) n given turn of) := by
  have hxb : (x != 0) = true := by simp [hx0]
  have cg : w.cell? ⟨p, 3 + g, none⟩ = some (.int .i64 x) := by rw [cell_of hI.1, ids_of, hx]; rfl
  go_enter Try.func25, Try.ntmps25
  go_wp2
  go_step3
  go_wp2_with (go_at_call 50; (with_reducible refine (is_yes _ _ (by omega) (by omega)).mono ?_); rintro e w' ⟨rfl, rfl⟩)
  go_step3
  go_wp2
  rw [Exit.noGoto_ret]
  go_ret3
  exact ⟨rfl, hI, Only.refl _ _⟩

theorem wp_scope_count {P : Program} {c rest : Code} {a : Act} {w : World} {Q : Exit → Act → World → Prop} (l : Nat) (J : Nat → Act → World → Prop) (hf : findLabel c l = some rest)
    (first : c.wp P (Exit.jump l (fun a w => ∃ k, J k a w) Q) a w)
    (pass : ∀ k a w, J k a w → rest.wp P (Exit.jump l (fun a' w' => ∃ j, j < k ∧ J j a' w') Q) a w) : (Code.scope c).wp P Q a w := by
  intro b k cs
  have hg : gotoIn l (.inScope c :: k) = some (.code rest :: .inScope c :: k) := by simp [gotoIn, hf]
  have key : ∀ n a w, J n a w → ∃ e a' w', Q e a' w' ∧ Arrives P (lone (b.at a (.code rest :: .inScope c :: k)) cs w) b k cs e a' w' := by
    intro n
    induction n using Nat.strongRecOn with
    | _ n ih =>
      intro a w hJ
      obtain ⟨e, a₁, w₁, hq, harr⟩ := pass n a w hJ b (.inScope c :: k) cs
      cases e with
      | normal => exact ⟨.normal, a₁, w₁, hq, Steps.trans harr (.one step_inScope)⟩
      | exit id => exact ⟨.exit id, a₁, w₁, hq, fun k' hk => harr k' (by simp [exitTo, hk])⟩
      | goto l' =>
        obtain ⟨rfl, j, hlt, hJ'⟩ := hq
        obtain ⟨e₂, a₂, w₂, hq₂, harr₂⟩ := ih j hlt a₁ w₁ hJ'
        exact ⟨e₂, a₂, w₂, hq₂, .of_steps (harr _ hg) harr₂⟩
      | ret => exact ⟨_, a₁, w₁, hq, harr⟩
      | panic ch => exact ⟨_, a₁, w₁, hq, harr⟩
      | outgrown => exact ⟨_, a₁, w₁, hq, harr⟩
  obtain ⟨e, a₁, w₁, hq, harr⟩ := first b (.inScope c :: k) cs
  cases e with
  | normal => exact ⟨.normal, a₁, w₁, hq, .head step_scope (Steps.trans harr (.one step_inScope))⟩
  | exit id => exact ⟨.exit id, a₁, w₁, hq, fun k' hk => .head step_scope (harr k' (by simp [exitTo, hk]))⟩
  | goto l' =>
    obtain ⟨rfl, n, hJ'⟩ := hq
    obtain ⟨e₂, a₂, w₂, hq₂, harr₂⟩ := key n a₁ w₁ hJ'
    exact ⟨e₂, a₂, w₂, hq₂, .of_steps (.head step_scope (harr _ hg)) harr₂⟩
  | ret => exact ⟨_, a₁, w₁, hq, .of_steps (.one step_scope) harr⟩
  | panic ch => exact ⟨_, a₁, w₁, hq, .of_steps (.one step_scope) harr⟩
  | outgrown => exact ⟨_, a₁, w₁, hq, .of_steps (.one step_scope) harr⟩

/-- The frame behind the label: what is carried round, and whatever else. -/
def GetFrame (p g : Nat) (roll : Bool) (a : Act) : Prop := ∃ u2 u3 u7 u8 u9 u10 u11 u12 u13 u14 u15 u16 u17 u18 u19 u20 u21 u22 u23 u24 u25 u26 u27 u28 u29 u30 u31 u32 u33 u34 u35 u36 u37 u38 u39 u40 u41 u42 u43 u44 u45 u46 u47 u48 u49 u50 u51 u52 u53 u54 u55 u56 u57 u58 u59 u60 u61 u62 : Value,
  a = { tmps := #[.pointer (some ⟨p, 0, none⟩), .int .i64 g, u2, u3, .int .i64 0, .bool roll, .int .i64 0, u7, u8, u9, u10, u11, u12, u13, u14, u15, u16, u17, u18, u19, u20, u21, u22, u23, u24, u25, u26, u27, u28, u29, u30, u31, u32, u33, u34, u35, u36, u37, u38, u39, u40, u41, u42, u43, u44, u45, u46, u47, u48, u49, u50, u51, u52, u53, u54, u55, u56, u57, u58, u59, u60, u61, u62], defers := [] }

/-- What holds behind the label, with k passes still to come. -/
def GetJ (p : Nat) (n : Int) (g : Nat) (W : World) (ans : Int × Bool × Int × Int × List Int) (k : Nat) (a : Act) (w : World) : Prop :=
  ∃ (given turn : Int) (of : List Int) (roll : Bool), GetFrame p g roll a ∧ IsIDs w p n given turn of ∧ Only (fun k => k = p) W w ∧
    ((k = 0 ∧ ∃ x, x ≠ 0 ∧ of[g]? = some x ∧ ans = (x, roll, given, turn, of)) ∨
     (k = 1 ∧ of[g]? = some 0 ∧ 0 ≤ given ∧ given < n ∧ n ≤ 255 ∧ ans = (given + 1, roll, given + 1, turn, of.set g (given + 1))))

theorem zeros_get (g : Nat) (h : g < 256) : zeros256[g]? = some 0 := by
  unfold zeros256
  rw [List.getElem?_replicate, if_pos h]

theorem zero_ids2 (n t : Int) (w : World) : (Instr.build 95 #[(0, .int .i64 n), (2, .int .i64 t)]).run Try.prog w = .ok (.agg (idsCells n 0 t zeros256)) w := by kernel_rfl

theorem wpList_ids2 {ops : Array Oper} {rest : List Oper} {o : Oper} {a : Act} {w : World} {Q : Exit → Act → World → Prop} {x y : Operand} {n t : Int} (hg : o.guard = none) (ho : o.op = .build 95 #[(0, x), (2, y)])
    (hx : a.eval x = .int .i64 n) (hy : a.eval y = .int .i64 t) (h : wpList Try.prog ops Q rest (a.put o.dst (.agg (idsCells n 0 t zeros256))) w) : wpList Try.prog ops Q (o :: rest) a w := by
  unfold wpList
  rw [if_pos (by simp [Region.wanted, hg])]
  refine .inl ?_
  unfold Oper.wp
  have hr : (execOp a.eval o).run Try.prog w = .ok (.value (.agg (idsCells n 0 t zeros256))) w := by
    unfold execOp
    rw [ho]
    have := zero_ids2 n t w
    simp only [Sem.run_bind, Array.map, List.map_toArray, hx, hy] at this ⊢
    simp [hx, hy, this, Sem.run_bind]
  rw [hr]
  exact h

theorem put_of_row {w : World} {b : Nat} {C cs : Array Value} {t : TypeId} (h : w.heap[b]? = some (.cells C t)) : w.setRow b cs = putB w b (.cells cs t) := by
  unfold World.setRow putB
  rw [modify_eq_set _ _ _ _ h]

theorem ids_one (n given turn : Int) (of : List Int) : (idsCells n given turn of).all (·.oneCell') = true := by
  rw [Array.all_eq_true_iff_forall_mem]
  intro v hv
  simp only [idsCells, List.mem_toArray, List.mem_cons, List.mem_map] at hv
  rcases hv with rfl | rfl | rfl | ⟨x, _, rfl⟩ <;> rfl
theorem ids_size (n given turn : Int) (of : List Int) : (idsCells n given turn of).size = of.length + 3 := by simp [idsCells]

set_option maxHeartbeats 4000000 in
set_option maxRecDepth 100000 in
theorem get_calls (p : Nat) (n given turn : Int) (of : List Int) (g : Nat) (w : World) (ans : Int × Bool × Int × Int × List Int) (hI : IsIDs w p n given turn of) (h1 : 1 ≤ g) (h2 : g ≤ 255) (hn1 : 1 ≤ n)
    (ht0 : 0 ≤ turn) (ht : turn < 4611686018427387904)
    (hc : (∃ x, x ≠ 0 ∧ of[g]? = some x ∧ ans = (x, false, given, turn, of)) ∨
      (of[g]? = some 0 ∧ 0 ≤ given ∧ given < n ∧ n ≤ 255 ∧ ans = (given + 1, false, given + 1, turn, of.set g (given + 1))) ∨
      (of[g]? = some 0 ∧ n ≤ given ∧ n ≤ 255 ∧ ans = (0 + 1, true, 0 + 1, turn + 1, zeros256.set g (0 + 1)))) :
    Calls Try.prog 25 #[.pointer (some ⟨p, 0, none⟩), .int .i64 g] w (RetIDs w p (.tuple #[.int .i64 ans.1, .bool ans.2.1, .int .i64 0]) n ans.2.2.1 ans.2.2.2.1 ans.2.2.2.2) := by
  go_enter Try.func25, Try.ntmps25
  go_wp2
  refine wp_scope_count 0 (GetJ p n g w ans) rfl ?_ ?_
  · go_wp2_with (go_at_call 50; (with_reducible refine (is_yes _ _ (by omega) (by omega)).mono ?_); rintro e w' ⟨rfl, rfl⟩)
    go_step3
    rcases hc with ⟨x, hx0, hx, rfl⟩ | ⟨hx, h0, hlt, hn, rfl⟩ | ⟨hx, hge, hn, rfl⟩
    · have hxb : (x != 0) = true := by simp [hx0]
      have c0 : w.cell? ⟨p, 0, none⟩ = some (.int .i64 n) := by rw [cell_of hI.1]; rfl
      have c1 : w.cell? ⟨p, 1, none⟩ = some (.int .i64 given) := by rw [cell_of hI.1]; rfl
      have c2 : w.cell? ⟨p, 2, none⟩ = some (.int .i64 turn) := by rw [cell_of hI.1]; rfl
      have f1 : w.frozen? ⟨p, 1, none⟩ = false := frozen_of hI.1 _
      have s1 : ∀ v, w.setCell ⟨p, 1, none⟩ (.int .i64 v) = putB w p (.cells (idsCells n v turn of) 95) := fun v => by rw [set_of hI.1, ids_set1]
      have cg : w.cell? ⟨p, 3 + g, none⟩ = some (.int .i64 x) := by rw [cell_of hI.1, ids_of, hx]; rfl
      have zp := lt_of_block hI.1
      have HI := Lib.hid hI
      have HX := Lib.hid hx
      clear hI hx
      go_wp2
      simp only [Exit.jump]
      go_ret3
      exact ⟨rfl, HI.out, Only.refl _ _⟩
    ·
      have c0 : w.cell? ⟨p, 0, none⟩ = some (.int .i64 n) := by rw [cell_of hI.1]; rfl
      have c1 : w.cell? ⟨p, 1, none⟩ = some (.int .i64 given) := by rw [cell_of hI.1]; rfl
      have c2 : w.cell? ⟨p, 2, none⟩ = some (.int .i64 turn) := by rw [cell_of hI.1]; rfl
      have f1 : w.frozen? ⟨p, 1, none⟩ = false := frozen_of hI.1 _
      have s1 : ∀ v, w.setCell ⟨p, 1, none⟩ (.int .i64 v) = putB w p (.cells (idsCells n v turn of) 95) := fun v => by rw [set_of hI.1, ids_set1]
      have cg : w.cell? ⟨p, 3 + g, none⟩ = some (.int .i64 0) := by rw [cell_of hI.1, ids_of, hx]; rfl
      have zp := lt_of_block hI.1
      have HI := Lib.hid hI
      have HX := Lib.hid hx
      clear hI hx
      go_wp2
      refine wp_region_walked (S := Is w.drew) (by kernel_rfl) (by kernel_rfl) rfl ?_
      repeat (apply walked_cons; (first | exact gives_and rfl rfl rfl rfl | exact gives_or rfl rfl rfl rfl | (focus (intro wS hS; cases hS; go_wp2; exact ⟨rfl, rfl, rfl⟩; done)) | (focus (apply gives_guard; (focus (first | exact wanted_yes rfl rfl rfl | exact wanted_no rfl rfl rfl | exact wanted_yes2 rfl rfl rfl | exact wanted_no2 rfl rfl rfl)); (focus (intro hx9; (try simp only [Bool.not_eq_true', Bool.and_eq_true, Bool.not_not] at hx9); (try obtain ⟨hx9, hy9⟩ := hx9); (try subst hy9); (try subst hx9); (first | exact gives_and rfl rfl rfl rfl | exact gives_or rfl rfl rfl rfl | (intro wS hS; cases hS; go_wp2; exact ⟨rfl, rfl, rfl⟩; done))))))); rfl; (try simp only [Act.put, List.setIfInBounds_toArray, List.set_cons_succ, List.set_cons_zero]))
      apply walked_nil
      intro wS hS
      cases hS
      go_wp2
      have hI1 : (putB w p (.cells (idsCells n (given + 1) turn of) 95)).heap[p]? = _ := putB_same _ zp
      have hO1 : Only (fun k => k = p) w (putB w p (.cells (idsCells n (given + 1) turn of) 95)) := (Only.refl _ _).putB _ (fun _ => rfl)
      generalize putB w p (.cells (idsCells n (given + 1) turn of) 95) = W1 at *
      have c1' : W1.cell? ⟨p, 1, none⟩ = some (.int .i64 (given + 1)) := by rw [cell_of hI1]; rfl
      have cg' : W1.cell? ⟨p, 3 + g, none⟩ = some (.int .i64 0) := by rw [cell_of hI1, ids_of, HX.out]; rfl
      have fg' : W1.frozen? ⟨p, 3 + g, none⟩ = false := frozen_of hI1 _
      have sg' : ∀ v, W1.setCell ⟨p, 3 + g, none⟩ (.int .i64 v) = putB W1 p (.cells (idsCells n (given + 1) turn (of.set g v)) 95) := fun v => by rw [set_of hI1, ids_set]
      have z1 := lt_of_block hI1
      have HI1 := Lib.hid hI1
      clear hI1
      refine wp_region_tail (S := Is W1.drew.drew) 9 (by kernel_rfl) (by kernel_rfl) (by kernel_rfl) (by decide) rfl ?_
      repeat (apply walked_cons; (first | exact gives_and rfl rfl rfl rfl | exact gives_or rfl rfl rfl rfl | (focus (intro wS hS; cases hS; go_wp2; exact ⟨rfl, rfl, rfl⟩; done)) | (focus (apply gives_guard; (focus (first | exact wanted_yes rfl rfl rfl | exact wanted_no rfl rfl rfl | exact wanted_yes2 rfl rfl rfl | exact wanted_no2 rfl rfl rfl)); (focus (intro hx9; (try simp only [Bool.not_eq_true', Bool.and_eq_true, Bool.not_not] at hx9); (try obtain ⟨hx9, hy9⟩ := hx9); (try subst hy9); (try subst hx9); (first | exact gives_and rfl rfl rfl rfl | exact gives_or rfl rfl rfl rfl | (intro wS hS; cases hS; go_wp2; exact ⟨rfl, rfl, rfl⟩; done))))))); rfl; (try simp only [Act.put, List.setIfInBounds_toArray, List.set_cons_succ, List.set_cons_zero]))
      apply walked_nil
      intro wS hS
      cases hS
      show wpList _ _ _ [_] _ _
      go_wp2
      go_step3
      exact ⟨rfl, 0, given + 1, turn, of.set g (given + 1), false, ⟨_, _, _, _, _, _, _, _, _, _, _, _, _, _, _, _, _, _, _, _, _, _, _, _, _, _, _, _, _, _, _, _, _, _, _, _, _, _, _, _, _, _, _, _, _, _, _, _, _, _, _, _, _, _, _, _, _, _, rfl⟩, ⟨putB_same _ z1, by rw [List.length_set]; exact HI.out.2⟩, ((hO1.putB _ (fun _ => rfl)).drew).drew,
        .inl ⟨rfl, given + 1, by omega, by rw [List.getElem?_set_self (by rw [HI.out.2]; omega)], by first | rfl | assumption⟩⟩
    ·
      have c0 : w.cell? ⟨p, 0, none⟩ = some (.int .i64 n) := by rw [cell_of hI.1]; rfl
      have c1 : w.cell? ⟨p, 1, none⟩ = some (.int .i64 given) := by rw [cell_of hI.1]; rfl
      have c2 : w.cell? ⟨p, 2, none⟩ = some (.int .i64 turn) := by rw [cell_of hI.1]; rfl
      have f1 : w.frozen? ⟨p, 1, none⟩ = false := frozen_of hI.1 _
      have s1 : ∀ v, w.setCell ⟨p, 1, none⟩ (.int .i64 v) = putB w p (.cells (idsCells n v turn of) 95) := fun v => by rw [set_of hI.1, ids_set1]
      have cg : w.cell? ⟨p, 3 + g, none⟩ = some (.int .i64 0) := by rw [cell_of hI.1, ids_of, hx]; rfl
      have zp := lt_of_block hI.1
      have HI := Lib.hid hI
      have HX := Lib.hid hx
      clear hI hx
      go_wp2
      refine wp_region_walked (S := Is w.drew) (by kernel_rfl) (by kernel_rfl) rfl ?_
      repeat (apply walked_cons; (first | exact gives_and rfl rfl rfl rfl | exact gives_or rfl rfl rfl rfl | (focus (intro wS hS; cases hS; go_wp2; exact ⟨rfl, rfl, rfl⟩; done)) | (focus (apply gives_guard; (focus (first | exact wanted_yes rfl rfl rfl | exact wanted_no rfl rfl rfl | exact wanted_yes2 rfl rfl rfl | exact wanted_no2 rfl rfl rfl)); (focus (intro hx9; (try simp only [Bool.not_eq_true', Bool.and_eq_true, Bool.not_not] at hx9); (try obtain ⟨hx9, hy9⟩ := hx9); (try subst hy9); (try subst hx9); (first | exact gives_and rfl rfl rfl rfl | exact gives_or rfl rfl rfl rfl | (intro wS hS; cases hS; go_wp2; exact ⟨rfl, rfl, rfl⟩; done))))))); rfl; (try simp only [Act.put, List.setIfInBounds_toArray, List.set_cons_succ, List.set_cons_zero]))
      apply walked_nil
      intro wS hS
      cases hS
      go_wp2
      refine wp_region_tail (S := Is w.drew.drew) 12 (by kernel_rfl) (by kernel_rfl) (by kernel_rfl) (by decide) rfl ?_
      repeat (apply walked_cons; (first | exact gives_and rfl rfl rfl rfl | exact gives_or rfl rfl rfl rfl | (focus (intro wS hS; cases hS; go_wp2_with ((with_reducible refine wpList_ids2 rfl rfl rfl rfl ?_)); exact ⟨rfl, rfl, rfl⟩; done)) | (focus (apply gives_guard; (focus (first | exact wanted_yes rfl rfl rfl | exact wanted_no rfl rfl rfl | exact wanted_yes2 rfl rfl rfl | exact wanted_no2 rfl rfl rfl)); (focus (intro hx9; (try simp only [Bool.not_eq_true', Bool.and_eq_true, Bool.not_not] at hx9); (try obtain ⟨hx9, hy9⟩ := hx9); (try subst hy9); (try subst hx9); (first | exact gives_and rfl rfl rfl rfl | exact gives_or rfl rfl rfl rfl | (intro wS hS; cases hS; go_wp2_with ((with_reducible refine wpList_ids2 rfl rfl rfl rfl ?_)); exact ⟨rfl, rfl, rfl⟩; done))))))); rfl; (try simp only [Act.put, List.setIfInBounds_toArray, List.set_cons_succ, List.set_cons_zero]))
      apply walked_nil
      intro wS hS
      cases hS
      show wpList _ _ _ [_] _ _
      refine wpList_store_row rfl _ _ _ rfl p (idsCells n 0 (turn + 1) zeros256) rfl rfl _ (idsCells n given turn of) HI.out.1 (by kernel_rfl) (by rw [ids_size, ids_size, HI.out.2]; rfl) (ids_one _ _ _ _) ?_
      rw [put_of_row (w := w.drew.drew) HI.out.1]
      go_wp2
      go_step3
      exact ⟨rfl, 1, 0, turn + 1, zeros256, true, ⟨_, _, _, _, _, _, _, _, _, _, _, _, _, _, _, _, _, _, _, _, _, _, _, _, _, _, _, _, _, _, _, _, _, _, _, _, _, _, _, _, _, _, _, _, _, _, _, _, _, _, _, _, _, _, _, _, _, _, rfl⟩, ⟨putB_same _ zp, by simp [zeros256]⟩, ((Only.refl _ _).drew.drew).putB _ (fun _ => rfl),
        .inr ⟨rfl, zeros_get g (by omega), by omega, by omega, hn, rfl⟩⟩
  · rintro k a' w' ⟨given', turn', of', roll, ⟨u2, u3, u7, u8, u9, u10, u11, u12, u13, u14, u15, u16, u17, u18, u19, u20, u21, u22, u23, u24, u25, u26, u27, u28, u29, u30, u31, u32, u33, u34, u35, u36, u37, u38, u39, u40, u41, u42, u43, u44, u45, u46, u47, u48, u49, u50, u51, u52, u53, u54, u55, u56, u57, u58, u59, u60, u61, u62, rfl⟩, hI', ho, hcase⟩
    clear hc hI ht ht0
    rcases hcase with ⟨rfl, x, hx0, hx, rfl⟩ | ⟨rfl, hx, h0, hlt, hn, rfl⟩
    · have hxb : (x != 0) = true := by simp [hx0]
      have c0 : w'.cell? ⟨p, 0, none⟩ = some (.int .i64 n) := by rw [cell_of hI'.1]; rfl
      have c1 : w'.cell? ⟨p, 1, none⟩ = some (.int .i64 given') := by rw [cell_of hI'.1]; rfl
      have c2 : w'.cell? ⟨p, 2, none⟩ = some (.int .i64 turn') := by rw [cell_of hI'.1]; rfl
      have f1 : w'.frozen? ⟨p, 1, none⟩ = false := frozen_of hI'.1 _
      have s1 : ∀ v, w'.setCell ⟨p, 1, none⟩ (.int .i64 v) = putB w' p (.cells (idsCells n v turn' of') 95) := fun v => by rw [set_of hI'.1, ids_set1]
      have cg : w'.cell? ⟨p, 3 + g, none⟩ = some (.int .i64 x) := by rw [cell_of hI'.1, ids_of, hx]; rfl
      have zp := lt_of_block hI'.1
      have HI := Lib.hid hI'
      have HX := Lib.hid hx
      clear hI' hx
      go_wp2
      simp only [Exit.jump]
      go_ret3
      exact ⟨rfl, HI.out, ho⟩
    ·
      have c0 : w'.cell? ⟨p, 0, none⟩ = some (.int .i64 n) := by rw [cell_of hI'.1]; rfl
      have c1 : w'.cell? ⟨p, 1, none⟩ = some (.int .i64 given') := by rw [cell_of hI'.1]; rfl
      have c2 : w'.cell? ⟨p, 2, none⟩ = some (.int .i64 turn') := by rw [cell_of hI'.1]; rfl
      have f1 : w'.frozen? ⟨p, 1, none⟩ = false := frozen_of hI'.1 _
      have s1 : ∀ v, w'.setCell ⟨p, 1, none⟩ (.int .i64 v) = putB w' p (.cells (idsCells n v turn' of') 95) := fun v => by rw [set_of hI'.1, ids_set1]
      have cg : w'.cell? ⟨p, 3 + g, none⟩ = some (.int .i64 0) := by rw [cell_of hI'.1, ids_of, hx]; rfl
      have zp := lt_of_block hI'.1
      have HI := Lib.hid hI'
      have HX := Lib.hid hx
      clear hI' hx
      go_wp2
      refine wp_region_walked (S := Is w'.drew) (by kernel_rfl) (by kernel_rfl) rfl ?_
      repeat (apply walked_cons; (first | exact gives_and rfl rfl rfl rfl | exact gives_or rfl rfl rfl rfl | (focus (intro wS hS; cases hS; go_wp2; exact ⟨rfl, rfl, rfl⟩; done)) | (focus (apply gives_guard; (focus (first | exact wanted_yes rfl rfl rfl | exact wanted_no rfl rfl rfl | exact wanted_yes2 rfl rfl rfl | exact wanted_no2 rfl rfl rfl)); (focus (intro hx9; (try simp only [Bool.not_eq_true', Bool.and_eq_true, Bool.not_not] at hx9); (try obtain ⟨hx9, hy9⟩ := hx9); (try subst hy9); (try subst hx9); (first | exact gives_and rfl rfl rfl rfl | exact gives_or rfl rfl rfl rfl | (intro wS hS; cases hS; go_wp2; exact ⟨rfl, rfl, rfl⟩; done))))))); rfl; (try simp only [Act.put, List.setIfInBounds_toArray, List.set_cons_succ, List.set_cons_zero]))
      apply walked_nil
      intro wS hS
      cases hS
      go_wp2
      have hI1 : (putB w' p (.cells (idsCells n (given' + 1) turn' of') 95)).heap[p]? = _ := putB_same _ zp
      have hO1 : Only (fun k => k = p) w (putB w' p (.cells (idsCells n (given' + 1) turn' of') 95)) := (ho).putB _ (fun _ => rfl)
      generalize putB w' p (.cells (idsCells n (given' + 1) turn' of') 95) = W1 at *
      have c1' : W1.cell? ⟨p, 1, none⟩ = some (.int .i64 (given' + 1)) := by rw [cell_of hI1]; rfl
      have cg' : W1.cell? ⟨p, 3 + g, none⟩ = some (.int .i64 0) := by rw [cell_of hI1, ids_of, HX.out]; rfl
      have fg' : W1.frozen? ⟨p, 3 + g, none⟩ = false := frozen_of hI1 _
      have sg' : ∀ v, W1.setCell ⟨p, 3 + g, none⟩ (.int .i64 v) = putB W1 p (.cells (idsCells n (given' + 1) turn' (of'.set g v)) 95) := fun v => by rw [set_of hI1, ids_set]
      have z1 := lt_of_block hI1
      have HI1 := Lib.hid hI1
      clear hI1
      refine wp_region_tail (S := Is W1.drew.drew) 9 (by kernel_rfl) (by kernel_rfl) (by kernel_rfl) (by decide) rfl ?_
      repeat (apply walked_cons; (first | exact gives_and rfl rfl rfl rfl | exact gives_or rfl rfl rfl rfl | (focus (intro wS hS; cases hS; go_wp2; exact ⟨rfl, rfl, rfl⟩; done)) | (focus (apply gives_guard; (focus (first | exact wanted_yes rfl rfl rfl | exact wanted_no rfl rfl rfl | exact wanted_yes2 rfl rfl rfl | exact wanted_no2 rfl rfl rfl)); (focus (intro hx9; (try simp only [Bool.not_eq_true', Bool.and_eq_true, Bool.not_not] at hx9); (try obtain ⟨hx9, hy9⟩ := hx9); (try subst hy9); (try subst hx9); (first | exact gives_and rfl rfl rfl rfl | exact gives_or rfl rfl rfl rfl | (intro wS hS; cases hS; go_wp2; exact ⟨rfl, rfl, rfl⟩; done))))))); rfl; (try simp only [Act.put, List.setIfInBounds_toArray, List.set_cons_succ, List.set_cons_zero]))
      apply walked_nil
      intro wS hS
      cases hS
      show wpList _ _ _ [_] _ _
      go_wp2
      go_step3
      exact ⟨rfl, 0, by decide, given' + 1, turn', of'.set g (given' + 1), roll, ⟨_, _, _, _, _, _, _, _, _, _, _, _, _, _, _, _, _, _, _, _, _, _, _, _, _, _, _, _, _, _, _, _, _, _, _, _, _, _, _, _, _, _, _, _, _, _, _, _, _, _, _, _, _, _, _, _, _, _, rfl⟩, ⟨putB_same _ z1, by rw [List.length_set]; exact HI.out.2⟩, ((hO1.putB _ (fun _ => rfl)).drew).drew,
        .inl ⟨rfl, given' + 1, by omega, by rw [List.getElem?_set_self (by rw [HI.out.2]; omega)], by first | rfl | assumption⟩⟩

set_option maxHeartbeats 400000 in
theorem get_none (p : Nat) (g : Int) (w : World) (h : ¬ (1 ≤ g ∧ g ≤ 255)) :
    Calls Try.prog 25 #[.pointer (some ⟨p, 0, none⟩), .int .i64 g] w (RetB w (.tuple #[.int .i64 0, .bool false, .int .i64 1])) := by
  have H := Lib.hid h
  clear h
  go_enter Try.func25, Try.ntmps25
  go_wp2
  go_step3
  go_wp2_with (go_at_call 50; (with_reducible refine (is_no _ _ H.out).mono ?_); rintro e w' ⟨rfl, rfl⟩)
  rw [Exit.noGoto_ret]
  go_ret3
  exact ⟨rfl, old_refl _⟩

end Go.Proofs.Ytbnbchclbblbkaa
