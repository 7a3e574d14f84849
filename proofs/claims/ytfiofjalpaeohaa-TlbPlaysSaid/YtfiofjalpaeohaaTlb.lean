/- The package tlb: lines, places, what a TLB holds; New, set, of. -/
import Derived.Test.YtfiofjalpaeohaaCellsAt
import Derived.Test.YtfiofjalpaeohaaGoto
import Derived.Test.YtfiofjalpaeohaaStageW
namespace Go.Proofs.Ytfiofjalpaeohaa
set_option linter.unusedVariables false
set_option linter.unusedSimpArgs false
open Go.RowKit

/-- A line. -/
structure Ln where
  id : Int
  asid : Int
  vp : Nat
  ip : Nat
  fr : Int
  p0 : Bool
  p1 : Bool
  p2 : Bool
  s0 : Bool
  s1 : Bool
  s2 : Bool
deriving DecidableEq
def Ln.cells (l : Ln) : List Value := [.int .i64 l.id, .int .i64 l.asid, .int .u64 (l.vp : Nat), .int .u64 (l.ip : Nat), .int .i64 l.fr, .bool l.p0, .bool l.p1, .bool l.p2, .bool l.s0, .bool l.s1, .bool l.s2]
def ln0 : Ln := ⟨0, 0, 0, 0, 0, false, false, false, false, false, false⟩
/-- A place: a line, or none; what it had. -/
structure Pl where
  on : Bool
  l : Ln
def Pl.cells (p : Pl) : List Value := .bool p.on :: p.l.cells
def pl0 : Pl := ⟨false, ln0⟩
theorem pl_len (p : Pl) : p.cells.length = 12 := rfl
theorem ln_one (l : Ln) : ∀ v ∈ l.cells, v.oneCell' = true := by
  intro v hv
  simp only [Ln.cells, List.mem_cons, List.not_mem_nil, or_false] at hv
  rcases hv with rfl | rfl | rfl | rfl | rfl | rfl | rfl | rfl | rfl | rfl | rfl <;> rfl
theorem pl_one (p : Pl) : ∀ v ∈ p.cells, v.oneCell' = true := by
  intro v hv
  rcases List.mem_cons.1 hv with rfl | h
  · rfl
  · exact ln_one _ v h
abbrev placesC (t : List Pl) : List Value := flatC Pl.cells t

/-- Block p holds a TLB of n sets of wy places; gs: the block of its sets; bs: their blocks. -/
structure IsTlb (x : World) (p gs : Nat) (bs : List Nat) (n wy : Nat) (T : List (List Pl)) : Prop where
  hp : x.heap[p]? = some (.cells #[.slice (some ⟨gs, 0, none⟩) n n] 112)
  hg : x.heap[gs]? = some (.cells (bs.map fun b => Value.slice (some ⟨b, 0, none⟩) wy wy).toArray 113)
  lb : bs.length = n
  lT : T.length = n
  h1 : 1 ≤ n ∧ n ≤ 64
  h2 : 1 ≤ wy ∧ wy ≤ 8
  set_ : ∀ (i b : Nat) (t : List Pl), bs[i]? = some b → T[i]? = some t → t.length = wy ∧ x.heap[b]? = some (.cells (placesC t).toArray 120)
  nd : bs.Nodup
  np : p ∉ bs
  ng : gs ∉ bs
  pg : p ≠ gs
section
variable {x y : World} {p gs : Nat} {bs : List Nat} {n wy : Nat} {T : List (List Pl)}
theorem tlb_only {F : Nat → Prop} (h : IsTlb x p gs bs n wy T) (ho : Only F x y) (hp : ¬ F p) (hg : ¬ F gs) (hb : ∀ b ∈ bs, ¬ F b) : IsTlb y p gs bs n wy T :=
  { h with hp := keep_only ho hp h.hp, hg := keep_only ho hg h.hg, set_ := fun i b t hi ht => ⟨(h.set_ i b t hi ht).1, keep_only ho (hb b (List.mem_of_getElem? hi)) (h.set_ i b t hi ht).2⟩ }
theorem tlb_old (h : IsTlb x p gs bs n wy T) (ho : Old x y) : IsTlb y p gs bs n wy T := tlb_only h (Only.of_below ho) (fun f => f) (fun f => f) (fun _ _ f => f)
theorem tlb_lt (h : IsTlb x p gs bs n wy T) : p < x.heap.size ∧ gs < x.heap.size ∧ ∀ b ∈ bs, b < x.heap.size := by
  refine ⟨lt_of_block h.hp, lt_of_block h.hg, fun b hb => ?_⟩
  obtain ⟨i, hi⟩ := List.getElem?_of_mem hb
  have hiT : i < T.length := by rw [h.lT, ← h.lb]; exact (List.getElem?_eq_some_iff.1 hi).1
  exact lt_of_block (h.set_ i b T[i] hi (List.getElem?_eq_getElem hiT)).2
/-- A set's places turned. -/
theorem tlb_put (h : IsTlb x p gs bs n wy T) {i b : Nat} (hi : bs[i]? = some b) (t' : List Pl) (ht : t'.length = wy) :
    IsTlb (putB x b (.cells (placesC t').toArray 120)) p gs bs n wy (T.set i t') := by
  have hil : i < bs.length := (List.getElem?_eq_some_iff.1 hi).1
  have hiT : i < T.length := by rw [h.lT, ← h.lb]; exact hil
  have hbm : b ∈ bs := List.mem_of_getElem? hi
  have hb : b < x.heap.size := lt_of_block (h.set_ i b T[i] hi (List.getElem?_eq_getElem hiT)).2
  refine { h with hp := ?_, hg := ?_, lT := by rw [List.length_set]; exact h.lT, set_ := fun j c u hj hu => ?_ }
  · rw [putB_other _ (fun e => h.np (by rw [← e]; exact hbm))]; exact h.hp
  · rw [putB_other _ (fun e => h.ng (by rw [← e]; exact hbm))]; exact h.hg
  · rw [List.getElem?_set] at hu
    by_cases hij : i = j
    · subst hij
      rw [hi] at hj
      obtain rfl := Option.some.inj hj
      rw [if_pos rfl, if_pos hiT] at hu
      obtain rfl := Option.some.inj hu
      exact ⟨ht, putB_same _ hb⟩
    · rw [if_neg hij] at hu
      obtain ⟨a1, a2⟩ := h.set_ j c u hj hu
      refine ⟨a1, ?_⟩
      rw [putB_other _ (fun e => ?_)]
      · exact a2
      · subst e
        have hjl : j < bs.length := (List.getElem?_eq_some_iff.1 hj).1
        have e1 : bs[i] = b := by rw [List.getElem?_eq_getElem hil] at hi; exact Option.some.inj hi
        have e2 : bs[j] = b := by rw [List.getElem?_eq_getElem hjl] at hj; exact Option.some.inj hj
        exact hij ((List.getElem_inj h.nd).1 (e1.trans e2.symm))
end

/-- of. -/
theorem of_calls (l : Ln) (w : World) : Calls Try.prog 71 #[.agg l.cells.toArray] w (RetB w (.agg #[.int .i64 l.id, .int .i64 l.asid, .int .u64 (l.vp : Nat)])) := by
  obtain ⟨id, asid, vp, ip, fr, p0, p1, p2, s0, s1, s2⟩ := l
  show Calls _ _ #[.agg #[.int .i64 id, .int .i64 asid, .int .u64 (vp : Nat), .int .u64 (ip : Nat), .int .i64 fr, .bool p0, .bool p1, .bool p2, .bool s0, .bool s1, .bool s2]] w _
  go_enter Try.func71, Try.ntmps71
  go_wp2
  have k9 : ∀ i, ((w.alloc (.cells #[.int .i64 id, .int .i64 asid, .int .u64 (vp : Nat), .int .u64 (ip : Nat), .int .i64 fr, .bool p0, .bool p1, .bool p2, .bool s0, .bool s1, .bool s2] 64)).alloc (.cells #[.int .i64 id, .int .i64 asid, .int .u64 (vp : Nat)] 117)).cell? ⟨w.heap.size + 1, i, none⟩ = #[Value.int .i64 id, .int .i64 asid, .int .u64 (vp : Nat)][i]? := by
    have := cell_of (new_block (w.alloc (.cells #[.int .i64 id, .int .i64 asid, .int .u64 (vp : Nat), .int .u64 (ip : Nat), .int .i64 fr, .bool p0, .bool p1, .bool p2, .bool s0, .bool s1, .bool s2] 64)) (.cells #[.int .i64 id, .int .i64 asid, .int .u64 (vp : Nat)] 117))
    rwa [World.size_alloc] at this
  refine bodyPost_ret (by simp [results, Try.results71, go_sem, k9]; try rfl) rfl ?_
  exact ⟨rfl, old_alloc (old_alloc (old_refl w) _) _⟩
/-- set: the places of a page's set. -/
theorem set_calls (x : World) (p gs : Nat) (bs : List Nat) (n wy : Nat) (T : List (List Pl)) (vp : Nat) (h : IsTlb x p gs bs n wy T) (i b : Nat) (hi : i = vp % n) (hb : bs[i]? = some b) :
    Calls Try.prog 69 #[.pointer (some ⟨p, 0, none⟩), .int .u64 (vp : Nat)] x (RetB x (.slice (some ⟨b, 0, none⟩) wy wy)) := by
  have c0 : x.cell? ⟨p, 0, none⟩ = some (.slice (some ⟨gs, 0, none⟩) n n) := by rw [cell_of h.hp]; rfl
  have c1 : x.cell? ⟨gs, i, none⟩ = some (.slice (some ⟨b, 0, none⟩) wy wy) := by rw [cell_of h.hg]; simp [hb]
  have hn : ¬ (n : Int) = 0 := by have := h.h1.1; omega
  have hm : (vp : Int) % (n : Int) = (i : Int) := by rw [hi]; rfl
  have hnw : IntKind.u64.wrap (n : Int) = n := IntWalk.u64_in _ (by have := h.h1.2; omega)
  have hil : i < n := by rw [hi]; exact Nat.mod_lt _ (by have := h.h1.1; omega)
  have n1 : (1 : Int) ≤ n := by have := h.h1.1; omega
  have n64 : (n : Int) ≤ 64 := by have := h.h1.2; omega
  clear h hi hb
  go_enter Try.func69, Try.ntmps69
  go_wp2
  refine wp_region_walked (S := Is x.drew) (by kernel_rfl) (by kernel_rfl) rfl ?_
  repeat (apply walked_cons; (first | exact gives_and rfl rfl rfl rfl | exact gives_or rfl rfl rfl rfl | (focus (intro wS hS; cases hS; go_wp2; exact ⟨rfl, rfl, rfl⟩; done)) | (focus (apply gives_guard; (focus (first | exact wanted_yes rfl rfl rfl | exact wanted_no rfl rfl rfl | exact wanted_yes2 rfl rfl rfl | exact wanted_no2 rfl rfl rfl)); (focus (intro hx9; (try simp only [Bool.not_eq_true', Bool.and_eq_true, Bool.not_not] at hx9); (try obtain ⟨hx9, hy9⟩ := hx9); (try subst hy9); (try subst hx9); (first | exact gives_and rfl rfl rfl rfl | exact gives_or rfl rfl rfl rfl | (intro wS hS; cases hS; go_wp2; exact ⟨rfl, rfl, rfl⟩; done))))))); rfl; (try simp only [Act.put, List.setIfInBounds_toArray, List.set_cons_succ, List.set_cons_zero]))
  apply walked_nil
  intro wS hS
  cases hS
  go_wp2
  go_ret
  exact ⟨rfl, old_drew (old_refl _)⟩
end Go.Proofs.Ytfiofjalpaeohaa
