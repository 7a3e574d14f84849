/- The statement VmidOnce: its walk. -/
import Derived.Test.YtbnbchclbblbkaaVmidLaw
import Derived.Test.YtbnbchclbblbkaaStage
import Derived.Test.YtbnbchclbblbkaaArgs
import Derived.Deep.OwnRows
namespace Go.Proofs.Ytbnbchclbblbkaa
set_option linter.unusedVariables false
set_option linter.unusedSimpArgs false
open Go.RowKit

def intsCells (l : List Int) : Array Value := (l.map (.int .i64)).toArray
def boolsCells (l : List Bool) : Array Value := (l.map .bool).toArray
def zeros41 : List Int := List.replicate 41 0

theorem ints_get (l : List Int) (i : Nat) : (intsCells l)[i]? = (l[i]?).map (.int .i64) := by simp [intsCells]
theorem bools_get (l : List Bool) (i : Nat) : (boolsCells l)[i]? = (l[i]?).map .bool := by simp [boolsCells]
theorem ints_set (l : List Int) (i : Nat) (v : Int) : (intsCells l).setIfInBounds i (.int .i64 v) = intsCells (l.set i v) := by simp [intsCells, List.setIfInBounds_toArray, List.map_set]
theorem bools_set (l : List Bool) (i : Nat) (v : Bool) : (boolsCells l).setIfInBounds i (.bool v) = boolsCells (l.set i v) := by simp [boolsCells, List.setIfInBounds_toArray, List.map_set]

theorem make41 (w : World) : (Instr.makeSlice 55 (.int .i64 41) (.int .i64 41)).run Try.prog w = .ok (.slice (some ⟨w.heap.size, 0, none⟩) 41 41) (w.alloc (.cells (intsCells zeros41) 3)) := by kernel_rfl

theorem bool_info : (Try.prog.info? 4).map (fun i => (i.zero, i.size, i.bytes)) = some (some (.bool false), 1, 1) := by kernel_rfl

theorem made_bools (n : Nat) : madeCells #[.bool false] n = boolsCells (List.replicate n false) := by
  apply Array.ext
  · rw [size_madeCells]; simp [boolsCells]
  · intro i h1 h2
    simp [madeCells, boolsCells, Nat.mod_one]

theorem makeN (n : Nat) (h : n ≤ 20) (w : World) : (Instr.makeSlice 59 (.int .i64 (n : Int)) (.int .i64 (n : Int))).run Try.prog w = .ok (.slice (some ⟨w.heap.size, 0, none⟩) n n) (w.alloc (.cells (boolsCells (List.replicate n false)) 4)) := by
  rw [← made_bools]
  exact run_make_row' 59 4 (.bool false) 1 Try.underlying59 bool_info rfl .i64 .i64 n (by omega) (by omega) w

/-- What holds between two steps. -/
def InvO (N : Nat) (given turn : Int) (of hd : List Int) (gv : List Bool) (i : Int) : Prop :=
  0 ≤ given ∧ given ≤ N ∧ 0 ≤ turn ∧ turn ≤ i ∧ hd.length = 41 ∧ gv.length = N ∧ (∀ g : Nat, 1 ≤ g → g < 41 → ∃ x : Int, 0 ≤ x ∧ x ≤ N ∧ of[g]? = some x ∧ hd[g]? = some x) ∧
    ∀ j : Nat, j < N → gv[j]? = some (decide ((j : Int) < given))

def OnceAt (N p gb hb : Nat) (w : World) (given turn : Int) (of hd : List Int) (gv : List Bool) (wr : World) : Prop :=
  IsIDs wr p N given turn of ∧ wr.heap[hb]? = some (.cells (intsCells hd) 3) ∧ wr.heap[gb]? = some (.cells (boolsCells gv) 4) ∧ Old w wr ∧ w.heap.size ≤ hb ∧ hb ≠ p ∧ hb ≠ gb

def OnceRel (N p gb : Nat) (w : World) (had i : Value) (wr : World) : Prop :=
  ∃ (k hb : Nat) (given turn : Int) (of hd : List Int) (gv : List Bool), i = .int .i64 k ∧ k ≤ 200 ∧ had = .slice (some ⟨hb, 0, none⟩) 41 41 ∧ OnceAt N p gb hb w given turn of hd gv wr ∧ InvO N given turn of hd gv k

theorem inv_first (N : Nat) : InvO N 0 0 zeros256 zeros41 (List.replicate N false) 0 := by
  refine ⟨by omega, by omega, by omega, by omega, by unfold zeros41; exact List.length_replicate, List.length_replicate, fun g h1 h2 => ⟨0, by omega, by omega, zeros_get g (by omega), ?_⟩, fun j hj => ?_⟩
  · unfold zeros41
    rw [List.getElem?_replicate, if_pos h2]
  · rw [List.getElem?_replicate, if_pos hj, decide_eq_false (by omega)]

/-- What Get may answer, its parts by name. -/
theorem get_once (g p : Nat) (n given turn : Int) (of : List Int) (w : World) (id : Int) (roll : Bool) (given' turn' : Int) (of' : List Int) (hI : IsIDs w p n given turn of) (h1 : 1 ≤ g) (h2 : g ≤ 255) (hn1 : 1 ≤ n)
    (ht0 : 0 ≤ turn) (ht : turn < 4611686018427387904)
    (h : (∃ x, x ≠ 0 ∧ of[g]? = some x ∧ (id, roll, given', turn', of') = (x, false, given, turn, of)) ∨
      (of[g]? = some 0 ∧ 0 ≤ given ∧ given < n ∧ n ≤ 255 ∧ (id, roll, given', turn', of') = (given + 1, false, given + 1, turn, of.set g (given + 1))) ∨
      (of[g]? = some 0 ∧ n ≤ given ∧ n ≤ 255 ∧ (id, roll, given', turn', of') = (0 + 1, true, 0 + 1, turn + 1, zeros256.set g (0 + 1)))) :
    Calls Try.prog 25 #[.pointer (some ⟨p, 0, none⟩), .int .i64 g] w (RetIDs w p (.tuple #[.int .i64 id, .bool roll, .int .i64 0]) n given' turn' of') :=
  get_calls p n given turn of g w (id, roll, given', turn', of') hI h1 h2 hn1 ht0 ht h

theorem guest_of (y : Int) : ∃ g : Nat, 1 ≤ g ∧ g ≤ 40 ∧ wrap64 (1 + (wrap64 (y.tmod 40 + 40)).tmod 40) = (g : Int) := by
  have a1 := Int.lt_tmod_of_pos y (b := 40) (by decide)
  have a2 := Int.tmod_lt_of_pos y (b := 40) (by decide)
  rw [IntWalk.wrap64_in (y.tmod 40 + 40) (by omega)]
  have b1 := Int.tmod_nonneg (a := y.tmod 40 + 40) 40 (by omega)
  have b2 := Int.tmod_lt_of_pos (y.tmod 40 + 40) (b := 40) (by decide)
  rw [IntWalk.wrap64_in _ (by omega)]
  exact ⟨(1 + (y.tmod 40 + 40).tmod 40).toNat, by omega, by omega, by omega⟩

section
variable {N p gb hb : Nat} {w x y : World} {given turn : Int} {of hd : List Int} {gv : List Bool}

theorem once_drew (h : OnceAt N p gb hb w given turn of hd gv x) : OnceAt N p gb hb w given turn of hd gv x.drew := ⟨h.1, h.2.1, h.2.2.1, old_drew h.2.2.2.1, h.2.2.2.2⟩
theorem once_old (h : OnceAt N p gb hb w given turn of hd gv x) (ho : Old x y) : OnceAt N p gb hb w given turn of hd gv y :=
  ⟨ids_old ho h.1, keep_old ho h.2.1, keep_old ho h.2.2.1, old_then h.2.2.2.1 ho, h.2.2.2.2⟩
theorem once_ids {given' turn' : Int} {of' : List Int} (h : OnceAt N p gb hb w given turn of hd gv x) (hp : w.heap.size ≤ p) (hg : gb ≠ p) (hI : IsIDs y p N given' turn' of') (ho : Only (fun k => k = p) x y) : OnceAt N p gb hb w given' turn' of' hd gv y :=
  ⟨hI, keep_only ho h.2.2.2.2.2.1 h.2.1, keep_only ho hg h.2.2.1, old_only h.2.2.2.1 ho hp, h.2.2.2.2⟩
theorem once_had {hd' : List Int} (h : OnceAt N p gb hb w given turn of hd gv x) : OnceAt N p gb hb w given turn of hd' gv (putB x hb (.cells (intsCells hd') 3)) :=
  ⟨⟨by rw [putB_other _ h.2.2.2.2.2.1]; exact h.1.1, h.1.2⟩, putB_same _ (lt_of_block h.2.1), by rw [putB_other _ h.2.2.2.2.2.2]; exact h.2.2.1, old_put h.2.2.2.1 _ h.2.2.2.2.1, h.2.2.2.2⟩
theorem once_given {gv' : List Bool} (h : OnceAt N p gb hb w given turn of hd gv x) (hg : gb ≠ p) (hw : w.heap.size ≤ gb) : OnceAt N p gb hb w given turn of hd gv' (putB x gb (.cells (boolsCells gv') 4)) :=
  ⟨⟨by rw [putB_other _ hg]; exact h.1.1, h.1.2⟩, by rw [putB_other _ (fun e => h.2.2.2.2.2.2 e.symm)]; exact h.2.1, putB_same _ (lt_of_block h.2.2.1), old_put h.2.2.2.1 _ hw, h.2.2.2.2⟩

theorem once_make (h : OnceAt N p gb hb w given turn of hd gv x) : OnceAt N p gb x.heap.size w given turn of zeros41 gv (x.alloc (.cells (intsCells zeros41) 3)) :=
  ⟨⟨keep_alloc _ h.1.1, h.1.2⟩, new_block _ _, keep_alloc _ h.2.2.1, old_alloc h.2.2.2.1 _, h.2.2.2.1.size, Nat.ne_of_gt (lt_of_block h.1.1), Nat.ne_of_gt (lt_of_block h.2.2.1)⟩

/-- While the roll unmarks what was given. -/
def Unmark (N j : Nat) (gv : List Bool) : Prop := gv.length = N ∧ (∀ i : Nat, i < j → gv[i]? = some false) ∧ ∀ i : Nat, j ≤ i → i < N → gv[i]? = some true
theorem unmark_next {j : Nat} (h : Unmark N j gv) (hj : j < N) : Unmark N (j + 1) (gv.set j false) := by
  obtain ⟨a, b, c⟩ := h
  refine ⟨by rw [List.length_set]; exact a, fun i hi => ?_, fun i h1 h2 => ?_⟩
  · by_cases e : j = i
    · subst e; exact List.getElem?_set_self (by omega)
    · rw [List.getElem?_set_ne e]; exact b i (by omega)
  · rw [List.getElem?_set_ne (by omega)]; exact c i (by omega) h2
theorem unmark_end (h : Unmark N N gv) : gv = List.replicate N false := by
  obtain ⟨a, b, _⟩ := h
  refine List.ext_getElem? fun i => ?_
  rw [List.getElem?_replicate]
  split
  · exact b i (by assumption)
  · exact List.getElem?_eq_none (by omega)

/-- While Drop and the read of the mirror are under way. -/
def DropS (N p gb hb : Nat) (w : World) (given turn : Int) (of hd : List Int) (gv : List Bool) (g : Nat) (l : Array Bool) (x : World) : Prop :=
  OnceAt N p gb hb w given turn (bif l.getD 2 false then of.set g 0 else of) hd gv x
theorem dropS_other {g : Nat} {l : Array Bool} (j : Nat) (hj : j ≠ 2) (h : DropS N p gb hb w given turn of hd gv g l x) : DropS N p gb hb w given turn of hd gv g (l.setIfInBounds j true) x := by
  unfold DropS at h ⊢
  rw [getD_set_ne false hj]; exact h
theorem dropS_cell {g : Nat} {l : Array Bool} {v : Int} (h : DropS N p gb hb w given turn of hd gv g l x) (hv : hd[g]? = some v) : x.cell? ⟨hb, g, none⟩ = some (.int .i64 v) := by
  rw [cell_of h.2.1, ints_get, hv]; rfl
theorem dropS_called {g : Nat} {l : Array Bool} (h : DropS N p gb hb w given turn of hd gv g l x) (hz : l.size = 9) (hp : w.heap.size ≤ p) (hg : gb ≠ p) (hI : IsIDs y p N given turn (of.set g 0)) (ho : Only (fun k => k = p) x y) :
    DropS N p gb hb w given turn of hd gv g (l.setIfInBounds 2 true) y := by
  have e : (l.setIfInBounds 2 true).getD 2 false = true := by simp [hz]
  unfold DropS
  rw [e]
  exact once_ids h hp hg hI ho
theorem dropS_before {g : Nat} {l : Array Bool} (hn : l.getD 2 false = false) (h : DropS N p gb hb w given turn of hd gv g l x) : OnceAt N p gb hb w given turn of hd gv x := by
  unfold DropS at h
  rw [hn] at h; exact h
theorem dropS_after {g : Nat} {l : Array Bool} (hn : l.getD 2 false = true) (h : DropS N p gb hb w given turn of hd gv g l x) : OnceAt N p gb hb w given turn (of.set g 0) hd gv x := by
  unfold DropS at h
  rw [hn] at h; exact h

theorem inv_drop {k g : Nat} (hof : of.length = 256) (h : InvO N given turn of hd gv k) (h1 : 1 ≤ g) (h2 : g ≤ 40) : InvO N given turn (of.set g 0) (hd.set g 0) gv ((k : Int) + 1) := by
  obtain ⟨a1, a2, a3, a4, a5, a6, a7, a8⟩ := h
  refine ⟨a1, a2, a3, by omega, by rw [List.length_set]; exact a5, a6, fun j j1 j2 => ?_, a8⟩
  by_cases hgj : g = j
  · subst hgj
    exact ⟨0, by omega, by omega, List.getElem?_set_self (by omega), List.getElem?_set_self (by omega)⟩
  · obtain ⟨v, v1, v2, v3, v4⟩ := a7 j j1 j2
    exact ⟨v, v1, v2, by rw [List.getElem?_set_ne hgj]; exact v3, by rw [List.getElem?_set_ne hgj]; exact v4⟩

theorem inv_keep {k : Nat} (h : InvO N given turn of hd gv k) : InvO N given turn of hd gv ((k : Int) + 1) := by
  obtain ⟨a1, a2, a3, a4, a5⟩ := h
  exact ⟨a1, a2, a3, by omega, a5⟩

theorem inv_new {k g q : Nat} (hof : of.length = 256) (h : InvO N (q : Int) turn of hd gv k) (hq : q < N) (h1 : 1 ≤ g) (h2 : g ≤ 40) : InvO N ((q : Int) + 1) turn (of.set g ((q : Int) + 1)) (hd.set g ((q : Int) + 1)) (gv.set q true) ((k : Int) + 1) := by
  obtain ⟨a1, a2, a3, a4, a5, a6, a7, a8⟩ := h
  refine ⟨by omega, by omega, a3, by omega, by rw [List.length_set]; exact a5, by rw [List.length_set]; exact a6, fun j j1 j2 => ?_, fun j hj => ?_⟩
  · by_cases hgj : g = j
    · subst hgj
      exact ⟨(q : Int) + 1, by omega, by omega, List.getElem?_set_self (by omega), List.getElem?_set_self (by omega)⟩
    · obtain ⟨v, v1, v2, v3, v4⟩ := a7 j j1 j2
      exact ⟨v, v1, v2, by rw [List.getElem?_set_ne hgj]; exact v3, by rw [List.getElem?_set_ne hgj]; exact v4⟩
  · by_cases hqj : q = j
    · subst hqj
      rw [List.getElem?_set_self (by omega), decide_eq_true (by omega)]
    · rw [List.getElem?_set_ne hqj, a8 j hj]
      congr 1
      exact decide_eq_decide.2 (by omega)

theorem inv_roll {k g : Nat} (hN : 1 ≤ N) (h : InvO N given turn of hd gv k) (h1 : 1 ≤ g) (h2 : g ≤ 40) : InvO N (0 + 1) (turn + 1) (zeros256.set g (0 + 1)) (zeros41.set g (0 + 1)) ((List.replicate N false).set 0 true) ((k : Int) + 1) := by
  obtain ⟨a1, a2, a3, a4, a5, a6, a7, a8⟩ := h
  have z1 : zeros256.length = 256 := by unfold zeros256; exact List.length_replicate
  have z2 : zeros41.length = 41 := by unfold zeros41; exact List.length_replicate
  refine ⟨by omega, by omega, by omega, by omega, by rw [List.length_set]; exact z2, by rw [List.length_set]; exact List.length_replicate, fun j j1 j2 => ?_, fun j hj => ?_⟩
  · by_cases hgj : g = j
    · subst hgj
      exact ⟨0 + 1, by omega, by omega, List.getElem?_set_self (by omega), List.getElem?_set_self (by omega)⟩
    · refine ⟨0, by omega, by omega, by rw [List.getElem?_set_ne hgj]; exact zeros_get j (by omega), ?_⟩
      rw [List.getElem?_set_ne hgj]
      unfold zeros41
      rw [List.getElem?_replicate, if_pos j2]
  · by_cases hqj : 0 = j
    · subst hqj
      rw [List.getElem?_set_self (by rw [List.length_replicate]; omega), decide_eq_true (by omega)]
    · rw [List.getElem?_set_ne hqj, List.getElem?_replicate, if_pos hj, decide_eq_false (by omega)]
end

set_option maxHeartbeats 4000000 in
set_option maxRecDepth 100000 in
theorem vmidOnce_calls (n : Int) (ad : Option Addr) (l : List (Int × Int)) (cap : Nat) (w : World) (hl : l.length ≤ maxLen) (hP : Pairs w ad l) :
    Calls Try.prog 8 #[.int .i64 n, .slice ad l.length cap] w (RetB w (.bool true)) := by
  have hm := i64_mask31 n
  have b1 : 0 ≤ n % 32 := by omega
  have b2 : n % 32 < 32 := by omega
  have b5 : 0 ≤ n % 32 % 20 := by omega
  have b6 : n % 32 % 20 < 20 := by omega
  obtain ⟨N, hN⟩ : ∃ N : Nat, 1 + n % 32 % 20 = N := ⟨(1 + n % 32 % 20).toNat, by omega⟩
  have hN1 : 1 ≤ N := by omega
  have hN2 : N ≤ 20 := by omega
  have hl63 : l.length ≤ 9223372036854775807 := hl
  go_enter Try.func8, Try.ntmps8
  go_wp2_with fail
  clear hN hm b1 b2 b5 b6
  (with_reducible refine (vmidNew_calls N _ (by omega) (by omega)).mono ?_)
  rintro e w1 ⟨rfl, hw1⟩
  have hI := ids_new w N
  have hO : Old w (w.alloc (.cells (idsCells N 0 0 zeros256) 95)) := old_alloc (old_refl _) _
  rw [← hw1] at hI hO
  have hsz : w1.heap.size = w.heap.size + 1 := by rw [hw1]; exact Array.size_push _
  clear hw1
  have hm41 := make41
  have hmN := makeN N hN2
  go_wp2
  generalize hpp : w.heap.size = p at *
  have Hp := Lib.hid hpp
  have Hs := Lib.hid hsz
  have hst : OnceAt N p (p + 1 + 1) (p + 1) w 0 0 zeros256 zeros41 (List.replicate N false) ((w1.alloc (.cells (intsCells zeros41) 3)).alloc (.cells (boolsCells (List.replicate N false)) 4)) := by
    refine ⟨⟨keep_alloc _ (keep_alloc _ hI.1), hI.2⟩, keep_alloc _ (alloc_heap_new _ _ _ hsz.symm), alloc_heap_new _ _ _ ?_, old_alloc (old_alloc hO _) _, by omega, by omega, by omega⟩
    rw [show (w1.alloc (.cells (intsCells zeros41) 3)).heap.size = w1.heap.size + 1 from Array.size_push _]
    omega
  clear hpp hsz hI hO hm41 hmN
  go_loopw [7, 9] (fun had i wr => OnceRel N p (p + 1 + 1) w had i wr) (fun _ i _ => (201 - intOf i).toNat)
  case atStart => exact ⟨0, p + 1, 0, 0, zeros256, zeros41, List.replicate N false, rfl, by omega, rfl, hst, inv_first N⟩
  case round =>
    clear hst
    obtain ⟨k, hb, given, turn, of, hd, gv, rfl, hk, rfl, hAt, hInv⟩ := hrel
    by_cases hlt : k < l.length ∧ k < 200
    · obtain ⟨hlk, hk2⟩ := hlt
      obtain ⟨x, hx⟩ : ∃ x, l[k]? = some x := ⟨_, List.getElem?_eq_getElem hlk⟩
      obtain ⟨bb, off, rfl, hbl, d0, d1, i0, i1⟩ := hP k x hx
      have hOld := hAt.2.2.2.1
      have c0 : wr.cell? ⟨bb, off + k * 2, none⟩ = some (.int .i64 x.1) := by rw [(Only.of_below hOld).cell bb _ hbl (fun f => f)]; exact d0
      have c1 : wr.cell? ⟨bb, off + k * 2 + 1, none⟩ = some (.int .i64 x.2) := by rw [(Only.of_below hOld).cell bb _ hbl (fun f => f)]; exact d1
      have hm3 := i64_mask3 x.1
      obtain ⟨g, hg1, hg2, hg⟩ := guest_of x.2
      have hInv' := hInv
      obtain ⟨q0, q1, q2, q3, q4, q5, q6, q7⟩ := hInv'
      obtain ⟨v, v0, vN, hof, hhd⟩ := q6 g hg1 (by omega)
      have hQ := Lib.hid q6
      have hR := Lib.hid q7
      clear d0 d1 hOld q6 q7
      by_cases h3 : x.1 % 4 = 3
      · go_wp2_with fail
        refine wp_region_staged (S := DropS N p (p + 1 + 1) hb w given turn of hd gv g) 9 (by kernel_rfl) (by kernel_rfl) (by kernel_rfl) (by decide) (once_drew hAt) ?_
        (apply walkedS_cons; (focus (intro l wS hz hn hS; have hS' := dropS_other 0 (by decide) hS; have cg := dropS_cell hS hhd; clear hS; go_wp2; exact ⟨rfl, rfl, hS'⟩)); rfl; (try simp only [Act.put, List.setIfInBounds_toArray, List.set_cons_succ, List.set_cons_zero]))
        (apply walkedS_cons; (focus (intro l wS hz hn hS; have hS' := dropS_other 1 (by decide) hS; have cg := dropS_cell hS hhd; clear hS; go_wp2; exact ⟨rfl, rfl, hS'⟩)); rfl; (try simp only [Act.put, List.setIfInBounds_toArray, List.set_cons_succ, List.set_cons_zero]))
        apply walkedS_cons
        · intro l wS hz hn hS
          have hB := dropS_before hn hS
          have hIS := hB.1
          go_wp2_with fail
          (with_reducible refine (drop_int g g rfl p _ _ _ _ v _ hIS hg1 (by omega) hof).mono ?_)
          rintro e w2 ⟨rfl, hI2, ho2⟩
          have hS2 := dropS_called hS hz (by have := Hp.out; omega) (by omega) hI2 ho2
          go_wp2
          exact ⟨rfl, rfl, hS2⟩
        · rfl
        (apply walkedS_cons; (focus (intro l wS hz hn hS; have hS' := dropS_other 3 (by decide) hS; have cg := dropS_cell hS hhd; clear hS; go_wp2; exact ⟨rfl, rfl, hS'⟩)); rfl; (try simp only [Act.put, List.setIfInBounds_toArray, List.set_cons_succ, List.set_cons_zero]))
        (apply walkedS_cons; (focus (intro l wS hz hn hS; have hS' := dropS_other 4 (by decide) hS; have cg := dropS_cell hS hhd; clear hS; go_wp2; exact ⟨rfl, rfl, hS'⟩)); rfl; (try simp only [Act.put, List.setIfInBounds_toArray, List.set_cons_succ, List.set_cons_zero]))
        (apply walkedS_cons; (focus (intro l wS hz hn hS; have hS' := dropS_other 5 (by decide) hS; have cg := dropS_cell hS hhd; clear hS; go_wp2; exact ⟨rfl, rfl, hS'⟩)); rfl; (try simp only [Act.put, List.setIfInBounds_toArray, List.set_cons_succ, List.set_cons_zero]))
        (apply walkedS_cons; (focus (intro l wS hz hn hS; have hS' := dropS_other 6 (by decide) hS; have cg := dropS_cell hS hhd; clear hS; go_wp2; exact ⟨rfl, rfl, hS'⟩)); rfl; (try simp only [Act.put, List.setIfInBounds_toArray, List.set_cons_succ, List.set_cons_zero]))
        (apply walkedS_cons; (focus (intro l wS hz hn hS; have hS' := dropS_other 7 (by decide) hS; have cg := dropS_cell hS hhd; clear hS; go_wp2; exact ⟨rfl, rfl, hS'⟩)); rfl; (try simp only [Act.put, List.setIfInBounds_toArray, List.set_cons_succ, List.set_cons_zero]))
        (apply walkedS_cons; (focus (intro l wS hz hn hS; have hS' := dropS_other 8 (by decide) hS; have cg := dropS_cell hS hhd; clear hS; go_wp2; exact ⟨rfl, rfl, hS'⟩)); rfl; (try simp only [Act.put, List.setIfInBounds_toArray, List.set_cons_succ, List.set_cons_zero]))
        apply walkedS_nil
        intro l wS hz hall hS
        have hA := dropS_after (hall 2 (by decide)) hS
        have fg : wS.frozen? ⟨hb, g, none⟩ = false := frozen_of hA.2.1 _
        have sg : wS.setCell ⟨hb, g, none⟩ (.int .i64 0) = putB wS hb (.cells (intsCells (hd.set g 0)) 3) := by rw [set_of hA.2.1, ints_set]
        have cg := dropS_cell hS hhd
        have hput := once_had (hd' := hd.set g 0) hA
        have HP := Lib.hid hput
        have HV := Lib.hid (inv_drop hAt.1.2 hInv hg1 hg2)
        clear hput hA hS hAt hInv
        show wpList _ _ _ [] _ _
        go_wp2
        go_roundw
        case rel => exact ⟨k + 1, hb, given, turn, of.set g 0, hd.set g 0, gv, by go_num, by omega, rfl, HP.out, by have := HV.out; rwa [Int.natCast_add]⟩
        case measure => simp [intOf]; omega
      · have hsz := hAt.1.2
        have ht1 : (turn == turn + 1) = false := by rw [beq_eq_false_iff_ne]; omega
        have HI := Lib.hid hInv
        have HA := Lib.hid hAt
        have hI := hAt.1
        clear hInv hAt
        go_wp2_with fail
        (with_reducible refine (turn_calls p _ _ _ _ _ hI).mono ?_)
        rintro e w2 ⟨rfl, hb2⟩
        have hA2 := once_old HA.out hb2
        have hI2 := hA2.1
        clear hI
        by_cases hv : v = 0
        · subst hv
          by_cases hlt : given < N
          · obtain ⟨q, rfl⟩ : ∃ q : Nat, given = q := ⟨given.toNat, by omega⟩
            have hqN : q < N := by omega
            go_wp2_with fail
            (with_reducible refine (get_once g p N q turn of _ (q + 1) false (q + 1) turn (of.set g (q + 1)) hI2 hg1 (by omega) (by omega) q2 (by omega) (.inr (.inl ⟨hof, q0, hlt, by omega, rfl⟩))).mono ?_)
            rintro e w3 ⟨rfl, hI3, ho3⟩
            have hA3 := once_ids hA2 (by have := Hp.out; omega) (by omega) hI3 ho3
            clear hA2 hI2
            go_wp2_with fail
            (with_reducible refine (turn_calls p _ _ _ _ _ hI3).mono ?_)
            rintro e w4 ⟨rfl, hb4⟩
            have hA4 := once_old hA3 hb4
            clear hA3 hI3
            have cg : w4.cell? ⟨hb, g, none⟩ = some (.int .i64 0) := by rw [cell_of hA4.2.1, ints_get, hhd]; rfl
            have cv : w4.cell? ⟨p + 1 + 1, q, none⟩ = some (.bool false) := by rw [cell_of hA4.2.2.1, bools_get, hR.out q hqN, decide_eq_false (by omega)]; rfl
            have fv : w4.frozen? ⟨p + 1 + 1, q, none⟩ = false := frozen_of hA4.2.2.1 _
            have sv : w4.setCell ⟨p + 1 + 1, q, none⟩ (.bool true) = putB w4 (p + 1 + 1) (.cells (boolsCells (gv.set q true)) 4) := by rw [set_of hA4.2.2.1, bools_set]
            have hA5 := once_given (gv' := gv.set q true) hA4 (by omega) (by have := Hp.out; omega)
            have cg5 : (putB w4 (p + 1 + 1) (.cells (boolsCells (gv.set q true)) 4)).cell? ⟨hb, g, none⟩ = some (.int .i64 0) := by rw [cell_of hA5.2.1, ints_get, hhd]; rfl
            have fg : (putB w4 (p + 1 + 1) (.cells (boolsCells (gv.set q true)) 4)).frozen? ⟨hb, g, none⟩ = false := frozen_of hA5.2.1 _
            have sg : (putB w4 (p + 1 + 1) (.cells (boolsCells (gv.set q true)) 4)).setCell ⟨hb, g, none⟩ (.int .i64 (q + 1)) = putB (putB w4 (p + 1 + 1) (.cells (boolsCells (gv.set q true)) 4)) hb (.cells (intsCells (hd.set g (q + 1))) 3) := by rw [set_of hA5.2.1, ints_set]
            have HP := Lib.hid (once_had (hd' := hd.set g ((q : Int) + 1)) hA5)
            have HV := Lib.hid (inv_new hsz HI.out hqN hg1 hg2)
            clear hA4 hA5
            go_wp2
            go_roundw
            case rel => exact ⟨k + 1, hb, q + 1, turn, of.set g (q + 1), hd.set g (q + 1), gv.set q true, by go_num, by omega, rfl, HP.out, by have := HV.out; rwa [Int.natCast_add]⟩
            case measure => simp [intOf]; omega
          · have hgN : given = N := by omega
            subst hgN
            go_wp2_with fail
            (with_reducible refine (get_once g p N N turn of _ (0 + 1) true (0 + 1) (turn + 1) (zeros256.set g (0 + 1)) hI2 hg1 (by omega) (by omega) q2 (by omega) (.inr (.inr ⟨hof, by omega, by omega, rfl⟩))).mono ?_)
            rintro e w3 ⟨rfl, hI3, ho3⟩
            have hA3 := once_ids hA2 (by have := Hp.out; omega) (by omega) hI3 ho3
            clear hA2 hI2
            go_wp2_with fail
            (with_reducible refine (turn_calls p _ _ _ _ _ hI3).mono ?_)
            rintro e w4 ⟨rfl, hb4⟩
            have hA4 := once_old hA3 hb4
            clear hA3 hI3
            have cg : w4.cell? ⟨hb, g, none⟩ = some (.int .i64 0) := by rw [cell_of hA4.2.1, ints_get, hhd]; rfl
            have HA4 := Lib.hid hA4
            clear hA4
            have hUn : Unmark N 0 gv := ⟨q5, fun i hi => by omega, fun i _ hi => by rw [hR.out i hi, decide_eq_true (by omega)]⟩
            have HV := Lib.hid (inv_roll (by omega) HI.out hg1 hg2)
            go_wp2
            go_loopw [15] (fun t wr => ∃ (j : Nat) (gv' : List Bool), t = .int .i64 j ∧ j ≤ N ∧ OnceAt N p (p + 1 + 1) hb w (0 + 1) (turn + 1) (zeros256.set g (0 + 1)) hd gv' wr ∧ Unmark N j gv') (fun t _ => (30 - intOf t).toNat)
            case atStart => exact ⟨0, gv, rfl, by omega, HA4.out, hUn⟩
            case round =>
              obtain ⟨j, gv', rfl, hjN, hA5, hU⟩ := hrel
              clear hUn HA4 c0 c1
              by_cases hj : j < N
              · have cj : wr.cell? ⟨p + 1 + 1, j, none⟩ = some (.bool true) := by rw [cell_of hA5.2.2.1, bools_get, hU.2.2 j (Nat.le_refl _) hj]; rfl
                have fj : wr.frozen? ⟨p + 1 + 1, j, none⟩ = false := frozen_of hA5.2.2.1 _
                have sj : wr.setCell ⟨p + 1 + 1, j, none⟩ (.bool false) = putB wr (p + 1 + 1) (.cells (boolsCells (gv'.set j false)) 4) := by rw [set_of hA5.2.2.1, bools_set]
                have HP := Lib.hid (once_given (gv' := gv'.set j false) hA5 (by omega) (by have := Hp.out; omega))
                have HU := Lib.hid (unmark_next hU hj)
                clear hA5 hU
                go_wp2
                go_roundw
                case rel => exact ⟨j + 1, gv'.set j false, by go_num, by omega, HP.out, HU.out⟩
                case measure => simp [intOf]; omega
              · have hjN' : j = N := by omega
                subst hjN'
                have e := unmark_end hU
                subst e
                have hm41 := make41
                have HA5 := Lib.hid hA5
                clear hA5 hU cg
                go_upto_region 28 with (fail)
                have hA6 := once_make HA5.out
                clear hm41
                generalize wr.alloc (.cells (intsCells zeros41) 3) = W at *
                generalize wr.heap.size = h6 at *
                have cv : W.cell? ⟨p + 1 + 1, 0, none⟩ = some (.bool false) := by rw [cell_of hA6.2.2.1, bools_get, List.getElem?_replicate, if_pos (by omega)]; rfl
                have fv : W.frozen? ⟨p + 1 + 1, 0, none⟩ = false := frozen_of hA6.2.2.1 _
                have sv : W.setCell ⟨p + 1 + 1, 0, none⟩ (.bool true) = putB W (p + 1 + 1) (.cells (boolsCells ((List.replicate j false).set 0 true)) 4) := by rw [set_of hA6.2.2.1, bools_set]
                have hA7 := once_given (gv' := (List.replicate j false).set 0 true) hA6 (by omega) (by have := Hp.out; omega)
                clear hA6
                generalize hW7 : putB W (p + 1 + 1) (.cells (boolsCells ((List.replicate j false).set 0 true)) 4) = W7 at *
                clear hW7
                have cg : W7.cell? ⟨h6, g, none⟩ = some (.int .i64 0) := by rw [cell_of hA7.2.1, ints_get]; unfold zeros41; rw [List.getElem?_replicate, if_pos (by omega)]; rfl
                have fg : W7.frozen? ⟨h6, g, none⟩ = false := frozen_of hA7.2.1 _
                have sg : W7.setCell ⟨h6, g, none⟩ (.int .i64 1) = putB W7 h6 (.cells (intsCells (zeros41.set g 1)) 3) := by rw [set_of hA7.2.1, ints_set]
                have HP := Lib.hid (once_had (hd' := zeros41.set g 1) hA7)
                clear hA7
                go_wp2
                go_roundw
                case rel => exact ⟨k + 1, h6, 0 + 1, turn + 1, zeros256.set g (0 + 1), zeros41.set g 1, (List.replicate j false).set 0 true, by go_num, by omega, rfl, HP.out, by have := HV.out; rw [congrArg (zeros41.set g) (show (0 : Int) + 1 = 1 from rfl)] at this; rwa [Int.natCast_add]⟩
                case measure => simp [intOf]; omega
        · go_wp2_with fail
          (with_reducible refine (get_once g p N given turn of _ v false given turn of hI2 hg1 (by omega) (by omega) q2 (by omega) (.inl ⟨v, hv, hof, rfl⟩)).mono ?_)
          rintro e w3 ⟨rfl, hI3, ho3⟩
          have hA3 := once_ids hA2 (by have := Hp.out; omega) (by omega) hI3 ho3
          clear hA2 hI2
          go_wp2_with fail
          (with_reducible refine (turn_calls p _ _ _ _ _ hI3).mono ?_)
          rintro e w4 ⟨rfl, hb4⟩
          have hA4 := once_old hA3 hb4
          clear hA3 hI3
          have cg : w4.cell? ⟨hb, g, none⟩ = some (.int .i64 v) := by rw [cell_of hA4.2.1, ints_get, hhd]; rfl
          have hvb : (v != 0) = true := by simp [hv]
          have HP := Lib.hid hA4
          have HV := Lib.hid (inv_keep HI.out)
          clear hA4
          go_wp2
          go_roundw
          case rel => exact ⟨k + 1, hb, given, turn, of, hd, gv, by go_num, by omega, rfl, HP.out, by have := HV.out; rwa [Int.natCast_add]⟩
          case measure => simp [intOf]; omega
    · have hcase : ¬ k < l.length ∨ (k < l.length ∧ k = 200) := by omega
      rcases hcase with hlk | ⟨hlk, rfl⟩
      all_goals
        clear hlt
        go_wp2
        go_loopw [16] (fun g wr => ∃ j : Nat, g = .int .i64 j ∧ 1 ≤ j ∧ j ≤ 41 ∧ OnceAt N p (p + 1 + 1) hb w given turn of hd gv wr) (fun g _ => (42 - intOf g).toNat)
        case atStart => exact ⟨1, rfl, by omega, by omega, hAt⟩
        case round =>
          clear hAt
          obtain ⟨j, rfl, hj1, hj2, ⟨hI, hH, hG, hO, hw1, hw2, hw3⟩⟩ := hrel
          by_cases hj : j < 41
          · obtain ⟨x, hx0, hxN, hof, hhd⟩ := hInv.2.2.2.2.2.2.1 j hj1 hj
            go_wp2_with fail
            (with_reducible refine (has_int j j rfl p _ _ _ _ x _ hI hj1 (by omega) hof).mono ?_)
            rintro e w2 ⟨rfl, hb2⟩
            have hI2 := ids_old hb2 hI
            have hO2 := old_then hO hb2
            have hH2 := keep_old hb2 hH
            have hG2 := keep_old hb2 hG
            have cg : w2.cell? ⟨hb, j, none⟩ = some (.int .i64 x) := by rw [cell_of hH2, ints_get, hhd]; rfl
            have HA : Hid (OnceAt N p (p + 1 + 1) hb w given turn of hd gv w2) := Lib.hid ⟨hI2, hH2, hG2, hO2, hw1, hw2, hw3⟩
            clear hI hH hG hO hI2 hO2 hH2 hG2
            go_wp2
            go_roundw
            case rel => exact ⟨j + 1, by go_num, by omega, by omega, HA.out⟩
            case measure => simp [intOf]; omega
          · clear hI hH hG
            go_wp2_with fail
            (with_reducible refine (vmidTold_calls _).mono ?_)
            rintro e w2 ⟨rfl, hb2⟩
            have hO2 := old_then hO hb2
            go_wp2
            go_ret
            exact ⟨rfl, hO2⟩
end Go.Proofs.Ytbnbchclbblbkaa
