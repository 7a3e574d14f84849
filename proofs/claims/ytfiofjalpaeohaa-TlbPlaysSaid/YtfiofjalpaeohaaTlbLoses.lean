/- The package tlb: All, ID, ASID, VA, Page, Frame. -/
import Derived.Test.YtfiofjalpaeohaaTlbLose
namespace Go.Proofs.Ytfiofjalpaeohaa
set_option linter.unusedVariables false
set_option linter.unusedSimpArgs false
open Go.RowKit

def allB (_ : Ln) : Bool := true
def idB (gid : Int) (l : Ln) : Bool := l.id == gid
def asidB (gid asd : Int) (l : Ln) : Bool := l.id == gid && l.asid == asd
def vaB (gid asd : Int) (vp : Nat) (l : Ln) : Bool := keyB l gid asd vp
def pageB (gid : Int) (ip : Nat) (l : Ln) : Bool := l.id == gid && ((l.ip : Int) == (ip : Int))
def frameB (fr : Int) (l : Ln) : Bool := l.fr == fr
/-- A losing call's end. -/
def RetLose (w : World) (p gs : Nat) (bs : List Nat) (n wy : Nat) (T : List (List Pl)) (B : Ln → Bool) (e : Ending) (y : World) : Prop :=
  e = .returned (.int .i64 (cntT B T : Nat)) ∧ IsTlb y p gs bs n wy (T.map (fun t => t.map (loseP B))) ∧ Only (fun z => z ∈ bs) w y
theorem lose_after {w W y : World} {p gs : Nat} {bs : List Nat} {n wy : Nat} {T : List (List Pl)} {B : Ln → Bool} {e : Ending} (ho : Old w W)
    (h : e = .returned (.int .i64 (cntT B T : Nat)) ∧ IsTlb y p gs bs n wy (T.map (fun t => t.map (loseP B))) ∧ Only (fun z => z ∈ bs) W y) : RetLose w p gs bs n wy T B e y :=
  ⟨h.1, h.2.1, ((Only.of_below ho).mono (G := fun z => z ∈ bs) (fun _ _ f => f.elim)).trans h.2.2⟩

theorem fn_All (args : Array Value) (x : World) : (callFunc 76 args).run Try.prog x = .ok (.enter 76 args) x := by kernel_rfl
set_option maxHeartbeats 4000000 in
set_option maxRecDepth 100000 in
theorem All1_calls   (l : Ln) (x : World) (h : True) : Calls Try.prog 76 #[.agg l.cells.toArray] x (RetB x (.bool (allB  l))) := by
  obtain ⟨lid, asid, vp, ip, fr, p0, p1, p2, s0, s1, s2⟩ := l
  change Calls _ _ #[.agg #[Value.int .i64 lid, .int .i64 asid, .int .u64 (vp : Nat), .int .u64 (ip : Nat), .int .i64 fr, .bool p0, .bool p1, .bool p2, .bool s0, .bool s1, .bool s2]] x _
  go_enter Try.func76, Try.ntmps76
  go_wp2
  go_ret
  exact ⟨rfl, old_alloc (old_refl _) _⟩

theorem fn_ID (args : Array Value) (x : World) : (callFunc 73 args).run Try.prog x = .ok (.enter 73 args) x := by kernel_rfl
set_option maxHeartbeats 4000000 in
set_option maxRecDepth 100000 in
theorem ID1_calls (gid : Int) (cb : Nat) (l : Ln) (x : World) (h : x.heap[cb]? = some (.cells #[.int .i64 gid] 3)) : Calls Try.prog 73 #[.agg l.cells.toArray, .pointer (some ⟨cb, 0, none⟩)] x (RetB x (.bool (idB gid l))) := by
  obtain ⟨lid, asid, vp, ip, fr, p0, p1, p2, s0, s1, s2⟩ := l
  change Calls _ _ #[.agg #[Value.int .i64 lid, .int .i64 asid, .int .u64 (vp : Nat), .int .u64 (ip : Nat), .int .i64 fr, .bool p0, .bool p1, .bool p2, .bool s0, .bool s1, .bool s2], _] x _
  have hO := old_alloc (old_refl x) (.cells #[Value.int .i64 lid, .int .i64 asid, .int .u64 (vp : Nat), .int .u64 (ip : Nat), .int .i64 fr, .bool p0, .bool p1, .bool p2, .bool s0, .bool s1, .bool s2] 64)
  have hn := new_block x (.cells #[Value.int .i64 lid, .int .i64 asid, .int .u64 (vp : Nat), .int .u64 (ip : Nat), .int .i64 fr, .bool p0, .bool p1, .bool p2, .bool s0, .bool s1, .bool s2] 64)
  have h1 := keep_old hO h
  clear h
  go_enter Try.func73, Try.ntmps73
  go_upto_region 1 with (fail)
  generalize hW : x.alloc (.cells #[Value.int .i64 lid, .int .i64 asid, .int .u64 (vp : Nat), .int .u64 (ip : Nat), .int .i64 fr, .bool p0, .bool p1, .bool p2, .bool s0, .bool s1, .bool s2] 64) = W at *
  clear hW
  generalize hnb : x.heap.size = nb at *
  clear hnb
  have HO := Lib.hid hO
  obtain ⟨kn, _, _⟩ := of_block hn
  obtain ⟨k1, _, _⟩ := of_block h1
  clear hO hn h1
  go_wp2
  go_ret
  exact ⟨rfl, HO.out⟩

theorem fn_Frame (args : Array Value) (x : World) : (callFunc 75 args).run Try.prog x = .ok (.enter 75 args) x := by kernel_rfl
set_option maxHeartbeats 4000000 in
set_option maxRecDepth 100000 in
theorem Frame1_calls (fn : Int) (cb : Nat) (l : Ln) (x : World) (h : x.heap[cb]? = some (.cells #[.int .i64 fn] 3)) : Calls Try.prog 75 #[.agg l.cells.toArray, .pointer (some ⟨cb, 0, none⟩)] x (RetB x (.bool (frameB fn l))) := by
  obtain ⟨lid, asid, vp, ip, fr, p0, p1, p2, s0, s1, s2⟩ := l
  change Calls _ _ #[.agg #[Value.int .i64 lid, .int .i64 asid, .int .u64 (vp : Nat), .int .u64 (ip : Nat), .int .i64 fr, .bool p0, .bool p1, .bool p2, .bool s0, .bool s1, .bool s2], _] x _
  have hO := old_alloc (old_refl x) (.cells #[Value.int .i64 lid, .int .i64 asid, .int .u64 (vp : Nat), .int .u64 (ip : Nat), .int .i64 fr, .bool p0, .bool p1, .bool p2, .bool s0, .bool s1, .bool s2] 64)
  have hn := new_block x (.cells #[Value.int .i64 lid, .int .i64 asid, .int .u64 (vp : Nat), .int .u64 (ip : Nat), .int .i64 fr, .bool p0, .bool p1, .bool p2, .bool s0, .bool s1, .bool s2] 64)
  have h1 := keep_old hO h
  clear h
  go_enter Try.func75, Try.ntmps75
  go_upto_region 1 with (fail)
  generalize hW : x.alloc (.cells #[Value.int .i64 lid, .int .i64 asid, .int .u64 (vp : Nat), .int .u64 (ip : Nat), .int .i64 fr, .bool p0, .bool p1, .bool p2, .bool s0, .bool s1, .bool s2] 64) = W at *
  clear hW
  generalize hnb : x.heap.size = nb at *
  clear hnb
  have HO := Lib.hid hO
  obtain ⟨kn, _, _⟩ := of_block hn
  obtain ⟨k1, _, _⟩ := of_block h1
  clear hO hn h1
  go_wp2
  go_ret
  exact ⟨rfl, HO.out⟩

theorem fn_ASID (args : Array Value) (x : World) : (callFunc 77 args).run Try.prog x = .ok (.enter 77 args) x := by kernel_rfl
set_option maxHeartbeats 4000000 in
set_option maxRecDepth 100000 in
theorem ASID1_calls (gid : Int) (asd : Int) (cb cc : Nat) (l : Ln) (x : World) (h : x.heap[cb]? = some (.cells #[.int .i64 gid] 3) ∧ x.heap[cc]? = some (.cells #[.int .i64 asd] 3)) : Calls Try.prog 77 #[.agg l.cells.toArray, .pointer (some ⟨cb, 0, none⟩), .pointer (some ⟨cc, 0, none⟩)] x (RetB x (.bool (asidB gid asd l))) := by
  obtain ⟨lid, asid, vp, ip, fr, p0, p1, p2, s0, s1, s2⟩ := l
  change Calls _ _ #[.agg #[Value.int .i64 lid, .int .i64 asid, .int .u64 (vp : Nat), .int .u64 (ip : Nat), .int .i64 fr, .bool p0, .bool p1, .bool p2, .bool s0, .bool s1, .bool s2], _, _] x _
  have hO := old_alloc (old_refl x) (.cells #[Value.int .i64 lid, .int .i64 asid, .int .u64 (vp : Nat), .int .u64 (ip : Nat), .int .i64 fr, .bool p0, .bool p1, .bool p2, .bool s0, .bool s1, .bool s2] 64)
  have hn := new_block x (.cells #[Value.int .i64 lid, .int .i64 asid, .int .u64 (vp : Nat), .int .u64 (ip : Nat), .int .i64 fr, .bool p0, .bool p1, .bool p2, .bool s0, .bool s1, .bool s2] 64)
  have h1 := keep_old hO h.1
  have h2 := keep_old hO h.2
  clear h
  go_enter Try.func77, Try.ntmps77
  go_upto_region 1 with (fail)
  generalize hW : x.alloc (.cells #[Value.int .i64 lid, .int .i64 asid, .int .u64 (vp : Nat), .int .u64 (ip : Nat), .int .i64 fr, .bool p0, .bool p1, .bool p2, .bool s0, .bool s1, .bool s2] 64) = W at *
  clear hW
  generalize hnb : x.heap.size = nb at *
  clear hnb
  have HO := Lib.hid hO
  obtain ⟨kn, _, _⟩ := of_block hn
  obtain ⟨k1, _, _⟩ := of_block h1
  obtain ⟨k2, _, _⟩ := of_block h2
  clear hO hn h1 h2
  by_cases hb : lid = gid
  · subst hb
    go_wp2
    go_ret
    refine ⟨?_, HO.out⟩
    simp [asidB]
  · have hb' : (lid == gid) = false := by simp [hb]
    go_wp2
    go_ret
    refine ⟨?_, HO.out⟩
    simp [asidB, hb]

theorem fn_Page (args : Array Value) (x : World) : (callFunc 74 args).run Try.prog x = .ok (.enter 74 args) x := by kernel_rfl
set_option maxHeartbeats 4000000 in
set_option maxRecDepth 100000 in
theorem Page1_calls (gid : Int) (ipg : Nat) (cb cc : Nat) (l : Ln) (x : World) (h : x.heap[cb]? = some (.cells #[.int .i64 gid] 3) ∧ x.heap[cc]? = some (.cells #[.int .u64 (ipg : Nat)] 60)) : Calls Try.prog 74 #[.agg l.cells.toArray, .pointer (some ⟨cb, 0, none⟩), .pointer (some ⟨cc, 0, none⟩)] x (RetB x (.bool (pageB gid ipg l))) := by
  obtain ⟨lid, asid, vp, ip, fr, p0, p1, p2, s0, s1, s2⟩ := l
  change Calls _ _ #[.agg #[Value.int .i64 lid, .int .i64 asid, .int .u64 (vp : Nat), .int .u64 (ip : Nat), .int .i64 fr, .bool p0, .bool p1, .bool p2, .bool s0, .bool s1, .bool s2], _, _] x _
  have hO := old_alloc (old_refl x) (.cells #[Value.int .i64 lid, .int .i64 asid, .int .u64 (vp : Nat), .int .u64 (ip : Nat), .int .i64 fr, .bool p0, .bool p1, .bool p2, .bool s0, .bool s1, .bool s2] 64)
  have hn := new_block x (.cells #[Value.int .i64 lid, .int .i64 asid, .int .u64 (vp : Nat), .int .u64 (ip : Nat), .int .i64 fr, .bool p0, .bool p1, .bool p2, .bool s0, .bool s1, .bool s2] 64)
  have h1 := keep_old hO h.1
  have h2 := keep_old hO h.2
  clear h
  go_enter Try.func74, Try.ntmps74
  go_upto_region 1 with (fail)
  generalize hW : x.alloc (.cells #[Value.int .i64 lid, .int .i64 asid, .int .u64 (vp : Nat), .int .u64 (ip : Nat), .int .i64 fr, .bool p0, .bool p1, .bool p2, .bool s0, .bool s1, .bool s2] 64) = W at *
  clear hW
  generalize hnb : x.heap.size = nb at *
  clear hnb
  have HO := Lib.hid hO
  obtain ⟨kn, _, _⟩ := of_block hn
  obtain ⟨k1, _, _⟩ := of_block h1
  obtain ⟨k2, _, _⟩ := of_block h2
  clear hO hn h1 h2
  by_cases hb : lid = gid
  · subst hb
    go_wp2
    go_ret
    refine ⟨?_, HO.out⟩
    simp [pageB]
  · have hb' : (lid == gid) = false := by simp [hb]
    go_wp2
    go_ret
    refine ⟨?_, HO.out⟩
    simp [pageB, hb]

theorem fn_VA (args : Array Value) (x : World) : (callFunc 93 args).run Try.prog x = .ok (.enter 93 args) x := by kernel_rfl
set_option maxHeartbeats 4000000 in
set_option maxRecDepth 100000 in
theorem VA1_calls (gid asd : Int) (vpg : Nat) (cb : Nat) (l : Ln) (x : World) (h : x.heap[cb]? = some (.cells #[.int .i64 gid, .int .i64 asd, .int .u64 (vpg : Nat)] 117)) : Calls Try.prog 93 #[.agg l.cells.toArray, .pointer (some ⟨cb, 0, none⟩)] x (RetB x (.bool (vaB gid asd vpg l))) := by
  obtain ⟨lid, asid, vp, ip, fr, p0, p1, p2, s0, s1, s2⟩ := l
  change Calls _ _ #[.agg #[Value.int .i64 lid, .int .i64 asid, .int .u64 (vp : Nat), .int .u64 (ip : Nat), .int .i64 fr, .bool p0, .bool p1, .bool p2, .bool s0, .bool s1, .bool s2], _] x _
  have hO := old_alloc (old_refl x) (.cells #[Value.int .i64 lid, .int .i64 asid, .int .u64 (vp : Nat), .int .u64 (ip : Nat), .int .i64 fr, .bool p0, .bool p1, .bool p2, .bool s0, .bool s1, .bool s2] 64)
  have hn := new_block x (.cells #[Value.int .i64 lid, .int .i64 asid, .int .u64 (vp : Nat), .int .u64 (ip : Nat), .int .i64 fr, .bool p0, .bool p1, .bool p2, .bool s0, .bool s1, .bool s2] 64)
  have h1 := keep_old hO h
  clear h
  go_enter Try.func93, Try.ntmps93
  go_upto_region 1 with (fail)
  generalize hW : x.alloc (.cells #[Value.int .i64 lid, .int .i64 asid, .int .u64 (vp : Nat), .int .u64 (ip : Nat), .int .i64 fr, .bool p0, .bool p1, .bool p2, .bool s0, .bool s1, .bool s2] 64) = W at *
  clear hW
  generalize hnb : x.heap.size = nb at *
  clear hnb
  have hH : Holds x [(nb, #[Value.int .i64 lid, .int .i64 asid, .int .u64 (vp : Nat), .int .u64 (ip : Nat), .int .i64 fr, .bool p0, .bool p1, .bool p2, .bool s0, .bool s1, .bool s2], 64), (cb, #[.int .i64 gid, .int .i64 asd, .int .u64 (vpg : Nat)], 117)] W := ⟨hO, hn, h1, trivial⟩
  have hof := fun z => of_calls ⟨lid, asid, vp, ip, fr, p0, p1, p2, s0, s1, s2⟩ z
  change ∀ z, Calls _ _ #[.agg #[Value.int .i64 lid, .int .i64 asid, .int .u64 (vp : Nat), .int .u64 (ip : Nat), .int .i64 fr, .bool p0, .bool p1, .bool p2, .bool s0, .bool s1, .bool s2]] z (RetB z (.agg #[.int .i64 lid, .int .i64 asid, .int .u64 (vp : Nat)])) at hof
  have heq := eq_key lid asid gid asd (vp : Nat) (vpg : Nat)
  clear hO hn h1
  refine wp_region_walked (S := Holds x [(nb, #[Value.int .i64 lid, .int .i64 asid, .int .u64 (vp : Nat), .int .u64 (ip : Nat), .int .i64 fr, .bool p0, .bool p1, .bool p2, .bool s0, .bool s1, .bool s2], 64), (cb, #[.int .i64 gid, .int .i64 asd, .int .u64 (vpg : Nat)], 117)]) (by kernel_rfl) (by kernel_rfl) (holds_drew hH) ?_
  repeat (apply walked_cons; (first | exact gives_and rfl rfl rfl rfl | exact gives_or rfl rfl rfl rfl | (focus (intro wS hS; obtain ⟨s0, s1, s2, _⟩ := id hS; obtain ⟨k1, f1, z1⟩ := of_block s1; obtain ⟨k2, f2, z2⟩ := of_block s2; go_wp2_with ((go_at_call 71; (with_reducible refine (hof _).mono ?_); rintro e w9 ⟨rfl, hb9⟩)); (first | exact ⟨rfl, rfl, hS⟩ | exact ⟨rfl, rfl, holds_old hS hb9⟩); done)) | (focus (apply gives_guard; (focus (first | exact wanted_yes rfl rfl rfl | exact wanted_no rfl rfl rfl | exact wanted_yes2 rfl rfl rfl | exact wanted_no2 rfl rfl rfl)); (focus (intro hx9; (try simp only [Bool.not_eq_true', Bool.and_eq_true, Bool.not_not] at hx9); (try obtain ⟨hx9, hy9⟩ := hx9); (try subst hy9); (try subst hx9); (first | exact gives_and rfl rfl rfl rfl | exact gives_or rfl rfl rfl rfl | (intro wS hS; obtain ⟨s0, s1, s2, _⟩ := id hS; obtain ⟨k1, f1, z1⟩ := of_block s1; obtain ⟨k2, f2, z2⟩ := of_block s2; go_wp2_with ((go_at_call 71; (with_reducible refine (hof _).mono ?_); rintro e w9 ⟨rfl, hb9⟩)); (first | exact ⟨rfl, rfl, hS⟩ | exact ⟨rfl, rfl, holds_old hS hb9⟩); done))))))); rfl; (try simp only [Act.put, List.setIfInBounds_toArray, List.set_cons_succ, List.set_cons_zero]))
  apply walked_nil
  intro wS hS
  go_wp2
  go_ret
  refine ⟨?_, hS.1⟩
  have e : vaB gid asd vpg ⟨lid, asid, vp, ip, fr, p0, p1, p2, s0, s1, s2⟩ = (lid == gid && (asid == asd && (vp : Int) == (vpg : Int))) := by simp [vaB, keyB]
  rw [e]
  rfl

section
variable {w : World} {p gs : Nat} {bs : List Nat} {n wy : Nat} {T : List (List Pl)}

set_option maxHeartbeats 4000000 in
set_option maxRecDepth 100000 in
theorem AllLose_calls (h : IsTlb w p gs bs n wy T)  : Calls Try.prog 39 #[.pointer (some ⟨p, 0, none⟩)] w (RetLose w p gs bs n wy T (allB )) := by
  obtain ⟨_, _, hlt⟩ := tlb_lt h
  have hO := old_refl w
  have H := Lib.hid h
  clear h
  go_enter Try.func39, Try.ntmps39
  go_upto_region 1 with (fail)
  have hR : Teller 76 #[] (fun x => True) (allB ) bs := ⟨fn_All, fun x y hS ho => trivial, fun l x hS => All1_calls   l x hS⟩
  have hc := lose_calls (tlb_old H.out hO) hR trivial
  have HO := Lib.hid hO
  clear hR hO hlt
  go_wp2_with fail
  (with_reducible refine hc.mono ?_)
  rintro e y ⟨rfl, h1, h2⟩
  have HE := Lib.hid (lose_after HO.out ⟨rfl, h1, h2⟩)
  clear h1 h2 hc
  go_wp2
  go_ret
  exact HE.out

set_option maxHeartbeats 4000000 in
set_option maxRecDepth 100000 in
theorem IDLose_calls (h : IsTlb w p gs bs n wy T) (gid : Int) : Calls Try.prog 35 #[.pointer (some ⟨p, 0, none⟩), .int .i64 gid] w (RetLose w p gs bs n wy T (idB gid)) := by
  obtain ⟨_, _, hlt⟩ := tlb_lt h
  have hO := old_alloc (old_refl w) (.cells #[.int .i64 gid] 3)
  have h1 := new_block w (.cells #[.int .i64 gid] 3)
  have hcb : w.heap.size ≤ w.heap.size := Nat.le_refl _
  have H := Lib.hid h
  clear h
  go_enter Try.func35, Try.ntmps35
  go_upto_region 1 with (fail)
  generalize hW : w.alloc (.cells #[.int .i64 gid] 3) = W at *
  clear hW
  obtain ⟨cb, hcbe⟩ : ∃ cb, cb = w.heap.size := ⟨_, rfl⟩
  rw [← hcbe] at h1 ⊢
  have nb : cb ∉ bs := fun hm => by have := hlt _ hm; omega
  have hR : Teller 73 #[.pointer (some ⟨cb, 0, none⟩)] (fun x => x.heap[cb]? = some (.cells #[.int .i64 gid] 3)) (idB gid) bs := ⟨fn_ID, fun x y hS ho => keep_only ho nb hS, fun l x hS => ID1_calls gid cb l x hS⟩
  have hc := lose_calls (tlb_old H.out hO) hR h1
  have HO := Lib.hid hO
  clear hR hO hlt h1 nb hcbe hcb
  go_wp2_with fail
  (with_reducible refine hc.mono ?_)
  rintro e y ⟨rfl, h1, h2⟩
  have HE := Lib.hid (lose_after HO.out ⟨rfl, h1, h2⟩)
  clear h1 h2 hc
  go_wp2
  go_ret
  exact HE.out

set_option maxHeartbeats 4000000 in
set_option maxRecDepth 100000 in
theorem FrameLose_calls (h : IsTlb w p gs bs n wy T) (fn : Int) : Calls Try.prog 37 #[.pointer (some ⟨p, 0, none⟩), .int .i64 fn] w (RetLose w p gs bs n wy T (frameB fn)) := by
  obtain ⟨_, _, hlt⟩ := tlb_lt h
  have hO := old_alloc (old_refl w) (.cells #[.int .i64 fn] 3)
  have h1 := new_block w (.cells #[.int .i64 fn] 3)
  have hcb : w.heap.size ≤ w.heap.size := Nat.le_refl _
  have H := Lib.hid h
  clear h
  go_enter Try.func37, Try.ntmps37
  go_upto_region 1 with (fail)
  generalize hW : w.alloc (.cells #[.int .i64 fn] 3) = W at *
  clear hW
  obtain ⟨cb, hcbe⟩ : ∃ cb, cb = w.heap.size := ⟨_, rfl⟩
  rw [← hcbe] at h1 ⊢
  have nb : cb ∉ bs := fun hm => by have := hlt _ hm; omega
  have hR : Teller 75 #[.pointer (some ⟨cb, 0, none⟩)] (fun x => x.heap[cb]? = some (.cells #[.int .i64 fn] 3)) (frameB fn) bs := ⟨fn_Frame, fun x y hS ho => keep_only ho nb hS, fun l x hS => Frame1_calls fn cb l x hS⟩
  have hc := lose_calls (tlb_old H.out hO) hR h1
  have HO := Lib.hid hO
  clear hR hO hlt h1 nb hcbe hcb
  go_wp2_with fail
  (with_reducible refine hc.mono ?_)
  rintro e y ⟨rfl, h1, h2⟩
  have HE := Lib.hid (lose_after HO.out ⟨rfl, h1, h2⟩)
  clear h1 h2 hc
  go_wp2
  go_ret
  exact HE.out

set_option maxHeartbeats 4000000 in
set_option maxRecDepth 100000 in
theorem ASIDLose_calls (h : IsTlb w p gs bs n wy T) (gid asd : Int) : Calls Try.prog 40 #[.pointer (some ⟨p, 0, none⟩), .int .i64 gid, .int .i64 asd] w (RetLose w p gs bs n wy T (asidB gid asd)) := by
  obtain ⟨_, _, hlt⟩ := tlb_lt h
  have hO := old_alloc (old_alloc (old_refl w) (.cells #[.int .i64 gid] 3)) (.cells #[.int .i64 asd] 3)
  have h1 := keep_old (old_alloc (old_refl _) (.cells #[.int .i64 asd] 3)) (new_block w (.cells #[.int .i64 gid] 3))
  have h2 := new_block (w.alloc (.cells #[.int .i64 gid] 3)) (.cells #[.int .i64 asd] 3)
  rw [World.size_alloc] at h2
  have H := Lib.hid h
  clear h
  go_enter Try.func40, Try.ntmps40
  go_upto_region 1 with (fail)
  generalize hW : (w.alloc (.cells #[.int .i64 gid] 3)).alloc (.cells #[.int .i64 asd] 3) = W at *
  clear hW
  obtain ⟨cb, hcbe⟩ : ∃ cb, cb = w.heap.size := ⟨_, rfl⟩
  obtain ⟨cc, hcce⟩ : ∃ cc, cc = w.heap.size + 1 := ⟨_, rfl⟩
  rw [← hcce] at h2 ⊢
  rw [← hcbe] at h1 ⊢
  have nb : cb ∉ bs := fun hm => by have := hlt _ hm; omega
  have nc : cc ∉ bs := fun hm => by have := hlt _ hm; omega
  have hR : Teller 77 #[.pointer (some ⟨cb, 0, none⟩), .pointer (some ⟨cc, 0, none⟩)] (fun x => x.heap[cb]? = some (.cells #[.int .i64 gid] 3) ∧ x.heap[cc]? = some (.cells #[.int .i64 asd] 3)) (asidB gid asd) bs := ⟨fn_ASID, fun x y hS ho => ⟨keep_only ho nb hS.1, keep_only ho nc hS.2⟩, fun l x hS => ASID1_calls gid asd cb cc l x hS⟩
  have hc := lose_calls (tlb_old H.out hO) hR ⟨h1, h2⟩
  have HO := Lib.hid hO
  clear hR hO hlt h1 nb hcbe h2 nc hcce
  go_wp2_with fail
  (with_reducible refine hc.mono ?_)
  rintro e y ⟨rfl, h1, h2⟩
  have HE := Lib.hid (lose_after HO.out ⟨rfl, h1, h2⟩)
  clear h1 h2 hc
  go_wp2
  go_ret
  exact HE.out

set_option maxHeartbeats 4000000 in
set_option maxRecDepth 100000 in
theorem PageLose_calls (h : IsTlb w p gs bs n wy T) (gid : Int) (ipg : Nat) : Calls Try.prog 36 #[.pointer (some ⟨p, 0, none⟩), .int .i64 gid, .int .u64 (ipg : Nat)] w (RetLose w p gs bs n wy T (pageB gid ipg)) := by
  obtain ⟨_, _, hlt⟩ := tlb_lt h
  have hO := old_alloc (old_alloc (old_refl w) (.cells #[.int .i64 gid] 3)) (.cells #[.int .u64 (ipg : Nat)] 60)
  have h1 := keep_old (old_alloc (old_refl _) (.cells #[.int .u64 (ipg : Nat)] 60)) (new_block w (.cells #[.int .i64 gid] 3))
  have h2 := new_block (w.alloc (.cells #[.int .i64 gid] 3)) (.cells #[.int .u64 (ipg : Nat)] 60)
  rw [World.size_alloc] at h2
  have H := Lib.hid h
  clear h
  go_enter Try.func36, Try.ntmps36
  go_upto_region 1 with (fail)
  generalize hW : (w.alloc (.cells #[.int .i64 gid] 3)).alloc (.cells #[.int .u64 (ipg : Nat)] 60) = W at *
  clear hW
  obtain ⟨cb, hcbe⟩ : ∃ cb, cb = w.heap.size := ⟨_, rfl⟩
  obtain ⟨cc, hcce⟩ : ∃ cc, cc = w.heap.size + 1 := ⟨_, rfl⟩
  rw [← hcce] at h2 ⊢
  rw [← hcbe] at h1 ⊢
  have nb : cb ∉ bs := fun hm => by have := hlt _ hm; omega
  have nc : cc ∉ bs := fun hm => by have := hlt _ hm; omega
  have hR : Teller 74 #[.pointer (some ⟨cb, 0, none⟩), .pointer (some ⟨cc, 0, none⟩)] (fun x => x.heap[cb]? = some (.cells #[.int .i64 gid] 3) ∧ x.heap[cc]? = some (.cells #[.int .u64 (ipg : Nat)] 60)) (pageB gid ipg) bs := ⟨fn_Page, fun x y hS ho => ⟨keep_only ho nb hS.1, keep_only ho nc hS.2⟩, fun l x hS => Page1_calls gid ipg cb cc l x hS⟩
  have hc := lose_calls (tlb_old H.out hO) hR ⟨h1, h2⟩
  have HO := Lib.hid hO
  clear hR hO hlt h1 nb hcbe h2 nc hcce
  go_wp2_with fail
  (with_reducible refine hc.mono ?_)
  rintro e y ⟨rfl, h1, h2⟩
  have HE := Lib.hid (lose_after HO.out ⟨rfl, h1, h2⟩)
  clear h1 h2 hc
  go_wp2
  go_ret
  exact HE.out

set_option maxHeartbeats 4000000 in
set_option maxRecDepth 100000 in
theorem VALose_calls (h : IsTlb w p gs bs n wy T) (gid asd : Int) (vpg : Nat) : Calls Try.prog 80 #[.pointer (some ⟨p, 0, none⟩), .int .i64 gid, .int .i64 asd, .int .u64 (vpg : Nat)] w (RetLose w p gs bs n wy T (vaB gid asd vpg)) := by
  obtain ⟨_, _, hlt⟩ := tlb_lt h
  have hO := old_alloc (old_refl w) (.cells #[.int .i64 gid, .int .i64 asd, .int .u64 (vpg : Nat)] 117)
  have h1 := new_block w (.cells #[.int .i64 gid, .int .i64 asd, .int .u64 (vpg : Nat)] 117)
  have hcb : w.heap.size ≤ w.heap.size := Nat.le_refl _
  have H := Lib.hid h
  clear h
  go_enter Try.func80, Try.ntmps80
  go_upto_region 2 with (fail)
  generalize hW : w.alloc (.cells #[.int .i64 gid, .int .i64 asd, .int .u64 (vpg : Nat)] 117) = W at *
  clear hW
  obtain ⟨cb, hcbe⟩ : ∃ cb, cb = w.heap.size := ⟨_, rfl⟩
  rw [← hcbe] at h1 ⊢
  have nb : cb ∉ bs := fun hm => by have := hlt _ hm; omega
  have hR : Teller 93 #[.pointer (some ⟨cb, 0, none⟩)] (fun x => x.heap[cb]? = some (.cells #[.int .i64 gid, .int .i64 asd, .int .u64 (vpg : Nat)] 117)) (vaB gid asd vpg) bs := ⟨fn_VA, fun x y hS ho => keep_only ho nb hS, fun l x hS => VA1_calls gid asd vpg cb l x hS⟩
  have hc := lose_calls (tlb_old H.out hO) hR h1
  have HO := Lib.hid hO
  clear hR hO hlt h1 nb hcbe hcb
  go_wp2_with fail
  (with_reducible refine hc.mono ?_)
  rintro e y ⟨rfl, h1, h2⟩
  have HE := Lib.hid (lose_after HO.out ⟨rfl, h1, h2⟩)
  clear h1 h2 hc
  go_wp2
  go_ret
  exact HE.out

end
end Go.Proofs.Ytfiofjalpaeohaa
