/- told of the statements of layer 12. -/
import Derived.Test.YtlbehhbicmmdoaaWalk
import Derived.Test.YtlbehhbicmmdoaaWalkOut
namespace Go.Proofs.Ytlbehhbicmmdoaa
set_option linter.unusedVariables false
set_option linter.unusedSimpArgs false
open Go.RowKit

theorem fn_told (args : Array Value) (x : World) : (callFunc 50 args).run Try.prog x = .ok (.enter 50 args) x := by kernel_rfl
theorem told1_calls (a : Nat) (w : World) : Calls Try.prog 50 #[.int .u64 (a : Nat)] w (fun e w' => e = .returned (.tuple #[.int .u64 4099, .bool true]) ∧ w = w') := by
  go_enter Try.func50, Try.ntmps50
  go_wp2
  go_ret2
  exact ⟨rfl, rfl⟩
theorem told_reader (B : Nat) : Reader 50 #[] (fun _ => False) (fun _ _ => True) (fun _ => 4099) (fun _ => true) B :=
  { own := fun b h => h.elim
    fn := fn_told
    word := fun a => by decide
    keep := fun k x y h ho => trivial
    call := fun k a x hk ha hS => (told1_calls a x).mono fun e y ⟨he, hw⟩ => ⟨he, trivial, by rw [hw]; exact Only.refl _ _⟩ }
def toldL : List St := [⟨0, 4096, 4099, ⟨1, 4096, false, false, false, 0⟩⟩, ⟨1, 4096, 4099, ⟨1, 4096, false, false, false, 0⟩⟩, ⟨2, 4096, 4099, ⟨1, 4096, false, false, false, 0⟩⟩, ⟨3, 4096, 4099, ⟨3, 4096, false, false, false, 0⟩⟩]
set_option maxRecDepth 100000 in
theorem told_walk : walkN (fun _ => 4099) (fun _ => true) 1 0 4 0 4096 = (toldL, 0) := by kernel_rfl

set_option maxHeartbeats 4000000 in
set_option maxRecDepth 100000 in
theorem told12_calls (w : World) : Calls Try.prog 22 #[] w (RetB w (.bool true)) := by
  have h1 : Calls Try.prog 15 #[.int .i64 1, .int .u64 4096, .int .u64 0, .func (.func 50) #[] #[]] w (RetWalk w (fun _ => False) (fun _ _ => True) (toldL, 0)) := by
    rw [← told_walk]
    exact walk_calls 1 (.inl rfl) 4096 0 (by decide) (by decide) 50 #[] _ _ _ _ w (told_reader _) trivial
  have h2 : ∀ x, Calls Try.prog 15 #[.int .i64 2, .int .u64 0, .int .u64 0, .nilFunc] x (RetB x (.tuple #[.slice none 0 0, .int .i64 (-1)])) := fun x => walk_nil 2 (.inr rfl) 0 0 x
  have h3 : ∀ x, Calls Try.prog 15 #[.int .i64 3, .int .u64 0, .int .u64 0, .func (.func 50) #[] #[]] x (RetB x (.tuple #[.slice none 0 0, .int .i64 4])) := fun x => walk_bad 3 (by decide) 0 0 _ x
  have h4 : ∀ x, Calls Try.prog 24 #[.int .u64 4660, .agg #[.int .i64 3, .int .u64 4096, .int .u64 4099, .int .i64 3, .int .u64 4096, .bool false, .bool false, .bool false, .int .i64 0]] x (RetB x (.int .u64 4660)) := fun x =>
    out_calls 4660 (by decide) 3 4096 4099 3 4096 (by decide) false false false 0 x
  have H2 := Lib.hid h2
  have H3 := Lib.hid h3
  have H4 := Lib.hid h4
  clear h2 h3 h4
  go_enter Try.func22, Try.ntmps22
  go_wp2_with fail
  refine h1.mono ?_
  rintro e x1 ⟨v, rfl, hown, -, hO1⟩
  replace hO1 := Only.to_below hO1
  have hown : x1.ownsRow w.heap.size 52 9 v 4 (stCells toldL) := hown
  obtain ⟨ad, c, rfl, hc1, hc2, -, had⟩ := own_value hown
  obtain ⟨g, rfl⟩ := had (by decide)
  have hcell : ∀ y, Old x1 y → ∀ j u, (stCells toldL)[j]? = some u → y.cell? ⟨g, j, none⟩ = some u := fun y hy j u hu => own_cell (own_old hown hy) rfl j hu
  have HC := Lib.hid hcell
  have hcap : c ≤ 9223372036854775807 := hc2
  clear h1 hown hcell hc2
  go_wp2_with fail
  refine (H2.out _).mono ?_
  rintro e x2 ⟨rfl, hO2⟩
  go_wp2_with fail
  refine (H3.out _).mono ?_
  rintro e x3 ⟨rfl, hO3⟩
  have hO := old_then hO2 hO3
  have c1 : x3.cell? ⟨g, 1, none⟩ = some (.int .u64 4096) := HC.out _ hO 1 _ rfl
  have c27 : x3.cell? ⟨g, 27, none⟩ = some (.int .i64 3) := HC.out _ hO 27 _ rfl
  have c28 : x3.cell? ⟨g, 28, none⟩ = some (.int .u64 4096) := HC.out _ hO 28 _ rfl
  have c29 : x3.cell? ⟨g, 29, none⟩ = some (.int .u64 4099) := HC.out _ hO 29 _ rfl
  have c30 : x3.cell? ⟨g, 30, none⟩ = some (.int .i64 3) := HC.out _ hO 30 _ rfl
  have c31 : x3.cell? ⟨g, 31, none⟩ = some (.int .u64 4096) := HC.out _ hO 31 _ rfl
  have c32 : x3.cell? ⟨g, 32, none⟩ = some (.bool false) := HC.out _ hO 32 _ rfl
  have c33 : x3.cell? ⟨g, 33, none⟩ = some (.bool false) := HC.out _ hO 33 _ rfl
  have c34 : x3.cell? ⟨g, 34, none⟩ = some (.bool false) := HC.out _ hO 34 _ rfl
  have c35 : x3.cell? ⟨g, 35, none⟩ = some (.int .i64 0) := HC.out _ hO 35 _ rfl
  have HO := Lib.hid (old_then hO1 hO)
  clear hO1 hO2 hO3 hO
  go_wp2_with fail
  refine (H4.out _).mono ?_
  rintro e x4 ⟨rfl, hO4⟩
  have HO4 := Lib.hid (old_then HO.out hO4)
  clear hO4
  go_wp2
  go_ret
  exact ⟨rfl, HO4.out⟩
end Go.Proofs.Ytlbehhbicmmdoaa
