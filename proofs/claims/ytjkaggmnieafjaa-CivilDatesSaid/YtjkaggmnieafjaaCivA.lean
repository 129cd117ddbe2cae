/-
  The law's 'awake' of layer 4 returns true.
  No condition.
-/
import Derived.Test.YtjkaggmnieafjaaCiv6
namespace Go.Proofs.Ytjkaggmnieafjaa
open Go.RowKit
set_option linter.unusedVariables false

theorem from_zero (w : World) : Calls Try.prog 14 #[.int .i64 0] w fun e w' => e = .returned (.tuple #[civV 1970 1 1 0 0 4, .int .i64 0]) ∧ Below w.heap.size w w' :=
  (from_yes 0 w (by omega) (by omega)).mono fun e w' ⟨a, b⟩ => ⟨by rw [a]; rfl, b⟩
theorem to_leap (w : World) : Calls Try.prog 16 #[civV 2000 2 29 12 30 0] w fun e w' => e = .returned (.tuple #[.int .i64 15863790, .int .i64 0]) ∧ Below w.heap.size w w' :=
  (to_yes 2000 2 29 12 30 0 w ⟨by decide, by decide, by decide, by decide, by decide, by decide⟩ (by decide) (by decide) (by decide) (by decide)).mono fun e w' ⟨a, b⟩ => ⟨by rw [a]; rfl, b⟩
theorem nth_march (w : World) : Calls Try.prog 20 #[.int .i64 2024, .int .i64 3, .int .i64 5, .int .i64 0] w fun e w' => e = .returned (.int .i64 31) ∧ w = w' :=
  (nth_calls 2024 3 5 0 w).mono fun e w' ⟨a, b⟩ => ⟨by rw [a]; rfl, b⟩

theorem civil_awake (w : World) : Calls Try.prog 13 #[] w fun e w' => e = .returned (.bool true) ∧ Below w.heap.size w w' := by
  go_enter Try.func13, Try.ntmps13
  go_wp2_with fail
  refine (from_zero _).mono ?_
  rintro e w1 ⟨rfl, hb1⟩
  go_wp2_with fail
  refine (to_leap _).mono ?_
  rintro e w2 ⟨rfl, hb2⟩
  have hB : Blk w2 w1.heap.size 26 (civC 1970 1 1 0 0 4) := (Blk.new w1 _ _).bel hb2
  have hc := hB.cells
  go_wp2_with fail
  refine (nth_march _).mono ?_
  rintro e w' ⟨rfl, rfl⟩
  go_wp2_with fail
  go_ret
  refine ⟨rfl, ?_⟩
  have h1 := hb1.alloc hb1.size (.cells (civC 1970 1 1 0 0 4) 26)
  exact h1.trans (hb2.mono h1.size)
end Go.Proofs.Ytjkaggmnieafjaa
