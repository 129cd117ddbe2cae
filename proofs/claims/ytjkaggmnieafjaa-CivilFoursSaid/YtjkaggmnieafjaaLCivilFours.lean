/-
  The statement CivilFours: 400 years later it is the same month, day, minute and weekday.
  No condition.
-/
import Derived.Test.YtjkaggmnieafjaaCivA
import Derived.Test.YtjkaggmnieafjaaFrame
namespace Go.Proofs.Ytjkaggmnieafjaa.lawCivilFours
open Go.ChangeShapes Go.WideShapes Go.ChangeAt Go.RowKit
set_option linter.unusedVariables false

theorem lp_400 (y : Int) : Cal.lp (y + 400) = Cal.lp y := by
  have h : (y + 400) % 4 = y % 4 ∧ (y + 400) % 100 = y % 100 ∧ (y + 400) % 400 = y % 400 := by omega
  unfold Cal.lp; rw [h.1, h.2.1, h.2.2]
theorem dby_400 (y : Int) : Cal.dby (y + 400) = Cal.dby y + 146097 := by unfold Cal.dby; omega
theorem cum_400 (y m : Int) : Cal.cum (y + 400) m = Cal.cum y m := by unfold Cal.cum; rw [lp_400]
theorem num_400 (y m d : Int) : Cal.num (y + 400) m d = Cal.num y m d + 146097 := by unfold Cal.num; rw [dby_400, cum_400]; omega

theorem dim_400 {y : Int} (a : 1970 ≤ y) (b : y ≤ 1999) (m : Int) : Cal.dim (y + 400) m = Cal.dim y m := by
  have e : (y + 400 < 1970 ∨ 2399 < y + 400 ∨ m < 1 ∨ 12 < m) ↔ (y < 1970 ∨ 2399 < y ∨ m < 1 ∨ 12 < m) := by omega
  unfold Cal.dim
  simp only [e, lp_400]

theorem from_400 (t : Int) (w : World) (h0 : 0 ≤ t) (h1 : t ≤ 15778079) :
    Calls Try.prog 14 #[.int .i64 (t + 210379680)] w fun e w' => e = .returned (.tuple #[civV (Cal.yr (t / 1440) + 400) (Cal.mo (t / 1440)) (Cal.dy (t / 1440)) (t % 1440 / 60) (t % 60) ((t / 1440 + 4) % 7), .int .i64 0]) ∧ Below w.heap.size w w' := by
  have hn : (t + 210379680) / 1440 = t / 1440 + 146097 := by omega
  obtain ⟨hk, hnum⟩ := Cal.ymd_ok (n := t / 1440) (by omega) (by omega)
  have hr := Cal.yr_ok (n := t / 1440 + 146097) (by omega) (by omega)
  have hy : Cal.yr (t / 1440) ≤ 1999 := by
    rcases Int.lt_or_le 1999 (Cal.yr (t / 1440)) with h | h
    · have := Cal.dby_mono (show 2000 ≤ Cal.yr (t / 1440) by omega)
      have h2 : Cal.dby 2000 = 10957 := by decide
      have := Cal.num_bd hk
      omega
    · exact h
  have hd : Cal.dim (Cal.yr (t / 1440) + 400) (Cal.mo (t / 1440)) = Cal.dim (Cal.yr (t / 1440)) (Cal.mo (t / 1440)) := dim_400 hk.y0 hy _
  obtain ⟨e1, e2, e3⟩ := Cal.ymd_eq (n := t / 1440 + 146097) (y := Cal.yr (t / 1440) + 400) (m := Cal.mo (t / 1440)) (d := Cal.dy (t / 1440))
    ⟨by have := hk.y0; omega, by omega, hk.m0, hk.m1, hk.d0, by rw [hd]; exact hk.d1⟩ (by rw [num_400, hnum])
  refine (from_yes (t + 210379680) w (by omega) (by omega)).mono fun e w' ⟨a, b⟩ => ⟨?_, b⟩
  rw [a, hn, e1, e2, e3, show (t + 210379680) % 1440 = t % 1440 from by omega, show (t + 210379680) % 60 = t % 60 from by omega, show (t / 1440 + 146097 + 4) % 7 = (t / 1440 + 4) % 7 from by omega]

theorem walk_core (t y m d h n k : Int) (w : World) (h0 : 0 ≤ t) (h1 : t ≤ 15778079) (y0 : 1970 ≤ y) (y1 : y ≤ 2399)
    (F1 : Hid (∀ W : World, Calls Try.prog 14 #[.int .i64 t] W fun e w' => e = .returned (.tuple #[civV y m d h n k, .int .i64 0]) ∧ Below W.heap.size W w'))
    (F2 : Hid (∀ W : World, Calls Try.prog 14 #[.int .i64 (t + 210379680)] W fun e w' => e = .returned (.tuple #[civV (y + 400) m d h n k, .int .i64 0]) ∧ Below W.heap.size W w')) :
    Calls Try.prog 6 #[.int .i64 t] w fun e w' => e = .returned (.bool true) ∧ Below w.heap.size w w' := by
  have q1 : decide (t < 0) = false := dec_f (by omega)
  have q2 : decide (15778079 < t) = false := dec_f (by omega)
  go_enter Try.func6, Try.ntmps6
  go_wp2_with fail
  refine (civil_awake _).mono ?_
  rintro e w1 ⟨rfl, hb1⟩
  go_wp2_with fail
  refine (F1.out _).mono ?_
  rintro e w2 ⟨rfl, hb2⟩
  go_wp2_with fail
  refine (F2.out _).mono ?_
  rintro e w3 ⟨rfl, hb3⟩
  have hB : Blk w3 w2.heap.size 26 (civC y m d h n k) := (Blk.new w2 _ _).bel hb3
  have hc := hB.cells
  have hf := hB.free
  have hl : w2.heap.size < w3.heap.size := hB.lt
  go_wp2_with fail
  go_ret
  have h12 := hb1.trans (hb2.mono hb1.size)
  have h2a := h12.alloc h12.size (.cells (civC y m d h n k) 26)
  have h23 := h2a.trans (hb3.mono h2a.size)
  exact ⟨rfl, (h23.setCell h12.size _).alloc (by simp [World.setCell]; exact h23.size) _⟩

theorem walk (t : Int) (w : World) :
    Calls Try.prog 6 #[.int .i64 t] w fun e w' => e = .returned (.bool true) ∧ Below w.heap.size w w' := by
  by_cases hx : t < 0 ∨ 15778079 < t
  · rcases hx with hx | hx
    all_goals
      go_enter Try.func6, Try.ntmps6
      go_wp2_with fail
      refine (civil_awake _).mono ?_
      rintro e w1 ⟨rfl, hb1⟩
      go_wp2_with fail
      go_ret
      exact ⟨rfl, hb1⟩
  · obtain ⟨hk, hnum⟩ := Cal.ymd_ok (n := t / 1440) (by omega) (by omega)
    exact walk_core t _ _ _ _ _ _ w (by omega) (by omega) hk.y0 hk.y1 (Lib.hid fun W => from_yes t W (by omega) (by omega)) (Lib.hid fun W => from_400 t W (by omega) (by omega))

set_option maxRecDepth 100000 in
theorem walks {H : Type} (enc : TypeId × Value → H) : Walks enc Try.prog 6 Try.f6 := by
  intro W base args ds ps hval hA hwt
  rw [Try.params6] at hA hval
  obtain ⟨v0, vs0, d0, ds0, p0, q0, hargs, rfl, rfl, h0, r0⟩ := trodAll_cons hA
  obtain ⟨rfl, rfl, rfl⟩ := trodAll_nil r0
  obtain rfl : args = #[v0] := by cases args; simp_all
  obtain ⟨a0, rfl, rfl, rfl, w0⟩ := open_int Try.underlying2 (hval 0 2 v0 rfl rfl) h0
  exact walk a0 W

set_option maxRecDepth 100000 in
theorem lifted (os : Os) (started : os.Started) (H : Type) (enc : TypeId × Value → H) :
    ReturnsInHanded {} Try.checked os 6 .any (Rows.civilFoursSpec.pre6 enc Try.prog Try.f6 Rows.civilFoursRow.domain false) (Rows.civilFoursSpec.post enc Try.prog Try.f6 false true false false) :=
  frame_lifted (C := Try.checked) own started (by kernel_rfl) Try.func6
    (ChangeSpec.witness6 (enc := enc) (C := Try.checked) false ⟨#[], #[.int .i64 0], []⟩ 8 (by kernel_rfl) (by kernel_rfl) (by kernel_rfl) (by kernel_rfl)) laidOut (by kernel_rfl) rfl (by rfl) Try.underlying4
    (fun ds h => match ds, h with | [d0], _ => ⟨rfl, rfl, rfl⟩) (walks enc)

theorem over : Rows.civilFoursRow.holds Try.pinned (OpenSpec.ofChange Rows.civilFoursSpec) :=
  OpenClaim.holds_of_wide 6 Try.f6 rfl rfl rfl rfl rfl rfl rfl ⟨rfl, rfl, rfl, rfl, rfl⟩ rfl rfl rfl rfl rfl (by kernel_rfl) Try.func6 (by kernel_rfl)
    (of_decide_eq_true (by kernel_rfl)) (by unfold Func.isWrapper; first | (rw [if_pos (by decide +kernel)]; kernel_rfl) | (rw [if_neg (by decide +kernel)]; exact ⟨rfl, rfl⟩))
    (fun os started H enc _ => lifted os started H enc)

/-- the statement -/
theorem proved : Rows.CivilFoursSaid := over
end Go.Proofs.Ytjkaggmnieafjaa.lawCivilFours
