/-
  Contracts of civil.leap, civil.Days, civil.number and of the reference's Leap, Days, year.
  Conditions: each theorem's own bounds on years and months.
-/
import Derived.Test.YtjkaggmnieafjaaKit
import Derived.Test.YtjkaggmnieafjaaCal
namespace Go.Proofs.Ytjkaggmnieafjaa
open Go.RowKit


def leapB (y : Int) : Bool := decide (y % 4 = 0 ∧ (y % 100 ≠ 0 ∨ y % 400 = 0))
theorem lp_leapB (y : Int) : Cal.lp y = if leapB y = true then 1 else 0 := by unfold Cal.lp leapB; simp

theorem leap_calls (y : Int) (w : World) (h0 : 0 ≤ y) :
    Calls Try.prog 35 #[.int .i64 y] w fun e w' => e = .returned (.bool (leapB y)) ∧ w = w' := by
  go_enter Try.func35, Try.ntmps35
  go_wp2
  all_goals
    go_ret
    exact ⟨ret_bool (by rw [Bool.eq_iff_iff]; simp [leapB]; omega), rfl⟩
theorem rleap_calls (y : Int) (w : World) (h0 : 0 ≤ y) :
    Calls Try.prog 36 #[.int .i64 y] w fun e w' => e = .returned (.bool (leapB y)) ∧ w = w' := by
  go_enter Try.func36, Try.ntmps36
  go_wp2
  all_goals
    go_ret
    exact ⟨ret_bool (by rw [Bool.eq_iff_iff]; simp [leapB]; omega), rfl⟩

/-- the ways of 'Days': outside, or a leap year or not and a month -/
theorem dim_ways (P : Int → Prop) (y m : Int) (a : (y < 1970 ∨ 2399 < y ∨ m < 1 ∨ 12 < m) → P 0)
    (b : 1970 ≤ y → y ≤ 2399 → m = 2 → leapB y = true → P 29) (c : 1970 ≤ y → y ≤ 2399 → m = 2 → leapB y = false → P 28)
    (d : 1970 ≤ y → y ≤ 2399 → (m = 4 ∨ m = 6 ∨ m = 9 ∨ m = 11) → P 30)
    (f : 1970 ≤ y → y ≤ 2399 → (m = 1 ∨ m = 3 ∨ m = 5 ∨ m = 7 ∨ m = 8 ∨ m = 10 ∨ m = 12) → P 31) : P (Cal.dim y m) := by
  have hl := lp_leapB y
  unfold Cal.dim
  split
  · exact a (by omega)
  · split
    · rcases hL : leapB y with _ | _
      · rw [hl, hL]; exact c (by omega) (by omega) (by omega) hL
      · rw [hl, hL]; exact b (by omega) (by omega) (by omega) hL
    · split
      · exact d (by omega) (by omega) (by omega)
      · exact f (by omega) (by omega) (by omega)

set_option maxHeartbeats 1000000 in
theorem days_calls (y m : Int) (w : World) :
    Calls Try.prog 18 #[.int .i64 y, .int .i64 m] w fun e w' => e = .returned (.int .i64 (Cal.dim y m)) ∧ w = w' := by
  refine dim_ways (fun r => Calls Try.prog 18 #[.int .i64 y, .int .i64 m] w fun e w' => e = .returned (.int .i64 r) ∧ w = w') y m ?_ ?_ ?_ ?_ ?_
  · rintro (h | h | h | h)
    all_goals
      go_enter Try.func18, Try.ntmps18
      go_wp2_with fail
      all_goals
        go_ret
        exact ⟨rfl, rfl⟩
  · rintro h1 h2 rfl hL
    have t1 : decide (y < 1970) = false := by simp; omega
    have t2 : decide (2399 < y) = false := by simp; omega
    go_enter Try.func18, Try.ntmps18
    go_wp2_with (go_at_call 35; refine (leap_calls _ _ (by omega)).mono ?_; rintro e w' ⟨rfl, rfl⟩)
    go_ret
    exact ⟨rfl, rfl⟩
  · rintro h1 h2 rfl hL
    have t1 : decide (y < 1970) = false := by simp; omega
    have t2 : decide (2399 < y) = false := by simp; omega
    go_enter Try.func18, Try.ntmps18
    go_wp2_with (go_at_call 35; refine (leap_calls _ _ (by omega)).mono ?_; rintro e w' ⟨rfl, rfl⟩)
    go_ret
    exact ⟨rfl, rfl⟩
  · rintro h1 h2 (rfl | rfl | rfl | rfl)
    all_goals
      have t1 : decide (y < 1970) = false := by simp; omega
      have t2 : decide (2399 < y) = false := by simp; omega
      go_enter Try.func18, Try.ntmps18
      go_wp2_with fail
      go_ret
      exact ⟨rfl, rfl⟩
  · rintro h1 h2 (rfl | rfl | rfl | rfl | rfl | rfl | rfl)
    all_goals
      have t1 : decide (y < 1970) = false := by simp; omega
      have t2 : decide (2399 < y) = false := by simp; omega
      go_enter Try.func18, Try.ntmps18
      go_wp2_with fail
      go_ret
      exact ⟨rfl, rfl⟩
set_option maxHeartbeats 1000000 in
theorem rdays_calls (y m : Int) (w : World) :
    Calls Try.prog 19 #[.int .i64 y, .int .i64 m] w fun e w' => e = .returned (.int .i64 (Cal.dim y m)) ∧ Below w.heap.size w w' := by
  refine dim_ways (fun r => Calls Try.prog 19 #[.int .i64 y, .int .i64 m] w fun e w' => e = .returned (.int .i64 r) ∧ Below w.heap.size w w') y m ?_ ?_ ?_ ?_ ?_
  · rintro (h | h | h | h)
    all_goals
      go_enter Try.func19, Try.ntmps19
      go_wp2_with fail
      all_goals
        go_ret
        exact ⟨rfl, Below.refl _ _⟩
  · rintro h1 h2 rfl hL
    have t1 : decide (y < 1970) = false := by simp; omega
    have t2 : decide (2399 < y) = false := by simp; omega
    go_enter Try.func19, Try.ntmps19
    go_wp2_with (go_at_call 36; refine (rleap_calls _ _ (by omega)).mono ?_; rintro e w' ⟨rfl, rfl⟩)
    go_ret
    exact ⟨rfl, (Below.refl _ _).alloc (Nat.le_refl _) _⟩
  · rintro h1 h2 rfl hL
    have t1 : decide (y < 1970) = false := by simp; omega
    have t2 : decide (2399 < y) = false := by simp; omega
    go_enter Try.func19, Try.ntmps19
    go_wp2_with (go_at_call 36; refine (rleap_calls _ _ (by omega)).mono ?_; rintro e w' ⟨rfl, rfl⟩)
    go_ret
    exact ⟨rfl, (Below.refl _ _).alloc (Nat.le_refl _) _⟩
  · rintro h1 h2 (rfl | rfl | rfl | rfl)
    all_goals
      have t1 : decide (y < 1970) = false := by simp; omega
      have t2 : decide (2399 < y) = false := by simp; omega
      go_enter Try.func19, Try.ntmps19
      go_wp2_with fail
      go_ret
      exact ⟨rfl, (Below.refl _ _).alloc (Nat.le_refl _) _⟩
  · rintro h1 h2 (rfl | rfl | rfl | rfl | rfl | rfl | rfl)
    all_goals
      have t1 : decide (y < 1970) = false := by simp; omega
      have t2 : decide (2399 < y) = false := by simp; omega
      go_enter Try.func19, Try.ntmps19
      go_wp2_with fail
      go_ret
      exact ⟨rfl, (Below.refl _ _).alloc (Nat.le_refl _) _⟩
end Go.Proofs.Ytjkaggmnieafjaa
