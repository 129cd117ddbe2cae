/-
  Contracts of civil.To and civil.Nth.
  Conditions: each theorem's own bounds.
-/
import Derived.Test.YtjkaggmnieafjaaCiv2
namespace Go.Proofs.Ytjkaggmnieafjaa
open Go.RowKit

/-- the ways out of 'To' ahead of its sum -/
theorem to_ways {d h n : Int} {X : Prop} (r : Int) (hx : d < 1 ∨ r < d ∨ h < 0 ∨ 23 < h ∨ n < 0 ∨ 59 < n)
    (c1 : d < 1 → X) (c2 : 1 ≤ d → decide (d < 1) = false → r < d → X) (c3 : decide (d < 1) = false → decide (r < d) = false → h < 0 → X)
    (c4 : decide (d < 1) = false → decide (r < d) = false → decide (h < 0) = false → 23 < h → X)
    (c5 : decide (d < 1) = false → decide (r < d) = false → decide (h < 0) = false → decide (23 < h) = false → n < 0 → X)
    (c6 : decide (d < 1) = false → decide (r < d) = false → decide (h < 0) = false → decide (23 < h) = false → decide (n < 0) = false → 59 < n → X) : X := by
  by_cases a1 : d < 1
  · exact c1 a1
  · by_cases a2 : r < d
    · exact c2 (by omega) (dec_f a1) a2
    · by_cases a3 : h < 0
      · exact c3 (dec_f a1) (dec_f a2) a3
      · by_cases a4 : 23 < h
        · exact c4 (dec_f a1) (dec_f a2) (dec_f a3) a4
        · by_cases a5 : n < 0
          · exact c5 (dec_f a1) (dec_f a2) (dec_f a3) (dec_f a4) a5
          · exact c6 (dec_f a1) (dec_f a2) (dec_f a3) (dec_f a4) (dec_f a5) (by omega)

set_option maxHeartbeats 2000000 in
theorem to_no_core (y m d h n k r : Int) (w : World) (hr : Hid (Cal.dim y m = r)) (hx : d < 1 ∨ r < d ∨ h < 0 ∨ 23 < h ∨ n < 0 ∨ 59 < n) :
    Calls Try.prog 16 #[civV y m d h n k] w fun e w' => e = .returned (.tuple #[.int .i64 0, .int .i64 30]) ∧ Below w.heap.size w w' := by
  have HD : ∀ W : World, Calls Try.prog 18 #[.int .i64 y, .int .i64 m] W fun e w' => e = .returned (.int .i64 r) ∧ W = w' := fun W =>
    (days_calls y m W).mono fun e w' ⟨a, b⟩ => ⟨by rw [a, hr.out], b⟩
  have H := Lib.hid HD
  clear HD
  refine to_ways r hx ?_ ?_ ?_ ?_ ?_ ?_ <;> clear hx
  all_goals
    intros
    go_enter Try.func16, Try.ntmps16
    go_wp2_with fail
    go_quiet ((go_at_call 18; exact quiet_of_eq (H.out _)))
    go_wp2
    go_ret2
    exact ⟨rfl, bel_drewN ((Below.refl _ _).alloc (Nat.le_refl _) _) _⟩
theorem to_no (y m d h n k : Int) (w : World) (hx : d < 1 ∨ Cal.dim y m < d ∨ h < 0 ∨ 23 < h ∨ n < 0 ∨ 59 < n) :
    Calls Try.prog 16 #[civV y m d h n k] w fun e w' => e = .returned (.tuple #[.int .i64 0, .int .i64 30]) ∧ Below w.heap.size w w' :=
  to_no_core y m d h n k _ w (Lib.hid rfl) hx

set_option maxHeartbeats 2000000 in
theorem to_yes_core (y m d h n k r q : Int) (w : World) (hr : Hid (Cal.dim y m = r)) (hq : Hid (Cal.num y m d = q)) (g0 : 1970 ≤ y) (g1 : y ≤ 2399) (g2 : 1 ≤ m) (g3 : m ≤ 12) (g4 : 1 ≤ d) (g5 : d ≤ r) (g5' : r ≤ 31) (g6 : 0 ≤ h) (g7 : h ≤ 23) (g8 : 0 ≤ n) (g9 : n ≤ 59) (q0 : 0 ≤ q) (q1 : q ≤ 157053) :
    Calls Try.prog 16 #[civV y m d h n k] w fun e w' => e = .returned (.tuple #[.int .i64 (q * 1440 + (60 * h + n)), .int .i64 0]) ∧ Below w.heap.size w w' := by
  have HD : ∀ W : World, Calls Try.prog 18 #[.int .i64 y, .int .i64 m] W fun e w' => e = .returned (.int .i64 r) ∧ W = w' := fun W =>
    (days_calls y m W).mono fun e w' ⟨a, b⟩ => ⟨by rw [a, hr.out], b⟩
  have H := Lib.hid HD
  have ND : ∀ W : World, Calls Try.prog 33 #[.int .i64 y, .int .i64 m, .int .i64 d] W fun e w' => e = .returned (.int .i64 q) ∧ W = w' := fun W =>
    (number_calls y m d W (by omega) (by omega) g2 g3 (by omega) (by omega)).mono fun e w' ⟨a, b⟩ => ⟨by rw [a, hq.out], b⟩
  have N := Lib.hid ND
  clear HD ND
  have a1 : decide (d < 1) = false := dec_f (by omega)
  have a2 : decide (r < d) = false := dec_f (by omega)
  have a3 : decide (h < 0) = false := dec_f (by omega)
  have a4 : decide (23 < h) = false := dec_f (by omega)
  have a5 : decide (n < 0) = false := dec_f (by omega)
  have a6 : decide (59 < n) = false := dec_f (by omega)
  go_enter Try.func16, Try.ntmps16
  go_wp2_with fail
  go_quiet ((go_at_call 18; exact quiet_of_eq (H.out _)))
  go_wp2_with fail
  go_quiet ((go_at_call 33; first | exact quiet_of_eq2 (N.out _) | exact quiet_of_eq (N.out _)))
  go_wp2
  go_ret2
  exact ⟨rfl, bel_drewN (bel_drewN ((Below.refl _ _).alloc (Nat.le_refl _) _) _) _⟩
/-- minutes of a date -/
def mins (y m d h n : Int) : Int := Cal.num y m d * 1440 + (60 * h + n)
theorem to_yes (y m d h n k : Int) (w : World) (g : Cal.Ok y m d) (g6 : 0 ≤ h) (g7 : h ≤ 23) (g8 : 0 ≤ n) (g9 : n ≤ 59) :
    Calls Try.prog 16 #[civV y m d h n k] w fun e w' => e = .returned (.tuple #[.int .i64 (mins y m d h n), .int .i64 0]) ∧ Below w.heap.size w w' :=
  to_yes_core y m d h n k _ _ w (Lib.hid rfl) (Lib.hid rfl) g.y0 g.y1 g.m0 g.m1 g.d0 g.d1 (Cal.dim_bd y m).2 g6 g7 g8 g9 (Cal.num_rng g).1 (Cal.num_rng g).2

/-- the first day of a month that is a given weekday -/
def fstDay (y m d : Int) : Int := 1 + (d - (Cal.num y m 1 + 4) % 7 + 7) % 7
/-- the n-th weekday of a month -/
def nthF (y m k d : Int) : Int :=
  if Cal.dim y m = 0 ∨ k < 1 ∨ 5 < k ∨ d < 0 ∨ 6 < d then 0
  else if k ≤ 4 then fstDay y m d + 7 * (k - 1) else if fstDay y m d + 28 ≤ Cal.dim y m then fstDay y m d + 28 else fstDay y m d + 21

theorem nth_no_core (y m k d r : Int) (w : World) (hr : Hid (Cal.dim y m = r)) (hx : r = 0 ∨ k < 1 ∨ 5 < k ∨ d < 0 ∨ 6 < d) :
    Calls Try.prog 20 #[.int .i64 y, .int .i64 m, .int .i64 k, .int .i64 d] w fun e w' => e = .returned (.int .i64 0) ∧ w = w' := by
  have HD : ∀ W : World, Calls Try.prog 18 #[.int .i64 y, .int .i64 m] W fun e w' => e = .returned (.int .i64 r) ∧ W = w' := fun W =>
    (days_calls y m W).mono fun e w' ⟨a, b⟩ => ⟨by rw [a, hr.out], b⟩
  have H := Lib.hid HD
  clear HD
  by_cases a0 : r = 0
  · subst a0
    clear hx
    go_enter Try.func20, Try.ntmps20
    go_wp2_with (go_at_call 18; refine (H.out _).mono ?_; rintro e w' ⟨rfl, rfl⟩)
    go_ret
    exact ⟨rfl, rfl⟩
  · have b0 : (r == 0) = false := by simpa using a0
    rcases (show k < 1 ∨ 5 < k ∨ d < 0 ∨ 6 < d by omega) with h | h | h | h <;> clear hx a0
    all_goals
      go_enter Try.func20, Try.ntmps20
      go_wp2_with (go_at_call 18; refine (H.out _).mono ?_; rintro e w' ⟨rfl, rfl⟩)
      all_goals
        go_ret
        exact ⟨rfl, rfl⟩
end Go.Proofs.Ytjkaggmnieafjaa
