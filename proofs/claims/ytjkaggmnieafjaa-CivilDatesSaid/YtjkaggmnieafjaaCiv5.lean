/-
  Contracts of the reference's To and Nth.
  Conditions: each theorem's own bounds.
-/
import Derived.Test.YtjkaggmnieafjaaCiv4
import Derived.Test.YtjkaggmnieafjaaKit3
namespace Go.Proofs.Ytjkaggmnieafjaa
open Go.RowKit
set_option linter.unusedVariables false

set_option maxHeartbeats 2000000 in
theorem rto_no_core (y m d h n k r : Int) (w : World) (hr : Hid (Cal.dim y m = r)) (hx : d < 1 ∨ r < d ∨ h < 0 ∨ 23 < h ∨ n < 0 ∨ 59 < n) :
    Calls Try.prog 17 #[civV y m d h n k] w fun e w' => e = .returned (.tuple #[.int .i64 0, .int .i64 30]) ∧ Below w.heap.size w w' := by
  have HD : ∀ W : World, Calls Try.prog 19 #[.int .i64 y, .int .i64 m] W fun e w' => e = .returned (.int .i64 r) ∧ Below W.heap.size W w' := fun W =>
    (rdays_calls y m W).mono fun e w' ⟨a, b⟩ => ⟨by rw [a, hr.out], b⟩
  have H := Lib.hid HD
  clear HD
  have hc : ∀ (x : InS (Since1 w w.heap.size 26 (civC y m d h n k))) i, x.val.cell? ⟨w.heap.size, i, none⟩ = (civC y m d h n k)[i]? := fun x => x.ok.2.cells
  have hne : Nonempty (InS (Since1 w w.heap.size 26 (civC y m d h n k))) := ⟨⟨_, Since1.new _ _ _⟩⟩
  refine to_ways r hx ?_ ?_ ?_ ?_ ?_ ?_ <;> clear hx
  all_goals
    intros
    go_enter Try.func17, Try.ntmps17
    go_wp2_with fail
    refine wp_region_in (Since1 w w.heap.size 26 (civC y m d h n k)) (by kernel_rfl) (by kernel_rfl) (Since1.new _ _ _) ?_
    repeat (go_big_quiet_step ((go_at_call 19; exact calls_in_bel Since1.keep (H.out _))))
    refine wpQuiet_nil ?_
    rintro _ ⟨x, rfl⟩
    go_wp2
    go_ret2
    exact ⟨rfl, x.ok.1⟩
theorem rto_no (y m d h n k : Int) (w : World) (hx : d < 1 ∨ Cal.dim y m < d ∨ h < 0 ∨ 23 < h ∨ n < 0 ∨ 59 < n) :
    Calls Try.prog 17 #[civV y m d h n k] w fun e w' => e = .returned (.tuple #[.int .i64 0, .int .i64 30]) ∧ Below w.heap.size w w' :=
  rto_no_core y m d h n k _ w (Lib.hid rfl) hx

set_option maxHeartbeats 2000000 in
theorem rto_yes_core (y m d h n k r : Int) (w : World) (hr : Hid (Cal.dim y m = r)) (g0 : 1970 ≤ y) (g1 : y ≤ 2399) (g2 : 1 ≤ m) (g3 : m ≤ 12) (g4 : 1 ≤ d) (g5 : d ≤ r) (g5' : r ≤ 31) (g6 : 0 ≤ h) (g7 : h ≤ 23) (g8 : 0 ≤ n) (g9 : n ≤ 59)
    (q0 : 0 ≤ Cal.num y m d) (q1 : Cal.num y m d ≤ 157053) :
    Calls Try.prog 17 #[civV y m d h n k] w fun e w' => e = .returned (.tuple #[.int .i64 (mins y m d h n), .int .i64 0]) ∧ Below w.heap.size w w' := by
  have HD : ∀ W : World, Calls Try.prog 19 #[.int .i64 y, .int .i64 m] W fun e w' => e = .returned (.int .i64 r) ∧ Below W.heap.size W w' := fun W =>
    (rdays_calls y m W).mono fun e w' ⟨a, b⟩ => ⟨by rw [a, hr.out], b⟩
  have H := Lib.hid HD
  clear HD
  have a1 : decide (d < 1) = false := dec_f (by omega)
  have a2 : decide (r < d) = false := dec_f (by omega)
  have a3 : decide (h < 0) = false := dec_f (by omega)
  have a4 : decide (23 < h) = false := dec_f (by omega)
  have a5 : decide (n < 0) = false := dec_f (by omega)
  have a6 : decide (59 < n) = false := dec_f (by omega)
  have hc : ∀ (x : InS (Since1 w w.heap.size 26 (civC y m d h n k))) i, x.val.cell? ⟨w.heap.size, i, none⟩ = (civC y m d h n k)[i]? := fun x => x.ok.2.cells
  have hne : Nonempty (InS (Since1 w w.heap.size 26 (civC y m d h n k))) := ⟨⟨_, Since1.new _ _ _⟩⟩
  go_enter Try.func17, Try.ntmps17
  go_wp2_with fail
  refine wp_region_in (Since1 w w.heap.size 26 (civC y m d h n k)) (by kernel_rfl) (by kernel_rfl) (Since1.new _ _ _) ?_
  repeat (go_big_quiet_step ((go_at_call 19; exact calls_in_bel Since1.keep (H.out _))))
  refine wpQuiet_nil ?_
  intro W hW
  have hs := in_ok hW
  clear hW
  clear hc hne a1 a2 a3 a4 a5 a6 H
  have c1 := hs.2.cells
  go_wp2_with fail
  go_loopg [4, 5] (y - 1970).toNat (fun k v4 v5 w' => w' = W ∧ ∃ j : Int, 1970 ≤ j ∧ j + k = y ∧ v5 = .int .i64 j ∧ v4 = .int .i64 (d - 1 + Cal.dby j))
  case atStart => exact ⟨rfl, 1970, by omega, by omega, rfl, by rw [Cal.dby_1970]; simp⟩
  case round =>
    obtain ⟨rfl, j, hj0, hj1, rfl, rfl⟩ := hrel
    have hb := Cal.dby_mono (show 1970 ≤ j by omega)
    have hb' := Cal.dby_mono (show j ≤ 2399 by omega)
    rw [Cal.dby_1970] at hb
    have hb2 : Cal.dby 2399 = 156689 := by decide
    rw [hb2] at hb'
    clear hb2
    have hl := lp_bd j
    have hsc := Cal.dby_succ j
    have HS := Lib.hid hsc
    have HJ := Lib.hid hj1
    by_cases hlt : j < y
    · have hgk : 0 < gk := by omega
      clear hsc hj1
      go_wp2_with (go_at_call 34; refine (ryear_calls _ _ (by omega)).mono ?_; rintro e w' ⟨rfl, rfl⟩)
      go_roundg (gk - 1)
      case rel =>
        have := HJ.out
        exact ⟨rfl, j + 1, by omega, by omega, rfl, by rw [HS.out]; congr 1; omega⟩
      case measure => omega
    · obtain rfl : j = y := by omega
      clear hsc hj1
      go_wp2_with fail
      go_loopg [4, 6] (m - 1).toNat (fun k4 v4 v6 wr => ∃ i : Int, 1 ≤ i ∧ i + k4 = m ∧ v6 = .int .i64 i ∧ v4 = .int .i64 (d - 1 + Cal.dby j + Cal.cum j i) ∧ Since1 w w.heap.size 26 (civC j m d h n k) wr)
      case atStart => exact ⟨1, by omega, by omega, rfl, by rw [Cal.cum_1]; simp, hs⟩
      case round =>
        obtain ⟨i, hi0, hi1, rfl, rfl, hs'⟩ := hrel
        have c1 := hs'.2.cells
        have hcb := Cal.cum_bd j i (by omega) (by omega) (by omega) (by omega)
        have hd := Cal.dim_bd j i
        have hsc := Cal.cum_succ j i (by omega) (by omega) (by omega) (by omega)
        have HS2 := Lib.hid hsc
        have HI := Lib.hid hi1
        by_cases hlt2 : i < m
        · have hgk : 0 < gk := by omega
          clear hsc hi1
          go_wp2_with fail
          refine (rdays_calls _ _ _).mono ?_
          rintro e w1 ⟨rfl, hb1⟩
          go_wp2_with fail
          go_roundg (gk - 1)
          case rel =>
            have := HI.out
            exact ⟨i + 1, by omega, by omega, rfl, by rw [HS2.out]; congr 1; omega, Since1.keep _ _ hs' hb1⟩
          case measure => omega
        · obtain rfl : i = m := by omega
          clear hsc hi1
          have q2 : 0 ≤ d - 1 + Cal.dby j + Cal.cum j i ∧ d - 1 + Cal.dby j + Cal.cum j i ≤ 157053 := by unfold Cal.num at q0 q1; omega
          go_wp2_with fail
          go_ret2
          refine ⟨?_, hs'.1⟩
          have he : (d - 1 + Cal.dby j + Cal.cum j i) * 1440 + h * 60 + n = mins j i d h n := by unfold mins Cal.num; omega
          rw [← he]
          rfl
theorem rto_yes (y m d h n k : Int) (w : World) (g : Cal.Ok y m d) (g6 : 0 ≤ h) (g7 : h ≤ 23) (g8 : 0 ≤ n) (g9 : n ≤ 59) :
    Calls Try.prog 17 #[civV y m d h n k] w fun e w' => e = .returned (.tuple #[.int .i64 (mins y m d h n), .int .i64 0]) ∧ Below w.heap.size w w' :=
  rto_yes_core y m d h n k _ w (Lib.hid rfl) g.y0 g.y1 g.m0 g.m1 g.d0 g.d1 (Cal.dim_bd y m).2 g6 g7 g8 g9 (Cal.num_rng g).1 (Cal.num_rng g).2

theorem rnth_no_core (y m k d r : Int) (w : World) (hr : Hid (Cal.dim y m = r)) (hx : r = 0 ∨ k < 1 ∨ 5 < k ∨ d < 0 ∨ 6 < d) :
    Calls Try.prog 21 #[.int .i64 y, .int .i64 m, .int .i64 k, .int .i64 d] w fun e w' => e = .returned (.int .i64 0) ∧ Below w.heap.size w w' := by
  have HD : ∀ W : World, Calls Try.prog 19 #[.int .i64 y, .int .i64 m] W fun e w' => e = .returned (.int .i64 r) ∧ Below W.heap.size W w' := fun W =>
    (rdays_calls y m W).mono fun e w' ⟨a, b⟩ => ⟨by rw [a, hr.out], b⟩
  have H := Lib.hid HD
  clear HD
  by_cases a0 : r = 0
  · subst a0
    clear hx
    go_enter Try.func21, Try.ntmps21
    go_wp2_with (go_at_call 19; refine (H.out _).mono ?_; rintro e w1 ⟨rfl, hb1⟩)
    go_ret
    exact ⟨rfl, hb1⟩
  · have b0 : (r == 0) = false := by simpa using a0
    rcases (show k < 1 ∨ 5 < k ∨ d < 0 ∨ 6 < d by omega) with h | h | h | h <;> clear hx a0
    all_goals
      go_enter Try.func21, Try.ntmps21
      go_wp2_with (go_at_call 19; refine (H.out _).mono ?_; rintro e w1 ⟨rfl, hb1⟩)
      all_goals
        go_ret
        exact ⟨rfl, hb1⟩
end Go.Proofs.Ytjkaggmnieafjaa
