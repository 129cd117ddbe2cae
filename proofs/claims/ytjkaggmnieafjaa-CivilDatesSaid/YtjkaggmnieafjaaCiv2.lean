/-
  Contracts of civil.number and civil.From.
  Conditions: each theorem's own bounds.
-/
import Derived.Test.YtjkaggmnieafjaaCiv1
namespace Go.Proofs.Ytjkaggmnieafjaa
open Go.RowKit

set_option maxHeartbeats 1000000 in
theorem number_calls (y m d : Int) (w : World) (h0 : 1 ≤ y) (h1 : y ≤ 10000) (h2 : 1 ≤ m) (h3 : m ≤ 12) (h4 : 0 ≤ d) (h5 : d ≤ 1000) :
    Calls Try.prog 33 #[.int .i64 y, .int .i64 m, .int .i64 d] w fun e w' => e = .returned (.int .i64 (Cal.num y m d)) ∧ w = w' := by
  by_cases hm : m ≤ 2
  · go_enter Try.func33, Try.ntmps33
    go_wp2
    go_ret
    exact ⟨ret_int (Cal.num_code y m d h2 h3 _ _ (by rw [if_pos hm]) (by rw [if_pos hm])), rfl⟩
  · go_enter Try.func33, Try.ntmps33
    go_wp2
    go_ret
    exact ⟨ret_int (Cal.num_code y m d h2 h3 _ _ (by rw [if_neg (by omega)]) (by rw [if_neg (by omega)])), rfl⟩

/-- a minute by the calendar, as a value -/
abbrev civV (y m d h n k : Int) : Value := .agg #[.int .i64 y, .int .i64 m, .int .i64 d, .int .i64 h, .int .i64 n, .int .i64 k]
abbrev civC (y m d h n k : Int) : Array Value := #[.int .i64 y, .int .i64 m, .int .i64 d, .int .i64 h, .int .i64 n, .int .i64 k]

theorem from_no (t : Int) (w : World) (h : t < 0 ∨ 226157759 < t) :
    Calls Try.prog 14 #[.int .i64 t] w fun e w' => e = .returned (.tuple #[civV 0 0 0 0 0 0, .int .i64 30]) ∧ Below w.heap.size w w' := by
  rcases h with h | h
  all_goals
    go_enter Try.func14, Try.ntmps14
    go_wp2
    exact bodyPost_ret (v := .tuple #[civV 0 0 0 0 0 0, .int .i64 30]) (by simp [results, Try.results14, go_sem]) rfl ⟨rfl, (Below.refl _ _).alloc (Nat.le_refl _) _⟩

theorem num_first (y m : Int) : Cal.num y m 1 = Cal.dby y + Cal.cum y m := by unfold Cal.num; omega
theorem yr_is {n y : Int} (h0 : 1970 ≤ y) (h1 : y ≤ 2399) (a : Cal.dby y ≤ n) (b : n < Cal.dby (y + 1)) : Cal.yr n = y := by
  have z : 0 ≤ Cal.dby y := by have := Cal.dby_mono h0; rw [Cal.dby_1970] at this; exact this
  have z' : Cal.dby (y + 1) ≤ 157054 := by have := Cal.dby_mono (show y + 1 ≤ 2400 by omega); rw [Cal.dby_2400] at this; exact this
  obtain ⟨h2, h3, h4, h5⟩ := Cal.yr_ok (n := n) (by omega) (by omega)
  rcases Int.lt_trichotomy y (Cal.yr n) with l | l | l
  · have := Cal.dby_mono (show y + 1 ≤ Cal.yr n by omega); omega
  · exact l.symm
  · have := Cal.dby_mono (show Cal.yr n + 1 ≤ y by omega); omega

set_option maxHeartbeats 2000000 in
theorem from_yes (t : Int) (w : World) (h0 : 0 ≤ t) (h1 : t ≤ 226157759) :
    Calls Try.prog 14 #[.int .i64 t] w fun e w' => e = .returned (.tuple #[civV (Cal.yr (t / 1440)) (Cal.mo (t / 1440)) (Cal.dy (t / 1440)) (t % 1440 / 60) (t % 60) ((t / 1440 + 4) % 7), .int .i64 0]) ∧ Below w.heap.size w w' := by
  have g1 : Cal.dby (1970 + t / 1440 / 366) ≤ t / 1440 := by unfold Cal.dby; omega
  have HP : ∀ y m : Int, 1970 ≤ y → y ≤ 2399 → 1 ≤ m → m ≤ 12 → Cal.dby y ≤ t / 1440 → t / 1440 < Cal.dby (y + 1) → Cal.dby y + Cal.cum y m ≤ t / 1440 → t / 1440 < Cal.dby y + Cal.cum y (m + 1) →
      Cal.yr (t / 1440) = y ∧ Cal.mo (t / 1440) = m ∧ Cal.dy (t / 1440) = t / 1440 - (Cal.dby y + Cal.cum y m) + 1 := fun y m a b c d e f g h =>
    Cal.ymd_eq (n := t / 1440) ⟨a, b, c, d, by omega, by have := Cal.cum_succ y m a b c d; omega⟩ (by unfold Cal.num; omega)
  have HPH := Lib.hid HP
  clear HP
  go_enter Try.func14, Try.ntmps14
  go_wp2
  rw [show t % 1440 % 60 = t % 60 from by omega]
  go_loopg [] (429 - t / 1440 / 366).toNat (fun k wr => ∃ y : Int, 1970 ≤ y ∧ y + k ≤ 2399 ∧ 2399 ≤ y + k ∧ Cal.dby y ≤ t / 1440 ∧
    wr = (w.alloc (.cells (civC 0 0 0 0 0 0) 26)).alloc (.cells (civC y 0 0 (t % 1440 / 60) (t % 60) ((t / 1440 + 4) % 7)) 26))
  case atStart => exact ⟨1970 + t / 1440 / 366, by omega, by omega, by omega, g1, rfl⟩
  case round =>
    obtain ⟨y, hy0, hy1, hy2, hy3, rfl⟩ := hrel
    clear g1
    by_cases hc : y < 2399 ∧ Cal.dby (y + 1) ≤ t / 1440
    · obtain ⟨hlt, hd⟩ := hc
      have hnum : Cal.num (y + 1) 1 1 ≤ t / 1440 := by rw [num_first, Cal.cum_1]; omega
      go_wp2_with (go_at_call 33; refine (number_calls _ _ _ _ (by omega) (by omega) (by omega) (by omega) (by omega) (by omega)).mono ?_; rintro e w' ⟨rfl, rfl⟩)
      go_roundg (gk - 1)
      case rel => exact ⟨y + 1, by omega, by omega, by omega, hd, rfl⟩
      case measure => omega
    · have hz : t / 1440 < Cal.dby (y + 1) := by
        by_cases e : y = 2399
        · have : Cal.dby (y + 1) = 157054 := by rw [e]; exact Cal.dby_2400
          omega
        · omega
      clear hc
      have hnum : t / 1440 < Cal.num (y + 1) 1 1 := by rw [num_first, Cal.cum_1]; omega
      by_cases hlt : y < 2399
      all_goals
        go_wp2_with (go_at_call 33; refine (number_calls _ _ _ _ (by omega) (by omega) (by omega) (by omega) (by omega) (by omega)).mono ?_; rintro e w' ⟨rfl, rfl⟩)
        go_loopg [] 11 (fun k wr => ∃ m : Int, 1 ≤ m ∧ m + k ≤ 12 ∧ 12 ≤ m + k ∧ Cal.dby y + Cal.cum y m ≤ t / 1440 ∧
          wr = (w.alloc (.cells (civC 0 0 0 0 0 0) 26)).alloc (.cells (civC y m 0 (t % 1440 / 60) (t % 60) ((t / 1440 + 4) % 7)) 26))
        case atStart => exact ⟨1, by omega, by omega, by omega, by rw [Cal.cum_1]; omega, rfl⟩
        case round =>
          obtain ⟨m, hm0, hm1, hm2, hm3, rfl⟩ := hrel
          clear hnum
          by_cases hc : m < 12 ∧ Cal.dby y + Cal.cum y (m + 1) ≤ t / 1440
          · obtain ⟨hlm, hd⟩ := hc
            have hnum : Cal.num y (m + 1) 1 ≤ t / 1440 := by rw [num_first]; omega
            go_wp2_with (go_at_call 33; refine (number_calls _ _ _ _ (by omega) (by omega) (by omega) (by omega) (by omega) (by omega)).mono ?_; rintro e w' ⟨rfl, rfl⟩)
            go_roundg (gk - 1)
            case rel => exact ⟨m + 1, by omega, by omega, by omega, hd, rfl⟩
            case measure => omega
          · have hz2 : t / 1440 < Cal.dby y + Cal.cum y (m + 1) := by
              by_cases e : m = 12
              · have h13 : Cal.cum y (m + 1) = 365 + Cal.lp y := by rw [e]; exact Cal.cum_13 y
                have := Cal.dby_succ y
                omega
              · omega
            clear hc
            have hfin := HPH.out y m hy0 (by omega) hm0 (by omega) hy3 hz hm3 hz2
            rw [← num_first] at hfin
            have HF := Lib.hid hfin
            clear hfin
            have hnum : t / 1440 < Cal.num y (m + 1) 1 := by rw [num_first]; omega
            have hb0 : 0 ≤ Cal.num y m 1 := (Cal.num_rng ⟨hy0, by omega, hm0, by omega, by omega, by have := Cal.dim_pos hy0 (by omega) hm0 (by omega); omega⟩).1
            have hb1 : Cal.num y m 1 ≤ t / 1440 := by rw [num_first]; omega
            by_cases hlm : m < 12
            all_goals
              go_wp2_with (go_at_call 33; refine (number_calls _ _ _ _ (by omega) (by omega) (by omega) (by omega) (by omega) (by omega)).mono ?_; rintro e w' ⟨rfl, rfl⟩)
              refine bodyPost_ret (v := .tuple #[civV y m (t / 1440 - Cal.num y m 1 + 1) (t % 1440 / 60) (t % 60) ((t / 1440 + 4) % 7), .int .i64 0]) (by simp [results, Try.results14, go_sem]) rfl ⟨?_, ((Below.refl _ _).alloc (Nat.le_refl _) _).alloc (by simp) _⟩
              rw [HF.out.1, HF.out.2.1, HF.out.2.2]
end Go.Proofs.Ytjkaggmnieafjaa
