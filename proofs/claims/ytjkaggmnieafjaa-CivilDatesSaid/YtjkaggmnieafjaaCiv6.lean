/-
  Contract of the reference's Nth.
  Conditions: the theorems' own bounds.
-/
import Derived.Test.YtjkaggmnieafjaaCiv5
namespace Go.Proofs.Ytjkaggmnieafjaa
open Go.RowKit
set_option linter.unusedVariables false

/-- what has been seen of a weekday ahead of day j: how often, and where last -/
theorem seen_step (f j k : Int) (f0 : 1 ≤ f) (f1 : f ≤ 7) (j0 : 1 ≤ j) (hit : (j - f) % 7 = 0) : (j - f + 6) / 7 + 1 = (j + 1 - f + 6) / 7 ∧ f + 7 * ((j - f + 6) / 7) = j := by omega
theorem seen_miss (f j : Int) (f0 : 1 ≤ f) (f1 : f ≤ 7) (j0 : 1 ≤ j) (miss : (j - f) % 7 ≠ 0) : (j - f + 6) / 7 = (j + 1 - f + 6) / 7 := by omega

set_option maxHeartbeats 2000000 in
theorem rnth_yes_core (y m k d r q f b : Int) (w : World) (hr : Hid (Cal.dim y m = r)) (hq : Hid (Cal.num y m 1 = q)) (g0 : 1970 ≤ y) (g1 : y ≤ 2399) (g2 : 1 ≤ m) (g3 : m ≤ 12)
    (r0 : 28 ≤ r) (r1 : r ≤ 31) (q0 : 0 ≤ q) (q1 : q ≤ 157053) (k0 : 1 ≤ k) (k1 : k ≤ 5) (d0 : 0 ≤ d) (d1 : d ≤ 6) (x : Int)
    (hb : Hid ((q + 4) % 7 = b)) (c0 : 0 ≤ b) (c1 : b ≤ 6) (hf : Hid (f = 1 + (d - b + 7) % 7)) (f0 : 1 ≤ f) (f1 : f ≤ 7) (hx : Hid (x = if k ≤ 4 then f + 7 * (k - 1) else if f + 28 ≤ r then f + 28 else f + 21)) :
    Calls Try.prog 21 #[.int .i64 y, .int .i64 m, .int .i64 k, .int .i64 d] w fun e w' => e = .returned (.int .i64 x) ∧ Below w.heap.size w w' := by
  have HD : ∀ W : World, Calls Try.prog 19 #[.int .i64 y, .int .i64 m] W fun e w' => e = .returned (.int .i64 r) ∧ Below W.heap.size W w' := fun W =>
    (rdays_calls y m W).mono fun e w' ⟨a, b⟩ => ⟨by rw [a, hr.out], b⟩
  have H := Lib.hid HD
  have TD : ∀ W : World, Calls Try.prog 17 #[civV y m 1 0 0 0] W fun e w' => e = .returned (.tuple #[.int .i64 (q * 1440), .int .i64 0]) ∧ Below W.heap.size W w' := fun W =>
    (rto_yes y m 1 0 0 0 W ⟨g0, g1, g2, g3, by omega, by rw [hr.out]; omega⟩ (by omega) (by omega) (by omega) (by omega)).mono fun e w' ⟨a, b⟩ => ⟨by rw [a]; unfold mins; rw [hq.out]; simp, b⟩
  have T := Lib.hid TD
  have FD : ∀ W : World, Calls Try.prog 15 #[.int .i64 (q * 1440)] W fun e w' => (∃ y m d h n, e = .returned (.tuple #[civV y m d h n b, .int .i64 0])) ∧ Below W.heap.size W w' := fun W =>
    (rfrom_core (q * 1440) q 0 W (by omega) (by omega) (Lib.hid (by omega)) (Lib.hid (by omega)) q0 q1).mono fun e w' ⟨a, b'⟩ => ⟨⟨Cal.yr q, Cal.mo q, Cal.dy q, 0, q * 1440 % 60, by rw [a, hb.out]⟩, b'⟩
  have F := Lib.hid FD
  clear HD TD FD
  have b0 : (r == 0) = false := by simp; omega
  have b1 : decide (k < 1) = false := dec_f (by omega)
  have b2 : decide (5 < k) = false := dec_f (by omega)
  have b3 : decide (d < 0) = false := dec_f (by omega)
  have b4 : decide (6 < d) = false := dec_f (by omega)
  go_enter Try.func21, Try.ntmps21
  go_wp2_with fail
  refine (H.out _).mono ?_
  rintro e w1 ⟨rfl, hb1⟩
  go_wp2_with fail
  refine (T.out _).mono ?_
  rintro e w2 ⟨rfl, hb2⟩
  go_wp2_with fail
  refine (F.out _).mono ?_
  rintro e w3 ⟨⟨cy, cm, cd, ch, cn, rfl⟩, hb3⟩
  go_wp2_with fail
  have hbel : Below w.heap.size w w3 := (hb1.trans (hb2.mono hb1.size)).trans (hb3.mono (Nat.le_trans hb1.size hb2.size))
  have hk5 : (k == 5) = decide (k = 5) := by rw [Bool.eq_iff_iff]; simp
  have HK5 := Lib.hid hk5
  clear hk5 hb1 hb2 hb3 H T F
  go_loopg [14, 15, 16] r.toNat (fun g v14 v15 v16 w' => w' = w3.alloc (.cells (civC cy cm cd ch cn b) 26) ∧ ∃ j s a : Int, 1 ≤ j ∧ j + g = r + 1 ∧ v16 = .int .i64 j ∧ v14 = .int .i64 s ∧ v15 = .int .i64 a ∧
    0 ≤ s ∧ s ≤ 5 ∧ Hid (s = (j - f + 6) / 7 ∧ a = if k = 5 then (if s = 0 then 0 else f + 7 * (s - 1)) else if s < k then 0 else f + 7 * (k - 1)))
  case atStart => exact ⟨rfl, 1, 0, 0, by omega, by omega, rfl, rfl, rfl, by omega, by omega, Lib.hid ⟨by omega, by split <;> simp <;> omega⟩⟩
  case round =>
    obtain ⟨rfl, j, s, a, j0, j1, rfl, rfl, rfl, s0, s1, hs⟩ := hrel
    have HJ := Lib.hid j1
    have hj : j ≤ r + 1 := by omega
    by_cases hlt : j ≤ r
    · have hgk : 0 < gk := by omega
      clear j1
      by_cases hit : (b + j - 1) % 7 = d
      · have HIT : ((b + j - 1) % 7 == d) = true := by simpa using hit
        have hfit : (j - f) % 7 = 0 := by have := hf.out; omega
        obtain ⟨e1, e2⟩ := seen_step f j k f0 f1 j0 hfit
        have E1 := Lib.hid e1
        have E2 := Lib.hid e2
        have HITH := Lib.hid hit
        clear e1 e2 hfit hit
        by_cases hk : k = 5
        · have K5 : (k == 5) = true := by simpa using hk
          have HKK := Lib.hid hk
          clear hk
          go_wp2_with fail
          all_goals
            go_roundg (gk - 1)
            case rel =>
              have := HJ.out
              have hs1 := hs.out.1
              have e1 := E1.out
              have e2 := E2.out
              refine ⟨rfl, j + 1, s + 1, j, by omega, by omega, rfl, by first | rfl | (congr 1; omega), rfl, by omega, by omega, Lib.hid ⟨by omega, ?_⟩⟩
              rw [if_pos HKK.out, if_neg (by omega)]
              omega
            case measure => omega
        · have K5 : (k == 5) = false := by simpa using hk
          by_cases hsk : s + 1 = k
          · have KS : (s + 1 == k) = true := by simpa using hsk
            have HKK := Lib.hid hk
            have HSK := Lib.hid hsk
            clear hk hsk
            go_wp2_with fail
            all_goals
              go_roundg (gk - 1)
              case rel =>
                have := HJ.out
                have hs1 := hs.out.1
                have e1 := E1.out
                have e2 := E2.out
                have hsk := HSK.out
                refine ⟨rfl, j + 1, s + 1, j, by omega, by omega, rfl, by rw [HSK.out], rfl, by omega, by omega, Lib.hid ⟨by omega, ?_⟩⟩
                rw [if_neg HKK.out, if_neg (by omega)]
                omega
              case measure => omega
          · have KS : (s + 1 == k) = false := by simpa using hsk
            have HKK := Lib.hid hk
            have HSK := Lib.hid hsk
            clear hk hsk
            go_wp2_with fail
            all_goals
              go_roundg (gk - 1)
              case rel =>
                have := HJ.out
                have hs1 := hs.out.1
                have e1 := E1.out
                have e2 := E2.out
                have hsk := HSK.out
                refine ⟨rfl, j + 1, s + 1, a, by omega, by omega, rfl, rfl, rfl, by omega, by omega, Lib.hid ⟨by omega, ?_⟩⟩
                rw [hs.out.2, if_neg HKK.out, if_neg HKK.out]
                by_cases hl : s < k
                · rw [if_pos hl, if_pos (by omega)]
                · rw [if_neg hl, if_neg (by omega)]
              case measure => omega
      · have HIT : ((b + j - 1) % 7 == d) = false := by simpa using hit
        have hfit : (j - f) % 7 ≠ 0 := by have := hf.out; omega
        have e1 := seen_miss f j f0 f1 j0 hfit
        have E1 := Lib.hid e1
        clear e1 hfit hit
        go_wp2_with fail
        all_goals
          go_roundg (gk - 1)
          case rel =>
            have := HJ.out
            have e1 := E1.out
            exact ⟨rfl, j + 1, s, a, by omega, by omega, rfl, rfl, rfl, s0, s1, Lib.hid ⟨by rw [← e1]; exact hs.out.1, hs.out.2⟩⟩
          case measure => omega
    · have hj2 : j = r + 1 := by omega
      have HJ2 := Lib.hid hj2
      clear hj2 j1
      go_wp2_with fail
      go_ret
      refine ⟨ret_int ?_, hbel.alloc hbel.size _⟩
      have hs1 := hs.out.1
      rw [hs.out.2, hx.out]
      have := HJ2.out
      by_cases hk : k = 5
      · rw [if_pos hk, if_neg (by omega), if_neg (by omega)]
        split <;> omega
      · rw [if_neg hk, if_neg (by omega), if_pos (by omega)]

theorem rnth_calls (y m k d : Int) (w : World) :
    Calls Try.prog 21 #[.int .i64 y, .int .i64 m, .int .i64 k, .int .i64 d] w fun e w' => e = .returned (.int .i64 (nthF y m k d)) ∧ Below w.heap.size w w' := by
  by_cases hx : Cal.dim y m = 0 ∨ k < 1 ∨ 5 < k ∨ d < 0 ∨ 6 < d
  · have h0 : nthF y m k d = 0 := by unfold nthF; rw [if_pos hx]
    rw [h0]
    exact rnth_no_core y m k d _ w (Lib.hid rfl) hx
  · have hd := Cal.dim_bd y m
    obtain ⟨g0, g1, g2, g3⟩ := Cal.dim_pos_iff (y := y) (m := m) (by omega)
    have hp := Cal.dim_pos g0 g1 g2 g3
    have hq := Cal.num_rng (y := y) (m := m) (d := 1) ⟨g0, g1, g2, g3, by omega, by omega⟩
    exact rnth_yes_core y m k d _ _ (fstDay y m d) _ w (Lib.hid rfl) (Lib.hid rfl) g0 g1 g2 g3 hp hd.2 hq.1 hq.2 (by omega) (by omega) (by omega) (by omega) _ (Lib.hid rfl) (by omega) (by omega)
      (Lib.hid rfl) (by unfold fstDay; omega) (by unfold fstDay; omega) (Lib.hid (by unfold nthF; rw [if_neg hx]))
end Go.Proofs.Ytjkaggmnieafjaa
