/-
  Contracts: an item's ring, its place.
  Conditions: times are of the calendar.
-/
import Derived.Test.YtheocdfccdpmbaaWhS
import Derived.BigQuiet
import Derived.Laws.BitsLemmas
namespace Go.Proofs.Ytheocdfccdpmbaa
open Go.RowKit Go.Maps
set_option linter.unusedVariables false
set_option linter.unusedSimpArgs false
set_option maxHeartbeats 2000000

theorem and63 (x : Int) (h0 : 0 ≤ x) (h1 : x ≤ 9223372036854775807) : bits BinOp.and IntKind.i64 x 63 = x % 64 := by
  have h := bits_mask .i64 63 (by decide) (fun n a b => IntWalk.i64_in n (by omega)) 6 (by decide) x h0 (by omega)
  have e : ((2 : Int) ^ 6 - 1) = 63 := by decide
  have e2 : ((2 : Int) ^ 6) = 64 := by decide
  rw [e, e2] at h
  exact h
theorem drewN2 (w : World) (m n : Nat) : (w.drewN m).drewN n = w.drewN (m + n) := by simp [World.drewN, Nat.add_assoc]
theorem place_int (k : Nat) (a : Int) : ((Wh.place k a : Nat) : Int) = a / Wh.pw k % 64 := by unfold Wh.place; omega
theorem place_calls (k : Nat) (hk : k < 4) (a : Int) (h0 : 0 ≤ a) (h1 : a ≤ 226157759) (w : World) :
    Calls Try.prog 53 #[.int .i64 k, .int .i64 a] w fun e w' => e = .returned (.int .i64 (Wh.place k a)) ∧ w = w' := by
  rcases (by omega : k = 0 ∨ k = 1 ∨ k = 2 ∨ k = 3) with rfl | rfl | rfl | rfl
  · go_enter Try.func53, Try.ntmps53
    go_wp2_with fail
    go_ret
    refine ⟨ret_int ?_, rfl⟩
    rw [place_int, and63 _ (by omega) (by omega)]
    show a % 64 = a / 1 % 64
    omega
  · go_enter Try.func53, Try.ntmps53
    go_wp2_with fail
    go_ret
    refine ⟨ret_int ?_, rfl⟩
    rw [place_int, and63 _ (by omega) (by omega)]
    rfl
  · go_enter Try.func53, Try.ntmps53
    go_wp2_with fail
    go_ret
    refine ⟨ret_int ?_, rfl⟩
    rw [place_int, and63 _ (by omega) (by omega)]
    rfl
  · go_enter Try.func53, Try.ntmps53
    go_wp2_with fail
    go_ret
    refine ⟨ret_int ?_, rfl⟩
    rw [place_int, and63 _ (by omega) (by omega)]
    rfl
theorem ring_calls (g : Nat) (now : Int) (n0 : 0 ≤ now) (n1 : now ≤ 226157759) (a : Int) (h0 : 0 ≤ a) (h1 : a ≤ 226157759) (w : World) (hc : w.cell? ⟨g, 0, none⟩ = some (.int .i64 now)) :
    Calls Try.prog 56 #[.pointer (some ⟨g, 0, none⟩), .int .i64 a] w fun e w' => e = .returned (.int .i64 (Wh.ring now a)) ∧ ∃ nq, w' = w.drewN nq := by
  have HC := Lib.hid hc
  go_enter Try.func56, Try.ntmps56
  go_wp2_with fail
  go_loopg [5] 4 (fun n v5 W => ∃ k : Nat, v5 = .int .i64 k ∧ k < 4 ∧ n = k + 1 ∧ Hid ((∃ nq, W = w.drewN nq) ∧ ∀ j, k < j → j ≤ 3 → a / Wh.pw j = now / Wh.pw j))
  case atStart => exact ⟨3, rfl, by omega, by omega, Lib.hid ⟨⟨0, rfl⟩, fun j h1 h2 => by omega⟩⟩
  case round =>
    obtain ⟨k, rfl, hk, rfl, HI⟩ := hrel
    have hcr : wr.cell? ⟨g, 0, none⟩ = some (.int .i64 now) := by obtain ⟨⟨nq, e⟩, _⟩ := HI.out; rw [e]; exact HC.out
    rcases (by omega : k = 0 ∨ k = 1 ∨ k = 2 ∨ k = 3) with rfl | rfl | rfl | rfl
    · go_wp2_with fail
      go_ret
      obtain ⟨⟨nq, e⟩, hj⟩ := HI.out
      exact ⟨ret_int (by rw [Wh.ring0.2 ⟨hj 3 (by omega) (by omega), hj 2 (by omega) (by omega), hj 1 (by omega) (by omega)⟩]; rfl), nq, e⟩
    · by_cases c : a / 64 = now / 64
      · have b1 : (a / 64 != now / 64) = false := by simp [c]
        have HN : Hid (∀ j, 0 < j → j ≤ 3 → a / Wh.pw j = now / Wh.pw j) := Lib.hid fun j j1 j3 => by
          by_cases e : j = 1
          · subst e; exact c
          · exact HI.out.2 j (by omega) j3
        clear c
        go_wp2_with fail
        go_quiet (fail)
        go_wp2_with fail
        go_roundg 1
        case rel => exact ⟨0, rfl, by omega, rfl, Lib.hid ⟨by obtain ⟨⟨m, e⟩, _⟩ := HI.out; exact ⟨m + nq, by rw [e]; exact drewN2 _ _ _⟩, HN.out⟩⟩
        case measure => omega
      · have b1 : (a / 64 != now / 64) = true := by simp [c]
        have HR : Hid (Wh.ring now a = 1) := Lib.hid ((Wh.ring_eq (by omega) (by omega)).2 ⟨c, HI.out.2⟩)
        clear c
        go_wp2_with fail
        go_quiet (fail)
        go_wp2_with fail
        go_ret
        exact ⟨ret_int (by rw [HR.out]; try rfl), by obtain ⟨⟨m, e⟩, _⟩ := HI.out; exact ⟨m + nq, by rw [e]; exact drewN2 _ _ _⟩⟩
    · by_cases c : a / 4096 = now / 4096
      · have b1 : (a / 4096 != now / 4096) = false := by simp [c]
        have HN : Hid (∀ j, 1 < j → j ≤ 3 → a / Wh.pw j = now / Wh.pw j) := Lib.hid fun j j1 j3 => by
          by_cases e : j = 2
          · subst e; exact c
          · exact HI.out.2 j (by omega) j3
        clear c
        go_wp2_with fail
        go_quiet (fail)
        go_wp2_with fail
        go_roundg 2
        case rel => exact ⟨1, rfl, by omega, rfl, Lib.hid ⟨by obtain ⟨⟨m, e⟩, _⟩ := HI.out; exact ⟨m + nq, by rw [e]; exact drewN2 _ _ _⟩, HN.out⟩⟩
        case measure => omega
      · have b1 : (a / 4096 != now / 4096) = true := by simp [c]
        have HR : Hid (Wh.ring now a = 2) := Lib.hid ((Wh.ring_eq (by omega) (by omega)).2 ⟨c, HI.out.2⟩)
        clear c
        go_wp2_with fail
        go_quiet (fail)
        go_wp2_with fail
        go_ret
        exact ⟨ret_int (by rw [HR.out]; try rfl), by obtain ⟨⟨m, e⟩, _⟩ := HI.out; exact ⟨m + nq, by rw [e]; exact drewN2 _ _ _⟩⟩
    · by_cases c : a / 262144 = now / 262144
      · have b1 : (a / 262144 != now / 262144) = false := by simp [c]
        have HN : Hid (∀ j, 2 < j → j ≤ 3 → a / Wh.pw j = now / Wh.pw j) := Lib.hid fun j j1 j3 => by
          by_cases e : j = 3
          · subst e; exact c
          · exact HI.out.2 j (by omega) j3
        clear c
        go_wp2_with fail
        go_quiet (fail)
        go_wp2_with fail
        go_roundg 3
        case rel => exact ⟨2, rfl, by omega, rfl, Lib.hid ⟨by obtain ⟨⟨m, e⟩, _⟩ := HI.out; exact ⟨m + nq, by rw [e]; exact drewN2 _ _ _⟩, HN.out⟩⟩
        case measure => omega
      · have b1 : (a / 262144 != now / 262144) = true := by simp [c]
        have HR : Hid (Wh.ring now a = 3) := Lib.hid ((Wh.ring_eq (by omega) (by omega)).2 ⟨c, HI.out.2⟩)
        clear c
        go_wp2_with fail
        go_quiet (fail)
        go_wp2_with fail
        go_ret
        exact ⟨ret_int (by rw [HR.out]; try rfl), by obtain ⟨⟨m, e⟩, _⟩ := HI.out; exact ⟨m + nq, by rw [e]; exact drewN2 _ _ _⟩⟩
end Go.Proofs.Ytheocdfccdpmbaa
