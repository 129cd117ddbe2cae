/-
  A number read from bytes: the program's take.
  Conditions: the bytes can be read.
-/
import Derived.Test.YtkmhjfileiabeaaCode1
namespace Go.Proofs.Ytkmhjfileiabeaa
open Go.RowKit
set_option linter.unusedVariables false

namespace Code
/-- the number that bytes begin with, from the i-th of its bytes on, n behind it so far: the number, its bytes, an error -/
def tk (i n : Nat) : List Nat → Nat × Nat × Nat
  | [] => (0, 0, 20)
  | c :: cs => if (i = 9 ∧ 1 < c) ∨ (0 < i ∧ c = 0) then (0, 0, 21) else if c < 128 then (n + c % 128 * 2 ^ (7 * i), i + 1, 0) else tk (i + 1) (n + c % 128 * 2 ^ (7 * i)) cs
end Code

theorem tk_round {n k x : Nat} (hn : n < 2 ^ (7 * k)) (hk : k ≤ 9) (hx : x < 256) (h9 : k = 9 → x ≤ 1) :
    bits .or .u64 (n : Int) (IntKind.u64.wrap (IntKind.u64.wrap (bits .and .u8 (x : Int) 127) * 2 ^ (7 * k))) = ((n + x % 128 * 2 ^ (7 * k) : Nat) : Int) ∧ n + x % 128 * 2 ^ (7 * k) < 2 ^ (7 * (k + 1)) := by
  have hp : 2 ^ (7 * k) ≤ 2 ^ 63 := Nat.pow_le_pow_right (by decide) (by omega)
  have hm : x % 128 < 128 := Nat.mod_lt _ (by decide)
  have ha : bits .and .u8 (x : Int) 127 = ((x % 128 : Nat) : Int) := by
    have := u8_and_nat x 127 hx (by decide)
    rw [show x &&& 127 = x % 128 from Nat.and_two_pow_sub_one_eq_mod x 7] at this
    exact this
  have hb : x % 128 * 2 ^ (7 * k) < 2 ^ 64 := by
    by_cases h : k = 9
    · have : x % 128 ≤ 1 := by have := h9 h; omega
      calc x % 128 * 2 ^ (7 * k) ≤ 1 * 2 ^ 63 := Nat.mul_le_mul this hp
        _ < 2 ^ 64 := by decide
    · have hp2 : 2 ^ (7 * k) ≤ 2 ^ 56 := Nat.pow_le_pow_right (by decide) (by omega)
      calc x % 128 * 2 ^ (7 * k) ≤ 127 * 2 ^ 56 := Nat.mul_le_mul (by omega) hp2
        _ < 2 ^ 64 := by decide
  have hor : n ||| x % 128 * 2 ^ (7 * k) = n + x % 128 * 2 ^ (7 * k) := by
    rw [Nat.or_comm, Nat.mul_comm, ← Nat.two_pow_add_eq_or_of_lt hn, Nat.add_comm]
  constructor
  · rw [ha, show IntKind.u64.wrap ((x % 128 : Nat) : Int) = ((x % 128 : Nat) : Int) from by simp [IntKind.wrap, IntKind.bits, IntKind.signed]; omega]
    rw [show ((x % 128 : Nat) : Int) * 2 ^ (7 * k) = ((x % 128 * 2 ^ (7 * k) : Nat) : Int) from by push_cast; rfl]
    rw [show IntKind.u64.wrap ((x % 128 * 2 ^ (7 * k) : Nat) : Int) = ((x % 128 * 2 ^ (7 * k) : Nat) : Int) from by
      simp only [IntKind.wrap, IntKind.bits, IntKind.signed]
      have hb' : ((x % 128 * 2 ^ (7 * k) : Nat) : Int) < 18446744073709551616 := by
        have : x % 128 * 2 ^ (7 * k) < 18446744073709551616 := hb
        omega
      generalize x % 128 * 2 ^ (7 * k) = z at *
      simp
      omega]
    rw [bits_or_u64_nat n _ (by omega) hb, hor]
  · rw [show 7 * (k + 1) = 7 * k + 7 from by omega, Nat.pow_add]
    have : x % 128 * 2 ^ (7 * k) ≤ 127 * 2 ^ (7 * k) := Nat.mul_le_mul_right _ (by omega)
    omega

set_option maxRecDepth 20000 in
set_option maxHeartbeats 2000000 in
theorem take_calls (A : Option Addr) (cap : Nat) (xs : List Nat) (w : World) (hR : Hid (Rd8 w A xs)) (hlen : xs.length ≤ 9223372036854775807) :
    Calls Try.prog 34 #[.slice A xs.length cap] w fun e w' => e = .returned (.tuple #[.int .u64 (Code.tk 0 0 xs).1, .int .i64 (Code.tk 0 0 xs).2.1, .int .i64 (Code.tk 0 0 xs).2.2]) ∧ Below w.heap.size w w' := by
  obtain ⟨r, hr⟩ : ∃ r, r = Code.tk 0 0 xs := ⟨_, rfl⟩
  rw [← hr]
  have HR := Lib.hid hr
  clear hr
  go_enter Try.func34, Try.ntmps34
  go_wp2_with fail
  go_loopg [5, 6, 7, 10] xs.length (fun g v5 v6 v7 v10 w' => ∃ (k n : Nat), k + g = xs.length ∧ v10 = .int .i64 k ∧ v5 = .int .u64 n ∧ Below w.heap.size w w' ∧ Hid (n < 2 ^ (7 * k) ∧ k ≤ 9 ∧ r = Code.tk k n (xs.drop k)))
  case atStart => exact ⟨0, 0, by omega, rfl, rfl, Below.refl _ _, Lib.hid ⟨by decide, by omega, HR.out⟩⟩
  case round =>
    obtain ⟨k, n, hk, rfl, rfl, hb, HI⟩ := hrel
    by_cases hlt : k < xs.length
    · have hg : 0 < gk := by omega
      have hl : (k : Int) < (xs.length : Int) := by omega
      have HK := Lib.hid hk
      clear hk
      obtain ⟨b, off, rfl, hbl, hx, hcell⟩ := hR.out k hlt
      have hcw := (hb.cell (p := ⟨b, off + k, none⟩) hbl).trans hcell
      generalize hxx : xs.getD k 0 = x at hx hcw
      have HX := Lib.hid hxx
      clear hxx hcell
      have hdrop : xs.drop k = x :: xs.drop (k + 1) := by
        rw [List.drop_eq_getElem_cons hlt, ← HX.out]
        simp [List.getD, hlt]
      have HD := Lib.hid hdrop
      clear hdrop
      have q0 : 0 ≤ 7 * (k : Int) := by omega
      have q1 : 7 * (k : Int) ≤ 64 := by have := HI.out.2.1; omega
      have hxr : (0 : Int) ≤ (x : Int) ∧ (x : Int) < 256 := by omega
      by_cases hE : (k = 9 ∧ 1 < x) ∨ (0 < k ∧ x = 0)
      · have HR2 : Hid (r = (0, 0, 21)) := Lib.hid (by rw [HI.out.2.2, HD.out, Code.tk, if_pos hE])
        rcases hE with ⟨rfl, h1⟩ | ⟨h1, rfl⟩
        · have h1i : (1 : Int) < (x : Int) := by omega
          go_wp2_with fail
          go_ret3
          exact ⟨by rw [HR2.out]; rfl, hb⟩
        · have h1i : (0 : Int) < (k : Int) := by omega
          by_cases h9 : k = 9
          · subst h9
            go_wp2_with fail
            go_ret3
            exact ⟨by rw [HR2.out]; rfl, hb⟩
          · have h9i : ((k : Int) == 9) = false := by rw [beq_eq_false_iff_ne]; omega
            clear h9
            go_wp2_with fail
            go_ret3
            exact ⟨by rw [HR2.out]; rfl, hb⟩
      · have HE := Lib.hid hE
        have hrd := tk_round HI.out.1 HI.out.2.1 (show x < 256 by omega) (by omega)
        have HRD := Lib.hid hrd
        have k9 : k ≤ 9 := HI.out.2.1
        have hr2 : r = if x < 128 then (n + x % 128 * 2 ^ (7 * k), k + 1, 0) else Code.tk (k + 1) (n + x % 128 * 2 ^ (7 * k)) (xs.drop (k + 1)) := by
          rw [HI.out.2.2, HD.out, Code.tk, if_neg hE]
        have HR2 := Lib.hid hr2
        clear hrd hr2
        by_cases h9 : k = 9
        · subst h9
          have hx1 : x = 1 := by omega
          subst hx1
          clear hE
          go_wp2_with fail
          go_ret3
          refine ⟨?_, hb⟩
          rw [HR2.out, if_pos (by decide)]
          simpa using HRD.out.1
        · have e9 : ((k : Int) == 9) = false := by rw [beq_eq_false_iff_ne]; omega
          have hkx : 0 < k → (((x : Int) == 0) = false) := fun h => by rw [beq_eq_false_iff_ne]; omega
          by_cases hk0 : k = 0
          · subst hk0
            simp only [Nat.add_zero] at hcw
            by_cases h128 : x < 128
            · have hi : (x : Int) < 128 := by omega
              clear hE
              go_wp2_with fail
              go_ret3
              refine ⟨?_, hb⟩
              rw [HR2.out, if_pos (by omega)]
              simpa using HRD.out.1
            · have hi : ¬ (x : Int) < 128 := by omega
              clear hE
              go_wp2_with fail
              go_roundg (gk - 1)
              case rel =>
                refine ⟨1, n + x % 128 * 2 ^ (7 * 0), by have := HK.out; omega, by go_num, by simpa using HRD.out.1, hb, Lib.hid ⟨HRD.out.2, by omega, by rw [HR2.out, if_neg (by omega)]⟩⟩
              case measure => omega
          · have g0 : (0 : Int) < (k : Int) := by omega
            have ex := hkx (by omega)
            have K8 : Hid (k ≤ 8) := Lib.hid (by omega)
            clear hE h9 hk0 hkx
            by_cases h128 : x < 128
            · have hi : (x : Int) < 128 := by omega
              go_wp2_with fail
              go_ret3
              refine ⟨?_, hb⟩
              rw [HRD.out.1, HR2.out, if_pos (by omega)]
              simp
            · have hi : ¬ (x : Int) < 128 := by omega
              go_wp2_with fail
              rw [HRD.out.1]
              go_roundg (gk - 1)
              case rel =>
                refine ⟨k + 1, _, by have := HK.out; omega, by go_num, rfl, hb, Lib.hid ⟨HRD.out.2, by have := K8.out; omega, by rw [HR2.out, if_neg (by omega)]⟩⟩
              case measure => omega
    · have hke : k = xs.length := by omega
      have hr3 : r = (0, 0, 20) := by rw [HI.out.2.2, hke, List.drop_length]; rfl
      have HR3 := Lib.hid hr3
      have hl : ¬ (k : Int) < (xs.length : Int) := by omega
      clear hk hlt hke hr3
      go_wp2_with fail
      go_ret3
      exact ⟨by rw [HR3.out]; rfl, hb⟩
end Go.Proofs.Ytkmhjfileiabeaa
