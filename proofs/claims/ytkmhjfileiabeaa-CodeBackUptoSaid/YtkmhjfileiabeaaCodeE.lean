/-
  Contracts of the package code: Encode.
  Conditions: the fields can be read.
-/
import Derived.Test.YtkmhjfileiabeaaCodeF
import Derived.Deep.RegionLaw
import Derived.Deep.RegionHeld3
namespace Go.Proofs.Ytkmhjfileiabeaa
open Go.RowKit
set_option linter.unusedVariables false
set_option linter.unusedSimpArgs false

theorem enc_app_none {a b : List Fi} (h : Code.enc a = none) : Code.enc (a ++ b) = none := by
  induction a with
  | nil => simp [Code.enc] at h
  | cons f fs ih =>
    simp only [List.cons_append, Code.enc] at h ⊢
    rcases h1 : Code.enc1 f with _ | x
    · simp
    · rcases h2 : Code.enc fs with _ | y
      · rw [ih h2]
      · rw [h1, h2] at h
        simp at h
theorem enc_app {a b : List Fi} {x : List Nat} (h : Code.enc a = some x) : Code.enc (a ++ b) = (Code.enc b).map (x ++ ·) := by
  induction a generalizing x with
  | nil =>
    simp [Code.enc] at h
    subst h
    rw [List.nil_append]
    cases hb : Code.enc b <;> simp
  | cons f fs ih =>
    simp only [List.cons_append, Code.enc] at h ⊢
    rcases h1 : Code.enc1 f with _ | y
    · rw [h1] at h
      simp at h
    · rcases h2 : Code.enc fs with _ | z
      · rw [h1, h2] at h
        simp at h
      · rw [h1, h2] at h
        simp only [Option.some.injEq] at h
        subst h
        rw [ih h2]
        cases Code.enc b <;> simp
theorem enc_one (f : Fi) : Code.enc [f] = Code.enc1 f := by
  simp only [Code.enc]
  cases Code.enc1 f <;> simp
theorem enc_step {fs : List Fi} {k : Nat} {x : List Nat} (hk : k < fs.length) (h : Code.enc (fs.take k) = some x) : Code.enc (fs.take (k + 1)) = (Code.enc1 (fs.getD k default)).map (x ++ ·) := by
  rw [List.take_succ_eq_append_getElem hk, enc_app h, enc_one]
  simp [List.getD, hk]
theorem enc_bad {fs : List Fi} {k : Nat} {x : List Nat} (hk : k < fs.length) (h : Code.enc (fs.take k) = some x) (h1 : Code.enc1 (fs.getD k default) = none) : Code.enc fs = none := by
  have h2 := enc_step hk h
  rw [h1] at h2
  have := enc_app_none (b := fs.drop (k + 1)) (h2 : Code.enc (fs.take (k + 1)) = none)
  rwa [List.take_append_drop] at this
theorem xor_top (a : Nat) (ha : a < 2 ^ 64) : a ^^^ 18446744073709551615 = 18446744073709551615 - a := by
  have h := congrArg BitVec.toNat (BitVec.xor_allOnes (x := BitVec.ofNat 64 a))
  rw [BitVec.toNat_xor, BitVec.toNat_not, BitVec.toNat_allOnes, BitVec.toNat_ofNat, Nat.mod_eq_of_lt ha] at h
  exact h
/-- the sign last, as the code reckons it -/
theorem zz_code (n : Int) (h0 : -9223372036854775808 ≤ n) (h1 : n ≤ 9223372036854775807) :
    bits .xor .u64 (IntKind.u64.wrap (IntKind.u64.wrap n * 2)) (IntKind.u64.wrap (n / 9223372036854775808)) = ((Code.zz n : Nat) : Int) := by
  by_cases hn : n < 0
  · have e1 : IntKind.u64.wrap (IntKind.u64.wrap n * 2) = (((2 * (n + 9223372036854775808)).toNat : Nat) : Int) := by
      simp [IntKind.wrap, IntKind.bits, IntKind.signed]
      omega
    have e2 : IntKind.u64.wrap (n / 9223372036854775808) = ((18446744073709551615 : Nat) : Int) := by
      have : n / 9223372036854775808 = -1 := by omega
      rw [this]; rfl
    rw [e1, e2, u64_xor_nat _ _ (by omega) (by omega)]
    have hz : Code.zz n = 18446744073709551615 - (2 * (n + 9223372036854775808)).toNat := by
      unfold Code.zz; rw [if_pos hn]; omega
    rw [hz]
    have ha : (2 * (n + 9223372036854775808)).toNat < 2 ^ 64 := by omega
    generalize (2 * (n + 9223372036854775808)).toNat = a at *
    rw [xor_top a ha]
  · have e1 : IntKind.u64.wrap (IntKind.u64.wrap n * 2) = (((2 * n).toNat : Nat) : Int) := by
      simp [IntKind.wrap, IntKind.bits, IntKind.signed]
      omega
    have e2 : IntKind.u64.wrap (n / 9223372036854775808) = ((0 : Nat) : Int) := by
      have : n / 9223372036854775808 = 0 := by omega
      rw [this]; rfl
    rw [e1, e2, u64_xor_nat _ _ (by omega) (by omega), Nat.xor_zero]
    unfold Code.zz
    rw [if_neg hn]
end Go.Proofs.Ytkmhjfileiabeaa
