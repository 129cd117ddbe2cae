/-
  Numbers and their bytes, plain: what was written is read; what is read was written.
  Conditions: stated lemma by lemma.
-/
import Derived.Test.YtkmhjfileiabeaaCode2
namespace Go.Proofs.Ytkmhjfileiabeaa
set_option linter.unusedVariables false
namespace Code

theorem tk_vb : ∀ (m i n : Nat) (rest : List Nat), i ≤ 9 → m * 2 ^ (7 * i) < 2 ^ 64 → (0 < i → 0 < m) → tk i n (vb m ++ rest) = (n + m * 2 ^ (7 * i), i + (vb m).length, 0) := by
  intro m
  induction m using Nat.strongRecOn with
  | _ m ih =>
    intro i n rest hi hm h0
    by_cases hs : m < 128
    · rw [vb_small hs, List.cons_append, List.nil_append, tk, if_neg, if_pos hs, Nat.mod_eq_of_lt hs]
      · simp
      · rintro (⟨rfl, h⟩ | ⟨h, rfl⟩)
        · have : 2 * 2 ^ (7 * 9) ≤ m * 2 ^ (7 * 9) := Nat.mul_le_mul_right _ h
          omega
        · exact absurd (h0 h) (by omega)
    · have hi9 : i ≠ 9 := by
        rintro rfl
        have : 128 * 2 ^ (7 * 9) ≤ m * 2 ^ (7 * 9) := Nat.mul_le_mul_right _ (by omega)
        omega
      rw [vb_big hs, List.cons_append, tk, if_neg, if_neg (by omega)]
      · have hpow : 2 ^ (7 * (i + 1)) = 2 ^ (7 * i) * 128 := by rw [show 7 * (i + 1) = 7 * i + 7 from by omega, Nat.pow_add]
        have hdm : m / 128 * 2 ^ (7 * (i + 1)) + m % 128 * 2 ^ (7 * i) = m * 2 ^ (7 * i) := by
          rw [hpow, ← Nat.mul_assoc, Nat.mul_right_comm, ← Nat.add_mul]
          congr 1
          omega
        rw [ih (m / 128) (by omega) (i + 1) _ rest (by omega) (by omega) (fun _ => by omega), List.length_cons, show (128 + m % 128) % 128 = m % 128 from by omega]
        have e1 : n + m % 128 * 2 ^ (7 * i) + m / 128 * 2 ^ (7 * (i + 1)) = n + m * 2 ^ (7 * i) := by omega
        rw [e1]
        congr 2
        omega
      · rintro (⟨rfl, _⟩ | ⟨_, h⟩)
        · exact hi9 rfl
        · omega
/-- what is read is what was written -/
theorem tk_inv : ∀ (xs : List Nat) (i n v s : Nat), (∀ x ∈ xs, x < 256) → i ≤ 9 → tk i n xs = (v, s, 0) → ∃ m rest, xs = vb m ++ rest ∧ v = n + m * 2 ^ (7 * i) ∧ s = i + (vb m).length ∧ (0 < i → 0 < m) ∧ m * 2 ^ (7 * i) < 2 ^ 64
  | [], i, n, v, s, _, _, h => by simp [tk] at h
  | c :: cs, i, n, v, s, hx, hi, h => by
    rw [tk] at h
    split at h
    · simp at h
    · rename_i hc
      split at h
      · rename_i h128
        injection h with h1 h2
        injection h2 with h2 h3
        refine ⟨c, cs, by rw [vb_small h128]; rfl, by rw [← h1, Nat.mod_eq_of_lt h128], by rw [← h2, vb_small h128]; rfl, fun h0 => by omega, ?_⟩
        by_cases h9 : i = 9
        · subst h9
          have : c * 2 ^ (7 * 9) ≤ 1 * 2 ^ (7 * 9) := Nat.mul_le_mul_right _ (by omega)
          omega
        · have h1 : 2 ^ (7 * i) ≤ 2 ^ 56 := Nat.pow_le_pow_right (by decide) (by omega)
          have h2 : c * 2 ^ (7 * i) ≤ 127 * 2 ^ 56 := Nat.mul_le_mul (by omega) h1
          omega
      · rename_i h128
        have hc256 : c < 256 := hx c (by simp)
        have hi9 : i ≠ 9 := fun e => hc (.inl ⟨e, by omega⟩)
        obtain ⟨m, rest, e1, e2, e3, e4, e5⟩ := tk_inv cs (i + 1) _ v s (fun x h => hx x (by simp [h])) (by omega) h
        have hm := e4 (by omega)
        have hpow : 2 ^ (7 * (i + 1)) = 2 ^ (7 * i) * 128 := by rw [show 7 * (i + 1) = 7 * i + 7 from by omega, Nat.pow_add]
        have hmm : (c % 128 + 128 * m) * 2 ^ (7 * i) = c % 128 * 2 ^ (7 * i) + m * 2 ^ (7 * (i + 1)) := by
          rw [hpow, Nat.add_mul, ← Nat.mul_assoc m, Nat.mul_right_comm m, Nat.mul_comm m 128]
        have hvb : vb (c % 128 + 128 * m) = c :: vb m := by
          rw [vb_big (by omega), show (c % 128 + 128 * m) / 128 = m from by omega, show 128 + (c % 128 + 128 * m) % 128 = c from by omega]
        refine ⟨c % 128 + 128 * m, rest, by rw [hvb, e1]; rfl, by rw [hmm, e2]; omega, by rw [hvb, e3, List.length_cons]; omega, fun _ => by omega, ?_⟩
        rw [hmm]
        have h1 : 2 ^ (7 * i) ≤ 2 ^ 56 := Nat.pow_le_pow_right (by decide) (by omega)
        have h2 : c % 128 * 2 ^ (7 * i) < 2 ^ (7 * (i + 1)) := by
          rw [hpow, Nat.mul_comm]
          exact Nat.mul_lt_mul_of_pos_left (Nat.mod_lt _ (by decide)) (Nat.pow_pos (by decide))
        -- a multiple of 2^(7(i+1)) below 2^64 leaves room for less than that
        have hle : m * 2 ^ (7 * (i + 1)) + 2 ^ (7 * (i + 1)) ≤ 2 ^ 64 := by
          have hd : 2 ^ 64 = 2 ^ (64 - 7 * (i + 1)) * 2 ^ (7 * (i + 1)) := by rw [← Nat.pow_add]; congr 1; omega
          rw [hd] at e5 ⊢
          have := Nat.lt_of_mul_lt_mul_right e5
          calc m * 2 ^ (7 * (i + 1)) + 2 ^ (7 * (i + 1)) = (m + 1) * 2 ^ (7 * (i + 1)) := by rw [Nat.add_mul, Nat.one_mul]
            _ ≤ _ := Nat.mul_le_mul_right _ this
        omega
end Code
end Go.Proofs.Ytkmhjfileiabeaa
