/-
  The arithmetic of the check sum, without any program: steps of the register, runs over bytes, tables.
  Conditions: stated lemma by lemma.
-/
set_option linter.unusedVariables false
namespace Go.Proofs.Ytkmhjfileiabeaa.Crc
/-- the polynomial, lowest bit first -/
def poly : Nat := 0xedb88320
/-- one step of the register, however wide it is -/
def stp (c : Nat) : Nat := c / 2 ^^^ (if c % 2 = 1 then poly else 0)
def stps : Nat → Nat → Nat
  | 0, c => c
  | n + 1, c => stps n (stp c)
/-- the register behind some bytes -/
def run (c : Nat) : List Nat → Nat
  | [] => c
  | x :: l => run (stps 8 (c ^^^ x)) l

theorem xor_div2 (a b : Nat) : (a ^^^ b) / 2 = a / 2 ^^^ b / 2 := by
  apply Nat.eq_of_testBit_eq; intro i
  simp [Nat.testBit_div_two, Nat.testBit_xor]
theorem xor_mod2 (a b : Nat) : (a ^^^ b) % 2 = (a % 2 + b % 2) % 2 := by
  have h := Nat.testBit_xor a b 0
  simp only [Nat.testBit_zero] at h
  have ha := Nat.mod_two_eq_zero_or_one a
  have hb := Nat.mod_two_eq_zero_or_one b
  have hc := Nat.mod_two_eq_zero_or_one (a ^^^ b)
  rcases ha with ha | ha <;> rcases hb with hb | hb <;> rcases hc with hc | hc <;> simp [ha, hb, hc] at h ⊢
theorem stp_xor (a b : Nat) : stp (a ^^^ b) = stp a ^^^ stp b := by
  unfold stp
  rw [xor_div2, xor_mod2]
  rcases Nat.mod_two_eq_zero_or_one a with ha | ha <;> rcases Nat.mod_two_eq_zero_or_one b with hb | hb <;> simp [ha, hb]
  · rw [Nat.xor_assoc]
  · rw [Nat.xor_assoc, Nat.xor_comm (b / 2) poly, ← Nat.xor_assoc]
  · have : (a / 2 ^^^ poly ^^^ (b / 2 ^^^ poly)) = a / 2 ^^^ b / 2 ^^^ (poly ^^^ poly) := by
      rw [Nat.xor_assoc, Nat.xor_assoc, ← Nat.xor_assoc poly, Nat.xor_comm poly (b / 2), Nat.xor_assoc (b / 2)]
    rw [this]; simp
theorem stps_xor (n : Nat) : ∀ a b, stps n (a ^^^ b) = stps n a ^^^ stps n b := by
  induction n with
  | zero => intro a b; rfl
  | succ n ih => intro a b; simp only [stps, stp_xor, ih]
theorem stps_add (m n : Nat) : ∀ c, stps (m + n) c = stps n (stps m c) := by
  induction m with
  | zero => intro c; simp [stps]
  | succ m ih => intro c; rw [show m + 1 + n = (m + n) + 1 from by omega]; simp only [stps, ih]
theorem stp_zero : stp 0 = 0 := by decide
theorem stps_zero (n : Nat) : stps n 0 = 0 := by
  induction n with
  | zero => rfl
  | succ n ih => simp only [stps, stp_zero, ih]
theorem stps_shift (n : Nat) : ∀ c, stps n (c * 2 ^ n) = c := by
  induction n with
  | zero => intro c; simp [stps]
  | succ n ih =>
    intro c
    have h1 : stp (c * 2 ^ (n + 1)) = c * 2 ^ n := by
      unfold stp
      have : c * 2 ^ (n + 1) = 2 * (c * 2 ^ n) := by rw [Nat.pow_succ]; rw [← Nat.mul_assoc, Nat.mul_comm]
      rw [this]
      simp
    simp only [stps, h1, ih]
theorem stps_shift' (m n c : Nat) : stps (m + n) (c * 2 ^ m) = stps n c := by rw [stps_add, stps_shift]

/-- the number that bytes are, the first the lowest -/
def num : List Nat → Nat
  | [] => 0
  | x :: l => x ^^^ num l * 2 ^ 8
/-- the register behind some bytes is that behind so many steps -/
theorem run_eq (l : List Nat) : ∀ c, run c l = stps (8 * l.length) (c ^^^ num l) := by
  induction l with
  | nil => intro c; simp [run, num, stps]
  | cons x l ih =>
    intro c
    rw [run, ih, List.length_cons, show 8 * (l.length + 1) = 8 + 8 * l.length from by omega, stps_add, num, ← Nat.xor_assoc, stps_xor 8 (c ^^^ x), stps_shift]
theorem run_append (a b : List Nat) : ∀ c, run c (a ++ b) = run (run c a) b := by
  induction a with
  | nil => intro c; rfl
  | cons x a ih => intro c; simp only [List.cons_append, run, ih]

theorem poly_lt : poly < 2 ^ 32 := by decide
theorem stp_lt {c : Nat} (h : c < 2 ^ 32) : stp c < 2 ^ 32 := by
  unfold stp
  apply Nat.xor_lt_two_pow
  · omega
  · split
    · exact poly_lt
    · decide
theorem stps_lt (n : Nat) : ∀ {c : Nat}, c < 2 ^ 32 → stps n c < 2 ^ 32 := by
  induction n with
  | zero => intro c h; exact h
  | succ n ih => intro c h; exact ih (stp_lt h)
theorem run_lt (l : List Nat) : ∀ {c : Nat}, c < 2 ^ 32 → (∀ x ∈ l, x < 256) → run c l < 2 ^ 32 := by
  induction l with
  | nil => intro c h _; exact h
  | cons x l ih =>
    intro c h hl
    exact ih (stps_lt 8 (Nat.xor_lt_two_pow h (by have := hl x (by simp); omega))) (fun y hy => hl y (by simp [hy]))
/-- a step loses nothing -/
theorem stp_ne {c : Nat} (h : c < 2 ^ 32) (h0 : c ≠ 0) : stp c ≠ 0 := by
  unfold stp
  split
  · intro e
    have e2 : c / 2 = poly := by
      have := congrArg (· ^^^ poly) e
      simpa [Nat.xor_assoc] using this
    have : c / 2 < 2 ^ 31 := by omega
    rw [e2] at this
    exact absurd this (by decide)
  · simp; omega
theorem stps_ne (n : Nat) : ∀ {c : Nat}, c < 2 ^ 32 → c ≠ 0 → stps n c ≠ 0 := by
  induction n with
  | zero => intro c _ h; exact h
  | succ n ih => intro c h h0; exact ih (stp_lt h) (stp_ne h h0)

/-- a table's step: what a byte does -/
theorem tab_step (c x : Nat) (h : x < 256) : stps 8 (c ^^^ x) = c / 256 ^^^ stps 8 (c % 256 ^^^ x) := by
  have e : c = c / 256 * 2 ^ 8 ^^^ c % 256 := by
    have h1 := Nat.div_add_mod c 256
    have h2 := Nat.two_pow_add_eq_or_of_lt (i := 8) (b := c % 256) (Nat.mod_lt _ (by decide)) (c / 256)
    apply Nat.eq_of_testBit_eq
    intro i
    simp only [Nat.testBit_xor, Nat.testBit_mul_two_pow]
    have h3 : Nat.testBit (c % 256) i = (decide (i < 8) && Nat.testBit c i) := by
      have := Nat.testBit_mod_two_pow c 8 i
      simpa using this
    have h4 : Nat.testBit (c / 256) (i - 8) = Nat.testBit c (8 + (i - 8)) := by
      have := Nat.testBit_div_two_pow (n := 8) c (i - 8)
      simpa [Nat.add_comm] using this
    rw [h3, h4]
    by_cases hi : i < 8
    · simp [hi, Nat.not_le.2 hi]
    · have : 8 + (i - 8) = i := by omega
      simp [hi, Nat.le_of_not_lt hi, this]
  conv => lhs; rw [e, Nat.xor_assoc, stps_xor, stps_shift]
end Go.Proofs.Ytkmhjfileiabeaa.Crc
