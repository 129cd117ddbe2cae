/-
  Arithmetic of the calendar, without any program: days before a year, days before a month, dates and their numbers.
  Conditions: stated lemma by lemma.
-/
namespace Go.Proofs.Ytjkaggmnieafjaa.Cal

/-- one more day in a leap year -/
def lp (y : Int) : Int := if y % 4 = 0 ∧ (y % 100 ≠ 0 ∨ y % 400 = 0) then 1 else 0
/-- days between the beginning of 1970 and the beginning of a year -/
def dby (y : Int) : Int := 365 * (y - 1) + (y - 1) / 4 - (y - 1) / 100 + (y - 1) / 400 - 719162
/-- days of a year ahead of a month -/
def cum (y m : Int) : Int :=
  if m = 1 then 0 else if m = 2 then 31 else lp y + (if m = 3 then 59 else if m = 4 then 90 else if m = 5 then 120 else if m = 6 then 151 else if m = 7 then 181 else if m = 8 then 212 else if m = 9 then 243 else if m = 10 then 273 else if m = 11 then 304 else if m = 12 then 334 else 365)
def dim (y m : Int) : Int :=
  if y < 1970 ∨ 2399 < y ∨ m < 1 ∨ 12 < m then 0 else if m = 2 then 28 + lp y else if m = 4 ∨ m = 6 ∨ m = 9 ∨ m = 11 then 30 else 31
def num (y m d : Int) : Int := dby y + cum y m + d - 1

theorem lp_01 (y : Int) : 0 ≤ lp y ∧ lp y ≤ 1 := by unfold lp; split <;> omega
theorem dby_succ (y : Int) : dby (y + 1) = dby y + 365 + lp y := by
  unfold dby lp
  have e : y + 1 - 1 = y := by omega
  rw [e]
  split <;> omega
theorem dby_mono {a b : Int} (h : a ≤ b) : dby a ≤ dby b := by unfold dby; omega
theorem dby_1970 : dby 1970 = 0 := by decide
theorem dby_2400 : dby 2400 = 157054 := by decide
theorem cum_13 (y : Int) : cum y 13 = 365 + lp y := by unfold cum; simp; omega
theorem cum_1 (y : Int) : cum y 1 = 0 := rfl
theorem cum_succ (y m : Int) (h0 : 1970 ≤ y) (h1 : y ≤ 2399) (a : 1 ≤ m) (b : m ≤ 12) : cum y (m + 1) = cum y m + dim y m := by
  have hc : m = 1 ∨ m = 2 ∨ m = 3 ∨ m = 4 ∨ m = 5 ∨ m = 6 ∨ m = 7 ∨ m = 8 ∨ m = 9 ∨ m = 10 ∨ m = 11 ∨ m = 12 := by omega
  have hl := lp_01 y
  have hn : ¬ (y < 1970) := by omega
  have hn' : ¬ (2399 < y) := by omega
  rcases hc with rfl | rfl | rfl | rfl | rfl | rfl | rfl | rfl | rfl | rfl | rfl | rfl <;> simp [cum, dim, hn, hn'] <;> omega
theorem dim_bd (y m : Int) : 0 ≤ dim y m ∧ dim y m ≤ 31 := by
  have hl := lp_01 y
  unfold dim; repeat' split <;> try omega
theorem dim_pos {y m : Int} (h0 : 1970 ≤ y) (h1 : y ≤ 2399) (a : 1 ≤ m) (b : m ≤ 12) : 28 ≤ dim y m := by
  have hl := lp_01 y
  unfold dim; repeat' split <;> try omega
theorem dim_pos_iff {y m : Int} (h : 0 < dim y m) : 1970 ≤ y ∧ y ≤ 2399 ∧ 1 ≤ m ∧ m ≤ 12 := by
  unfold dim at h; split at h <;> omega
theorem cum_mono (y m k : Int) (h0 : 1970 ≤ y) (h1 : y ≤ 2399) (a : 1 ≤ m) (b : m ≤ k) (c : k ≤ 13) : cum y m ≤ cum y k := by
  obtain ⟨n, rfl⟩ : ∃ n : Nat, k = m + n := ⟨(k - m).toNat, by omega⟩
  induction n with
  | zero => simp
  | succ n ih =>
    have := cum_succ y (m + n) h0 h1 (by omega) (by omega)
    have hd := dim_bd y (m + n)
    have := ih (by omega) (by omega)
    have e : m + ((n + 1 : Nat) : Int) = m + n + 1 := by omega
    rw [e]; omega
theorem cum_bd (y m : Int) (h0 : 1970 ≤ y) (h1 : y ≤ 2399) (a : 1 ≤ m) (b : m ≤ 12) : 0 ≤ cum y m ∧ cum y m + dim y m ≤ 365 + lp y := by
  have h2 := cum_mono y 1 m h0 h1 (by omega) a (by omega)
  have h3 := cum_mono y (m + 1) 13 h0 h1 (by omega) (by omega) (by omega)
  rw [cum_succ y m h0 h1 a b, cum_13] at h3
  rw [cum_1] at h2
  omega

/-- a date by the calendar -/
structure Ok (y m d : Int) : Prop where
  y0 : 1970 ≤ y
  y1 : y ≤ 2399
  m0 : 1 ≤ m
  m1 : m ≤ 12
  d0 : 1 ≤ d
  d1 : d ≤ dim y m
theorem Ok.of_day {y m d : Int} (a : 1 ≤ d) (b : d ≤ dim y m) : Ok y m d := by
  obtain ⟨h1, h2, h3, h4⟩ := dim_pos_iff (y := y) (m := m) (by omega)
  exact ⟨h1, h2, h3, h4, a, b⟩

theorem num_bd {y m d : Int} (h : Ok y m d) : dby y ≤ num y m d ∧ num y m d < dby (y + 1) := by
  have := cum_bd y m h.y0 h.y1 h.m0 h.m1
  have := dby_succ y
  have := h.d0; have := h.d1
  unfold num; omega
theorem num_rng {y m d : Int} (h : Ok y m d) : 0 ≤ num y m d ∧ num y m d ≤ 157053 := by
  have h1 := num_bd h
  have h2 := dby_mono h.y0
  have h3 : dby (y + 1) ≤ dby 2400 := dby_mono (by have := h.y1; omega)
  rw [dby_1970] at h2; rw [dby_2400] at h3; omega
theorem num_inj {y m d y' m' d' : Int} (h : Ok y m d) (h' : Ok y' m' d') (e : num y m d = num y' m' d') : y = y' ∧ m = m' ∧ d = d' := by
  have b := num_bd h
  have b' := num_bd h'
  have hy : y = y' := by
    rcases Int.lt_trichotomy y y' with l | l | l
    · have := dby_mono (show y + 1 ≤ y' by omega); omega
    · exact l
    · have := dby_mono (show y' + 1 ≤ y by omega); omega
  subst hy
  have e2 : cum y m + d = cum y m' + d' := by unfold num at e; omega
  have s := cum_succ y m h.y0 h.y1 h.m0 h.m1
  have s' := cum_succ y m' h.y0 h.y1 h'.m0 h'.m1
  have hm : m = m' := by
    rcases Int.lt_trichotomy m m' with l | l | l
    · have := cum_mono y (m + 1) m' h.y0 h.y1 (by have := h.m0; omega) (by omega) (by have := h'.m1; omega)
      have := h.d1; have := h'.d0; omega
    · exact l
    · have := cum_mono y (m' + 1) m h.y0 h.y1 (by have := h'.m0; omega) (by omega) (by have := h.m1; omega)
      have := h'.d1; have := h.d0; omega
  subst hm
  exact ⟨rfl, rfl, by omega⟩

def yrGo : Nat → Int → Int → Int
  | 0, y, _ => y
  | k + 1, y, n => if dby (y + 1) ≤ n then yrGo k (y + 1) n else y
def yr (n : Int) : Int := yrGo 429 1970 n
def moGo : Nat → Int → Int → Int → Int
  | 0, _, m, _ => m
  | k + 1, y, m, n => if dby y + cum y (m + 1) ≤ n then moGo k y (m + 1) n else m
def mo (n : Int) : Int := moGo 11 (yr n) 1 n
def dy (n : Int) : Int := n - dby (yr n) - cum (yr n) (mo n) + 1

theorem yrGo_ok (k : Nat) : ∀ (y n : Int), dby y ≤ n → n < dby (y + k + 1) → dby (yrGo k y n) ≤ n ∧ n < dby (yrGo k y n + 1) ∧ y ≤ yrGo k y n ∧ yrGo k y n ≤ y + k := by
  induction k with
  | zero => intro y n a b; exact ⟨a, by simpa [yrGo] using b, by simp [yrGo], by simp [yrGo]⟩
  | succ k ih =>
    intro y n a b
    unfold yrGo
    split
    · rename_i h
      have e : y + ((k + 1 : Nat) : Int) + 1 = y + 1 + k + 1 := by omega
      rw [e] at b
      obtain ⟨h1, h2, h3, h4⟩ := ih (y + 1) n h b
      exact ⟨h1, h2, by omega, by omega⟩
    · exact ⟨a, by omega, by omega, by omega⟩
theorem yr_ok {n : Int} (a : 0 ≤ n) (b : n ≤ 157053) : dby (yr n) ≤ n ∧ n < dby (yr n + 1) ∧ 1970 ≤ yr n ∧ yr n ≤ 2399 := by
  have := yrGo_ok 429 1970 n (by rw [dby_1970]; exact a) (by show n < dby 2400; rw [dby_2400]; omega)
  unfold yr; omega
theorem moGo_ok (k : Nat) : ∀ (y m n : Int), dby y + cum y m ≤ n → n < dby y + cum y (m + k + 1) →
    dby y + cum y (moGo k y m n) ≤ n ∧ n < dby y + cum y (moGo k y m n + 1) ∧ m ≤ moGo k y m n ∧ moGo k y m n ≤ m + k := by
  induction k with
  | zero => intro y m n a b; exact ⟨a, by simpa [moGo] using b, by simp [moGo], by simp [moGo]⟩
  | succ k ih =>
    intro y m n a b
    unfold moGo
    split
    · rename_i h
      have e : m + ((k + 1 : Nat) : Int) + 1 = m + 1 + k + 1 := by omega
      rw [e] at b
      obtain ⟨h1, h2, h3, h4⟩ := ih y (m + 1) n h b
      exact ⟨h1, h2, by omega, by omega⟩
    · exact ⟨a, by omega, by omega, by omega⟩
theorem ymd_ok {n : Int} (a : 0 ≤ n) (b : n ≤ 157053) : Ok (yr n) (mo n) (dy n) ∧ num (yr n) (mo n) (dy n) = n := by
  obtain ⟨h1, h2, h3, h4⟩ := yr_ok a b
  have hm := moGo_ok 11 (yr n) 1 n (by rw [cum_1]; omega) (by show n < _ + cum (yr n) 13; rw [cum_13, dby_succ] at *; omega)
  have hs := cum_succ (yr n) (mo n) h3 h4 (by unfold mo; omega) (by unfold mo; omega)
  refine ⟨⟨h3, h4, by unfold mo; omega, by unfold mo; omega, by unfold dy mo; omega, ?_⟩, by unfold num dy; omega⟩
  unfold dy
  have : n < dby (yr n) + cum (yr n) (mo n + 1) := hm.2.1
  omega
theorem ymd_of {y m d : Int} (h : Ok y m d) : yr (num y m d) = y ∧ mo (num y m d) = m ∧ dy (num y m d) = d := by
  obtain ⟨a, b⟩ := num_rng h
  obtain ⟨h1, h2⟩ := ymd_ok a b
  exact num_inj h1 h h2
theorem ymd_eq {n y m d : Int} (h : Ok y m d) (e : num y m d = n) : yr n = y ∧ mo n = m ∧ dy n = d := e ▸ ymd_of h

/-- the closed form of the code -/
theorem num_code (y m d : Int) (a : 1 ≤ m) (b : m ≤ 12) (y' m' : Int) (h : y' = if m ≤ 2 then y - 1 else y) (h' : m' = if m ≤ 2 then m + 12 else m) :
    365 * y' + y' / 4 - y' / 100 + y' / 400 + (153 * (m' - 3) + 2) / 5 + d - 719469 = num y m d := by
  have hc : m = 1 ∨ m = 2 ∨ m = 3 ∨ m = 4 ∨ m = 5 ∨ m = 6 ∨ m = 7 ∨ m = 8 ∨ m = 9 ∨ m = 10 ∨ m = 11 ∨ m = 12 := by omega
  have hs := dby_succ y
  have e0 : y + 1 - 1 = y := by omega
  have e : dby (y + 1) = 365 * y + y / 4 - y / 100 + y / 400 - 719162 := by unfold dby; rw [e0]
  clear e0
  have e2 : dby y = 365 * (y - 1) + (y - 1) / 4 - (y - 1) / 100 + (y - 1) / 400 - 719162 := rfl
  unfold num
  rcases hc with rfl | rfl | rfl | rfl | rfl | rfl | rfl | rfl | rfl | rfl | rfl | rfl <;> simp [cum] at * <;> subst h <;> subst h' <;> omega
end Go.Proofs.Ytjkaggmnieafjaa.Cal
