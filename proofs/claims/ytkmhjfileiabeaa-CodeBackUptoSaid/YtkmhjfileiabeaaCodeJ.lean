/-
  Frames, plain: what is framed is unframed; a frame that is cut or turned isn't; lists that are written alike; how long numbers are.
  Conditions: stated lemma by lemma.
-/
import Derived.Test.YtkmhjfileiabeaaCodeD
import Derived.Test.YtkmhjfileiabeaaCrc2
namespace Go.Proofs.Ytkmhjfileiabeaa
set_option linter.unusedVariables false
set_option linter.unusedSimpArgs false
namespace Code
theorem num_set (b : Nat) : ∀ (l : List Nat) (j : Nat), j < l.length → Crc.num (l.set j (l.getD j 0 ^^^ b)) = Crc.num l ^^^ b * 2 ^ (8 * j)
  | [], j, h => absurd h (Nat.not_lt_zero _)
  | x :: l, 0, _ => by
    simp only [List.set_cons_zero, List.getD_cons_zero, Crc.num, Nat.mul_zero, Nat.pow_zero, Nat.mul_one]
    rw [Nat.xor_assoc, Nat.xor_assoc, Nat.xor_comm b]
  | x :: l, j + 1, h => by
    have ih := num_set b l j (by simpa using h)
    have mx : ∀ a b k : Nat, (a ^^^ b) * 2 ^ k = a * 2 ^ k ^^^ b * 2 ^ k := fun a b k => by
      rw [← Nat.shiftLeft_eq, ← Nat.shiftLeft_eq, ← Nat.shiftLeft_eq, Nat.shiftLeft_xor_distrib]
    simp only [List.set_cons_succ, List.getD_cons_succ, Crc.num] at ih ⊢
    rw [ih, mx, ← Nat.xor_assoc, show 8 * (j + 1) = 8 * j + 8 from by omega, Nat.pow_add, Nat.mul_assoc]
/-- a byte turned is seen by the sum -/
theorem more_set (l : List Nat) (j t : Nat) (hj : j < l.length) (ht : t < 256) (h0 : t ≠ 0) : Crc.more 0 (l.set j (l.getD j 0 ^^^ t)) ≠ Crc.more 0 l := fun h => by
  unfold Crc.more at h
  have h1 := congrArg (· ^^^ Crc.top) h
  simp only [Nat.xor_assoc, Nat.xor_self, Nat.xor_zero] at h1
  rw [Crc.run_eq, Crc.run_eq, num_set t l j hj, List.length_set, ← Nat.xor_assoc, Crc.stps_xor] at h1
  have h2 : Crc.stps (8 * l.length) (t * 2 ^ (8 * j)) = 0 := by
    have := congrArg (· ^^^ Crc.stps (8 * l.length) (0 ^^^ Crc.top ^^^ Crc.num l)) h1
    simp only [Nat.xor_self] at this
    rwa [Nat.xor_comm, ← Nat.xor_assoc, Nat.xor_self, Nat.zero_xor] at this
  rw [show 8 * l.length = 8 * j + (8 * l.length - 8 * j) from by omega, Crc.stps_shift'] at h2
  exact Crc.stps_ne _ (by omega) h0 h2

/-- a number as four bytes, lowest first -/
def le4 (s : Nat) : List Nat := [s % 256, s / 256 % 256, s / 65536 % 256, s / 16777216 % 256]
/-- the number of the four bytes from a place on -/
def s4 (xs : List Nat) (i : Nat) : Nat := xs.getD i 0 + xs.getD (i + 1) 0 * 256 + xs.getD (i + 2) 0 * 65536 + xs.getD (i + 3) 0 * 16777216
/-- a frame -/
def frm (b : List Nat) : List Nat := vb b.length ++ b ++ le4 (Crc.more 0 (vb b.length ++ b))
/-- the bytes in a frame, the frame's length, an error -/
def unf (xs : List Nat) : List Nat × Nat × Nat :=
  if (tk 0 0 xs).2.2 ≠ 0 then ([], 0, (tk 0 0 xs).2.2)
  else if 65536 < (tk 0 0 xs).1 then ([], 0, 21)
  else if xs.length < (tk 0 0 xs).2.1 + (tk 0 0 xs).1 + 4 then ([], 0, 20)
  else if Crc.more 0 (xs.take ((tk 0 0 xs).2.1 + (tk 0 0 xs).1)) ≠ s4 xs ((tk 0 0 xs).2.1 + (tk 0 0 xs).1) then ([], 0, 22)
  else ((xs.drop (tk 0 0 xs).2.1).take (tk 0 0 xs).1, (tk 0 0 xs).2.1 + (tk 0 0 xs).1 + 4, 0)

theorem s4_le4 (a rest : List Nat) (s : Nat) (hs : s < 2 ^ 32) : s4 (a ++ le4 s ++ rest) a.length = s := by
  have g : ∀ i, i < 4 → (a ++ le4 s ++ rest).getD (a.length + i) 0 = (le4 s).getD i 0 := fun i hi => by
    simp only [List.getD, List.append_assoc]
    rw [List.getElem?_append_right (by omega), show a.length + i - a.length = i from by omega, List.getElem?_append_left (by simpa [le4] using hi)]
  unfold s4
  have g0 := g 0 (by omega)
  rw [Nat.add_zero] at g0
  rw [g0, g 1 (by omega), g 2 (by omega), g 3 (by omega)]
  simp only [le4, List.getD_cons_zero, List.getD_cons_succ]
  omega
theorem more_lt (xs : List Nat) (h : ∀ x ∈ xs, x < 256) : Crc.more 0 xs < 2 ^ 32 := by
  unfold Crc.more
  exact Nat.xor_lt_two_pow (Crc.run_lt xs (Nat.xor_lt_two_pow (by decide) (by decide)) h) (by decide)
theorem vb_lt : ∀ (n : Nat), ∀ x ∈ vb n, x < 256 := by
  intro n
  induction n using Nat.strongRecOn with
  | _ n ih =>
    intro x hx
    by_cases h : n < 128
    · rw [vb_small h] at hx
      simp at hx
      omega
    · rw [vb_big h] at hx
      rcases List.mem_cons.1 hx with rfl | hx
      · omega
      · exact ih (n / 128) (by omega) x hx

/-- what is framed is unframed, whatever stands behind -/
theorem unf_frm (b more : List Nat) (hb : ∀ x ∈ b, x < 256) (hl : b.length ≤ 65536) : unf (frm b ++ more) = (b, (frm b).length, 0) := by
  have ht : tk 0 0 (frm b ++ more) = (b.length, (vb b.length).length, 0) := by
    unfold frm
    rw [List.append_assoc, List.append_assoc]
    exact tk_vb0 _ _ (by omega)
  have hvb : ∀ x ∈ vb b.length ++ b, x < 256 := fun x hx => by
    rcases List.mem_append.1 hx with h | h
    · exact vb_lt _ x h
    · exact hb x h
  have hle : ∀ s, (le4 s).length = 4 := fun s => rfl
  have hE : (vb b.length).length + b.length = (vb b.length ++ b).length := by simp
  unfold unf
  rw [ht]
  simp only
  rw [if_neg (by simp), if_neg (by omega), hE]
  have h4 : s4 (frm b ++ more) (vb b.length ++ b).length = Crc.more 0 (vb b.length ++ b) := s4_le4 _ _ _ (more_lt _ hvb)
  have htk : (frm b ++ more).take (vb b.length ++ b).length = vb b.length ++ b := by
    unfold frm
    rw [List.append_assoc _ _ more, List.take_left]
  rw [h4, htk, if_neg, if_neg (by simp)]
  · have hd : ((frm b ++ more).drop (vb b.length).length).take b.length = b := by
      unfold frm
      rw [List.append_assoc, List.append_assoc, List.drop_left, List.take_left]
    rw [hd]
    simp [frm, hle]
    omega
  · simp only [frm, List.length_append, hle]
    omega

theorem tk_cut : ∀ (m i n k : Nat), i ≤ 9 → m * 2 ^ (7 * i) < 2 ^ 64 → (0 < i → 0 < m) → k < (vb m).length → tk i n ((vb m).take k) = (0, 0, 20) := by
  intro m
  induction m using Nat.strongRecOn with
  | _ m ih =>
    intro i n k hi hm h0 hk
    cases k with
    | zero => simp [tk]
    | succ k =>
      by_cases hs : m < 128
      · rw [vb_small hs] at hk
        simp at hk
      · have hi9 : i ≠ 9 := by
          rintro rfl
          have : 128 * 2 ^ (7 * 9) ≤ m * 2 ^ (7 * 9) := Nat.mul_le_mul_right _ (by omega)
          omega
        rw [vb_big hs] at hk ⊢
        rw [List.take_succ_cons, tk, if_neg, if_neg (by omega)]
        · have hpow : 2 ^ (7 * (i + 1)) = 2 ^ (7 * i) * 128 := by rw [show 7 * (i + 1) = 7 * i + 7 from by omega, Nat.pow_add]
          have hle : m / 128 * 2 ^ (7 * (i + 1)) ≤ m * 2 ^ (7 * i) := by
            rw [hpow, ← Nat.mul_assoc, Nat.mul_right_comm]
            exact Nat.mul_le_mul_right _ (by omega)
          exact ih (m / 128) (by omega) (i + 1) _ k (by omega) (by omega) (fun _ => by omega) (by simpa using hk)
        · rintro (⟨rfl, _⟩ | ⟨_, h⟩)
          · exact hi9 rfl
          · omega
/-- a frame that is cut is none -/
theorem unf_cut (b : List Nat) (k : Nat) (hl : b.length ≤ 65536) (hk : k < (frm b).length) : (unf ((frm b).take k)).2.2 = 20 := by
  have hle : ∀ s, (le4 s).length = 4 := fun s => rfl
  have hfl : (frm b).length = (vb b.length).length + b.length + 4 := by simp [frm, hle]; omega
  unfold unf
  by_cases h : k < (vb b.length).length
  · have ht : tk 0 0 ((frm b).take k) = (0, 0, 20) := by
      unfold frm
      rw [List.append_assoc, List.take_append_of_le_length (by omega)]
      exact tk_cut _ _ _ _ (by omega) (by simp; omega) (by omega) h
    rw [ht]
    simp
  · have ht : tk 0 0 ((frm b).take k) = (b.length, (vb b.length).length, 0) := by
      unfold frm
      rw [List.append_assoc, List.take_append, List.take_of_length_le (by omega)]
      exact tk_vb0 _ _ (by omega)
    rw [ht]
    simp only
    rw [if_neg (by simp), if_neg (by omega), if_pos (by rw [List.length_take]; omega)]

theorem xor_byte {x t : Nat} (hx : x < 256) (ht : t < 256) (h0 : t ≠ 0) : x ^^^ t < 256 ∧ x ^^^ t ≠ x := by
  refine ⟨Nat.xor_lt_two_pow (n := 8) hx ht, fun h => h0 ?_⟩
  have := congrArg (x ^^^ ·) h
  simpa [← Nat.xor_assoc] using this
theorem s4_inj {xs ys : List Nat} {E : Nat} (hx : ∀ x ∈ xs, x < 256) (hy : ∀ x ∈ ys, x < 256) (h : s4 xs E = s4 ys E) : ∀ i, i < 4 → xs.getD (E + i) 0 = ys.getD (E + i) 0 := by
  have bx : ∀ i, xs.getD i 0 < 256 := fun i => by
    simp only [List.getD]
    rcases hg : xs[i]? with _ | x
    · simp
    · exact hx x (List.mem_of_getElem? hg)
  have bY : ∀ i, ys.getD i 0 < 256 := fun i => by
    simp only [List.getD]
    rcases hg : ys[i]? with _ | x
    · simp
    · exact hy x (List.mem_of_getElem? hg)
  unfold s4 at h
  have := bx E; have := bx (E + 1); have := bx (E + 2); have := bx (E + 3)
  have := bY E; have := bY (E + 1); have := bY (E + 2); have := bY (E + 3)
  intro i hi
  rcases i with _ | _ | _ | _ | i
  · rw [Nat.add_zero]; omega
  · show xs.getD (E + 1) 0 = ys.getD (E + 1) 0; omega
  · show xs.getD (E + 2) 0 = ys.getD (E + 2) 0; omega
  · show xs.getD (E + 3) 0 = ys.getD (E + 3) 0; omega
  · omega
/-- a frame of which a byte is turned isn't taken for one of as many bytes -/
theorem unf_turn (b : List Nat) (k t : Nat) (hb : ∀ x ∈ b, x < 256) (hl : b.length ≤ 65536) (hk : k < (frm b).length) (ht : t < 256) (h0 : t ≠ 0) :
    (unf ((frm b).set k ((frm b).getD k 0 ^^^ t))).2.2 ≠ 0 ∨ ((unf ((frm b).set k ((frm b).getD k 0 ^^^ t))).2.1 ≠ (frm b).length ∧ (unf ((frm b).set k ((frm b).getD k 0 ^^^ t))).1.length ≠ b.length) := by
  have hle : ∀ s, (le4 s).length = 4 := fun s => rfl
  have hfl : (frm b).length = (vb b.length).length + b.length + 4 := by simp [frm, hle]; omega
  have hvb : ∀ x ∈ vb b.length ++ b, x < 256 := fun x hx => by
    rcases List.mem_append.1 hx with h | h
    · exact vb_lt _ x h
    · exact hb x h
  have hf : ∀ x ∈ frm b, x < 256 := fun x hx => by
    rcases List.mem_append.1 hx with h | h
    · exact hvb x h
    · simp only [le4, List.mem_cons, List.not_mem_nil, or_false] at h
      omega
  have hE : (vb b.length ++ b).length = (vb b.length).length + b.length := by simp
  have h4 : s4 (frm b) ((vb b.length).length + b.length) = Crc.more 0 ((frm b).take ((vb b.length).length + b.length)) := by
    have h1 : s4 (frm b ++ []) (vb b.length ++ b).length = Crc.more 0 (vb b.length ++ b) := s4_le4 _ _ _ (more_lt _ hvb)
    have h2 : (frm b).take (vb b.length ++ b).length = vb b.length ++ b := by unfold frm; rw [List.take_left]
    rw [← hE, h2, ← h1, List.append_nil]
  generalize hF : frm b = f at *
  have hkb : f.getD k 0 < 256 := by
    simp only [List.getD, List.getElem?_eq_getElem hk, Option.getD_some]
    exact hf _ (List.getElem_mem hk)
  obtain ⟨hx1, hx2⟩ := xor_byte hkb ht h0
  have hg : ∀ x ∈ f.set k (f.getD k 0 ^^^ t), x < 256 := fun x hx => by
    rcases List.mem_or_eq_of_mem_set hx with h | rfl
    · exact hf x h
    · exact hx1
  have hgl : (f.set k (f.getD k 0 ^^^ t)).length = f.length := List.length_set
  have hgk : (f.set k (f.getD k 0 ^^^ t)).getD k 0 = f.getD k 0 ^^^ t := by simp [List.getD, hk]
  have hms : ∀ E, k < E → E ≤ f.length → Crc.more 0 ((f.set k (f.getD k 0 ^^^ t)).take E) ≠ Crc.more 0 (f.take E) := fun E h1 h2 => by
    have := more_set (f.take E) k t (by rw [List.length_take]; omega) ht h0
    rw [List.take_set]
    rwa [show (f.take E).getD k 0 = f.getD k 0 from by simp [List.getD, List.getElem?_take, h1]] at this
  have hsame : ∀ E, E ≤ k → (f.set k (f.getD k 0 ^^^ t)).take E = f.take E := fun E h1 => by
    rw [List.take_set, List.set_eq_of_length_le]
    rw [List.length_take]; omega
  generalize hG : f.set k (f.getD k 0 ^^^ t) = g at *
  rcases hu : (unf g) with ⟨y, m, e⟩
  by_cases he : e = 0
  · right
    subst he
    unfold unf at hu
    rcases htk : tk 0 0 g with ⟨n', s', e'⟩
    rw [htk] at hu
    simp only at hu
    split at hu
    · rename_i h; injection hu with _ hu; injection hu with _ hu; exact absurd hu h
    · rename_i he'
      have : e' = 0 := by omega
      subst this
      obtain ⟨i1, i2, i3⟩ := tk_inv0 hg htk
      split at hu
      · simp at hu
      · split at hu
        · simp at hu
        · rename_i hlen
          split at hu
          · simp at hu
          · rename_i hsum
            injection hu with hy hm
            injection hm with hm _
            have hylen : y.length = n' := by rw [← hy, List.length_take, List.length_drop]; omega
            have hsum' : Crc.more 0 (g.take (s' + n')) = s4 g (s' + n') := by
              by_cases hq : Crc.more 0 (g.take (s' + n')) = s4 g (s' + n')
              · exact hq
              · exact absurd hq hsum
            have hmne : m ≠ f.length := fun hmf => by
              have hEE : s' + n' = (vb b.length).length + b.length := by omega
              rw [hEE] at hsum'
              by_cases hkE : k < (vb b.length).length + b.length
              · refine hms _ hkE (by omega) ?_
                rw [hsum', ← h4, ← hG]
                unfold s4
                have : ∀ j, k < j → (f.set k (f.getD k 0 ^^^ t)).getD j 0 = f.getD j 0 := fun j hj => by
                  simp only [List.getD]
                  rw [List.getElem?_set_ne (by omega)]
                rw [this _ (by omega), this _ (by omega), this _ (by omega), this _ (by omega)]
              · rw [hsame _ (by omega), ← h4] at hsum'
                have := s4_inj hf hg hsum' (k - ((vb b.length).length + b.length)) (by omega)
                rw [show (vb b.length).length + b.length + (k - ((vb b.length).length + b.length)) = k from by omega, hgk] at this
                exact hx2 this.symm
            refine ⟨hmne, fun hyb => hmne ?_⟩
            simp only at hyb
            have : n' = b.length := by omega
            subst this
            omega
  · left
    exact he

theorem vb_len_step (a : Nat) : (vb a).length = 1 + (if a / 128 = 0 then 0 else (vb (a / 128)).length) := by
  by_cases h : a < 128
  · rw [vb_small h, if_pos (by omega)]; rfl
  · rw [vb_big h, if_neg (by omega), List.length_cons]; omega
theorem vb_mono : ∀ (a b : Nat), a ≤ b → (vb a).length ≤ (vb b).length := by
  intro a
  induction a using Nat.strongRecOn with
  | _ a ih =>
    intro b hab
    by_cases ha : a < 128
    · rw [vb_small ha]
      exact vb_pos b
    · rw [vb_big ha, vb_big (show ¬ b < 128 by omega), List.length_cons, List.length_cons]
      have := ih (a / 128) (by omega) (b / 128) (by omega)
      omega
theorem enc1_nm (f : Fi) : enc1 (nm f) = enc1 f := by
  obtain ⟨k, n, s⟩ := f
  unfold nm
  simp only
  split
  · rename_i h
    subst h
    unfold enc1
    simp
  · rename_i h
    unfold enc1
    simp [h]
theorem enc_nm : ∀ (l : List Fi), enc (l.map nm) = enc l
  | [] => rfl
  | f :: fs => by
    simp only [List.map_cons, enc, enc1_nm, enc_nm fs]
/-- lists of the same kinds are written alike just if they say the same -/
theorem enc_same {a b : List Fi} {x y : List Nat} (ha : enc a = some x) (hb : enc b = some y) (na : ∀ f ∈ a, -9223372036854775808 ≤ f.2.1 ∧ f.2.1 ≤ 9223372036854775807)
    (nb : ∀ f ∈ b, -9223372036854775808 ≤ f.2.1 ∧ f.2.1 ≤ 9223372036854775807) (hk : a.map (fun f => f.1) = b.map (fun f => f.1)) : x = y ↔ a.map nm = b.map nm := by
  constructor
  · intro h
    subst h
    have h1 := dec_enc ha na
    have h2 := dec_enc hb nb
    rw [hk, h2] at h1
    injection h1 with h1 _
    exact h1.symm
  · intro h
    rw [← enc_nm, h, enc_nm, hb] at ha
    injection ha with ha
    exact ha.symm
end Code
end Go.Proofs.Ytkmhjfileiabeaa
