/-
  Fields read from bytes, plain: what was written is read as it was; what is read was written so.
  Conditions: stated lemma by lemma.
-/
import Derived.Test.YtkmhjfileiabeaaCodeP
import Derived.Test.YtkmhjfileiabeaaCodeE
namespace Go.Proofs.Ytkmhjfileiabeaa
set_option linter.unusedVariables false
/-- bytes as a string -/
def bs (xs : List Nat) : ByteArray := ⟨(xs.map UInt8.ofNat).toArray⟩
theorem bs_size (xs : List Nat) : (bs xs).size = xs.length := by simp [bs, ByteArray.size]
theorem sb_bs {xs : List Nat} (h : ∀ x ∈ xs, x < 256) : sb (bs xs) = xs := by
  simp only [sb, bs, List.map_map]
  refine (List.map_congr_left fun x hx => ?_).trans (List.map_id xs)
  simp only [Function.comp, id_eq]
  rw [UInt8.toNat_ofNat']
  exact Nat.mod_eq_of_lt (h x hx)
theorem bs_sb (s : ByteArray) : bs (sb s) = s := sb_inj (sb_bs (sb_lt s))
theorem bs_inj {xs ys : List Nat} (hx : ∀ x ∈ xs, x < 256) (hy : ∀ x ∈ ys, x < 256) (h : bs xs = bs ys) : xs = ys := by
  rw [← sb_bs hx, ← sb_bs hy, h]
theorem bs_app (xs ys : List Nat) : bs (xs ++ ys) = bs xs ++ bs ys := by
  apply ByteArray.ext
  simp [bs, ByteArray.data_append]

namespace Code
/-- the number behind an unsigned one -/
def uz (n : Nat) : Int := if n % 2 = 1 then -((n / 2 : Nat) : Int) - 1 else ((n / 2 : Nat) : Int)
theorem uz_zz (n : Int) : uz (zz n) = n := by
  unfold uz zz
  split <;> split <;> omega
theorem zz_uz (n : Nat) : zz (uz n) = n := by
  unfold uz zz
  split <;> split <;> omega
/-- the field of a kind that bytes begin with, how many bytes it has, an error -/
def fd (k : Int) (xs : List Nat) : Fi × Nat × Nat :=
  if k ≠ 1 ∧ k ≠ 2 ∧ k ≠ 3 then ((k, 0, bs []), 0, 1)
  else if (tk 0 0 xs).2.2 ≠ 0 then ((k, 0, bs []), 0, (tk 0 0 xs).2.2)
  else if k = 1 then (if 2 ^ 63 ≤ (tk 0 0 xs).1 then ((k, 0, bs []), 0, 21) else ((1, ((tk 0 0 xs).1 : Nat), bs []), (tk 0 0 xs).2.1, 0))
  else if k = 2 then ((2, uz (tk 0 0 xs).1, bs []), (tk 0 0 xs).2.1, 0)
  else if 65536 < (tk 0 0 xs).1 then ((k, 0, bs []), 0, 21)
  else if xs.length < (tk 0 0 xs).2.1 + (tk 0 0 xs).1 then ((k, 0, bs []), 0, 20)
  else ((3, 0, bs ((xs.drop (tk 0 0 xs).2.1).take (tk 0 0 xs).1)), (tk 0 0 xs).2.1 + (tk 0 0 xs).1, 0)
/-- the fields that bytes are, or an error -/
def dec : List Int → List Nat → List Fi × Nat
  | [], xs => if xs = [] then ([], 0) else ([], 21)
  | k :: ks, xs => if (fd k xs).2.2 ≠ 0 then ([], (fd k xs).2.2) else
      if (dec ks (xs.drop (fd k xs).2.1)).2 ≠ 0 then ([], (dec ks (xs.drop (fd k xs).2.1)).2) else ((fd k xs).1 :: (dec ks (xs.drop (fd k xs).2.1)).1, 0)
/-- a field as it is read -/
def nm (f : Fi) : Fi := if f.1 = 3 then (3, 0, f.2.2) else (f.1, f.2.1, bs [])

theorem tk_vb0 (m : Nat) (rest : List Nat) (h : m < 2 ^ 64) : tk 0 0 (vb m ++ rest) = (m, (vb m).length, 0) := by
  have := tk_vb m 0 0 rest (by omega) (by simpa using h) (by omega)
  simpa using this
theorem tk_inv0 {xs : List Nat} {v s : Nat} (hx : ∀ x ∈ xs, x < 256) (h : tk 0 0 xs = (v, s, 0)) : xs = vb v ++ xs.drop s ∧ s = (vb v).length ∧ v < 2 ^ 64 := by
  obtain ⟨m, rest, e1, e2, e3, _, e4⟩ := tk_inv xs 0 0 v s hx (by omega) h
  have hv : v = m := by simpa using e2
  subst hv
  have hs : s = (vb v).length := by simpa using e3
  refine ⟨?_, hs, by simpa using e4⟩
  rw [hs]
  conv => rhs; rw [e1]
  rw [List.drop_left]
  exact e1

/-- a field that is written is read as it was -/
theorem fd_enc1 {f : Fi} {x : List Nat} (h : enc1 f = some x) (hn : f.2.1 ≤ 9223372036854775807) (hn0 : -9223372036854775808 ≤ f.2.1) (rest : List Nat) : fd f.1 (x ++ rest) = (nm f, x.length, 0) := by
  obtain ⟨k, n, s⟩ := f
  simp only at hn hn0
  unfold enc1 at h
  simp only at h
  unfold fd nm
  simp only
  by_cases h1 : k = 1 ∧ 0 ≤ n
  · obtain ⟨rfl, h0⟩ := h1
    rw [if_pos ⟨rfl, h0⟩] at h
    injection h with h
    subst h
    rw [if_neg (by omega), tk_vb0 _ _ (by omega), if_neg (by simp), if_pos rfl, if_neg (by simp; omega), if_neg (by omega)]
    simp only
    rw [Int.toNat_of_nonneg h0]
  · rw [if_neg h1] at h
    by_cases h2 : k = 2
    · subst h2
      rw [if_pos rfl] at h
      injection h with h
      subst h
      rw [if_neg (by omega), tk_vb0 _ _ (by unfold zz; split <;> omega), if_neg (by simp), if_neg (by omega), if_pos rfl, if_neg (by omega)]
      simp only [uz_zz]
    · rw [if_neg h2] at h
      split at h
      · rename_i h3
        obtain ⟨rfl, h3⟩ := h3
        injection h with h
        subst h
        have hl : (sb s).length = s.size := sb_len s
        rw [if_neg (by omega), List.append_assoc, tk_vb0 _ _ (by omega), if_neg (by simp), if_neg (by omega), if_neg (by omega), if_neg (by simp; omega), if_neg (by simp; omega), if_pos rfl]
        simp only [List.drop_left]
        rw [show s.size = (sb s).length from hl.symm, List.take_left, bs_sb]
        simp
      · cases h

theorem dec_enc : ∀ {fs : List Fi} {x : List Nat}, enc fs = some x → (∀ f ∈ fs, -9223372036854775808 ≤ f.2.1 ∧ f.2.1 ≤ 9223372036854775807) → dec (fs.map fun f => f.1) x = (fs.map nm, 0)
  | [], x, h, _ => by
    simp only [enc, Option.some.injEq] at h
    subst h
    rfl
  | f :: fs, x, h, hn => by
    simp only [enc] at h
    rcases h1 : enc1 f with _ | a
    · rw [h1] at h; simp at h
    · rcases h2 : enc fs with _ | b
      · rw [h1, h2] at h; simp at h
      · rw [h1, h2] at h
        simp only [Option.some.injEq] at h
        subst h
        have hf := fd_enc1 h1 (hn f (by simp)).2 (hn f (by simp)).1 b
        have ih := dec_enc h2 (fun g hg => hn g (by simp [hg]))
        simp only [List.map_cons, dec, hf, List.drop_left, ih]
        simp

/-- a field that is read is written as the bytes that it was read from -/
theorem enc1_fd {k : Int} {xs : List Nat} {f : Fi} {s : Nat} (hx : ∀ x ∈ xs, x < 256) (h : fd k xs = (f, s, 0)) : ∃ a, enc1 f = some a ∧ xs = a ++ xs.drop s ∧ s = a.length ∧ f.1 = k := by
  unfold fd at h
  split at h
  · simp at h
  · rename_i hk
    rcases ht : tk 0 0 xs with ⟨v, u, e⟩
    rw [ht] at h
    simp only at h
    split at h
    · rename_i he
      injection h with _ h; injection h with _ h
      exact absurd h he
    · rename_i he
      have he0 : e = 0 := by omega
      subst he0
      obtain ⟨e1, e2, e3⟩ := tk_inv0 hx ht
      split at h
      · rename_i h1
        subst h1
        split at h
        · simp at h
        · rename_i hv
          injection h with h2 h3; injection h3 with h3 h4
          subst h2; subst h3
          refine ⟨vb v, ?_, by rw [← e2] at *; exact e1, e2, rfl⟩
          unfold enc1
          rw [if_pos ⟨rfl, by simp⟩]
          simp
      · rename_i h1
        split at h
        · rename_i h2
          subst h2
          injection h with h2 h3; injection h3 with h3 h4
          subst h2; subst h3
          refine ⟨vb v, ?_, e1, e2, rfl⟩
          unfold enc1
          rw [if_neg (by simp), if_pos rfl]
          simp only [zz_uz]
        · rename_i h2
          split at h
          · simp at h
          · rename_i hv
            split at h
            · simp at h
            · rename_i hl
              injection h with h4 h5; injection h5 with h5 h6
              subst h4; subst h5
              have h3 : k = 3 := by omega
              have hlen : ((xs.drop u).take v).length = v := by simp; omega
              refine ⟨vb v ++ (xs.drop u).take v, ?_, ?_, by rw [List.length_append, hlen, e2], h3.symm⟩
              · unfold enc1
                rw [if_neg (by simp), if_neg (by simp), if_pos ⟨rfl, by simp only [bs_size]; omega⟩]
                simp only [bs_size]
                rw [hlen, sb_bs]
                exact fun x hx' => hx x (List.mem_of_mem_drop (List.mem_of_mem_take hx'))
              · rw [List.append_assoc, ← List.drop_drop, List.take_append_drop]
                exact e1

theorem enc_dec : ∀ {ks : List Int} {xs : List Nat} {l : List Fi}, (∀ x ∈ xs, x < 256) → dec ks xs = (l, 0) → enc l = some xs
  | [], xs, l, _, h => by
    unfold dec at h
    split at h
    · rename_i hx
      injection h with h _
      subst h; subst hx
      rfl
    · simp at h
  | k :: ks, xs, l, hx, h => by
    unfold dec at h
    rcases hf : fd k xs with ⟨f, s, e⟩
    rw [hf] at h
    simp only at h
    split at h
    · rename_i he
      injection h with _ h
      exact absurd h he
    · rename_i he
      have he0 : e = 0 := by omega
      subst he0
      rcases hd : dec ks (xs.drop s) with ⟨l2, e2⟩
      rw [hd] at h
      simp only at h
      split at h
      · rename_i he2
        injection h with _ h
        exact absurd h he2
      · rename_i he2
        have : e2 = 0 := by omega
        subst this
        injection h with h _
        subst h
        obtain ⟨a, ha, e3, e4, e5⟩ := enc1_fd hx hf
        have ih := enc_dec (fun x h => hx x (List.mem_of_mem_drop h)) hd
        simp only [enc, ha, ih]
        rw [← e3]
theorem dec_err : ∀ (ks : List Int) (xs : List Nat), (dec ks xs).2 ≠ 0 → (dec ks xs).1 = []
  | [], xs, h => by
    unfold dec at h ⊢
    split <;> rfl
  | k :: ks, xs, h => by
    unfold dec at h ⊢
    split
    · rfl
    · rename_i h1
      rw [if_neg h1] at h
      split
      · rfl
      · rename_i h2
        rw [if_neg h2] at h
        simp at h
end Code
end Go.Proofs.Ytkmhjfileiabeaa
