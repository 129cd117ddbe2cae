/-
  A disk, plain: one write less at a crash, from the last on.
  Conditions: stated lemma by lemma.
-/
import Derived.Test.YtheocdfccdpmbaaDkQ
namespace Go.Proofs.Ytheocdfccdpmbaa
set_option linter.unusedVariables false
set_option linter.unusedSimpArgs false
namespace Dk
theorem total_cons (x : Wri) (L : List Wri) : total (x :: L) = x.b.length + total L := by simp [total]
theorem content_mem {n : ByteArray} {L : List Wri} (h : ∀ x ∈ L, x.name ≠ n) : content n L = [] := by
  unfold content
  rw [List.filter_eq_nil_iff.2 (fun x hx => by simpa using h x hx)]
  rfl
theorem crash_round {L : List Wri} (ho : Ord L) {i : Nat} (hi : i < uns L) : ∃ nm sz, (waits L)[i]? = some (nm, sz) ∧ (∃ y ∈ L, y.name = nm) ∧ sz ≤ (content nm (mu (gone (i + 1)) 0 L)).length ∧
    ∀ (c : Nat → List UInt8 → List UInt8) (t : Nat), (∀ j, j < i → ∀ b, c j b = b) → (∀ j, i < j → ∀ b, c j b = []) → (∀ b, c i b = b.take t) →
      (∀ n, content n (mu c 0 L) = if n = nm then (content n (mu (gone (i + 1)) 0 L)).take ((content n (mu (gone (i + 1)) 0 L)).length - (sz - t)) else content n (mu (gone (i + 1)) 0 L)) ∧
      total (mu c 0 L) + (sz - t) = total (mu (gone (i + 1)) 0 L) := by
  obtain ⟨A, x, B, hL, rfl, hx⟩ := split_at L i hi
  have e1 : ∀ (c : Nat → List UInt8 → List UInt8), (∀ j, j < uns A → ∀ b, c j b = b) → (∀ j, uns A < j → ∀ b, c j b = []) → mu c 0 L = A ++ { x with b := c (uns A) x.b } :: mu (gone (uns A + 1)) (uns A + 1) B := fun c hc hc2 => by
    rw [hL, mu_app, mu_same c 0 A (fun j hj b => by rw [Nat.zero_add]; exact hc j hj b), Nat.zero_add, mu_wait (by simp [hx])]
    congr 2
    exact mu_content _ _ fun j hj b => by rw [hc2 _ (by omega)]; unfold gone; rw [if_pos (by omega)]
  have e2 : mu (gone (uns A + 1)) 0 L = A ++ x :: mu (gone (uns A + 1)) (uns A + 1) B := by
    rw [e1 _ (fun j hj b => by unfold gone; rw [if_neg (by omega)]) (fun j hj b => by unfold gone; rw [if_pos (by omega)])]
    unfold gone
    rw [if_neg (by omega)]
  refine ⟨x.name, x.b.length, by rw [hL]; exact waits_at hx, ⟨x, by rw [hL]; simp, rfl⟩, ?_, fun c t hc hc2 ht => ⟨fun n => cut_step hL ho hx c hc hc2 t (ht x.b) n, ?_⟩⟩
  · rw [e2, content_app, content_cons, if_pos rfl]
    simp only [List.length_append]
    omega
  · rw [e1 c hc hc2, e2, total_app, total_app, total_cons, total_cons, ht]
    simp only [List.length_take]
    omega
theorem mu_gone_all (L : List Wri) : mu (gone (uns L)) 0 L = L := mu_same _ _ _ fun j hj b => by unfold gone; rw [if_neg (by omega)]
theorem mu_left_all {k t : Nat} {L : List Wri} (h : uns L ≤ k) : mu (left k t) 0 L = L := mu_same _ _ _ fun j hj b => by unfold left; rw [if_neg (by omega), if_neg (by omega)]
theorem mu_left_min (k t : Nat) (L : List Wri) : mu (left (min k (uns L)) t) 0 L = mu (left k t) 0 L := by
  rcases Nat.lt_or_ge k (uns L) with h | h
  · rw [Nat.min_eq_left (by omega)]
  · rw [Nat.min_eq_right h, mu_left_all (Nat.le_refl _), mu_left_all h]
theorem mu_total_le (c : Nat → List UInt8 → List UInt8) (hc : ∀ j b, (c j b).length ≤ b.length) : ∀ (n : Nat) (L : List Wri), total (mu c n L) ≤ total L
  | _, [] => Nat.le_refl _
  | n, x :: L => by
    by_cases hs : x.syn = true
    · rw [mu_syn hs, total_cons, total_cons]
      have := mu_total_le c hc n L
      omega
    · rw [mu_wait hs, total_cons, total_cons]
      have := mu_total_le c hc (n + 1) L
      have := hc n x.b
      simp only
      omega
theorem gone_le (k j : Nat) (b : List UInt8) : (gone k j b).length ≤ b.length := by
  unfold gone
  by_cases h : k ≤ j
  · rw [if_pos h]; simp
  · rw [if_neg h]; exact Nat.le_refl _
theorem left_le (k t j : Nat) (b : List UInt8) : (left k t j b).length ≤ b.length := by
  unfold left
  by_cases h : k < j
  · rw [if_pos h]; simp
  · rw [if_neg h]
    by_cases h2 : j = k
    · rw [if_pos h2, List.length_take]; omega
    · rw [if_neg h2]; exact Nat.le_refl _
/-- how far a crash has come: the writes from k on are gone, or it is done -/
def Upto (L : List Wri) (keep torn k : Nat) (M : List Wri) : Prop := (keep < k → M = mu (gone k) 0 L) ∧ (k = keep → M = mu (left keep torn) 0 L)
theorem Upto.start (L : List Wri) {keep : Nat} (torn : Nat) (h : keep ≤ uns L) : Upto L keep torn (uns L) L :=
  ⟨fun _ => (mu_gone_all L).symm, fun e => (mu_left_all (by omega)).symm⟩
theorem Upto.total {L : List Wri} {keep torn k : Nat} {M : List Wri} (h : Upto L keep torn k M) (hk : keep ≤ k) : Dk.total M ≤ Dk.total L := by
  rcases Nat.lt_or_ge keep k with h1 | h1
  · rw [h.1 h1]; exact mu_total_le _ (gone_le _) _ _
  · rw [h.2 (by omega)]; exact mu_total_le _ (left_le _ _) _ _
/-- a round -/
theorem Upto.round {L : List Wri} (ho : Ord L) {keep torn k : Nat} {M : List Wri} (h : Upto L keep torn (k + 1) M) (hk : keep ≤ k) (hu : k < uns L) :
    ∃ nm sz, (waits L)[k]? = some (nm, sz) ∧ (∃ y ∈ L, y.name = nm) ∧ sz ≤ (content nm M).length ∧ ∀ lost, lost = sz - (if k = keep then torn else 0) →
      ∃ M', Upto L keep torn k M' ∧ (∀ n, content n M' = if n = nm then (content n M).take ((content n M).length - lost) else content n M) ∧ Dk.total M' + lost = Dk.total M := by
  rw [h.1 (by omega)]
  obtain ⟨nm, sz, h1, h2, h3, h4⟩ := crash_round ho hu
  refine ⟨nm, sz, h1, h2, h3, fun lost hl => ?_⟩
  subst hl
  by_cases c : k = keep
  · subst c
    have := h4 (left k torn) torn (fun j hj b => by unfold left; rw [if_neg (by omega), if_neg (by omega)]) (fun j hj b => by unfold left; rw [if_pos hj]) (fun b => by unfold left; rw [if_neg (by omega), if_pos rfl])
    rw [if_pos rfl]
    exact ⟨_, ⟨fun e => by omega, fun _ => rfl⟩, this.1, this.2⟩
  · have := h4 (gone k) 0 (fun j hj b => by unfold gone; rw [if_neg (by omega)]) (fun j hj b => by unfold gone; rw [if_pos (by omega)]) (fun b => by unfold gone; rw [if_pos (by omega)]; simp)
    rw [if_neg c]
    exact ⟨_, ⟨fun _ => rfl, fun e => absurd e c⟩, this.1, this.2⟩
end Dk
end Go.Proofs.Ytheocdfccdpmbaa
