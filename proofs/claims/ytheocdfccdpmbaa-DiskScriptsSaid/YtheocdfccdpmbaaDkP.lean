/-
  A disk, plain: writes in a list, what a file holds, what waits; what a crash leaves.
  Conditions: stated lemma by lemma.
-/
import Derived.KernelRfl
namespace Go.Proofs.Ytheocdfccdpmbaa
set_option linter.unusedVariables false
set_option linter.unusedSimpArgs false
/-- a write: a file's name, bytes, whether it is synced -/
structure Wri where
  name : ByteArray
  b : List UInt8
  syn : Bool
deriving Inhabited
namespace Dk
/-- what a file holds -/
def content (n : ByteArray) (L : List Wri) : List UInt8 := (L.filter fun x => decide (x.name = n)).flatMap (·.b)
theorem content_nil (n : ByteArray) : content n [] = [] := rfl
theorem content_app (n : ByteArray) (A B : List Wri) : content n (A ++ B) = content n A ++ content n B := by simp [content]
theorem content_cons (n : ByteArray) (x : Wri) (L : List Wri) : content n (x :: L) = (if x.name = n then x.b else []) ++ content n L := by
  unfold content
  by_cases c : x.name = n
  · rw [List.filter_cons_of_pos (by simp [c]), if_pos c]; rfl
  · rw [List.filter_cons_of_neg (by simp [c]), if_neg c]; rfl
/-- a file's later writes wait if an earlier one does -/
def Ord (L : List Wri) : Prop := L.Pairwise fun a b => a.name = b.name → b.syn = true → a.syn = true
/-- how many wait -/
def uns (L : List Wri) : Nat := (L.filter fun x => !x.syn).length
/-- what waits: names and sizes -/
def waits (L : List Wri) : List (ByteArray × Nat) := (L.filter fun x => !x.syn).map fun x => (x.name, x.b.length)
def total (L : List Wri) : Nat := (L.map (·.b.length)).sum
theorem waits_len (L : List Wri) : (waits L).length = uns L := by simp [waits, uns]
theorem uns_app (A B : List Wri) : uns (A ++ B) = uns A + uns B := by simp [uns]
theorem total_app (A B : List Wri) : total (A ++ B) = total A + total B := by simp [total]
/-- the writes that wait, each by its number, turned -/
def mu (c : Nat → List UInt8 → List UInt8) : Nat → List Wri → List Wri
  | _, [] => []
  | n, x :: L => if x.syn then x :: mu c n L else { x with b := c n x.b } :: mu c (n + 1) L
theorem mu_nil (c : Nat → List UInt8 → List UInt8) (n : Nat) : mu c n [] = [] := rfl
theorem mu_syn {c : Nat → List UInt8 → List UInt8} {n : Nat} {x : Wri} {L : List Wri} (h : x.syn = true) : mu c n (x :: L) = x :: mu c n L := by rw [mu, if_pos h]
theorem mu_wait {c : Nat → List UInt8 → List UInt8} {n : Nat} {x : Wri} {L : List Wri} (h : ¬ x.syn = true) : mu c n (x :: L) = { x with b := c n x.b } :: mu c (n + 1) L := by rw [mu, if_neg h]
theorem mu_app (c : Nat → List UInt8 → List UInt8) : ∀ (n : Nat) (A B : List Wri), mu c n (A ++ B) = mu c n A ++ mu c (n + uns A) B
  | n, [], B => rfl
  | n, x :: A, B => by
    rw [List.cons_append]
    by_cases h : x.syn = true
    · rw [mu_syn h, mu_syn h, mu_app c n A B, List.cons_append]
      have e : uns (x :: A) = uns A := by unfold uns; rw [List.filter_cons_of_neg (by simp [h])]
      rw [e]
    · rw [mu_wait h, mu_wait h, mu_app c (n + 1) A B, List.cons_append]
      have e : uns (x :: A) = uns A + 1 := by unfold uns; rw [List.filter_cons_of_pos (by simpa using h)]; rfl
      rw [e, Nat.add_assoc, Nat.add_comm 1]
theorem mu_same (c : Nat → List UInt8 → List UInt8) : ∀ (n : Nat) (L : List Wri), (∀ j, j < uns L → ∀ b, c (n + j) b = b) → mu c n L = L
  | _, [], _ => rfl
  | n, x :: L, h => by
    by_cases hs : x.syn = true
    · have e : uns (x :: L) = uns L := by unfold uns; rw [List.filter_cons_of_neg (by simp [hs])]
      rw [e] at h
      rw [mu_syn hs, mu_same c n L h]
    · have e : uns (x :: L) = uns L + 1 := by unfold uns; rw [List.filter_cons_of_pos (by simpa using hs)]; rfl
      rw [e] at h
      rw [mu_wait hs, mu_same c (n + 1) L (fun j hj b => by have := h (j + 1) (by omega) b; rwa [show n + (j + 1) = n + 1 + j from by omega] at this)]
      rw [show c n x.b = x.b from h 0 (by omega) x.b]
theorem mu_content {c d : Nat → List UInt8 → List UInt8} : ∀ (n : Nat) (L : List Wri), (∀ j, j < uns L → ∀ b, c (n + j) b = d (n + j) b) → mu c n L = mu d n L
  | _, [], _ => rfl
  | n, x :: L, h => by
    by_cases hs : x.syn = true
    · have e : uns (x :: L) = uns L := by unfold uns; rw [List.filter_cons_of_neg (by simp [hs])]
      rw [e] at h
      rw [mu_syn hs, mu_syn hs, mu_content (c := c) (d := d) n L h]
    · have e : uns (x :: L) = uns L + 1 := by unfold uns; rw [List.filter_cons_of_pos (by simpa using hs)]; rfl
      rw [e] at h
      rw [mu_wait hs, mu_wait hs, mu_content (c := c) (d := d) (n + 1) L (fun j hj b => by have := h (j + 1) (by omega) b; rwa [show n + (j + 1) = n + 1 + j from by omega] at this)]
      rw [show c n x.b = d n x.b from h 0 (by omega) x.b]
theorem mu_uns (c : Nat → List UInt8 → List UInt8) : ∀ (n : Nat) (L : List Wri), uns (mu c n L) = uns L
  | _, [] => rfl
  | n, x :: L => by
    by_cases hs : x.syn = true
    · rw [mu_syn hs]
      have e : ∀ M, uns (x :: M) = uns M := fun M => by unfold uns; rw [List.filter_cons_of_neg (by simp [hs])]
      rw [e, e, mu_uns c n L]
    · rw [mu_wait hs]
      have e : ∀ (y : Wri) M, y.syn = x.syn → uns (y :: M) = uns M + 1 := fun y M hy => by unfold uns; rw [List.filter_cons_of_pos (by rw [hy]; simpa using hs)]; rfl
      rw [e x L rfl, e { x with b := c n x.b } _ rfl, mu_uns c (n + 1) L]
/-- the writes from number i on are gone -/
def gone (i : Nat) : Nat → List UInt8 → List UInt8 := fun j b => if i ≤ j then [] else b
/-- what a crash leaves of the writes that wait -/
def left (keep torn : Nat) : Nat → List UInt8 → List UInt8 := fun j b => if keep < j then [] else if j = keep then b.take torn else b
/-- the write that waits at number i -/
theorem split_at : ∀ (L : List Wri) (i : Nat), i < uns L → ∃ A x B, L = A ++ x :: B ∧ uns A = i ∧ x.syn = false
  | [], i, h => by simp [uns] at h
  | x :: L, i, h => by
    by_cases hs : x.syn = true
    · have e : uns (x :: L) = uns L := by unfold uns; rw [List.filter_cons_of_neg (by simp [hs])]
      rw [e] at h
      obtain ⟨A, y, B, rfl, h1, h2⟩ := split_at L i h
      exact ⟨x :: A, y, B, rfl, by unfold uns at h1 ⊢; rw [List.filter_cons_of_neg (by simp [hs])]; exact h1, h2⟩
    · have hs' : x.syn = false := by simpa using hs
      have e : ∀ M, uns (x :: M) = uns M + 1 := fun M => by unfold uns; rw [List.filter_cons_of_pos (by simp [hs'])]; rfl
      rw [e] at h
      cases i with
      | zero => exact ⟨[], x, L, rfl, rfl, hs'⟩
      | succ i =>
        obtain ⟨A, y, B, rfl, h1, h2⟩ := split_at L i (by omega)
        exact ⟨x :: A, y, B, rfl, by rw [e, h1], h2⟩
theorem waits_at {A B : List Wri} {x : Wri} (h : x.syn = false) : (waits (A ++ x :: B))[uns A]? = some (x.name, x.b.length) := by
  unfold waits uns
  rw [List.filter_append, List.filter_cons_of_pos (by simp [h]), List.map_append, List.map_cons, List.getElem?_append_right (by simp)]
  simp
theorem gone_nil {n : ByteArray} (i : Nat) : ∀ (m : Nat) (B : List Wri), i ≤ m → (∀ y ∈ B, y.name = n → y.syn = false) → content n (mu (gone i) m B) = []
  | _, [], _, _ => rfl
  | m, y :: B, h, hB => by
    by_cases hs : y.syn = true
    · rw [mu_syn hs, content_cons, gone_nil i m B h (fun z hz => hB z (List.mem_cons_of_mem _ hz))]
      rw [if_neg (fun e => by have := hB y (List.mem_cons_self ..) e; rw [this] at hs; cases hs)]
      rfl
    · rw [mu_wait hs, content_cons, gone_nil i (m + 1) B (by omega) (fun z hz => hB z (List.mem_cons_of_mem _ hz))]
      show (if y.name = n then gone i m y.b else []) ++ [] = []
      unfold gone
      rw [if_pos h]
      simp
/-- one write less, or a part of it -/
theorem cut_step {L A B : List Wri} {x : Wri} (hL : L = A ++ x :: B) (ho : Ord L) (hx : x.syn = false) (c : Nat → List UInt8 → List UInt8) (hc : ∀ j, j < uns A → ∀ b, c j b = b) (hc2 : ∀ j, uns A < j → ∀ b, c j b = [])
    (t : Nat) (ht : c (uns A) x.b = x.b.take t) (n : ByteArray) :
    content n (mu c 0 L) = if n = x.name then (content n (mu (gone (uns A + 1)) 0 L)).take ((content n (mu (gone (uns A + 1)) 0 L)).length - (x.b.length - t)) else content n (mu (gone (uns A + 1)) 0 L) := by
  have hB : ∀ y ∈ B, y.name = x.name → y.syn = false := fun y hy e => by
    rw [hL] at ho
    have h1 := (List.pairwise_append.1 ho).2.1
    rw [List.pairwise_cons] at h1
    rcases hs : y.syn with _ | _
    · rfl
    · have := h1.1 y hy e.symm hs; rw [hx] at this; cases this
  have e1 : mu c 0 L = A ++ { x with b := x.b.take t } :: mu c (uns A + 1) B := by
    rw [hL, mu_app, mu_same c 0 A (fun j hj b => by rw [Nat.zero_add]; exact hc j hj b), Nat.zero_add]
    rw [mu_wait (by simp [hx]), ht]
  have e2 : mu (gone (uns A + 1)) 0 L = A ++ x :: mu (gone (uns A + 1)) (uns A + 1) B := by
    rw [hL, mu_app, mu_same (gone (uns A + 1)) 0 A (fun j hj b => by unfold gone; rw [if_neg (by omega)]), Nat.zero_add]
    rw [show mu (gone (uns A + 1)) (uns A) (x :: B) = { x with b := gone (uns A + 1) (uns A) x.b } :: mu (gone (uns A + 1)) (uns A + 1) B from mu_wait (by simp [hx])]
    unfold gone
    rw [if_neg (by omega)]
  have e3 : mu c (uns A + 1) B = mu (gone (uns A + 1)) (uns A + 1) B := mu_content _ _ fun j hj b => by rw [hc2 _ (by omega)]; unfold gone; rw [if_pos (by omega)]
  rw [e1, e2, e3]
  generalize hR : mu (gone (uns A + 1)) (uns A + 1) B = R
  simp only [content_app, content_cons]
  by_cases cn : n = x.name
  · subst cn
    have hn : content x.name R = [] := by rw [← hR]; exact gone_nil _ _ _ (Nat.le_refl _) hB
    rw [if_pos rfl, if_pos rfl, if_pos rfl, hn, List.append_nil, List.append_nil, List.length_append]
    generalize content x.name A = a
    rw [List.take_append, show List.take (a.length + x.b.length - (x.b.length - t)) a = a from List.take_of_length_le (by omega)]
    congr 1
    rw [show a.length + x.b.length - (x.b.length - t) - a.length = x.b.length - (x.b.length - t) from by omega]
    by_cases h : t ≤ x.b.length
    · rw [show x.b.length - (x.b.length - t) = t from by omega]
    · rw [show List.take t x.b = x.b from List.take_of_length_le (by omega), show List.take (x.b.length - (x.b.length - t)) x.b = x.b from List.take_of_length_le (by omega)]
  · rw [if_neg (fun e : x.name = n => cn e.symm), if_neg cn, if_neg (fun e : x.name = n => cn e.symm)]
end Dk
end Go.Proofs.Ytheocdfccdpmbaa
